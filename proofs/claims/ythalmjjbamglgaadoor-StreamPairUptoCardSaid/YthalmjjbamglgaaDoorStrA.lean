/-
  stream.Accept, Close and Grant by contracts.
  No condition of its own: the facts 'Sen' and 'Tab' on the world.
-/
import Derived.Test.YthalmjjbamglgaaDoorStrF
namespace Go.Proofs.YthalmjjbamglgaaDoor
open Go.RowKit

section
variable {B : Nat} {a : Nat → Addr}
/-- An event of acceptance. -/
theorem happen_acc (w : World) (hs : Sen B a w) (ht : Tab B w) {T : Nat → Prop} {g : Nat} {s : Sm} (h : Pst w T g s) (h1 : s.acc = false) (h2 : s.rs = false) :
    Calls Tryd.prog 68 #[.pointer (some ⟨g, 0, none⟩), .int .i64 (if s.mine then 3 else 2)] w fun e w' => (∃ r, e = .returned r) ∧ Pst w' T g { s with acc := true } ∧ Chg T w w' := by
  obtain ⟨S1, S2, g1, g2, g3, g4, hp⟩ := h
  have hok : ({ s with acc := true } : Sm).Ok := ⟨hp.ok.id1, hp.ok.id2, hp.ok.f1, hp.ok.f2, hp.ok.g2, hp.ok.cr, hp.ok.gr, hp.ok.W, hp.ok.un⟩
  have hst : s.st = stOf s.mine false s.lo s.li false := by unfold Sm.st; rw [h1, h2]
  have hst' : ({ s with acc := true } : Sm).st = stOf s.mine true s.lo s.li false := by unfold Sm.st; rw [h2]
  by_cases hm : s.mine = true
  · skip
    have hn : ∀ lo li : Bool, nst (stOf true false lo li false) 3 = stOf true true lo li false ∧ ncd (stOf true false lo li false) 3 = 0 := by
      intro lo li
      cases lo <;> cases li <;> decide
    rw [if_pos hm]
    refine (hap_ack w hs ht hp.im rfl (x := s.st) (y := ({ s with acc := true } : Sm).st) rfl (by rw [hst, hst', hm, (hn _ _).1]) (by rw [hst, hm, (hn _ _).2])).mono ?_
    rintro e w' ⟨he, hi, hc⟩
    exact ⟨he, ⟨S1, S2, g1, g2, g3, g4, hp.obj { s with acc := true } hc hi rfl rfl rfl rfl rfl hok⟩, hc.more fun k hk e => by rw [e]; exact hp.d3.2.2.2.1⟩
  · have hm' : s.mine = false := by simpa using hm
    have hn : ∀ lo li : Bool, nst (stOf false false lo li false) 2 = stOf false true lo li false ∧ ncd (stOf false false lo li false) 2 = 0 := by
      intro lo li
      cases lo <;> cases li <;> decide
    rw [if_neg hm]
    refine (hap_accept w hs ht hp.im rfl (x := s.st) (y := ({ s with acc := true } : Sm).st) rfl (by rw [hst, hst', hm', (hn _ _).1]) (by rw [hst, hm', (hn _ _).2])).mono ?_
    rintro e w' ⟨he, hi, hc⟩
    exact ⟨he, ⟨S1, S2, g1, g2, g3, g4, hp.obj { s with acc := true } hc hi rfl rfl rfl rfl rfl hok⟩, hc.more fun k hk e => by rw [e]; exact hp.d3.2.2.2.1⟩

def acC (s : Sm) : Nat := if barC s = 0 then (if s.acc then 23 else 0) else barC s
def acS (s : Sm) : Sm := if acC s = 0 then { s with acc := true } else s
set_option maxRecDepth 100000 in
theorem accept_any (w : World) (hs : Sen B a w) (ht : Tab B w) {T : Nat → Prop} {g : Nat} {s : Sm} (h : Pst w T g s) :
    Calls Tryd.prog 21 #[.pointer (some ⟨g, 0, none⟩)] w fun e w' => e = .returned (errv a (acC s)) ∧ Pst w' T g (acS s) ∧ Chg T w w' := by
  have H := Lib.hid h
  have HS := Lib.hid hs
  have HTb := Lib.hid ht
  obtain ⟨S1, S2, g1, g2, g3, g4, hp⟩ := h
  have c1 : w.cell? ⟨g, 1, none⟩ = some (.bool s.mine) := hp.im.at_ 1 _ rfl
  have c2 : w.cell? ⟨g, 2, none⟩ = some (.bool s.acc) := hp.im.at_ 2 _ rfl
  have h23 : w.cell? ⟨1, 0, none⟩ = some (.iface 200 (.pointer (some (a 23)))) := hs.cell 23 (by decide) (by decide)
  clear hs ht hp
  rcases barC_cases s with ⟨hb, hr, hct⟩ | ⟨hb, hr⟩ | ⟨hb, hr, hct⟩
  · have HB := Lib.hid hb
    cases hac : s.acc with
    | true =>
      have hc : acC s = 23 := by unfold acC; rw [if_pos hb, if_pos hac]
      have e1 : acS s = s := by unfold acS; rw [hc, if_neg (by decide)]
      rw [hc, e1, show errv a 23 = .iface 200 (.pointer (some (a 23))) from rfl]
      rw [hac] at c2
      clear hb hr hct hac hc e1
      go_enter Tryd.func21, Tryd.ntmps21
      go_wp2_with fail
      refine (bars_any w HS.out H.out).mono ?_
      rintro e w' ⟨rfl, rfl⟩
      rw [HB.out, show errv a 0 = Value.nilIface from rfl]
      go_wp2_with fail
      go_ret
      exact ⟨rfl, H.out, Chg.refl T w⟩
    | false =>
      have hc : acC s = 0 := by unfold acC; rw [if_pos hb, if_neg (by rw [hac]; decide)]
      have e1 : acS s = { s with acc := true } := by unfold acS; rw [hc, if_pos rfl]
      rw [hc, e1, show errv a 0 = Value.nilIface from rfl]
      rw [hac] at c2
      have hh := happen_acc w HS.out HTb.out H.out hac hr
      have HH := Lib.hid hh
      clear hb hr hct hac hc e1 hh
      cases hm : s.mine with
      | true =>
        rw [hm] at c1 HH
        rw [if_pos rfl] at HH
        clear hm
        go_enter Tryd.func21, Tryd.ntmps21
        go_wp2_with fail
        refine (bars_any w HS.out H.out).mono ?_
        rintro e w' ⟨rfl, rfl⟩
        rw [HB.out, show errv a 0 = Value.nilIface from rfl]
        go_wp2_with fail
        refine HH.out.mono ?_
        rintro e w1 ⟨⟨r, rfl⟩, j1, j2⟩
        have J := Lib.hid (And.intro j1 j2)
        clear j1 j2
        go_wp2
        go_ret
        exact ⟨rfl, J.out⟩
      | false =>
        rw [hm] at c1 HH
        rw [if_neg (by decide)] at HH
        clear hm
        go_enter Tryd.func21, Tryd.ntmps21
        go_wp2_with fail
        refine (bars_any w HS.out H.out).mono ?_
        rintro e w' ⟨rfl, rfl⟩
        rw [HB.out, show errv a 0 = Value.nilIface from rfl]
        go_wp2_with fail
        refine HH.out.mono ?_
        rintro e w1 ⟨⟨r, rfl⟩, j1, j2⟩
        have J := Lib.hid (And.intro j1 j2)
        clear j1 j2
        go_wp2
        go_ret
        exact ⟨rfl, J.out⟩
  all_goals
    obtain ⟨b, hbc⟩ : ∃ b, barC s = b + 1 := by first | exact ⟨25, hb⟩ | exact ⟨26, hb⟩
    have hc : acC s = b + 1 := by unfold acC; rw [hbc, if_neg (by omega)]
    have e1 : acS s = s := by unfold acS; rw [hc, if_neg (by omega)]
    rw [hc, e1, show errv a (b + 1) = .iface 200 (.pointer (some (a (b + 1)))) from rfl]
    have HB := Lib.hid hbc
    clear hb hr hc e1 hbc
    go_enter Tryd.func21, Tryd.ntmps21
    go_wp2_with fail
    refine (bars_any w HS.out H.out).mono ?_
    rintro e w' ⟨rfl, rfl⟩
    rw [HB.out, show errv a (b + 1) = .iface 200 (.pointer (some (a (b + 1)))) from rfl]
    go_wp2
    go_ret
    exact ⟨rfl, H.out, Chg.refl _ _⟩

def clS (s : Sm) : Sm := if wrC s = 0 then { s with cl := true } else s
set_option maxRecDepth 100000 in
theorem close_any (w : World) (hs : Sen B a w) {T : Nat → Prop} {g : Nat} {s : Sm} (h : Pst w T g s) :
    Calls Tryd.prog 24 #[.pointer (some ⟨g, 0, none⟩)] w fun e w' => e = .returned (errv a (wrC s)) ∧ Pst w' T g (clS s) ∧ Chg T w w' := by
  have H := Lib.hid h
  have HS := Lib.hid hs
  obtain ⟨S1, S2, g1, g2, g3, g4, hp⟩ := h
  have c6 : w.cell? ⟨g, 6, none⟩ = some (.bool s.cl) := hp.im.at_ 6 _ rfl
  have f6 : w.frozen? ⟨g, 6, none⟩ = false := hp.im.frozen 6
  have h24 : w.cell? ⟨2, 0, none⟩ = some (.iface 200 (.pointer (some (a 24)))) := hs.cell 24 (by decide) (by decide)
  have HP := Lib.hid hp
  clear hs hp
  rcases barC_cases s with ⟨hb, hr, hct⟩ | ⟨hb, hr⟩ | ⟨hb, hr, hct⟩
  · have HB := Lib.hid hb
    cases hac : s.cl with
    | true =>
      have hc : wrC s = 24 := by unfold wrC; rw [if_pos hb, if_pos hac]
      have e1 : clS s = s := by unfold clS; rw [hc, if_neg (by decide)]
      rw [hc, e1, show errv a 24 = .iface 200 (.pointer (some (a 24))) from rfl]
      rw [hac] at c6
      clear hb hr hct hac hc e1
      go_enter Tryd.func24, Tryd.ntmps24
      go_wp2_with fail
      refine (bars_any w HS.out H.out).mono ?_
      rintro e w' ⟨rfl, rfl⟩
      rw [HB.out, show errv a 0 = Value.nilIface from rfl]
      go_wp2_with fail
      go_ret
      exact ⟨rfl, H.out, Chg.refl T w⟩
    | false =>
      have hc : wrC s = 0 := by unfold wrC; rw [if_pos hb, if_neg (by rw [hac]; decide)]
      have e1 : clS s = { s with cl := true } := by unfold clS; rw [hc, if_pos rfl]
      rw [hc, e1, show errv a 0 = Value.nilIface from rfl]
      rw [hac] at c6
      clear hb hr hct hac hc e1
      go_enter Tryd.func24, Tryd.ntmps24
      go_wp2_with fail
      refine (bars_any w HS.out H.out).mono ?_
      rintro e w' ⟨rfl, rfl⟩
      rw [HB.out, show errv a 0 = Value.nilIface from rfl]
      go_wp2_with fail
      go_ret
      exact ⟨rfl, ⟨S1, S2, g1, g2, g3, g4, HP.out.set 6 (.bool true) { s with cl := true } rfl rfl rfl rfl rfl rfl ⟨HP.out.ok.id1, HP.out.ok.id2, HP.out.ok.f1, HP.out.ok.f2, HP.out.ok.g2, HP.out.ok.cr, HP.out.ok.gr, HP.out.ok.W, HP.out.ok.un⟩⟩, ((Chg.refl (fun k => k = g) w).setCell (p := ⟨g, 6, none⟩) (fun _ => rfl) _).more fun k _ e => by rw [e]; exact HP.out.d3.2.2.2.1⟩
  all_goals
    obtain ⟨b, hbc⟩ : ∃ b, barC s = b + 1 := by first | exact ⟨25, hb⟩ | exact ⟨26, hb⟩
    have hc : wrC s = b + 1 := by unfold wrC; rw [hbc, if_neg (by omega)]
    have e1 : clS s = s := by unfold clS; rw [hc, if_neg (by omega)]
    rw [hc, e1, show errv a (b + 1) = .iface 200 (.pointer (some (a (b + 1)))) from rfl]
    have HB := Lib.hid hbc
    clear hb hr hc e1 hbc
    go_enter Tryd.func24, Tryd.ntmps24
    go_wp2_with fail
    refine (bars_any w HS.out H.out).mono ?_
    rintro e w' ⟨rfl, rfl⟩
    rw [HB.out, show errv a (b + 1) = .iface 200 (.pointer (some (a (b + 1)))) from rfl]
    go_wp2
    go_ret
    exact ⟨rfl, H.out, Chg.refl _ _⟩
def gnC (s : Sm) (d : Int) : Nat := if s.rs || s.ct || s.lo then 0 else gaC s.cr d
def gnL (s : Sm) (d : Int) : Sm := if s.lo then s else { s with cr := gaS s.cr d }
def gnS (s : Sm) (d : Int) (fin : Bool) : Sm := if s.rs || s.ct then s else if gnC s d = 0 then (if fin && !s.li then { gnL s d with li := true } else gnL s d) else s
theorem gnS_ok {s : Sm} (hr : s.rs = false) (hc : s.ct = false) {d : Int} (h0 : gnC s d = 0) (fin : Bool) : gnS s d fin = if (fin && !s.li) = true then { gnL s d with li := true } else gnL s d := by
  unfold gnS
  rw [if_neg (by rw [hr, hc]; decide), if_pos h0]
theorem gnS_no {s : Sm} {d : Int} (h0 : gnC s d ≠ 0) (fin : Bool) : gnS s d fin = s := by
  unfold gnS
  rw [if_neg h0]
  split <;> rfl
theorem gaS_W (s : Cr) (d : Int) : (gaS s d).W = s.W := by
  unfold gaS
  split <;> rfl
set_option maxRecDepth 100000 in
theorem sgrant_any (w : World) (hs : Sen B a w) (ht : Tab B w) (hB : B ≤ w.heap.size) {T : Nat → Prop} {g : Nat} {s : Sm} (h : Pst w T g s) (hTB : ∀ k, T k → B ≤ k) (d : Int) (d0 : 0 ≤ d) (d1 : d ≤ 4294967295) (fin : Bool) :
    Calls Tryd.prog 28 #[.pointer (some ⟨g, 0, none⟩), .int .u32 d, .bool fin] w fun e w' => e = .returned (errv a (gnC s d)) ∧ Pst w' T g (gnS s d fin) ∧ Chg T w w' := by
  have H := Lib.hid h
  have HS := Lib.hid hs
  have HTb := Lib.hid ht
  have HTB := Lib.hid (And.intro hTB hB)
  have HD := Lib.hid (And.intro d0 d1)
  obtain ⟨S1, S2, g1, g2, g3, g4, hp⟩ := h
  have c7 : w.cell? ⟨g, 7, none⟩ = some (.bool s.lo) := hp.im.at_ 7 _ rfl
  have c8 : w.cell? ⟨g, 8, none⟩ = some (.pointer (some ⟨g3, 0, none⟩)) := hp.im.at_ 8 _ rfl
  have c10 : w.cell? ⟨g, 10, none⟩ = some (.bool s.li) := hp.im.at_ 10 _ rfl
  have c13 : w.cell? ⟨g, 13, none⟩ = some (.bool s.rs) := hp.im.at_ 13 _ rfl
  have c14 : w.cell? ⟨g, 14, none⟩ = some (.bool s.ct) := hp.im.at_ 14 _ rfl
  have HP := Lib.hid hp
  clear hs ht hp hTB hB d0 d1
  by_cases hr : s.rs = true
  · have hc : gnC s d = 0 := by unfold gnC; rw [hr]; rfl
    have e1 : gnS s d fin = s := by unfold gnS; rw [hr]; rfl
    rw [hc, e1, show errv a 0 = Value.nilIface from rfl]
    rw [hr] at c13
    clear hr hc e1
    go_enter Tryd.func28, Tryd.ntmps28
    go_wp2
    go_ret
    exact ⟨rfl, H.out, Chg.refl _ _⟩
  · have hr' : s.rs = false := by simpa using hr
    rw [hr'] at c13
    by_cases hc : s.ct = true
    · have hc0 : gnC s d = 0 := by unfold gnC; rw [hr', hc]; rfl
      have e1 : gnS s d fin = s := by unfold gnS; rw [hr', hc]; rfl
      rw [hc0, e1, show errv a 0 = Value.nilIface from rfl]
      rw [hc] at c14
      clear hr hr' hc hc0 e1
      go_enter Tryd.func28, Tryd.ntmps28
      go_wp2
      go_ret
      exact ⟨rfl, H.out, Chg.refl _ _⟩
    · have hc' : s.ct = false := by simpa using hc
      rw [hc'] at c14
      have HFl := Lib.hid (And.intro hr' hc')
      clear hr hc hr' hc'
      by_cases hlo : s.lo = true
      · have hc0 : gnC s d = 0 := by unfold gnC; rw [hlo, HFl.out.1, HFl.out.2]; rfl
        have eL : gnL s d = s := by unfold gnL; rw [if_pos hlo]
        have HL := Lib.hid (And.intro hc0 eL)
        rw [hc0, show errv a 0 = Value.nilIface from rfl]
        rw [hlo] at c7
        by_cases hf : (fin && !s.li) = true
        · have e1 : gnS s d fin = { s with li := true } := by rw [gnS_ok HFl.out.1 HFl.out.2 HL.out.1, HL.out.2, if_pos hf]
          rw [e1]
          have hli : s.li = false := by revert hf; cases s.li <;> cases fin <;> decide
          have hfin : fin = true := by revert hf; cases s.li <;> cases fin <;> decide
          subst hfin
          have HH := Lib.hid (happen_in w HS.out HTb.out H.out hli HFl.out.1)
          rw [hli] at c10
          clear hf hlo hc0 eL e1 hli
          go_enter Tryd.func28, Tryd.ntmps28
          go_wp2_with fail
          refine HH.out.mono ?_
          rintro e w1 ⟨⟨r, rfl⟩, j1, j2⟩
          have J := Lib.hid (And.intro j1 j2)
          clear j1 j2
          go_wp2
          go_ret
          exact ⟨rfl, J.out⟩
        · have e1 : gnS s d fin = s := by rw [gnS_ok HFl.out.1 HFl.out.2 HL.out.1, HL.out.2, if_neg hf]
          rw [e1]
          clear hlo hc0 eL e1
          cases hli : s.li <;> cases fin <;> first
            | (exfalso; rw [hli] at hf; exact hf rfl)
            | (rw [hli] at c10
               clear hli hf
               go_enter Tryd.func28, Tryd.ntmps28
               go_wp2
               go_ret
               exact ⟨rfl, H.out, Chg.refl _ _⟩)
      · have hlo' : s.lo = false := by simpa using hlo
        rw [hlo'] at c7
        have hcg : gnC s d = gaC s.cr d := by unfold gnC; rw [hlo', HFl.out.1, HFl.out.2]; rfl
        have eL : gnL s d = { s with cr := gaS s.cr d } := by unfold gnL; rw [if_neg hlo]
        have hgr := grant_any w HS.out _ _ HP.out.cd d HD.out.1 HD.out.2
        have HG := Lib.hid hgr
        have HL := Lib.hid (And.intro hcg eL)
        clear hlo hlo' hgr eL
        have hcr : ∀ w1, Cd w1 (some ⟨g3, 0, none⟩) (gaS s.cr d) → Chg (at_ (some ⟨g3, 0, none⟩)) w w1 → Pso w1 T S1 S2 g g1 g2 g3 g4 { s with cr := gaS s.cr d } := fun w1 k1 k2 =>
          HP.out.credit (gaS s.cr d) k1 k2 ⟨HP.out.ok.id1, HP.out.ok.id2, HP.out.ok.f1, HP.out.ok.f2, HP.out.ok.g2, gaS_ok HP.out.ok.cr d HD.out.1, HP.out.ok.gr, (gaS_W _ _).trans HP.out.ok.W, HP.out.ok.un⟩
        have HCr := Lib.hid hcr
        have hat : ∀ w1, Chg (at_ (some ⟨g3, 0, none⟩)) w w1 → Chg T w w1 := fun w1 k => k.more fun q _ ⟨p, hp, hb⟩ => by cases hp; subst hb; exact HP.out.d3.2.2.2.2.1
        have HAt := Lib.hid hat
        clear hcr hat
        by_cases h0 : gaC s.cr d = 0
        · have hc0 : gnC s d = 0 := hcg.trans h0
          rw [hc0, show errv a 0 = Value.nilIface from rfl]
          have HZ := Lib.hid (And.intro hc0 h0)
          clear hcg h0 hc0
          by_cases hf : (fin && !s.li) = true
          · have e1 : gnS s d fin = { s with cr := gaS s.cr d, li := true } := by rw [gnS_ok HFl.out.1 HFl.out.2 HZ.out.1, HL.out.2, if_pos hf]
            rw [e1]
            have hli : s.li = false := by revert hf; cases s.li <;> cases fin <;> decide
            have hfin : fin = true := by revert hf; cases s.li <;> cases fin <;> decide
            subst hfin
            rw [hli] at c10
            have HLi := Lib.hid hli
            clear hf e1 hli
            go_enter Tryd.func28, Tryd.ntmps28
            go_wp2_with fail
            refine HG.out.mono ?_
            rintro e w1 ⟨rfl, k1, k2⟩
            rw [HZ.out.2, show errv a 0 = Value.nilIface from rfl]
            have HP1 := Lib.hid (HCr.out w1 k1 k2)
            have d10 : w1.cell? ⟨g, 10, none⟩ = some (.bool s.li) := HP1.out.im.at_ 10 _ rfl
            rw [HLi.out] at d10
            have HC1 := Lib.hid (HAt.out w1 k2)
            have hbl := HC1.out.below (fun k _ h => HTB.out.1 k h) HTB.out.2
            have HS1 := Lib.hid (HS.out.below hbl)
            have HT1 := Lib.hid (HTb.out.below hbl)
            clear k1 k2 hbl
            go_wp2_with fail
            refine (happen_in w1 HS1.out HT1.out (s := { s with cr := gaS s.cr d }) ⟨S1, S2, g1, g2, g3, g4, HP1.out⟩ HLi.out HFl.out.1).mono ?_
            rintro e w2 ⟨⟨r, rfl⟩, j1, j2⟩
            have J := Lib.hid (And.intro j1 j2)
            clear j1 j2
            go_wp2
            go_ret
            exact ⟨rfl, J.out.1, HC1.out.trans J.out.2⟩
          · have e1 : gnS s d fin = { s with cr := gaS s.cr d } := by rw [gnS_ok HFl.out.1 HFl.out.2 HZ.out.1, HL.out.2, if_neg hf]
            rw [e1]
            clear e1
            have HF := Lib.hid hf
            cases hli : s.li <;> cases fin <;> first
              | (exfalso; rw [hli] at hf; exact hf rfl)
              | (rw [hli] at c10
                 have HLi := Lib.hid hli
                 clear hf HF hli
                 go_enter Tryd.func28, Tryd.ntmps28
                 go_wp2_with fail
                 refine HG.out.mono ?_
                 rintro e w1 ⟨rfl, k1, k2⟩
                 rw [HZ.out.2, show errv a 0 = Value.nilIface from rfl]
                 have HP1 := Lib.hid (HCr.out w1 k1 k2)
                 have d10 : w1.cell? ⟨g, 10, none⟩ = some (.bool s.li) := HP1.out.im.at_ 10 _ rfl
                 rw [HLi.out] at d10
                 have HC1 := Lib.hid (HAt.out w1 k2)
                 clear k1 k2
                 go_wp2
                 go_ret
                 refine ⟨rfl, ?_, HC1.out⟩
                 have hpst : Pst w1 T g { s with cr := gaS s.cr d } := ⟨S1, S2, g1, g2, g3, g4, HP1.out⟩
                 first
                   | exact hpst
                   | (have e := HLi.out
                      cases s
                      simp only at e
                      subst e
                      exact hpst))
        · have hS : gaS s.cr d = s.cr := by unfold gaS; rw [if_neg h0]
          have e1 : gnS s d fin = s := gnS_no (by rw [hcg]; exact h0) fin
          obtain ⟨b, hbc⟩ : ∃ b, gaC s.cr d = b + 1 := ⟨gaC s.cr d - 1, by omega⟩
          rw [e1, hcg, hbc, show errv a (b + 1) = .iface 200 (.pointer (some (a (b + 1)))) from rfl]
          have HB := Lib.hid hbc
          have HSe := Lib.hid hS
          clear hcg h0 hS e1 hbc
          go_enter Tryd.func28, Tryd.ntmps28
          go_wp2_with fail
          refine HG.out.mono ?_
          rintro e w1 ⟨rfl, k1, k2⟩
          rw [HB.out, show errv a (b + 1) = .iface 200 (.pointer (some (a (b + 1)))) from rfl]
          have hp1 := HCr.out w1 k1 k2
          rw [HSe.out] at hp1
          have HP1 := Lib.hid hp1
          have HC1 := Lib.hid (HAt.out w1 k2)
          clear k1 k2 hp1
          go_wp2
          go_ret
          exact ⟨rfl, ⟨S1, S2, g1, g2, g3, g4, HP1.out⟩, HC1.out⟩
end
end Go.Proofs.YthalmjjbamglgaaDoor
