/-
  The walk of culvertlaw08.GrantPair.
  No condition of its own: the fact 'Sen6' on the world; the arguments read as lists.
-/
import Derived.Test.YtohbjddhgdcggaaDoorGrPure6
import Derived.Deep.DeepCutAuto
import Derived.Deep.CutBlock
namespace Go.Proofs.YtohbjddhgdcggaaDoor
open Go.RowKit

/-- The sender's and the receiver's states fit. -/
structure Pr (W : Int) (cs : Cr) (rs : Gr) : Prop where
  co : cs.Ok
  ro : rs.Ok
  cW : cs.W = W
  rW : rs.W = W
  eq : cs.h = rs.l
/-- Both objects, and what changed. -/
structure Two (w wr : World) (gs gr : Nat) (cs : Cr) (rs : Gr) : Prop where
  s : Cd wr (some ⟨gs, 0, none⟩) cs
  r : Rc wr (some ⟨gr, 0, none⟩) rs
  ch : Chg none_ w wr
theorem Two.sp {w wr w' : World} {gs gr : Nat} {cs cs' : Cr} {rs : Gr} (h : Two w wr gs gr cs rs) (hne : gs ≠ gr) (hgs : w.heap.size ≤ gs) (o : Cd w' (some ⟨gs, 0, none⟩) cs') (k : Chg (at_ (some ⟨gs, 0, none⟩)) wr w') : Two w w' gs gr cs' rs :=
  ⟨o, h.r.chg k (off_at hne.symm), at_newC hgs rfl h.ch k⟩
theorem Two.rd {w wr w' : World} {gs gr : Nat} {cs : Cr} {rs rs' : Gr} (h : Two w wr gs gr cs rs) (hne : gs ≠ gr) (hgr : w.heap.size ≤ gr) (o : Rc w' (some ⟨gr, 0, none⟩) rs') (k : Chg (at_ (some ⟨gr, 0, none⟩)) wr w') : Two w w' gs gr cs rs' :=
  ⟨h.s.chg k (off_at hne), o, at_newC hgr rfl h.ch k⟩
theorem Pr.send {W : Int} {cs : Cr} {rs : Gr} (h : Pr W cs rs) {v : Int} (h0 : 0 ≤ v) (h1 : v ≤ cs.h) : Pr W (spS cs v) (arS rs v) ∧ spC cs v = 0 ∧ arC rs v = 0 := by
  obtain ⟨a1, a2⟩ := sp_in h.co h0 h1
  obtain ⟨b1, b2⟩ := ar_in h.ro h0 (by have := h.eq; omega)
  have e := h.eq
  have cW := h.cW
  have rW := h.rW
  exact ⟨⟨spS_ok h.co v, arS_ok h.ro v, by rw [a2]; exact cW, by rw [b2]; exact rW, by rw [a2, b2]; simp only; omega⟩, a1, b1⟩
theorem Pr.read {W : Int} {cs : Cr} {rs : Gr} (h : Pr W cs rs) {v : Int} (h0 : 0 ≤ v) (h1 : v ≤ rs.u) : Pr W (gaS cs (rdV rs v)) (rdS rs v) ∧ rdC rs v = 0 ∧ gaC cs (rdV rs v) = 0 ∧ 0 ≤ rdV rs v ∧ rdV rs v ≤ 4294967295 := by
  obtain ⟨r0, r1, r2, r3, r4, r5, r6⟩ := rd_in h.ro h0 h1
  have ok' := rdS_ok h.ro v
  have e := h.eq
  have cW := h.cW
  have rW := h.rW
  have hs := ok'.sum
  have hu := ok'.u0
  have ho := ok'.o0
  obtain ⟨g1, g2⟩ := ga_in h.co (d := rdV rs v) (by omega)
  exact ⟨⟨gaS_ok h.co _ r5, ok', by rw [g2]; exact cW, by rw [r3]; exact rW, by rw [g2, r4]; simp only; omega⟩, r0, g1, r5, by omega⟩

set_option maxRecDepth 100000 in
set_option maxHeartbeats 8000000 in
theorem grpair_walk {a : Nat → Addr} (w : World) (hs : Sen6 w.heap.size a w) (W : Int) (A A' : Option Addr) (n c n' c' : Nat) (zs os : List Int) (hz : zs.length = n) (ho : os.length = n') (hm : n ≤ 17592186044416) (hr : Rd w A n fun i => .int .i64 (zs.getD i 0)) (hr' : Rd w A' n' fun i => .int .i64 (os.getD i 0)) :
    Calls Tryd.prog 7 #[.int .i64 W, .slice A n c, .slice A' n' c'] w fun e w' => e = .returned (.bool true) ∧ Below w.heap.size w w' := by
  have hB : w.heap.size ≤ w.heap.size := Nat.le_refl _
  have HS := Lib.hid hs
  have HR := Lib.hid hr
  have HR' := Lib.hid hr'
  have HZ := Lib.hid (And.intro hz ho)
  clear hs hr hr' hz ho
  by_cases hW : W < 1 ∨ 2147483647 < W
  · have HW := Lib.hid hW
    clear hW
    have e2 : errv a 2 = .iface 87 (.pointer (some (a 2))) := rfl
    go_enter Tryd.func7, Tryd.ntmps7
    go_wp2_with fail
    refine (gfixed_any w HS.out hB).mono ?_
    rintro e w1 ⟨rfl, c1⟩
    go_wp2_with fail
    refine (crnew_no w1 (HS.out.below (c1.old hB)) W HW.out).mono ?_
    rintro e w2 ⟨rfl, d2⟩
    have c2 := c1.trans d2.chg
    clear c1 d2
    go_wp2_with fail
    refine (grnew_no w2 (HS.out.below (c2.old hB)) W HW.out).mono ?_
    rintro e w3 ⟨rfl, d3⟩
    have c3 := c2.trans d3.chg
    clear c2 d3
    rw [e2]
    go_wp2
    go_ret
    exact ⟨rfl, c3.old hB⟩
  · have W1 : 1 ≤ W := by omega
    have W2 : W ≤ 2147483647 := by omega
    clear hW
    go_enter Tryd.func7, Tryd.ntmps7
    go_wp2_with fail
    refine (gfixed_any w HS.out hB).mono ?_
    rintro e w1 ⟨rfl, c1⟩
    go_wp2_with fail
    refine (crnew_ok w1 W W1 W2).mono ?_
    rintro e w2 ⟨gs, rfl, hgs, o2, k2⟩
    have c2 := c1.trans k2
    have s1 := c1.size
    clear c1 k2
    go_wp2_with fail
    refine (grnew_ok w2 W W1 W2).mono ?_
    rintro e w3 ⟨gr, rfl, hgr, o3, k3⟩
    have HT : Hid (Two w w3 gs gr (Cr.new W) (Gr.new W)) := ⟨o2.keep k3, o3, c2.trans k3⟩
    have hne : gs ≠ gr := by have := o2.low; omega
    have hgs' : w.heap.size ≤ gs := by omega
    have hgr' : w.heap.size ≤ gr := by have := c2.size; omega
    have HP : Hid (Pr W (Cr.new W) (Gr.new W)) := ⟨Cr.new_ok W1 W2, Gr.new_ok W1 W2, rfl, rfl, rfl⟩
    clear o2 o3 k3 c2 hgs hgr s1
    go_wp2_with fail
    go_loopw [44] (fun xi wr => ∃ (k : Nat) (cs : Cr) (rs : Gr), k ≤ n ∧ xi = .int .i64 k ∧ Two w wr gs gr cs rs ∧ Hid (Pr W cs rs)) (fun xi _ => n - (intOf xi).toNat)
    case atStart => exact ⟨0, _, _, by omega, rfl, HT.out, HP⟩
    case round =>
      clear HT HP
      obtain ⟨k, cs, rs, hk, rfl, ht, HP⟩ := hrel
      have HT := Lib.hid ht
      clear ht
      have h0 := HP.out.co.h0
      have h1 : cs.h ≤ 2147483647 := by have := HP.out.co.h1; have := HP.out.co.W2; omega
      have u0 := HP.out.ro.u0
      have u1 : rs.u ≤ 2147483647 := by have := HP.out.ro.sum; have := HP.out.ro.l0; have := HP.out.ro.o0; have := HP.out.ro.W2; omega
      by_cases hkn : k < n
      · obtain ⟨ad, e, hc⟩ := HR.out.below (HT.out.ch.old hB) (fun ad hn e => HR.out.lt ad hn e) (by omega)
        subst e
        have hck : wr.cell? (ad.add k) = some (.int .i64 (zs.getD k 0)) := hc k hkn
        clear hc
        generalize zs.getD k 0 = z at hck
        obtain ⟨v, hv0, hv1, hvz⟩ : ∃ v : Int, 0 ≤ v ∧ v ≤ cs.h ∧ ((z < 0 ∧ v = 0) ∨ (0 ≤ z ∧ z ≤ cs.h ∧ v = z) ∨ (0 ≤ z ∧ cs.h < z ∧ v = cs.h)) := by
          by_cases h1 : z < 0
          · exact ⟨0, by omega, by omega, .inl ⟨h1, rfl⟩⟩
          · by_cases h2 : z ≤ cs.h
            · exact ⟨z, by omega, by omega, .inr (.inl ⟨by omega, h2, rfl⟩)⟩
            · exact ⟨cs.h, by omega, by omega, .inr (.inr ⟨by omega, by omega, rfl⟩)⟩
        have hw0 : IntKind.i64.wrap cs.h = cs.h := IntWalk.i64_in _ (by omega)
        obtain ⟨hp2, hsc, hac⟩ := HP.out.send hv0 hv1
        have HP2 := Lib.hid hp2
        have HSc := Lib.hid (show errv a (spC cs v) = .nilIface by rw [hsc]; rfl)
        have HAc := Lib.hid (show errv a (arC rs v) = .nilIface by rw [hac]; rfl)
        have eq2 := hp2.eq
        have hw1 : IntKind.i64.wrap (arS rs v).l = (arS rs v).l := IntWalk.i64_in _ (by have := hp2.ro.l0; have := hp2.ro.sum; have := hp2.ro.u0; have := hp2.ro.o0; have := hp2.ro.W2; omega)
        have HEq := Lib.hid eq2
        clear hp2 hsc hac eq2
        have k1 : Hid (∀ u : World, Two w u gs gr cs rs → Calls Tryd.prog 12 #[.pointer (some ⟨gs, 0, none⟩), .int .i64 v] u fun e w' => e = .returned .nilIface ∧ Two w w' gs gr (spS cs v) rs) := fun u hu =>
          (spend_c u (HS.out.below (hu.ch.old hB)) _ cs hu.s v _ _ HSc.out rfl).mono fun e w' h => ⟨h.1, hu.sp hne hgs' h.2.1 h.2.2⟩
        have k2 : Hid (∀ u : World, Two w u gs gr (spS cs v) rs → Calls Tryd.prog 21 #[.pointer (some ⟨gr, 0, none⟩), .int .i64 v] u fun e w' => e = .returned .nilIface ∧ Two w w' gs gr (spS cs v) (arS rs v)) := fun u hu =>
          (arrive_c u (HS.out.below (hu.ch.old hB)) _ rs hu.r v (by omega) (by omega) _ _ HAc.out rfl).mono fun e w' h => ⟨h.1, hu.rd hne hgr' h.2.1 h.2.2⟩
        have hlr : (spS cs v).h = (arS rs v).l := HEq.out
        have hw2 : IntKind.i64.wrap (spS cs v).h = (spS cs v).h := by rw [hlr]; exact hw1
        have v0 := HP2.out.ro.u0
        have v1 : (arS rs v).u ≤ 2147483647 := by have := HP2.out.ro.sum; have := HP2.out.ro.l0; have := HP2.out.ro.o0; have := HP2.out.ro.W2; omega
        rw [hlr] at hw2
        have k3 : Hid (∀ u : World, Two w u gs gr (spS cs v) (arS rs v) → Calls Tryd.prog 16 #[.pointer (some ⟨gs, 0, none⟩)] u fun e w' => e = .returned (.int .u32 (arS rs v).l) ∧ u = w') := fun u hu =>
          (crhave_any u _ _ hu.s).mono fun e w' h => ⟨by rw [h.1, HEq.out], h.2⟩
        have k4 : Hid (∀ u : World, Two w u gs gr (spS cs v) (arS rs v) → Calls Tryd.prog 26 #[.pointer (some ⟨gr, 0, none⟩)] u fun e w' => e = .returned (.int .i64 (arS rs v).l) ∧ u = w') := fun u hu => gleft_any u _ _ hu.r
        have HW1 := Lib.hid hw1
        clear hlr
        generalize spS cs v = cs2 at HP2 k1 k2 k3 k4
        generalize arS rs v = rs2 at HP2 k2 k3 k4 hw1 hw2 v0 v1 HW1
        clear HSc HAc HEq
        go_upto_region 10 with fail
        go_cut [12] (fun xv wx => xv = .int .i64 v ∧ wx = wr)
        case first =>
          rcases hvz with ⟨g1, rfl⟩ | ⟨g1, g2, rfl⟩ | ⟨g1, g2, rfl⟩
          all_goals
            go_wp2_with fail
            refine (crhave_any wr _ _ HT.out.s).mono ?_
            rintro e w' ⟨rfl, rfl⟩
            go_wp2_with fail
            go_meet
            exact ⟨rfl, rfl⟩
        case rest =>
          obtain ⟨rfl, rfl⟩ := hcut
          clear hvz hck
          go_wp2_with fail
          refine (k1.out _ HT.out).mono ?_
          rintro e w5 ⟨rfl, t5⟩
          go_wp2_with fail
          refine (k2.out w5 t5).mono ?_
          rintro e w6 ⟨rfl, t6⟩
          have HT6 := Lib.hid t6
          clear t5 t6 k1 k2 HT
          go_wp2_with fail
          refine (k3.out w6 HT6.out).mono ?_
          rintro e w' ⟨rfl, rfl⟩
          go_wp2_with fail
          refine (k4.out w6 HT6.out).mono ?_
          rintro e w' ⟨rfl, rfl⟩
          by_cases hkr : k < n'
          · have hkI : (k : Int) < (n' : Int) := by omega
            obtain ⟨ad', e', hc'⟩ := HR'.out.below (HT6.out.ch.old hB) (fun ad hn e => HR'.out.lt ad hn e) (show 0 < n' by omega)
            subst e'
            have yc : w6.cell? (ad'.add k) = some (.int .i64 (os.getD k 0)) := hc' k hkr
            clear hc'
            generalize os.getD k 0 = z' at yc
            obtain ⟨y, hy0, hy1, hyz⟩ : ∃ y : Int, 0 ≤ y ∧ y ≤ rs2.u ∧ ((z' < 0 ∧ y = 0) ∨ (0 ≤ z' ∧ z' ≤ rs2.u ∧ y = z') ∨ (0 ≤ z' ∧ rs2.u < z' ∧ y = rs2.u)) := by
              by_cases h1 : z' < 0
              · exact ⟨0, by omega, by omega, .inl ⟨h1, rfl⟩⟩
              · by_cases h2 : z' ≤ rs2.u
                · exact ⟨z', by omega, by omega, .inr (.inl ⟨by omega, h2, rfl⟩)⟩
                · exact ⟨rs2.u, by omega, by omega, .inr (.inr ⟨by omega, by omega, rfl⟩)⟩
            obtain ⟨hp3, hrc, hgc, d0, d1⟩ := HP2.out.read hy0 hy1
            have HP3 := Lib.hid hp3
            have HRc := Lib.hid (show errv a (rdC rs2 y) = .nilIface by rw [hrc]; rfl)
            have HGc := Lib.hid (show errv a (gaC cs2 (rdV rs2 y)) = .nilIface by rw [hgc]; rfl)
            have HEq3 := Lib.hid hp3.eq
            have hw5 : IntKind.i64.wrap (rdS rs2 y).l = (rdS rs2 y).l := IntWalk.i64_in _ (by have := hp3.ro.l0; have := hp3.ro.sum; have := hp3.ro.u0; have := hp3.ro.o0; have := hp3.ro.W2; omega)
            clear hp3 hrc hgc
            go_upto_region 14 with fail
            go_cut [13] (fun xv wx => xv = .int .i64 y ∧ Dr w6 wx)
            case first =>
              rcases hyz with ⟨g1, rfl⟩ | ⟨g1, g2, rfl⟩ | ⟨g1, g2, rfl⟩
              all_goals
                go_wp2_with fail
                go_quiet (first | (go_at_call 24; refine Calls.quiet_of_same ((gunread_any _ _ rs2 ?_).mono fun e w' h => ⟨h.1, h.2.symm⟩); exact HT6.out.r))
                go_wp2_with fail
                go_meet
                exact ⟨rfl, ⟨_, rfl⟩⟩
            case rest =>
              obtain ⟨rfl, d7⟩ := hcut
              have HT7 : Hid (Two w wc gs gr cs2 rs2) := ⟨HT6.out.s.dr d7, HT6.out.r.dr d7, HT6.out.ch.trans d7.chg⟩
              clear d7 hyz yc HT6 k3 k4
              go_wp2_with fail
              refine (read_c wc (HS.out.below (HT7.out.ch.old hB)) _ rs2 HT7.out.r y (by omega) (by omega) _ _ _ rfl HRc.out rfl).mono ?_
              rintro e w8 ⟨rfl, o8, q8⟩
              have HT8 := Lib.hid (HT7.out.rd hne hgr' o8 q8)
              clear o8 q8 HT7
              go_wp2_with fail
              refine (grant_c w8 (HS.out.below (HT8.out.ch.old hB)) _ cs2 HT8.out.s (rdV rs2 y) d0 d1 _ _ HGc.out rfl).mono ?_
              rintro e w9 ⟨rfl, o9, q9⟩
              have HT9 := Lib.hid (HT8.out.sp hne hgs' o9 q9)
              clear o9 q9 HT8
              go_wp2_with fail
              refine (crhave_any w9 _ _ HT9.out.s).mono ?_
              rintro e w' ⟨rfl, rfl⟩
              rw [HEq3.out]
              go_wp2_with fail
              refine (gleft_any w9 _ _ HT9.out.r).mono ?_
              rintro e w' ⟨rfl, rfl⟩
              go_wp2_with fail
              go_roundw
              case rel => exact ⟨k + 1, _, _, by omega, by go_num, HT9.out, HP3.out⟩
              case measure => simp [intOf]; omega
          · have hkI : (n' : Int) ≤ (k : Int) := by omega
            go_wp2_with fail
            go_roundw
            case rel => exact ⟨k + 1, _, _, by omega, by go_num, HT6.out, HP2.out⟩
            case measure => simp [intOf]; omega
      · obtain rfl : n = k := by omega
        obtain ⟨hp3, hrc, hgc, d0, d1⟩ := HP.out.read u0 (Int.le_refl rs.u)
        obtain ⟨_, r1, r2, _, r4, _, _⟩ := rd_in HP.out.ro u0 (Int.le_refl rs.u)
        have HRc := Lib.hid (show errv a (rdC rs rs.u) = .nilIface by rw [hrc]; rfl)
        have HGc := Lib.hid (show errv a (gaC cs (rdV rs rs.u)) = .nilIface by rw [hgc]; rfl)
        have HEq3 := Lib.hid hp3.eq
        have hpos : 0 < (rdS rs rs.u).l := by
          have q1 := hp3.ro.sum
          have q2 := hp3.ro.o1
          have q3 := thr_le hp3.ro.W1 hp3.ro.W2
          have q4 := thr_in hp3.ro.W1 hp3.ro.W2
          have q5 := hp3.ro.W1
          omega
        have hw5 : IntKind.i64.wrap (rdS rs rs.u).l = (rdS rs rs.u).l := IntWalk.i64_in _ (by have := hp3.ro.l0; have := hp3.ro.sum; have := hp3.ro.u0; have := hp3.ro.o0; have := hp3.ro.W2; omega)
        clear hp3 hrc hgc r1 r2 r4
        go_wp2_with fail
        refine (gunread_any wr _ _ HT.out.r).mono ?_
        rintro e w' ⟨rfl, rfl⟩
        go_wp2_with fail
        refine (read_c wr (HS.out.below (HT.out.ch.old hB)) _ rs HT.out.r rs.u (by omega) (by omega) _ _ _ rfl HRc.out rfl).mono ?_
        rintro e w8 ⟨rfl, o8, q8⟩
        have HT8 := Lib.hid (HT.out.rd hne hgr' o8 q8)
        clear o8 q8 HT
        go_wp2_with fail
        refine (grant_c w8 (HS.out.below (HT8.out.ch.old hB)) _ cs HT8.out.s (rdV rs rs.u) d0 d1 _ _ HGc.out rfl).mono ?_
        rintro e w9 ⟨rfl, o9, q9⟩
        have HT9 := Lib.hid (HT8.out.sp hne hgs' o9 q9)
        clear o9 q9 HT8
        have hv := Lib.hid (crhave_any w9 _ _ HT9.out.s)
        rw [HEq3.out] at hv
        go_wp2_with fail
        refine hv.out.mono ?_
        rintro e w' ⟨rfl, rfl⟩
        go_wp2_with fail
        refine hv.out.mono ?_
        rintro e w' ⟨rfl, rfl⟩
        go_wp2_with fail
        refine (gleft_any w9 _ _ HT9.out.r).mono ?_
        rintro e w' ⟨rfl, rfl⟩
        go_wp2
        go_ret
        exact ⟨rfl, HT9.out.ch.old hB⟩
end Go.Proofs.YtohbjddhgdcggaaDoor
