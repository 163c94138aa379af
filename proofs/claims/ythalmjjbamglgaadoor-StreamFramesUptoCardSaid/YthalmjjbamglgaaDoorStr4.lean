/-
  stream.Read by contract (a count above nought, no reset behind it).
  No condition of its own: the fact 'Sen' on the world.
-/
import Derived.Test.YthalmjjbamglgaaDoorStr3
namespace Go.Proofs.YthalmjjbamglgaaDoor
open Go.RowKit

theorem Sen.of_chg {B : Nat} {a : Nat → Addr} {w w' : World} {T : Nat → Prop} (hs : Sen B a w) (hc : Chg T w w') (hT : ∀ k, T k → B ≤ k) (hB : B ≤ w.heap.size) : Sen B a w' := hs.below (hc.below (fun k _ h => hT k h) hB)
theorem rdS_u {s : Gr} {n : Int} (h : rdC s n = 0) : (rdS s n).u = s.u - n ∧ (rdS s n).W = s.W := by
  unfold rdS
  rw [if_pos h]
  split <;> exact ⟨rfl, rfl⟩
section
variable {B : Nat} {a : Nat → Addr}
/-- The code, the grant, the stream behind a Read of nn bytes. -/
def srC (s : Sm) : Nat := if s.un = [] then (if s.li then 25 else if s.ct then 27 else 0) else 0
def srG (s : Sm) (nn : Nat) : Int := if s.un = [] then 0 else if s.li || s.ct then 0 else rdV s.gr (Nat.min nn s.un.length : Nat)
def srS (s : Sm) (nn : Nat) : Sm := if s.un = [] then (if s.li then { s with td := true } else s) else { s with un := s.un.drop (Nat.min nn s.un.length), gr := if s.li || s.ct then s.gr else rdS s.gr (Nat.min nn s.un.length : Nat) }
theorem Pso.wide {w : World} {T T' S1 S2 : Nat → Prop} {g g1 g2 g3 g4 : Nat} {s : Sm} (h : Pso w T S1 S2 g g1 g2 g3 g4 s) (h1 : ∀ k, S1 k → T' k) (h2 : ∀ k, S2 k → T' k) (h3 : T' g) (h4 : T' g3) (h5 : T' g4) : Pso w T' S1 S2 g g1 g2 g3 g4 s := by
  obtain ⟨n1, n2, n3, t0, t3, t4, l0, l3, l4⟩ := h.d3
  exact ⟨h.im, h.r1, h.r2, h.cd, h.rc, fun k hk => by have := h.d1 k hk; exact ⟨this.1, this.2.1, this.2.2.1, this.2.2.2.1, h1 k hk, this.2.2.2.2.2⟩, fun k hk => by have := h.d2 k hk; exact ⟨this.1, this.2.1, this.2.2.1, h2 k hk, this.2.2.2.2⟩, ⟨n1, n2, n3, h3, h4, h5, l0, l3, l4⟩, h.ok⟩
theorem Pso.ring2' {w w' : World} {T S1 S2 : Nat → Prop} {g g1 g2 g3 g4 : Nat} {s : Sm} {un' : List Int} (h : Pso w T S1 S2 g g1 g2 g3 g4 s) (hr : Rgo w' S2 g2 s.win un') (hc : Chg (fun k => S2 k ∨ k = g4) w w') (gr' : Gr) (hg : Rc w' (some ⟨g4, 0, none⟩) gr') (hW : gr'.W = s.gr.W) (ok : ({ s with un := un', gr := gr' } : Sm).Ok) :
    Pso w' T S1 S2 g g1 g2 g3 g4 { s with un := un', gr := gr' } := by
  have h' : Pso w (fun k => T k ∨ w.heap.size ≤ k) S1 S2 g g1 g2 g3 g4 s := h.wide (fun k hk => .inl (h.d1 k hk).2.2.2.2.1) (fun k hk => .inl (h.d2 k hk).2.2.2.1) (.inl h.d3.2.2.2.1) (.inl h.d3.2.2.2.2.1) (.inl h.d3.2.2.2.2.2.1)
  exact (h'.ring2 (fun k hk => .inr hk) hr hc (fun k hk => .inl hk) gr' hg hW ok).wide (fun k hk => (h.d1 k hk).2.2.2.2.1) (fun k hk => (h.d2 k hk).2.2.2.1) h.d3.2.2.2.1 h.d3.2.2.2.2.1 h.d3.2.2.2.2.2.1
theorem Pso.ring1' {w w' : World} {T S1 S2 : Nat → Prop} {g g1 g2 g3 g4 : Nat} {s : Sm} {sg' : List Int} (h : Pso w T S1 S2 g g1 g2 g3 g4 s) (hr : Rgo w' S1 g1 s.stage sg') (hc : Chg S1 w w') : Pso w' T S1 S2 g g1 g2 g3 g4 { s with sg := sg' } := by
  have h' : Pso w (fun k => T k ∨ w.heap.size ≤ k) S1 S2 g g1 g2 g3 g4 s := h.wide (fun k hk => .inl (h.d1 k hk).2.2.2.2.1) (fun k hk => .inl (h.d2 k hk).2.2.2.1) (.inl h.d3.2.2.2.1) (.inl h.d3.2.2.2.2.1) (.inl h.d3.2.2.2.2.2.1)
  exact (h'.ring1 (fun k hk => .inr hk) hr hc (fun k hk => .inl hk)).wide (fun k hk => (h.d1 k hk).2.2.2.2.1) (fun k hk => (h.d2 k hk).2.2.2.1) h.d3.2.2.2.1 h.d3.2.2.2.2.1 h.d3.2.2.2.2.2.1
set_option maxRecDepth 100000 in
set_option maxHeartbeats 2000000 in
theorem sread_any (w : World) (hs : Sen B a w) (hB : B ≤ w.heap.size) {T : Nat → Prop} {g : Nat} {s : Sm} (h : Pst w T g s) (hTB : ∀ k, T k → B ≤ k) (hr : s.rs = false) (nn : Nat) (hn : 0 < nn) :
    Calls Tryd.prog 25 #[.pointer (some ⟨g, 0, none⟩), .int .i64 (nn : Int)] w fun e w' => ∃ v, e = .returned (.tuple #[v, .int .u32 (srG s nn), errv a (srC s)]) ∧ Ob w' w.heap.size 5 v (Nat.min nn s.un.length) (u8s (s.un.take (Nat.min nn s.un.length))) ∧ Pst w' T g (srS s nn) ∧ Chg T w w' := by
  have H := Lib.hid h
  have HS := Lib.hid hs
  have HTB := Lib.hid (And.intro hTB hB)
  obtain ⟨S1, S2, g1, g2, g3, g4, hp⟩ := h
  have c9 : w.cell? ⟨g, 9, none⟩ = some (.pointer (some ⟨g2, 0, none⟩)) := hp.im.at_ 9 _ rfl
  have c13 : w.cell? ⟨g, 13, none⟩ = some (.bool s.rs) := hp.im.at_ 13 _ rfl
  rw [hr] at c13
  have HP := Lib.hid hp
  have hn0 : ¬ (nn : Int) < 0 := by omega
  have hn1 : ¬ (nn : Int) = 0 := by omega
  have HF := Lib.hid hr
  obtain ⟨k, hk⟩ : ∃ k, Nat.min nn s.un.length = k := ⟨_, rfl⟩
  obtain ⟨k1, k2, k3⟩ := nat_min hk.symm
  have HK := Lib.hid hk
  rw [hk]
  clear hs hTB hB hp hr hk
  go_enter Tryd.func25, Tryd.ntmps25
  go_wp2_with fail
  refine (pop_any w HP.out.r2 (fun k hk => (HP.out.d2 k hk).2.2.2.2) nn).mono ?_
  rintro e w1 ⟨v, rfl, j1, j2, j3⟩
  rw [HK.out] at j1 j2
  obtain ⟨A, c, rfl, hkc, _⟩ := j1.slice
  have hp1 := HP.out.ring2' j2 (j3.more fun k _ h => .inl h) s.gr (HP.out.rc.chg j3 fun b ⟨q, hq, hb⟩ h => by cases hq; subst hb; exact (HP.out.d2 _ h).2.2.1 rfl) rfl
  have J1 := Lib.hid j1
  have J2 := Lib.hid j2
  have J3 := Lib.hid j3
  have HSn : Hid (Sen B a w1) := HS.out.of_chg j3 (fun k h => HTB.out.1 k (HP.out.d2 k h).2.2.2.1) HTB.out.2
  have HC1 : Hid (Chg T w w1) := j3.more fun k _ h => (HP.out.d2 k h).2.2.2.1
  have him : Is w1 g 129 (smC s g1 g2 g3 g4) := HP.out.im.chg j3 fun h => (HP.out.d2 g h).1 rfl
  have HIm := Lib.hid him
  have d10 : w1.cell? ⟨g, 10, none⟩ = some (.bool s.li) := him.at_ 10 _ rfl
  have d14 : w1.cell? ⟨g, 14, none⟩ = some (.bool s.ct) := him.at_ 14 _ rfl
  have d12 : w1.cell? ⟨g, 12, none⟩ = some (.pointer (some ⟨g4, 0, none⟩)) := him.at_ 12 _ rfl
  have HRc : Hid (Rc w1 (some ⟨g4, 0, none⟩) s.gr) := HP.out.rc.chg j3 fun b ⟨q, hq, hb⟩ h => by cases hq; subst hb; exact (HP.out.d2 _ h).2.2.1 rfl
  have HP1 := Lib.hid hp1
  clear j1 j2 j3 him hp1
  by_cases hk0 : k = 0
  · have hun : s.un = [] := by
      apply List.eq_nil_of_length_eq_zero
      omega
    subst hk0
    have HUn := Lib.hid hun
    have hok : ({ s with un := s.un.drop 0, gr := s.gr } : Sm).Ok := HP.out.ok
    have hp1 : Pso w1 T S1 S2 g g1 g2 g3 g4 s := HP1.out hok
    have HP2 := Lib.hid hp1
    have eG : srG s nn = 0 := by unfold srG; rw [if_pos hun]
    have eO : Ob w1 w.heap.size 5 (.slice none 0 0) 0 (u8s (s.un.take 0)) := by rw [List.take_zero]; exact ob_nil _ _ _ _
    have HE := Lib.hid (And.intro eG eO)
    clear hok hp1 HP1 eG eO
    cases hli : s.li with
    | true =>
      rw [hli] at d10
      have eC : srC s = 25 := by unfold srC; rw [if_pos hun, if_pos hli]
      have eS : srS s nn = { s with td := true } := by unfold srS; rw [if_pos hun, if_pos hli]
      have HE2 := Lib.hid (And.intro eC eS)
      have f11 : w1.frozen? ⟨g, 11, none⟩ = false := HIm.out.frozen 11
      have d11 : w1.cell? ⟨g, 11, none⟩ = some (.bool s.td) := HIm.out.at_ 11 _ rfl
      have hc : Chg (fun k => k = g) w1 (w1.setCell ⟨g, 11, none⟩ (.bool true)) := (Chg.refl (fun k => k = g) w1).setCell (p := ⟨g, 11, none⟩) (fun _ => rfl) _
      have HS2 : Hid (Sen B a (w1.setCell ⟨g, 11, none⟩ (.bool true))) := HSn.out.of_chg (T := T) (hc.more fun k _ e => by rw [e]; exact HP.out.d3.2.2.2.1) HTB.out.1 (Nat.le_trans HTB.out.2 HC1.out.size)
      have HC2 := Lib.hid hc
      have h25' : ∀ Q, ((w1.setCell ⟨g, 11, none⟩ (.bool true)).drewN Q).cell? ⟨6, 0, none⟩ = some (.iface 200 (.pointer (some (a 25)))) := fun Q => HS2.out.cell 25 (by decide) (by decide)
      have h25 : (w1.setCell ⟨g, 11, none⟩ (.bool true)).cell? ⟨6, 0, none⟩ = some (.iface 200 (.pointer (some (a 25)))) := HS2.out.cell 25 (by decide) (by decide)
      clear hli hun eC eS hc
      go_wp2_with fail
      go_quiet (fail)
      go_wp2
      go_ret3
      refine ⟨_, by rw [HE.out.1, HE2.out.1]; rfl, HE.out.2.chg ((HC2.out.drewN _)) (fun k hk => by simp [obk] at hk), ?_, (HC1.out.then HC2.out fun k _ e => by rw [e]; exact HP.out.d3.2.2.2.1).drewN _⟩
      rw [HE2.out.2]
      exact ⟨S1, S2, g1, g2, g3, g4, (HP2.out.set 11 (.bool true) { s with td := true } rfl rfl rfl rfl rfl rfl ⟨HP2.out.ok.id1, HP2.out.ok.id2, HP2.out.ok.f1, HP2.out.ok.f2, HP2.out.ok.g2, HP2.out.ok.cr, HP2.out.ok.gr, HP2.out.ok.W, HP2.out.ok.un⟩).keep ((Chg.refl none_ _).drewN _)⟩
    | false =>
      rw [hli] at d10
      have eS : srS s nn = s := by unfold srS; rw [if_pos hun, if_neg (by rw [hli]; decide)]
      cases hct : s.ct with
      | true =>
        rw [hct] at d14
        have eC : srC s = 27 := by unfold srC; rw [if_pos hun, if_neg (by rw [hli]; decide), if_pos hct]
        have HE2 := Lib.hid (And.intro eC eS)
        have h27 : w1.cell? ⟨7, 0, none⟩ = some (.iface 200 (.pointer (some (a 27)))) := HSn.out.cell 27 (by decide) (by decide)
        have h27' : ∀ Q, (w1.drewN Q).cell? ⟨7, 0, none⟩ = some (.iface 200 (.pointer (some (a 27)))) := fun Q => HSn.out.cell 27 (by decide) (by decide)
        clear hli hct hun eC eS
        go_wp2_with fail
        go_quiet (fail)
        go_wp2
        go_ret3
        refine ⟨_, by rw [HE.out.1, HE2.out.1]; rfl, HE.out.2.chg ((Chg.refl none_ w1).drewN _) (fun k hk => by simp [obk] at hk), ?_, HC1.out.drewN _⟩
        rw [HE2.out.2]
        exact ⟨S1, S2, g1, g2, g3, g4, HP2.out.keep ((Chg.refl none_ _).drewN _)⟩
      | false =>
        rw [hct] at d14
        have eC : srC s = 0 := by unfold srC; rw [if_pos hun, if_neg (by rw [hli]; decide), if_neg (by rw [hct]; decide)]
        have HE2 := Lib.hid (And.intro eC eS)
        clear hli hct hun eC eS
        go_wp2
        go_ret3
        refine ⟨_, by rw [HE.out.1, HE2.out.1]; rfl, HE.out.2, ?_, HC1.out⟩
        rw [HE2.out.2]
        exact ⟨S1, S2, g1, g2, g3, g4, HP2.out⟩
  · have hkz : (0 : Int) < (k : Int) := by omega
    have hune : s.un ≠ [] := fun e => by rw [e] at k2; simp at k2; omega
    have eC : srC s = 0 := by unfold srC; rw [if_neg hune]
    have HE := Lib.hid (And.intro eC hune)
    clear eC hune
    cases hlc : (s.li || s.ct) with
    | true =>
      have eG : srG s nn = 0 := by unfold srG; rw [if_neg HE.out.2, hlc]; rfl
      have eS : srS s nn = { s with un := s.un.drop k, gr := s.gr } := by unfold srS; rw [if_neg HE.out.2, hlc, HK.out]; rfl
      have hok : ({ s with un := s.un.drop k, gr := s.gr } : Sm).Ok := ⟨HP.out.ok.id1, HP.out.ok.id2, HP.out.ok.f1, HP.out.ok.f2, HP.out.ok.g2, HP.out.ok.cr, HP.out.ok.gr, HP.out.ok.W, fun h1 h2 _ => by
        have h1' : s.li = false := h1
        have h2' : s.ct = false := h2
        rw [h1', h2'] at hlc
        cases hlc⟩
      have HP2 := Lib.hid (HP1.out hok)
      have HE2 := Lib.hid (And.intro eG eS)
      clear eG eS hok HP1
      cases hli : s.li with
      | true =>
        rw [hli] at d10
        clear hlc hli
        go_wp2
        go_ret3
        refine ⟨_, by rw [HE.out.1, HE2.out.1]; rfl, J1.out, ?_, HC1.out⟩
        rw [HE2.out.2]
        exact ⟨S1, S2, g1, g2, g3, g4, HP2.out⟩
      | false =>
        rw [hli] at d10
        have hct : s.ct = true := by rw [hli] at hlc; simpa using hlc
        rw [hct] at d14
        clear hlc hli hct
        go_wp2
        go_ret3
        refine ⟨_, by rw [HE.out.1, HE2.out.1]; rfl, J1.out, ?_, HC1.out⟩
        rw [HE2.out.2]
        exact ⟨S1, S2, g1, g2, g3, g4, HP2.out⟩
    | false =>
      have hli : s.li = false := by cases h1 : s.li <;> simp_all
      have hct : s.ct = false := by cases h1 : s.ct <;> simp_all
      rw [hli] at d10
      rw [hct] at d14
      have hu := HP.out.ok.un hli hct HF.out
      have hW : s.gr.W ≠ 0 := by have := HP.out.ok.gr.W1; omega
      have hC : rdC s.gr k = 0 := by unfold rdC; rw [if_neg hW, if_neg (by omega), if_neg (by omega)]
      have eG : srG s nn = rdV s.gr k := by unfold srG; rw [if_neg HE.out.2, hlc, HK.out]; rfl
      have eS : srS s nn = { s with un := s.un.drop k, gr := rdS s.gr k } := by unfold srS; rw [if_neg HE.out.2, hlc, HK.out]; rfl
      have hok : ({ s with un := s.un.drop k, gr := rdS s.gr k } : Sm).Ok := ⟨HP.out.ok.id1, HP.out.ok.id2, HP.out.ok.f1, HP.out.ok.f2, HP.out.ok.g2, HP.out.ok.cr, rdS_ok HP.out.ok.gr k, by show s.cr.W = _; rw [(rdS_u hC).2]; exact HP.out.ok.W, fun _ _ _ => by
        show (rdS s.gr k).u = ((s.un.drop k).length : Int)
        rw [(rdS_u hC).1, List.length_drop]
        omega⟩
      have HOk := Lib.hid (And.intro hok (And.intro hC (rdS_u hC).2))
      have HE2 := Lib.hid (And.intro eG eS)
      have hk63 : (k : Int) ≤ 9223372036854775807 := by have := HP.out.ok.gr.sum; have := HP.out.ok.gr.l0; have := HP.out.ok.gr.o0; have := HP.out.ok.gr.W2; omega
      have hk64 : -9223372036854775808 ≤ (k : Int) := by omega
      clear hlc hli hct hu hW hC eG eS hok HP1
      go_wp2_with fail
      refine (read_any w1 HSn.out _ s.gr HRc.out k hk64 hk63).mono ?_
      rintro e w2 ⟨rfl, l1, l2⟩
      rw [HOk.out.2.1, show errv a 0 = Value.nilIface from rfl]
      have L1 := Lib.hid l1
      have L2 := Lib.hid l2
      clear l1 l2
      go_wp2
      go_ret3
      have ha : ∀ k, at_ (some ⟨g4, 0, none⟩) k → k = g4 := fun k ⟨q, hq, hb⟩ => by cases hq; exact hb
      refine ⟨_, by rw [HE.out.1, HE2.out.1]; rfl, J1.out.chg L2.out fun q hq h => by rw [ha q h] at hq; have := (J1.out.block _ hq).1; have := HP.out.d3.2.2.2.2.2.2.2.2; omega, ?_, HC1.out.then L2.out fun k _ h => by rw [ha k h]; exact HP.out.d3.2.2.2.2.2.1⟩
      rw [HE2.out.2]
      refine ⟨S1, S2, g1, g2, g3, g4, HP.out.ring2' (J2.out.chg L2.out fun k hk h => (HP.out.d2 k hk).2.2.1 (ha k h)) ((J3.out.more fun k _ h => .inl h).then L2.out fun k _ h => .inr (ha k h)) (rdS s.gr k) L1.out HOk.out.2.2 HOk.out.1⟩
end
end Go.Proofs.YthalmjjbamglgaaDoor
