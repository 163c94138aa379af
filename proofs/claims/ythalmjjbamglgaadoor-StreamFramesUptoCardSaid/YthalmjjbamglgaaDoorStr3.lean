/-
  stream.Arrive, Read and Ready by contracts.
  No condition of its own: the facts 'Sen' and 'Tab' on the world.
-/
import Derived.Test.YthalmjjbamglgaaDoorStr2
namespace Go.Proofs.YthalmjjbamglgaaDoor
open Go.RowKit

section
variable {B : Nat} {a : Nat → Addr}
def avC (s : Sm) (n : Nat) : Nat := if s.rs || s.ct || s.li then 0 else if s.gr.l < (n : Int) then 16 else 0
def avS (s : Sm) (ys : List Int) (fin : Bool) : Sm := if s.rs || s.ct || s.li then s else if s.gr.l < (ys.length : Int) then s else { s with un := s.un ++ ys, gr := { s.gr with l := s.gr.l - ys.length, u := s.gr.u + ys.length }, li := fin }
set_option maxRecDepth 100000 in
set_option maxHeartbeats 2000000 in
theorem sarrive_any (w : World) (hs : Sen B a w) (ht : Tab B w) (hB : B ≤ w.heap.size) {T : Nat → Prop} {g : Nat} {s : Sm} (h : Pst w T g s) (hTB : ∀ k, T k → B ≤ k) (hT : ∀ k, w.heap.size ≤ k → T k) (v : Value) (ys : List Int) (hv : BsO w v ys) (hvT : ∀ k, rdk v = some k → k < w.heap.size ∧ ¬ T k) (hy : ys.length ≤ 140737488355328) (fin : Bool) :
    Calls Tryd.prog 27 #[.pointer (some ⟨g, 0, none⟩), v, .bool fin] w fun e w' => e = .returned (errv a (avC s ys.length)) ∧ Pst w' T g (avS s ys fin) ∧ Chg T w w' := by
  have H := Lib.hid h
  have HS := Lib.hid hs
  have HTb := Lib.hid ht
  have HT := Lib.hid hT
  have HTB := Lib.hid (And.intro hTB hB)
  have HV := Lib.hid (And.intro hv (And.intro hvT hy))
  obtain ⟨S1, S2, g1, g2, g3, g4, hp⟩ := h
  have c9 : w.cell? ⟨g, 9, none⟩ = some (.pointer (some ⟨g2, 0, none⟩)) := hp.im.at_ 9 _ rfl
  have c10 : w.cell? ⟨g, 10, none⟩ = some (.bool s.li) := hp.im.at_ 10 _ rfl
  have c12 : w.cell? ⟨g, 12, none⟩ = some (.pointer (some ⟨g4, 0, none⟩)) := hp.im.at_ 12 _ rfl
  have c13 : w.cell? ⟨g, 13, none⟩ = some (.bool s.rs) := hp.im.at_ 13 _ rfl
  have c14 : w.cell? ⟨g, 14, none⟩ = some (.bool s.ct) := hp.im.at_ 14 _ rfl
  have HP := Lib.hid hp
  obtain ⟨A, n, c, rfl, hl, hby, hnc, _⟩ := hv
  have HL := Lib.hid hl
  clear hs ht hT hvT hp hby hTB hB
  unfold avC avS
  cases hr : s.rs with
  | true =>
    rw [hr] at c13
    simp only [Bool.true_or, if_true]
    rw [show errv a 0 = Value.nilIface from rfl]
    clear hr hl hy
    go_enter Tryd.func27, Tryd.ntmps27
    go_wp2
    go_ret
    exact ⟨rfl, H.out, Chg.refl _ _⟩
  | false =>
    rw [hr] at c13
    cases hc : s.ct with
    | true =>
      rw [hc] at c14
      simp only [Bool.or_true, Bool.true_or, if_true]
      rw [show errv a 0 = Value.nilIface from rfl]
      clear hr hc hl hy
      go_enter Tryd.func27, Tryd.ntmps27
      go_wp2
      go_ret
      exact ⟨rfl, H.out, Chg.refl _ _⟩
    | false =>
      rw [hc] at c14
      cases hli : s.li with
      | true =>
        rw [hli] at c10
        simp only [Bool.or_true, if_true]
        rw [show errv a 0 = Value.nilIface from rfl]
        clear hr hc hli hl hy
        go_enter Tryd.func27, Tryd.ntmps27
        go_wp2
        go_ret
        exact ⟨rfl, H.out, Chg.refl _ _⟩
      | false =>
        rw [hli] at c10
        simp only [Bool.or_false, Bool.false_eq_true, if_false]
        have hW : s.gr.W ≠ 0 := by have := HP.out.ok.gr.W1; omega
        have hn0 : ¬ ((n : Nat) : Int) < 0 := by omega
        have hn63 : (n : Int) ≤ 9223372036854775807 := by omega
        have hn64 : -9223372036854775808 ≤ (n : Int) := by omega
        by_cases hlt : s.gr.l < (n : Int)
        · have hac : arC s.gr n = 16 := by unfold arC; rw [if_neg hW, if_neg hn0, if_pos hlt]
          have hS : arS s.gr n = s.gr := by unfold arS; rw [hac, if_neg (by decide)]
          have HAc := Lib.hid (And.intro hac hS)
          rw [hl, if_pos hlt, if_pos hlt, show errv a 16 = .iface 200 (.pointer (some (a 16))) from rfl]
          clear hr hc hli hl hy hW hac hS hlt
          go_enter Tryd.func27, Tryd.ntmps27
          go_wp2_with fail
          refine (arrive_any w HS.out _ s.gr HP.out.rc n hn64 hn63).mono ?_
          rintro e w1 ⟨rfl, k1, k2⟩
          rw [HAc.out.1, show errv a 16 = .iface 200 (.pointer (some (a 16))) from rfl]
          rw [HAc.out.2] at k1
          have K1 := Lib.hid k1
          have K2 := Lib.hid k2
          clear k1 k2
          go_wp2
          go_ret
          have hp' : Pso w1 T S1 S2 g g1 g2 g3 g4 { s with un := s.un, gr := s.gr } := HP.out.ring2 HT.out ((HP.out.recv s.gr K1.out K2.out rfl).2.2.1) (K2.out.more fun k _ ⟨q, hq, hb⟩ => by cases hq; exact .inr hb) (fun k hk => .inl hk) s.gr K1.out rfl HP.out.ok
          exact ⟨rfl, ⟨S1, S2, g1, g2, g3, g4, hp'⟩, K2.out.more fun k _ ⟨q, hq, hb⟩ => by cases hq; subst hb; exact HP.out.d3.2.2.2.2.2.1⟩
        · have hac : arC s.gr n = 0 := by unfold arC; rw [if_neg hW, if_neg hn0, if_neg hlt]
          have hS : arS s.gr n = { s.gr with l := s.gr.l - n, u := s.gr.u + n } := by unfold arS; rw [hac, if_pos rfl]
          have hok : (arS s.gr n).Ok := arS_ok HP.out.ok.gr n
          have hun := HP.out.ok.un hli hc hr
          have hfit : Nat.min ys.length (s.win - s.un.length) = ys.length := by
            have h1 : Nat.min ys.length (s.win - s.un.length) = min ys.length (s.win - s.un.length) := rfl
            have h2 := HP.out.ok.gr.sum
            have h3 := HP.out.ok.gr.o0
            have h4 := HP.out.ok.gr.W1
            have h5 : (s.win : Int) = s.gr.W := by unfold Sm.win; omega
            omega
          have HAc := Lib.hid (And.intro hac (And.intro hS (And.intro hok (And.intro hun hfit))))
          have HFl := Lib.hid (And.intro hli (And.intro hc hr))
          rw [hl, if_neg hlt, if_neg hlt, show errv a 0 = Value.nilIface from rfl]
          clear hr hc hli hl hy hW hac hS hlt hok hun hfit
          go_enter Tryd.func27, Tryd.ntmps27
          go_wp2_with fail
          refine (arrive_any w HS.out _ s.gr HP.out.rc n hn64 hn63).mono ?_
          rintro e w1 ⟨rfl, k1, k2⟩
          rw [HAc.out.1, show errv a 0 = Value.nilIface from rfl]
          have K1 := Lib.hid k1
          have K2 := Lib.hid k2
          have hrv := HP.out.recv (arS s.gr n) k1 k2 (by rw [HAc.out.2.1])
          have d9 : w1.cell? ⟨g, 9, none⟩ = some (.pointer (some ⟨g2, 0, none⟩)) := hrv.1.at_ 9 _ rfl
          have HRv := Lib.hid hrv
          have ha : ∀ k, at_ (some ⟨g4, 0, none⟩) k → k = g4 := fun k ⟨q, hq, hb⟩ => by cases hq; exact hb
          have HV1 : Hid (BsO w1 (.slice A n c) ys) := HV.out.1.chg k2 fun k hk => ⟨(HV.out.2.1 k hk).1, fun h => (HV.out.2.1 k hk).2 (by rw [ha k h]; exact HP.out.d3.2.2.2.2.2.1)⟩
          have hz1 : w.heap.size ≤ w1.heap.size := k2.size
          have HZ1 := Lib.hid hz1
          clear k1 k2 hrv hz1
          go_wp2_with fail
          refine (push_any w1 HRv.out.2.2.1 _ HV1.out (fun k hk => ⟨by have := (HV.out.2.1 k hk).1; have := HZ1.out; omega, fun h => (HV.out.2.1 k hk).2 (HP.out.d2 k h).2.2.2.1⟩) HV.out.2.2).mono ?_
          rintro e w2 ⟨rfl, j1, j2⟩
          rw [HAc.out.2.2.2.2, List.take_length] at j1
          have hp2 : Pso w2 T S1 (fun k => S2 k ∨ w1.heap.size ≤ k ∧ k < w2.heap.size) g g1 g2 g3 g4 { s with un := s.un ++ ys, gr := { s.gr with l := s.gr.l - n, u := s.gr.u + n } } := by
            rw [← HAc.out.2.1]
            refine HP.out.ring2 HT.out j1 ((K2.out.more fun k _ h => .inr (ha k h)).then j2 fun k _ h => .inl h) (fun k hk => ?_) (arS s.gr n) (K1.out.chg j2 fun b ⟨q, hq, hb⟩ h => by cases hq; subst hb; exact (HP.out.d2 _ h).2.2.1 rfl) (by rw [HAc.out.2.1]) ?_
            · rcases hk with h | h
              · exact .inl h
              · exact .inr ⟨Nat.le_trans HZ1.out h.1, h.2⟩
            · refine ⟨HP.out.ok.id1, HP.out.ok.id2, HP.out.ok.f1, HP.out.ok.f2, HP.out.ok.g2, HP.out.ok.cr, HAc.out.2.2.1, ?_, fun _ _ _ => ?_⟩
              · show s.cr.W = (arS s.gr n).W
                rw [HAc.out.2.1]
                exact HP.out.ok.W
              · show (arS s.gr n).u = ((s.un ++ ys).length : Int)
                rw [HAc.out.2.1, List.length_append, HL.out]
                show s.gr.u + n = _
                have := HAc.out.2.2.2.1
                omega
          have HP2 := Lib.hid hp2
          have HC2 : Hid (Chg T w w2) := (K2.out.more fun k _ ⟨q, hq, hb⟩ => by cases hq; subst hb; exact HP.out.d3.2.2.2.2.2.1).then j2 fun k _ h => (HP.out.d2 k h).2.2.2.1
          have HS2 : Hid (Sen B a w2 ∧ Tab B w2) := by
            have hbl := HC2.out.below (fun k _ h => HTB.out.1 k h) HTB.out.2
            exact ⟨HS.out.below hbl, HTb.out.below hbl⟩
          clear j1 j2 hp2
          cases fin with
          | false =>
            go_wp2
            go_ret
            have h : Pst w2 T g { s with un := s.un ++ ys, gr := { s.gr with l := s.gr.l - n, u := s.gr.u + n } } := ⟨S1, _, g1, g2, g3, g4, HP2.out⟩
            exact ⟨rfl, cast (congrArg (Pst w2 T g) (by simp only [HFl.out.1, HFl.out.2.1, HFl.out.2.2])) h, HC2.out⟩
          | true =>
            go_wp2_with fail
            refine (happen_in w2 HS2.out.1 HS2.out.2 (s := { s with un := s.un ++ ys, gr := { s.gr with l := s.gr.l - n, u := s.gr.u + n } }) ⟨S1, _, g1, g2, g3, g4, HP2.out⟩ HFl.out.1 HFl.out.2.2).mono ?_
            rintro e w3 ⟨⟨r, rfl⟩, j1, j2⟩
            have J1 := Lib.hid j1
            have J2 := Lib.hid j2
            clear j1 j2
            go_wp2
            go_ret
            exact ⟨rfl, cast (congrArg (Pst w3 T g) (by simp only [HFl.out.2.1, HFl.out.2.2])) J1.out, HC2.out.trans J2.out⟩
end
end Go.Proofs.YthalmjjbamglgaaDoor
