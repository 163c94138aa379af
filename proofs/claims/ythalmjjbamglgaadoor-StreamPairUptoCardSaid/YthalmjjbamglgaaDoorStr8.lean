/-
  culvertlaw10: Small, open and awake by contracts.
  No condition of its own: the facts 'Sen' and 'Tab' on the world.
-/
import Derived.Test.YthalmjjbamglgaaDoorStr7
namespace Go.Proofs.YthalmjjbamglgaaDoor
open Go.RowKit

section
variable {B : Nat} {a : Nat → Addr}
theorem Pst.cut {w : World} {T : Nat → Prop} {g : Nat} {s : Sm} (h : Pst w T g s) : Pst w (fun k => T k ∧ k < w.heap.size) g s := by
  obtain ⟨S1, S2, g1, g2, g3, g4, hp⟩ := h
  exact ⟨S1, S2, g1, g2, g3, g4, hp.wide (fun k hk => (hp.d1 k hk).2.2.2.2) (fun k hk => (hp.d2 k hk).2.2.2) ⟨hp.d3.2.2.2.1, hp.d3.2.2.2.2.2.2.1⟩ ⟨hp.d3.2.2.2.2.1, hp.d3.2.2.2.2.2.2.2.1⟩ ⟨hp.d3.2.2.2.2.2.1, hp.d3.2.2.2.2.2.2.2.2⟩⟩
theorem Pst.chg {w w' : World} {T X : Nat → Prop} {g : Nat} {s : Sm} (h : Pst w T g s) (hc : Chg X w w') (hX : ∀ k, T k → k < w.heap.size → ¬ X k) : Pst w' T g s := by
  obtain ⟨S1, S2, g1, g2, g3, g4, hp⟩ := h
  exact ⟨S1, S2, g1, g2, g3, g4, hp.chg hc hX⟩
theorem Pst.keep {w w' : World} {T : Nat → Prop} {g : Nat} {s : Sm} (h : Pst w T g s) (hc : Chg none_ w w') : Pst w' T g s := h.chg hc fun _ _ _ f => f
theorem Pst.wide {w : World} {T T' : Nat → Prop} {g : Nat} {s : Sm} (h : Pst w T g s) (hT : ∀ k, T k → T' k) : Pst w T' g s := by
  obtain ⟨S1, S2, g1, g2, g3, g4, hp⟩ := h
  exact ⟨S1, S2, g1, g2, g3, g4, hp.wide (fun k hk => hT k (hp.d1 k hk).2.2.2.2.1) (fun k hk => hT k (hp.d2 k hk).2.2.2.1) (hT _ hp.d3.2.2.2.1) (hT _ hp.d3.2.2.2.2.1) (hT _ hp.d3.2.2.2.2.2.1)⟩
def cfgV (W stage frame : Nat) : Value := .agg #[.int .i64 (W : Int), .int .i64 (stage : Int), .int .i64 (frame : Int), .int .i64 0, .int .i64 0, .int .i64 0, .int .i64 0, .int .i64 0]
set_option maxRecDepth 100000 in
theorem open_ok (w : World) (hs : Sen B a w) (ht : Tab B w) (hB : B ≤ w.heap.size) (W stage frame : Nat) (w1 : 1 ≤ W) (w2 : W ≤ 2147483647) (s1 : 1 ≤ stage) (s2 : stage ≤ 1048576) (f1 : 1 ≤ frame) (f2 : frame ≤ 65536) :
    Calls Tryd.prog 42 #[cfgV W stage frame] w fun e w' => ∃ ga gb m, e = .returned (.tuple #[.pointer (some ⟨ga, 0, none⟩), .pointer (some ⟨gb, 0, none⟩)]) ∧ Pst w' (fun k => w.heap.size ≤ k ∧ k < m) ga (Sm.new 7 true W stage frame) ∧ Pst w' (fun k => m ≤ k ∧ k < w'.heap.size) gb (Sm.new 7 false W stage frame) ∧ m ≤ w'.heap.size ∧ w.heap.size ≤ m ∧ Chg none_ w w' := by
  have HS := Lib.hid hs
  have HT := Lib.hid ht
  have HB := Lib.hid hB
  have HN := Lib.hid (And.intro w1 (And.intro w2 (And.intro s1 (And.intro s2 (And.intro f1 f2)))))
  unfold cfgV
  obtain ⟨w0, hw0⟩ : ∃ y, w.alloc (.cells #[.int .i64 (W : Int), .int .i64 (stage : Int), .int .i64 (frame : Int), .int .i64 0, .int .i64 0, .int .i64 0, .int .i64 0, .int .i64 0] 43) = y := ⟨_, rfl⟩
  obtain ⟨r0, hr0⟩ : ∃ y, w.heap.size = y := ⟨_, rfl⟩
  have HC0 : Hid (Chg none_ w w0) := by show Chg _ _ _; rw [← hw0]; exact (Chg.refl none_ w).alloc _
  have HI0 : Hid (Is w0 r0 43 #[.int .i64 (W : Int), .int .i64 (stage : Int), .int .i64 (frame : Int), .int .i64 0, .int .i64 0, .int .i64 0, .int .i64 0, .int .i64 0]) := by show Is _ _ _ _; rw [← hw0, ← hr0]; exact Is.new w _ _
  have HR0 := Lib.hid hr0
  have k0 : w0.cell? ⟨r0, 0, none⟩ = some (.int .i64 (W : Int)) := HI0.out.at_ 0 _ rfl
  have k1 : w0.cell? ⟨r0, 1, none⟩ = some (.int .i64 (stage : Int)) := HI0.out.at_ 1 _ rfl
  have k2 : w0.cell? ⟨r0, 2, none⟩ = some (.int .i64 (frame : Int)) := HI0.out.at_ 2 _ rfl
  have k3 : w0.cell? ⟨r0, 3, none⟩ = some (.int .i64 0) := HI0.out.at_ 3 _ rfl
  have k4 : w0.cell? ⟨r0, 4, none⟩ = some (.int .i64 0) := HI0.out.at_ 4 _ rfl
  have k5 : w0.cell? ⟨r0, 5, none⟩ = some (.int .i64 0) := HI0.out.at_ 5 _ rfl
  have k6 : w0.cell? ⟨r0, 6, none⟩ = some (.int .i64 0) := HI0.out.at_ 6 _ rfl
  have k7 : w0.cell? ⟨r0, 7, none⟩ = some (.int .i64 0) := HI0.out.at_ 7 _ rfl
  have HS0 : Hid (Sen B a w0 ∧ Tab B w0 ∧ B ≤ w0.heap.size) := ⟨HS.out.below (HC0.out.old HB.out), HT.out.below (HC0.out.old HB.out), Nat.le_trans HB.out HC0.out.size⟩
  clear hs ht hB w1 w2 s1 s2 f1 f2
  go_enter Tryd.func42, Tryd.ntmps42
  go_wp2_with fail
  clear hw0
  refine (snew_ok w0 HS0.out.1 HS0.out.2.1 HS0.out.2.2 7 true W stage frame _ _ _ _ _ (by decide) (by decide) HN.out.1 HN.out.2.1 HN.out.2.2.1 HN.out.2.2.2.1 HN.out.2.2.2.2.1 HN.out.2.2.2.2.2).mono ?_
  rintro e w1 ⟨ga, rfl, p1, p2⟩
  have HP1 := Lib.hid p1.cut
  have HC1 := Lib.hid p2
  have hI1 := HI0.out.chg p2 fun f => f
  have k0 : w1.cell? ⟨r0, 0, none⟩ = some (.int .i64 (W : Int)) := hI1.at_ 0 _ rfl
  have k1 : w1.cell? ⟨r0, 1, none⟩ = some (.int .i64 (stage : Int)) := hI1.at_ 1 _ rfl
  have k2 : w1.cell? ⟨r0, 2, none⟩ = some (.int .i64 (frame : Int)) := hI1.at_ 2 _ rfl
  have k3 : w1.cell? ⟨r0, 3, none⟩ = some (.int .i64 0) := hI1.at_ 3 _ rfl
  have k4 : w1.cell? ⟨r0, 4, none⟩ = some (.int .i64 0) := hI1.at_ 4 _ rfl
  have k5 : w1.cell? ⟨r0, 5, none⟩ = some (.int .i64 0) := hI1.at_ 5 _ rfl
  have k6 : w1.cell? ⟨r0, 6, none⟩ = some (.int .i64 0) := hI1.at_ 6 _ rfl
  have k7 : w1.cell? ⟨r0, 7, none⟩ = some (.int .i64 0) := hI1.at_ 7 _ rfl
  have HS1 : Hid (Sen B a w1 ∧ Tab B w1 ∧ B ≤ w1.heap.size) := ⟨HS0.out.1.below (p2.old HS0.out.2.2), HS0.out.2.1.below (p2.old HS0.out.2.2), Nat.le_trans HS0.out.2.2 p2.size⟩
  clear p1 p2 hI1
  go_wp2_with fail
  refine (snew_ok w1 HS1.out.1 HS1.out.2.1 HS1.out.2.2 7 false W stage frame _ _ _ _ _ (by decide) (by decide) HN.out.1 HN.out.2.1 HN.out.2.2.1 HN.out.2.2.2.1 HN.out.2.2.2.2.1 HN.out.2.2.2.2.2).mono ?_
  rintro e w2 ⟨gb, rfl, p1, p2⟩
  have HP2 := Lib.hid p1.cut
  have HC2 := Lib.hid p2
  clear p1 p2
  go_wp2
  go_ret2
  have z0 := HC0.out.size
  have z1 := HC1.out.size
  exact ⟨ga, gb, w1.heap.size, rfl, (HP1.out.keep HC2.out).wide fun k hk => ⟨by omega, hk.2⟩, HP2.out, HC2.out.size, by omega, (HC0.out.trans HC1.out).trans HC2.out⟩
theorem small_any (w : World) : Calls Tryd.prog 49 #[] w fun e w' => e = .returned (cfgV 4 6 3) ∧ Chg none_ w w' := by
  go_enter Tryd.func49, Tryd.ntmps49
  go_wp2
  go_returns
  exact ⟨rfl, ((Chg.refl none_ w).alloc _)⟩
end
end Go.Proofs.YthalmjjbamglgaaDoor
