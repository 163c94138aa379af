/-
  culvertlaw10.Pair.is by contract.
  No condition.
-/
import Derived.Test.YthalmjjbamglgaaDoorPlQ
namespace Go.Proofs.YthalmjjbamglgaaDoor
open Go.RowKit
set_option maxRecDepth 100000 in
theorem is_yes (w : World) {g a : Nat} {p x : Nat → Value} {n : Nat → Bool} (ha : a < 2) (hi : Is w g 55 (prV p x n)) (h17 : X17 x) (want : Int) (y : Value) (hy : ∃ u : List Value, u.length = 17 ∧ y.cells.toList = u ∧ y = .agg u.toArray ∧ u.all (·.oneCell') = true) (hn : n a = false) :
    Calls Tryd.prog 87 #[.pointer (some ⟨g, 0, none⟩), .int .i64 (a : Int), .int .i64 want, .int .i64 want, y, .bool true] w fun e w' => e = .returned (.bool true) ∧ Is w' g 55 (prV p (upd x a y) n) ∧ Chg (fun k => k = g) w w' := by
  obtain ⟨u, hu, _, rfl, h1⟩ := hy
  have hp := prV_putx (p := p) (n := n) h17 ha (y := .agg u.toArray) (vs := u) rfl hu
  obtain ⟨y0, y1, y2, y3, y4, y5, y6, y7, y8, y9, y10, y11, y12, y13, y14, y15, y16, rfl⟩ := list17 u hu
  have HI := Lib.hid hi
  have HP := Lib.hid hp
  have H1 := Lib.hid h1
  have hsz := prV_size (p := p) (n := n) h17
  have HA := Lib.hid ha
  have cn : ∀ o : Obj, (w.alloc o).cell? ⟨g, 36 + a, none⟩ = some (.bool false) := fun o => by rw [← hn]; exact (hi.alloc o).at_ _ _ (prV_n h17 ha)
  have ha0 : (0 : Int) ≤ (a : Int) := by omega
  have ha2 : (a : Int) < 2 := by omega
  have hww : decide (want = want) = true := decide_eq_true rfl
  clear hi hp h1 h17 hu hn
  go_enter Tryd.func87, Tryd.ntmps87
  go_wp2_with fail
  have HI1 := Lib.hid (HI.out.alloc (.cells #[y0, y1, y2, y3, y4, y5, y6, y7, y8, y9, y10, y11, y12, y13, y14, y15, y16] 51))
  have HY1 := Lib.hid (Is.new w 51 #[y0, y1, y2, y3, y4, y5, y6, y7, y8, y9, y10, y11, y12, y13, y14, y15, y16])
  have HG1 : Hid (Chg (fun k => k = g) w (w.alloc (.cells #[y0, y1, y2, y3, y4, y5, y6, y7, y8, y9, y10, y11, y12, y13, y14, y15, y16] 51))) := (Chg.refl _ w).alloc _
  generalize w.alloc (.cells #[y0, y1, y2, y3, y4, y5, y6, y7, y8, y9, y10, y11, y12, y13, y14, y15, y16] 51) = w1 at HI1 HY1 HG1 cn ⊢
  go_still_tail 6, (by kernel_rfl)
  refine still_load_part rfl 51 (.tmp 10) rfl w.heap.size 0 rfl [y0, y1, y2, y3, y4, y5, y6, y7, y8, y9, y10, y11, y12, y13, y14, y15, y16] HY1.out.dr1 rfl Tryd.underlying51 rfl szSt ?_
  repeat still_step
  refine wpStill_nil ?_
  change wpList _ _ _ _ _ w1.drew
  refine wpList_store_part rfl 51 (.tmp 26) (.tmp 23) rfl g (2 + a * 17) rfl (.agg #[y0, y1, y2, y3, y4, y5, y6, y7, y8, y9, y10, y11, y12, y13, y14, y15, y16]) rfl [y0, y1, y2, y3, y4, y5, y6, y7, y8, y9, y10, y11, y12, y13, y14, y15, y16] HI1.out.dr1 rfl (by rw [hsz]; simp only [List.length_cons, List.length_nil]; have := HA.out; omega) H1.out szSt _ HP.out ?_
  intro w2 hi2 hc2
  have HI2 := Lib.hid hi2
  have HG2 : Hid (Chg (fun k => k = g) w w2) := HG1.out.drew.trans hc2
  clear hi2 hc2
  go_wp2
  go_ret
  exact ⟨rfl, HI2.out, HG2.out⟩
set_option maxRecDepth 100000 in
theorem is_nil_ (w : World) {g a : Nat} {p x : Nat → Value} {n : Nat → Bool} (ha : a < 2) (hi : Is w g 55 (prV p x n)) (h17 : X17 x) (want : Int) (y : Value) (hy : ∃ u : List Value, u.length = 17 ∧ y.cells.toList = u ∧ y = .agg u.toArray ∧ u.all (·.oneCell') = true) (b : Bool) (hn : n a = true) :
    Calls Tryd.prog 87 #[.pointer (some ⟨g, 0, none⟩), .int .i64 (a : Int), .int .i64 1, .int .i64 want, y, .bool b] w fun e w' => e = .returned (.bool true) ∧ Is w' g 55 (prV p x n) ∧ Chg none_ w w' := by
  obtain ⟨u, hu, _, rfl, h1⟩ := hy
  obtain ⟨y0, y1, y2, y3, y4, y5, y6, y7, y8, y9, y10, y11, y12, y13, y14, y15, y16, rfl⟩ := list17 u hu
  have HI := Lib.hid hi
  have cn : ∀ o : Obj, (w.alloc o).cell? ⟨g, 36 + a, none⟩ = some (.bool true) := fun o => by rw [← hn]; exact (hi.alloc o).at_ _ _ (prV_n h17 ha)
  have ha0 : (0 : Int) ≤ (a : Int) := by omega
  have ha2 : (a : Int) < 2 := by omega
  clear hi h1 h17 hu hn
  go_enter Tryd.func87, Tryd.ntmps87
  go_wp2
  go_ret
  exact ⟨rfl, HI.out.alloc _, (Chg.refl none_ w).alloc _⟩
end Go.Proofs.YthalmjjbamglgaaDoor
