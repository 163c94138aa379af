/-
  culvertlaw10.Pair's cells: two pointers, two structs of 17, two marks.
  No condition.
-/
import Derived.Test.YthalmjjbamglgaaDoorG1
import Derived.Handy
import Derived.StillTailTactics
import Derived.Lib.Hide
namespace Go.Proofs.YthalmjjbamglgaaDoor
open Go.RowKit

def upd {α : Type} (f : Nat → α) (a : Nat) (v : α) : Nat → α := fun i => if i = a then v else f i
theorem upd_at {α : Type} (f : Nat → α) (a : Nat) (v : α) : upd f a v a = v := if_pos rfl
theorem upd_ne {α : Type} (f : Nat → α) {a i : Nat} (v : α) (h : i ≠ a) : upd f a v i = f i := if_neg h
def prL (p x : Nat → Value) (n : Nat → Bool) : List Value := p 0 :: p 1 :: ((x 0).cells.toList ++ ((x 1).cells.toList ++ [Value.bool (n 0), Value.bool (n 1)]))
def prV (p x : Nat → Value) (n : Nat → Bool) : Array Value := (prL p x n).toArray
def X17 (x : Nat → Value) : Prop := ∀ i, i < 2 → ∃ u : List Value, u.length = 17 ∧ (x i).cells.toList = u ∧ x i = .agg u.toArray ∧ u.all (·.oneCell') = true
section
variable {p x : Nat → Value} {n : Nat → Bool} {a : Nat}
theorem lt2 {a : Nat} (h : a < 2) : a = 0 ∨ a = 1 := by omega
theorem prL_len (h : X17 x) : (prL p x n).length = 38 := by
  obtain ⟨u, hu, eu, _⟩ := h 0 (by omega)
  obtain ⟨v, hv, ev, _⟩ := h 1 (by omega)
  simp [prL, eu, ev, hu, hv]
theorem prV_size (h : X17 x) : (prV p x n).size = 38 := by simpa [prV] using prL_len h
theorem prV_p (ha : a < 2) : (prV p x n)[a]? = some (p a) := by
  rcases lt2 ha with rfl | rfl <;> simp [prV, prL]
theorem prV_n (h : X17 x) (ha : a < 2) : (prV p x n)[36 + a]? = some (.bool (n a)) := by
  obtain ⟨u, hu, eu, _⟩ := h 0 (by omega)
  obtain ⟨v, hv, ev, _⟩ := h 1 (by omega)
  simp only [prV, prL, eu, ev, List.getElem?_toArray]
  rcases lt2 ha with rfl | rfl
  · rw [show 36 + 0 = 34 + 1 + 1 from rfl, List.getElem?_cons_succ, List.getElem?_cons_succ, List.getElem?_append_right (by omega), List.getElem?_append_right (by omega), hu, hv]
    rfl
  · rw [show 36 + 1 = 35 + 1 + 1 from rfl, List.getElem?_cons_succ, List.getElem?_cons_succ, List.getElem?_append_right (by omega), List.getElem?_append_right (by omega), hu, hv]
    rfl
theorem prV_x (h : X17 x) (ha : a < 2) : ((prV p x n).toList.drop (2 + a * 17)).take 17 = (x a).cells.toList := by
  obtain ⟨u, hu, eu, _⟩ := h 0 (by omega)
  obtain ⟨v, hv, ev, _⟩ := h 1 (by omega)
  rcases lt2 ha with rfl | rfl
  · simp only [prV, prL, eu, ev]
    show (u ++ (v ++ [Value.bool (n 0), Value.bool (n 1)])).take 17 = u
    rw [List.take_append_of_le_length (by omega), List.take_of_length_le (by omega)]
  · simp only [prV, prL, eu, ev]
    show ((u ++ (v ++ [Value.bool (n 0), Value.bool (n 1)])).drop 17).take 17 = v
    rw [List.drop_append_of_le_length (by omega), List.drop_of_length_le (by omega), List.nil_append, List.take_append_of_le_length (by omega), List.take_of_length_le (by omega)]
theorem prV_putx (h : X17 x) (ha : a < 2) {y : Value} {vs : List Value} (hy : y.cells.toList = vs) (_hl : vs.length = 17) : ((prV p x n).toList.take (2 + a * 17) ++ vs ++ (prV p x n).toList.drop (2 + a * 17 + 17)).toArray = prV p (upd x a y) n := by
  obtain ⟨u, hu, eu, _⟩ := h 0 (by omega)
  obtain ⟨v, hv, ev, _⟩ := h 1 (by omega)
  rcases lt2 ha with rfl | rfl
  · simp only [prV, prL, upd_at, upd_ne x y (show 1 ≠ 0 by decide), eu, ev, hy]
    congr 1
    show p 0 :: p 1 :: ((u ++ (v ++ [Value.bool (n 0), Value.bool (n 1)])).take 0 ++ vs ++ (u ++ (v ++ [Value.bool (n 0), Value.bool (n 1)])).drop 17) = _
    rw [List.drop_append_of_le_length (by omega), List.drop_of_length_le (by omega)]
    simp
  · simp only [prV, prL, upd_at, upd_ne x y (show 0 ≠ 1 by decide), eu, ev, hy]
    congr 1
    show p 0 :: p 1 :: ((u ++ (v ++ [Value.bool (n 0), Value.bool (n 1)])).take 17 ++ vs ++ (u ++ (v ++ [Value.bool (n 0), Value.bool (n 1)])).drop (17 + 17)) = _
    rw [List.take_append_of_le_length (by omega), List.take_of_length_le (by omega), List.drop_append, List.drop_of_length_le (l := u) (by omega), List.nil_append, show 17 + 17 - u.length = 17 by omega, List.drop_append_of_le_length (by omega), List.drop_of_length_le (by omega)]
    simp
theorem prV_putp (ha : a < 2) (q : Value) : (prV p x n).setIfInBounds a q = prV (upd p a q) x n := by
  rcases lt2 ha with rfl | rfl
  · simp [prV, prL, upd_at, upd_ne p q (show 1 ≠ 0 by decide)]
  · simp [prV, prL, upd_at, upd_ne p q (show 0 ≠ 1 by decide)]
theorem prV_putn (h : X17 x) (ha : a < 2) (b : Bool) : (prV p x n).setIfInBounds (36 + a) (.bool b) = prV p x (upd n a b) := by
  obtain ⟨u, hu, eu, _⟩ := h 0 (by omega)
  obtain ⟨v, hv, ev, _⟩ := h 1 (by omega)
  rcases lt2 ha with rfl | rfl
  · simp only [prV, prL, upd_at, upd_ne n b (show 1 ≠ 0 by decide), eu, ev, List.setIfInBounds_toArray]
    congr 1
    rw [show 36 + 0 = 34 + 1 + 1 from rfl, List.set_cons_succ, List.set_cons_succ, List.set_append_right _ _ (by omega), List.set_append_right _ _ (by omega), hu, hv]
    rfl
  · simp only [prV, prL, upd_at, upd_ne n b (show 0 ≠ 1 by decide), eu, ev, List.setIfInBounds_toArray]
    congr 1
    rw [show 36 + 1 = 35 + 1 + 1 from rfl, List.set_cons_succ, List.set_cons_succ, List.set_append_right _ _ (by omega), List.set_append_right _ _ (by omega), hu, hv]
    rfl
end

section
variable {P : Program} {ops : Array Oper} {w : World} {rest : List Oper} {o : Oper} {a : Act} {Q : Act → Prop}
/-- Part of a block, loaded whole, in a region that only reads. -/
theorem still_load_part (hgd : o.guard = none) (ty : TypeId) (x : Operand) (ho : o.op = .load ty x) (g off : Nat) (hx : a.eval x = .pointer (some ⟨g, off, none⟩)) {t : TypeId} {cs : Array Value} (vs : List Value) (hi : Is w g t cs) (hv : (cs.toList.drop off).take vs.length = vs)
    {d : TypeDesc} (hu : P.underlying ty = some d) (hd : (match d with | .struct _ | .array _ _ => true | _ => false) = true) (hz : (P.info? ty).map (·.size) = some vs.length)
    (h : wpStill P ops w Q rest (a.put o.dst (.agg vs.toArray))) : wpStill P ops w Q (o :: rest) a := by
  have hw : Region.wanted o (yielded ops a.tmps) = true := by simp [Region.wanted, hgd]
  unfold wpStill
  rw [if_pos hw]
  have hr := run_load_part (P := P) hi hv hu hd hz
  unfold Oper.still execOp
  simp only [ho, hx, Instr.loadAt, Instr.sureAddr, Sem.run_bind, Sem.run_pure, Result.andThen_ok, hr]
  exact ⟨rfl, h⟩
end
theorem Is.dr1 {w : World} {g : Nat} {t : TypeId} {cs : Array Value} (h : Is w g t cs) : Is w.drew g t cs := h
theorem szSt : (Tryd.prog.info? 51).map (·.size) = some 17 := by kernel_rfl
theorem list17 {α : Type} (l : List α) (h : l.length = 17) : ∃ a0 a1 a2 a3 a4 a5 a6 a7 a8 a9 a10 a11 a12 a13 a14 a15 a16, l = [a0, a1, a2, a3, a4, a5, a6, a7, a8, a9, a10, a11, a12, a13, a14, a15, a16] := by
  match l, h with
  | [a0, a1, a2, a3, a4, a5, a6, a7, a8, a9, a10, a11, a12, a13, a14, a15, a16], _ => exact ⟨a0, a1, a2, a3, a4, a5, a6, a7, a8, a9, a10, a11, a12, a13, a14, a15, a16, rfl⟩
end Go.Proofs.YthalmjjbamglgaaDoor
