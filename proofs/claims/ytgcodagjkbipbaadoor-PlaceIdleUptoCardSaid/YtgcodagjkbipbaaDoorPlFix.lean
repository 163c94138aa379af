/-
  culvertlaw21.fixed by contract; lists of loads written out.
  No condition of its own.
-/
import Derived.Test.YtgcodagjkbipbaaDoorPlPick
namespace Go.Proofs.YtgcodagjkbipbaaDoor
open Go.RowKit

def flat : List Ld → List Value
  | [] => []
  | x :: xs => .bool x.live :: .bool x.dr :: .int .i64 x.op :: .int .i64 x.lf :: flat xs
def ldl (xs : List Ld) (i : Nat) : Ld := xs.getD i ⟨false, false, 0, 0⟩
theorem flat_get : ∀ (xs : List Ld) (i j : Nat), i < xs.length → j < 4 → (flat xs)[i * 4 + j]? = some (ldF (ldl xs) i j)
  | [], i, j, h, _ => by simp at h
  | x :: xs, 0, j, _, hj => by
    match j, hj with
    | 0, _ => rfl
    | 1, _ => rfl
    | 2, _ => rfl
    | 3, _ => rfl
  | x :: xs, i + 1, j, h, hj => by
    have ih := flat_get xs i j (by simpa using h) hj
    have e : (i + 1) * 4 + j = (i * 4 + j) + 1 + 1 + 1 + 1 := by omega
    rw [e]
    simp only [flat, List.getElem?_cons_succ]
    rw [ih]
    have hl : ∀ j, ldF (ldl xs) i j = ldF (ldl (x :: xs)) (i + 1) j := fun j => by
      unfold ldF ldl
      simp only [List.getD_cons_succ]
    rw [hl]
theorem add_zero_off (g k : Nat) : (⟨g, 0, none⟩ : Addr).add k = ⟨g, k, none⟩ := by
  unfold Addr.add
  split
  · rename_i h; subst h; rfl
  · simp
theorem lds_flat {w : World} {g : Nat} {t : TypeId} {xs : List Ld} (h : Is w g t (flat xs).toArray) : Lds w (some ⟨g, 0, none⟩) xs.length (ldl xs) := fun _ =>
  ⟨⟨g, 0, none⟩, rfl, fun i hi j hj => by
    rw [add_zero_off]
    exact h.at_ _ _ (by rw [List.getElem?_toArray]; exact flat_get xs i j hi hj)⟩

theorem load_v (w : World) (x y : Int) :
    Calls Tryd.prog 39 #[.int .i64 x, .int .i64 y] w fun e w' => e = .returned (.agg #[.bool true, .bool false, .int .i64 x, .int .i64 y]) ∧ Chg none_ w w' := load_any w x y
theorem pick_c {B : Nat} {a : Nat → Addr} (w : World) (hs : Sen B a w) (hB : B ≤ w.heap.size) (A : Option Addr) (n c : Nat) (L : Nat → Ld) (m : Int) (hm : n ≤ 4611686018427387904) (hr : Lds w A n L) (v : Int) (er : Value) (hv : pkV L m n = v) (he : errv a (pkC L m n) = er) :
    Calls Tryd.prog 38 #[.slice A n c, .int .i64 m] w fun e w' => e = .returned (.tuple #[.int .i64 v, er]) ∧ Chg none_ w w' := by
  subst hv he
  exact pick_any w hs hB A n c L m hm hr

set_option maxRecDepth 100000 in
set_option maxHeartbeats 2000000 in
theorem pfixed_any {B : Nat} {a : Nat → Addr} (w : World) (hs : Sen B a w) (hB : B ≤ w.heap.size) :
    Calls Tryd.prog 40 #[] w fun e w' => e = .returned (.bool true) ∧ Chg none_ w w' := by
  go_enter Tryd.func40, Tryd.ntmps40
  go_wp2_with fail
  refine (load_v _ 1 9).mono ?_
  rintro e w1 ⟨rfl, c1⟩
  go_wp2_with fail
  refine (load_v _ 0 9).mono ?_
  rintro e w2 ⟨rfl, k2⟩
  have c2 := c1.trans k2
  clear c1 k2
  go_wp2_with fail
  refine (load_v _ 0 9).mono ?_
  rintro e w3 ⟨rfl, k3⟩
  have c3 := c2.trans k3
  clear c2 k3
  go_wp2_with fail
  have h3 := Lib.hid (lds_flat (xs := [⟨true, false, 1, 9⟩, ⟨true, false, 0, 9⟩, ⟨true, false, 0, 9⟩]) (Is.new w3 72 _))
  refine (pick_c _ (hs.below ((c3.alloc _).old hB)) (Nat.le_trans hB (c3.alloc _).size) _ 3 3 _ 2 (by decide) h3.out 1 .nilIface rfl rfl).mono ?_
  rintro e w4 ⟨rfl, k4⟩
  have c4 := (c3.alloc _).trans k4
  clear c3 k4 h3
  go_wp2_with fail
  refine (pick_c w4 (hs.below (c4.old hB)) (Nat.le_trans hB c4.size) none 0 0 (ldl []) 2 (by decide) (Rds.zero _ _ _ _) 0 (errv a 35) rfl rfl).mono ?_
  rintro e w5 ⟨rfl, k5⟩
  have c5 := c4.trans k5
  clear c4 k5
  go_wp2_with fail
  refine (code_any w5 (hs.below (c5.old hB)) 35 (by decide)).mono ?_
  rintro e w' ⟨rfl, rfl⟩
  go_wp2
  go_ret
  exact ⟨rfl, c5⟩
end Go.Proofs.YtgcodagjkbipbaaDoor
