/-
  Layer 21 in plain Lean: what Pick picks of a list of loads, and what that means.
  No condition; no program in sight.
-/
import Derived.Test.YtgcodagjkbipbaaDoorBase
namespace Go.Proofs.YtgcodagjkbipbaaDoor
open Go.RowKit

structure Ld where
  live : Bool
  dr : Bool
  op : Int
  lf : Int
deriving DecidableEq
def Ld.may (l : Ld) (m : Int) : Bool := l.live && !l.dr && decide (l.op < m) && decide (1 ≤ l.lf)
/-- The place picked of the first k. -/
def bst (L : Nat → Ld) (m : Int) : Nat → Option Nat
  | 0 => none
  | k + 1 => match bst L m k with
    | none => if (L k).may m then some k else none
    | some p => if (L k).may m && decide ((L k).op < (L p).op) then some k else some p
def anyB (f : Nat → Bool) : Nat → Bool
  | 0 => false
  | k + 1 => anyB f k || f k
def lvB (L : Nat → Ld) (k : Nat) : Bool := anyB (fun i => (L i).live) k
def opB (L : Nat → Ld) (k : Nat) : Bool := anyB (fun i => (L i).live && !(L i).dr) k
def rmB (L : Nat → Ld) (m : Int) (k : Nat) : Bool := anyB (fun i => (L i).live && !(L i).dr && decide ((L i).op < m)) k
def atV : Option Nat → Int
  | none => -1
  | some p => p
/-- The answer: the place, the error's code. -/
def pkV (L : Nat → Ld) (m : Int) (n : Nat) : Int := match bst L m n with
  | some p => p
  | none => 0
def pkC (L : Nat → Ld) (m : Int) (n : Nat) : Nat := match bst L m n with
  | some _ => 0
  | none => if lvB L n = false then 35 else if opB L n = false then 36 else if rmB L m n = false then 31 else 32

theorem pkC_le (L : Nat → Ld) (m : Int) (n : Nat) : pkC L m n ≤ 42 := by
  unfold pkC
  split
  · omega
  · split
    · omega
    · split
      · omega
      · split <;> omega
theorem pkC_zero (L : Nat → Ld) (m : Int) (n : Nat) : pkC L m n = 0 ↔ ∃ p, bst L m n = some p := by
  unfold pkC
  cases h : bst L m n with
  | some p => simp
  | none =>
    simp only [reduceCtorEq, exists_false, iff_false]
    split
    · omega
    · split
      · omega
      · split <;> omega

theorem bst_spec (L : Nat → Ld) (m : Int) : ∀ k, (∀ i, i < k → bst L m k = none → (L i).may m = false) ∧ ∀ p, bst L m k = some p → p < k ∧ (L p).may m = true ∧ ∀ i, i < k → (L i).may m = true → (L p).op ≤ (L i).op ∧ ((L i).op = (L p).op → p ≤ i)
  | 0 => ⟨fun i h => by omega, fun p h => by simp [bst] at h⟩
  | k + 1 => by
    obtain ⟨h1, h2⟩ := bst_spec L m k
    cases hb : bst L m k with
    | none =>
      have h3 : ∀ i, i < k → (L i).may m = false := fun i hi => h1 i hi hb
      simp only [bst, hb]
      by_cases hm : (L k).may m = true
      · simp only [hm, if_true, reduceCtorEq, false_implies, implies_true, true_and, Option.some.injEq]
        rintro p rfl
        refine ⟨by omega, hm, fun i hi hmi => ?_⟩
        rcases Nat.lt_or_ge i k with hlt | hge
        · rw [h3 i hlt] at hmi; cases hmi
        · obtain rfl : i = k := by omega
          exact ⟨Int.le_refl _, fun _ => Nat.le_refl _⟩
      · simp only [hm]
        refine ⟨fun i hi _ => ?_, fun p h => by simp at h⟩
        rcases Nat.lt_or_ge i k with hlt | hge
        · exact h3 i hlt
        · obtain rfl : i = k := by omega
          simpa using hm
    | some q =>
      obtain ⟨g1, g2, g3⟩ := h2 q hb
      simp only [bst, hb]
      by_cases hm : ((L k).may m && decide ((L k).op < (L q).op)) = true
      · simp only [hm, if_true, reduceCtorEq, false_implies, implies_true, true_and, Option.some.injEq]
        rintro p rfl
        simp only [Bool.and_eq_true, decide_eq_true_eq] at hm
        refine ⟨by omega, hm.1, fun i hi hmi => ?_⟩
        rcases Nat.lt_or_ge i k with hlt | hge
        · have := g3 i hlt hmi
          exact ⟨by omega, fun e => by omega⟩
        · obtain rfl : i = k := by omega
          exact ⟨Int.le_refl _, fun _ => Nat.le_refl _⟩
      · simp only [hm]
        refine ⟨fun i hi h => by simp at h, fun p h => ?_⟩
        simp only [Bool.false_eq_true, if_false, Option.some.injEq] at h
        subst h
        refine ⟨by omega, g2, fun i hi hmi => ?_⟩
        rcases Nat.lt_or_ge i k with hlt | hge
        · exact g3 i hlt hmi
        · obtain rfl : i = k := by omega
          simp only [hmi, Bool.true_and, decide_eq_true_eq] at hm
          exact ⟨by omega, fun _ => by omega⟩

theorem bst_none {L : Nat → Ld} {m : Int} {k : Nat} (h : bst L m k = none) (i : Nat) (hi : i < k) : (L i).may m = false := (bst_spec L m k).1 i hi h
theorem bst_lt {L : Nat → Ld} {m : Int} {k p : Nat} (h : bst L m k = some p) : p < k := ((bst_spec L m k).2 p h).1
theorem bst_may {L : Nat → Ld} {m : Int} {k p : Nat} (h : bst L m k = some p) : (L p).may m = true := ((bst_spec L m k).2 p h).2.1
theorem bst_least {L : Nat → Ld} {m : Int} {k p : Nat} (h : bst L m k = some p) (i : Nat) (hi : i < k) (hm : (L i).may m = true) : (L p).op ≤ (L i).op ∧ ((L i).op = (L p).op → p ≤ i) := ((bst_spec L m k).2 p h).2.2 i hi hm

/-- i is better than p, or as good and ahead. -/
def btr (L : Nat → Ld) (i p : Nat) : Bool := decide ((L i).op < (L p).op) || ((L i).op == (L p).op) && decide (i < p)

theorem bst_of {L : Nat → Ld} {m : Int} {k p : Nat} (hp : p < k) (hm : (L p).may m = true) (hb : ∀ i, i < k → (L i).may m = true → btr L i p = false) : bst L m k = some p := by
  cases h : bst L m k with
  | none => rw [bst_none h p hp] at hm; cases hm
  | some q =>
    have h1 := bst_least h p hp hm
    have h2 := hb q (bst_lt h) (bst_may h)
    simp only [btr, Bool.or_eq_false_iff, decide_eq_false_iff_not, Bool.and_eq_false_iff, beq_eq_false_iff_ne] at h2
    have : p = q := by omega
    rw [this]
theorem bst_btr {L : Nat → Ld} {m : Int} {k p : Nat} (h : bst L m k = some p) (i : Nat) (hi : i < k) (hm : (L i).may m = true) : btr L i p = false := by
  have h1 := bst_least h i hi hm
  simp only [btr, Bool.or_eq_false_iff, decide_eq_false_iff_not, Bool.and_eq_false_iff, beq_eq_false_iff_ne]
  omega

theorem bst_congr {L L' : Nat → Ld} (m : Int) : ∀ k, (∀ i, i < k → L i = L' i) → bst L m k = bst L' m k
  | 0, _ => rfl
  | k + 1, h => by
    have ih := bst_congr m k fun i hi => h i (by omega)
    have hk := h k (by omega)
    simp only [bst, ih]
    cases hb : bst L' m k with
    | none => simp only [hk]
    | some p => simp only [hk, h p (by have := bst_lt hb; omega)]
theorem any_congr {f g : Nat → Bool} : ∀ k, (∀ i, i < k → f i = g i) → anyB f k = anyB g k
  | 0, _ => rfl
  | k + 1, h => by simp only [anyB, any_congr k fun i hi => h i (by omega), h k (by omega)]
theorem pk_congr {L L' : Nat → Ld} (m : Int) (k : Nat) (h : ∀ i, i < k → L i = L' i) : pkV L m k = pkV L' m k ∧ pkC L m k = pkC L' m k := by
  have h1 := bst_congr m k h
  have h2 : lvB L k = lvB L' k := any_congr k fun i hi => by simp only [h i hi]
  have h3 : opB L k = opB L' k := any_congr k fun i hi => by simp only [h i hi]
  have h4 : rmB L m k = rmB L' m k := any_congr k fun i hi => by simp only [h i hi]
  unfold pkV pkC
  rw [h1, h2, h3, h4]
  exact ⟨rfl, rfl⟩

/-- Elements that may not take a stream, put in: t i of the new list come of the first i; the i-th lies at 'at i', alike but for the numbers left. -/
theorem bst_ins {L L' : Nat → Ld} {m : Int} {n : Nat} {t at' : Nat → Nat} (h0 : t 0 = 0) (hs : ∀ i, i < n → t (i + 1) = at' i + 1 ∧ (at' i = t i ∨ at' i = t i + 1 ∧ (L' (t i)).may m = false))
    (ha : ∀ i, i < n → (L' (at' i)).may m = (L i).may m ∧ (L' (at' i)).op = (L i).op) : ∀ i, i ≤ n → bst L' m (t i) = (bst L m i).map at'
  | 0, _ => by rw [h0]; rfl
  | i + 1, hi => by
    have ih := bst_ins h0 hs ha i (by omega)
    obtain ⟨h1, h2⟩ := hs i (by omega)
    obtain ⟨h3, h4⟩ := ha i (by omega)
    have key : bst L' m (at' i) = (bst L m i).map at' := by
      rcases h2 with e | ⟨e, hm⟩
      · rw [e]; exact ih
      · rw [e]
        simp only [bst, ih]
        cases hb : bst L m i with
        | none => simp [hm]
        | some p => simp [hm]
    rw [h1]
    simp only [bst, key]
    cases hb : bst L m i with
    | none =>
      simp only [Option.map_none, h3]
      split <;> rfl
    | some p =>
      have h5 := (ha p (by have := bst_lt hb; omega)).2
      simp only [Option.map_some, h3, h4, h5]
      split <;> rfl

/-- One more stream at the place picked keeps the streams even. -/
def Even (L : Nat → Ld) (got : Nat → Bool) (m : Int) (n : Nat) : Prop := ∀ i j, i < n → j < n → got i = true → (L j).may m = true → (L i).op ≤ (L j).op + 1
def Ld.up (l : Ld) : Ld := { l with op := l.op + 1 }
def upL (L : Nat → Ld) (p : Nat) : Nat → Ld := fun i => if i = p then (L p).up else L i
def upG (g : Nat → Bool) (p : Nat) : Nat → Bool := fun i => if i = p then true else g i
theorem even_zero (L : Nat → Ld) (m : Int) (n : Nat) : Even L (fun _ => false) m n := fun i j _ _ h => by cases h
theorem may_up {l : Ld} {m : Int} (h : l.up.may m = true) : l.may m = true := by
  obtain ⟨lv, dr, op, lf⟩ := l
  have h' : (lv && !dr && decide (op + 1 < m) && decide (1 ≤ lf)) = true := h
  show (lv && !dr && decide (op < m) && decide (1 ≤ lf)) = true
  simp only [Bool.and_eq_true, decide_eq_true_eq] at h' ⊢
  exact ⟨⟨h'.1.1, by omega⟩, h'.2⟩
theorem even_up {L : Nat → Ld} {g : Nat → Bool} {m : Int} {n p : Nat} (h : Even L g m n) (hb : bst L m n = some p) : Even (upL L p) (upG g p) m n := fun i j hi hj hg hm => by
  have hm' : (L j).may m = true := by
    simp only [upL] at hm
    split at hm
    · rename_i e; subst e; exact may_up hm
    · exact hm
  have h1 := (bst_least hb j hj hm').1
  simp only [upL, upG] at hg ⊢
  by_cases e1 : i = p
  · by_cases e2 : j = p
    · simp only [e1, e2, if_true, Ld.up]; omega
    · simp only [e1, e2, if_true, if_false, Ld.up]; omega
  · simp only [e1, if_false] at hg
    have h2 := h i j hi hj hg hm'
    by_cases e2 : j = p
    · subst e2
      simp only [e1, if_false, if_true, Ld.up]; omega
    · simp only [e1, e2, if_false]; omega
theorem may_bound {l : Ld} {m : Int} (h : l.may m = true) : l.op < m := by
  simp only [Ld.may, Bool.and_eq_true, decide_eq_true_eq] at h
  exact h.1.2
end Go.Proofs.YtgcodagjkbipbaaDoor
