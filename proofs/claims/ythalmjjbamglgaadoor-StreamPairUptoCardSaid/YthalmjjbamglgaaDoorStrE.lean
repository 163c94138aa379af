/-
  A stream's calls as steps of two streams that lie side by side; what a refused call leaves.
  No condition of its own: the facts 'Sen' and 'Tab' on the world.
-/
import Derived.Test.YthalmjjbamglgaaDoorStrD
import Derived.Test.YthalmjjbamglgaaDoorStr8
namespace Go.Proofs.YthalmjjbamglgaaDoor
open Go.RowKit

/-- A step of the object g within T: nothing else is changed; what it takes is new. -/
def Stp (w w' : World) (T : Nat → Prop) (g : Nat) (s' : Sm) : Prop := ∃ T', Pst w' T' g s' ∧ (∀ k, T' k → (T k ∨ w.heap.size ≤ k) ∧ k < w'.heap.size) ∧ Chg T w w'
theorem Stp.of {w w' : World} {T : Nat → Prop} {g : Nat} {s' : Sm} (h : Pst w' T g s') (hc : Chg T w w') : Stp w w' T g s' := ⟨_, h.cut, fun _ hk => ⟨.inl hk.1, hk.2⟩, hc⟩
theorem Stp.of_wide {w w' : World} {T : Nat → Prop} {g : Nat} {s' : Sm} (h : Pst w' (fun k => T k ∨ w.heap.size ≤ k) g s') (hc : Chg (fun k => T k ∨ w.heap.size ≤ k) w w') : Stp w w' T g s' :=
  ⟨_, h.cut, fun _ hk => hk, hc.more fun k hk h => h.resolve_right (by omega)⟩
/-- Two streams side by side, above block L. -/
def Two (w : World) (L g h : Nat) (s t : Sm) : Prop := L ≤ w.heap.size ∧ ∃ T U, Pst w T g s ∧ Pst w U h t ∧ (∀ k, T k → ¬ U k) ∧ (∀ k, T k → L ≤ k ∧ k < w.heap.size) ∧ (∀ k, U k → L ≤ k ∧ k < w.heap.size)
theorem Two.swap {w : World} {L g h : Nat} {s t : Sm} (H : Two w L g h s t) : Two w L h g t s := by
  obtain ⟨hL, T, U, h1, h2, h3, h4, h5⟩ := H
  exact ⟨hL, U, T, h2, h1, fun k hk hk' => h3 k hk' hk, h5, h4⟩
theorem Two.keep {w w' : World} {L g h : Nat} {s t : Sm} (H : Two w L g h s t) (hc : Chg none_ w w') : Two w' L g h s t := by
  obtain ⟨hL, T, U, h1, h2, h3, h4, h5⟩ := H
  have hz := hc.size
  exact ⟨by omega, T, U, h1.keep hc, h2.keep hc, h3, fun k hk => by have := h4 k hk; omega, fun k hk => by have := h5 k hk; omega⟩
/-- Blocks below L and new ones may change. -/
theorem Two.chg {w w' : World} {L g h : Nat} {s t : Sm} {X : Nat → Prop} (H : Two w L g h s t) (hc : Chg X w w') (hX : ∀ k, X k → k < L ∨ w.heap.size ≤ k) : Two w' L g h s t := by
  obtain ⟨hL, T, U, h1, h2, h3, h4, h5⟩ := H
  have hz := hc.size
  refine ⟨by omega, T, U, h1.chg hc fun k hk hl hx => ?_, h2.chg hc fun k hk hl hx => ?_, h3, fun k hk => by have := h4 k hk; omega, fun k hk => by have := h5 k hk; omega⟩
  · have := h4 k hk
    have := hX k hx
    omega
  · have := h5 k hk
    have := hX k hx
    omega
/-- What the first one's step makes of both. -/
theorem Two.step {w w' : World} {L g h : Nat} {_s t s' : Sm} {T U : Nat → Prop} (h2 : Pst w U h t) (h3 : ∀ k, T k → ¬ U k) (h4 : ∀ k, T k → L ≤ k ∧ k < w.heap.size) (h5 : ∀ k, U k → L ≤ k ∧ k < w.heap.size) (hL : L ≤ w.heap.size) (hs : Stp w w' T g s') : Two w' L g h s' t ∧ Chg (fun k => L ≤ k ∧ k < w.heap.size) w w' := by
  obtain ⟨T', k1, k2, k3⟩ := hs
  have hz := k3.size
  refine ⟨⟨by omega, T', U, k1, h2.chg k3 fun k hk _ hx => h3 k hx hk, fun k hk hu => ?_, fun k hk => ?_, fun k hk => by have := h5 k hk; omega⟩, k3.more fun k hk hx => h4 k hx⟩
  · rcases (k2 k hk).1 with h' | h'
    · exact h3 k h' hu
    · have := h5 k hu
      omega
  · have := (k2 k hk).2
    rcases (k2 k hk).1 with h' | h'
    · have := h4 k h'
      omega
    · omega

/-- Neither reset nor cut. -/
def Sm.Up (s : Sm) : Prop := s.rs = false ∧ s.ct = false
theorem acS_up {s : Sm} (h : s.Up) : (acS s).Up := by unfold acS; split <;> exact h
theorem wrS_up {s : Sm} (h : s.Up) (ys : List Int) : (wrS s ys).Up := h
theorem clS_up {s : Sm} (h : s.Up) : (clS s).Up := by unfold clS; split <;> exact h
theorem srS_up {s : Sm} (h : s.Up) (n : Nat) : (srS s n).Up := by
  unfold srS
  split
  · split <;> exact h
  · exact h
theorem rtS_up {s : Sm} (h : s.Up) (n : Int) : (rtS s n).Up := by
  unfold rtS
  split
  · exact h
  · exact srS_up h _
theorem avS_up {s : Sm} (h : s.Up) (ys : List Int) (fin : Bool) : (avS s ys fin).Up := by
  unfold avS
  split
  · exact h
  · split <;> exact h
theorem gnL_up {s : Sm} (h : s.Up) (d : Int) : (gnL s d).Up := by unfold gnL; split <;> exact h
theorem gnS_up {s : Sm} (h : s.Up) (d : Int) (fin : Bool) : (gnS s d fin).Up := by
  unfold gnS
  split
  · exact h
  · split
    · split
      · exact gnL_up h d
      · exact gnL_up h d
    · exact h
theorem acS_no {s : Sm} (h : acC s ≠ 0) : acS s = s := if_neg h
theorem clS_no {s : Sm} (h : wrC s ≠ 0) : clS s = s := if_neg h
theorem wrS_no {s : Sm} (h : wrC s ≠ 0) (ys : List Int) : wrS s ys = s := by
  have e : wrN s ys = 0 := if_neg h
  unfold wrS
  rw [e, List.take_zero, List.append_nil]
theorem avS_no {s : Sm} {ys : List Int} (h : avC s ys.length ≠ 0) (fin : Bool) : avS s ys fin = s := by
  unfold avC at h
  unfold avS
  by_cases h1 : (s.rs || s.ct || s.li) = true
  · rw [if_pos h1]
  · rw [if_neg h1] at h ⊢
    by_cases h2 : s.gr.l < (ys.length : Int)
    · rw [if_pos h2]
    · rw [if_neg h2] at h
      exact absurd rfl h
/-- A Read that fails: the end told, or nothing changed. -/
theorem rtS_no {s : Sm} {n : Int} (h : rtC s n ≠ 0) : (rtC s n = 25 ∧ rtS s n = { s with td := true }) ∨ (rtC s n ≠ 25 ∧ rtS s n = s) := by
  unfold rtC at h ⊢
  unfold rtS
  by_cases h1 : n < 0
  · rw [if_pos h1, if_pos (.inl (by omega))]
    exact .inr ⟨by decide, rfl⟩
  · rw [if_neg h1] at h ⊢
    by_cases h2 : s.rs = true
    · rw [if_pos h2, if_pos (.inr h2)]
      exact .inr ⟨by decide, rfl⟩
    · rw [if_neg h2] at h ⊢
      by_cases h3 : n = 0
      · rw [if_pos h3] at h
        exact absurd rfl h
      · rw [if_neg h3] at h ⊢
        rw [if_neg (by rintro (h' | h'); omega; exact h2 h')]
        unfold srC at h ⊢
        unfold srS
        by_cases h4 : s.un = []
        · rw [if_pos h4] at h ⊢
          rw [if_pos h4]
          cases h5 : s.li with
          | true =>
            rw [if_pos rfl]
            exact .inl ⟨rfl, rfl⟩
          | false =>
            rw [if_neg (by decide)]
            refine .inr ⟨?_, rfl⟩
            cases s.ct <;> decide
        · rw [if_neg h4] at h
          exact absurd rfl h
theorem rtC_le (s : Sm) (n : Int) : rtC s n ≤ 42 := by
  unfold rtC srC
  repeat' split
  all_goals decide
theorem acC_le (s : Sm) : acC s ≤ 42 := by unfold acC barC; repeat' split
                                           all_goals decide
theorem wrC_le (s : Sm) : wrC s ≤ 42 := by unfold wrC barC; repeat' split
                                           all_goals decide
theorem avC_le (s : Sm) (n : Nat) : avC s n ≤ 42 := by unfold avC; repeat' split
                                                       all_goals decide
end Go.Proofs.YthalmjjbamglgaaDoor
