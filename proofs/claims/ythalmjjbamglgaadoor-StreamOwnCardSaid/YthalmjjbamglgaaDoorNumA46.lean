/-
  culvertlaw01.Apart of four slices, by contract.
  Condition: each slice is own, and their blocks lie in four rows of blocks.
-/
import Derived.Test.YthalmjjbamglgaaDoorStrF6
namespace Go.Proofs.YthalmjjbamglgaaDoor
open Go.RowKit

theorem apart4 (v1 : World) (B : Nat) (U0 U1 U2 U3 : Value) (N0 N1 N2 N3 : Nat) (a1 a2 a3 : Nat) (hB : B ≤ v1.heap.size)
    (h0 : ∃ xs, Ob v1 B 5 U0 N0 xs) (h1 : ∃ xs, Ob v1 B 5 U1 N1 xs) (h2 : ∃ xs, Ob v1 B 5 U2 N2 xs) (h3 : ∃ xs, Ob v1 B 5 U3 N3 xs)
    (hn : N0 ≤ 1000 ∧ N1 ≤ 1000 ∧ N2 ≤ 1000 ∧ N3 ≤ 1000)
    (d3 : ∀ q, obk U3 = some q → q < a1) (d0 : ∀ q, obk U0 = some q → a1 ≤ q ∧ q < a2) (d1 : ∀ q, obk U1 = some q → a2 ≤ q ∧ q < a3) (d2 : ∀ q, obk U2 = some q → a3 ≤ q) (ha : a1 ≤ a2 ∧ a2 ≤ a3) :
    Calls Tryd.prog 15 #[.slice (some ⟨v1.heap.size, 0, none⟩) 4 4] (v1.alloc (.cells #[U0, U1, U2, U3] 23)) fun e w' => e = .returned (.bool true) ∧ Chg (fun k => obk U0 = some k ∨ obk U1 = some k ∨ obk U2 = some k ∨ obk U3 = some k) v1 w' := by
  obtain ⟨U, hU⟩ : ∃ U : Nat → Value, (fun j => match j with | 0 => U0 | 1 => U1 | 2 => U2 | _ => U3) = U := ⟨_, rfl⟩
  obtain ⟨N, hN⟩ : ∃ N : Nat → Nat, (fun j => match j with | 0 => N0 | 1 => N1 | 2 => N2 | _ => N3) = N := ⟨_, rfl⟩
  have hi := Is.new v1 23 #[U0, U1, U2, U3]
  have hsz : (v1.alloc (.cells #[U0, U1, U2, U3] 23)).heap.size = v1.heap.size + 1 := by simp
  have hc : Chg none_ v1 (v1.alloc (.cells #[U0, U1, U2, U3] 23)) := (Chg.refl none_ v1).alloc _
  have hblk : ∀ j, j < 4 → ∀ q, obk (U j) = some q → q < v1.heap.size := fun j hj q hq => by
    rw [← hU] at hq
    match j, hj with
    | 0, _ => obtain ⟨_, h⟩ := h0; exact (h.block q hq).2
    | 1, _ => obtain ⟨_, h⟩ := h1; exact (h.block q hq).2
    | 2, _ => obtain ⟨_, h⟩ := h2; exact (h.block q hq).2
    | 3, _ => obtain ⟨_, h⟩ := h3; exact (h.block q hq).2
  have hq : ∀ j, j < 4 → ∀ q, obk (U j) = some q → (j = 0 ∧ a1 ≤ q ∧ q < a2) ∨ (j = 1 ∧ a2 ≤ q ∧ q < a3) ∨ (j = 2 ∧ a3 ≤ q) ∨ (j = 3 ∧ q < a1) := fun j hj q hq => by
    rw [← hU] at hq
    match j, hj with
    | 0, _ => have := d0 q hq; omega
    | 1, _ => have := d1 q hq; omega
    | 2, _ => have := d2 q hq; omega
    | 3, _ => have := d3 q hq; omega
  refine (apart_chg _ B 4 v1.heap.size 4 U N (by omega) (by omega) (fun j hj => ?_) (by omega) (fun j hj => ?_) (fun j hj => ?_) (fun j j' q hj hj' hne e e' => by have := hq j hj q e; have := hq j' hj' q e'; omega) (fun j hj e => by have := hblk j hj _ e; omega)).mono ?_
  · rw [← hU]
    match j, hj with
    | 0, _ => exact hi.at_ 0 _ rfl
    | 1, _ => exact hi.at_ 1 _ rfl
    | 2, _ => exact hi.at_ 2 _ rfl
    | 3, _ => exact hi.at_ 3 _ rfl
  · rw [← hU, ← hN]
    match j, hj with
    | 0, _ => obtain ⟨xs, h⟩ := h0; exact ⟨xs, h.chg hc fun _ _ f => f⟩
    | 1, _ => obtain ⟨xs, h⟩ := h1; exact ⟨xs, h.chg hc fun _ _ f => f⟩
    | 2, _ => obtain ⟨xs, h⟩ := h2; exact ⟨xs, h.chg hc fun _ _ f => f⟩
    | 3, _ => obtain ⟨xs, h⟩ := h3; exact ⟨xs, h.chg hc fun _ _ f => f⟩
  · rw [← hN]
    match j, hj with
    | 0, _ => show N0 ≤ _; omega
    | 1, _ => show N1 ≤ _; omega
    | 2, _ => show N2 ≤ _; omega
    | 3, _ => show N3 ≤ _; omega
  · rintro e w' ⟨he, _, k⟩
    refine ⟨he, (hc.more fun _ _ f => f.elim).then k fun q hq' h => ?_⟩
    obtain ⟨j, hj, h⟩ := h
    rw [← hU] at h
    match j, hj with
    | 0, _ => exact .inl h
    | 1, _ => exact .inr (.inl h)
    | 2, _ => exact .inr (.inr (.inl h))
    | 3, _ => exact .inr (.inr (.inr h))
end Go.Proofs.YthalmjjbamglgaaDoor
