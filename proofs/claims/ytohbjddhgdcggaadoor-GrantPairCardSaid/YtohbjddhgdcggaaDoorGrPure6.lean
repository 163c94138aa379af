/-
  Layers 7 and 8 in plain Lean: what Arrive, Read, Spend and Grant do within their bounds.
  No condition; no program in sight but the states.
-/
import Derived.Test.YtohbjddhgdcggaaDoorCreditRef6
import Derived.Test.YtohbjddhgdcggaaDoorGrantFix6
namespace Go.Proofs.YtohbjddhgdcggaaDoor
open Go.RowKit

theorem ar_in {s : Gr} (h : s.Ok) {n : Int} (h0 : 0 ≤ n) (h1 : n ≤ s.l) : arC s n = 0 ∧ arS s n = { s with l := s.l - n, u := s.u + n } := by
  have hW : s.W ≠ 0 := by have := h.W1; omega
  have hc : arC s n = 0 := by unfold arC; rw [if_neg hW, if_neg (by omega), if_neg (by omega)]
  exact ⟨hc, by unfold arS; rw [if_pos hc]⟩
theorem ar_out {s : Gr} (h : s.Ok) {n : Int} (h0 : n < 0 ∨ s.l < n) : arC s n ≠ 0 ∧ arS s n = s := by
  have hW : s.W ≠ 0 := by have := h.W1; omega
  have hc : arC s n ≠ 0 := by
    unfold arC
    rw [if_neg hW]
    by_cases h1 : n < 0
    · rw [if_pos h1]; decide
    · rw [if_neg h1, if_pos (by omega)]; decide
  exact ⟨hc, by unfold arS; rw [if_neg hc]⟩
theorem rd_in {s : Gr} (h : s.Ok) {n : Int} (h0 : 0 ≤ n) (h1 : n ≤ s.u) :
    rdC s n = 0 ∧ rdV s n + (rdS s n).o = s.o + n ∧ (rdS s n).u = s.u - n ∧ (rdS s n).W = s.W ∧ (rdS s n).l = s.l + rdV s n ∧ 0 ≤ rdV s n ∧ rdV s n ≤ 2147483647 := by
  have hW : s.W ≠ 0 := by have := h.W1; omega
  have hc : rdC s n = 0 := by unfold rdC; rw [if_neg hW, if_neg (by omega), if_neg (by omega)]
  have hl0 := h.l0
  have ho0 := h.o0
  have hsum := h.sum
  have hW2 := h.W2
  have hv : rdV s n = if s.o + n < thr s.W then 0 else s.o + n := by unfold rdV; rw [if_pos hc]
  have hs : rdS s n = if s.o + n < thr s.W then { s with u := s.u - n, o := s.o + n } else { s with l := s.l + (s.o + n), u := s.u - n, o := 0 } := by unfold rdS; rw [if_pos hc]
  refine ⟨hc, ?_⟩
  have hu0 := h.u0
  by_cases h3 : s.o + n < thr s.W
  · have hv' : rdV s n = 0 := by rw [hv, if_pos h3]
    have hs' : rdS s n = { s with u := s.u - n, o := s.o + n } := by rw [hs, if_pos h3]
    rw [hv', hs']
    exact ⟨by simp only; omega, rfl, rfl, by simp only; omega, by omega, by omega⟩
  · have hv' : rdV s n = s.o + n := by rw [hv, if_neg h3]
    have hs' : rdS s n = { s with l := s.l + (s.o + n), u := s.u - n, o := 0 } := by rw [hs, if_neg h3]
    rw [hv', hs']
    exact ⟨by simp only; omega, rfl, rfl, by simp only, by omega, by omega⟩
theorem sp_in {s : Cr} (h : s.Ok) {n : Int} (h0 : 0 ≤ n) (h1 : n ≤ s.h) : spC s n = 0 ∧ spS s n = { s with h := s.h - n, sp := (s.sp + n) % 18446744073709551616 } := by
  have hW : s.W ≠ 0 := by have := h.W1; omega
  have hc : spC s n = 0 := by unfold spC; rw [if_neg hW, if_neg (by omega), if_neg (by omega)]
  exact ⟨hc, by unfold spS; rw [if_pos hc]⟩
theorem sp_out {s : Cr} (h : s.Ok) {n : Int} (h0 : n < 0 ∨ s.h < n) : spC s n ≠ 0 ∧ spC s n ≤ 42 ∧ spS s n = s := by
  have hW : s.W ≠ 0 := by have := h.W1; omega
  have hc : spC s n = 2 ∨ spC s n = 5 := by
    unfold spC
    rw [if_neg hW]
    by_cases h1 : n < 0
    · rw [if_pos h1]; exact .inl rfl
    · rw [if_neg h1, if_pos (by omega)]; exact .inr rfl
  exact ⟨by omega, by omega, by unfold spS; rw [if_neg (by omega)]⟩
theorem ga_in {s : Cr} (h : s.Ok) {d : Int} (h1 : s.h + d ≤ s.W) : gaC s d = 0 ∧ gaS s d = { s with h := s.h + d } := by
  have hW : s.W ≠ 0 := by have := h.W1; omega
  have hc : gaC s d = 0 := by unfold gaC; rw [if_neg hW, if_neg (by omega)]
  exact ⟨hc, by unfold gaS; rw [if_pos hc]⟩
theorem ga_out {s : Cr} (h : s.Ok) {d : Int} (h1 : s.W < s.h + d) : gaC s d = 17 ∧ gaS s d = s := by
  have hW : s.W ≠ 0 := by have := h.W1; omega
  have hc : gaC s d = 17 := by unfold gaC; rw [if_neg hW, if_pos h1]
  exact ⟨hc, by unfold gaS; rw [if_neg (by rw [hc]; decide)]⟩
theorem spC_le (s : Cr) (n : Int) : spC s n ≤ 42 := by unfold spC; repeat' split <;> try omega
theorem gaC_le (s : Cr) (n : Int) : gaC s n ≤ 42 := by unfold gaC; repeat' split <;> try omega
theorem Cd.ok {w : World} {g : Nat} {s : Cr} (h : Cd w (some ⟨g, 0, none⟩) s) : s.Ok := by
  rcases h with ⟨_, h⟩ | ⟨h, _⟩
  · cases h
  · exact h
theorem Cd.low {w : World} {g : Nat} {s : Cr} (h : Cd w (some ⟨g, 0, none⟩) s) : g < w.heap.size := by
  rcases h with ⟨_, h⟩ | ⟨_, g', e, hi⟩
  · cases h
  · injection e with e
    injection e with e _
    subst e
    exact hi.lt
theorem Rc.ok {w : World} {g : Nat} {s : Gr} (h : Rc w (some ⟨g, 0, none⟩) s) : s.Ok := by
  rcases h with ⟨_, h⟩ | ⟨h, _⟩
  · cases h
  · exact h
theorem Rc.low {w : World} {g : Nat} {s : Gr} (h : Rc w (some ⟨g, 0, none⟩) s) : g < w.heap.size := by
  rcases h with ⟨_, h⟩ | ⟨_, g', e, hi⟩
  · cases h
  · injection e with e
    injection e with e _
    subst e
    exact hi.lt
/-- Another object's block. -/
theorem off_at {g g' : Nat} (h : g ≠ g') : ∀ b, at_ (some ⟨g, 0, none⟩) b → ¬ at_ (some ⟨g', 0, none⟩) b := fun b hb hs => by
  obtain ⟨x, e, rfl⟩ := hb
  obtain ⟨y, e', rfl⟩ := hs
  injection e with e
  injection e with e _
  injection e' with e'
  injection e' with e' _
  omega
end Go.Proofs.YtohbjddhgdcggaaDoor
