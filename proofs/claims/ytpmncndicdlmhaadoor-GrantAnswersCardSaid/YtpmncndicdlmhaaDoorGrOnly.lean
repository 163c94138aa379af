/-
  Layer 8 in plain Lean: what Arrive and Read do within their bounds; the counts as differences modulo 2^64.
  No condition; no program in sight but the states.
-/
import Derived.Test.YtpmncndicdlmhaaDoorGrantFix
import Derived.IntWalk
namespace Go.Proofs.YtpmncndicdlmhaaDoor
open Go.RowKit

theorem ar_in {s : Gr} (h : s.Ok) {n : Int} (h0 : 0 ≤ n) (h1 : n ≤ s.l) : arC s n = 0 ∧ arS s n = { s with l := s.l - n, u := s.u + n } := by
  have hW : s.W ≠ 0 := by have := h.W1; omega
  have hc : arC s n = 0 := by unfold arC; rw [if_neg hW, if_neg (by omega), if_neg (by omega)]
  exact ⟨hc, by unfold arS; rw [if_pos hc]⟩
theorem ar_out {s : Gr} (h : s.Ok) {n : Int} (h0 : n < 0 ∨ s.l < n) : arC s n ≠ 0 ∧ arS s n = s := by
  have hW : s.W ≠ 0 := by have := h.W1; omega
  have hc : arC s n ≠ 0 := by
    unfold arC
    rw [if_neg hW]
    by_cases h1 : n < 0
    · rw [if_pos h1]; decide
    · rw [if_neg h1, if_pos (by omega)]; decide
  exact ⟨hc, by unfold arS; rw [if_neg hc]⟩
theorem rd_in {s : Gr} (h : s.Ok) {n : Int} (h0 : 0 ≤ n) (h1 : n ≤ s.u) :
    rdC s n = 0 ∧ rdV s n + (rdS s n).o = s.o + n ∧ (rdS s n).u = s.u - n ∧ (rdS s n).W = s.W ∧ (rdS s n).l = s.l + rdV s n ∧ 0 ≤ rdV s n ∧ rdV s n ≤ 2147483647 := by
  have hW : s.W ≠ 0 := by have := h.W1; omega
  have hc : rdC s n = 0 := by unfold rdC; rw [if_neg hW, if_neg (by omega), if_neg (by omega)]
  have hl0 := h.l0
  have ho0 := h.o0
  have hsum := h.sum
  have hW2 := h.W2
  have hv : rdV s n = if s.o + n < thr s.W then 0 else s.o + n := by unfold rdV; rw [if_pos hc]
  have hs : rdS s n = if s.o + n < thr s.W then { s with u := s.u - n, o := s.o + n } else { s with l := s.l + (s.o + n), u := s.u - n, o := 0 } := by unfold rdS; rw [if_pos hc]
  refine ⟨hc, ?_⟩
  have hu0 := h.u0
  by_cases h3 : s.o + n < thr s.W
  · have hv' : rdV s n = 0 := by rw [hv, if_pos h3]
    have hs' : rdS s n = { s with u := s.u - n, o := s.o + n } := by rw [hs, if_pos h3]
    rw [hv', hs']
    exact ⟨by simp only; omega, rfl, rfl, by simp only; omega, by omega, by omega⟩
  · have hv' : rdV s n = s.o + n := by rw [hv, if_neg h3]
    have hs' : rdS s n = { s with l := s.l + (s.o + n), u := s.u - n, o := 0 } := by rw [hs, if_neg h3]
    rw [hv', hs']
    exact ⟨by simp only; omega, rfl, rfl, by simp only, by omega, by omega⟩
theorem Rc.ok {w : World} {g : Nat} {s : Gr} (h : Rc w (some ⟨g, 0, none⟩) s) : s.Ok := by
  rcases h with ⟨_, h⟩ | ⟨h, _⟩
  · cases h
  · exact h
theorem Rc.low {w : World} {g : Nat} {s : Gr} (h : Rc w (some ⟨g, 0, none⟩) s) : g < w.heap.size := by
  rcases h with ⟨_, h⟩ | ⟨_, g', e, hi⟩
  · cases h
  · injection e with e
    injection e with e _
    subst e
    exact hi.lt
/-- Another object's block. -/
theorem off_at {g g' : Nat} (h : g ≠ g') : ∀ b, at_ (some ⟨g, 0, none⟩) b → ¬ at_ (some ⟨g', 0, none⟩) b := fun b hb hs => by
  obtain ⟨x, e, rfl⟩ := hb
  obtain ⟨y, e', rfl⟩ := hs
  injection e with e
  injection e with e _
  injection e' with e'
  injection e' with e' _
  omega
theorem rd_out {s : Gr} (h : s.Ok) {n : Int} (h0 : n < 0 ∨ s.u < n) : rdC s n ≠ 0 ∧ rdS s n = s ∧ rdV s n = 0 := by
  have hW : s.W ≠ 0 := by have := h.W1; omega
  have hc : rdC s n ≠ 0 := by
    unfold rdC
    rw [if_neg hW]
    by_cases h1 : n < 0
    · rw [if_pos h1]; decide
    · rw [if_neg h1, if_pos (by omega)]; decide
  exact ⟨hc, by unfold rdS; rw [if_neg hc], by unfold rdV; rw [if_neg hc]⟩
theorem arC_le (s : Gr) (n : Int) : arC s n ≤ 42 := by unfold arC; repeat' split <;> try omega
theorem rdC_le (s : Gr) (n : Int) : rdC s n ≤ 42 := by unfold rdC; repeat' split <;> try omega
theorem wrap_q (x : Int) : ∃ q : Int, IntKind.i64.wrap x = x + q * 18446744073709551616 := by
  refine ⟨-((x + 9223372036854775808) / 18446744073709551616), ?_⟩
  rw [IntKind.wrap_i64]
  omega
theorem wrap_of {x v q : Int} (h : x = v + q * 18446744073709551616) (h0 : 0 ≤ v) (h1 : v ≤ 2147483647) : IntKind.i64.wrap x = v := by
  rw [IntKind.wrap_i64]
  omega

/-- The counts are the differences modulo 2^64. -/
structure Sm (C S T : Int) (s : Gr) : Prop where
  c1 : ∃ q : Int, C - S = s.u + q * 18446744073709551616
  c2 : ∃ q : Int, S - T = s.o + q * 18446744073709551616
theorem Sm.begin (W : Int) : Sm 0 0 0 (Gr.new W) := ⟨⟨0, by simp [Gr.new]⟩, ⟨0, by simp [Gr.new]⟩⟩
theorem Sm.bd {s : Gr} (h : s.Ok) : 0 ≤ s.l ∧ s.l ≤ 2147483647 ∧ 0 ≤ s.u ∧ s.u ≤ 2147483647 ∧ 0 ≤ s.o ∧ s.o ≤ 2147483647 ∧ s.l + s.u + s.o = s.W := by
  have := h.l0
  have := h.u0
  have := h.o0
  have := h.sum
  have := h.W2
  omega
theorem Sm.unread {C S T : Int} {s : Gr} (h : Sm C S T s) (ok : s.Ok) : IntKind.i64.wrap (C - S) = s.u := by
  obtain ⟨q, e⟩ := h.c1
  have := Sm.bd ok
  exact wrap_of e (by omega) (by omega)
theorem Sm.owed {C S T : Int} {s : Gr} (h : Sm C S T s) (ok : s.Ok) : IntKind.i64.wrap (S - T) = s.o := by
  obtain ⟨q, e⟩ := h.c2
  have := Sm.bd ok
  exact wrap_of e (by omega) (by omega)
theorem Sm.left {C S T : Int} {s : Gr} (h : Sm C S T s) (ok : s.Ok) : IntKind.i64.wrap (IntKind.i64.wrap (s.W - C) + T) = s.l := by
  obtain ⟨q, e⟩ := h.c1
  obtain ⟨r, e'⟩ := h.c2
  obtain ⟨x, ex⟩ := wrap_q (s.W - C)
  have := Sm.bd ok
  refine wrap_of (q := x - q - r) ?_ (by omega) (by omega)
  rw [ex]
  omega
theorem Sm.arrive {C S T : Int} {s : Gr} (h : Sm C S T s) (ok : s.Ok) {z : Int} (z0 : 0 ≤ z) (z1 : z ≤ s.l) : Sm (IntKind.i64.wrap (C + z)) S T (arS s z) := by
  obtain ⟨q, e⟩ := h.c1
  obtain ⟨x, ex⟩ := wrap_q (C + z)
  rw [(ar_in ok z0 z1).2]
  exact ⟨⟨q + x, by rw [ex]; simp only; omega⟩, h.c2⟩
theorem Sm.read {C S T : Int} {s : Gr} (h : Sm C S T s) (ok : s.Ok) {z : Int} (z0 : 0 ≤ z) (z1 : z ≤ s.u) : Sm C (IntKind.i64.wrap (S + z)) (IntKind.i64.wrap (T + rdV s z)) (rdS s z) := by
  obtain ⟨q, e⟩ := h.c1
  obtain ⟨r, e'⟩ := h.c2
  obtain ⟨x, ex⟩ := wrap_q (S + z)
  obtain ⟨y, ey⟩ := wrap_q (T + rdV s z)
  obtain ⟨_, r1, r2, _⟩ := rd_in ok z0 z1
  exact ⟨⟨q - x, by rw [ex, r2]; omega⟩, ⟨r + x - y, by rw [ex, ey]; omega⟩⟩
end Go.Proofs.YtpmncndicdlmhaaDoor
