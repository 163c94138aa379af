/-
  grant.Recv by contracts: New, Threshold, Arrive, Read, Left, Unread, Owed, at any pointer, nil too.
  No condition of its own: the fact 'Sen' on the world.
-/
import Derived.Test.YthalmjjbamglgaaDoorCode
import Derived.Test.YthalmjjbamglgaaDoorMore
import Derived.Deep.QuietTactic
import Derived.BigQuiet
import Derived.Lib.Hide
namespace Go.Proofs.YthalmjjbamglgaaDoor
open Go.RowKit

theorem Dr.step {w w1 : World} (h : Dr w w1) (n : Nat) : Dr w (w1.drewN n) := by
  obtain ⟨k, rfl⟩ := h
  exact ⟨k + n, (World.drewN_drewN w k n).symm⟩
theorem Dr.chg {S : Nat → Prop} {w w' : World} (h : Dr w w') : Chg S w w' := by
  obtain ⟨n, rfl⟩ := h
  exact (Chg.refl S w).drewN n

/-- What may still come, what is unread, what is owed, the window (0: nil). -/
structure Gr where
  (l u o W : Int)
  deriving DecidableEq
def Gr.none_ : Gr := ⟨0, 0, 0, 0⟩
def thr (W : Int) : Int := if W < 1 then 0 else if 2147483647 < W then 0 else (W + 1) / 2
structure Gr.Ok (s : Gr) : Prop where
  W1 : 1 ≤ s.W
  W2 : s.W ≤ 2147483647
  l0 : 0 ≤ s.l
  u0 : 0 ≤ s.u
  o0 : 0 ≤ s.o
  sum : s.l + s.u + s.o = s.W
  o1 : s.o < thr s.W
theorem thr_in {W : Int} (h1 : 1 ≤ W) (h2 : W ≤ 2147483647) : thr W = (W + 1) / 2 := by unfold thr; rw [if_neg (by omega), if_neg (by omega)]
theorem thr_le {W : Int} (h1 : 1 ≤ W) (h2 : W ≤ 2147483647) : 1 ≤ thr W ∧ thr W ≤ 1073741824 := by rw [thr_in h1 h2]; omega
def Gr.new (W : Int) : Gr := ⟨W, 0, 0, W⟩
theorem Gr.new_ok {W : Int} (h1 : 1 ≤ W) (h2 : W ≤ 2147483647) : (Gr.new W).Ok := by
  have := thr_le h1 h2
  exact ⟨h1, h2, by simp [Gr.new]; omega, by simp [Gr.new], by simp [Gr.new], by simp [Gr.new], by simp [Gr.new]; omega⟩
def grC (s : Gr) : Array Value := #[.int .i64 s.l, .int .i64 s.u, .int .i64 s.o, .int .i64 s.W]
/-- The object behind a pointer. -/
def Rc (w : World) (p : Option Addr) (s : Gr) : Prop := (s = Gr.none_ ∧ p = none) ∨ (s.Ok ∧ ∃ g, p = some ⟨g, 0, none⟩ ∧ Is w g 175 (grC s))
def at_ (p : Option Addr) (b : Nat) : Prop := ∃ g, p = some ⟨g, 0, none⟩ ∧ b = g
theorem Rc.chg {S : Nat → Prop} {w w' : World} {p : Option Addr} {s : Gr} (h : Rc w p s) (hc : Chg S w w') (hs : ∀ b, at_ p b → ¬ S b) : Rc w' p s := by
  rcases h with h | ⟨ho, g, hp, hi⟩
  · exact .inl h
  · exact .inr ⟨ho, g, hp, Is.chg hi hc (hs g ⟨g, hp, rfl⟩)⟩
theorem Rc.keep {w w' : World} {p : Option Addr} {s : Gr} (h : Rc w p s) (hc : Chg none_ w w') : Rc w' p s := h.chg hc fun _ _ hf => hf
theorem Rc.dr {w w' : World} {p : Option Addr} {s : Gr} (h : Rc w p s) (hd : Dr w w') : Rc w' p s := by
  obtain ⟨n, rfl⟩ := hd
  exact h

def arC (s : Gr) (n : Int) : Nat := if s.W = 0 then 1 else if n < 0 then 2 else if s.l < n then 16 else 0
def arS (s : Gr) (n : Int) : Gr := if arC s n = 0 then { s with l := s.l - n, u := s.u + n } else s
def rdC (s : Gr) (n : Int) : Nat := if s.W = 0 then 1 else if n < 0 then 2 else if s.u < n then 5 else 0
def rdV (s : Gr) (n : Int) : Int := if rdC s n = 0 then (if s.o + n < thr s.W then 0 else s.o + n) else 0
def rdS (s : Gr) (n : Int) : Gr := if rdC s n = 0 then (if s.o + n < thr s.W then { s with u := s.u - n, o := s.o + n } else { s with l := s.l + (s.o + n), u := s.u - n, o := 0 }) else s

theorem arC0 {s : Gr} {n : Int} (hW : s.W ≠ 0) (h : arC s n = 0) : 0 ≤ n ∧ n ≤ s.l := by
  unfold arC at h
  rw [if_neg hW] at h
  by_cases h1 : n < 0
  · rw [if_pos h1] at h
    cases h
  · rw [if_neg h1] at h
    by_cases h2 : s.l < n
    · rw [if_pos h2] at h
      cases h
    · omega
theorem rdC0 {s : Gr} {n : Int} (hW : s.W ≠ 0) (h : rdC s n = 0) : 0 ≤ n ∧ n ≤ s.u := by
  unfold rdC at h
  rw [if_neg hW] at h
  by_cases h1 : n < 0
  · rw [if_pos h1] at h
    cases h
  · rw [if_neg h1] at h
    by_cases h2 : s.u < n
    · rw [if_pos h2] at h
      cases h
    · omega
theorem arS_ok {s : Gr} (h : s.Ok) (n : Int) : (arS s n).Ok := by
  have hW : s.W ≠ 0 := by have := h.W1; omega
  unfold arS
  by_cases h0 : arC s n = 0
  · rw [if_pos h0]
    obtain ⟨n0, n1⟩ := arC0 hW h0
    exact ⟨h.W1, h.W2, by simp only; omega, by have := h.u0; simp only; omega, h.o0, by have := h.sum; simp only; omega, h.o1⟩
  · rw [if_neg h0]
    exact h
theorem rdS_ok {s : Gr} (h : s.Ok) (n : Int) : (rdS s n).Ok := by
  have hW : s.W ≠ 0 := by have := h.W1; omega
  have ht := thr_le h.W1 h.W2
  have hl0 := h.l0
  have hu0 := h.u0
  have ho0 := h.o0
  have hsum := h.sum
  unfold rdS
  by_cases h0 : rdC s n = 0
  · rw [if_pos h0]
    obtain ⟨n0, n1⟩ := rdC0 hW h0
    by_cases h1 : s.o + n < thr s.W
    · rw [if_pos h1]
      exact ⟨h.W1, h.W2, by simp only; omega, by simp only; omega, by simp only; omega, by simp only; omega, by simp only; omega⟩
    · rw [if_neg h1]
      exact ⟨h.W1, h.W2, by simp only; omega, by simp only; omega, by simp only; omega, by simp only; omega, by simp only; omega⟩
  · rw [if_neg h0]
    exact h

/-! ### New, Threshold -/
theorem grnew_ok (w : World) (W : Int) (h1 : 1 ≤ W) (h2 : W ≤ 2147483647) :
    Calls Tryd.prog 84 #[.int .i64 W] w fun e w' => ∃ g, e = .returned (.tuple #[.pointer (some ⟨g, 0, none⟩), .nilIface]) ∧ w.heap.size ≤ g ∧ Rc w' (some ⟨g, 0, none⟩) (Gr.new W) ∧ Chg none_ w w' := by
  have hok := Lib.hid (Gr.new_ok h1 h2)
  go_enter Tryd.func84, Tryd.ntmps84
  go_wp2
  go_ret2
  exact ⟨w.heap.size, rfl, Nat.le_refl _, .inr ⟨hok.out, w.heap.size, rfl, Is.new w _ _⟩, (Chg.refl none_ w).alloc _⟩
theorem grnew_no {B : Nat} {a : Nat → Addr} (w : World) (hs : Sen B a w) (W : Int) (hk : W < 1 ∨ 2147483647 < W) :
    Calls Tryd.prog 84 #[.int .i64 W] w fun e w' => e = .returned (.tuple #[.pointer none, errv a 2]) ∧ Dr w w' := by
  have hc : w.cell? ⟨4, 0, none⟩ = some (.iface 200 (.pointer (some (a 2)))) := hs.cell 2 (by decide) (by decide)
  clear hs
  by_cases h1 : W < 1
  · clear hk
    go_enter Tryd.func84, Tryd.ntmps84
    go_wp2
    go_quiet (fail)
    go_wp2
    go_ret2
    exact ⟨rfl, _, rfl⟩
  · have h2 : 2147483647 < W := by omega
    clear hk
    go_enter Tryd.func84, Tryd.ntmps84
    go_wp2
    go_quiet (fail)
    go_wp2
    go_ret2
    exact ⟨rfl, _, rfl⟩
theorem thr_any (w : World) (W : Int) :
    Calls Tryd.prog 106 #[.int .i64 W] w fun e w' => e = .returned (.int .i64 (thr W)) ∧ w = w' := by
  unfold thr
  by_cases h1 : W < 1
  · rw [if_pos h1]
    go_enter Tryd.func106, Tryd.ntmps106
    go_wp2
    go_ret
    exact ⟨rfl, rfl⟩
  · rw [if_neg h1]
    by_cases h2 : 2147483647 < W
    · rw [if_pos h2]
      go_enter Tryd.func106, Tryd.ntmps106
      go_wp2
      go_ret
      exact ⟨rfl, rfl⟩
    · rw [if_neg h2]
      have h1' : 1 ≤ W := by omega
      have h2' : W ≤ 2147483647 := by omega
      have e5 : (W + 1).tdiv 2 = (W + 1) / 2 := Int.tdiv_eq_ediv_of_nonneg (by omega)
      clear h1 h2
      go_enter Tryd.func106, Tryd.ntmps106
      go_wp2
      go_ret
      exact ⟨rfl, rfl⟩

/-! ### The counts -/
theorem gleft_any (w : World) (p : Option Addr) (s : Gr) (h : Rc w p s) : Calls Tryd.prog 65 #[.pointer p] w fun e w' => e = .returned (.int .i64 s.l) ∧ w = w' := by
  rcases h with ⟨rfl, rfl⟩ | ⟨ok, g, rfl, hi⟩
  · go_enter Tryd.func65, Tryd.ntmps65
    go_wp2
    go_ret
    exact ⟨rfl, rfl⟩
  · have c0 := hi.at_ 0 (.int .i64 s.l) rfl
    clear hi ok
    go_enter Tryd.func65, Tryd.ntmps65
    go_wp2
    go_ret
    exact ⟨rfl, rfl⟩
theorem gowed_any (w : World) (p : Option Addr) (s : Gr) (h : Rc w p s) : Calls Tryd.prog 66 #[.pointer p] w fun e w' => e = .returned (.int .i64 s.o) ∧ w = w' := by
  rcases h with ⟨rfl, rfl⟩ | ⟨ok, g, rfl, hi⟩
  · go_enter Tryd.func66, Tryd.ntmps66
    go_wp2
    go_ret
    exact ⟨rfl, rfl⟩
  · have c0 := hi.at_ 2 (.int .i64 s.o) rfl
    clear hi ok
    go_enter Tryd.func66, Tryd.ntmps66
    go_wp2
    go_ret
    exact ⟨rfl, rfl⟩
end Go.Proofs.YthalmjjbamglgaaDoor
