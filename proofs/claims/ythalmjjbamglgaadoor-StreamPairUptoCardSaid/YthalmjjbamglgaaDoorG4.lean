/-
  grant.Recv by contracts: New, Threshold, Arrive, Read, Left, Unread, Owed, at any pointer, nil too.
  grant.Recv by contracts: Arrive and Read, at any pointer, nil too.
  num.Add, Sub and Narrow by contracts.
  credit.Send by contracts: New, Have, Spend, Grant, Spent, at any pointer, nil too.
  No condition of its own.
-/
import Derived.Test.YthalmjjbamglgaaDoorCode
import Derived.Test.YthalmjjbamglgaaDoorG1
import Derived.Deep.QuietTactic
import Derived.BigQuiet
import Derived.Lib.Hide
import Derived.Handy
namespace Go.Proofs.YthalmjjbamglgaaDoor
open Go.RowKit

theorem Dr.step {w w1 : World} (h : Dr w w1) (n : Nat) : Dr w (w1.drewN n) := by
  obtain ⟨k, rfl⟩ := h
  exact ⟨k + n, (World.drewN_drewN w k n).symm⟩
theorem Dr.chg {S : Nat → Prop} {w w' : World} (h : Dr w w') : Chg S w w' := by
  obtain ⟨n, rfl⟩ := h
  exact (Chg.refl S w).drewN n

/-- What may still come, what is unread, what is owed, the window (0: nil). -/
structure Gr where
  (l u o W : Int)
  deriving DecidableEq
def Gr.none_ : Gr := ⟨0, 0, 0, 0⟩
def thr (W : Int) : Int := if W < 1 then 0 else if 2147483647 < W then 0 else (W + 1) / 2
structure Gr.Ok (s : Gr) : Prop where
  W1 : 1 ≤ s.W
  W2 : s.W ≤ 2147483647
  l0 : 0 ≤ s.l
  u0 : 0 ≤ s.u
  o0 : 0 ≤ s.o
  sum : s.l + s.u + s.o = s.W
  o1 : s.o < thr s.W
theorem thr_in {W : Int} (h1 : 1 ≤ W) (h2 : W ≤ 2147483647) : thr W = (W + 1) / 2 := by unfold thr; rw [if_neg (by omega), if_neg (by omega)]
theorem thr_le {W : Int} (h1 : 1 ≤ W) (h2 : W ≤ 2147483647) : 1 ≤ thr W ∧ thr W ≤ 1073741824 := by rw [thr_in h1 h2]; omega
def Gr.new (W : Int) : Gr := ⟨W, 0, 0, W⟩
theorem Gr.new_ok {W : Int} (h1 : 1 ≤ W) (h2 : W ≤ 2147483647) : (Gr.new W).Ok := by
  have := thr_le h1 h2
  exact ⟨h1, h2, by simp [Gr.new]; omega, by simp [Gr.new], by simp [Gr.new], by simp [Gr.new], by simp [Gr.new]; omega⟩
def grC (s : Gr) : Array Value := #[.int .i64 s.l, .int .i64 s.u, .int .i64 s.o, .int .i64 s.W]
/-- The object behind a pointer. -/
def Rc (w : World) (p : Option Addr) (s : Gr) : Prop := (s = Gr.none_ ∧ p = none) ∨ (s.Ok ∧ ∃ g, p = some ⟨g, 0, none⟩ ∧ Is w g 175 (grC s))
def at_ (p : Option Addr) (b : Nat) : Prop := ∃ g, p = some ⟨g, 0, none⟩ ∧ b = g
theorem Rc.chg {S : Nat → Prop} {w w' : World} {p : Option Addr} {s : Gr} (h : Rc w p s) (hc : Chg S w w') (hs : ∀ b, at_ p b → ¬ S b) : Rc w' p s := by
  rcases h with h | ⟨ho, g, hp, hi⟩
  · exact .inl h
  · exact .inr ⟨ho, g, hp, Is.chg hi hc (hs g ⟨g, hp, rfl⟩)⟩
theorem Rc.keep {w w' : World} {p : Option Addr} {s : Gr} (h : Rc w p s) (hc : Chg none_ w w') : Rc w' p s := h.chg hc fun _ _ hf => hf
theorem Rc.dr {w w' : World} {p : Option Addr} {s : Gr} (h : Rc w p s) (hd : Dr w w') : Rc w' p s := by
  obtain ⟨n, rfl⟩ := hd
  exact h

def arC (s : Gr) (n : Int) : Nat := if s.W = 0 then 1 else if n < 0 then 2 else if s.l < n then 16 else 0
def arS (s : Gr) (n : Int) : Gr := if arC s n = 0 then { s with l := s.l - n, u := s.u + n } else s
def rdC (s : Gr) (n : Int) : Nat := if s.W = 0 then 1 else if n < 0 then 2 else if s.u < n then 5 else 0
def rdV (s : Gr) (n : Int) : Int := if rdC s n = 0 then (if s.o + n < thr s.W then 0 else s.o + n) else 0
def rdS (s : Gr) (n : Int) : Gr := if rdC s n = 0 then (if s.o + n < thr s.W then { s with u := s.u - n, o := s.o + n } else { s with l := s.l + (s.o + n), u := s.u - n, o := 0 }) else s

theorem arC0 {s : Gr} {n : Int} (hW : s.W ≠ 0) (h : arC s n = 0) : 0 ≤ n ∧ n ≤ s.l := by
  unfold arC at h
  rw [if_neg hW] at h
  by_cases h1 : n < 0
  · rw [if_pos h1] at h
    cases h
  · rw [if_neg h1] at h
    by_cases h2 : s.l < n
    · rw [if_pos h2] at h
      cases h
    · omega
theorem rdC0 {s : Gr} {n : Int} (hW : s.W ≠ 0) (h : rdC s n = 0) : 0 ≤ n ∧ n ≤ s.u := by
  unfold rdC at h
  rw [if_neg hW] at h
  by_cases h1 : n < 0
  · rw [if_pos h1] at h
    cases h
  · rw [if_neg h1] at h
    by_cases h2 : s.u < n
    · rw [if_pos h2] at h
      cases h
    · omega
theorem arS_ok {s : Gr} (h : s.Ok) (n : Int) : (arS s n).Ok := by
  have hW : s.W ≠ 0 := by have := h.W1; omega
  unfold arS
  by_cases h0 : arC s n = 0
  · rw [if_pos h0]
    obtain ⟨n0, n1⟩ := arC0 hW h0
    exact ⟨h.W1, h.W2, by simp only; omega, by have := h.u0; simp only; omega, h.o0, by have := h.sum; simp only; omega, h.o1⟩
  · rw [if_neg h0]
    exact h
theorem rdS_ok {s : Gr} (h : s.Ok) (n : Int) : (rdS s n).Ok := by
  have hW : s.W ≠ 0 := by have := h.W1; omega
  have ht := thr_le h.W1 h.W2
  have hl0 := h.l0
  have hu0 := h.u0
  have ho0 := h.o0
  have hsum := h.sum
  unfold rdS
  by_cases h0 : rdC s n = 0
  · rw [if_pos h0]
    obtain ⟨n0, n1⟩ := rdC0 hW h0
    by_cases h1 : s.o + n < thr s.W
    · rw [if_pos h1]
      exact ⟨h.W1, h.W2, by simp only; omega, by simp only; omega, by simp only; omega, by simp only; omega, by simp only; omega⟩
    · rw [if_neg h1]
      exact ⟨h.W1, h.W2, by simp only; omega, by simp only; omega, by simp only; omega, by simp only; omega, by simp only; omega⟩
  · rw [if_neg h0]
    exact h

/-! ### New, Threshold -/
theorem grnew_ok (w : World) (W : Int) (h1 : 1 ≤ W) (h2 : W ≤ 2147483647) :
    Calls Tryd.prog 84 #[.int .i64 W] w fun e w' => ∃ g, e = .returned (.tuple #[.pointer (some ⟨g, 0, none⟩), .nilIface]) ∧ w.heap.size ≤ g ∧ Rc w' (some ⟨g, 0, none⟩) (Gr.new W) ∧ Chg none_ w w' := by
  have hok := Lib.hid (Gr.new_ok h1 h2)
  go_enter Tryd.func84, Tryd.ntmps84
  go_wp2
  go_ret2
  exact ⟨w.heap.size, rfl, Nat.le_refl _, .inr ⟨hok.out, w.heap.size, rfl, Is.new w _ _⟩, (Chg.refl none_ w).alloc _⟩
theorem grnew_no {B : Nat} {a : Nat → Addr} (w : World) (hs : Sen B a w) (W : Int) (hk : W < 1 ∨ 2147483647 < W) :
    Calls Tryd.prog 84 #[.int .i64 W] w fun e w' => e = .returned (.tuple #[.pointer none, errv a 2]) ∧ Dr w w' := by
  have hc : w.cell? ⟨4, 0, none⟩ = some (.iface 200 (.pointer (some (a 2)))) := hs.cell 2 (by decide) (by decide)
  clear hs
  by_cases h1 : W < 1
  · clear hk
    go_enter Tryd.func84, Tryd.ntmps84
    go_wp2
    go_quiet (fail)
    go_wp2
    go_ret2
    exact ⟨rfl, _, rfl⟩
  · have h2 : 2147483647 < W := by omega
    clear hk
    go_enter Tryd.func84, Tryd.ntmps84
    go_wp2
    go_quiet (fail)
    go_wp2
    go_ret2
    exact ⟨rfl, _, rfl⟩
theorem thr_any (w : World) (W : Int) :
    Calls Tryd.prog 106 #[.int .i64 W] w fun e w' => e = .returned (.int .i64 (thr W)) ∧ w = w' := by
  unfold thr
  by_cases h1 : W < 1
  · rw [if_pos h1]
    go_enter Tryd.func106, Tryd.ntmps106
    go_wp2
    go_ret
    exact ⟨rfl, rfl⟩
  · rw [if_neg h1]
    by_cases h2 : 2147483647 < W
    · rw [if_pos h2]
      go_enter Tryd.func106, Tryd.ntmps106
      go_wp2
      go_ret
      exact ⟨rfl, rfl⟩
    · rw [if_neg h2]
      have h1' : 1 ≤ W := by omega
      have h2' : W ≤ 2147483647 := by omega
      have e5 : (W + 1).tdiv 2 = (W + 1) / 2 := Int.tdiv_eq_ediv_of_nonneg (by omega)
      clear h1 h2
      go_enter Tryd.func106, Tryd.ntmps106
      go_wp2
      go_ret
      exact ⟨rfl, rfl⟩

/-! ### The counts -/
theorem gleft_any (w : World) (p : Option Addr) (s : Gr) (h : Rc w p s) : Calls Tryd.prog 65 #[.pointer p] w fun e w' => e = .returned (.int .i64 s.l) ∧ w = w' := by
  rcases h with ⟨rfl, rfl⟩ | ⟨ok, g, rfl, hi⟩
  · go_enter Tryd.func65, Tryd.ntmps65
    go_wp2
    go_ret
    exact ⟨rfl, rfl⟩
  · have c0 := hi.at_ 0 (.int .i64 s.l) rfl
    clear hi ok
    go_enter Tryd.func65, Tryd.ntmps65
    go_wp2
    go_ret
    exact ⟨rfl, rfl⟩
theorem gowed_any (w : World) (p : Option Addr) (s : Gr) (h : Rc w p s) : Calls Tryd.prog 66 #[.pointer p] w fun e w' => e = .returned (.int .i64 s.o) ∧ w = w' := by
  rcases h with ⟨rfl, rfl⟩ | ⟨ok, g, rfl, hi⟩
  · go_enter Tryd.func66, Tryd.ntmps66
    go_wp2
    go_ret
    exact ⟨rfl, rfl⟩
  · have c0 := hi.at_ 2 (.int .i64 s.o) rfl
    clear hi ok
    go_enter Tryd.func66, Tryd.ntmps66
    go_wp2
    go_ret
    exact ⟨rfl, rfl⟩
end Go.Proofs.YthalmjjbamglgaaDoor
namespace Go.Proofs.YthalmjjbamglgaaDoor
open Go.RowKit

theorem arrive_nil {B : Nat} {a : Nat → Addr} (w : World) (hs : Sen B a w) (n : Int) :
    Calls Tryd.prog 74 #[.pointer none, .int .i64 n] w fun e w' => e = .returned (errv a 1) ∧ w = w' := by
  have hc : w.cell? ⟨3, 0, none⟩ = some (.iface 200 (.pointer (some (a 1)))) := hs.cell 1 (by decide) (by decide)
  clear hs
  go_enter Tryd.func74, Tryd.ntmps74
  go_wp2
  go_ret
  exact ⟨rfl, rfl⟩

theorem arrive_any {B : Nat} {a : Nat → Addr} (w : World) (hs : Sen B a w) (p : Option Addr) (s : Gr) (h : Rc w p s) (n : Int) (n0 : -9223372036854775808 ≤ n) (n1 : n ≤ 9223372036854775807) :
    Calls Tryd.prog 74 #[.pointer p, .int .i64 n] w fun e w' => e = .returned (errv a (arC s n)) ∧ Rc w' p (arS s n) ∧ Chg (at_ p) w w' := by
  rcases h with ⟨rfl, rfl⟩ | ⟨ok, g, rfl, hi⟩
  · exact (arrive_nil w hs n).mono fun e w' h => ⟨h.1, .inl ⟨rfl, rfl⟩, by rw [← h.2]; exact Chg.refl _ _⟩
  · have k2 : w.cell? ⟨4, 0, none⟩ = some (.iface 200 (.pointer (some (a 2)))) := hs.cell 2 (by decide) (by decide)
    have k16 : w.cell? ⟨21, 0, none⟩ = some (.iface 200 (.pointer (some (a 16)))) := hs.cell 16 (by decide) (by decide)
    have c0 := hi.at_ 0 (.int .i64 s.l) rfl
    have c1 := hi.at_ 1 (.int .i64 s.u) rfl
    have f0 := hi.frozen 0
    have f1 := hi.frozen 1
    have hW : s.W ≠ 0 := by have := ok.W1; omega
    have HK := Lib.hid (arS_ok ok n)
    have HI := Lib.hid hi
    have HO := Lib.hid ok
    have l0 := ok.l0
    have u0 := ok.u0
    have l1 : s.l ≤ 2147483647 := by have := ok.sum; have := ok.W2; have := ok.o0; omega
    have u1 : s.u ≤ 2147483647 := by have := ok.sum; have := ok.W2; have := ok.o0; omega
    clear hs hi ok
    by_cases h1 : n < 0
    · have hc : arC s n = 2 := by unfold arC; rw [if_neg hW, if_pos h1]
      have hS : arS s n = s := by unfold arS; rw [hc, if_neg (by decide)]
      rw [hc, hS]
      clear hc hS hW HK
      go_enter Tryd.func74, Tryd.ntmps74
      go_wp2
      go_ret
      exact ⟨rfl, .inr ⟨HO.out, g, rfl, HI.out⟩, Chg.refl _ _⟩
    · have n2 : 0 ≤ n := by omega
      by_cases h2 : s.l < n
      · have hc : arC s n = 16 := by unfold arC; rw [if_neg hW, if_neg h1, if_pos h2]
        have hS : arS s n = s := by unfold arS; rw [hc, if_neg (by decide)]
        rw [hc, hS]
        clear hc hS hW HK h1
        go_enter Tryd.func74, Tryd.ntmps74
        go_wp2
        go_ret
        exact ⟨rfl, .inr ⟨HO.out, g, rfl, HI.out⟩, Chg.refl _ _⟩
      · have hc : arC s n = 0 := by unfold arC; rw [if_neg hW, if_neg h1, if_neg h2]
        have hS : arS s n = { s with l := s.l - n, u := s.u + n } := by unfold arS; rw [hc, if_pos rfl]
        rw [hS] at HK ⊢
        rw [hc]
        have n3 : n ≤ s.l := by omega
        have HP := Lib.hid (show Is ((w.setCell ⟨g, 0, none⟩ (.int .i64 (s.l - n))).setCell ⟨g, 1, none⟩ (.int .i64 (s.u + n))) g 175 (grC { s with l := s.l - n, u := s.u + n }) from (HI.out.put 0 _).put 1 _)
        clear hc hS hW h1 h2
        go_enter Tryd.func74, Tryd.ntmps74
        go_wp2
        go_ret
        exact ⟨rfl, .inr ⟨HK.out, g, rfl, HP.out⟩, ((Chg.refl _ w).setCell (p := ⟨g, 0, none⟩) (fun _ => ⟨g, rfl, rfl⟩) _).setCell (p := ⟨g, 1, none⟩) (fun _ => ⟨g, rfl, rfl⟩) _⟩

theorem read_nil {B : Nat} {a : Nat → Addr} (w : World) (hs : Sen B a w) (n : Int) :
    Calls Tryd.prog 71 #[.pointer none, .int .i64 n] w fun e w' => e = .returned (.tuple #[.int .u32 0, errv a 1]) ∧ Dr w w' := by
  have hc : w.cell? ⟨3, 0, none⟩ = some (.iface 200 (.pointer (some (a 1)))) := hs.cell 1 (by decide) (by decide)
  clear hs
  go_enter Tryd.func71, Tryd.ntmps71
  go_wp2
  go_quiet (fail)
  go_wp2
  go_ret2
  exact ⟨rfl, _, rfl⟩

theorem read_any {B : Nat} {a : Nat → Addr} (w : World) (hs : Sen B a w) (p : Option Addr) (s : Gr) (h : Rc w p s) (n : Int) (n0 : -9223372036854775808 ≤ n) (n1 : n ≤ 9223372036854775807) :
    Calls Tryd.prog 71 #[.pointer p, .int .i64 n] w fun e w' => e = .returned (.tuple #[.int .u32 (rdV s n), errv a (rdC s n)]) ∧ Rc w' p (rdS s n) ∧ Chg (at_ p) w w' := by
  rcases h with ⟨rfl, rfl⟩ | ⟨ok, g, rfl, hi⟩
  · exact (read_nil w hs n).mono fun e w' h => ⟨h.1, .inl ⟨rfl, rfl⟩, h.2.chg⟩
  · have k2 : w.cell? ⟨4, 0, none⟩ = some (.iface 200 (.pointer (some (a 2)))) := hs.cell 2 (by decide) (by decide)
    have k5 : w.cell? ⟨12, 0, none⟩ = some (.iface 200 (.pointer (some (a 5)))) := hs.cell 5 (by decide) (by decide)
    have c0 := hi.at_ 0 (.int .i64 s.l) rfl
    have c1 := hi.at_ 1 (.int .i64 s.u) rfl
    have c2 := hi.at_ 2 (.int .i64 s.o) rfl
    have c3 := hi.at_ 3 (.int .i64 s.W) rfl
    have f0 := hi.frozen 0
    have f1 := hi.frozen 1
    have f2 := hi.frozen 2
    have hW : s.W ≠ 0 := by have := ok.W1; omega
    have HK := Lib.hid (rdS_ok ok n)
    have HI := Lib.hid hi
    have HO := Lib.hid ok
    have l0 := ok.l0
    have u0 := ok.u0
    have o0 := ok.o0
    have l1 : s.l + s.u + s.o ≤ 2147483647 := by have := ok.sum; have := ok.W2; omega
    clear hs hi ok
    by_cases h1 : n < 0
    · have hc : rdC s n = 2 := by unfold rdC; rw [if_neg hW, if_pos h1]
      have hV : rdV s n = 0 := by unfold rdV; rw [hc, if_neg (by decide)]
      have hS : rdS s n = s := by unfold rdS; rw [hc, if_neg (by decide)]
      rw [hc, hS, hV]
      clear hc hS hV hW HK
      go_enter Tryd.func71, Tryd.ntmps71
      go_wp2
      go_quiet (fail)
      go_wp2
      go_ret2
      exact ⟨rfl, .inr ⟨HO.out, g, rfl, HI.out⟩, (Chg.refl _ _).drewN _⟩
    · have n2 : 0 ≤ n := by omega
      by_cases h2 : s.u < n
      · have hc : rdC s n = 5 := by unfold rdC; rw [if_neg hW, if_neg h1, if_pos h2]
        have hV : rdV s n = 0 := by unfold rdV; rw [hc, if_neg (by decide)]
        have hS : rdS s n = s := by unfold rdS; rw [hc, if_neg (by decide)]
        rw [hc, hS, hV]
        clear hc hS hV hW HK h1
        go_enter Tryd.func71, Tryd.ntmps71
        go_wp2
        go_quiet (fail)
        go_wp2
        go_ret2
        exact ⟨rfl, .inr ⟨HO.out, g, rfl, HI.out⟩, (Chg.refl _ _).drewN _⟩
      · have hc : rdC s n = 0 := by unfold rdC; rw [if_neg hW, if_neg h1, if_neg h2]
        have n3 : n ≤ s.u := by omega
        by_cases h3 : s.o + n < thr s.W
        · have hV : rdV s n = 0 := by unfold rdV; rw [hc, if_pos rfl, if_pos h3]
          have hS : rdS s n = { s with u := s.u - n, o := s.o + n } := by unfold rdS; rw [hc, if_pos rfl, if_pos h3]
          rw [hS] at HK ⊢
          rw [hc, hV]
          have HP := Lib.hid (show Is ((w.setCell ⟨g, 1, none⟩ (.int .i64 (s.u - n))).setCell ⟨g, 2, none⟩ (.int .i64 (s.o + n))) g 175 (grC { s with u := s.u - n, o := s.o + n }) from (HI.out.put 1 _).put 2 _)
          clear hc hS hV hW h1 h2
          go_enter Tryd.func71, Tryd.ntmps71
          go_wp2
          go_quiet (first | (go_at_call 106; refine Calls.quiet_of_same ((thr_any _ _).mono fun e w' h => ⟨h.1, h.2.symm⟩)))
          go_wp2
          go_ret2
          exact ⟨rfl, .inr ⟨HK.out, g, rfl, HP.out⟩, (((Chg.refl _ w).setCell (p := ⟨g, 1, none⟩) (fun _ => ⟨g, rfl, rfl⟩) _).setCell (p := ⟨g, 2, none⟩) (fun _ => ⟨g, rfl, rfl⟩) _).drewN _⟩
        · have hV : rdV s n = s.o + n := by unfold rdV; rw [hc, if_pos rfl, if_neg h3]
          have hS : rdS s n = { s with l := s.l + (s.o + n), u := s.u - n, o := 0 } := by unfold rdS; rw [hc, if_pos rfl, if_neg h3]
          rw [hS] at HK ⊢
          rw [hc, hV]
          have h3' : thr s.W ≤ s.o + n := by omega
          clear hc hS hV hW h1 h2 h3
          go_enter Tryd.func71, Tryd.ntmps71
          go_wp2
          go_quiet (first | (go_at_call 106; refine Calls.quiet_of_same ((thr_any _ _).mono fun e w' h => ⟨h.1, h.2.symm⟩)))
          go_wp2
          go_ret2
          exact ⟨rfl, .inr ⟨HK.out, g, rfl, ((((HI.out.put 1 _).put 2 _).drewN _).put 0 _).put 2 _⟩, (((((Chg.refl _ w).setCell (p := ⟨g, 1, none⟩) (fun _ => ⟨g, rfl, rfl⟩) _).setCell (p := ⟨g, 2, none⟩) (fun _ => ⟨g, rfl, rfl⟩) _).drewN _).setCell (p := ⟨g, 0, none⟩) (fun _ => ⟨g, rfl, rfl⟩) _).setCell (p := ⟨g, 2, none⟩) (fun _ => ⟨g, rfl, rfl⟩) _⟩
end Go.Proofs.YthalmjjbamglgaaDoor
namespace Go.Proofs.YthalmjjbamglgaaDoor
open Go.RowKit
theorem add_ok (w : World) (x y : Int) (hx : 0 ≤ x) (hy : 0 ≤ y) (h : x + y ≤ 4294967295) :
    Calls Tryd.prog 48 #[.int .u32 x, .int .u32 y] w fun e w' => e = .returned (.tuple #[.int .u32 (x + y), .nilIface]) ∧ w = w' := by
  have hy2 : y ≤ 4294967295 := by omega
  have hx2 : x ≤ 4294967295 - y := by omega
  go_enter Tryd.func48, Tryd.ntmps48
  go_wp2
  go_ret2
  exact ⟨rfl, rfl⟩
theorem add_no {B : Nat} {a : Nat → Addr} (w : World) (hs : Sen B a w) (x y : Int) (hy : 0 ≤ y) (hy2 : y ≤ 4294967295) (h : 4294967295 < x + y) :
    Calls Tryd.prog 48 #[.int .u32 x, .int .u32 y] w fun e w' => e = .returned (.tuple #[.int .u32 0, .iface 200 (.pointer (some (a 4)))]) ∧ Dr w w' := by
  have hc : w.cell? ⟨11, 0, none⟩ = some (.iface 200 (.pointer (some (a 4)))) := hs.cell 4 (by decide) (by decide)
  have hxy : 4294967295 - y < x := by omega
  go_enter Tryd.func48, Tryd.ntmps48
  go_wp2
  go_quiet (fail)
  go_wp2
  go_ret2
  exact ⟨rfl, _, rfl⟩
theorem sub_ok (w : World) (x y : Int) (hx : 0 ≤ x) (hx2 : x ≤ 4294967295) (hy : 0 ≤ y) (h : y ≤ x) :
    Calls Tryd.prog 112 #[.int .u32 x, .int .u32 y] w fun e w' => e = .returned (.tuple #[.int .u32 (x - y), .nilIface]) ∧ w = w' := by
  go_enter Tryd.func112, Tryd.ntmps112
  go_wp2
  go_ret2
  exact ⟨rfl, rfl⟩
theorem sub_no {B : Nat} {a : Nat → Addr} (w : World) (hs : Sen B a w) (x y : Int) (h : x < y) :
    Calls Tryd.prog 112 #[.int .u32 x, .int .u32 y] w fun e w' => e = .returned (.tuple #[.int .u32 0, .iface 200 (.pointer (some (a 5)))]) ∧ Dr w w' := by
  have hc : w.cell? ⟨12, 0, none⟩ = some (.iface 200 (.pointer (some (a 5)))) := hs.cell 5 (by decide) (by decide)
  go_enter Tryd.func112, Tryd.ntmps112
  go_wp2
  go_quiet (fail)
  go_wp2
  go_ret2
  exact ⟨rfl, _, rfl⟩
theorem narrow_ok (w : World) (x : Int) (hx : 0 ≤ x) (hx2 : x ≤ 4294967295) :
    Calls Tryd.prog 111 #[.int .i64 x] w fun e w' => e = .returned (.tuple #[.int .u32 x, .nilIface]) ∧ w = w' := by
  go_enter Tryd.func111, Tryd.ntmps111
  go_wp2
  go_ret2
  exact ⟨rfl, rfl⟩
theorem narrow_no {B : Nat} {a : Nat → Addr} (w : World) (hs : Sen B a w) (x : Int) (h : x < 0 ∨ 4294967295 < x) :
    Calls Tryd.prog 111 #[.int .i64 x] w fun e w' => e = .returned (.tuple #[.int .u32 0, .iface 200 (.pointer (some (a 2)))]) ∧ Dr w w' := by
  have hc : w.cell? ⟨4, 0, none⟩ = some (.iface 200 (.pointer (some (a 2)))) := hs.cell 2 (by decide) (by decide)
  by_cases h0 : x < 0
  · go_enter Tryd.func111, Tryd.ntmps111
    go_wp2
    go_quiet (fail)
    go_wp2
    go_ret2
    exact ⟨rfl, _, rfl⟩
  · have h1 : 4294967295 < x := by omega
    go_enter Tryd.func111, Tryd.ntmps111
    go_wp2
    go_quiet (fail)
    go_wp2
    go_ret2
    exact ⟨rfl, _, rfl⟩
end Go.Proofs.YthalmjjbamglgaaDoor
namespace Go.Proofs.YthalmjjbamglgaaDoor
open Go.RowKit

/-- The window (0: nil), the credit, what was spent modulo 2^64. -/
structure Cr where
  (W h sp : Int)
  deriving DecidableEq
def Cr.none_ : Cr := ⟨0, 0, 0⟩
structure Cr.Ok (s : Cr) : Prop where
  W1 : 1 ≤ s.W
  W2 : s.W ≤ 2147483647
  h0 : 0 ≤ s.h
  h1 : s.h ≤ s.W
  s0 : 0 ≤ s.sp
  s1 : s.sp ≤ 18446744073709551615
def Cr.new (W : Int) : Cr := ⟨W, W, 0⟩
theorem Cr.new_ok {W : Int} (h1 : 1 ≤ W) (h2 : W ≤ 2147483647) : (Cr.new W).Ok := ⟨h1, h2, by simp only [Cr.new]; omega, by simp only [Cr.new]; omega, by simp [Cr.new], by simp [Cr.new]⟩
def crC (s : Cr) : Array Value := #[.int .u32 s.W, .int .u32 s.h, .int .u64 s.sp]
/-- The object behind a pointer. -/
def Cd (w : World) (p : Option Addr) (s : Cr) : Prop := (s = Cr.none_ ∧ p = none) ∨ (s.Ok ∧ ∃ g, p = some ⟨g, 0, none⟩ ∧ Is w g 171 (crC s))
theorem Cd.chg {S : Nat → Prop} {w w' : World} {p : Option Addr} {s : Cr} (h : Cd w p s) (hc : Chg S w w') (hs : ∀ b, at_ p b → ¬ S b) : Cd w' p s := by
  rcases h with h | ⟨ho, g, hp, hi⟩
  · exact .inl h
  · exact .inr ⟨ho, g, hp, Is.chg hi hc (hs g ⟨g, hp, rfl⟩)⟩
theorem Cd.keep {w w' : World} {p : Option Addr} {s : Cr} (h : Cd w p s) (hc : Chg none_ w w') : Cd w' p s := h.chg hc fun _ _ hf => hf
theorem Cd.dr {w w' : World} {p : Option Addr} {s : Cr} (h : Cd w p s) (hd : Dr w w') : Cd w' p s := by
  obtain ⟨n, rfl⟩ := hd
  exact h

def spC (s : Cr) (n : Int) : Nat := if s.W = 0 then 1 else if n < 0 then 2 else if s.h < n then 5 else 0
def spS (s : Cr) (n : Int) : Cr := if spC s n = 0 then { s with h := s.h - n, sp := (s.sp + n) % 18446744073709551616 } else s
def gaC (s : Cr) (d : Int) : Nat := if s.W = 0 then 1 else if s.W < s.h + d then 17 else 0
def gaS (s : Cr) (d : Int) : Cr := if gaC s d = 0 then { s with h := s.h + d } else s
theorem spC0 {s : Cr} {n : Int} (hW : s.W ≠ 0) (h : spC s n = 0) : 0 ≤ n ∧ n ≤ s.h := by
  unfold spC at h
  rw [if_neg hW] at h
  by_cases h1 : n < 0
  · rw [if_pos h1] at h; cases h
  · rw [if_neg h1] at h
    by_cases h2 : s.h < n
    · rw [if_pos h2] at h; cases h
    · omega
theorem spS_ok {s : Cr} (h : s.Ok) (n : Int) : (spS s n).Ok := by
  have hW : s.W ≠ 0 := by have := h.W1; omega
  have := h.h0
  have := h.h1
  unfold spS
  by_cases h0 : spC s n = 0
  · rw [if_pos h0]
    obtain ⟨n0, n1⟩ := spC0 hW h0
    exact ⟨h.W1, h.W2, by simp only; omega, by simp only; omega, by simp only; omega, by simp only; omega⟩
  · rw [if_neg h0]; exact h
theorem gaS_ok {s : Cr} (h : s.Ok) (d : Int) (d0 : 0 ≤ d) : (gaS s d).Ok := by
  have := h.h0
  have := h.h1
  have hW : s.W ≠ 0 := by have := h.W1; omega
  unfold gaS gaC
  rw [if_neg hW]
  by_cases h1 : s.W < s.h + d
  · rw [if_pos h1, if_neg (by decide)]; exact h
  · rw [if_neg h1, if_pos rfl]
    exact ⟨h.W1, h.W2, by simp only; omega, by simp only; omega, h.s0, h.s1⟩

theorem crnew_ok (w : World) (W : Int) (h1 : 1 ≤ W) (h2 : W ≤ 2147483647) :
    Calls Tryd.prog 83 #[.int .i64 W] w fun e w' => ∃ g, e = .returned (.tuple #[.pointer (some ⟨g, 0, none⟩), .nilIface]) ∧ w.heap.size ≤ g ∧ Cd w' (some ⟨g, 0, none⟩) (Cr.new W) ∧ Chg none_ w w' := by
  have hok := Lib.hid (Cr.new_ok h1 h2)
  go_enter Tryd.func83, Tryd.ntmps83
  go_wp2
  go_ret2
  exact ⟨w.heap.size, rfl, Nat.le_refl _, .inr ⟨hok.out, w.heap.size, rfl, Is.new w _ _⟩, (Chg.refl none_ w).alloc _⟩
theorem crnew_no {B : Nat} {a : Nat → Addr} (w : World) (hs : Sen B a w) (W : Int) (hk : W < 1 ∨ 2147483647 < W) :
    Calls Tryd.prog 83 #[.int .i64 W] w fun e w' => e = .returned (.tuple #[.pointer none, errv a 2]) ∧ Dr w w' := by
  have hc : w.cell? ⟨4, 0, none⟩ = some (.iface 200 (.pointer (some (a 2)))) := hs.cell 2 (by decide) (by decide)
  clear hs
  by_cases h1 : W < 1
  · clear hk
    go_enter Tryd.func83, Tryd.ntmps83
    go_wp2
    go_quiet (fail)
    go_wp2
    go_ret2
    exact ⟨rfl, _, rfl⟩
  · have h2 : 2147483647 < W := by omega
    clear hk
    go_enter Tryd.func83, Tryd.ntmps83
    go_wp2
    go_quiet (fail)
    go_wp2
    go_ret2
    exact ⟨rfl, _, rfl⟩
theorem crhave_any (w : World) (p : Option Addr) (s : Cr) (h : Cd w p s) : Calls Tryd.prog 64 #[.pointer p] w fun e w' => e = .returned (.int .u32 s.h) ∧ w = w' := by
  rcases h with ⟨rfl, rfl⟩ | ⟨ok, g, rfl, hi⟩
  · go_enter Tryd.func64, Tryd.ntmps64
    go_wp2
    go_ret
    exact ⟨rfl, rfl⟩
  · have c0 := hi.at_ 1 (.int .u32 s.h) rfl
    clear hi ok
    go_enter Tryd.func64, Tryd.ntmps64
    go_wp2
    go_ret
    exact ⟨rfl, rfl⟩

theorem spend_nil {B : Nat} {a : Nat → Addr} (w : World) (hs : Sen B a w) (n : Int) :
    Calls Tryd.prog 76 #[.pointer none, .int .i64 n] w fun e w' => e = .returned (errv a 1) ∧ w = w' := by
  have hc : w.cell? ⟨3, 0, none⟩ = some (.iface 200 (.pointer (some (a 1)))) := hs.cell 1 (by decide) (by decide)
  clear hs
  go_enter Tryd.func76, Tryd.ntmps76
  go_wp2
  go_ret
  exact ⟨rfl, rfl⟩
theorem grant_nil {B : Nat} {a : Nat → Addr} (w : World) (hs : Sen B a w) (d : Int) :
    Calls Tryd.prog 75 #[.pointer none, .int .u32 d] w fun e w' => e = .returned (errv a 1) ∧ w = w' := by
  have hc : w.cell? ⟨3, 0, none⟩ = some (.iface 200 (.pointer (some (a 1)))) := hs.cell 1 (by decide) (by decide)
  clear hs
  go_enter Tryd.func75, Tryd.ntmps75
  go_wp2
  go_ret
  exact ⟨rfl, rfl⟩

theorem spend_any {B : Nat} {a : Nat → Addr} (w : World) (hs : Sen B a w) (p : Option Addr) (s : Cr) (h : Cd w p s) (n : Int) :
    Calls Tryd.prog 76 #[.pointer p, .int .i64 n] w fun e w' => e = .returned (errv a (spC s n)) ∧ Cd w' p (spS s n) ∧ Chg (at_ p) w w' := by
  rcases h with ⟨rfl, rfl⟩ | ⟨ok, g, rfl, hi⟩
  · exact (spend_nil w hs n).mono fun e w' h => ⟨h.1, .inl ⟨rfl, rfl⟩, by rw [← h.2]; exact Chg.refl _ _⟩
  · have hW : s.W ≠ 0 := by have := ok.W1; omega
    have h0 := ok.h0
    have h1 : s.h ≤ 2147483647 := by have := ok.h1; have := ok.W2; omega
    have s0 := ok.s0
    have s1 := ok.s1
    have HK := Lib.hid (spS_ok ok n)
    have HO := Lib.hid ok
    have HS := Lib.hid hs
    have k2 : w.cell? ⟨4, 0, none⟩ = some (.iface 200 (.pointer (some (a 2)))) := hs.cell 2 (by decide) (by decide)
    have k5 : w.cell? ⟨12, 0, none⟩ = some (.iface 200 (.pointer (some (a 5)))) := hs.cell 5 (by decide) (by decide)
    have HI := Lib.hid hi
    have c1 := hi.at_ 1 (.int .u32 s.h) rfl
    have c2 := hi.at_ 2 (.int .u64 s.sp) rfl
    have f1 := hi.frozen 1
    have f2 := hi.frozen 2
    clear hs hi ok
    by_cases hn : n < 0
    · have hc : spC s n = 2 := by unfold spC; rw [if_neg hW, if_pos hn]
      have hS : spS s n = s := by unfold spS; rw [hc, if_neg (by decide)]
      rw [hc, hS]
      clear hc hS hW HK
      go_enter Tryd.func76, Tryd.ntmps76
      go_wp2_with fail
      refine (narrow_no w HS.out n (.inl hn)).mono ?_
      rintro e w1 ⟨rfl, k, rfl⟩
      go_wp2_with fail
      refine (is_hit _ (HS.out.drewN k) 2 (by decide) (by decide)).mono ?_
      rintro e w' ⟨rfl, rfl⟩
      go_wp2
      go_ret
      exact ⟨rfl, .inr ⟨HO.out, g, rfl, HI.out⟩, (Chg.refl _ _).drewN _⟩
    · by_cases hm : 4294967295 < n
      · have hc : spC s n = 5 := by unfold spC; rw [if_neg hW, if_neg hn, if_pos (by omega)]
        have hS : spS s n = s := by unfold spS; rw [hc, if_neg (by decide)]
        rw [hc, hS]
        have n0 : 0 ≤ n := by omega
        clear hc hS hW HK hn
        go_enter Tryd.func76, Tryd.ntmps76
        go_wp2_with fail
        refine (narrow_no w HS.out n (.inr hm)).mono ?_
        rintro e w1 ⟨rfl, k, rfl⟩
        go_wp2_with fail
        refine (is_hit _ (HS.out.drewN k) 2 (by decide) (by decide)).mono ?_
        rintro e w' ⟨rfl, rfl⟩
        go_wp2
        go_ret
        exact ⟨rfl, .inr ⟨HO.out, g, rfl, HI.out⟩, (Chg.refl _ _).drewN _⟩
      · have n0 : 0 ≤ n := by omega
        have n1 : n ≤ 4294967295 := by omega
        by_cases hl : s.h < n
        · have hc : spC s n = 5 := by unfold spC; rw [if_neg hW, if_neg hn, if_pos hl]
          have hS : spS s n = s := by unfold spS; rw [hc, if_neg (by decide)]
          rw [hc, hS]
          clear hc hS hW HK hn hm
          go_enter Tryd.func76, Tryd.ntmps76
          go_wp2_with fail
          refine (narrow_ok w n n0 n1).mono ?_
          rintro e w1 ⟨rfl, rfl⟩
          go_wp2_with fail
          refine (is_nil _ w).mono ?_
          rintro e w' ⟨rfl, rfl⟩
          go_wp2_with fail
          refine (sub_no w HS.out s.h n hl).mono ?_
          rintro e w1 ⟨rfl, k, rfl⟩
          go_wp2
          go_ret
          exact ⟨rfl, .inr ⟨HO.out, g, rfl, HI.out⟩, (Chg.refl _ _).drewN _⟩
        · have hc : spC s n = 0 := by unfold spC; rw [if_neg hW, if_neg hn, if_neg hl]
          have hS : spS s n = { s with h := s.h - n, sp := (s.sp + n) % 18446744073709551616 } := by unfold spS; rw [hc, if_pos rfl]
          rw [hS] at HK ⊢
          rw [hc]
          have n2 : n ≤ s.h := by omega
          have ew : IntKind.u64.wrap (s.sp + n) = (s.sp + n) % 18446744073709551616 := rfl
          clear hc hS hW hn hm hl
          go_enter Tryd.func76, Tryd.ntmps76
          go_wp2_with fail
          refine (narrow_ok w n n0 n1).mono ?_
          rintro e w1 ⟨rfl, rfl⟩
          go_wp2_with fail
          refine (is_nil _ w).mono ?_
          rintro e w' ⟨rfl, rfl⟩
          go_wp2_with fail
          refine (sub_ok w s.h n h0 (by omega) n0 n2).mono ?_
          rintro e w1 ⟨rfl, rfl⟩
          go_wp2
          go_ret
          exact ⟨rfl, .inr ⟨HK.out, g, rfl, (HI.out.put 1 _).put 2 _⟩, ((Chg.refl _ w).setCell (p := ⟨g, 1, none⟩) (fun _ => ⟨g, rfl, rfl⟩) _).setCell (p := ⟨g, 2, none⟩) (fun _ => ⟨g, rfl, rfl⟩) _⟩

theorem grant_any {B : Nat} {a : Nat → Addr} (w : World) (hs : Sen B a w) (p : Option Addr) (s : Cr) (h : Cd w p s) (d : Int) (d0 : 0 ≤ d) (d1 : d ≤ 4294967295) :
    Calls Tryd.prog 75 #[.pointer p, .int .u32 d] w fun e w' => e = .returned (errv a (gaC s d)) ∧ Cd w' p (gaS s d) ∧ Chg (at_ p) w w' := by
  rcases h with ⟨rfl, rfl⟩ | ⟨ok, g, rfl, hi⟩
  · exact (grant_nil w hs d).mono fun e w' h => ⟨h.1, .inl ⟨rfl, rfl⟩, by rw [← h.2]; exact Chg.refl _ _⟩
  · have hW : s.W ≠ 0 := by have := ok.W1; omega
    have h0 := ok.h0
    have h1 := ok.h1
    have W2 := ok.W2
    have HK := Lib.hid (gaS_ok ok d d0)
    have HO := Lib.hid ok
    have HS := Lib.hid hs
    have k4 : w.cell? ⟨11, 0, none⟩ = some (.iface 200 (.pointer (some (a 4)))) := hs.cell 4 (by decide) (by decide)
    have k17 : w.cell? ⟨22, 0, none⟩ = some (.iface 200 (.pointer (some (a 17)))) := hs.cell 17 (by decide) (by decide)
    have HI := Lib.hid hi
    have c0 := hi.at_ 0 (.int .u32 s.W) rfl
    have c1 := hi.at_ 1 (.int .u32 s.h) rfl
    have f1 := hi.frozen 1
    clear hs hi ok
    by_cases hm : s.W < s.h + d
    · have hc : gaC s d = 17 := by unfold gaC; rw [if_neg hW, if_pos hm]
      have hS : gaS s d = s := by unfold gaS; rw [hc, if_neg (by decide)]
      rw [hc, hS]
      clear hc hS hW HK
      by_cases hx : 4294967295 < s.h + d
      · go_enter Tryd.func75, Tryd.ntmps75
        go_wp2_with fail
        refine (add_no w HS.out s.h d d0 d1 hx).mono ?_
        rintro e w1 ⟨rfl, k, rfl⟩
        go_wp2_with fail
        refine (is_hit _ (HS.out.drewN k) 4 (by decide) (by decide)).mono ?_
        rintro e w' ⟨rfl, rfl⟩
        go_wp2
        go_ret
        exact ⟨rfl, .inr ⟨HO.out, g, rfl, HI.out⟩, (Chg.refl _ _).drewN _⟩
      · have hx' : s.h + d ≤ 4294967295 := by omega
        clear hx
        go_enter Tryd.func75, Tryd.ntmps75
        go_wp2_with fail
        refine (add_ok w s.h d h0 d0 hx').mono ?_
        rintro e w1 ⟨rfl, rfl⟩
        go_wp2_with fail
        refine (is_nil _ w).mono ?_
        rintro e w' ⟨rfl, rfl⟩
        go_wp2
        go_ret
        exact ⟨rfl, .inr ⟨HO.out, g, rfl, HI.out⟩, Chg.refl _ _⟩
    · have hc : gaC s d = 0 := by unfold gaC; rw [if_neg hW, if_neg hm]
      have hS : gaS s d = { s with h := s.h + d } := by unfold gaS; rw [hc, if_pos rfl]
      rw [hS] at HK ⊢
      rw [hc]
      have hx : s.h + d ≤ s.W := by omega
      clear hc hS hW hm
      go_enter Tryd.func75, Tryd.ntmps75
      go_wp2_with fail
      refine (add_ok w s.h d h0 d0 (by omega)).mono ?_
      rintro e w1 ⟨rfl, rfl⟩
      go_wp2_with fail
      refine (is_nil _ w).mono ?_
      rintro e w' ⟨rfl, rfl⟩
      go_wp2
      go_ret
      exact ⟨rfl, .inr ⟨HK.out, g, rfl, HI.out.put 1 _⟩, (Chg.refl _ w).setCell (p := ⟨g, 1, none⟩) (fun _ => ⟨g, rfl, rfl⟩) _⟩
end Go.Proofs.YthalmjjbamglgaaDoor
