/-
  credit.Send by contracts: New, Have, Spend, Grant, Spent, at any pointer, nil too.
  No condition of its own: the fact 'Sen' on the world.
-/
import Derived.Test.YthalmjjbamglgaaDoorGrant
import Derived.Test.YthalmjjbamglgaaDoorNumA
import Derived.Handy
namespace Go.Proofs.YthalmjjbamglgaaDoor
open Go.RowKit

/-- The window (0: nil), the credit, what was spent modulo 2^64. -/
structure Cr where
  (W h sp : Int)
  deriving DecidableEq
def Cr.none_ : Cr := ⟨0, 0, 0⟩
structure Cr.Ok (s : Cr) : Prop where
  W1 : 1 ≤ s.W
  W2 : s.W ≤ 2147483647
  h0 : 0 ≤ s.h
  h1 : s.h ≤ s.W
  s0 : 0 ≤ s.sp
  s1 : s.sp ≤ 18446744073709551615
def Cr.new (W : Int) : Cr := ⟨W, W, 0⟩
theorem Cr.new_ok {W : Int} (h1 : 1 ≤ W) (h2 : W ≤ 2147483647) : (Cr.new W).Ok := ⟨h1, h2, by simp only [Cr.new]; omega, by simp only [Cr.new]; omega, by simp [Cr.new], by simp [Cr.new]⟩
def crC (s : Cr) : Array Value := #[.int .u32 s.W, .int .u32 s.h, .int .u64 s.sp]
/-- The object behind a pointer. -/
def Cd (w : World) (p : Option Addr) (s : Cr) : Prop := (s = Cr.none_ ∧ p = none) ∨ (s.Ok ∧ ∃ g, p = some ⟨g, 0, none⟩ ∧ Is w g 171 (crC s))
theorem Cd.chg {S : Nat → Prop} {w w' : World} {p : Option Addr} {s : Cr} (h : Cd w p s) (hc : Chg S w w') (hs : ∀ b, at_ p b → ¬ S b) : Cd w' p s := by
  rcases h with h | ⟨ho, g, hp, hi⟩
  · exact .inl h
  · exact .inr ⟨ho, g, hp, Is.chg hi hc (hs g ⟨g, hp, rfl⟩)⟩
theorem Cd.keep {w w' : World} {p : Option Addr} {s : Cr} (h : Cd w p s) (hc : Chg none_ w w') : Cd w' p s := h.chg hc fun _ _ hf => hf
theorem Cd.dr {w w' : World} {p : Option Addr} {s : Cr} (h : Cd w p s) (hd : Dr w w') : Cd w' p s := by
  obtain ⟨n, rfl⟩ := hd
  exact h

def spC (s : Cr) (n : Int) : Nat := if s.W = 0 then 1 else if n < 0 then 2 else if s.h < n then 5 else 0
def spS (s : Cr) (n : Int) : Cr := if spC s n = 0 then { s with h := s.h - n, sp := (s.sp + n) % 18446744073709551616 } else s
def gaC (s : Cr) (d : Int) : Nat := if s.W = 0 then 1 else if s.W < s.h + d then 17 else 0
def gaS (s : Cr) (d : Int) : Cr := if gaC s d = 0 then { s with h := s.h + d } else s
theorem spC0 {s : Cr} {n : Int} (hW : s.W ≠ 0) (h : spC s n = 0) : 0 ≤ n ∧ n ≤ s.h := by
  unfold spC at h
  rw [if_neg hW] at h
  by_cases h1 : n < 0
  · rw [if_pos h1] at h; cases h
  · rw [if_neg h1] at h
    by_cases h2 : s.h < n
    · rw [if_pos h2] at h; cases h
    · omega
theorem spS_ok {s : Cr} (h : s.Ok) (n : Int) : (spS s n).Ok := by
  have hW : s.W ≠ 0 := by have := h.W1; omega
  have := h.h0
  have := h.h1
  unfold spS
  by_cases h0 : spC s n = 0
  · rw [if_pos h0]
    obtain ⟨n0, n1⟩ := spC0 hW h0
    exact ⟨h.W1, h.W2, by simp only; omega, by simp only; omega, by simp only; omega, by simp only; omega⟩
  · rw [if_neg h0]; exact h
theorem gaS_ok {s : Cr} (h : s.Ok) (d : Int) (d0 : 0 ≤ d) : (gaS s d).Ok := by
  have := h.h0
  have := h.h1
  have hW : s.W ≠ 0 := by have := h.W1; omega
  unfold gaS gaC
  rw [if_neg hW]
  by_cases h1 : s.W < s.h + d
  · rw [if_pos h1, if_neg (by decide)]; exact h
  · rw [if_neg h1, if_pos rfl]
    exact ⟨h.W1, h.W2, by simp only; omega, by simp only; omega, h.s0, h.s1⟩

theorem crnew_ok (w : World) (W : Int) (h1 : 1 ≤ W) (h2 : W ≤ 2147483647) :
    Calls Tryd.prog 83 #[.int .i64 W] w fun e w' => ∃ g, e = .returned (.tuple #[.pointer (some ⟨g, 0, none⟩), .nilIface]) ∧ w.heap.size ≤ g ∧ Cd w' (some ⟨g, 0, none⟩) (Cr.new W) ∧ Chg none_ w w' := by
  have hok := Lib.hid (Cr.new_ok h1 h2)
  go_enter Tryd.func83, Tryd.ntmps83
  go_wp2
  go_ret2
  exact ⟨w.heap.size, rfl, Nat.le_refl _, .inr ⟨hok.out, w.heap.size, rfl, Is.new w _ _⟩, (Chg.refl none_ w).alloc _⟩
theorem crnew_no {B : Nat} {a : Nat → Addr} (w : World) (hs : Sen B a w) (W : Int) (hk : W < 1 ∨ 2147483647 < W) :
    Calls Tryd.prog 83 #[.int .i64 W] w fun e w' => e = .returned (.tuple #[.pointer none, errv a 2]) ∧ Dr w w' := by
  have hc : w.cell? ⟨4, 0, none⟩ = some (.iface 200 (.pointer (some (a 2)))) := hs.cell 2 (by decide) (by decide)
  clear hs
  by_cases h1 : W < 1
  · clear hk
    go_enter Tryd.func83, Tryd.ntmps83
    go_wp2
    go_quiet (fail)
    go_wp2
    go_ret2
    exact ⟨rfl, _, rfl⟩
  · have h2 : 2147483647 < W := by omega
    clear hk
    go_enter Tryd.func83, Tryd.ntmps83
    go_wp2
    go_quiet (fail)
    go_wp2
    go_ret2
    exact ⟨rfl, _, rfl⟩
theorem crhave_any (w : World) (p : Option Addr) (s : Cr) (h : Cd w p s) : Calls Tryd.prog 64 #[.pointer p] w fun e w' => e = .returned (.int .u32 s.h) ∧ w = w' := by
  rcases h with ⟨rfl, rfl⟩ | ⟨ok, g, rfl, hi⟩
  · go_enter Tryd.func64, Tryd.ntmps64
    go_wp2
    go_ret
    exact ⟨rfl, rfl⟩
  · have c0 := hi.at_ 1 (.int .u32 s.h) rfl
    clear hi ok
    go_enter Tryd.func64, Tryd.ntmps64
    go_wp2
    go_ret
    exact ⟨rfl, rfl⟩

theorem spend_nil {B : Nat} {a : Nat → Addr} (w : World) (hs : Sen B a w) (n : Int) :
    Calls Tryd.prog 76 #[.pointer none, .int .i64 n] w fun e w' => e = .returned (errv a 1) ∧ w = w' := by
  have hc : w.cell? ⟨3, 0, none⟩ = some (.iface 200 (.pointer (some (a 1)))) := hs.cell 1 (by decide) (by decide)
  clear hs
  go_enter Tryd.func76, Tryd.ntmps76
  go_wp2
  go_ret
  exact ⟨rfl, rfl⟩
theorem grant_nil {B : Nat} {a : Nat → Addr} (w : World) (hs : Sen B a w) (d : Int) :
    Calls Tryd.prog 75 #[.pointer none, .int .u32 d] w fun e w' => e = .returned (errv a 1) ∧ w = w' := by
  have hc : w.cell? ⟨3, 0, none⟩ = some (.iface 200 (.pointer (some (a 1)))) := hs.cell 1 (by decide) (by decide)
  clear hs
  go_enter Tryd.func75, Tryd.ntmps75
  go_wp2
  go_ret
  exact ⟨rfl, rfl⟩

theorem spend_any {B : Nat} {a : Nat → Addr} (w : World) (hs : Sen B a w) (p : Option Addr) (s : Cr) (h : Cd w p s) (n : Int) :
    Calls Tryd.prog 76 #[.pointer p, .int .i64 n] w fun e w' => e = .returned (errv a (spC s n)) ∧ Cd w' p (spS s n) ∧ Chg (at_ p) w w' := by
  rcases h with ⟨rfl, rfl⟩ | ⟨ok, g, rfl, hi⟩
  · exact (spend_nil w hs n).mono fun e w' h => ⟨h.1, .inl ⟨rfl, rfl⟩, by rw [← h.2]; exact Chg.refl _ _⟩
  · have hW : s.W ≠ 0 := by have := ok.W1; omega
    have h0 := ok.h0
    have h1 : s.h ≤ 2147483647 := by have := ok.h1; have := ok.W2; omega
    have s0 := ok.s0
    have s1 := ok.s1
    have HK := Lib.hid (spS_ok ok n)
    have HO := Lib.hid ok
    have HS := Lib.hid hs
    have k2 : w.cell? ⟨4, 0, none⟩ = some (.iface 200 (.pointer (some (a 2)))) := hs.cell 2 (by decide) (by decide)
    have k5 : w.cell? ⟨12, 0, none⟩ = some (.iface 200 (.pointer (some (a 5)))) := hs.cell 5 (by decide) (by decide)
    have HI := Lib.hid hi
    have c1 := hi.at_ 1 (.int .u32 s.h) rfl
    have c2 := hi.at_ 2 (.int .u64 s.sp) rfl
    have f1 := hi.frozen 1
    have f2 := hi.frozen 2
    clear hs hi ok
    by_cases hn : n < 0
    · have hc : spC s n = 2 := by unfold spC; rw [if_neg hW, if_pos hn]
      have hS : spS s n = s := by unfold spS; rw [hc, if_neg (by decide)]
      rw [hc, hS]
      clear hc hS hW HK
      go_enter Tryd.func76, Tryd.ntmps76
      go_wp2_with fail
      refine (narrow_no w HS.out n (.inl hn)).mono ?_
      rintro e w1 ⟨rfl, k, rfl⟩
      go_wp2_with fail
      refine (is_hit _ (HS.out.drewN k) 2 (by decide) (by decide)).mono ?_
      rintro e w' ⟨rfl, rfl⟩
      go_wp2
      go_ret
      exact ⟨rfl, .inr ⟨HO.out, g, rfl, HI.out⟩, (Chg.refl _ _).drewN _⟩
    · by_cases hm : 4294967295 < n
      · have hc : spC s n = 5 := by unfold spC; rw [if_neg hW, if_neg hn, if_pos (by omega)]
        have hS : spS s n = s := by unfold spS; rw [hc, if_neg (by decide)]
        rw [hc, hS]
        have n0 : 0 ≤ n := by omega
        clear hc hS hW HK hn
        go_enter Tryd.func76, Tryd.ntmps76
        go_wp2_with fail
        refine (narrow_no w HS.out n (.inr hm)).mono ?_
        rintro e w1 ⟨rfl, k, rfl⟩
        go_wp2_with fail
        refine (is_hit _ (HS.out.drewN k) 2 (by decide) (by decide)).mono ?_
        rintro e w' ⟨rfl, rfl⟩
        go_wp2
        go_ret
        exact ⟨rfl, .inr ⟨HO.out, g, rfl, HI.out⟩, (Chg.refl _ _).drewN _⟩
      · have n0 : 0 ≤ n := by omega
        have n1 : n ≤ 4294967295 := by omega
        by_cases hl : s.h < n
        · have hc : spC s n = 5 := by unfold spC; rw [if_neg hW, if_neg hn, if_pos hl]
          have hS : spS s n = s := by unfold spS; rw [hc, if_neg (by decide)]
          rw [hc, hS]
          clear hc hS hW HK hn hm
          go_enter Tryd.func76, Tryd.ntmps76
          go_wp2_with fail
          refine (narrow_ok w n n0 n1).mono ?_
          rintro e w1 ⟨rfl, rfl⟩
          go_wp2_with fail
          refine (is_nil _ w).mono ?_
          rintro e w' ⟨rfl, rfl⟩
          go_wp2_with fail
          refine (sub_no w HS.out s.h n hl).mono ?_
          rintro e w1 ⟨rfl, k, rfl⟩
          go_wp2
          go_ret
          exact ⟨rfl, .inr ⟨HO.out, g, rfl, HI.out⟩, (Chg.refl _ _).drewN _⟩
        · have hc : spC s n = 0 := by unfold spC; rw [if_neg hW, if_neg hn, if_neg hl]
          have hS : spS s n = { s with h := s.h - n, sp := (s.sp + n) % 18446744073709551616 } := by unfold spS; rw [hc, if_pos rfl]
          rw [hS] at HK ⊢
          rw [hc]
          have n2 : n ≤ s.h := by omega
          have ew : IntKind.u64.wrap (s.sp + n) = (s.sp + n) % 18446744073709551616 := rfl
          clear hc hS hW hn hm hl
          go_enter Tryd.func76, Tryd.ntmps76
          go_wp2_with fail
          refine (narrow_ok w n n0 n1).mono ?_
          rintro e w1 ⟨rfl, rfl⟩
          go_wp2_with fail
          refine (is_nil _ w).mono ?_
          rintro e w' ⟨rfl, rfl⟩
          go_wp2_with fail
          refine (sub_ok w s.h n h0 (by omega) n0 n2).mono ?_
          rintro e w1 ⟨rfl, rfl⟩
          go_wp2
          go_ret
          exact ⟨rfl, .inr ⟨HK.out, g, rfl, (HI.out.put 1 _).put 2 _⟩, ((Chg.refl _ w).setCell (p := ⟨g, 1, none⟩) (fun _ => ⟨g, rfl, rfl⟩) _).setCell (p := ⟨g, 2, none⟩) (fun _ => ⟨g, rfl, rfl⟩) _⟩

theorem grant_any {B : Nat} {a : Nat → Addr} (w : World) (hs : Sen B a w) (p : Option Addr) (s : Cr) (h : Cd w p s) (d : Int) (d0 : 0 ≤ d) (d1 : d ≤ 4294967295) :
    Calls Tryd.prog 75 #[.pointer p, .int .u32 d] w fun e w' => e = .returned (errv a (gaC s d)) ∧ Cd w' p (gaS s d) ∧ Chg (at_ p) w w' := by
  rcases h with ⟨rfl, rfl⟩ | ⟨ok, g, rfl, hi⟩
  · exact (grant_nil w hs d).mono fun e w' h => ⟨h.1, .inl ⟨rfl, rfl⟩, by rw [← h.2]; exact Chg.refl _ _⟩
  · have hW : s.W ≠ 0 := by have := ok.W1; omega
    have h0 := ok.h0
    have h1 := ok.h1
    have W2 := ok.W2
    have HK := Lib.hid (gaS_ok ok d d0)
    have HO := Lib.hid ok
    have HS := Lib.hid hs
    have k4 : w.cell? ⟨11, 0, none⟩ = some (.iface 200 (.pointer (some (a 4)))) := hs.cell 4 (by decide) (by decide)
    have k17 : w.cell? ⟨22, 0, none⟩ = some (.iface 200 (.pointer (some (a 17)))) := hs.cell 17 (by decide) (by decide)
    have HI := Lib.hid hi
    have c0 := hi.at_ 0 (.int .u32 s.W) rfl
    have c1 := hi.at_ 1 (.int .u32 s.h) rfl
    have f1 := hi.frozen 1
    clear hs hi ok
    by_cases hm : s.W < s.h + d
    · have hc : gaC s d = 17 := by unfold gaC; rw [if_neg hW, if_pos hm]
      have hS : gaS s d = s := by unfold gaS; rw [hc, if_neg (by decide)]
      rw [hc, hS]
      clear hc hS hW HK
      by_cases hx : 4294967295 < s.h + d
      · go_enter Tryd.func75, Tryd.ntmps75
        go_wp2_with fail
        refine (add_no w HS.out s.h d d0 d1 hx).mono ?_
        rintro e w1 ⟨rfl, k, rfl⟩
        go_wp2_with fail
        refine (is_hit _ (HS.out.drewN k) 4 (by decide) (by decide)).mono ?_
        rintro e w' ⟨rfl, rfl⟩
        go_wp2
        go_ret
        exact ⟨rfl, .inr ⟨HO.out, g, rfl, HI.out⟩, (Chg.refl _ _).drewN _⟩
      · have hx' : s.h + d ≤ 4294967295 := by omega
        clear hx
        go_enter Tryd.func75, Tryd.ntmps75
        go_wp2_with fail
        refine (add_ok w s.h d h0 d0 hx').mono ?_
        rintro e w1 ⟨rfl, rfl⟩
        go_wp2_with fail
        refine (is_nil _ w).mono ?_
        rintro e w' ⟨rfl, rfl⟩
        go_wp2
        go_ret
        exact ⟨rfl, .inr ⟨HO.out, g, rfl, HI.out⟩, Chg.refl _ _⟩
    · have hc : gaC s d = 0 := by unfold gaC; rw [if_neg hW, if_neg hm]
      have hS : gaS s d = { s with h := s.h + d } := by unfold gaS; rw [hc, if_pos rfl]
      rw [hS] at HK ⊢
      rw [hc]
      have hx : s.h + d ≤ s.W := by omega
      clear hc hS hW hm
      go_enter Tryd.func75, Tryd.ntmps75
      go_wp2_with fail
      refine (add_ok w s.h d h0 d0 (by omega)).mono ?_
      rintro e w1 ⟨rfl, rfl⟩
      go_wp2_with fail
      refine (is_nil _ w).mono ?_
      rintro e w' ⟨rfl, rfl⟩
      go_wp2
      go_ret
      exact ⟨rfl, .inr ⟨HK.out, g, rfl, HI.out.put 1 _⟩, (Chg.refl _ w).setCell (p := ⟨g, 1, none⟩) (fun _ => ⟨g, rfl, rfl⟩) _⟩
end Go.Proofs.YthalmjjbamglgaaDoor
