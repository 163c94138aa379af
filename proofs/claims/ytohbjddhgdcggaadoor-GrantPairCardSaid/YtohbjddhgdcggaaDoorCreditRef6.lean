/-
  The document's credit (culvertref07) by contracts, culvertlaw07.awake and do.
  No condition of its own.
-/
import Derived.Test.YtohbjddhgdcggaaDoorCredit6
namespace Go.Proofs.YtohbjddhgdcggaaDoor
open Go.RowKit

def aggC (s : Cr) : Value := .agg #[.int .i64 s.W, .int .i64 s.h, .int .u64 s.sp]

theorem rcnew_ok (w : World) (W : Int) (h1 : 1 ≤ W) (h2 : W ≤ 2147483647) :
    Calls Tryd.prog 10 #[.int .i64 W] w fun e w' => e = .returned (.tuple #[aggC (Cr.new W), .int .i64 0]) ∧ Chg none_ w w' := by
  go_enter Tryd.func10, Tryd.ntmps10
  go_wp2
  refine bodyPost_ret (v := .tuple #[aggC (Cr.new W), .int .i64 0]) (by simp [results, Tryd.results10, go_sem, aggC, Cr.new]) rfl ⟨rfl, (Chg.refl none_ w).alloc _⟩
theorem rcnew_no (w : World) (W : Int) (hk : W < 1 ∨ 2147483647 < W) :
    Calls Tryd.prog 10 #[.int .i64 W] w fun e w' => e = .returned (.tuple #[aggC Cr.none_, .int .i64 2]) ∧ Chg none_ w w' := by
  by_cases h1 : W < 1
  · clear hk
    go_enter Tryd.func10, Tryd.ntmps10
    go_wp2
    refine bodyPost_ret (v := .tuple #[aggC Cr.none_, .int .i64 2]) (by simp [results, Tryd.results10, go_sem, aggC, Cr.none_]) rfl ⟨rfl, (Chg.refl none_ w).alloc _⟩
  · have h2 : 2147483647 < W := by omega
    clear hk
    go_enter Tryd.func10, Tryd.ntmps10
    go_wp2
    refine bodyPost_ret (v := .tuple #[aggC Cr.none_, .int .i64 2]) (by simp [results, Tryd.results10, go_sem, aggC, Cr.none_]) rfl ⟨rfl, (Chg.refl none_ w).alloc _⟩

theorem rspend_any (w : World) (s : Cr) (ok : s.Ok) (n : Int) :
    Calls Tryd.prog 13 #[aggC s, .int .i64 n] w fun e w' => e = .returned (.tuple #[aggC (spS s n), .int .i64 (spC s n)]) ∧ Chg none_ w w' := by
  have hW : s.W ≠ 0 := by have := ok.W1; omega
  have h0 := ok.h0
  have h1 : s.h ≤ 2147483647 := by have := ok.h1; have := ok.W2; omega
  have hn0 : ∀ k : Nat, spC s n = k → k ≠ 0 → spS s n = s := fun k h hk => by unfold spS; rw [h, if_neg hk]
  have hn1 : spC s n = 0 → spS s n = { s with h := s.h - n, sp := (s.sp + n) % 18446744073709551616 } := fun h => by unfold spS; rw [if_pos h]
  have s0 := ok.s0
  have s1 := ok.s1
  clear ok
  by_cases hn : n < 0
  · have hc : spC s n = 2 := by unfold spC; rw [if_neg hW, if_pos hn]
    rw [hn0 2 hc (by decide), hc]
    clear hc hW hn0 hn1
    obtain ⟨W, h, sp⟩ := s
    unfold aggC
    simp only at h0 h1 s0 s1 ⊢
    go_enter Tryd.func13, Tryd.ntmps13
    go_wp2
    refine bodyPost_ret (v := .tuple #[.agg #[.int .i64 W, .int .i64 h, .int .u64 sp], .int .i64 2]) (by simp [results, Tryd.results13, go_sem]) rfl ⟨rfl, ?_⟩
    first | exact (Chg.refl none_ w).alloc _ | exact ((Chg.refl none_ w).alloc _).alloc _
  · have n0 : 0 ≤ n := by omega
    by_cases hl : s.h < n
    · have hc : spC s n = 5 := by unfold spC; rw [if_neg hW, if_neg hn, if_pos hl]
      rw [hn0 5 hc (by decide), hc]
      clear hc hW hn0 hn1 hn
      obtain ⟨W, h, sp⟩ := s
      unfold aggC
      simp only at h0 h1 hl s0 s1 ⊢
      go_enter Tryd.func13, Tryd.ntmps13
      go_wp2
      refine bodyPost_ret (v := .tuple #[.agg #[.int .i64 W, .int .i64 h, .int .u64 sp], .int .i64 5]) (by simp [results, Tryd.results13, go_sem]) rfl ⟨rfl, ?_⟩
      first | exact (Chg.refl none_ w).alloc _ | exact ((Chg.refl none_ w).alloc _).alloc _
    · have hc : spC s n = 0 := by unfold spC; rw [if_neg hW, if_neg hn, if_neg hl]
      rw [hn1 hc, hc]
      have n2 : n ≤ s.h := by omega
      clear hc hW hn0 hn1 hn hl
      obtain ⟨W, h, sp⟩ := s
      unfold aggC
      simp only at h0 h1 n2 s0 s1 ⊢
      have ew : IntKind.u64.wrap (sp + n) = (sp + n) % 18446744073709551616 := rfl
      go_enter Tryd.func13, Tryd.ntmps13
      go_wp2
      refine bodyPost_ret (v := .tuple #[.agg #[.int .i64 W, .int .i64 (h - n), .int .u64 ((sp + n) % 18446744073709551616)], .int .i64 0]) (by simp [results, Tryd.results13, go_sem]) rfl ⟨rfl, ?_⟩
      first | exact (Chg.refl none_ w).alloc _ | exact ((Chg.refl none_ w).alloc _).alloc _

theorem rgrant_any (w : World) (s : Cr) (ok : s.Ok) (d : Int) (d0 : 0 ≤ d) (d1 : d ≤ 4294967295) :
    Calls Tryd.prog 15 #[aggC s, .int .u32 d] w fun e w' => e = .returned (.tuple #[aggC (gaS s d), .int .i64 (gaC s d)]) ∧ Chg none_ w w' := by
  have hW : s.W ≠ 0 := by have := ok.W1; omega
  have h0 := ok.h0
  have h1 := ok.h1
  have W2 := ok.W2
  have hn0 : ∀ k : Nat, gaC s d = k → k ≠ 0 → gaS s d = s := fun k h hk => by unfold gaS; rw [h, if_neg hk]
  have hn1 : gaC s d = 0 → gaS s d = { s with h := s.h + d } := fun h => by unfold gaS; rw [if_pos h]
  clear ok
  by_cases hm : s.W < s.h + d
  · have hc : gaC s d = 17 := by unfold gaC; rw [if_neg hW, if_pos hm]
    rw [hn0 17 hc (by decide), hc]
    clear hc hW hn0 hn1
    obtain ⟨W, h, sp⟩ := s
    unfold aggC
    simp only at h0 h1 hm W2 ⊢
    go_enter Tryd.func15, Tryd.ntmps15
    go_wp2
    refine bodyPost_ret (v := .tuple #[.agg #[.int .i64 W, .int .i64 h, .int .u64 sp], .int .i64 17]) (by simp [results, Tryd.results15, go_sem]) rfl ⟨rfl, ?_⟩
    first | exact (Chg.refl none_ w).alloc _ | exact ((Chg.refl none_ w).alloc _).alloc _
  · have hc : gaC s d = 0 := by unfold gaC; rw [if_neg hW, if_neg hm]
    rw [hn1 hc, hc]
    have hx : s.h + d ≤ s.W := by omega
    clear hc hW hn0 hn1 hm
    obtain ⟨W, h, sp⟩ := s
    unfold aggC
    simp only at h0 h1 hx W2 ⊢
    go_enter Tryd.func15, Tryd.ntmps15
    go_wp2
    refine bodyPost_ret (v := .tuple #[.agg #[.int .i64 W, .int .i64 (h + d), .int .u64 sp], .int .i64 0]) (by simp [results, Tryd.results15, go_sem]) rfl ⟨rfl, ?_⟩
    first | exact (Chg.refl none_ w).alloc _ | exact ((Chg.refl none_ w).alloc _).alloc _

/-! ### With given values -/
theorem spend_c {B : Nat} {a : Nat → Addr} (w : World) (hs : Sen6 B a w) (p : Option Addr) (s : Cr) (h : Cd w p s) (n : Int) (er : Value) (s' : Cr) (he : errv a (spC s n) = er) (h' : spS s n = s') :
    Calls Tryd.prog 12 #[.pointer p, .int .i64 n] w fun e w' => e = .returned er ∧ Cd w' p s' ∧ Chg (at_ p) w w' := by
  subst he h'
  exact spend_any w hs p s h n
theorem grant_c {B : Nat} {a : Nat → Addr} (w : World) (hs : Sen6 B a w) (p : Option Addr) (s : Cr) (h : Cd w p s) (d : Int) (d0 : 0 ≤ d) (d1 : d ≤ 4294967295) (er : Value) (s' : Cr) (he : errv a (gaC s d) = er) (h' : gaS s d = s') :
    Calls Tryd.prog 14 #[.pointer p, .int .u32 d] w fun e w' => e = .returned er ∧ Cd w' p s' ∧ Chg (at_ p) w w' := by
  subst he h'
  exact grant_any w hs p s h d d0 d1

/-- Changed: nothing below n but the object's own block; the object lies at n or behind. -/
theorem at_newC {g n : Nat} (hg : n ≤ g) {w w1 w2 : World} (hn : w.heap.size = n) (h : Chg none_ w w1) (k : Chg (at_ (some ⟨g, 0, none⟩)) w1 w2) : Chg none_ w w2 :=
  h.then k fun b hb hs => by
    obtain ⟨g', e, rfl⟩ := hs
    injection e with e
    injection e with e _
    omega

end Go.Proofs.YtohbjddhgdcggaaDoor
