/-
  msg.Reader.size, every case of the first bytes by itself (printed by gen_msgsize.py).
  No condition of its own.
-/
import Derived.Test.YthalmjjbamglgaaDoorMsg2
namespace Go.Proofs.YthalmjjbamglgaaDoor
open Go.RowKit

set_option maxHeartbeats 1000000 in
theorem ms0end (w : World) (g : Nat) (most : Int) (_hg : w.cell? ⟨g, 0, none⟩ = some (.int .i64 most)) (c : Nat) (A : Option Addr) :
    Calls Tryd.prog 81 #[.pointer (some ⟨g, 0, none⟩), .slice A 0 c] w fun e w' => e = .returned (.tuple #[.int .i64 0, .int .i64 0, .bool true]) ∧ Dr w w' := by
  go_enter Tryd.func81, Tryd.ntmps81
  go_wp2_with fail
  refine wp_loop_rounds 1 ?_
  rw [rounds_succ]
  go_wp2
  go_ret3
  exact ⟨rfl, by first | exact ⟨_, rfl⟩ | exact Dr.refl _⟩
set_option maxHeartbeats 1000000 in
theorem ms0ok (w : World) (g : Nat) (most : Int) (hg : w.cell? ⟨g, 0, none⟩ = some (.int .i64 most)) (ad : Addr) (n c : Nat) (hn : 1 ≤ n) (x : Int) (hx0 : 0 ≤ x) (hx1 : x ≤ 127) (c0 : w.cell? ad = some (.int .u8 x)) (hm : x ≤ most) :
    Calls Tryd.prog 81 #[.pointer (some ⟨g, 0, none⟩), .slice (some ad) n c] w fun e w' => e = .returned (.tuple #[.int .i64 1, .int .i64 (x), .bool true]) ∧ Dr w w' := by
  obtain ⟨p, hp⟩ : ∃ p : Int, p = x := ⟨_, rfl⟩
  have hp0 : 0 ≤ p := by omega
  have hp1 : p ≤ 127 := by omega
  have b0 : bits .and .u8 x 127 = p := (and127 x (by omega) (by omega)).trans (by omega)
  have o0 : bits .or .i64 0 p = p := by
    have h := or64 0 (by decide) 0 p (by omega) (by decide) hp0 hp1
    rw [Int.pow_zero, Int.mul_one] at h
    omega
  have hle : p ≤ most := by omega
  have htot : x = p := by omega
  rw [htot]
  have j0 : 0 < n := by omega
  obtain ⟨M, hM, hM0⟩ : ∃ M : Int, (if (3 : Int) < (n : Int) then (3 : Int) else (n : Int)) = M ∧ 1 ≤ M ∧ M ≤ 3 := ⟨_, rfl, by split <;> omega⟩
  obtain ⟨hM1, hM2⟩ := hM0
  have hdl : decide (p ≤ most) = true := by simp; omega
  have w1 : IntKind.i64.wrap 1 = 1 := IntWalk.i64_in 1 (by omega)
  have w2 : IntKind.i64.wrap 2 = 2 := IntWalk.i64_in 2 (by omega)
  have w3 : IntKind.i64.wrap 3 = 3 := IntWalk.i64_in 3 (by omega)
  clear hp htot hm
  go_enter Tryd.func81, Tryd.ntmps81
  go_wp2_with fail
  refine wp_loop_rounds 1 ?_
  rw [rounds_succ]
  go_wp2
  go_quiet (fail)
  go_wp2
  go_ret3
  exact ⟨rfl, by first | exact ⟨_, rfl⟩ | exact Dr.refl _⟩
set_option maxHeartbeats 1000000 in
theorem ms0nle (w : World) (g : Nat) (most : Int) (hg : w.cell? ⟨g, 0, none⟩ = some (.int .i64 most)) (ad : Addr) (n c : Nat) (hn : 1 ≤ n) (x : Int) (hx0 : 0 ≤ x) (hx1 : x ≤ 127) (c0 : w.cell? ad = some (.int .u8 x)) (hm : most < x) :
    Calls Tryd.prog 81 #[.pointer (some ⟨g, 0, none⟩), .slice (some ad) n c] w fun e w' => ∃ k m, e = .returned (.tuple #[k, m, .bool false]) ∧ Dr w w' := by
  obtain ⟨p, hp⟩ : ∃ p : Int, p = x := ⟨_, rfl⟩
  have hp0 : 0 ≤ p := by omega
  have hp1 : p ≤ 127 := by omega
  have b0 : bits .and .u8 x 127 = p := (and127 x (by omega) (by omega)).trans (by omega)
  have o0 : bits .or .i64 0 p = p := by
    have h := or64 0 (by decide) 0 p (by omega) (by decide) hp0 hp1
    rw [Int.pow_zero, Int.mul_one] at h
    omega
  have hle : most < p := by omega
  have j0 : 0 < n := by omega
  obtain ⟨M, hM, hM0⟩ : ∃ M : Int, (if (3 : Int) < (n : Int) then (3 : Int) else (n : Int)) = M ∧ 1 ≤ M ∧ M ≤ 3 := ⟨_, rfl, by split <;> omega⟩
  obtain ⟨hM1, hM2⟩ := hM0
  have hdl : decide (p ≤ most) = false := by simp; omega
  have w1 : IntKind.i64.wrap 1 = 1 := IntWalk.i64_in 1 (by omega)
  have w2 : IntKind.i64.wrap 2 = 2 := IntWalk.i64_in 2 (by omega)
  have w3 : IntKind.i64.wrap 3 = 3 := IntWalk.i64_in 3 (by omega)
  clear hp hm
  go_enter Tryd.func81, Tryd.ntmps81
  go_wp2_with fail
  refine wp_loop_rounds 1 ?_
  rw [rounds_succ]
  go_wp2
  go_quiet (fail)
  go_wp2
  go_ret3
  exact ⟨_, _, rfl, by first | exact ⟨_, rfl⟩ | exact Dr.refl _⟩
set_option maxHeartbeats 1000000 in
theorem ms1end (w : World) (g : Nat) (most : Int) (_hg : w.cell? ⟨g, 0, none⟩ = some (.int .i64 most)) (ad : Addr) (c : Nat) (x : Int) (hx0 : 128 ≤ x) (hx1 : x ≤ 255) (c0 : w.cell? ad = some (.int .u8 x)) :
    Calls Tryd.prog 81 #[.pointer (some ⟨g, 0, none⟩), .slice (some ad) 1 c] w fun e w' => e = .returned (.tuple #[.int .i64 0, .int .i64 0, .bool true]) ∧ Dr w w' := by
  obtain ⟨p, hp⟩ : ∃ p : Int, p = x - 128 := ⟨_, rfl⟩
  have hp0 : 0 ≤ p := by omega
  have hp1 : p ≤ 127 := by omega
  have b0 : bits .and .u8 x 127 = p := (and127 x (by omega) (by omega)).trans (by omega)
  have o0 : bits .or .i64 0 p = p := by
    have h := or64 0 (by decide) 0 p (by omega) (by decide) hp0 hp1
    rw [Int.pow_zero, Int.mul_one] at h
    omega
  clear hp
  go_enter Tryd.func81, Tryd.ntmps81
  go_wp2_with fail
  refine wp_loop_rounds 2 ?_
  rw [rounds_succ]
  go_wp2
  rw [rounds_succ]
  go_wp2
  go_ret3
  exact ⟨rfl, by first | exact ⟨_, rfl⟩ | exact Dr.refl _⟩
set_option maxHeartbeats 1000000 in
theorem ms1ok (w : World) (g : Nat) (most : Int) (hg : w.cell? ⟨g, 0, none⟩ = some (.int .i64 most)) (ad : Addr) (n c : Nat) (hn : 2 ≤ n) (x : Int) (hx0 : 128 ≤ x) (hx1 : x ≤ 255) (y : Int) (hy0 : 0 ≤ y) (hy1 : y ≤ 127) (c0 : w.cell? ad = some (.int .u8 x)) (c1 : w.cell? ⟨ad.block, ad.off + 1, none⟩ = some (.int .u8 y)) (hm : (x - 128) + 128 * y ≤ most) (hz : y ≠ 0) :
    Calls Tryd.prog 81 #[.pointer (some ⟨g, 0, none⟩), .slice (some ad) n c] w fun e w' => e = .returned (.tuple #[.int .i64 2, .int .i64 ((x - 128) + 128 * y), .bool true]) ∧ Dr w w' := by
  obtain ⟨p, hp⟩ : ∃ p : Int, p = x - 128 := ⟨_, rfl⟩
  have hp0 : 0 ≤ p := by omega
  have hp1 : p ≤ 127 := by omega
  have b0 : bits .and .u8 x 127 = p := (and127 x (by omega) (by omega)).trans (by omega)
  obtain ⟨q, hq⟩ : ∃ q : Int, q = y := ⟨_, rfl⟩
  have hq0 : 0 ≤ q := by omega
  have hq1 : q ≤ 127 := by omega
  have b1 : bits .and .u8 y 127 = q := (and127 y (by omega) (by omega)).trans (by omega)
  obtain ⟨s1, hs1⟩ : ∃ s : Int, s = p + q * 128 := ⟨_, rfl⟩
  have hs1a : 0 ≤ s1 := by omega
  have hs1b : s1 ≤ 16383 := by omega
  have o0 : bits .or .i64 0 p = p := by
    have h := or64 0 (by decide) 0 p (by omega) (by decide) hp0 hp1
    rw [Int.pow_zero, Int.mul_one] at h
    omega
  have o1 : bits .or .i64 p (q * 128) = s1 := (or64 7 (by decide) p q (by omega) (by omega) hq0 hq1).trans (by omega)
  have hle : s1 ≤ most := by omega
  have htot : (x - 128) + 128 * y = s1 := by omega
  rw [htot]
  have hzb : (y != 0) = true := by simpa using hz
  clear hz
  have j0 : 0 < n := by omega
  have j1 : (1 : Int) < (n : Int) := by omega
  obtain ⟨M, hM, hM0⟩ : ∃ M : Int, (if (3 : Int) < (n : Int) then (3 : Int) else (n : Int)) = M ∧ 2 ≤ M ∧ M ≤ 3 := ⟨_, rfl, by split <;> omega⟩
  obtain ⟨hM1, hM2⟩ := hM0
  have hdl : decide (s1 ≤ most) = true := by simp; omega
  have w1 : IntKind.i64.wrap 1 = 1 := IntWalk.i64_in 1 (by omega)
  have w2 : IntKind.i64.wrap 2 = 2 := IntWalk.i64_in 2 (by omega)
  have w3 : IntKind.i64.wrap 3 = 3 := IntWalk.i64_in 3 (by omega)
  clear hp hq hs1 htot hm
  go_enter Tryd.func81, Tryd.ntmps81
  go_wp2_with fail
  refine wp_loop_rounds 2 ?_
  rw [rounds_succ]
  go_wp2
  rw [rounds_succ]
  go_wp2
  go_quiet (fail)
  go_wp2
  go_ret3
  exact ⟨rfl, by first | exact ⟨_, rfl⟩ | exact Dr.refl _⟩
set_option maxHeartbeats 1000000 in
theorem ms1zero (w : World) (g : Nat) (most : Int) (hg : w.cell? ⟨g, 0, none⟩ = some (.int .i64 most)) (ad : Addr) (n c : Nat) (hn : 2 ≤ n) (x : Int) (hx0 : 128 ≤ x) (hx1 : x ≤ 255) (y : Int) (hy0 : 0 ≤ y) (hy1 : y ≤ 127) (c0 : w.cell? ad = some (.int .u8 x)) (c1 : w.cell? ⟨ad.block, ad.off + 1, none⟩ = some (.int .u8 y)) (hm : (x - 128) + 128 * y ≤ most) (hz : y = 0) :
    Calls Tryd.prog 81 #[.pointer (some ⟨g, 0, none⟩), .slice (some ad) n c] w fun e w' => ∃ k m, e = .returned (.tuple #[k, m, .bool false]) ∧ Dr w w' := by
  obtain ⟨p, hp⟩ : ∃ p : Int, p = x - 128 := ⟨_, rfl⟩
  have hp0 : 0 ≤ p := by omega
  have hp1 : p ≤ 127 := by omega
  have b0 : bits .and .u8 x 127 = p := (and127 x (by omega) (by omega)).trans (by omega)
  obtain ⟨q, hq⟩ : ∃ q : Int, q = y := ⟨_, rfl⟩
  have hq0 : 0 ≤ q := by omega
  have hq1 : q ≤ 127 := by omega
  have b1 : bits .and .u8 y 127 = q := (and127 y (by omega) (by omega)).trans (by omega)
  obtain ⟨s1, hs1⟩ : ∃ s : Int, s = p + q * 128 := ⟨_, rfl⟩
  have hs1a : 0 ≤ s1 := by omega
  have hs1b : s1 ≤ 16383 := by omega
  have o0 : bits .or .i64 0 p = p := by
    have h := or64 0 (by decide) 0 p (by omega) (by decide) hp0 hp1
    rw [Int.pow_zero, Int.mul_one] at h
    omega
  have o1 : bits .or .i64 p (q * 128) = s1 := (or64 7 (by decide) p q (by omega) (by omega) hq0 hq1).trans (by omega)
  have hle : s1 ≤ most := by omega
  subst hz
  have j0 : 0 < n := by omega
  have j1 : (1 : Int) < (n : Int) := by omega
  obtain ⟨M, hM, hM0⟩ : ∃ M : Int, (if (3 : Int) < (n : Int) then (3 : Int) else (n : Int)) = M ∧ 2 ≤ M ∧ M ≤ 3 := ⟨_, rfl, by split <;> omega⟩
  obtain ⟨hM1, hM2⟩ := hM0
  have hdl : decide (s1 ≤ most) = true := by simp; omega
  have w1 : IntKind.i64.wrap 1 = 1 := IntWalk.i64_in 1 (by omega)
  have w2 : IntKind.i64.wrap 2 = 2 := IntWalk.i64_in 2 (by omega)
  have w3 : IntKind.i64.wrap 3 = 3 := IntWalk.i64_in 3 (by omega)
  clear hp hq hs1 hm
  go_enter Tryd.func81, Tryd.ntmps81
  go_wp2_with fail
  refine wp_loop_rounds 2 ?_
  rw [rounds_succ]
  go_wp2
  rw [rounds_succ]
  go_wp2
  go_quiet (fail)
  go_wp2
  go_ret3
  exact ⟨_, _, rfl, by first | exact ⟨_, rfl⟩ | exact Dr.refl _⟩
set_option maxHeartbeats 1000000 in
theorem ms1nle (w : World) (g : Nat) (most : Int) (hg : w.cell? ⟨g, 0, none⟩ = some (.int .i64 most)) (ad : Addr) (n c : Nat) (hn : 2 ≤ n) (x : Int) (hx0 : 128 ≤ x) (hx1 : x ≤ 255) (y : Int) (hy0 : 0 ≤ y) (hy1 : y ≤ 127) (c0 : w.cell? ad = some (.int .u8 x)) (c1 : w.cell? ⟨ad.block, ad.off + 1, none⟩ = some (.int .u8 y)) (hm : most < (x - 128) + 128 * y) :
    Calls Tryd.prog 81 #[.pointer (some ⟨g, 0, none⟩), .slice (some ad) n c] w fun e w' => ∃ k m, e = .returned (.tuple #[k, m, .bool false]) ∧ Dr w w' := by
  obtain ⟨p, hp⟩ : ∃ p : Int, p = x - 128 := ⟨_, rfl⟩
  have hp0 : 0 ≤ p := by omega
  have hp1 : p ≤ 127 := by omega
  have b0 : bits .and .u8 x 127 = p := (and127 x (by omega) (by omega)).trans (by omega)
  obtain ⟨q, hq⟩ : ∃ q : Int, q = y := ⟨_, rfl⟩
  have hq0 : 0 ≤ q := by omega
  have hq1 : q ≤ 127 := by omega
  have b1 : bits .and .u8 y 127 = q := (and127 y (by omega) (by omega)).trans (by omega)
  obtain ⟨s1, hs1⟩ : ∃ s : Int, s = p + q * 128 := ⟨_, rfl⟩
  have hs1a : 0 ≤ s1 := by omega
  have hs1b : s1 ≤ 16383 := by omega
  have o0 : bits .or .i64 0 p = p := by
    have h := or64 0 (by decide) 0 p (by omega) (by decide) hp0 hp1
    rw [Int.pow_zero, Int.mul_one] at h
    omega
  have o1 : bits .or .i64 p (q * 128) = s1 := (or64 7 (by decide) p q (by omega) (by omega) hq0 hq1).trans (by omega)
  have hle : most < s1 := by omega
  have j0 : 0 < n := by omega
  have j1 : (1 : Int) < (n : Int) := by omega
  obtain ⟨M, hM, hM0⟩ : ∃ M : Int, (if (3 : Int) < (n : Int) then (3 : Int) else (n : Int)) = M ∧ 2 ≤ M ∧ M ≤ 3 := ⟨_, rfl, by split <;> omega⟩
  obtain ⟨hM1, hM2⟩ := hM0
  have hdl : decide (s1 ≤ most) = false := by simp; omega
  have w1 : IntKind.i64.wrap 1 = 1 := IntWalk.i64_in 1 (by omega)
  have w2 : IntKind.i64.wrap 2 = 2 := IntWalk.i64_in 2 (by omega)
  have w3 : IntKind.i64.wrap 3 = 3 := IntWalk.i64_in 3 (by omega)
  clear hp hq hs1 hm
  go_enter Tryd.func81, Tryd.ntmps81
  go_wp2_with fail
  refine wp_loop_rounds 2 ?_
  rw [rounds_succ]
  go_wp2
  rw [rounds_succ]
  go_wp2
  go_quiet (fail)
  go_wp2
  go_ret3
  exact ⟨_, _, rfl, by first | exact ⟨_, rfl⟩ | exact Dr.refl _⟩
set_option maxHeartbeats 1000000 in
theorem ms2end (w : World) (g : Nat) (most : Int) (_hg : w.cell? ⟨g, 0, none⟩ = some (.int .i64 most)) (ad : Addr) (c : Nat) (x : Int) (hx0 : 128 ≤ x) (hx1 : x ≤ 255) (y : Int) (hy0 : 128 ≤ y) (hy1 : y ≤ 255) (c0 : w.cell? ad = some (.int .u8 x)) (c1 : w.cell? ⟨ad.block, ad.off + 1, none⟩ = some (.int .u8 y)) :
    Calls Tryd.prog 81 #[.pointer (some ⟨g, 0, none⟩), .slice (some ad) 2 c] w fun e w' => e = .returned (.tuple #[.int .i64 0, .int .i64 0, .bool true]) ∧ Dr w w' := by
  obtain ⟨p, hp⟩ : ∃ p : Int, p = x - 128 := ⟨_, rfl⟩
  have hp0 : 0 ≤ p := by omega
  have hp1 : p ≤ 127 := by omega
  have b0 : bits .and .u8 x 127 = p := (and127 x (by omega) (by omega)).trans (by omega)
  obtain ⟨q, hq⟩ : ∃ q : Int, q = y - 128 := ⟨_, rfl⟩
  have hq0 : 0 ≤ q := by omega
  have hq1 : q ≤ 127 := by omega
  have b1 : bits .and .u8 y 127 = q := (and127 y (by omega) (by omega)).trans (by omega)
  obtain ⟨s1, hs1⟩ : ∃ s : Int, s = p + q * 128 := ⟨_, rfl⟩
  have hs1a : 0 ≤ s1 := by omega
  have hs1b : s1 ≤ 16383 := by omega
  have o0 : bits .or .i64 0 p = p := by
    have h := or64 0 (by decide) 0 p (by omega) (by decide) hp0 hp1
    rw [Int.pow_zero, Int.mul_one] at h
    omega
  have o1 : bits .or .i64 p (q * 128) = s1 := (or64 7 (by decide) p q (by omega) (by omega) hq0 hq1).trans (by omega)
  clear hp hq hs1
  go_enter Tryd.func81, Tryd.ntmps81
  go_wp2_with fail
  refine wp_loop_rounds 3 ?_
  rw [rounds_succ]
  go_wp2
  rw [rounds_succ]
  go_wp2
  rw [rounds_succ]
  go_wp2
  go_ret3
  exact ⟨rfl, by first | exact ⟨_, rfl⟩ | exact Dr.refl _⟩
set_option maxHeartbeats 1000000 in
theorem ms2ok (w : World) (g : Nat) (most : Int) (hg : w.cell? ⟨g, 0, none⟩ = some (.int .i64 most)) (ad : Addr) (n c : Nat) (hn : 3 ≤ n) (x : Int) (hx0 : 128 ≤ x) (hx1 : x ≤ 255) (y : Int) (hy0 : 128 ≤ y) (hy1 : y ≤ 255) (z : Int) (hz0 : 0 ≤ z) (hz1 : z ≤ 127) (c0 : w.cell? ad = some (.int .u8 x)) (c1 : w.cell? ⟨ad.block, ad.off + 1, none⟩ = some (.int .u8 y)) (c2 : w.cell? ⟨ad.block, ad.off + 2, none⟩ = some (.int .u8 z)) (hm : (x - 128) + 128 * (y - 128) + 16384 * z ≤ most) (hz : z ≠ 0) :
    Calls Tryd.prog 81 #[.pointer (some ⟨g, 0, none⟩), .slice (some ad) n c] w fun e w' => e = .returned (.tuple #[.int .i64 3, .int .i64 ((x - 128) + 128 * (y - 128) + 16384 * z), .bool true]) ∧ Dr w w' := by
  obtain ⟨p, hp⟩ : ∃ p : Int, p = x - 128 := ⟨_, rfl⟩
  have hp0 : 0 ≤ p := by omega
  have hp1 : p ≤ 127 := by omega
  have b0 : bits .and .u8 x 127 = p := (and127 x (by omega) (by omega)).trans (by omega)
  obtain ⟨q, hq⟩ : ∃ q : Int, q = y - 128 := ⟨_, rfl⟩
  have hq0 : 0 ≤ q := by omega
  have hq1 : q ≤ 127 := by omega
  have b1 : bits .and .u8 y 127 = q := (and127 y (by omega) (by omega)).trans (by omega)
  obtain ⟨r, hr⟩ : ∃ r : Int, r = z := ⟨_, rfl⟩
  have hr0 : 0 ≤ r := by omega
  have hr1 : r ≤ 127 := by omega
  have b2 : bits .and .u8 z 127 = r := (and127 z (by omega) (by omega)).trans (by omega)
  obtain ⟨s1, hs1⟩ : ∃ s : Int, s = p + q * 128 := ⟨_, rfl⟩
  have hs1a : 0 ≤ s1 := by omega
  have hs1b : s1 ≤ 16383 := by omega
  obtain ⟨s2, hs2⟩ : ∃ s : Int, s = s1 + r * 16384 := ⟨_, rfl⟩
  have hs2a : 0 ≤ s2 := by omega
  have hs2b : s2 ≤ 2097151 := by omega
  have o0 : bits .or .i64 0 p = p := by
    have h := or64 0 (by decide) 0 p (by omega) (by decide) hp0 hp1
    rw [Int.pow_zero, Int.mul_one] at h
    omega
  have o1 : bits .or .i64 p (q * 128) = s1 := (or64 7 (by decide) p q (by omega) (by omega) hq0 hq1).trans (by omega)
  have o2 : bits .or .i64 s1 (r * 16384) = s2 := (or64 14 (by decide) s1 r (by omega) (by omega) hr0 hr1).trans (by omega)
  have hle : s2 ≤ most := by omega
  have htot : (x - 128) + 128 * (y - 128) + 16384 * z = s2 := by omega
  rw [htot]
  have hzb : (z != 0) = true := by simpa using hz
  clear hz
  have j0 : 0 < n := by omega
  have j1 : (1 : Int) < (n : Int) := by omega
  have j2 : (2 : Int) < (n : Int) := by omega
  obtain ⟨M, hM, hM0⟩ : ∃ M : Int, (if (3 : Int) < (n : Int) then (3 : Int) else (n : Int)) = M ∧ 3 ≤ M ∧ M ≤ 3 := ⟨_, rfl, by split <;> omega⟩
  obtain ⟨hM1, hM2⟩ := hM0
  have hdl : decide (s2 ≤ most) = true := by simp; omega
  have w1 : IntKind.i64.wrap 1 = 1 := IntWalk.i64_in 1 (by omega)
  have w2 : IntKind.i64.wrap 2 = 2 := IntWalk.i64_in 2 (by omega)
  have w3 : IntKind.i64.wrap 3 = 3 := IntWalk.i64_in 3 (by omega)
  clear hp hq hr hs1 hs2 htot hm
  go_enter Tryd.func81, Tryd.ntmps81
  go_wp2_with fail
  refine wp_loop_rounds 3 ?_
  rw [rounds_succ]
  go_wp2
  rw [rounds_succ]
  go_wp2
  rw [rounds_succ]
  go_wp2
  go_quiet (fail)
  go_wp2
  go_ret3
  exact ⟨rfl, by first | exact ⟨_, rfl⟩ | exact Dr.refl _⟩
set_option maxHeartbeats 1000000 in
theorem ms2zero (w : World) (g : Nat) (most : Int) (hg : w.cell? ⟨g, 0, none⟩ = some (.int .i64 most)) (ad : Addr) (n c : Nat) (hn : 3 ≤ n) (x : Int) (hx0 : 128 ≤ x) (hx1 : x ≤ 255) (y : Int) (hy0 : 128 ≤ y) (hy1 : y ≤ 255) (z : Int) (hz0 : 0 ≤ z) (hz1 : z ≤ 127) (c0 : w.cell? ad = some (.int .u8 x)) (c1 : w.cell? ⟨ad.block, ad.off + 1, none⟩ = some (.int .u8 y)) (c2 : w.cell? ⟨ad.block, ad.off + 2, none⟩ = some (.int .u8 z)) (hm : (x - 128) + 128 * (y - 128) + 16384 * z ≤ most) (hz : z = 0) :
    Calls Tryd.prog 81 #[.pointer (some ⟨g, 0, none⟩), .slice (some ad) n c] w fun e w' => ∃ k m, e = .returned (.tuple #[k, m, .bool false]) ∧ Dr w w' := by
  obtain ⟨p, hp⟩ : ∃ p : Int, p = x - 128 := ⟨_, rfl⟩
  have hp0 : 0 ≤ p := by omega
  have hp1 : p ≤ 127 := by omega
  have b0 : bits .and .u8 x 127 = p := (and127 x (by omega) (by omega)).trans (by omega)
  obtain ⟨q, hq⟩ : ∃ q : Int, q = y - 128 := ⟨_, rfl⟩
  have hq0 : 0 ≤ q := by omega
  have hq1 : q ≤ 127 := by omega
  have b1 : bits .and .u8 y 127 = q := (and127 y (by omega) (by omega)).trans (by omega)
  obtain ⟨r, hr⟩ : ∃ r : Int, r = z := ⟨_, rfl⟩
  have hr0 : 0 ≤ r := by omega
  have hr1 : r ≤ 127 := by omega
  have b2 : bits .and .u8 z 127 = r := (and127 z (by omega) (by omega)).trans (by omega)
  obtain ⟨s1, hs1⟩ : ∃ s : Int, s = p + q * 128 := ⟨_, rfl⟩
  have hs1a : 0 ≤ s1 := by omega
  have hs1b : s1 ≤ 16383 := by omega
  obtain ⟨s2, hs2⟩ : ∃ s : Int, s = s1 + r * 16384 := ⟨_, rfl⟩
  have hs2a : 0 ≤ s2 := by omega
  have hs2b : s2 ≤ 2097151 := by omega
  have o0 : bits .or .i64 0 p = p := by
    have h := or64 0 (by decide) 0 p (by omega) (by decide) hp0 hp1
    rw [Int.pow_zero, Int.mul_one] at h
    omega
  have o1 : bits .or .i64 p (q * 128) = s1 := (or64 7 (by decide) p q (by omega) (by omega) hq0 hq1).trans (by omega)
  have o2 : bits .or .i64 s1 (r * 16384) = s2 := (or64 14 (by decide) s1 r (by omega) (by omega) hr0 hr1).trans (by omega)
  have hle : s2 ≤ most := by omega
  subst hz
  have j0 : 0 < n := by omega
  have j1 : (1 : Int) < (n : Int) := by omega
  have j2 : (2 : Int) < (n : Int) := by omega
  obtain ⟨M, hM, hM0⟩ : ∃ M : Int, (if (3 : Int) < (n : Int) then (3 : Int) else (n : Int)) = M ∧ 3 ≤ M ∧ M ≤ 3 := ⟨_, rfl, by split <;> omega⟩
  obtain ⟨hM1, hM2⟩ := hM0
  have hdl : decide (s2 ≤ most) = true := by simp; omega
  have w1 : IntKind.i64.wrap 1 = 1 := IntWalk.i64_in 1 (by omega)
  have w2 : IntKind.i64.wrap 2 = 2 := IntWalk.i64_in 2 (by omega)
  have w3 : IntKind.i64.wrap 3 = 3 := IntWalk.i64_in 3 (by omega)
  clear hp hq hr hs1 hs2 hm
  go_enter Tryd.func81, Tryd.ntmps81
  go_wp2_with fail
  refine wp_loop_rounds 3 ?_
  rw [rounds_succ]
  go_wp2
  rw [rounds_succ]
  go_wp2
  rw [rounds_succ]
  go_wp2
  go_quiet (fail)
  go_wp2
  go_ret3
  exact ⟨_, _, rfl, by first | exact ⟨_, rfl⟩ | exact Dr.refl _⟩
set_option maxHeartbeats 1000000 in
theorem ms2nle (w : World) (g : Nat) (most : Int) (hg : w.cell? ⟨g, 0, none⟩ = some (.int .i64 most)) (ad : Addr) (n c : Nat) (hn : 3 ≤ n) (x : Int) (hx0 : 128 ≤ x) (hx1 : x ≤ 255) (y : Int) (hy0 : 128 ≤ y) (hy1 : y ≤ 255) (z : Int) (hz0 : 0 ≤ z) (hz1 : z ≤ 127) (c0 : w.cell? ad = some (.int .u8 x)) (c1 : w.cell? ⟨ad.block, ad.off + 1, none⟩ = some (.int .u8 y)) (c2 : w.cell? ⟨ad.block, ad.off + 2, none⟩ = some (.int .u8 z)) (hm : most < (x - 128) + 128 * (y - 128) + 16384 * z) :
    Calls Tryd.prog 81 #[.pointer (some ⟨g, 0, none⟩), .slice (some ad) n c] w fun e w' => ∃ k m, e = .returned (.tuple #[k, m, .bool false]) ∧ Dr w w' := by
  obtain ⟨p, hp⟩ : ∃ p : Int, p = x - 128 := ⟨_, rfl⟩
  have hp0 : 0 ≤ p := by omega
  have hp1 : p ≤ 127 := by omega
  have b0 : bits .and .u8 x 127 = p := (and127 x (by omega) (by omega)).trans (by omega)
  obtain ⟨q, hq⟩ : ∃ q : Int, q = y - 128 := ⟨_, rfl⟩
  have hq0 : 0 ≤ q := by omega
  have hq1 : q ≤ 127 := by omega
  have b1 : bits .and .u8 y 127 = q := (and127 y (by omega) (by omega)).trans (by omega)
  obtain ⟨r, hr⟩ : ∃ r : Int, r = z := ⟨_, rfl⟩
  have hr0 : 0 ≤ r := by omega
  have hr1 : r ≤ 127 := by omega
  have b2 : bits .and .u8 z 127 = r := (and127 z (by omega) (by omega)).trans (by omega)
  obtain ⟨s1, hs1⟩ : ∃ s : Int, s = p + q * 128 := ⟨_, rfl⟩
  have hs1a : 0 ≤ s1 := by omega
  have hs1b : s1 ≤ 16383 := by omega
  obtain ⟨s2, hs2⟩ : ∃ s : Int, s = s1 + r * 16384 := ⟨_, rfl⟩
  have hs2a : 0 ≤ s2 := by omega
  have hs2b : s2 ≤ 2097151 := by omega
  have o0 : bits .or .i64 0 p = p := by
    have h := or64 0 (by decide) 0 p (by omega) (by decide) hp0 hp1
    rw [Int.pow_zero, Int.mul_one] at h
    omega
  have o1 : bits .or .i64 p (q * 128) = s1 := (or64 7 (by decide) p q (by omega) (by omega) hq0 hq1).trans (by omega)
  have o2 : bits .or .i64 s1 (r * 16384) = s2 := (or64 14 (by decide) s1 r (by omega) (by omega) hr0 hr1).trans (by omega)
  have hle : most < s2 := by omega
  have j0 : 0 < n := by omega
  have j1 : (1 : Int) < (n : Int) := by omega
  have j2 : (2 : Int) < (n : Int) := by omega
  obtain ⟨M, hM, hM0⟩ : ∃ M : Int, (if (3 : Int) < (n : Int) then (3 : Int) else (n : Int)) = M ∧ 3 ≤ M ∧ M ≤ 3 := ⟨_, rfl, by split <;> omega⟩
  obtain ⟨hM1, hM2⟩ := hM0
  have hdl : decide (s2 ≤ most) = false := by simp; omega
  have w1 : IntKind.i64.wrap 1 = 1 := IntWalk.i64_in 1 (by omega)
  have w2 : IntKind.i64.wrap 2 = 2 := IntWalk.i64_in 2 (by omega)
  have w3 : IntKind.i64.wrap 3 = 3 := IntWalk.i64_in 3 (by omega)
  clear hp hq hr hs1 hs2 hm
  go_enter Tryd.func81, Tryd.ntmps81
  go_wp2_with fail
  refine wp_loop_rounds 3 ?_
  rw [rounds_succ]
  go_wp2
  rw [rounds_succ]
  go_wp2
  rw [rounds_succ]
  go_wp2
  go_quiet (fail)
  go_wp2
  go_ret3
  exact ⟨_, _, rfl, by first | exact ⟨_, rfl⟩ | exact Dr.refl _⟩
set_option maxHeartbeats 1000000 in
theorem ms3dead (w : World) (g : Nat) (most : Int) (_hg : w.cell? ⟨g, 0, none⟩ = some (.int .i64 most)) (ad : Addr) (n c : Nat) (hn : 3 ≤ n) (x : Int) (hx0 : 128 ≤ x) (hx1 : x ≤ 255) (y : Int) (hy0 : 128 ≤ y) (hy1 : y ≤ 255) (z : Int) (hz0 : 128 ≤ z) (hz1 : z ≤ 255) (c0 : w.cell? ad = some (.int .u8 x)) (c1 : w.cell? ⟨ad.block, ad.off + 1, none⟩ = some (.int .u8 y)) (c2 : w.cell? ⟨ad.block, ad.off + 2, none⟩ = some (.int .u8 z)) :
    Calls Tryd.prog 81 #[.pointer (some ⟨g, 0, none⟩), .slice (some ad) n c] w fun e w' => ∃ k m, e = .returned (.tuple #[k, m, .bool false]) ∧ Dr w w' := by
  obtain ⟨p, hp⟩ : ∃ p : Int, p = x - 128 := ⟨_, rfl⟩
  have hp0 : 0 ≤ p := by omega
  have hp1 : p ≤ 127 := by omega
  have b0 : bits .and .u8 x 127 = p := (and127 x (by omega) (by omega)).trans (by omega)
  obtain ⟨q, hq⟩ : ∃ q : Int, q = y - 128 := ⟨_, rfl⟩
  have hq0 : 0 ≤ q := by omega
  have hq1 : q ≤ 127 := by omega
  have b1 : bits .and .u8 y 127 = q := (and127 y (by omega) (by omega)).trans (by omega)
  obtain ⟨r, hr⟩ : ∃ r : Int, r = z - 128 := ⟨_, rfl⟩
  have hr0 : 0 ≤ r := by omega
  have hr1 : r ≤ 127 := by omega
  have b2 : bits .and .u8 z 127 = r := (and127 z (by omega) (by omega)).trans (by omega)
  obtain ⟨s1, hs1⟩ : ∃ s : Int, s = p + q * 128 := ⟨_, rfl⟩
  have hs1a : 0 ≤ s1 := by omega
  have hs1b : s1 ≤ 16383 := by omega
  obtain ⟨s2, hs2⟩ : ∃ s : Int, s = s1 + r * 16384 := ⟨_, rfl⟩
  have hs2a : 0 ≤ s2 := by omega
  have hs2b : s2 ≤ 2097151 := by omega
  have o0 : bits .or .i64 0 p = p := by
    have h := or64 0 (by decide) 0 p (by omega) (by decide) hp0 hp1
    rw [Int.pow_zero, Int.mul_one] at h
    omega
  have o1 : bits .or .i64 p (q * 128) = s1 := (or64 7 (by decide) p q (by omega) (by omega) hq0 hq1).trans (by omega)
  have o2 : bits .or .i64 s1 (r * 16384) = s2 := (or64 14 (by decide) s1 r (by omega) (by omega) hr0 hr1).trans (by omega)
  have j0 : 0 < n := by omega
  have j1 : (1 : Int) < (n : Int) := by omega
  have j2 : (2 : Int) < (n : Int) := by omega
  obtain ⟨M, hM, hM0⟩ : ∃ M : Int, (if (3 : Int) < (n : Int) then (3 : Int) else (n : Int)) = M ∧ 3 ≤ M ∧ M ≤ 3 := ⟨_, rfl, by split <;> omega⟩
  obtain ⟨hM1, hM2⟩ := hM0
  have hM3 : M = 3 := by omega
  subst hM3
  have hn3 : decide ((n : Int) < 3) = false := by simp; omega
  clear hp hq hr hs1 hs2
  go_enter Tryd.func81, Tryd.ntmps81
  go_wp2_with fail
  refine wp_loop_rounds 4 ?_
  rw [rounds_succ]
  go_wp2
  rw [rounds_succ]
  go_wp2
  rw [rounds_succ]
  go_wp2
  rw [rounds_succ]
  go_wp2
  go_ret3
  exact ⟨_, _, rfl, by first | exact ⟨_, rfl⟩ | exact Dr.refl _⟩
end Go.Proofs.YthalmjjbamglgaaDoor
