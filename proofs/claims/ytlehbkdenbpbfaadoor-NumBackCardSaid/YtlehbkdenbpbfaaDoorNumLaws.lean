/-
  The walks of culvertlaw01's NumSums and NumPacks.
  No condition of its own: the fact 'Sen' on the world; the argument reads as a list.
-/
import Derived.Test.YtlehbkdenbpbfaaDoorNumB
namespace Go.Proofs.YtlehbkdenbpbfaaDoor
open Go.RowKit

set_option maxHeartbeats 1000000 in
theorem sums_walk {a : Nat → Addr} (w : World) (hs : Sen w.heap.size a w) (x y z : Int) (hx : 0 ≤ x ∧ x ≤ 4294967295) (hy : 0 ≤ y ∧ y ≤ 4294967295) :
    Calls Tryd.prog 3 #[.int .u32 x, .int .u32 y, .int .i64 z] w fun e w' => e = .returned (.bool true) ∧ Below w.heap.size w w' := by
  have l1 := addC_le x y
  have l2 := subC_le x y
  have l3 := narC_le z
  go_enter Tryd.func3, Tryd.ntmps3
  go_wp2_with fail
  refine (awake_any w hs (Nat.le_refl _)).mono ?_
  rintro e w1 ⟨rfl, hb⟩
  have hs1 := hs.below hb
  go_wp2_with fail
  refine (add_any w1 hs1 x y hx hy).mono ?_
  rintro e w' ⟨rfl, m, rfl⟩
  go_wp2_with fail
  refine (radd_any _ x y hx hy).mono ?_
  rintro e w' ⟨rfl, rfl⟩
  go_wp2_with fail
  refine (code_any _ (hs1.drewN _) _ l1).mono ?_
  rintro e w' ⟨rfl, rfl⟩
  go_wp2_with fail
  refine (sub_any _ (hs1.drewN _) x y hx hy).mono ?_
  rintro e w' ⟨rfl, m2, rfl⟩
  go_wp2_with fail
  refine (rsub_any _ x y hx hy).mono ?_
  rintro e w' ⟨rfl, rfl⟩
  go_wp2_with fail
  refine (code_any _ (hs1.drewN _) _ l2).mono ?_
  rintro e w' ⟨rfl, rfl⟩
  go_wp2_with fail
  refine (nar_any _ (hs1.drewN _) z).mono ?_
  rintro e w' ⟨rfl, m3, rfl⟩
  go_wp2_with fail
  refine (rnar_any _ z).mono ?_
  rintro e w' ⟨rfl, rfl⟩
  go_wp2_with fail
  refine (code_any _ (hs1.drewN _) _ l3).mono ?_
  rintro e w' ⟨rfl, rfl⟩
  go_wp2
  go_ret
  exact ⟨rfl, below_drewN hb _⟩

theorem g2V_bd {b : List Int} (hb : Byt b) : 0 ≤ g2V b ∧ g2V b ≤ 65535 := by
  unfold g2V
  split
  · have h0 := hb.at_ (i := 0) (by omega)
    have h1 := hb.at_ (i := 1) (by omega)
    omega
  · omega
theorem g4V_bd {b : List Int} (hb : Byt b) : 0 ≤ g4V b ∧ g4V b ≤ 4294967295 := by
  unfold g4V
  split
  · have h0 := hb.at_ (i := 0) (by omega)
    have h1 := hb.at_ (i := 1) (by omega)
    have h2 := hb.at_ (i := 2) (by omega)
    have h3 := hb.at_ (i := 3) (by omega)
    omega
  · omega

set_option maxHeartbeats 1000000 in
theorem packs_walk {a : Nat → Addr} (w : World) (hs : Sen w.heap.size a w) (v : Int) (hv : 0 ≤ v ∧ v ≤ 4294967295) (A : Option Addr) (n c : Nat) (b : List Int) (hl : b.length = n) (hb : Byt b) (hr : Rd w A n fun i => .int .u8 (b.getD i 0)) :
    Calls Tryd.prog 4 #[.int .u32 v, .slice A n c] w fun e w' => e = .returned (.bool true) ∧ Below w.heap.size w w' := by
  obtain ⟨v0, v1⟩ := hv
  obtain ⟨g20, g21⟩ := g2V_bd hb
  obtain ⟨g40, g41⟩ := g4V_bd hb
  have l1 := g2C_le b
  have l2 := g4C_le b
  have HL := Lib.hid hl
  clear hl
  go_enter Tryd.func4, Tryd.ntmps4
  go_wp2_with fail
  refine (awake_any w hs (Nat.le_refl _)).mono ?_
  rintro e w1 ⟨rfl, hb1⟩
  go_wp2_with fail
  refine (b32 w1 v v0 v1).mono ?_
  rintro e w2 ⟨rfl, hi2, hb2⟩
  go_wp2_with fail
  refine (rbytes4 w2 v v0 v1).mono ?_
  rintro e w3 ⟨rfl, hw3⟩
  have hi3 := Is.new w2 5 #[.int .u8 (v / 16777216), .int .u8 (v / 65536 % 256), .int .u8 (v / 256 % 256), .int .u8 (v % 256)]
  rw [← hw3] at hi3
  have hb3 : Below w2.heap.size w2 w3 := by rw [hw3]; exact (Below.refl _ _).alloc (Nat.le_refl _) _
  have hb23 : Below w1.heap.size w1 w3 := hb2.trans (hb3.mono hb2.size)
  have hi2' := hi2.below hb3 hi2.lt
  clear hw3
  have bt : Byt [v / 16777216, v / 65536 % 256, v / 256 % 256, v % 256] := by
    intro z hz
    simp at hz
    omega
  go_wp2_with fail
  refine (same_any w3 _ _ 4 4 4 4 [v / 16777216, v / 65536 % 256, v / 256 % 256, v % 256] [v / 16777216, v / 65536 % 256, v / 256 % 256, v % 256] rfl rfl bt bt (Is.rd (xs := [v / 16777216, v / 65536 % 256, v / 256 % 256, v % 256]) hi2') (Is.rd (xs := [v / 16777216, v / 65536 % 256, v / 256 % 256, v % 256]) hi3)).mono ?_
  rintro e w' ⟨rfl, rfl⟩
  clear bt hi2 hi2' hi3
  go_wp2_with fail
  refine (b16 w3 (v % 65536) (by omega) (by omega)).mono ?_
  rintro e w4 ⟨rfl, hi4, hb4⟩
  go_wp2_with fail
  refine (rbytes2 w4 (v % 65536) (by omega) (by omega)).mono ?_
  rintro e w5 ⟨rfl, hw5⟩
  have hi5 := Is.new w4 5 #[.int .u8 (v % 65536 / 256), .int .u8 (v % 65536 % 256)]
  rw [← hw5] at hi5
  have hb5 : Below w4.heap.size w4 w5 := by rw [hw5]; exact (Below.refl _ _).alloc (Nat.le_refl _) _
  have hi4' := hi4.below hb5 hi4.lt
  have hbw : Below w.heap.size w w5 := hb1.trans ((hb23.mono hb1.size).trans (((hb4.trans (hb5.mono hb4.size)).mono (Nat.le_trans hb1.size hb23.size))))
  clear hw5
  have bt : Byt [v % 65536 / 256, v % 65536 % 256] := by
    intro z hz
    simp only [List.mem_cons, List.not_mem_nil, or_false] at hz
    omega
  go_wp2_with fail
  refine (same_any w5 _ _ 2 2 2 2 [v % 65536 / 256, v % 65536 % 256] [v % 65536 / 256, v % 65536 % 256] rfl rfl bt bt (Is.rd (xs := [v % 65536 / 256, v % 65536 % 256]) hi4') (Is.rd (xs := [v % 65536 / 256, v % 65536 % 256]) hi5)).mono ?_
  rintro e w' ⟨rfl, rfl⟩
  clear bt hi4 hi4' hi5
  have hs5 := hs.below hbw
  have hr5 := hr.keep hbw
  go_wp2_with fail
  refine (get16_any w5 hs5 HL.out hb hr5).mono ?_
  rintro e w' ⟨rfl, m, rfl⟩
  go_wp2_with fail
  refine (rget2_any _ HL.out hb (hr5.drewN m)).mono ?_
  rintro e w' ⟨rfl, rfl⟩
  go_wp2_with fail
  refine (code_any _ (hs5.drewN m) _ l1).mono ?_
  rintro e w' ⟨rfl, rfl⟩
  go_wp2_with fail
  refine (get32_any _ (hs5.drewN m) HL.out hb (hr5.drewN m)).mono ?_
  rintro e w' ⟨rfl, m2, rfl⟩
  go_wp2_with fail
  refine (rget4_any _ HL.out hb (hr5.drewN _)).mono ?_
  rintro e w' ⟨rfl, rfl⟩
  go_wp2_with fail
  refine (code_any _ (hs5.drewN _) _ l2).mono ?_
  rintro e w' ⟨rfl, rfl⟩
  go_wp2
  go_ret
  exact ⟨rfl, below_drewN hbw _⟩
end Go.Proofs.YtlehbkdenbpbfaaDoor
