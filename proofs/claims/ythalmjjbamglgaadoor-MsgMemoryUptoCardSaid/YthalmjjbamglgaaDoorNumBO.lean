/-
  num.Bytes16, Bytes32, Get16 and Get32, and the reference's Bytes, Get and SameBytes, by contracts.
  No condition of its own: the fact 'Sen' on the world; numbers within their kinds.
-/
import Derived.Test.YthalmjjbamglgaaDoorNumA
import Derived.Test.YthalmjjbamglgaaDoorBytes
import Derived.WalkLawsBesides
import Derived.Laws.CopyOwn
import Derived.Deep.QuietTactic
import Derived.BigQuiet
import Derived.Lib.Hide
namespace Go.Proofs.YthalmjjbamglgaaDoor
open Go.RowKit
theorem b16 (w : World) (v : Int) (h0 : 0 ≤ v) (h1 : v ≤ 65535) :
    Calls Tryd.prog 12 #[.int .u16 v] w fun e w' => e = .returned (.slice (some ⟨w.heap.size + 1, 0, none⟩) 2 2) ∧ Is w' (w.heap.size + 1) 5 #[.int .u8 (v / 256), .int .u8 (v % 256)] ∧ Below w.heap.size w w' := by
  have hmk : ∀ w : World, (Instr.makeSlice 23 (.int .i64 2) (.int .i64 2)).run Tryd.prog w = .ok (.slice (some ⟨w.heap.size, 0, none⟩) 2 2) (w.alloc (.cells #[.int .u8 0, .int .u8 0] 5)) := fun _ => by kernel_rfl
  go_enter Tryd.func12, Tryd.ntmps12
  go_wp2_with (refine wpList_copy_splice rfl (.tmp 12) (.tmp 13) 23 23 rfl 5 Tryd.underlying23 (by kernel_rfl) (some ⟨w.heap.size + 1, 0, none⟩) (some ⟨w.heap.size, 0, none⟩) 2 2 2 2 rfl rfl (w.heap.size + 1) 0 [.int .u8 0, .int .u8 0] 5 ?hg [.int .u8 (v / 256), .int .u8 (v % 256)] rfl ?hp (Nat.le_refl _) ?ho w.heap.size w ?hb (by omega) ?_)
  case hg => simpa using heap_alloc_new (w.alloc (.cells #[.int .u8 (v / 256), .int .u8 (v % 256)] 117)) (.cells #[.int .u8 0, .int .u8 0] 5)
  case ho => simp [Value.oneCell']
  case hb => exact (((Below.refl _ w).alloc (Nat.le_refl _) _).alloc (by simp) _)
  intro w1 h1 hb1
  go_wp2
  go_ret
  exact ⟨rfl, h1.out, hb1⟩
theorem b32 (w : World) (v : Int) (h0 : 0 ≤ v) (h1 : v ≤ 4294967295) :
    Calls Tryd.prog 11 #[.int .u32 v] w fun e w' => e = .returned (.slice (some ⟨w.heap.size + 1, 0, none⟩) 4 4) ∧ Is w' (w.heap.size + 1) 5 #[.int .u8 (v / 16777216), .int .u8 (v / 65536 % 256), .int .u8 (v / 256 % 256), .int .u8 (v % 256)] ∧ Below w.heap.size w w' := by
  have hmk : ∀ w : World, (Instr.makeSlice 23 (.int .i64 4) (.int .i64 4)).run Tryd.prog w = .ok (.slice (some ⟨w.heap.size, 0, none⟩) 4 4) (w.alloc (.cells #[.int .u8 0, .int .u8 0, .int .u8 0, .int .u8 0] 5)) := fun _ => by kernel_rfl
  go_enter Tryd.func11, Tryd.ntmps11
  go_wp2_with (refine wpList_copy_splice rfl (.tmp 18) (.tmp 19) 23 23 rfl 5 Tryd.underlying23 (by kernel_rfl) (some ⟨w.heap.size + 1, 0, none⟩) (some ⟨w.heap.size, 0, none⟩) 4 4 4 4 rfl rfl (w.heap.size + 1) 0 [.int .u8 0, .int .u8 0, .int .u8 0, .int .u8 0] 5 ?hg [.int .u8 (v / 16777216), .int .u8 (v / 65536 % 256), .int .u8 (v / 256 % 256), .int .u8 (v % 256)] rfl ?hp (Nat.le_refl _) ?ho w.heap.size w ?hb (by omega) ?_)
  case hg => simpa using heap_alloc_new (w.alloc (.cells #[.int .u8 (v / 16777216), .int .u8 (v / 65536 % 256), .int .u8 (v / 256 % 256), .int .u8 (v % 256)] 116)) (.cells #[.int .u8 0, .int .u8 0, .int .u8 0, .int .u8 0] 5)
  case ho => simp [Value.oneCell']
  case hb => exact (((Below.refl _ w).alloc (Nat.le_refl _) _).alloc (by simp) _)
  intro w1 h1 hb1
  go_wp2
  go_ret
  exact ⟨rfl, h1.out, hb1⟩

theorem get16_no {B : Nat} {a : Nat → Addr} (w : World) (hs : Sen B a w) (A : Option Addr) (n c : Nat) (hn : n < 2) :
    Calls Tryd.prog 13 #[.slice A n c] w fun e w' => e = .returned (.tuple #[.int .u16 0, .iface 200 (.pointer (some (a 3)))]) ∧ Dr w w' := by
  have hc : w.cell? ⟨0, 0, none⟩ = some (.iface 200 (.pointer (some (a 3)))) := hs.cell 3 (by decide) (by decide)
  go_enter Tryd.func13, Tryd.ntmps13
  go_wp2
  go_quiet (fail)
  go_wp2
  go_ret2
  exact ⟨rfl, _, rfl⟩
theorem get16_ok (w : World) (ad : Addr) (n c : Nat) (hn : 2 ≤ n) (x y : Int) (hx : 0 ≤ x) (hx2 : x ≤ 255) (hy : 0 ≤ y) (hy2 : y ≤ 255) (h0 : w.cell? (ad.add 0) = some (.int .u8 x)) (h1 : w.cell? (ad.add 1) = some (.int .u8 y)) :
    Calls Tryd.prog 13 #[.slice (some ad) n c] w fun e w' => e = .returned (.tuple #[.int .u16 (x * 256 + y), .nilIface]) ∧ Dr w w' := by
  have j0 : 0 < n := by omega
  have i1 : (1 : Int) < (n : Int) := by omega
  have hb : decide ((n : Int) < 2) = false := by simp; omega
  have c0 : w.cell? ad = some (.int .u8 x) := by simpa [Addr.add] using h0
  have c1 : w.cell? ⟨ad.block, ad.off + 1, none⟩ = some (.int .u8 y) := by simpa [Addr.add] using h1
  have e1 := IntWalk.u16_in x (by omega)
  have e2 := IntWalk.u16_in (x * 256) (by omega)
  have e3 := IntWalk.u16_in y (by omega)
  have e4 := or16 x y hx hx2 hy hy2
  clear h0 h1
  go_enter Tryd.func13, Tryd.ntmps13
  go_wp2
  go_quiet (fail)
  go_wp2
  go_ret2
  exact ⟨rfl, _, rfl⟩

theorem get32_no {B : Nat} {a : Nat → Addr} (w : World) (hs : Sen B a w) (A : Option Addr) (n c : Nat) (hn : n < 4) :
    Calls Tryd.prog 14 #[.slice A n c] w fun e w' => e = .returned (.tuple #[.int .u32 0, .iface 200 (.pointer (some (a 3)))]) ∧ Dr w w' := by
  have hc : w.cell? ⟨0, 0, none⟩ = some (.iface 200 (.pointer (some (a 3)))) := hs.cell 3 (by decide) (by decide)
  go_enter Tryd.func14, Tryd.ntmps14
  go_wp2
  go_quiet (fail)
  go_wp2
  go_ret2
  exact ⟨rfl, _, rfl⟩
theorem get32_ok (w : World) (ad : Addr) (n c : Nat) (hn : 4 ≤ n) (x y z u : Int) (hx : 0 ≤ x ∧ x ≤ 255) (hy : 0 ≤ y ∧ y ≤ 255) (hz : 0 ≤ z ∧ z ≤ 255) (hu : 0 ≤ u ∧ u ≤ 255)
    (h0 : w.cell? (ad.add 0) = some (.int .u8 x)) (h1 : w.cell? (ad.add 1) = some (.int .u8 y)) (h2 : w.cell? (ad.add 2) = some (.int .u8 z)) (h3 : w.cell? (ad.add 3) = some (.int .u8 u)) :
    Calls Tryd.prog 14 #[.slice (some ad) n c] w fun e w' => e = .returned (.tuple #[.int .u32 (x * 16777216 + (y * 65536 + (z * 256 + u))), .nilIface]) ∧ Dr w w' := by
  have j0 : 0 < n := by omega
  have i1 : (1 : Int) < (n : Int) := by omega
  have i2 : (2 : Int) < (n : Int) := by omega
  have i3 : (3 : Int) < (n : Int) := by omega
  have hb : decide ((n : Int) < 4) = false := by simp; omega
  have c0 : w.cell? ad = some (.int .u8 x) := by simpa [Addr.add] using h0
  have c1 : w.cell? ⟨ad.block, ad.off + 1, none⟩ = some (.int .u8 y) := by simpa [Addr.add] using h1
  have c2 : w.cell? ⟨ad.block, ad.off + 2, none⟩ = some (.int .u8 z) := by simpa [Addr.add] using h2
  have c3 : w.cell? ⟨ad.block, ad.off + 3, none⟩ = some (.int .u8 u) := by simpa [Addr.add] using h3
  have e1 := IntWalk.u32_in x (by omega)
  have e2 := IntWalk.u32_in (x * 16777216) (by omega)
  have e3 := IntWalk.u32_in y (by omega)
  have e4 := IntWalk.u32_in (y * 65536) (by omega)
  have e5 := IntWalk.u32_in z (by omega)
  have e6 := IntWalk.u32_in (z * 256) (by omega)
  have e7 := IntWalk.u32_in u (by omega)
  have o1 : bits .or .u32 (x * 16777216) (y * 65536) = x * 16777216 + y * 65536 := or32 24 (by decide) x (y * 65536) hx.1 (by omega) (by omega) (by omega)
  have o2 : bits .or .u32 (x * 16777216 + y * 65536) (z * 256) = x * 16777216 + y * 65536 + z * 256 := by
    have := or32 16 (by decide) (x * 256 + y) (z * 256) (by omega) (by omega) (by omega) (by omega)
    rw [show (x * 256 + y) * 2 ^ 16 = x * 16777216 + y * 65536 by omega] at this
    exact this
  have o3 : bits .or .u32 (x * 16777216 + y * 65536 + z * 256) u = x * 16777216 + y * 65536 + z * 256 + u := by
    have := or32 8 (by decide) (x * 65536 + y * 256 + z) u (by omega) (by omega) (by omega) (by omega)
    rw [show (x * 65536 + y * 256 + z) * 2 ^ 8 = x * 16777216 + y * 65536 + z * 256 by omega] at this
    exact this
  clear h0 h1 h2 h3
  go_enter Tryd.func14, Tryd.ntmps14
  go_wp2
  go_quiet (fail)
  go_wp2
  go_ret2
  exact ⟨by show Ending.returned (.tuple #[.int .u32 (x * 16777216 + y * 65536 + z * 256 + u), .nilIface]) = _; rw [show x * 16777216 + y * 65536 + z * 256 + u = x * 16777216 + (y * 65536 + (z * 256 + u)) by omega], _, rfl⟩
set_option maxHeartbeats 1000000 in
theorem awake_any {B : Nat} {a : Nat → Addr} (w : World) (hs : Sen B a w) (hB : B ≤ w.heap.size) :
    Calls Tryd.prog 10 #[] w fun e w' => e = .returned (.bool true) ∧ Below w.heap.size w w' := by
  go_enter Tryd.func10, Tryd.ntmps10
  go_wp2_with fail
  refine (b16 w 258 (by omega) (by omega)).mono ?_
  rintro e w1 ⟨rfl, hi, hb1⟩
  have c0 : w1.cell? ⟨w.heap.size + 1, 0, none⟩ = some (.int .u8 1) := hi.at_ 0 _ rfl
  have c1 : w1.cell? ⟨w.heap.size + 1, 1, none⟩ = some (.int .u8 2) := hi.at_ 1 _ rfl
  go_wp2_with fail
  refine (add_no w1 (hs.below (hb1.mono hB)) 4294967295 1 (by omega) (by omega) (by omega)).mono ?_
  rintro e w' ⟨rfl, m, rfl⟩
  go_wp2_with (go_at_call 26; refine (code_err _ ((hs.below (hb1.mono hB)).drewN _) 4 (by omega) (by omega)).mono ?_; rintro e w' ⟨rfl, rfl⟩)
  go_ret
  exact ⟨rfl, below_drewN hb1 m⟩

theorem Is.rd {kd : IntKind} {w : World} {g : Nat} {t : TypeId} {xs : List Int} (h : Is w g t (xs.map (Value.int kd)).toArray) : Rd w (some ⟨g, 0, none⟩) xs.length fun i => .int kd (xs.getD i 0) := fun _ => by
  refine ⟨_, rfl, fun i hi => ?_⟩
  rw [show (⟨g, 0, none⟩ : Addr).add i = ⟨g, i, none⟩ from by unfold Addr.add; split <;> simp_all]
  refine h.at_ i _ ?_
  rw [List.getElem?_toArray]
  exact ints_get hi

def addV (x y : Int) : Int := if x + y ≤ 4294967295 then x + y else 0
def addC (x y : Int) : Nat := if x + y ≤ 4294967295 then 0 else 4
def subV (x y : Int) : Int := if y ≤ x then x - y else 0
def subC (x y : Int) : Nat := if y ≤ x then 0 else 5
def narV (x : Int) : Int := if 0 ≤ x ∧ x ≤ 4294967295 then x else 0
def narC (x : Int) : Nat := if 0 ≤ x ∧ x ≤ 4294967295 then 0 else 2
/-- The number that the first two, four bytes write. -/
def g2V (b : List Int) : Int := if 2 ≤ b.length then b.getD 0 0 * 256 + b.getD 1 0 else 0
def g2C (b : List Int) : Nat := if 2 ≤ b.length then 0 else 3
def g4V (b : List Int) : Int := if 4 ≤ b.length then b.getD 0 0 * 16777216 + (b.getD 1 0 * 65536 + (b.getD 2 0 * 256 + b.getD 3 0)) else 0
def g4C (b : List Int) : Nat := if 4 ≤ b.length then 0 else 3

section
variable {B : Nat} {a : Nat → Addr}
theorem add_any (w : World) (hs : Sen B a w) (x y : Int) (hx : 0 ≤ x ∧ x ≤ 4294967295) (hy : 0 ≤ y ∧ y ≤ 4294967295) :
    Calls Tryd.prog 48 #[.int .u32 x, .int .u32 y] w fun e w' => e = .returned (.tuple #[.int .u32 (addV x y), errv a (addC x y)]) ∧ Dr w w' := by
  by_cases h : x + y ≤ 4294967295
  · rw [show addV x y = x + y from if_pos h, show addC x y = 0 from if_pos h]
    exact (add_ok w x y hx.1 hy.1 h).mono fun e w' ⟨h1, h2⟩ => ⟨h1, 0, h2⟩
  · rw [show addV x y = 0 from if_neg h, show addC x y = 4 from if_neg h]
    exact add_no w hs x y hy.1 hy.2 (by omega)
variable {A : Option Addr} {n c : Nat} {b : List Int}
theorem get16_any (w : World) (hs : Sen B a w) (hl : b.length = n) (hb : Byt b) (hr : Rd w A n fun i => .int .u8 (b.getD i 0)) :
    Calls Tryd.prog 13 #[.slice A n c] w fun e w' => e = .returned (.tuple #[.int .u16 (g2V b), errv a (g2C b)]) ∧ Dr w w' := by
  by_cases h : 2 ≤ b.length
  · rw [show g2V b = _ from if_pos h, show g2C b = 0 from if_pos h]
    obtain ⟨ad, rfl, hc⟩ := hr (by omega)
    have b0 := hb.at_ (i := 0) (by omega)
    have b1 := hb.at_ (i := 1) (by omega)
    exact get16_ok w ad n c (by omega) _ _ b0.1 b0.2 b1.1 b1.2 (hc 0 (by omega)) (hc 1 (by omega))
  · rw [show g2V b = 0 from if_neg h, show g2C b = 3 from if_neg h]
    exact get16_no w hs A n c (by omega)
theorem get32_any (w : World) (hs : Sen B a w) (hl : b.length = n) (hb : Byt b) (hr : Rd w A n fun i => .int .u8 (b.getD i 0)) :
    Calls Tryd.prog 14 #[.slice A n c] w fun e w' => e = .returned (.tuple #[.int .u32 (g4V b), errv a (g4C b)]) ∧ Dr w w' := by
  by_cases h : 4 ≤ b.length
  · rw [show g4V b = _ from if_pos h, show g4C b = 0 from if_pos h]
    obtain ⟨ad, rfl, hc⟩ := hr (by omega)
    exact get32_ok w ad n c (by omega) _ _ _ _ (hb.at_ (by omega)) (hb.at_ (by omega)) (hb.at_ (by omega)) (hb.at_ (by omega)) (hc 0 (by omega)) (hc 1 (by omega)) (hc 2 (by omega)) (hc 3 (by omega))
  · rw [show g4V b = 0 from if_neg h, show g4C b = 3 from if_neg h]
    exact get32_no w hs A n c (by omega)
end
theorem addC_le (x y : Int) : addC x y ≤ 42 := by unfold addC; split <;> omega
theorem subC_le (x y : Int) : subC x y ≤ 42 := by unfold subC; split <;> omega
theorem narC_le (x : Int) : narC x ≤ 42 := by unfold narC; split <;> omega
theorem g2C_le (b : List Int) : g2C b ≤ 42 := by unfold g2C; split <;> omega
theorem g4C_le (b : List Int) : g4C b ≤ 42 := by unfold g4C; split <;> omega
end Go.Proofs.YthalmjjbamglgaaDoor
