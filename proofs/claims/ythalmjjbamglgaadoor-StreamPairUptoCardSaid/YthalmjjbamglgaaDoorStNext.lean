/-
  states.Next and culvertref09.Next by contracts: both answer the same table, for every pair of numbers.
  No condition of its own: the facts 'Sen' and 'Tab' on the world.
-/
import Derived.Test.YthalmjjbamglgaaDoorCode
import Derived.Test.YthalmjjbamglgaaDoorG1
import Derived.Lib.LaidTab
import Derived.Deep.QuietTactic
import Derived.BigQuiet
namespace Go.Proofs.YthalmjjbamglgaaDoor
open Go.RowKit

def tab : List Int := [1, 2, -1, -1, -1, -1, -1, -1, -1, -1, 3, 4, 5, 7, -1, -1, 3, -1, 4, 5, 7, -1, -1, -1, -1, 4, 5, 7, -1, -1, 4, 4, -1, 6, 7, -1, -1, 5, 5, 6, -1, 7, -1, -1, 6, 6, -1, -1, 7, -1, -1, -1, -1, -1, -1, 7]
def inR (s e : Int) : Bool := decide (0 ≤ s) && decide (s ≤ 7) && decide (0 ≤ e) && decide (e ≤ 6)
def cellT (s e : Int) : Int := tab.getD (7 * s.toNat + e.toNat) (-1)
/-- The state that Next answers; its error's code. -/
def nst (s e : Int) : Int := if inR s e then (if cellT s e = -1 then 0 else cellT s e) else 0
def ncd (s e : Int) : Nat := if inR s e then (if cellT s e = -1 then 23 else 0) else 2

/-- The world holds the table, below block B. -/
structure Tab (B : Nat) (w : World) : Prop where
  cell : ∀ i, i < 56 → w.cell? ⟨42, i, none⟩ = some (.int .i64 (tab.getD i 0))
  low : 42 < B
theorem Tab.below {B : Nat} {w w' : World} (h : Tab B w) (hb : Below B w w') : Tab B w' := ⟨fun i hi => (hb.cell (p := ⟨42, i, none⟩) h.low).trans (h.cell i hi), h.low⟩
theorem Tab.drewN {B : Nat} {w : World} (h : Tab B w) (n : Nat) : Tab B (w.drewN n) := ⟨h.cell, h.low⟩

theorem known_yes (w : World) (s : Int) (h1 : 0 ≤ s) (h2 : s ≤ 7) : Calls Tryd.prog 117 #[.int .i64 s] w fun e w' => e = .returned (.bool true) ∧ w = w' := by
  go_enter Tryd.func117, Tryd.ntmps117
  go_wp2
  go_ret
  exact ⟨by simp, rfl⟩
theorem known_no (w : World) (s : Int) (h : s < 0 ∨ 7 < s) : Calls Tryd.prog 117 #[.int .i64 s] w fun e w' => e = .returned (.bool false) ∧ w = w' := by
  rcases h with h | h
  · go_enter Tryd.func117, Tryd.ntmps117
    go_wp2
    go_ret
    exact ⟨rfl, rfl⟩
  · have h0 : 0 ≤ s := by omega
    have h7 : decide (s ≤ 7) = false := by simp; omega
    go_enter Tryd.func117, Tryd.ntmps117
    go_wp2
    go_ret
    exact ⟨by simp, rfl⟩

theorem next_0_0 {B : Nat} {a : Nat → Addr} (w : World) (hs : Sen B a w) (ht : Tab B w) : Calls Tryd.prog 99 #[.int .i64 0, .int .i64 0] w fun e w' => e = .returned (.tuple #[.int .i64 1, errv a 0]) ∧ Dr w w' := by
  have hc : w.cell? ⟨42, 0, none⟩ = some (.int .i64 (1)) := ht.cell 0 (by decide)
  have h23 : w.cell? ⟨1, 0, none⟩ = some (.iface 200 (.pointer (some (a 23)))) := hs.cell 23 (by decide) (by decide)
  go_enter Tryd.func99, Tryd.ntmps99
  go_wp2_with (go_at_call 117; refine (known_yes w 0 (by omega) (by omega)).mono ?_; rintro e w' ⟨rfl, rfl⟩)
  go_ret2
  exact ⟨rfl, 0, rfl⟩
theorem next_0_1 {B : Nat} {a : Nat → Addr} (w : World) (hs : Sen B a w) (ht : Tab B w) : Calls Tryd.prog 99 #[.int .i64 0, .int .i64 1] w fun e w' => e = .returned (.tuple #[.int .i64 2, errv a 0]) ∧ Dr w w' := by
  have hc : w.cell? ⟨42, 1, none⟩ = some (.int .i64 (2)) := ht.cell 1 (by decide)
  have h23 : w.cell? ⟨1, 0, none⟩ = some (.iface 200 (.pointer (some (a 23)))) := hs.cell 23 (by decide) (by decide)
  go_enter Tryd.func99, Tryd.ntmps99
  go_wp2_with (go_at_call 117; refine (known_yes w 0 (by omega) (by omega)).mono ?_; rintro e w' ⟨rfl, rfl⟩)
  go_ret2
  exact ⟨rfl, 0, rfl⟩
theorem next_0_2 {B : Nat} {a : Nat → Addr} (w : World) (hs : Sen B a w) (ht : Tab B w) : Calls Tryd.prog 99 #[.int .i64 0, .int .i64 2] w fun e w' => e = .returned (.tuple #[.int .i64 0, errv a 23]) ∧ Dr w w' := by
  have hc : w.cell? ⟨42, 2, none⟩ = some (.int .i64 (-1)) := ht.cell 2 (by decide)
  have h23 : w.cell? ⟨1, 0, none⟩ = some (.iface 200 (.pointer (some (a 23)))) := hs.cell 23 (by decide) (by decide)
  go_enter Tryd.func99, Tryd.ntmps99
  go_wp2_with (go_at_call 117; refine (known_yes w 0 (by omega) (by omega)).mono ?_; rintro e w' ⟨rfl, rfl⟩)
  go_quiet (fail)
  go_wp2
  go_ret2
  exact ⟨rfl, _, rfl⟩
theorem next_0_3 {B : Nat} {a : Nat → Addr} (w : World) (hs : Sen B a w) (ht : Tab B w) : Calls Tryd.prog 99 #[.int .i64 0, .int .i64 3] w fun e w' => e = .returned (.tuple #[.int .i64 0, errv a 23]) ∧ Dr w w' := by
  have hc : w.cell? ⟨42, 3, none⟩ = some (.int .i64 (-1)) := ht.cell 3 (by decide)
  have h23 : w.cell? ⟨1, 0, none⟩ = some (.iface 200 (.pointer (some (a 23)))) := hs.cell 23 (by decide) (by decide)
  go_enter Tryd.func99, Tryd.ntmps99
  go_wp2_with (go_at_call 117; refine (known_yes w 0 (by omega) (by omega)).mono ?_; rintro e w' ⟨rfl, rfl⟩)
  go_quiet (fail)
  go_wp2
  go_ret2
  exact ⟨rfl, _, rfl⟩
theorem next_0_4 {B : Nat} {a : Nat → Addr} (w : World) (hs : Sen B a w) (ht : Tab B w) : Calls Tryd.prog 99 #[.int .i64 0, .int .i64 4] w fun e w' => e = .returned (.tuple #[.int .i64 0, errv a 23]) ∧ Dr w w' := by
  have hc : w.cell? ⟨42, 4, none⟩ = some (.int .i64 (-1)) := ht.cell 4 (by decide)
  have h23 : w.cell? ⟨1, 0, none⟩ = some (.iface 200 (.pointer (some (a 23)))) := hs.cell 23 (by decide) (by decide)
  go_enter Tryd.func99, Tryd.ntmps99
  go_wp2_with (go_at_call 117; refine (known_yes w 0 (by omega) (by omega)).mono ?_; rintro e w' ⟨rfl, rfl⟩)
  go_quiet (fail)
  go_wp2
  go_ret2
  exact ⟨rfl, _, rfl⟩
theorem next_0_5 {B : Nat} {a : Nat → Addr} (w : World) (hs : Sen B a w) (ht : Tab B w) : Calls Tryd.prog 99 #[.int .i64 0, .int .i64 5] w fun e w' => e = .returned (.tuple #[.int .i64 0, errv a 23]) ∧ Dr w w' := by
  have hc : w.cell? ⟨42, 5, none⟩ = some (.int .i64 (-1)) := ht.cell 5 (by decide)
  have h23 : w.cell? ⟨1, 0, none⟩ = some (.iface 200 (.pointer (some (a 23)))) := hs.cell 23 (by decide) (by decide)
  go_enter Tryd.func99, Tryd.ntmps99
  go_wp2_with (go_at_call 117; refine (known_yes w 0 (by omega) (by omega)).mono ?_; rintro e w' ⟨rfl, rfl⟩)
  go_quiet (fail)
  go_wp2
  go_ret2
  exact ⟨rfl, _, rfl⟩
theorem next_0_6 {B : Nat} {a : Nat → Addr} (w : World) (hs : Sen B a w) (ht : Tab B w) : Calls Tryd.prog 99 #[.int .i64 0, .int .i64 6] w fun e w' => e = .returned (.tuple #[.int .i64 0, errv a 23]) ∧ Dr w w' := by
  have hc : w.cell? ⟨42, 6, none⟩ = some (.int .i64 (-1)) := ht.cell 6 (by decide)
  have h23 : w.cell? ⟨1, 0, none⟩ = some (.iface 200 (.pointer (some (a 23)))) := hs.cell 23 (by decide) (by decide)
  go_enter Tryd.func99, Tryd.ntmps99
  go_wp2_with (go_at_call 117; refine (known_yes w 0 (by omega) (by omega)).mono ?_; rintro e w' ⟨rfl, rfl⟩)
  go_quiet (fail)
  go_wp2
  go_ret2
  exact ⟨rfl, _, rfl⟩
theorem next_1_0 {B : Nat} {a : Nat → Addr} (w : World) (hs : Sen B a w) (ht : Tab B w) : Calls Tryd.prog 99 #[.int .i64 1, .int .i64 0] w fun e w' => e = .returned (.tuple #[.int .i64 0, errv a 23]) ∧ Dr w w' := by
  have hc : w.cell? ⟨42, 7, none⟩ = some (.int .i64 (-1)) := ht.cell 7 (by decide)
  have h23 : w.cell? ⟨1, 0, none⟩ = some (.iface 200 (.pointer (some (a 23)))) := hs.cell 23 (by decide) (by decide)
  go_enter Tryd.func99, Tryd.ntmps99
  go_wp2_with (go_at_call 117; refine (known_yes w 1 (by omega) (by omega)).mono ?_; rintro e w' ⟨rfl, rfl⟩)
  go_quiet (fail)
  go_wp2
  go_ret2
  exact ⟨rfl, _, rfl⟩
theorem next_1_1 {B : Nat} {a : Nat → Addr} (w : World) (hs : Sen B a w) (ht : Tab B w) : Calls Tryd.prog 99 #[.int .i64 1, .int .i64 1] w fun e w' => e = .returned (.tuple #[.int .i64 0, errv a 23]) ∧ Dr w w' := by
  have hc : w.cell? ⟨42, 8, none⟩ = some (.int .i64 (-1)) := ht.cell 8 (by decide)
  have h23 : w.cell? ⟨1, 0, none⟩ = some (.iface 200 (.pointer (some (a 23)))) := hs.cell 23 (by decide) (by decide)
  go_enter Tryd.func99, Tryd.ntmps99
  go_wp2_with (go_at_call 117; refine (known_yes w 1 (by omega) (by omega)).mono ?_; rintro e w' ⟨rfl, rfl⟩)
  go_quiet (fail)
  go_wp2
  go_ret2
  exact ⟨rfl, _, rfl⟩
theorem next_1_2 {B : Nat} {a : Nat → Addr} (w : World) (hs : Sen B a w) (ht : Tab B w) : Calls Tryd.prog 99 #[.int .i64 1, .int .i64 2] w fun e w' => e = .returned (.tuple #[.int .i64 0, errv a 23]) ∧ Dr w w' := by
  have hc : w.cell? ⟨42, 9, none⟩ = some (.int .i64 (-1)) := ht.cell 9 (by decide)
  have h23 : w.cell? ⟨1, 0, none⟩ = some (.iface 200 (.pointer (some (a 23)))) := hs.cell 23 (by decide) (by decide)
  go_enter Tryd.func99, Tryd.ntmps99
  go_wp2_with (go_at_call 117; refine (known_yes w 1 (by omega) (by omega)).mono ?_; rintro e w' ⟨rfl, rfl⟩)
  go_quiet (fail)
  go_wp2
  go_ret2
  exact ⟨rfl, _, rfl⟩
theorem next_1_3 {B : Nat} {a : Nat → Addr} (w : World) (hs : Sen B a w) (ht : Tab B w) : Calls Tryd.prog 99 #[.int .i64 1, .int .i64 3] w fun e w' => e = .returned (.tuple #[.int .i64 3, errv a 0]) ∧ Dr w w' := by
  have hc : w.cell? ⟨42, 10, none⟩ = some (.int .i64 (3)) := ht.cell 10 (by decide)
  have h23 : w.cell? ⟨1, 0, none⟩ = some (.iface 200 (.pointer (some (a 23)))) := hs.cell 23 (by decide) (by decide)
  go_enter Tryd.func99, Tryd.ntmps99
  go_wp2_with (go_at_call 117; refine (known_yes w 1 (by omega) (by omega)).mono ?_; rintro e w' ⟨rfl, rfl⟩)
  go_ret2
  exact ⟨rfl, 0, rfl⟩
theorem next_1_4 {B : Nat} {a : Nat → Addr} (w : World) (hs : Sen B a w) (ht : Tab B w) : Calls Tryd.prog 99 #[.int .i64 1, .int .i64 4] w fun e w' => e = .returned (.tuple #[.int .i64 4, errv a 0]) ∧ Dr w w' := by
  have hc : w.cell? ⟨42, 11, none⟩ = some (.int .i64 (4)) := ht.cell 11 (by decide)
  have h23 : w.cell? ⟨1, 0, none⟩ = some (.iface 200 (.pointer (some (a 23)))) := hs.cell 23 (by decide) (by decide)
  go_enter Tryd.func99, Tryd.ntmps99
  go_wp2_with (go_at_call 117; refine (known_yes w 1 (by omega) (by omega)).mono ?_; rintro e w' ⟨rfl, rfl⟩)
  go_ret2
  exact ⟨rfl, 0, rfl⟩
theorem next_1_5 {B : Nat} {a : Nat → Addr} (w : World) (hs : Sen B a w) (ht : Tab B w) : Calls Tryd.prog 99 #[.int .i64 1, .int .i64 5] w fun e w' => e = .returned (.tuple #[.int .i64 5, errv a 0]) ∧ Dr w w' := by
  have hc : w.cell? ⟨42, 12, none⟩ = some (.int .i64 (5)) := ht.cell 12 (by decide)
  have h23 : w.cell? ⟨1, 0, none⟩ = some (.iface 200 (.pointer (some (a 23)))) := hs.cell 23 (by decide) (by decide)
  go_enter Tryd.func99, Tryd.ntmps99
  go_wp2_with (go_at_call 117; refine (known_yes w 1 (by omega) (by omega)).mono ?_; rintro e w' ⟨rfl, rfl⟩)
  go_ret2
  exact ⟨rfl, 0, rfl⟩
theorem next_1_6 {B : Nat} {a : Nat → Addr} (w : World) (hs : Sen B a w) (ht : Tab B w) : Calls Tryd.prog 99 #[.int .i64 1, .int .i64 6] w fun e w' => e = .returned (.tuple #[.int .i64 7, errv a 0]) ∧ Dr w w' := by
  have hc : w.cell? ⟨42, 13, none⟩ = some (.int .i64 (7)) := ht.cell 13 (by decide)
  have h23 : w.cell? ⟨1, 0, none⟩ = some (.iface 200 (.pointer (some (a 23)))) := hs.cell 23 (by decide) (by decide)
  go_enter Tryd.func99, Tryd.ntmps99
  go_wp2_with (go_at_call 117; refine (known_yes w 1 (by omega) (by omega)).mono ?_; rintro e w' ⟨rfl, rfl⟩)
  go_ret2
  exact ⟨rfl, 0, rfl⟩
theorem next_2_0 {B : Nat} {a : Nat → Addr} (w : World) (hs : Sen B a w) (ht : Tab B w) : Calls Tryd.prog 99 #[.int .i64 2, .int .i64 0] w fun e w' => e = .returned (.tuple #[.int .i64 0, errv a 23]) ∧ Dr w w' := by
  have hc : w.cell? ⟨42, 14, none⟩ = some (.int .i64 (-1)) := ht.cell 14 (by decide)
  have h23 : w.cell? ⟨1, 0, none⟩ = some (.iface 200 (.pointer (some (a 23)))) := hs.cell 23 (by decide) (by decide)
  go_enter Tryd.func99, Tryd.ntmps99
  go_wp2_with (go_at_call 117; refine (known_yes w 2 (by omega) (by omega)).mono ?_; rintro e w' ⟨rfl, rfl⟩)
  go_quiet (fail)
  go_wp2
  go_ret2
  exact ⟨rfl, _, rfl⟩
theorem next_2_1 {B : Nat} {a : Nat → Addr} (w : World) (hs : Sen B a w) (ht : Tab B w) : Calls Tryd.prog 99 #[.int .i64 2, .int .i64 1] w fun e w' => e = .returned (.tuple #[.int .i64 0, errv a 23]) ∧ Dr w w' := by
  have hc : w.cell? ⟨42, 15, none⟩ = some (.int .i64 (-1)) := ht.cell 15 (by decide)
  have h23 : w.cell? ⟨1, 0, none⟩ = some (.iface 200 (.pointer (some (a 23)))) := hs.cell 23 (by decide) (by decide)
  go_enter Tryd.func99, Tryd.ntmps99
  go_wp2_with (go_at_call 117; refine (known_yes w 2 (by omega) (by omega)).mono ?_; rintro e w' ⟨rfl, rfl⟩)
  go_quiet (fail)
  go_wp2
  go_ret2
  exact ⟨rfl, _, rfl⟩
theorem next_2_2 {B : Nat} {a : Nat → Addr} (w : World) (hs : Sen B a w) (ht : Tab B w) : Calls Tryd.prog 99 #[.int .i64 2, .int .i64 2] w fun e w' => e = .returned (.tuple #[.int .i64 3, errv a 0]) ∧ Dr w w' := by
  have hc : w.cell? ⟨42, 16, none⟩ = some (.int .i64 (3)) := ht.cell 16 (by decide)
  have h23 : w.cell? ⟨1, 0, none⟩ = some (.iface 200 (.pointer (some (a 23)))) := hs.cell 23 (by decide) (by decide)
  go_enter Tryd.func99, Tryd.ntmps99
  go_wp2_with (go_at_call 117; refine (known_yes w 2 (by omega) (by omega)).mono ?_; rintro e w' ⟨rfl, rfl⟩)
  go_ret2
  exact ⟨rfl, 0, rfl⟩
theorem next_2_3 {B : Nat} {a : Nat → Addr} (w : World) (hs : Sen B a w) (ht : Tab B w) : Calls Tryd.prog 99 #[.int .i64 2, .int .i64 3] w fun e w' => e = .returned (.tuple #[.int .i64 0, errv a 23]) ∧ Dr w w' := by
  have hc : w.cell? ⟨42, 17, none⟩ = some (.int .i64 (-1)) := ht.cell 17 (by decide)
  have h23 : w.cell? ⟨1, 0, none⟩ = some (.iface 200 (.pointer (some (a 23)))) := hs.cell 23 (by decide) (by decide)
  go_enter Tryd.func99, Tryd.ntmps99
  go_wp2_with (go_at_call 117; refine (known_yes w 2 (by omega) (by omega)).mono ?_; rintro e w' ⟨rfl, rfl⟩)
  go_quiet (fail)
  go_wp2
  go_ret2
  exact ⟨rfl, _, rfl⟩
theorem next_2_4 {B : Nat} {a : Nat → Addr} (w : World) (hs : Sen B a w) (ht : Tab B w) : Calls Tryd.prog 99 #[.int .i64 2, .int .i64 4] w fun e w' => e = .returned (.tuple #[.int .i64 4, errv a 0]) ∧ Dr w w' := by
  have hc : w.cell? ⟨42, 18, none⟩ = some (.int .i64 (4)) := ht.cell 18 (by decide)
  have h23 : w.cell? ⟨1, 0, none⟩ = some (.iface 200 (.pointer (some (a 23)))) := hs.cell 23 (by decide) (by decide)
  go_enter Tryd.func99, Tryd.ntmps99
  go_wp2_with (go_at_call 117; refine (known_yes w 2 (by omega) (by omega)).mono ?_; rintro e w' ⟨rfl, rfl⟩)
  go_ret2
  exact ⟨rfl, 0, rfl⟩
theorem next_2_5 {B : Nat} {a : Nat → Addr} (w : World) (hs : Sen B a w) (ht : Tab B w) : Calls Tryd.prog 99 #[.int .i64 2, .int .i64 5] w fun e w' => e = .returned (.tuple #[.int .i64 5, errv a 0]) ∧ Dr w w' := by
  have hc : w.cell? ⟨42, 19, none⟩ = some (.int .i64 (5)) := ht.cell 19 (by decide)
  have h23 : w.cell? ⟨1, 0, none⟩ = some (.iface 200 (.pointer (some (a 23)))) := hs.cell 23 (by decide) (by decide)
  go_enter Tryd.func99, Tryd.ntmps99
  go_wp2_with (go_at_call 117; refine (known_yes w 2 (by omega) (by omega)).mono ?_; rintro e w' ⟨rfl, rfl⟩)
  go_ret2
  exact ⟨rfl, 0, rfl⟩
theorem next_2_6 {B : Nat} {a : Nat → Addr} (w : World) (hs : Sen B a w) (ht : Tab B w) : Calls Tryd.prog 99 #[.int .i64 2, .int .i64 6] w fun e w' => e = .returned (.tuple #[.int .i64 7, errv a 0]) ∧ Dr w w' := by
  have hc : w.cell? ⟨42, 20, none⟩ = some (.int .i64 (7)) := ht.cell 20 (by decide)
  have h23 : w.cell? ⟨1, 0, none⟩ = some (.iface 200 (.pointer (some (a 23)))) := hs.cell 23 (by decide) (by decide)
  go_enter Tryd.func99, Tryd.ntmps99
  go_wp2_with (go_at_call 117; refine (known_yes w 2 (by omega) (by omega)).mono ?_; rintro e w' ⟨rfl, rfl⟩)
  go_ret2
  exact ⟨rfl, 0, rfl⟩
theorem next_3_0 {B : Nat} {a : Nat → Addr} (w : World) (hs : Sen B a w) (ht : Tab B w) : Calls Tryd.prog 99 #[.int .i64 3, .int .i64 0] w fun e w' => e = .returned (.tuple #[.int .i64 0, errv a 23]) ∧ Dr w w' := by
  have hc : w.cell? ⟨42, 21, none⟩ = some (.int .i64 (-1)) := ht.cell 21 (by decide)
  have h23 : w.cell? ⟨1, 0, none⟩ = some (.iface 200 (.pointer (some (a 23)))) := hs.cell 23 (by decide) (by decide)
  go_enter Tryd.func99, Tryd.ntmps99
  go_wp2_with (go_at_call 117; refine (known_yes w 3 (by omega) (by omega)).mono ?_; rintro e w' ⟨rfl, rfl⟩)
  go_quiet (fail)
  go_wp2
  go_ret2
  exact ⟨rfl, _, rfl⟩
theorem next_3_1 {B : Nat} {a : Nat → Addr} (w : World) (hs : Sen B a w) (ht : Tab B w) : Calls Tryd.prog 99 #[.int .i64 3, .int .i64 1] w fun e w' => e = .returned (.tuple #[.int .i64 0, errv a 23]) ∧ Dr w w' := by
  have hc : w.cell? ⟨42, 22, none⟩ = some (.int .i64 (-1)) := ht.cell 22 (by decide)
  have h23 : w.cell? ⟨1, 0, none⟩ = some (.iface 200 (.pointer (some (a 23)))) := hs.cell 23 (by decide) (by decide)
  go_enter Tryd.func99, Tryd.ntmps99
  go_wp2_with (go_at_call 117; refine (known_yes w 3 (by omega) (by omega)).mono ?_; rintro e w' ⟨rfl, rfl⟩)
  go_quiet (fail)
  go_wp2
  go_ret2
  exact ⟨rfl, _, rfl⟩
theorem next_3_2 {B : Nat} {a : Nat → Addr} (w : World) (hs : Sen B a w) (ht : Tab B w) : Calls Tryd.prog 99 #[.int .i64 3, .int .i64 2] w fun e w' => e = .returned (.tuple #[.int .i64 0, errv a 23]) ∧ Dr w w' := by
  have hc : w.cell? ⟨42, 23, none⟩ = some (.int .i64 (-1)) := ht.cell 23 (by decide)
  have h23 : w.cell? ⟨1, 0, none⟩ = some (.iface 200 (.pointer (some (a 23)))) := hs.cell 23 (by decide) (by decide)
  go_enter Tryd.func99, Tryd.ntmps99
  go_wp2_with (go_at_call 117; refine (known_yes w 3 (by omega) (by omega)).mono ?_; rintro e w' ⟨rfl, rfl⟩)
  go_quiet (fail)
  go_wp2
  go_ret2
  exact ⟨rfl, _, rfl⟩
theorem next_3_3 {B : Nat} {a : Nat → Addr} (w : World) (hs : Sen B a w) (ht : Tab B w) : Calls Tryd.prog 99 #[.int .i64 3, .int .i64 3] w fun e w' => e = .returned (.tuple #[.int .i64 0, errv a 23]) ∧ Dr w w' := by
  have hc : w.cell? ⟨42, 24, none⟩ = some (.int .i64 (-1)) := ht.cell 24 (by decide)
  have h23 : w.cell? ⟨1, 0, none⟩ = some (.iface 200 (.pointer (some (a 23)))) := hs.cell 23 (by decide) (by decide)
  go_enter Tryd.func99, Tryd.ntmps99
  go_wp2_with (go_at_call 117; refine (known_yes w 3 (by omega) (by omega)).mono ?_; rintro e w' ⟨rfl, rfl⟩)
  go_quiet (fail)
  go_wp2
  go_ret2
  exact ⟨rfl, _, rfl⟩
theorem next_3_4 {B : Nat} {a : Nat → Addr} (w : World) (hs : Sen B a w) (ht : Tab B w) : Calls Tryd.prog 99 #[.int .i64 3, .int .i64 4] w fun e w' => e = .returned (.tuple #[.int .i64 4, errv a 0]) ∧ Dr w w' := by
  have hc : w.cell? ⟨42, 25, none⟩ = some (.int .i64 (4)) := ht.cell 25 (by decide)
  have h23 : w.cell? ⟨1, 0, none⟩ = some (.iface 200 (.pointer (some (a 23)))) := hs.cell 23 (by decide) (by decide)
  go_enter Tryd.func99, Tryd.ntmps99
  go_wp2_with (go_at_call 117; refine (known_yes w 3 (by omega) (by omega)).mono ?_; rintro e w' ⟨rfl, rfl⟩)
  go_ret2
  exact ⟨rfl, 0, rfl⟩
theorem next_3_5 {B : Nat} {a : Nat → Addr} (w : World) (hs : Sen B a w) (ht : Tab B w) : Calls Tryd.prog 99 #[.int .i64 3, .int .i64 5] w fun e w' => e = .returned (.tuple #[.int .i64 5, errv a 0]) ∧ Dr w w' := by
  have hc : w.cell? ⟨42, 26, none⟩ = some (.int .i64 (5)) := ht.cell 26 (by decide)
  have h23 : w.cell? ⟨1, 0, none⟩ = some (.iface 200 (.pointer (some (a 23)))) := hs.cell 23 (by decide) (by decide)
  go_enter Tryd.func99, Tryd.ntmps99
  go_wp2_with (go_at_call 117; refine (known_yes w 3 (by omega) (by omega)).mono ?_; rintro e w' ⟨rfl, rfl⟩)
  go_ret2
  exact ⟨rfl, 0, rfl⟩
theorem next_3_6 {B : Nat} {a : Nat → Addr} (w : World) (hs : Sen B a w) (ht : Tab B w) : Calls Tryd.prog 99 #[.int .i64 3, .int .i64 6] w fun e w' => e = .returned (.tuple #[.int .i64 7, errv a 0]) ∧ Dr w w' := by
  have hc : w.cell? ⟨42, 27, none⟩ = some (.int .i64 (7)) := ht.cell 27 (by decide)
  have h23 : w.cell? ⟨1, 0, none⟩ = some (.iface 200 (.pointer (some (a 23)))) := hs.cell 23 (by decide) (by decide)
  go_enter Tryd.func99, Tryd.ntmps99
  go_wp2_with (go_at_call 117; refine (known_yes w 3 (by omega) (by omega)).mono ?_; rintro e w' ⟨rfl, rfl⟩)
  go_ret2
  exact ⟨rfl, 0, rfl⟩
theorem next_4_0 {B : Nat} {a : Nat → Addr} (w : World) (hs : Sen B a w) (ht : Tab B w) : Calls Tryd.prog 99 #[.int .i64 4, .int .i64 0] w fun e w' => e = .returned (.tuple #[.int .i64 0, errv a 23]) ∧ Dr w w' := by
  have hc : w.cell? ⟨42, 28, none⟩ = some (.int .i64 (-1)) := ht.cell 28 (by decide)
  have h23 : w.cell? ⟨1, 0, none⟩ = some (.iface 200 (.pointer (some (a 23)))) := hs.cell 23 (by decide) (by decide)
  go_enter Tryd.func99, Tryd.ntmps99
  go_wp2_with (go_at_call 117; refine (known_yes w 4 (by omega) (by omega)).mono ?_; rintro e w' ⟨rfl, rfl⟩)
  go_quiet (fail)
  go_wp2
  go_ret2
  exact ⟨rfl, _, rfl⟩
theorem next_4_1 {B : Nat} {a : Nat → Addr} (w : World) (hs : Sen B a w) (ht : Tab B w) : Calls Tryd.prog 99 #[.int .i64 4, .int .i64 1] w fun e w' => e = .returned (.tuple #[.int .i64 0, errv a 23]) ∧ Dr w w' := by
  have hc : w.cell? ⟨42, 29, none⟩ = some (.int .i64 (-1)) := ht.cell 29 (by decide)
  have h23 : w.cell? ⟨1, 0, none⟩ = some (.iface 200 (.pointer (some (a 23)))) := hs.cell 23 (by decide) (by decide)
  go_enter Tryd.func99, Tryd.ntmps99
  go_wp2_with (go_at_call 117; refine (known_yes w 4 (by omega) (by omega)).mono ?_; rintro e w' ⟨rfl, rfl⟩)
  go_quiet (fail)
  go_wp2
  go_ret2
  exact ⟨rfl, _, rfl⟩
theorem next_4_2 {B : Nat} {a : Nat → Addr} (w : World) (hs : Sen B a w) (ht : Tab B w) : Calls Tryd.prog 99 #[.int .i64 4, .int .i64 2] w fun e w' => e = .returned (.tuple #[.int .i64 4, errv a 0]) ∧ Dr w w' := by
  have hc : w.cell? ⟨42, 30, none⟩ = some (.int .i64 (4)) := ht.cell 30 (by decide)
  have h23 : w.cell? ⟨1, 0, none⟩ = some (.iface 200 (.pointer (some (a 23)))) := hs.cell 23 (by decide) (by decide)
  go_enter Tryd.func99, Tryd.ntmps99
  go_wp2_with (go_at_call 117; refine (known_yes w 4 (by omega) (by omega)).mono ?_; rintro e w' ⟨rfl, rfl⟩)
  go_ret2
  exact ⟨rfl, 0, rfl⟩
theorem next_4_3 {B : Nat} {a : Nat → Addr} (w : World) (hs : Sen B a w) (ht : Tab B w) : Calls Tryd.prog 99 #[.int .i64 4, .int .i64 3] w fun e w' => e = .returned (.tuple #[.int .i64 4, errv a 0]) ∧ Dr w w' := by
  have hc : w.cell? ⟨42, 31, none⟩ = some (.int .i64 (4)) := ht.cell 31 (by decide)
  have h23 : w.cell? ⟨1, 0, none⟩ = some (.iface 200 (.pointer (some (a 23)))) := hs.cell 23 (by decide) (by decide)
  go_enter Tryd.func99, Tryd.ntmps99
  go_wp2_with (go_at_call 117; refine (known_yes w 4 (by omega) (by omega)).mono ?_; rintro e w' ⟨rfl, rfl⟩)
  go_ret2
  exact ⟨rfl, 0, rfl⟩
theorem next_4_4 {B : Nat} {a : Nat → Addr} (w : World) (hs : Sen B a w) (ht : Tab B w) : Calls Tryd.prog 99 #[.int .i64 4, .int .i64 4] w fun e w' => e = .returned (.tuple #[.int .i64 0, errv a 23]) ∧ Dr w w' := by
  have hc : w.cell? ⟨42, 32, none⟩ = some (.int .i64 (-1)) := ht.cell 32 (by decide)
  have h23 : w.cell? ⟨1, 0, none⟩ = some (.iface 200 (.pointer (some (a 23)))) := hs.cell 23 (by decide) (by decide)
  go_enter Tryd.func99, Tryd.ntmps99
  go_wp2_with (go_at_call 117; refine (known_yes w 4 (by omega) (by omega)).mono ?_; rintro e w' ⟨rfl, rfl⟩)
  go_quiet (fail)
  go_wp2
  go_ret2
  exact ⟨rfl, _, rfl⟩
theorem next_4_5 {B : Nat} {a : Nat → Addr} (w : World) (hs : Sen B a w) (ht : Tab B w) : Calls Tryd.prog 99 #[.int .i64 4, .int .i64 5] w fun e w' => e = .returned (.tuple #[.int .i64 6, errv a 0]) ∧ Dr w w' := by
  have hc : w.cell? ⟨42, 33, none⟩ = some (.int .i64 (6)) := ht.cell 33 (by decide)
  have h23 : w.cell? ⟨1, 0, none⟩ = some (.iface 200 (.pointer (some (a 23)))) := hs.cell 23 (by decide) (by decide)
  go_enter Tryd.func99, Tryd.ntmps99
  go_wp2_with (go_at_call 117; refine (known_yes w 4 (by omega) (by omega)).mono ?_; rintro e w' ⟨rfl, rfl⟩)
  go_ret2
  exact ⟨rfl, 0, rfl⟩
theorem next_4_6 {B : Nat} {a : Nat → Addr} (w : World) (hs : Sen B a w) (ht : Tab B w) : Calls Tryd.prog 99 #[.int .i64 4, .int .i64 6] w fun e w' => e = .returned (.tuple #[.int .i64 7, errv a 0]) ∧ Dr w w' := by
  have hc : w.cell? ⟨42, 34, none⟩ = some (.int .i64 (7)) := ht.cell 34 (by decide)
  have h23 : w.cell? ⟨1, 0, none⟩ = some (.iface 200 (.pointer (some (a 23)))) := hs.cell 23 (by decide) (by decide)
  go_enter Tryd.func99, Tryd.ntmps99
  go_wp2_with (go_at_call 117; refine (known_yes w 4 (by omega) (by omega)).mono ?_; rintro e w' ⟨rfl, rfl⟩)
  go_ret2
  exact ⟨rfl, 0, rfl⟩
theorem next_5_0 {B : Nat} {a : Nat → Addr} (w : World) (hs : Sen B a w) (ht : Tab B w) : Calls Tryd.prog 99 #[.int .i64 5, .int .i64 0] w fun e w' => e = .returned (.tuple #[.int .i64 0, errv a 23]) ∧ Dr w w' := by
  have hc : w.cell? ⟨42, 35, none⟩ = some (.int .i64 (-1)) := ht.cell 35 (by decide)
  have h23 : w.cell? ⟨1, 0, none⟩ = some (.iface 200 (.pointer (some (a 23)))) := hs.cell 23 (by decide) (by decide)
  go_enter Tryd.func99, Tryd.ntmps99
  go_wp2_with (go_at_call 117; refine (known_yes w 5 (by omega) (by omega)).mono ?_; rintro e w' ⟨rfl, rfl⟩)
  go_quiet (fail)
  go_wp2
  go_ret2
  exact ⟨rfl, _, rfl⟩
theorem next_5_1 {B : Nat} {a : Nat → Addr} (w : World) (hs : Sen B a w) (ht : Tab B w) : Calls Tryd.prog 99 #[.int .i64 5, .int .i64 1] w fun e w' => e = .returned (.tuple #[.int .i64 0, errv a 23]) ∧ Dr w w' := by
  have hc : w.cell? ⟨42, 36, none⟩ = some (.int .i64 (-1)) := ht.cell 36 (by decide)
  have h23 : w.cell? ⟨1, 0, none⟩ = some (.iface 200 (.pointer (some (a 23)))) := hs.cell 23 (by decide) (by decide)
  go_enter Tryd.func99, Tryd.ntmps99
  go_wp2_with (go_at_call 117; refine (known_yes w 5 (by omega) (by omega)).mono ?_; rintro e w' ⟨rfl, rfl⟩)
  go_quiet (fail)
  go_wp2
  go_ret2
  exact ⟨rfl, _, rfl⟩
theorem next_5_2 {B : Nat} {a : Nat → Addr} (w : World) (hs : Sen B a w) (ht : Tab B w) : Calls Tryd.prog 99 #[.int .i64 5, .int .i64 2] w fun e w' => e = .returned (.tuple #[.int .i64 5, errv a 0]) ∧ Dr w w' := by
  have hc : w.cell? ⟨42, 37, none⟩ = some (.int .i64 (5)) := ht.cell 37 (by decide)
  have h23 : w.cell? ⟨1, 0, none⟩ = some (.iface 200 (.pointer (some (a 23)))) := hs.cell 23 (by decide) (by decide)
  go_enter Tryd.func99, Tryd.ntmps99
  go_wp2_with (go_at_call 117; refine (known_yes w 5 (by omega) (by omega)).mono ?_; rintro e w' ⟨rfl, rfl⟩)
  go_ret2
  exact ⟨rfl, 0, rfl⟩
theorem next_5_3 {B : Nat} {a : Nat → Addr} (w : World) (hs : Sen B a w) (ht : Tab B w) : Calls Tryd.prog 99 #[.int .i64 5, .int .i64 3] w fun e w' => e = .returned (.tuple #[.int .i64 5, errv a 0]) ∧ Dr w w' := by
  have hc : w.cell? ⟨42, 38, none⟩ = some (.int .i64 (5)) := ht.cell 38 (by decide)
  have h23 : w.cell? ⟨1, 0, none⟩ = some (.iface 200 (.pointer (some (a 23)))) := hs.cell 23 (by decide) (by decide)
  go_enter Tryd.func99, Tryd.ntmps99
  go_wp2_with (go_at_call 117; refine (known_yes w 5 (by omega) (by omega)).mono ?_; rintro e w' ⟨rfl, rfl⟩)
  go_ret2
  exact ⟨rfl, 0, rfl⟩
theorem next_5_4 {B : Nat} {a : Nat → Addr} (w : World) (hs : Sen B a w) (ht : Tab B w) : Calls Tryd.prog 99 #[.int .i64 5, .int .i64 4] w fun e w' => e = .returned (.tuple #[.int .i64 6, errv a 0]) ∧ Dr w w' := by
  have hc : w.cell? ⟨42, 39, none⟩ = some (.int .i64 (6)) := ht.cell 39 (by decide)
  have h23 : w.cell? ⟨1, 0, none⟩ = some (.iface 200 (.pointer (some (a 23)))) := hs.cell 23 (by decide) (by decide)
  go_enter Tryd.func99, Tryd.ntmps99
  go_wp2_with (go_at_call 117; refine (known_yes w 5 (by omega) (by omega)).mono ?_; rintro e w' ⟨rfl, rfl⟩)
  go_ret2
  exact ⟨rfl, 0, rfl⟩
theorem next_5_5 {B : Nat} {a : Nat → Addr} (w : World) (hs : Sen B a w) (ht : Tab B w) : Calls Tryd.prog 99 #[.int .i64 5, .int .i64 5] w fun e w' => e = .returned (.tuple #[.int .i64 0, errv a 23]) ∧ Dr w w' := by
  have hc : w.cell? ⟨42, 40, none⟩ = some (.int .i64 (-1)) := ht.cell 40 (by decide)
  have h23 : w.cell? ⟨1, 0, none⟩ = some (.iface 200 (.pointer (some (a 23)))) := hs.cell 23 (by decide) (by decide)
  go_enter Tryd.func99, Tryd.ntmps99
  go_wp2_with (go_at_call 117; refine (known_yes w 5 (by omega) (by omega)).mono ?_; rintro e w' ⟨rfl, rfl⟩)
  go_quiet (fail)
  go_wp2
  go_ret2
  exact ⟨rfl, _, rfl⟩
theorem next_5_6 {B : Nat} {a : Nat → Addr} (w : World) (hs : Sen B a w) (ht : Tab B w) : Calls Tryd.prog 99 #[.int .i64 5, .int .i64 6] w fun e w' => e = .returned (.tuple #[.int .i64 7, errv a 0]) ∧ Dr w w' := by
  have hc : w.cell? ⟨42, 41, none⟩ = some (.int .i64 (7)) := ht.cell 41 (by decide)
  have h23 : w.cell? ⟨1, 0, none⟩ = some (.iface 200 (.pointer (some (a 23)))) := hs.cell 23 (by decide) (by decide)
  go_enter Tryd.func99, Tryd.ntmps99
  go_wp2_with (go_at_call 117; refine (known_yes w 5 (by omega) (by omega)).mono ?_; rintro e w' ⟨rfl, rfl⟩)
  go_ret2
  exact ⟨rfl, 0, rfl⟩
theorem next_6_0 {B : Nat} {a : Nat → Addr} (w : World) (hs : Sen B a w) (ht : Tab B w) : Calls Tryd.prog 99 #[.int .i64 6, .int .i64 0] w fun e w' => e = .returned (.tuple #[.int .i64 0, errv a 23]) ∧ Dr w w' := by
  have hc : w.cell? ⟨42, 42, none⟩ = some (.int .i64 (-1)) := ht.cell 42 (by decide)
  have h23 : w.cell? ⟨1, 0, none⟩ = some (.iface 200 (.pointer (some (a 23)))) := hs.cell 23 (by decide) (by decide)
  go_enter Tryd.func99, Tryd.ntmps99
  go_wp2_with (go_at_call 117; refine (known_yes w 6 (by omega) (by omega)).mono ?_; rintro e w' ⟨rfl, rfl⟩)
  go_quiet (fail)
  go_wp2
  go_ret2
  exact ⟨rfl, _, rfl⟩
theorem next_6_1 {B : Nat} {a : Nat → Addr} (w : World) (hs : Sen B a w) (ht : Tab B w) : Calls Tryd.prog 99 #[.int .i64 6, .int .i64 1] w fun e w' => e = .returned (.tuple #[.int .i64 0, errv a 23]) ∧ Dr w w' := by
  have hc : w.cell? ⟨42, 43, none⟩ = some (.int .i64 (-1)) := ht.cell 43 (by decide)
  have h23 : w.cell? ⟨1, 0, none⟩ = some (.iface 200 (.pointer (some (a 23)))) := hs.cell 23 (by decide) (by decide)
  go_enter Tryd.func99, Tryd.ntmps99
  go_wp2_with (go_at_call 117; refine (known_yes w 6 (by omega) (by omega)).mono ?_; rintro e w' ⟨rfl, rfl⟩)
  go_quiet (fail)
  go_wp2
  go_ret2
  exact ⟨rfl, _, rfl⟩
theorem next_6_2 {B : Nat} {a : Nat → Addr} (w : World) (hs : Sen B a w) (ht : Tab B w) : Calls Tryd.prog 99 #[.int .i64 6, .int .i64 2] w fun e w' => e = .returned (.tuple #[.int .i64 6, errv a 0]) ∧ Dr w w' := by
  have hc : w.cell? ⟨42, 44, none⟩ = some (.int .i64 (6)) := ht.cell 44 (by decide)
  have h23 : w.cell? ⟨1, 0, none⟩ = some (.iface 200 (.pointer (some (a 23)))) := hs.cell 23 (by decide) (by decide)
  go_enter Tryd.func99, Tryd.ntmps99
  go_wp2_with (go_at_call 117; refine (known_yes w 6 (by omega) (by omega)).mono ?_; rintro e w' ⟨rfl, rfl⟩)
  go_ret2
  exact ⟨rfl, 0, rfl⟩
theorem next_6_3 {B : Nat} {a : Nat → Addr} (w : World) (hs : Sen B a w) (ht : Tab B w) : Calls Tryd.prog 99 #[.int .i64 6, .int .i64 3] w fun e w' => e = .returned (.tuple #[.int .i64 6, errv a 0]) ∧ Dr w w' := by
  have hc : w.cell? ⟨42, 45, none⟩ = some (.int .i64 (6)) := ht.cell 45 (by decide)
  have h23 : w.cell? ⟨1, 0, none⟩ = some (.iface 200 (.pointer (some (a 23)))) := hs.cell 23 (by decide) (by decide)
  go_enter Tryd.func99, Tryd.ntmps99
  go_wp2_with (go_at_call 117; refine (known_yes w 6 (by omega) (by omega)).mono ?_; rintro e w' ⟨rfl, rfl⟩)
  go_ret2
  exact ⟨rfl, 0, rfl⟩
theorem next_6_4 {B : Nat} {a : Nat → Addr} (w : World) (hs : Sen B a w) (ht : Tab B w) : Calls Tryd.prog 99 #[.int .i64 6, .int .i64 4] w fun e w' => e = .returned (.tuple #[.int .i64 0, errv a 23]) ∧ Dr w w' := by
  have hc : w.cell? ⟨42, 46, none⟩ = some (.int .i64 (-1)) := ht.cell 46 (by decide)
  have h23 : w.cell? ⟨1, 0, none⟩ = some (.iface 200 (.pointer (some (a 23)))) := hs.cell 23 (by decide) (by decide)
  go_enter Tryd.func99, Tryd.ntmps99
  go_wp2_with (go_at_call 117; refine (known_yes w 6 (by omega) (by omega)).mono ?_; rintro e w' ⟨rfl, rfl⟩)
  go_quiet (fail)
  go_wp2
  go_ret2
  exact ⟨rfl, _, rfl⟩
theorem next_6_5 {B : Nat} {a : Nat → Addr} (w : World) (hs : Sen B a w) (ht : Tab B w) : Calls Tryd.prog 99 #[.int .i64 6, .int .i64 5] w fun e w' => e = .returned (.tuple #[.int .i64 0, errv a 23]) ∧ Dr w w' := by
  have hc : w.cell? ⟨42, 47, none⟩ = some (.int .i64 (-1)) := ht.cell 47 (by decide)
  have h23 : w.cell? ⟨1, 0, none⟩ = some (.iface 200 (.pointer (some (a 23)))) := hs.cell 23 (by decide) (by decide)
  go_enter Tryd.func99, Tryd.ntmps99
  go_wp2_with (go_at_call 117; refine (known_yes w 6 (by omega) (by omega)).mono ?_; rintro e w' ⟨rfl, rfl⟩)
  go_quiet (fail)
  go_wp2
  go_ret2
  exact ⟨rfl, _, rfl⟩
theorem next_6_6 {B : Nat} {a : Nat → Addr} (w : World) (hs : Sen B a w) (ht : Tab B w) : Calls Tryd.prog 99 #[.int .i64 6, .int .i64 6] w fun e w' => e = .returned (.tuple #[.int .i64 7, errv a 0]) ∧ Dr w w' := by
  have hc : w.cell? ⟨42, 48, none⟩ = some (.int .i64 (7)) := ht.cell 48 (by decide)
  have h23 : w.cell? ⟨1, 0, none⟩ = some (.iface 200 (.pointer (some (a 23)))) := hs.cell 23 (by decide) (by decide)
  go_enter Tryd.func99, Tryd.ntmps99
  go_wp2_with (go_at_call 117; refine (known_yes w 6 (by omega) (by omega)).mono ?_; rintro e w' ⟨rfl, rfl⟩)
  go_ret2
  exact ⟨rfl, 0, rfl⟩
theorem next_7_0 {B : Nat} {a : Nat → Addr} (w : World) (hs : Sen B a w) (ht : Tab B w) : Calls Tryd.prog 99 #[.int .i64 7, .int .i64 0] w fun e w' => e = .returned (.tuple #[.int .i64 0, errv a 23]) ∧ Dr w w' := by
  have hc : w.cell? ⟨42, 49, none⟩ = some (.int .i64 (-1)) := ht.cell 49 (by decide)
  have h23 : w.cell? ⟨1, 0, none⟩ = some (.iface 200 (.pointer (some (a 23)))) := hs.cell 23 (by decide) (by decide)
  go_enter Tryd.func99, Tryd.ntmps99
  go_wp2_with (go_at_call 117; refine (known_yes w 7 (by omega) (by omega)).mono ?_; rintro e w' ⟨rfl, rfl⟩)
  go_quiet (fail)
  go_wp2
  go_ret2
  exact ⟨rfl, _, rfl⟩
theorem next_7_1 {B : Nat} {a : Nat → Addr} (w : World) (hs : Sen B a w) (ht : Tab B w) : Calls Tryd.prog 99 #[.int .i64 7, .int .i64 1] w fun e w' => e = .returned (.tuple #[.int .i64 0, errv a 23]) ∧ Dr w w' := by
  have hc : w.cell? ⟨42, 50, none⟩ = some (.int .i64 (-1)) := ht.cell 50 (by decide)
  have h23 : w.cell? ⟨1, 0, none⟩ = some (.iface 200 (.pointer (some (a 23)))) := hs.cell 23 (by decide) (by decide)
  go_enter Tryd.func99, Tryd.ntmps99
  go_wp2_with (go_at_call 117; refine (known_yes w 7 (by omega) (by omega)).mono ?_; rintro e w' ⟨rfl, rfl⟩)
  go_quiet (fail)
  go_wp2
  go_ret2
  exact ⟨rfl, _, rfl⟩
theorem next_7_2 {B : Nat} {a : Nat → Addr} (w : World) (hs : Sen B a w) (ht : Tab B w) : Calls Tryd.prog 99 #[.int .i64 7, .int .i64 2] w fun e w' => e = .returned (.tuple #[.int .i64 0, errv a 23]) ∧ Dr w w' := by
  have hc : w.cell? ⟨42, 51, none⟩ = some (.int .i64 (-1)) := ht.cell 51 (by decide)
  have h23 : w.cell? ⟨1, 0, none⟩ = some (.iface 200 (.pointer (some (a 23)))) := hs.cell 23 (by decide) (by decide)
  go_enter Tryd.func99, Tryd.ntmps99
  go_wp2_with (go_at_call 117; refine (known_yes w 7 (by omega) (by omega)).mono ?_; rintro e w' ⟨rfl, rfl⟩)
  go_quiet (fail)
  go_wp2
  go_ret2
  exact ⟨rfl, _, rfl⟩
theorem next_7_3 {B : Nat} {a : Nat → Addr} (w : World) (hs : Sen B a w) (ht : Tab B w) : Calls Tryd.prog 99 #[.int .i64 7, .int .i64 3] w fun e w' => e = .returned (.tuple #[.int .i64 0, errv a 23]) ∧ Dr w w' := by
  have hc : w.cell? ⟨42, 52, none⟩ = some (.int .i64 (-1)) := ht.cell 52 (by decide)
  have h23 : w.cell? ⟨1, 0, none⟩ = some (.iface 200 (.pointer (some (a 23)))) := hs.cell 23 (by decide) (by decide)
  go_enter Tryd.func99, Tryd.ntmps99
  go_wp2_with (go_at_call 117; refine (known_yes w 7 (by omega) (by omega)).mono ?_; rintro e w' ⟨rfl, rfl⟩)
  go_quiet (fail)
  go_wp2
  go_ret2
  exact ⟨rfl, _, rfl⟩
theorem next_7_4 {B : Nat} {a : Nat → Addr} (w : World) (hs : Sen B a w) (ht : Tab B w) : Calls Tryd.prog 99 #[.int .i64 7, .int .i64 4] w fun e w' => e = .returned (.tuple #[.int .i64 0, errv a 23]) ∧ Dr w w' := by
  have hc : w.cell? ⟨42, 53, none⟩ = some (.int .i64 (-1)) := ht.cell 53 (by decide)
  have h23 : w.cell? ⟨1, 0, none⟩ = some (.iface 200 (.pointer (some (a 23)))) := hs.cell 23 (by decide) (by decide)
  go_enter Tryd.func99, Tryd.ntmps99
  go_wp2_with (go_at_call 117; refine (known_yes w 7 (by omega) (by omega)).mono ?_; rintro e w' ⟨rfl, rfl⟩)
  go_quiet (fail)
  go_wp2
  go_ret2
  exact ⟨rfl, _, rfl⟩
theorem next_7_5 {B : Nat} {a : Nat → Addr} (w : World) (hs : Sen B a w) (ht : Tab B w) : Calls Tryd.prog 99 #[.int .i64 7, .int .i64 5] w fun e w' => e = .returned (.tuple #[.int .i64 0, errv a 23]) ∧ Dr w w' := by
  have hc : w.cell? ⟨42, 54, none⟩ = some (.int .i64 (-1)) := ht.cell 54 (by decide)
  have h23 : w.cell? ⟨1, 0, none⟩ = some (.iface 200 (.pointer (some (a 23)))) := hs.cell 23 (by decide) (by decide)
  go_enter Tryd.func99, Tryd.ntmps99
  go_wp2_with (go_at_call 117; refine (known_yes w 7 (by omega) (by omega)).mono ?_; rintro e w' ⟨rfl, rfl⟩)
  go_quiet (fail)
  go_wp2
  go_ret2
  exact ⟨rfl, _, rfl⟩
theorem next_7_6 {B : Nat} {a : Nat → Addr} (w : World) (hs : Sen B a w) (ht : Tab B w) : Calls Tryd.prog 99 #[.int .i64 7, .int .i64 6] w fun e w' => e = .returned (.tuple #[.int .i64 7, errv a 0]) ∧ Dr w w' := by
  have hc : w.cell? ⟨42, 55, none⟩ = some (.int .i64 (7)) := ht.cell 55 (by decide)
  have h23 : w.cell? ⟨1, 0, none⟩ = some (.iface 200 (.pointer (some (a 23)))) := hs.cell 23 (by decide) (by decide)
  go_enter Tryd.func99, Tryd.ntmps99
  go_wp2_with (go_at_call 117; refine (known_yes w 7 (by omega) (by omega)).mono ?_; rintro e w' ⟨rfl, rfl⟩)
  go_ret2
  exact ⟨rfl, 0, rfl⟩

theorem next_out {B : Nat} {a : Nat → Addr} (w : World) (hs : Sen B a w) (s e : Int) (h : s < 0 ∨ 7 < s ∨ e < 0 ∨ 6 < e) : Calls Tryd.prog 99 #[.int .i64 s, .int .i64 e] w fun e w' => e = .returned (.tuple #[.int .i64 0, errv a 2]) ∧ Dr w w' := by
  have h2 : w.cell? ⟨4, 0, none⟩ = some (.iface 200 (.pointer (some (a 2)))) := hs.cell 2 (by decide) (by decide)
  by_cases hk : s < 0 ∨ 7 < s
  · go_enter Tryd.func99, Tryd.ntmps99
    go_wp2_with (go_at_call 117; refine (known_no w s hk).mono ?_; rintro e w' ⟨rfl, rfl⟩)
    go_quiet (fail)
    go_wp2
    go_ret2
    exact ⟨rfl, _, rfl⟩
  · have hs0 : 0 ≤ s := by omega
    have hs7 : s ≤ 7 := by omega
    by_cases he : e < 0
    · go_enter Tryd.func99, Tryd.ntmps99
      go_wp2_with (go_at_call 117; refine (known_yes w s hs0 hs7).mono ?_; rintro e w' ⟨rfl, rfl⟩)
      go_quiet (fail)
      go_wp2
      go_ret2
      exact ⟨rfl, _, rfl⟩
    · have he6 : 6 < e := by omega
      go_enter Tryd.func99, Tryd.ntmps99
      go_wp2_with (go_at_call 117; refine (known_yes w s hs0 hs7).mono ?_; rintro e w' ⟨rfl, rfl⟩)
      go_quiet (fail)
      go_wp2
      go_ret2
      exact ⟨rfl, _, rfl⟩


theorem inR_out (s e : Int) (h : s < 0 ∨ 7 < s ∨ e < 0 ∨ 6 < e) : inR s e = false := by
  unfold inR
  rcases h with h | h | h | h
  · rw [decide_eq_false (show ¬ 0 ≤ s by omega)]; simp
  · rw [decide_eq_false (show ¬ s ≤ 7 by omega)]; simp
  · rw [decide_eq_false (show ¬ 0 ≤ e by omega)]; simp
  · rw [decide_eq_false (show ¬ e ≤ 6 by omega)]; simp

theorem next_any {B : Nat} {a : Nat → Addr} (w : World) (hs : Sen B a w) (ht : Tab B w) (s e : Int) : Calls Tryd.prog 99 #[.int .i64 s, .int .i64 e] w fun x w' => x = .returned (.tuple #[.int .i64 (nst s e), errv a (ncd s e)]) ∧ Dr w w' := by
  by_cases h : s < 0 ∨ 7 < s ∨ e < 0 ∨ 6 < e
  · have hi := inR_out s e h
    have e1 : nst s e = 0 := by simp [nst, hi]
    have e2 : ncd s e = 2 := by simp [ncd, hi]
    rw [e1, e2]
    exact next_out w hs s e h
  · have h1 : s = 0 ∨ s = 1 ∨ s = 2 ∨ s = 3 ∨ s = 4 ∨ s = 5 ∨ s = 6 ∨ s = 7 := by omega
    have h2 : e = 0 ∨ e = 1 ∨ e = 2 ∨ e = 3 ∨ e = 4 ∨ e = 5 ∨ e = 6 := by omega
    clear h
    rcases h1 with rfl | rfl | rfl | rfl | rfl | rfl | rfl | rfl
    · rcases h2 with rfl | rfl | rfl | rfl | rfl | rfl | rfl
      · exact next_0_0 w hs ht
      · exact next_0_1 w hs ht
      · exact next_0_2 w hs ht
      · exact next_0_3 w hs ht
      · exact next_0_4 w hs ht
      · exact next_0_5 w hs ht
      · exact next_0_6 w hs ht
    · rcases h2 with rfl | rfl | rfl | rfl | rfl | rfl | rfl
      · exact next_1_0 w hs ht
      · exact next_1_1 w hs ht
      · exact next_1_2 w hs ht
      · exact next_1_3 w hs ht
      · exact next_1_4 w hs ht
      · exact next_1_5 w hs ht
      · exact next_1_6 w hs ht
    · rcases h2 with rfl | rfl | rfl | rfl | rfl | rfl | rfl
      · exact next_2_0 w hs ht
      · exact next_2_1 w hs ht
      · exact next_2_2 w hs ht
      · exact next_2_3 w hs ht
      · exact next_2_4 w hs ht
      · exact next_2_5 w hs ht
      · exact next_2_6 w hs ht
    · rcases h2 with rfl | rfl | rfl | rfl | rfl | rfl | rfl
      · exact next_3_0 w hs ht
      · exact next_3_1 w hs ht
      · exact next_3_2 w hs ht
      · exact next_3_3 w hs ht
      · exact next_3_4 w hs ht
      · exact next_3_5 w hs ht
      · exact next_3_6 w hs ht
    · rcases h2 with rfl | rfl | rfl | rfl | rfl | rfl | rfl
      · exact next_4_0 w hs ht
      · exact next_4_1 w hs ht
      · exact next_4_2 w hs ht
      · exact next_4_3 w hs ht
      · exact next_4_4 w hs ht
      · exact next_4_5 w hs ht
      · exact next_4_6 w hs ht
    · rcases h2 with rfl | rfl | rfl | rfl | rfl | rfl | rfl
      · exact next_5_0 w hs ht
      · exact next_5_1 w hs ht
      · exact next_5_2 w hs ht
      · exact next_5_3 w hs ht
      · exact next_5_4 w hs ht
      · exact next_5_5 w hs ht
      · exact next_5_6 w hs ht
    · rcases h2 with rfl | rfl | rfl | rfl | rfl | rfl | rfl
      · exact next_6_0 w hs ht
      · exact next_6_1 w hs ht
      · exact next_6_2 w hs ht
      · exact next_6_3 w hs ht
      · exact next_6_4 w hs ht
      · exact next_6_5 w hs ht
      · exact next_6_6 w hs ht
    · rcases h2 with rfl | rfl | rfl | rfl | rfl | rfl | rfl
      · exact next_7_0 w hs ht
      · exact next_7_1 w hs ht
      · exact next_7_2 w hs ht
      · exact next_7_3 w hs ht
      · exact next_7_4 w hs ht
      · exact next_7_5 w hs ht
      · exact next_7_6 w hs ht
end Go.Proofs.YthalmjjbamglgaaDoor
