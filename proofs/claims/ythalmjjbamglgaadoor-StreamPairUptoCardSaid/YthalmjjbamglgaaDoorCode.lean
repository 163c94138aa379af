/-
  culvertlaw01.sentinel and culvertlaw01.Code by contracts: the code of a sentinel is its number, of nil 0.
  No condition of its own: the fact 'Sen' on the world.
-/
import Derived.Test.YthalmjjbamglgaaDoorSen
import Derived.Deep.QuietTactic
import Derived.BigQuiet
import Derived.Deep.RegionWith
import Derived.Deep.LoopGhost
namespace Go.Proofs.YthalmjjbamglgaaDoor
open Go.RowKit

theorem sent_1 {B : Nat} {a : Nat → Addr} (w : World) (hs : Sen B a w) :
    Calls Tryd.prog 73 #[.int .i64 1] w fun e w' => e = .returned (.iface 200 (.pointer (some (a 1)))) ∧ w = w' := by
  have hc : w.cell? ⟨3, 0, none⟩ = some (.iface 200 (.pointer (some (a 1)))) := hs.cell 1 (by decide) (by decide)
  go_enter Tryd.func73, Tryd.ntmps73
  go_wp2
  go_ret
  exact ⟨rfl, rfl⟩

theorem sent_2 {B : Nat} {a : Nat → Addr} (w : World) (hs : Sen B a w) :
    Calls Tryd.prog 73 #[.int .i64 2] w fun e w' => e = .returned (.iface 200 (.pointer (some (a 2)))) ∧ w = w' := by
  have hc : w.cell? ⟨4, 0, none⟩ = some (.iface 200 (.pointer (some (a 2)))) := hs.cell 2 (by decide) (by decide)
  go_enter Tryd.func73, Tryd.ntmps73
  go_wp2
  go_ret
  exact ⟨rfl, rfl⟩

theorem sent_3 {B : Nat} {a : Nat → Addr} (w : World) (hs : Sen B a w) :
    Calls Tryd.prog 73 #[.int .i64 3] w fun e w' => e = .returned (.iface 200 (.pointer (some (a 3)))) ∧ w = w' := by
  have hc : w.cell? ⟨0, 0, none⟩ = some (.iface 200 (.pointer (some (a 3)))) := hs.cell 3 (by decide) (by decide)
  go_enter Tryd.func73, Tryd.ntmps73
  go_wp2
  go_ret
  exact ⟨rfl, rfl⟩

theorem sent_4 {B : Nat} {a : Nat → Addr} (w : World) (hs : Sen B a w) :
    Calls Tryd.prog 73 #[.int .i64 4] w fun e w' => e = .returned (.iface 200 (.pointer (some (a 4)))) ∧ w = w' := by
  have hc : w.cell? ⟨11, 0, none⟩ = some (.iface 200 (.pointer (some (a 4)))) := hs.cell 4 (by decide) (by decide)
  go_enter Tryd.func73, Tryd.ntmps73
  go_wp2
  go_ret
  exact ⟨rfl, rfl⟩

theorem sent_5 {B : Nat} {a : Nat → Addr} (w : World) (hs : Sen B a w) :
    Calls Tryd.prog 73 #[.int .i64 5] w fun e w' => e = .returned (.iface 200 (.pointer (some (a 5)))) ∧ w = w' := by
  have hc : w.cell? ⟨12, 0, none⟩ = some (.iface 200 (.pointer (some (a 5)))) := hs.cell 5 (by decide) (by decide)
  go_enter Tryd.func73, Tryd.ntmps73
  go_wp2
  go_ret
  exact ⟨rfl, rfl⟩

theorem sent_6 {B : Nat} {a : Nat → Addr} (w : World) (hs : Sen B a w) :
    Calls Tryd.prog 73 #[.int .i64 6] w fun e w' => e = .returned (.iface 200 (.pointer (some (a 6)))) ∧ w = w' := by
  have hc : w.cell? ⟨13, 0, none⟩ = some (.iface 200 (.pointer (some (a 6)))) := hs.cell 6 (by decide) (by decide)
  go_enter Tryd.func73, Tryd.ntmps73
  go_wp2
  go_ret
  exact ⟨rfl, rfl⟩

theorem sent_7 {B : Nat} {a : Nat → Addr} (w : World) (hs : Sen B a w) :
    Calls Tryd.prog 73 #[.int .i64 7] w fun e w' => e = .returned (.iface 200 (.pointer (some (a 7)))) ∧ w = w' := by
  have hc : w.cell? ⟨14, 0, none⟩ = some (.iface 200 (.pointer (some (a 7)))) := hs.cell 7 (by decide) (by decide)
  go_enter Tryd.func73, Tryd.ntmps73
  go_wp2
  go_ret
  exact ⟨rfl, rfl⟩

theorem sent_8 {B : Nat} {a : Nat → Addr} (w : World) (hs : Sen B a w) :
    Calls Tryd.prog 73 #[.int .i64 8] w fun e w' => e = .returned (.iface 200 (.pointer (some (a 8)))) ∧ w = w' := by
  have hc : w.cell? ⟨15, 0, none⟩ = some (.iface 200 (.pointer (some (a 8)))) := hs.cell 8 (by decide) (by decide)
  go_enter Tryd.func73, Tryd.ntmps73
  go_wp2
  go_ret
  exact ⟨rfl, rfl⟩

theorem sent_9 {B : Nat} {a : Nat → Addr} (w : World) (hs : Sen B a w) :
    Calls Tryd.prog 73 #[.int .i64 9] w fun e w' => e = .returned (.iface 200 (.pointer (some (a 9)))) ∧ w = w' := by
  have hc : w.cell? ⟨16, 0, none⟩ = some (.iface 200 (.pointer (some (a 9)))) := hs.cell 9 (by decide) (by decide)
  go_enter Tryd.func73, Tryd.ntmps73
  go_wp2
  go_ret
  exact ⟨rfl, rfl⟩

theorem sent_10 {B : Nat} {a : Nat → Addr} (w : World) (hs : Sen B a w) :
    Calls Tryd.prog 73 #[.int .i64 10] w fun e w' => e = .returned (.iface 200 (.pointer (some (a 10)))) ∧ w = w' := by
  have hc : w.cell? ⟨10, 0, none⟩ = some (.iface 200 (.pointer (some (a 10)))) := hs.cell 10 (by decide) (by decide)
  go_enter Tryd.func73, Tryd.ntmps73
  go_wp2
  go_ret
  exact ⟨rfl, rfl⟩

theorem sent_11 {B : Nat} {a : Nat → Addr} (w : World) (hs : Sen B a w) :
    Calls Tryd.prog 73 #[.int .i64 11] w fun e w' => e = .returned (.iface 200 (.pointer (some (a 11)))) ∧ w = w' := by
  have hc : w.cell? ⟨17, 0, none⟩ = some (.iface 200 (.pointer (some (a 11)))) := hs.cell 11 (by decide) (by decide)
  go_enter Tryd.func73, Tryd.ntmps73
  go_wp2
  go_ret
  exact ⟨rfl, rfl⟩

theorem sent_12 {B : Nat} {a : Nat → Addr} (w : World) (hs : Sen B a w) :
    Calls Tryd.prog 73 #[.int .i64 12] w fun e w' => e = .returned (.iface 200 (.pointer (some (a 12)))) ∧ w = w' := by
  have hc : w.cell? ⟨18, 0, none⟩ = some (.iface 200 (.pointer (some (a 12)))) := hs.cell 12 (by decide) (by decide)
  go_enter Tryd.func73, Tryd.ntmps73
  go_wp2
  go_ret
  exact ⟨rfl, rfl⟩

theorem sent_13 {B : Nat} {a : Nat → Addr} (w : World) (hs : Sen B a w) :
    Calls Tryd.prog 73 #[.int .i64 13] w fun e w' => e = .returned (.iface 200 (.pointer (some (a 13)))) ∧ w = w' := by
  have hc : w.cell? ⟨19, 0, none⟩ = some (.iface 200 (.pointer (some (a 13)))) := hs.cell 13 (by decide) (by decide)
  go_enter Tryd.func73, Tryd.ntmps73
  go_wp2
  go_ret
  exact ⟨rfl, rfl⟩

theorem sent_14 {B : Nat} {a : Nat → Addr} (w : World) (hs : Sen B a w) :
    Calls Tryd.prog 73 #[.int .i64 14] w fun e w' => e = .returned (.iface 200 (.pointer (some (a 14)))) ∧ w = w' := by
  have hc : w.cell? ⟨20, 0, none⟩ = some (.iface 200 (.pointer (some (a 14)))) := hs.cell 14 (by decide) (by decide)
  go_enter Tryd.func73, Tryd.ntmps73
  go_wp2
  go_ret
  exact ⟨rfl, rfl⟩

theorem sent_15 {B : Nat} {a : Nat → Addr} (w : World) (hs : Sen B a w) :
    Calls Tryd.prog 73 #[.int .i64 15] w fun e w' => e = .returned (.iface 200 (.pointer (some (a 15)))) ∧ w = w' := by
  have hc : w.cell? ⟨9, 0, none⟩ = some (.iface 200 (.pointer (some (a 15)))) := hs.cell 15 (by decide) (by decide)
  go_enter Tryd.func73, Tryd.ntmps73
  go_wp2
  go_ret
  exact ⟨rfl, rfl⟩

theorem sent_16 {B : Nat} {a : Nat → Addr} (w : World) (hs : Sen B a w) :
    Calls Tryd.prog 73 #[.int .i64 16] w fun e w' => e = .returned (.iface 200 (.pointer (some (a 16)))) ∧ w = w' := by
  have hc : w.cell? ⟨21, 0, none⟩ = some (.iface 200 (.pointer (some (a 16)))) := hs.cell 16 (by decide) (by decide)
  go_enter Tryd.func73, Tryd.ntmps73
  go_wp2
  go_ret
  exact ⟨rfl, rfl⟩

theorem sent_17 {B : Nat} {a : Nat → Addr} (w : World) (hs : Sen B a w) :
    Calls Tryd.prog 73 #[.int .i64 17] w fun e w' => e = .returned (.iface 200 (.pointer (some (a 17)))) ∧ w = w' := by
  have hc : w.cell? ⟨22, 0, none⟩ = some (.iface 200 (.pointer (some (a 17)))) := hs.cell 17 (by decide) (by decide)
  go_enter Tryd.func73, Tryd.ntmps73
  go_wp2
  go_ret
  exact ⟨rfl, rfl⟩

theorem sent_18 {B : Nat} {a : Nat → Addr} (w : World) (hs : Sen B a w) :
    Calls Tryd.prog 73 #[.int .i64 18] w fun e w' => e = .returned (.iface 200 (.pointer (some (a 18)))) ∧ w = w' := by
  have hc : w.cell? ⟨23, 0, none⟩ = some (.iface 200 (.pointer (some (a 18)))) := hs.cell 18 (by decide) (by decide)
  go_enter Tryd.func73, Tryd.ntmps73
  go_wp2
  go_ret
  exact ⟨rfl, rfl⟩

theorem sent_19 {B : Nat} {a : Nat → Addr} (w : World) (hs : Sen B a w) :
    Calls Tryd.prog 73 #[.int .i64 19] w fun e w' => e = .returned (.iface 200 (.pointer (some (a 19)))) ∧ w = w' := by
  have hc : w.cell? ⟨24, 0, none⟩ = some (.iface 200 (.pointer (some (a 19)))) := hs.cell 19 (by decide) (by decide)
  go_enter Tryd.func73, Tryd.ntmps73
  go_wp2
  go_ret
  exact ⟨rfl, rfl⟩

theorem sent_20 {B : Nat} {a : Nat → Addr} (w : World) (hs : Sen B a w) :
    Calls Tryd.prog 73 #[.int .i64 20] w fun e w' => e = .returned (.iface 200 (.pointer (some (a 20)))) ∧ w = w' := by
  have hc : w.cell? ⟨25, 0, none⟩ = some (.iface 200 (.pointer (some (a 20)))) := hs.cell 20 (by decide) (by decide)
  go_enter Tryd.func73, Tryd.ntmps73
  go_wp2
  go_ret
  exact ⟨rfl, rfl⟩

theorem sent_21 {B : Nat} {a : Nat → Addr} (w : World) (hs : Sen B a w) :
    Calls Tryd.prog 73 #[.int .i64 21] w fun e w' => e = .returned (.iface 200 (.pointer (some (a 21)))) ∧ w = w' := by
  have hc : w.cell? ⟨26, 0, none⟩ = some (.iface 200 (.pointer (some (a 21)))) := hs.cell 21 (by decide) (by decide)
  go_enter Tryd.func73, Tryd.ntmps73
  go_wp2
  go_ret
  exact ⟨rfl, rfl⟩

theorem sent_22 {B : Nat} {a : Nat → Addr} (w : World) (hs : Sen B a w) :
    Calls Tryd.prog 73 #[.int .i64 22] w fun e w' => e = .returned (.iface 200 (.pointer (some (a 22)))) ∧ w = w' := by
  have hc : w.cell? ⟨27, 0, none⟩ = some (.iface 200 (.pointer (some (a 22)))) := hs.cell 22 (by decide) (by decide)
  go_enter Tryd.func73, Tryd.ntmps73
  go_wp2
  go_ret
  exact ⟨rfl, rfl⟩

theorem sent_23 {B : Nat} {a : Nat → Addr} (w : World) (hs : Sen B a w) :
    Calls Tryd.prog 73 #[.int .i64 23] w fun e w' => e = .returned (.iface 200 (.pointer (some (a 23)))) ∧ w = w' := by
  have hc : w.cell? ⟨1, 0, none⟩ = some (.iface 200 (.pointer (some (a 23)))) := hs.cell 23 (by decide) (by decide)
  go_enter Tryd.func73, Tryd.ntmps73
  go_wp2
  go_ret
  exact ⟨rfl, rfl⟩

theorem sent_24 {B : Nat} {a : Nat → Addr} (w : World) (hs : Sen B a w) :
    Calls Tryd.prog 73 #[.int .i64 24] w fun e w' => e = .returned (.iface 200 (.pointer (some (a 24)))) ∧ w = w' := by
  have hc : w.cell? ⟨2, 0, none⟩ = some (.iface 200 (.pointer (some (a 24)))) := hs.cell 24 (by decide) (by decide)
  go_enter Tryd.func73, Tryd.ntmps73
  go_wp2
  go_ret
  exact ⟨rfl, rfl⟩

theorem sent_25 {B : Nat} {a : Nat → Addr} (w : World) (hs : Sen B a w) :
    Calls Tryd.prog 73 #[.int .i64 25] w fun e w' => e = .returned (.iface 200 (.pointer (some (a 25)))) ∧ w = w' := by
  have hc : w.cell? ⟨6, 0, none⟩ = some (.iface 200 (.pointer (some (a 25)))) := hs.cell 25 (by decide) (by decide)
  go_enter Tryd.func73, Tryd.ntmps73
  go_wp2
  go_ret
  exact ⟨rfl, rfl⟩

theorem sent_26 {B : Nat} {a : Nat → Addr} (w : World) (hs : Sen B a w) :
    Calls Tryd.prog 73 #[.int .i64 26] w fun e w' => e = .returned (.iface 200 (.pointer (some (a 26)))) ∧ w = w' := by
  have hc : w.cell? ⟨5, 0, none⟩ = some (.iface 200 (.pointer (some (a 26)))) := hs.cell 26 (by decide) (by decide)
  go_enter Tryd.func73, Tryd.ntmps73
  go_wp2
  go_ret
  exact ⟨rfl, rfl⟩

theorem sent_27 {B : Nat} {a : Nat → Addr} (w : World) (hs : Sen B a w) :
    Calls Tryd.prog 73 #[.int .i64 27] w fun e w' => e = .returned (.iface 200 (.pointer (some (a 27)))) ∧ w = w' := by
  have hc : w.cell? ⟨7, 0, none⟩ = some (.iface 200 (.pointer (some (a 27)))) := hs.cell 27 (by decide) (by decide)
  go_enter Tryd.func73, Tryd.ntmps73
  go_wp2
  go_ret
  exact ⟨rfl, rfl⟩

theorem sent_28 {B : Nat} {a : Nat → Addr} (w : World) (hs : Sen B a w) :
    Calls Tryd.prog 73 #[.int .i64 28] w fun e w' => e = .returned (.iface 200 (.pointer (some (a 28)))) ∧ w = w' := by
  have hc : w.cell? ⟨28, 0, none⟩ = some (.iface 200 (.pointer (some (a 28)))) := hs.cell 28 (by decide) (by decide)
  go_enter Tryd.func73, Tryd.ntmps73
  go_wp2
  go_ret
  exact ⟨rfl, rfl⟩

theorem sent_29 {B : Nat} {a : Nat → Addr} (w : World) (hs : Sen B a w) :
    Calls Tryd.prog 73 #[.int .i64 29] w fun e w' => e = .returned (.iface 200 (.pointer (some (a 29)))) ∧ w = w' := by
  have hc : w.cell? ⟨29, 0, none⟩ = some (.iface 200 (.pointer (some (a 29)))) := hs.cell 29 (by decide) (by decide)
  go_enter Tryd.func73, Tryd.ntmps73
  go_wp2
  go_ret
  exact ⟨rfl, rfl⟩

theorem sent_30 {B : Nat} {a : Nat → Addr} (w : World) (hs : Sen B a w) :
    Calls Tryd.prog 73 #[.int .i64 30] w fun e w' => e = .returned (.iface 200 (.pointer (some (a 30)))) ∧ w = w' := by
  have hc : w.cell? ⟨30, 0, none⟩ = some (.iface 200 (.pointer (some (a 30)))) := hs.cell 30 (by decide) (by decide)
  go_enter Tryd.func73, Tryd.ntmps73
  go_wp2
  go_ret
  exact ⟨rfl, rfl⟩

theorem sent_31 {B : Nat} {a : Nat → Addr} (w : World) (hs : Sen B a w) :
    Calls Tryd.prog 73 #[.int .i64 31] w fun e w' => e = .returned (.iface 200 (.pointer (some (a 31)))) ∧ w = w' := by
  have hc : w.cell? ⟨31, 0, none⟩ = some (.iface 200 (.pointer (some (a 31)))) := hs.cell 31 (by decide) (by decide)
  go_enter Tryd.func73, Tryd.ntmps73
  go_wp2
  go_ret
  exact ⟨rfl, rfl⟩

theorem sent_32 {B : Nat} {a : Nat → Addr} (w : World) (hs : Sen B a w) :
    Calls Tryd.prog 73 #[.int .i64 32] w fun e w' => e = .returned (.iface 200 (.pointer (some (a 32)))) ∧ w = w' := by
  have hc : w.cell? ⟨32, 0, none⟩ = some (.iface 200 (.pointer (some (a 32)))) := hs.cell 32 (by decide) (by decide)
  go_enter Tryd.func73, Tryd.ntmps73
  go_wp2
  go_ret
  exact ⟨rfl, rfl⟩

theorem sent_33 {B : Nat} {a : Nat → Addr} (w : World) (hs : Sen B a w) :
    Calls Tryd.prog 73 #[.int .i64 33] w fun e w' => e = .returned (.iface 200 (.pointer (some (a 33)))) ∧ w = w' := by
  have hc : w.cell? ⟨33, 0, none⟩ = some (.iface 200 (.pointer (some (a 33)))) := hs.cell 33 (by decide) (by decide)
  go_enter Tryd.func73, Tryd.ntmps73
  go_wp2
  go_ret
  exact ⟨rfl, rfl⟩

theorem sent_34 {B : Nat} {a : Nat → Addr} (w : World) (hs : Sen B a w) :
    Calls Tryd.prog 73 #[.int .i64 34] w fun e w' => e = .returned (.iface 200 (.pointer (some (a 34)))) ∧ w = w' := by
  have hc : w.cell? ⟨8, 0, none⟩ = some (.iface 200 (.pointer (some (a 34)))) := hs.cell 34 (by decide) (by decide)
  go_enter Tryd.func73, Tryd.ntmps73
  go_wp2
  go_ret
  exact ⟨rfl, rfl⟩

theorem sent_35 {B : Nat} {a : Nat → Addr} (w : World) (hs : Sen B a w) :
    Calls Tryd.prog 73 #[.int .i64 35] w fun e w' => e = .returned (.iface 200 (.pointer (some (a 35)))) ∧ w = w' := by
  have hc : w.cell? ⟨34, 0, none⟩ = some (.iface 200 (.pointer (some (a 35)))) := hs.cell 35 (by decide) (by decide)
  go_enter Tryd.func73, Tryd.ntmps73
  go_wp2
  go_ret
  exact ⟨rfl, rfl⟩

theorem sent_36 {B : Nat} {a : Nat → Addr} (w : World) (hs : Sen B a w) :
    Calls Tryd.prog 73 #[.int .i64 36] w fun e w' => e = .returned (.iface 200 (.pointer (some (a 36)))) ∧ w = w' := by
  have hc : w.cell? ⟨35, 0, none⟩ = some (.iface 200 (.pointer (some (a 36)))) := hs.cell 36 (by decide) (by decide)
  go_enter Tryd.func73, Tryd.ntmps73
  go_wp2
  go_ret
  exact ⟨rfl, rfl⟩

theorem sent_37 {B : Nat} {a : Nat → Addr} (w : World) (hs : Sen B a w) :
    Calls Tryd.prog 73 #[.int .i64 37] w fun e w' => e = .returned (.iface 200 (.pointer (some (a 37)))) ∧ w = w' := by
  have hc : w.cell? ⟨36, 0, none⟩ = some (.iface 200 (.pointer (some (a 37)))) := hs.cell 37 (by decide) (by decide)
  go_enter Tryd.func73, Tryd.ntmps73
  go_wp2
  go_ret
  exact ⟨rfl, rfl⟩

theorem sent_38 {B : Nat} {a : Nat → Addr} (w : World) (hs : Sen B a w) :
    Calls Tryd.prog 73 #[.int .i64 38] w fun e w' => e = .returned (.iface 200 (.pointer (some (a 38)))) ∧ w = w' := by
  have hc : w.cell? ⟨37, 0, none⟩ = some (.iface 200 (.pointer (some (a 38)))) := hs.cell 38 (by decide) (by decide)
  go_enter Tryd.func73, Tryd.ntmps73
  go_wp2
  go_ret
  exact ⟨rfl, rfl⟩

theorem sent_39 {B : Nat} {a : Nat → Addr} (w : World) (hs : Sen B a w) :
    Calls Tryd.prog 73 #[.int .i64 39] w fun e w' => e = .returned (.iface 200 (.pointer (some (a 39)))) ∧ w = w' := by
  have hc : w.cell? ⟨38, 0, none⟩ = some (.iface 200 (.pointer (some (a 39)))) := hs.cell 39 (by decide) (by decide)
  go_enter Tryd.func73, Tryd.ntmps73
  go_wp2
  go_ret
  exact ⟨rfl, rfl⟩

theorem sent_40 {B : Nat} {a : Nat → Addr} (w : World) (hs : Sen B a w) :
    Calls Tryd.prog 73 #[.int .i64 40] w fun e w' => e = .returned (.iface 200 (.pointer (some (a 40)))) ∧ w = w' := by
  have hc : w.cell? ⟨39, 0, none⟩ = some (.iface 200 (.pointer (some (a 40)))) := hs.cell 40 (by decide) (by decide)
  go_enter Tryd.func73, Tryd.ntmps73
  go_wp2
  go_ret
  exact ⟨rfl, rfl⟩

theorem sent_41 {B : Nat} {a : Nat → Addr} (w : World) (hs : Sen B a w) :
    Calls Tryd.prog 73 #[.int .i64 41] w fun e w' => e = .returned (.iface 200 (.pointer (some (a 41)))) ∧ w = w' := by
  have hc : w.cell? ⟨40, 0, none⟩ = some (.iface 200 (.pointer (some (a 41)))) := hs.cell 41 (by decide) (by decide)
  go_enter Tryd.func73, Tryd.ntmps73
  go_wp2
  go_ret
  exact ⟨rfl, rfl⟩

theorem sent_42 {B : Nat} {a : Nat → Addr} (w : World) (hs : Sen B a w) :
    Calls Tryd.prog 73 #[.int .i64 42] w fun e w' => e = .returned (.iface 200 (.pointer (some (a 42)))) ∧ w = w' := by
  have hc : w.cell? ⟨41, 0, none⟩ = some (.iface 200 (.pointer (some (a 42)))) := hs.cell 42 (by decide) (by decide)
  go_enter Tryd.func73, Tryd.ntmps73
  go_wp2
  go_ret
  exact ⟨rfl, rfl⟩

theorem sent_any {B : Nat} {a : Nat → Addr} (w : World) (hs : Sen B a w) (k : Nat) (h1 : 1 ≤ k) (h2 : k ≤ 42) :
    Calls Tryd.prog 73 #[.int .i64 (k : Int)] w fun e w' => e = .returned (.iface 200 (.pointer (some (a k)))) ∧ w = w' := by
  have h : k = 1 ∨ k = 2 ∨ k = 3 ∨ k = 4 ∨ k = 5 ∨ k = 6 ∨ k = 7 ∨ k = 8 ∨ k = 9 ∨ k = 10 ∨ k = 11 ∨ k = 12 ∨ k = 13 ∨ k = 14 ∨ k = 15 ∨ k = 16 ∨ k = 17 ∨ k = 18 ∨ k = 19 ∨ k = 20 ∨ k = 21 ∨ k = 22 ∨ k = 23 ∨ k = 24 ∨ k = 25 ∨ k = 26 ∨ k = 27 ∨ k = 28 ∨ k = 29 ∨ k = 30 ∨ k = 31 ∨ k = 32 ∨ k = 33 ∨ k = 34 ∨ k = 35 ∨ k = 36 ∨ k = 37 ∨ k = 38 ∨ k = 39 ∨ k = 40 ∨ k = 41 ∨ k = 42 := by omega
  rcases h with rfl | rfl | rfl | rfl | rfl | rfl | rfl | rfl | rfl | rfl | rfl | rfl | rfl | rfl | rfl | rfl | rfl | rfl | rfl | rfl | rfl | rfl | rfl | rfl | rfl | rfl | rfl | rfl | rfl | rfl | rfl | rfl | rfl | rfl | rfl | rfl | rfl | rfl | rfl | rfl | rfl | rfl

  · exact sent_1 w hs

  · exact sent_2 w hs

  · exact sent_3 w hs

  · exact sent_4 w hs

  · exact sent_5 w hs

  · exact sent_6 w hs

  · exact sent_7 w hs

  · exact sent_8 w hs

  · exact sent_9 w hs

  · exact sent_10 w hs

  · exact sent_11 w hs

  · exact sent_12 w hs

  · exact sent_13 w hs

  · exact sent_14 w hs

  · exact sent_15 w hs

  · exact sent_16 w hs

  · exact sent_17 w hs

  · exact sent_18 w hs

  · exact sent_19 w hs

  · exact sent_20 w hs

  · exact sent_21 w hs

  · exact sent_22 w hs

  · exact sent_23 w hs

  · exact sent_24 w hs

  · exact sent_25 w hs

  · exact sent_26 w hs

  · exact sent_27 w hs

  · exact sent_28 w hs

  · exact sent_29 w hs

  · exact sent_30 w hs

  · exact sent_31 w hs

  · exact sent_32 w hs

  · exact sent_33 w hs

  · exact sent_34 w hs

  · exact sent_35 w hs

  · exact sent_36 w hs

  · exact sent_37 w hs

  · exact sent_38 w hs

  · exact sent_39 w hs

  · exact sent_40 w hs

  · exact sent_41 w hs

  · exact sent_42 w hs


theorem is_any {B : Nat} {a : Nat → Addr} (w : World) (hs : Sen B a w) (i j : Nat) (h1 : 1 ≤ i) (h2 : i ≤ 42) (h3 : 1 ≤ j) (h4 : j ≤ 42) :
    Calls Tryd.prog 72 #[.iface 200 (.pointer (some (a i))), .iface 200 (.pointer (some (a j)))] w fun e w' => e = .returned (.bool (decide (i = j))) ∧ w = w' := by
  by_cases h : i = j
  · subst h
    rw [decide_eq_true rfl]
    exact is_same (a i) w
  · rw [decide_eq_false h]
    obtain ⟨ca, ta, ha⟩ := hs.row i h1 h2
    obtain ⟨cb, tb, hb⟩ := hs.row j h3 h4
    exact is_other (a i) (a j) ca cb ta tb w (hs.ne i j h1 h2 h3 h4 h) ha hb

theorem code_nil (w : World) :
    Calls Tryd.prog 26 #[.nilIface] w fun e w' => e = .returned (.int .i64 0) ∧ w = w' := by
  go_enter Tryd.func26, Tryd.ntmps26
  go_wp2
  go_ret
  exact ⟨rfl, rfl⟩

theorem is_hit {B : Nat} {a : Nat → Addr} (w : World) (hs : Sen B a w) (i : Nat) (h1 : 1 ≤ i) (h2 : i ≤ 42) :
    Calls Tryd.prog 72 #[.iface 200 (.pointer (some (a i))), .iface 200 (.pointer (some (a i)))] w fun e w' => e = .returned (.bool true) ∧ w = w' := by
  have h := is_any w hs i i h1 h2 h1 h2
  rwa [decide_eq_true rfl] at h
theorem is_miss {B : Nat} {a : Nat → Addr} (w : World) (hs : Sen B a w) (i j : Nat) (h1 : 1 ≤ i) (h2 : i ≤ 42) (h3 : 1 ≤ j) (h4 : j ≤ 42) (h : i ≠ j) :
    Calls Tryd.prog 72 #[.iface 200 (.pointer (some (a i))), .iface 200 (.pointer (some (a j)))] w fun e w' => e = .returned (.bool false) ∧ w = w' := by
  have h' := is_any w hs i j h1 h2 h3 h4
  rwa [decide_eq_false h] at h'
set_option maxHeartbeats 1000000 in
theorem code_most {B : Nat} {a : Nat → Addr} (w : World) (hs : Sen B a w) (n : Nat) (h1 : 1 ≤ n) (h2 : n ≤ 42) (h3 : n ≠ 28) :
    Calls Tryd.prog 26 #[.iface 200 (.pointer (some (a n)))] w fun e w' => e = .returned (.int .i64 (n : Int)) ∧ w = w' := by
  go_enter Tryd.func26, Tryd.ntmps26
  go_wp2
  go_loop [3, 4, 5, 6] (fun f y b i => ∃ j : Nat, 1 ≤ j ∧ j ≤ 43 ∧ i = .int .i64 j ∧ b = .bool false ∧ ((j ≤ n ∧ f = .int .i64 0 ∧ y = .int .i64 0) ∨ (n < j ∧ f = .int .i64 1 ∧ y = .int .i64 n))) (fun _ _ _ i => 43 - (intOf i).toNat)
  case atStart => exact ⟨1, by omega, by omega, rfl, rfl, .inl ⟨h1, rfl, rfl⟩⟩
  case round =>
    obtain ⟨j, hj1, hj2, rfl, rfl, hc⟩ := hrel
    rcases hc with ⟨hle, rfl, rfl⟩ | ⟨hlt, rfl, rfl⟩
    · by_cases e : j = n
      · subst e
        have hb : ((j : Int) == 28) = false := by simp; omega
        go_wp2_with (first
          | (go_at_call 73; refine (sent_any w hs _ h1 h2).mono ?_; rintro e w' ⟨rfl, rfl⟩)
          | (go_at_call 72; refine (is_hit w hs _ h1 h2).mono ?_; rintro e w' ⟨rfl, rfl⟩))
        go_round
        case rel => exact ⟨j + 1, by omega, by omega, by go_num, rfl, .inr ⟨by omega, rfl, rfl⟩⟩
        case measure => simp [intOf]; omega
      · go_wp2_with (first
          | (go_at_call 73; refine (sent_any w hs _ hj1 (by omega)).mono ?_; rintro e w' ⟨rfl, rfl⟩)
          | (go_at_call 72; refine (is_miss w hs _ _ h1 h2 hj1 (by omega) (by omega)).mono ?_; rintro e w' ⟨rfl, rfl⟩))
        go_round
        case rel => exact ⟨j + 1, by omega, by omega, by go_num, rfl, .inl ⟨by omega, rfl, rfl⟩⟩
        case measure => simp [intOf]; omega
    · by_cases e : j = 43
      · subst e
        go_wp2
        go_ret
        exact ⟨rfl, rfl⟩
      · go_wp2_with (first
          | (go_at_call 73; refine (sent_any w hs _ hj1 (by omega)).mono ?_; rintro e w' ⟨rfl, rfl⟩)
          | (go_at_call 72; refine (is_miss w hs _ _ h1 h2 hj1 (by omega) (by omega)).mono ?_; rintro e w' ⟨rfl, rfl⟩))
        go_round
        case rel => exact ⟨j + 1, by omega, by omega, by go_num, rfl, .inr ⟨by omega, rfl, rfl⟩⟩
        case measure => simp [intOf]; omega

set_option maxHeartbeats 1000000 in
theorem code_protocol {B : Nat} {a : Nat → Addr} (w : World) (hs : Sen B a w) :
    Calls Tryd.prog 26 #[.iface 200 (.pointer (some (a 28)))] w fun e w' => e = .returned (.int .i64 28) ∧ w = w' := by
  go_enter Tryd.func26, Tryd.ntmps26
  go_wp2
  go_loop [3, 4, 5, 6] (fun f y b i => ∃ j : Nat, 1 ≤ j ∧ j ≤ 43 ∧ i = .int .i64 j ∧ f = .int .i64 0 ∧ y = .int .i64 0 ∧ ((j ≤ 28 ∧ b = .bool false) ∨ (28 < j ∧ b = .bool true))) (fun _ _ _ i => 43 - (intOf i).toNat)
  case atStart => exact ⟨1, by omega, by omega, rfl, rfl, rfl, .inl ⟨by omega, rfl⟩⟩
  case round =>
    obtain ⟨j, hj1, hj2, rfl, rfl, rfl, hc⟩ := hrel
    rcases hc with ⟨hle, rfl⟩ | ⟨hlt, rfl⟩
    · by_cases e : j = 28
      · subst e
        go_wp2_with (first
          | (go_at_call 73; refine (sent_any w hs 28 (by omega) (by omega)).mono ?_; rintro e w' ⟨rfl, rfl⟩)
          | (go_at_call 72; refine (is_hit w hs 28 (by omega) (by omega)).mono ?_; rintro e w' ⟨rfl, rfl⟩))
        go_round
        case rel => exact ⟨29, by omega, by omega, rfl, rfl, rfl, .inr ⟨by omega, rfl⟩⟩
        case measure => simp [intOf]
      · go_wp2_with (first
          | (go_at_call 73; refine (sent_any w hs _ hj1 (by omega)).mono ?_; rintro e w' ⟨rfl, rfl⟩)
          | (go_at_call 72; refine (is_miss w hs 28 _ (by omega) (by omega) hj1 (by omega) (by omega)).mono ?_; rintro e w' ⟨rfl, rfl⟩))
        go_round
        case rel => exact ⟨j + 1, by omega, by omega, by go_num, rfl, rfl, .inl ⟨by omega, rfl⟩⟩
        case measure => simp [intOf]; omega
    · by_cases e : j = 43
      · subst e
        go_wp2
        go_ret
        exact ⟨rfl, rfl⟩
      · go_wp2_with (first
          | (go_at_call 73; refine (sent_any w hs _ hj1 (by omega)).mono ?_; rintro e w' ⟨rfl, rfl⟩)
          | (go_at_call 72; refine (is_miss w hs 28 _ (by omega) (by omega) hj1 (by omega) (by omega)).mono ?_; rintro e w' ⟨rfl, rfl⟩))
        go_round
        case rel => exact ⟨j + 1, by omega, by omega, by go_num, rfl, rfl, .inr ⟨by omega, rfl⟩⟩
        case measure => simp [intOf]; omega

/-- Code of an error by its code. -/
theorem code_err {B : Nat} {a : Nat → Addr} (w : World) (hs : Sen B a w) (n : Nat) (h1 : 1 ≤ n) (h2 : n ≤ 42) :
    Calls Tryd.prog 26 #[.iface 200 (.pointer (some (a n)))] w fun e w' => e = .returned (.int .i64 (n : Int)) ∧ w = w' := by
  by_cases h3 : n = 28
  · subst h3
    exact code_protocol w hs
  · exact code_most w hs n h1 h2 h3

theorem code_any {B : Nat} {a : Nat → Addr} (w : World) (hs : Sen B a w) (n : Nat) (h : n ≤ 42) :
    Calls Tryd.prog 26 #[errv a n] w fun e w' => e = .returned (.int .i64 (n : Int)) ∧ w = w' := by
  cases n with
  | zero => exact code_nil w
  | succ n => exact code_err w hs (n + 1) (by omega) h
end Go.Proofs.YthalmjjbamglgaaDoor
