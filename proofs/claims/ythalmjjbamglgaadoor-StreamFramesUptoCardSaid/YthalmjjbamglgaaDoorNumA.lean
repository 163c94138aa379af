/-
  num.Add, Sub and Narrow by contracts.
  No condition of its own: the fact 'Sen' on the world; numbers within their kinds.
-/
import Derived.Test.YthalmjjbamglgaaDoorCode
import Derived.Test.YthalmjjbamglgaaDoorMore
namespace Go.Proofs.YthalmjjbamglgaaDoor
open Go.RowKit
theorem add_ok (w : World) (x y : Int) (hx : 0 ≤ x) (hy : 0 ≤ y) (h : x + y ≤ 4294967295) :
    Calls Tryd.prog 48 #[.int .u32 x, .int .u32 y] w fun e w' => e = .returned (.tuple #[.int .u32 (x + y), .nilIface]) ∧ w = w' := by
  have hy2 : y ≤ 4294967295 := by omega
  have hx2 : x ≤ 4294967295 - y := by omega
  go_enter Tryd.func48, Tryd.ntmps48
  go_wp2
  go_ret2
  exact ⟨rfl, rfl⟩
theorem add_no {B : Nat} {a : Nat → Addr} (w : World) (hs : Sen B a w) (x y : Int) (hy : 0 ≤ y) (hy2 : y ≤ 4294967295) (h : 4294967295 < x + y) :
    Calls Tryd.prog 48 #[.int .u32 x, .int .u32 y] w fun e w' => e = .returned (.tuple #[.int .u32 0, .iface 200 (.pointer (some (a 4)))]) ∧ Dr w w' := by
  have hc : w.cell? ⟨11, 0, none⟩ = some (.iface 200 (.pointer (some (a 4)))) := hs.cell 4 (by decide) (by decide)
  have hxy : 4294967295 - y < x := by omega
  go_enter Tryd.func48, Tryd.ntmps48
  go_wp2
  go_quiet (fail)
  go_wp2
  go_ret2
  exact ⟨rfl, _, rfl⟩
theorem sub_ok (w : World) (x y : Int) (hx : 0 ≤ x) (hx2 : x ≤ 4294967295) (hy : 0 ≤ y) (h : y ≤ x) :
    Calls Tryd.prog 112 #[.int .u32 x, .int .u32 y] w fun e w' => e = .returned (.tuple #[.int .u32 (x - y), .nilIface]) ∧ w = w' := by
  go_enter Tryd.func112, Tryd.ntmps112
  go_wp2
  go_ret2
  exact ⟨rfl, rfl⟩
theorem sub_no {B : Nat} {a : Nat → Addr} (w : World) (hs : Sen B a w) (x y : Int) (h : x < y) :
    Calls Tryd.prog 112 #[.int .u32 x, .int .u32 y] w fun e w' => e = .returned (.tuple #[.int .u32 0, .iface 200 (.pointer (some (a 5)))]) ∧ Dr w w' := by
  have hc : w.cell? ⟨12, 0, none⟩ = some (.iface 200 (.pointer (some (a 5)))) := hs.cell 5 (by decide) (by decide)
  go_enter Tryd.func112, Tryd.ntmps112
  go_wp2
  go_quiet (fail)
  go_wp2
  go_ret2
  exact ⟨rfl, _, rfl⟩
theorem narrow_ok (w : World) (x : Int) (hx : 0 ≤ x) (hx2 : x ≤ 4294967295) :
    Calls Tryd.prog 111 #[.int .i64 x] w fun e w' => e = .returned (.tuple #[.int .u32 x, .nilIface]) ∧ w = w' := by
  go_enter Tryd.func111, Tryd.ntmps111
  go_wp2
  go_ret2
  exact ⟨rfl, rfl⟩
theorem narrow_no {B : Nat} {a : Nat → Addr} (w : World) (hs : Sen B a w) (x : Int) (h : x < 0 ∨ 4294967295 < x) :
    Calls Tryd.prog 111 #[.int .i64 x] w fun e w' => e = .returned (.tuple #[.int .u32 0, .iface 200 (.pointer (some (a 2)))]) ∧ Dr w w' := by
  have hc : w.cell? ⟨4, 0, none⟩ = some (.iface 200 (.pointer (some (a 2)))) := hs.cell 2 (by decide) (by decide)
  by_cases h0 : x < 0
  · go_enter Tryd.func111, Tryd.ntmps111
    go_wp2
    go_quiet (fail)
    go_wp2
    go_ret2
    exact ⟨rfl, _, rfl⟩
  · have h1 : 4294967295 < x := by omega
    go_enter Tryd.func111, Tryd.ntmps111
    go_wp2
    go_quiet (fail)
    go_wp2
    go_ret2
    exact ⟨rfl, _, rfl⟩
end Go.Proofs.YthalmjjbamglgaaDoor
