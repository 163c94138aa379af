/-
  A nil stream's calls by contracts.
  No condition of its own: the fact 'Sen' on the world.
-/
import Derived.Test.YthalmjjbamglgaaDoorStrI
namespace Go.Proofs.YthalmjjbamglgaaDoor
open Go.RowKit

section
variable {B : Nat} {a : Nat → Addr}
def vwZ : Value := .agg #[.int .u32 0, .int .i64 0, .bool false, .bool false, .int .i64 0, .int .u32 0, .int .i64 0, .int .i64 0, .int .i64 0, .bool false, .bool false]
theorem nacc (w : World) (hs : Sen B a w) : Calls Tryd.prog 21 #[.pointer none] w fun e w' => e = .returned (errv a 1) ∧ w = w' := by
  have HS := Lib.hid hs
  clear hs
  go_enter Tryd.func21, Tryd.ntmps21
  go_wp2_with fail
  refine (bars_nil w HS.out).mono ?_
  rintro e w' ⟨rfl, rfl⟩
  rw [show errv a 1 = .iface 200 (.pointer (some (a 1))) from rfl]
  go_wp2
  go_ret
  exact ⟨rfl, rfl⟩
theorem nclose (w : World) (hs : Sen B a w) : Calls Tryd.prog 24 #[.pointer none] w fun e w' => e = .returned (errv a 1) ∧ w = w' := by
  have HS := Lib.hid hs
  clear hs
  go_enter Tryd.func24, Tryd.ntmps24
  go_wp2_with fail
  refine (bars_nil w HS.out).mono ?_
  rintro e w' ⟨rfl, rfl⟩
  rw [show errv a 1 = .iface 200 (.pointer (some (a 1))) from rfl]
  go_wp2
  go_ret
  exact ⟨rfl, rfl⟩
theorem nwrite (w : World) (hs : Sen B a w) (v : Value) : Calls Tryd.prog 22 #[.pointer none, v] w fun e w' => e = .returned (.tuple #[.int .i64 0, errv a 1]) ∧ w = w' := by
  have HS := Lib.hid hs
  clear hs
  go_enter Tryd.func22, Tryd.ntmps22
  go_wp2_with fail
  refine (bars_nil w HS.out).mono ?_
  rintro e w' ⟨rfl, rfl⟩
  rw [show errv a 1 = .iface 200 (.pointer (some (a 1))) from rfl]
  go_wp2
  go_ret2
  exact ⟨rfl, rfl⟩
theorem nread (w : World) (hs : Sen B a w) (n : Int) : Calls Tryd.prog 25 #[.pointer none, .int .i64 n] w fun e w' => e = .returned (.tuple #[.slice none 0 0, .int .u32 0, errv a 1]) ∧ Chg none_ w w' := by
  have hc : w.cell? ⟨3, 0, none⟩ = some (.iface 200 (.pointer (some (a 1)))) := hs.cell 1 (by decide) (by decide)
  clear hs
  go_enter Tryd.func25, Tryd.ntmps25
  go_wp2_with fail
  go_quiet (fail)
  go_wp2
  go_ret3
  exact ⟨rfl, (Chg.refl _ _).drewN _⟩
theorem nready (w : World) (hs : Sen B a w) : Calls Tryd.prog 56 #[.pointer none] w fun e w' => e = .returned (.bool false) ∧ w = w' := by
  have HS := Lib.hid hs
  clear hs
  go_enter Tryd.func56, Tryd.ntmps56
  go_wp2_with fail
  refine (bars_nil w HS.out).mono ?_
  rintro e w' ⟨rfl, rfl⟩
  rw [show errv a 1 = .iface 200 (.pointer (some (a 1))) from rfl]
  go_wp2
  go_ret
  exact ⟨rfl, rfl⟩
theorem nframe (w : World) (hs : Sen B a w) (hB : B ≤ w.heap.size) : Calls Tryd.prog 29 #[.pointer none] w fun e w' => e = .returned (.tuple #[frZ, .bool false]) ∧ Chg none_ w w' := by
  have HS := Lib.hid hs
  have HB := Lib.hid hB
  clear hs hB
  go_enter Tryd.func29, Tryd.ntmps29
  go_wp2_with fail
  refine (nready _ (HS.out.below (((Chg.refl none_ w).alloc _).old HB.out))).mono ?_
  rintro e w' ⟨rfl, rfl⟩
  go_wp2
  refine bodyPost_ret (v := .tuple #[frZ, .bool false]) (by simp [results, Tryd.results29, go_sem, frZ]; try rfl) rfl ?_
  first
    | exact ⟨rfl, (Chg.refl none_ w).alloc _⟩
    | exact ⟨rfl, ((Chg.refl none_ w).alloc _).alloc _⟩
theorem narrive (w : World) (hs : Sen B a w) (v : Value) (b : Bool) : Calls Tryd.prog 27 #[.pointer none, v, .bool b] w fun e w' => e = .returned (errv a 1) ∧ w = w' := by
  have hc : w.cell? ⟨3, 0, none⟩ = some (.iface 200 (.pointer (some (a 1)))) := hs.cell 1 (by decide) (by decide)
  clear hs
  go_enter Tryd.func27, Tryd.ntmps27
  go_wp2
  go_ret
  exact ⟨rfl, rfl⟩
theorem ngrant (w : World) (hs : Sen B a w) (d : Int) (b : Bool) : Calls Tryd.prog 28 #[.pointer none, .int .u32 d, .bool b] w fun e w' => e = .returned (errv a 1) ∧ w = w' := by
  have hc : w.cell? ⟨3, 0, none⟩ = some (.iface 200 (.pointer (some (a 1)))) := hs.cell 1 (by decide) (by decide)
  clear hs
  go_enter Tryd.func28, Tryd.ntmps28
  go_wp2
  go_ret
  exact ⟨rfl, rfl⟩
theorem nreset (w : World) : Calls Tryd.prog 78 #[.pointer none] w fun e w' => (∃ r, e = .returned r) ∧ w = w' := by
  go_enter Tryd.func78, Tryd.ntmps78
  go_wp2
  first | go_end0 | refine bodyPost_ret (results_none rfl _ _ _) rfl ?_
  exact ⟨⟨_, rfl⟩, rfl⟩
theorem ncut (w : World) : Calls Tryd.prog 77 #[.pointer none] w fun e w' => (∃ r, e = .returned r) ∧ w = w' := by
  go_enter Tryd.func77, Tryd.ntmps77
  go_wp2
  first | go_end0 | refine bodyPost_ret (results_none rfl _ _ _) rfl ?_
  exact ⟨⟨_, rfl⟩, rfl⟩
theorem ndone (w : World) : Calls Tryd.prog 55 #[.pointer none] w fun e w' => e = .returned (.bool false) ∧ w = w' := by
  go_enter Tryd.func55, Tryd.ntmps55
  go_wp2
  go_ret
  exact ⟨rfl, rfl⟩
theorem nquiet (w : World) : Calls Tryd.prog 54 #[.pointer none] w fun e w' => e = .returned (.bool false) ∧ w = w' := by
  go_enter Tryd.func54, Tryd.ntmps54
  go_wp2
  go_ret
  exact ⟨rfl, rfl⟩
theorem nheld (w : World) : Calls Tryd.prog 57 #[.pointer none] w fun e w' => e = .returned (.int .i64 0) ∧ Chg none_ w w' := by
  go_enter Tryd.func57, Tryd.ntmps57
  go_wp2
  go_ret
  exact ⟨rfl, Chg.refl _ _⟩
theorem nview (w : World) : Calls Tryd.prog 20 #[.pointer none] w fun e w' => e = .returned vwZ ∧ Chg none_ w w' := by
  go_enter Tryd.func20, Tryd.ntmps20
  go_wp2
  refine bodyPost_ret (v := vwZ) (by simp [results, Tryd.results20, go_sem, vwZ]; try rfl) rfl ?_
  first
    | exact ⟨rfl, Chg.refl _ _⟩
    | exact ⟨rfl, (Chg.refl none_ w).alloc _⟩
    | exact ⟨rfl, ((Chg.refl none_ w).alloc _).alloc _⟩
end
end Go.Proofs.YthalmjjbamglgaaDoor
