/-
  stream.New's refusals by contract.
  No condition of its own: the fact 'Sen' on the world.
-/
import Derived.Test.YthalmjjbamglgaaDoorStr7
namespace Go.Proofs.YthalmjjbamglgaaDoor
open Go.RowKit

section
variable {B : Nat} {a : Nat → Addr}
set_option maxRecDepth 100000 in
theorem snew_zero (w : World) (hs : Sen B a w) (hB : B ≤ w.heap.size) (mine : Bool) (x0 x1 x2 x3 x4 x5 x6 x7 : Value) :
    Calls Tryd.prog 41 #[.int .u32 0, .agg #[x0, x1, x2, x3, x4, x5, x6, x7], .bool mine] w fun e w' => e = .returned (.tuple #[.pointer none, errv a 2]) ∧ Chg none_ w w' := by
  obtain ⟨w0, hw0⟩ : ∃ y, w.alloc (.cells #[x0, x1, x2, x3, x4, x5, x6, x7] 43) = y := ⟨_, rfl⟩
  have HC0 : Hid (Chg none_ w w0) := by show Chg _ _ _; rw [← hw0]; exact (Chg.refl none_ w).alloc _
  have hs0 : Sen B a w0 := hs.below (HC0.out.old hB)
  have h2 : w0.cell? ⟨4, 0, none⟩ = some (.iface 200 (.pointer (some (a 2)))) := hs0.cell 2 (by decide) (by decide)
  rw [show errv a 2 = .iface 200 (.pointer (some (a 2))) from rfl]
  clear hs hs0 hB
  go_enter Tryd.func41, Tryd.ntmps41
  go_wp2_with fail
  go_quiet (fail)
  go_wp2
  go_ret2
  exact ⟨rfl, HC0.out.drewN _⟩
set_option maxRecDepth 100000 in
set_option maxHeartbeats 1000000 in
theorem snew_no (w : World) (hs : Sen B a w) (hB : B ≤ w.heap.size) (id : Int) (mine : Bool) (W stage frame : Int) (x3 x4 x5 x6 x7 : Value) (h1 : 1 ≤ id) (hk : ¬ (1 ≤ W ∧ W ≤ 2147483647 ∧ 1 ≤ stage ∧ stage ≤ 1048576 ∧ 1 ≤ frame ∧ frame ≤ 65536)) :
    Calls Tryd.prog 41 #[.int .u32 id, .agg #[.int .i64 W, .int .i64 stage, .int .i64 frame, x3, x4, x5, x6, x7], .bool mine] w fun e w' => e = .returned (.tuple #[.pointer none, errv a 10]) ∧ Chg none_ w w' := by
  obtain ⟨w0, hw0⟩ : ∃ y, w.alloc (.cells #[.int .i64 W, .int .i64 stage, .int .i64 frame, x3, x4, x5, x6, x7] 43) = y := ⟨_, rfl⟩
  obtain ⟨r0, hr0⟩ : ∃ y, w.heap.size = y := ⟨_, rfl⟩
  have HC0 : Hid (Chg none_ w w0) := by show Chg _ _ _; rw [← hw0]; exact (Chg.refl none_ w).alloc _
  have HI0 : Hid (Is w0 r0 43 #[.int .i64 W, .int .i64 stage, .int .i64 frame, x3, x4, x5, x6, x7]) := by show Is _ _ _ _; rw [← hw0, ← hr0]; exact Is.new w _ _
  have HS0 : Hid (Sen B a w0) := hs.below (HC0.out.old hB)
  have h10 : w0.cell? ⟨10, 0, none⟩ = some (.iface 200 (.pointer (some (a 10)))) := HS0.out.cell 10 (by decide) (by decide)
  have k0 : w0.cell? ⟨r0, 0, none⟩ = some (.int .i64 W) := HI0.out.at_ 0 _ rfl
  have k1 : w0.cell? ⟨r0, 1, none⟩ = some (.int .i64 stage) := HI0.out.at_ 1 _ rfl
  have k2 : w0.cell? ⟨r0, 2, none⟩ = some (.int .i64 frame) := HI0.out.at_ 2 _ rfl
  have hid : ¬ id = 0 := by omega
  have HK := Lib.hid hk
  rw [show errv a 10 = .iface 200 (.pointer (some (a 10))) from rfl]
  clear hs hB h1 hk
  by_cases q1 : stage < 1
  · clear HK
    go_enter Tryd.func41, Tryd.ntmps41
    go_wp2_with fail
    go_quiet (fail)
    go_wp2
    go_ret2
    exact ⟨rfl, HC0.out.drewN _⟩
  · by_cases q2 : 1048576 < stage
    · clear HK
      go_enter Tryd.func41, Tryd.ntmps41
      go_wp2_with fail
      go_quiet (fail)
      go_wp2
      go_ret2
      exact ⟨rfl, HC0.out.drewN _⟩
    · by_cases q3 : frame < 1
      · clear HK
        go_enter Tryd.func41, Tryd.ntmps41
        go_wp2_with fail
        go_quiet (fail)
        go_wp2
        go_ret2
        exact ⟨rfl, HC0.out.drewN _⟩
      · by_cases q4 : 65536 < frame
        · clear HK
          go_enter Tryd.func41, Tryd.ntmps41
          go_wp2_with fail
          go_quiet (fail)
          go_wp2
          go_ret2
          exact ⟨rfl, HC0.out.drewN _⟩
        · have hW : Hid (W < 1 ∨ 2147483647 < W) := by show _ ∨ _; have := HK.out; omega
          clear HK
          go_enter Tryd.func41, Tryd.ntmps41
          go_wp2_with fail
          refine (crnew_no w0 HS0.out W hW.out).mono ?_
          rintro e w1 ⟨rfl, d1⟩
          rw [show errv a 2 = .iface 200 (.pointer (some (a 2))) from rfl]
          obtain ⟨q, rfl⟩ := d1
          go_wp2_with fail
          go_quiet (fail)
          go_wp2
          go_ret2
          exact ⟨rfl, (HC0.out.drewN _).drewN _⟩
end
end Go.Proofs.YthalmjjbamglgaaDoor
