/-
  place.Pick by contract.
  No condition of its own: the fact 'Sen' on the world; a slice of loads that reads as rows.
-/
import Derived.Test.YtgcodagjkbipbaaDoorPlLeast
namespace Go.Proofs.YtgcodagjkbipbaaDoor
open Go.RowKit

/-- The world with the four variables made. -/
theorem cap_new (w : World) (m : Int) :
    Cap4 ((((w.alloc (.cells #[.int .i64 m] 3)).alloc (.cells #[.bool false] 4)).alloc (.cells #[.bool false] 4)).alloc (.cells #[.bool false] 4)) w.heap.size (w.heap.size + 1) (w.heap.size + 1 + 1) (w.heap.size + 1 + 1 + 1) false false false m := by
  have s1 : (w.alloc (.cells #[.int .i64 m] 3)).heap.size = w.heap.size + 1 := by simp
  have s2 : ((w.alloc (.cells #[.int .i64 m] 3)).alloc (.cells #[.bool false] 4)).heap.size = w.heap.size + 1 + 1 := by simp
  have s3 : (((w.alloc (.cells #[.int .i64 m] 3)).alloc (.cells #[.bool false] 4)).alloc (.cells #[.bool false] 4)).heap.size = w.heap.size + 1 + 1 + 1 := by simp
  refine ⟨(((Is.new w _ _).alloc _).alloc _).alloc _, ?_, ?_, ?_⟩
  · have h := ((Is.new (w.alloc (.cells #[.int .i64 m] 3)) 4 #[.bool false]).alloc (.cells #[.bool false] 4)).alloc (.cells #[.bool false] 4)
    rwa [s1] at h
  · have h := (Is.new ((w.alloc (.cells #[.int .i64 m] 3)).alloc (.cells #[.bool false] 4)) 4 #[.bool false]).alloc (.cells #[.bool false] 4)
    rwa [s2] at h
  · have h := Is.new (((w.alloc (.cells #[.int .i64 m] 3)).alloc (.cells #[.bool false] 4)).alloc (.cells #[.bool false] 4)) 4 #[.bool false]
    rwa [s3] at h
theorem apart_new (N : Nat) : Apart4 N (N + 1) (N + 1 + 1) (N + 1 + 1 + 1) := ⟨by omega, by omega, by omega, by omega, by omega, by omega⟩

set_option maxRecDepth 100000 in
set_option maxHeartbeats 2000000 in
theorem pick_any {B : Nat} {a : Nat → Addr} (w : World) (hs : Sen B a w) (hB : B ≤ w.heap.size) (A : Option Addr) (n c : Nat) (L : Nat → Ld) (m : Int) (hm : n ≤ 4611686018427387904) (hr : Lds w A n L) :
    Calls Tryd.prog 38 #[.slice A n c, .int .i64 m] w fun e w' => e = .returned (.tuple #[.int .i64 (pkV L m n), errv a (pkC L m n)]) ∧ Chg none_ w w' := by
  have HC := Lib.hid (cap_new w m)
  have HG : Hid (Chg none_ w ((((w.alloc (.cells #[.int .i64 m] 3)).alloc (.cells #[.bool false] 4)).alloc (.cells #[.bool false] 4)).alloc (.cells #[.bool false] 4))) := ((((Chg.refl none_ w).alloc _).alloc _).alloc _).alloc _
  have HR : Hid (Lds ((((w.alloc (.cells #[.int .i64 m] 3)).alloc (.cells #[.bool false] 4)).alloc (.cells #[.bool false] 4)).alloc (.cells #[.bool false] 4)) A n L) := hr.chg (by decide) HG.out (fun _ _ _ f => f)
  have HS := Lib.hid hs
  have HL : Hid (∀ ad, 0 < n → A = some ad → ad.block < w.heap.size) := fun ad hn e => hr.lt (by decide) ad hn e
  clear hs hr
  go_enter Tryd.func38, Tryd.ntmps38
  go_wp2_with fail
  refine (least_any _ A n c L m hm HR.out _ _ _ _ (apart_new w.heap.size) HC.out (fun ad hn e h => by have := HL.out ad hn e; rcases h with h | h | h <;> omega)).mono ?_
  rintro e w1 ⟨rfl, hc1, hg1⟩
  have hG : Chg none_ w w1 := HG.out.then hg1 (fun b hb h => by rcases h with h | h | h <;> omega)
  have HG1 := Lib.hid hG
  have hS1 := HS.out.below (hG.old hB)
  have l1 := hc1.l1.at_ 0 _ rfl
  have l2 := hc1.o2.at_ 0 _ rfl
  have l3 := hc1.r3.at_ 0 _ rfl
  have k35 : w1.cell? ⟨7, 0, none⟩ = some (.iface 123 (.pointer (some (a 35)))) := hS1.cell 35 (by decide) (by decide)
  have k36 : w1.cell? ⟨8, 0, none⟩ = some (.iface 123 (.pointer (some (a 36)))) := hS1.cell 36 (by decide) (by decide)
  have k31 : w1.cell? ⟨9, 0, none⟩ = some (.iface 123 (.pointer (some (a 31)))) := hS1.cell 31 (by decide) (by decide)
  have k32 : w1.cell? ⟨2, 0, none⟩ = some (.iface 123 (.pointer (some (a 32)))) := hS1.cell 32 (by decide) (by decide)
  clear hS1 hc1 hg1 hG
  cases hb : bst L m n with
  | some p =>
    have hv : pkV L m n = (p : Int) := by unfold pkV; rw [hb]
    have hc : pkC L m n = 0 := by unfold pkC; rw [hb]
    have HV := Lib.hid (And.intro hv hc)
    have hat : atV (some p) = (p : Int) := rfl
    rw [hat]
    have hp0 : decide ((0 : Int) ≤ (p : Int)) = true := by simp
    clear hv hc hat hb
    go_wp2
    go_ret2
    exact ⟨by rw [HV.out.1, HV.out.2]; rfl, HG1.out⟩
  | none =>
    have hv : pkV L m n = 0 := by unfold pkV; rw [hb]
    have hc : pkC L m n = if lvB L n = false then 35 else if opB L n = false then 36 else if rmB L m n = false then 31 else 32 := by unfold pkC; rw [hb]
    have HV := Lib.hid hv
    have hat : atV none = -1 := rfl
    rw [hat]
    clear hv hat hb
    cases h1 : lvB L n with
    | false =>
      rw [h1] at l1 hc
      clear h1
      rw [if_pos rfl] at hc
      have HQ := Lib.hid hc
      clear hc
      go_wp2
      go_quiet (fail)
      go_wp2
      go_ret2
      exact ⟨by rw [HV.out, HQ.out]; rfl, HG1.out.drewN _⟩
    | true =>
      rw [h1] at l1 hc
      clear h1
      rw [if_neg (by decide)] at hc
      cases h2 : opB L n with
      | false =>
        rw [h2] at l2 hc
        clear h2
        rw [if_pos rfl] at hc
        have HQ := Lib.hid hc
        clear hc
        go_wp2
        go_quiet (fail)
        go_wp2
        go_ret2
        exact ⟨by rw [HV.out, HQ.out]; rfl, HG1.out.drewN _⟩
      | true =>
        rw [h2] at l2 hc
        clear h2
        rw [if_neg (by decide)] at hc
        cases h3 : rmB L m n with
        | false =>
          rw [h3] at l3 hc
          clear h3
          rw [if_pos rfl] at hc
          have HQ := Lib.hid hc
          clear hc
          go_wp2
          go_quiet (fail)
          go_wp2
          go_ret2
          exact ⟨by rw [HV.out, HQ.out]; rfl, HG1.out.drewN _⟩
        | true =>
          rw [h3] at l3 hc
          clear h3
          rw [if_neg (by decide)] at hc
          have HQ := Lib.hid hc
          clear hc
          go_wp2
          go_quiet (fail)
          go_wp2
          go_ret2
          exact ⟨by rw [HV.out, HQ.out]; rfl, HG1.out.drewN _⟩
end Go.Proofs.YtgcodagjkbipbaaDoor
