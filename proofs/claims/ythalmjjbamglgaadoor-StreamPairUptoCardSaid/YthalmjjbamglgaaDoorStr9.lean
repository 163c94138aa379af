/-
  culvertlaw10.awake by contract.
  No condition of its own: the facts 'Sen' and 'Tab' on the world.
-/
import Derived.Test.YthalmjjbamglgaaDoorStr8
import Derived.Lib.SlBytesConst
namespace Go.Proofs.YthalmjjbamglgaaDoor
open Go.RowKit

section
variable {B : Nat} {a : Nat → Addr}
set_option maxRecDepth 100000 in
set_option maxHeartbeats 4000000 in
theorem awake10_any (w : World) (hs : Sen B a w) (ht : Tab B w) (hB : B ≤ w.heap.size) :
    Calls Tryd.prog 16 #[] w fun e w' => e = .returned (.bool true) ∧ Chg none_ w w' := by
  have HS := Lib.hid hs
  have HT := Lib.hid ht
  have HB := Lib.hid hB
  clear hs ht hB
  have kcc := fun (w : World) (C : Array Value) (n c : Nat) => Lib.run_convert_bytes_const (P := Tryd.prog) w 23 5 C n c Tryd.underlying23 Tryd.underlying5
  go_enter Tryd.func16, Tryd.ntmps16
  go_wp2_with fail
  refine (small_any w).mono ?_
  rintro e w1 ⟨rfl, c1⟩
  have HC1 := Lib.hid c1
  have HS1 : Hid (Sen B a w1 ∧ Tab B w1 ∧ B ≤ w1.heap.size) := ⟨HS.out.below (c1.old HB.out), HT.out.below (c1.old HB.out), Nat.le_trans HB.out c1.size⟩
  clear c1
  go_wp2_with fail
  refine (snew_ok w1 HS1.out.1 HS1.out.2.1 HS1.out.2.2 5 true 4 6 3 _ _ _ _ _ (by decide) (by decide) (by decide) (by decide) (by decide) (by decide) (by decide) (by decide)).mono ?_
  rintro e w2 ⟨g, rfl, p1, p2⟩
  have HP2 := Lib.hid p1.cut
  have HC2 := Lib.hid p2
  have HS2 : Hid (Sen B a w2 ∧ Tab B w2 ∧ B ≤ w2.heap.size) := ⟨HS1.out.1.below (p2.old HS1.out.2.2), HS1.out.2.1.below (p2.old HS1.out.2.2), Nat.le_trans HS1.out.2.2 p2.size⟩
  clear p1 p2
  go_wp2_with fail
  have HC3 : Hid (Chg none_ w2 (w2.alloc (.cells #[.int .u8 97, .int .u8 98] 5 (2, 3)))) := (Chg.refl none_ w2).alloc _
  have HZ3 : Hid (w2.heap.size < (w2.alloc (.cells #[.int .u8 97, .int .u8 98] 5 (2, 3))).heap.size) := by show _ < _; simp
  have HV3 : Hid (BsO (w2.alloc (.cells #[.int .u8 97, .int .u8 98] 5 (2, 3))) (.slice (some ⟨w2.heap.size, 0, none⟩) 2 2) [97, 98]) := by
    refine ⟨_, 2, 2, rfl, rfl, (by intro z hz; simp at hz; omega), Nat.le_refl _, fun _ => ⟨w2.heap.size, rfl, fun i hi => ?_⟩⟩
    rw [cell_of_row _ _ i _ _ _ (heap_alloc_new w2 _)]
    match i, hi with
    | 0, _ => rfl
    | 1, _ => rfl
  refine (write_any _ (HS2.out.1.below (HC3.out.old HS2.out.2.2)) (T := fun k => (w1.heap.size ≤ k ∧ k < w2.heap.size) ∨ (w2.alloc (.cells #[.int .u8 97, .int .u8 98] 5 (2, 3))).heap.size ≤ k) ((HP2.out.keep HC3.out).wide fun k hk => .inl hk) (fun k hk => .inr hk) _ [97, 98] HV3.out (fun k hk => by
    have e : k = w2.heap.size := by simpa [rdk, eq_comm] using hk
    have := HZ3.out
    exact ⟨by omega, fun h => by omega⟩) (by decide)).mono ?_
  rintro e w4 ⟨rfl, p1, p2⟩
  rw [show wrN (Sm.new 5 true 4 6 3) [97, 98] = 2 from by decide, show wrC (Sm.new 5 true 4 6 3) = 0 from by decide, show errv a 0 = Value.nilIface from rfl]
  have HP4 := Lib.hid p1.cut
  have HCw4 : Hid (Chg none_ w1 w4) := (HC2.out.trans HC3.out).then p2 fun k hk h => by have := HC3.out.size; have := HC2.out.size; omega
  have HS4 : Hid (Sen B a w4 ∧ Tab B w4 ∧ B ≤ w4.heap.size) := ⟨HS1.out.1.below (HCw4.out.old HS1.out.2.2), HS1.out.2.1.below (HCw4.out.old HS1.out.2.2), Nat.le_trans HS1.out.2.2 HCw4.out.size⟩
  clear p1 p2
  go_wp2_with fail
  refine (sframe_yes w4 HS4.out.1 HS4.out.2.1 HS4.out.2.2 HP4.out (fun k hk => by have := HS1.out.2.2; have := HC3.out.size; have := HC2.out.size; omega) (by decide)).mono ?_
  rintro e w5 ⟨v, rfl, p1, p2, p3⟩
  rw [show frK (wrS (Sm.new 5 true 4 6 3) [97, 98]) = 2 from by decide] at p1 ⊢
  rw [show frE (wrS (Sm.new 5 true 4 6 3) [97, 98]) = false from by decide]
  have p1' : Ob w5 w4.heap.size 5 v 2 (([97, 98] : List Int).map (Value.int .u8)) := p1
  obtain ⟨A5, c5, rfl, _, _⟩ := p1'.slice
  have HO5 := Lib.hid p1'
  have HCw5 : Hid (Chg none_ w1 w5) := HCw4.out.then p3 fun k hk h => by have := HC3.out.size; have := HC2.out.size; omega
  clear p1 p2 p3 p1'
  have kc : ∀ o : Obj, ∀ dst, Tryd.prog.underlying dst = some .string → (convert 23 dst (.slice A5 2 c5)).run Tryd.prog (w5.alloc o) = .ok (.string ⟨#[97, 98]⟩) (w5.alloc o) := fun o => by
    have h := run_str (P := Tryd.prog) (w := w5.alloc o) (c := c5) (n := 2) (A := A5) (xs := [97, 98]) 23 5 Tryd.underlying23 Tryd.underlying5 rfl ((HO5.out.chg ((Chg.refl none_ w5).alloc o) fun _ _ f => f).rd (fun i hi => ints_get hi) rfl)
    rw [show strOfNums [97, 98] = ⟨#[97, 98]⟩ from rfl] at h
    exact h
  unfold frV
  go_wp2
  go_ret
  exact ⟨rfl, (HC1.out.trans HCw5.out).alloc _⟩
end
end Go.Proofs.YthalmjjbamglgaaDoor
