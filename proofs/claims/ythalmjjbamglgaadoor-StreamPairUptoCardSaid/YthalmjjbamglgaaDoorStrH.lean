/-
  culvertlaw10.Begin by contract.
  No condition of its own: the facts 'Sen' and 'Tab' on the world.
-/
import Derived.Test.YthalmjjbamglgaaDoorStrG
import Derived.Test.YthalmjjbamglgaaDoorStrE
import Derived.Test.YthalmjjbamglgaaDoorG1
import Derived.Deep.RegionHeld3
namespace Go.Proofs.YthalmjjbamglgaaDoor
open Go.RowKit

def prC0 (g h : Nat) : Array Value := #[.pointer (some ⟨g, 0, none⟩), .pointer (some ⟨h, 0, none⟩), .int .u32 1, .int .i64 4, .int .i64 6, .int .i64 3, .bool true, .bool false, .slice none 0 0, .bool false, .bool false, .int .i64 4, .slice none 0 0, .int .i64 4, .int .i64 0, .bool false, .bool false, .bool false, .bool false, .int .u32 2, .int .i64 4, .int .i64 6, .int .i64 3, .bool false, .bool false, .slice none 0 0, .bool false, .bool false, .int .i64 4, .slice none 0 0, .int .i64 4, .int .i64 0, .bool false, .bool false, .bool false, .bool false, .bool false, .bool false]
section
variable {B : Nat} {a : Nat → Addr}
set_option maxRecDepth 100000 in
set_option maxHeartbeats 2000000 in
theorem begin_any (w : World) (hs : Sen B a w) (ht : Tab B w) (hB : B ≤ w.heap.size) :
    Calls Tryd.prog 17 #[] w fun e w' => ∃ p g h, e = .returned (.tuple #[.pointer (some ⟨p, 0, none⟩), .bool true]) ∧ w.heap.size ≤ p ∧
      Is w' p 55 (prC0 g h) ∧ Two w' (p + 1) g h (Sm.new 1 true 4 6 3) (Sm.new 2 false 4 6 3) ∧ Chg none_ w w' := by
  have HS := Lib.hid hs
  have HT := Lib.hid ht
  have HB := Lib.hid hB
  clear hs ht hB
  obtain ⟨w1, hw1⟩ : ∃ y, w.alloc (.cells #[.pointer none, .pointer none, .int .u32 0, .int .i64 0, .int .i64 0, .int .i64 0, .bool false, .bool false, .slice none 0 0, .bool false, .bool false, .int .i64 0, .slice none 0 0, .int .i64 0, .int .i64 0, .bool false, .bool false, .bool false, .bool false, .int .u32 0, .int .i64 0, .int .i64 0, .int .i64 0, .bool false, .bool false, .slice none 0 0, .bool false, .bool false, .int .i64 0, .slice none 0 0, .int .i64 0, .int .i64 0, .bool false, .bool false, .bool false, .bool false, .bool false, .bool false] 55) = y := ⟨_, rfl⟩
  have HC1 : Hid (Chg none_ w w1) := by show Chg _ _ _; rw [← hw1]; exact (Chg.refl none_ w).alloc _
  obtain ⟨p, hp⟩ : ∃ y, w.heap.size = y := ⟨_, rfl⟩
  have HI1 : Hid (Is w1 p 55 #[.pointer none, .pointer none, .int .u32 0, .int .i64 0, .int .i64 0, .int .i64 0, .bool false, .bool false, .slice none 0 0, .bool false, .bool false, .int .i64 0, .slice none 0 0, .int .i64 0, .int .i64 0, .bool false, .bool false, .bool false, .bool false, .int .u32 0, .int .i64 0, .int .i64 0, .int .i64 0, .bool false, .bool false, .slice none 0 0, .bool false, .bool false, .int .i64 0, .slice none 0 0, .int .i64 0, .int .i64 0, .bool false, .bool false, .bool false, .bool false, .bool false, .bool false]) := by show Is _ _ _ _; rw [← hw1, ← hp]; exact Is.new w _ _
  have HS1 : Hid (Sen B a w1 ∧ Tab B w1 ∧ B ≤ w1.heap.size) := ⟨HS.out.below (HC1.out.old HB.out), HT.out.below (HC1.out.old HB.out), Nat.le_trans HB.out HC1.out.size⟩
  go_enter Tryd.func17, Tryd.ntmps17
  go_wp2_with fail
  refine wp_loop_rounds 3 ?_
  rw [rounds_succ]
  go_wp2_with fail
  have HBp : Hid (B ≤ p) := by show _ ≤ _; rw [← hp]; exact HB.out
  have HPw : Hid (w.heap.size = p) := hp
  clear hw1 hp
  refine (small_any w1).mono ?_
  rintro e wa0 ⟨rfl, c01⟩
  have HIa0 : Hid (Is wa0 p 55 #[.pointer none, .pointer none, .int .u32 0, .int .i64 0, .int .i64 0, .int .i64 0, .bool false, .bool false, .slice none 0 0, .bool false, .bool false, .int .i64 0, .slice none 0 0, .int .i64 0, .int .i64 0, .bool false, .bool false, .bool false, .bool false, .int .u32 0, .int .i64 0, .int .i64 0, .int .i64 0, .bool false, .bool false, .slice none 0 0, .bool false, .bool false, .int .i64 0, .slice none 0 0, .int .i64 0, .int .i64 0, .bool false, .bool false, .bool false, .bool false, .bool false, .bool false]) := HI1.out.chg c01 fun f => f
  have HSa0 : Hid (Sen B a wa0 ∧ Tab B wa0 ∧ B ≤ wa0.heap.size) := ⟨HS1.out.1.below (c01.old HS1.out.2.2), HS1.out.2.1.below (c01.old HS1.out.2.2), Nat.le_trans HS1.out.2.2 c01.size⟩
  have HCa0 := Lib.hid c01
  clear c01
  go_wp2_with fail
  refine (snew_ok wa0 HSa0.out.1 HSa0.out.2.1 HSa0.out.2.2 1 true 4 6 3 _ _ _ _ _ (by decide) (by decide) (by decide) (by decide) (by decide) (by decide) (by decide) (by decide)).mono ?_
  rintro e wb0 ⟨g, rfl, p01, p02⟩
  have HP0 := Lib.hid p01.cut
  have HCb0 := Lib.hid p02
  have HIb0 : Hid (Is wb0 p 55 #[.pointer none, .pointer none, .int .u32 0, .int .i64 0, .int .i64 0, .int .i64 0, .bool false, .bool false, .slice none 0 0, .bool false, .bool false, .int .i64 0, .slice none 0 0, .int .i64 0, .int .i64 0, .bool false, .bool false, .bool false, .bool false, .int .u32 0, .int .i64 0, .int .i64 0, .int .i64 0, .bool false, .bool false, .slice none 0 0, .bool false, .bool false, .int .i64 0, .slice none 0 0, .int .i64 0, .int .i64 0, .bool false, .bool false, .bool false, .bool false, .bool false, .bool false]) := HIa0.out.chg p02 fun f => f
  have fz0 : ∀ j, wb0.frozen? ⟨p, j, none⟩ = false := fun j => HIb0.out.frozen j
  have z0 : wb0.cell? ⟨p, 0, none⟩ = some (.pointer none) := HIb0.out.at_ 0 _ rfl
  clear p01 p02
  have HCs0 : Hid (Chg (fun k => k = p) wb0 (wb0.setCell ⟨p, 0, none⟩ (.pointer (some ⟨g, 0, none⟩)))) := (Chg.refl (fun k => k = p) wb0).setCell (p := ⟨p, 0, none⟩) (fun _ => rfl) _
  have HIc0 : Hid (Is (wb0.setCell ⟨p, 0, none⟩ (.pointer (some ⟨g, 0, none⟩))) p 55 #[.pointer (some ⟨g, 0, none⟩), .pointer none, .int .u32 0, .int .i64 0, .int .i64 0, .int .i64 0, .bool false, .bool false, .slice none 0 0, .bool false, .bool false, .int .i64 0, .slice none 0 0, .int .i64 0, .int .i64 0, .bool false, .bool false, .bool false, .bool false, .int .u32 0, .int .i64 0, .int .i64 0, .int .i64 0, .bool false, .bool false, .slice none 0 0, .bool false, .bool false, .int .i64 0, .slice none 0 0, .int .i64 0, .int .i64 0, .bool false, .bool false, .bool false, .bool false, .bool false, .bool false]) := HIb0.out.put 0 _
  go_wp2_with fail
  go_region_held3 (fun _ => True)
    (trivial)
    (first
      | (go_at_call 49; refine (small_any _).mono ?_; rintro e wc0 ⟨rfl, c03⟩)
      | (go_at_call 50; refine (qnew_ok _ 1 true 4 6 3 _ _ _ _ _ (by decide) (by decide) (by decide) (by decide) (by decide) (by decide) (by decide)).mono ?_; rintro e wd0 ⟨rfl, c04⟩; unfold rfNew
         have HId0 : Hid (Is wd0 p 55 #[.pointer (some ⟨g, 0, none⟩), .pointer none, .int .u32 0, .int .i64 0, .int .i64 0, .int .i64 0, .bool false, .bool false, .slice none 0 0, .bool false, .bool false, .int .i64 0, .slice none 0 0, .int .i64 0, .int .i64 0, .bool false, .bool false, .bool false, .bool false, .int .u32 0, .int .i64 0, .int .i64 0, .int .i64 0, .bool false, .bool false, .slice none 0 0, .bool false, .bool false, .int .i64 0, .slice none 0 0, .int .i64 0, .int .i64 0, .bool false, .bool false, .bool false, .bool false, .bool false, .bool false]) := ((HIc0.out.drewN 1).chg c03 fun f => f).chg c04 fun f => f
         have gz0 : ∀ j, wd0.frozen? ⟨p, j, none⟩ = false := fun j => HId0.out.frozen j
         have z2 : wd0.cell? ⟨p, 2, none⟩ = some (.int .u32 0) := HId0.out.at_ 2 _ rfl
         have z3 : wd0.cell? ⟨p, 3, none⟩ = some (.int .i64 0) := HId0.out.at_ 3 _ rfl
         have z4 : wd0.cell? ⟨p, 4, none⟩ = some (.int .i64 0) := HId0.out.at_ 4 _ rfl
         have z5 : wd0.cell? ⟨p, 5, none⟩ = some (.int .i64 0) := HId0.out.at_ 5 _ rfl
         have z6 : wd0.cell? ⟨p, 6, none⟩ = some (.bool false) := HId0.out.at_ 6 _ rfl
         have z7 : wd0.cell? ⟨p, 7, none⟩ = some (.bool false) := HId0.out.at_ 7 _ rfl
         have z8 : wd0.cell? ⟨p, 8, none⟩ = some (.slice none 0 0) := HId0.out.at_ 8 _ rfl
         have z9 : wd0.cell? ⟨p, 9, none⟩ = some (.bool false) := HId0.out.at_ 9 _ rfl
         have z10 : wd0.cell? ⟨p, 10, none⟩ = some (.bool false) := HId0.out.at_ 10 _ rfl
         have z11 : wd0.cell? ⟨p, 11, none⟩ = some (.int .i64 0) := HId0.out.at_ 11 _ rfl
         have z12 : wd0.cell? ⟨p, 12, none⟩ = some (.slice none 0 0) := HId0.out.at_ 12 _ rfl
         have z13 : wd0.cell? ⟨p, 13, none⟩ = some (.int .i64 0) := HId0.out.at_ 13 _ rfl
         have z14 : wd0.cell? ⟨p, 14, none⟩ = some (.int .i64 0) := HId0.out.at_ 14 _ rfl
         have z15 : wd0.cell? ⟨p, 15, none⟩ = some (.bool false) := HId0.out.at_ 15 _ rfl
         have z16 : wd0.cell? ⟨p, 16, none⟩ = some (.bool false) := HId0.out.at_ 16 _ rfl
         have z17 : wd0.cell? ⟨p, 17, none⟩ = some (.bool false) := HId0.out.at_ 17 _ rfl
         have z18 : wd0.cell? ⟨p, 18, none⟩ = some (.bool false) := HId0.out.at_ 18 _ rfl))
  obtain ⟨wf0, hwf0⟩ : ∃ y, stores wd0 p 2 [.int .u32 1, .int .i64 4, .int .i64 6, .int .i64 3, .bool true, .bool false, .slice none 0 0, .bool false, .bool false, .int .i64 4, .slice none 0 0, .int .i64 4, .int .i64 0, .bool false, .bool false, .bool false, .bool false] = y := ⟨_, rfl⟩
  have HIf0 : Hid (Is wf0 p 55 #[.pointer (some ⟨g, 0, none⟩), .pointer none, .int .u32 1, .int .i64 4, .int .i64 6, .int .i64 3, .bool true, .bool false, .slice none 0 0, .bool false, .bool false, .int .i64 4, .slice none 0 0, .int .i64 4, .int .i64 0, .bool false, .bool false, .bool false, .bool false, .int .u32 0, .int .i64 0, .int .i64 0, .int .i64 0, .bool false, .bool false, .slice none 0 0, .bool false, .bool false, .int .i64 0, .slice none 0 0, .int .i64 0, .int .i64 0, .bool false, .bool false, .bool false, .bool false, .bool false, .bool false]) := by
    show Is _ _ _ _
    rw [← hwf0]
    have hst := HId0.out.stores 2 [.int .u32 1, .int .i64 4, .int .i64 6, .int .i64 3, .bool true, .bool false, .slice none 0 0, .bool false, .bool false, .int .i64 4, .slice none 0 0, .int .i64 4, .int .i64 0, .bool false, .bool false, .bool false, .bool false]
    rw [show puts #[.pointer (some ⟨g, 0, none⟩), .pointer none, .int .u32 0, .int .i64 0, .int .i64 0, .int .i64 0, .bool false, .bool false, .slice none 0 0, .bool false, .bool false, .int .i64 0, .slice none 0 0, .int .i64 0, .int .i64 0, .bool false, .bool false, .bool false, .bool false, .int .u32 0, .int .i64 0, .int .i64 0, .int .i64 0, .bool false, .bool false, .slice none 0 0, .bool false, .bool false, .int .i64 0, .slice none 0 0, .int .i64 0, .int .i64 0, .bool false, .bool false, .bool false, .bool false, .bool false, .bool false] 2 [.int .u32 1, .int .i64 4, .int .i64 6, .int .i64 3, .bool true, .bool false, .slice none 0 0, .bool false, .bool false, .int .i64 4, .slice none 0 0, .int .i64 4, .int .i64 0, .bool false, .bool false, .bool false, .bool false] = #[.pointer (some ⟨g, 0, none⟩), .pointer none, .int .u32 1, .int .i64 4, .int .i64 6, .int .i64 3, .bool true, .bool false, .slice none 0 0, .bool false, .bool false, .int .i64 4, .slice none 0 0, .int .i64 4, .int .i64 0, .bool false, .bool false, .bool false, .bool false, .int .u32 0, .int .i64 0, .int .i64 0, .int .i64 0, .bool false, .bool false, .slice none 0 0, .bool false, .bool false, .int .i64 0, .slice none 0 0, .int .i64 0, .int .i64 0, .bool false, .bool false, .bool false, .bool false, .bool false, .bool false] from by simp [puts]] at hst
    exact hst
  have HCf0 : Hid (Chg (fun k => k = p) wb0 wf0) := by
    show Chg _ _ _
    rw [← hwf0]
    have hst := ((HCs0.out.drew).trans (c03.more fun _ _ f => f.elim)).trans (c04.more fun _ _ f => f.elim)
    exact hst.stores (fun _ => rfl) 2 _
  rw [show (((((((((((((((((wd0.setCell ⟨p, 2, none⟩ (.int .u32 1)).setCell ⟨p, 3, none⟩ (.int .i64 4)).setCell ⟨p, 4, none⟩ (.int .i64 6)).setCell ⟨p, 5, none⟩ (.int .i64 3)).setCell ⟨p, 6, none⟩ (.bool true)).setCell ⟨p, 7, none⟩ (.bool false)).setCell ⟨p, 8, none⟩ (.slice none 0 0)).setCell ⟨p, 9, none⟩ (.bool false)).setCell ⟨p, 10, none⟩ (.bool false)).setCell ⟨p, 11, none⟩ (.int .i64 4)).setCell ⟨p, 12, none⟩ (.slice none 0 0)).setCell ⟨p, 13, none⟩ (.int .i64 4)).setCell ⟨p, 14, none⟩ (.int .i64 0)).setCell ⟨p, 15, none⟩ (.bool false)).setCell ⟨p, 16, none⟩ (.bool false)).setCell ⟨p, 17, none⟩ (.bool false)).setCell ⟨p, 18, none⟩ (.bool false)) = wf0 from hwf0]
  clear hwf0 c03 c04 HId0 HIc0 HCs0 HIb0 gz0 fz0 z0 z2 z3 z4 z5 z6 z7 z8 z9 z10 z11 z12 z13 z14 z15 z16 z17 z18
  have HG0 : Hid (Chg (fun k => k = p) w1 wf0) := by
    show Chg _ _ _
    exact ((HCa0.out.trans HCb0.out).more fun _ _ f => f.elim).trans HCf0.out
  have HSf0 : Hid (Sen B a wf0 ∧ Tab B wf0 ∧ B ≤ wf0.heap.size) := by
    show _ ∧ _ ∧ _
    have hb := HG0.out.below (B := B) (fun q _ e => by rw [e]; exact HBp.out) HS1.out.2.2
    exact ⟨HS1.out.1.below hb, HS1.out.2.1.below hb, Nat.le_trans HS1.out.2.2 HG0.out.size⟩
  go_wp2_with fail
  rw [rounds_succ]
  go_wp2_with fail
  refine (small_any wf0).mono ?_
  rintro e wa1 ⟨rfl, c11⟩
  have HIa1 : Hid (Is wa1 p 55 #[.pointer (some ⟨g, 0, none⟩), .pointer none, .int .u32 1, .int .i64 4, .int .i64 6, .int .i64 3, .bool true, .bool false, .slice none 0 0, .bool false, .bool false, .int .i64 4, .slice none 0 0, .int .i64 4, .int .i64 0, .bool false, .bool false, .bool false, .bool false, .int .u32 0, .int .i64 0, .int .i64 0, .int .i64 0, .bool false, .bool false, .slice none 0 0, .bool false, .bool false, .int .i64 0, .slice none 0 0, .int .i64 0, .int .i64 0, .bool false, .bool false, .bool false, .bool false, .bool false, .bool false]) := HIf0.out.chg c11 fun f => f
  have HSa1 : Hid (Sen B a wa1 ∧ Tab B wa1 ∧ B ≤ wa1.heap.size) := ⟨HSf0.out.1.below (c11.old HSf0.out.2.2), HSf0.out.2.1.below (c11.old HSf0.out.2.2), Nat.le_trans HSf0.out.2.2 c11.size⟩
  have HCa1 := Lib.hid c11
  clear c11
  go_wp2_with fail
  refine (snew_ok wa1 HSa1.out.1 HSa1.out.2.1 HSa1.out.2.2 2 false 4 6 3 _ _ _ _ _ (by decide) (by decide) (by decide) (by decide) (by decide) (by decide) (by decide) (by decide)).mono ?_
  rintro e wb1 ⟨h, rfl, p11, p12⟩
  have HP1 := Lib.hid p11.cut
  have HCb1 := Lib.hid p12
  have HIb1 : Hid (Is wb1 p 55 #[.pointer (some ⟨g, 0, none⟩), .pointer none, .int .u32 1, .int .i64 4, .int .i64 6, .int .i64 3, .bool true, .bool false, .slice none 0 0, .bool false, .bool false, .int .i64 4, .slice none 0 0, .int .i64 4, .int .i64 0, .bool false, .bool false, .bool false, .bool false, .int .u32 0, .int .i64 0, .int .i64 0, .int .i64 0, .bool false, .bool false, .slice none 0 0, .bool false, .bool false, .int .i64 0, .slice none 0 0, .int .i64 0, .int .i64 0, .bool false, .bool false, .bool false, .bool false, .bool false, .bool false]) := HIa1.out.chg p12 fun f => f
  have fz1 : ∀ j, wb1.frozen? ⟨p, j, none⟩ = false := fun j => HIb1.out.frozen j
  have z1 : wb1.cell? ⟨p, 1, none⟩ = some (.pointer none) := HIb1.out.at_ 1 _ rfl
  clear p11 p12
  have HCs1 : Hid (Chg (fun k => k = p) wb1 (wb1.setCell ⟨p, 1, none⟩ (.pointer (some ⟨h, 0, none⟩)))) := (Chg.refl (fun k => k = p) wb1).setCell (p := ⟨p, 1, none⟩) (fun _ => rfl) _
  have HIc1 : Hid (Is (wb1.setCell ⟨p, 1, none⟩ (.pointer (some ⟨h, 0, none⟩))) p 55 #[.pointer (some ⟨g, 0, none⟩), .pointer (some ⟨h, 0, none⟩), .int .u32 1, .int .i64 4, .int .i64 6, .int .i64 3, .bool true, .bool false, .slice none 0 0, .bool false, .bool false, .int .i64 4, .slice none 0 0, .int .i64 4, .int .i64 0, .bool false, .bool false, .bool false, .bool false, .int .u32 0, .int .i64 0, .int .i64 0, .int .i64 0, .bool false, .bool false, .slice none 0 0, .bool false, .bool false, .int .i64 0, .slice none 0 0, .int .i64 0, .int .i64 0, .bool false, .bool false, .bool false, .bool false, .bool false, .bool false]) := HIb1.out.put 1 _
  go_wp2_with fail
  go_region_held3 (fun _ => True)
    (trivial)
    (first
      | (go_at_call 49; refine (small_any _).mono ?_; rintro e wc1 ⟨rfl, c13⟩)
      | (go_at_call 50; refine (qnew_ok _ 2 false 4 6 3 _ _ _ _ _ (by decide) (by decide) (by decide) (by decide) (by decide) (by decide) (by decide)).mono ?_; rintro e wd1 ⟨rfl, c14⟩; unfold rfNew
         have HId1 : Hid (Is wd1 p 55 #[.pointer (some ⟨g, 0, none⟩), .pointer (some ⟨h, 0, none⟩), .int .u32 1, .int .i64 4, .int .i64 6, .int .i64 3, .bool true, .bool false, .slice none 0 0, .bool false, .bool false, .int .i64 4, .slice none 0 0, .int .i64 4, .int .i64 0, .bool false, .bool false, .bool false, .bool false, .int .u32 0, .int .i64 0, .int .i64 0, .int .i64 0, .bool false, .bool false, .slice none 0 0, .bool false, .bool false, .int .i64 0, .slice none 0 0, .int .i64 0, .int .i64 0, .bool false, .bool false, .bool false, .bool false, .bool false, .bool false]) := ((HIc1.out.drewN 1).chg c13 fun f => f).chg c14 fun f => f
         have gz1 : ∀ j, wd1.frozen? ⟨p, j, none⟩ = false := fun j => HId1.out.frozen j
         have z19 : wd1.cell? ⟨p, 19, none⟩ = some (.int .u32 0) := HId1.out.at_ 19 _ rfl
         have z20 : wd1.cell? ⟨p, 20, none⟩ = some (.int .i64 0) := HId1.out.at_ 20 _ rfl
         have z21 : wd1.cell? ⟨p, 21, none⟩ = some (.int .i64 0) := HId1.out.at_ 21 _ rfl
         have z22 : wd1.cell? ⟨p, 22, none⟩ = some (.int .i64 0) := HId1.out.at_ 22 _ rfl
         have z23 : wd1.cell? ⟨p, 23, none⟩ = some (.bool false) := HId1.out.at_ 23 _ rfl
         have z24 : wd1.cell? ⟨p, 24, none⟩ = some (.bool false) := HId1.out.at_ 24 _ rfl
         have z25 : wd1.cell? ⟨p, 25, none⟩ = some (.slice none 0 0) := HId1.out.at_ 25 _ rfl
         have z26 : wd1.cell? ⟨p, 26, none⟩ = some (.bool false) := HId1.out.at_ 26 _ rfl
         have z27 : wd1.cell? ⟨p, 27, none⟩ = some (.bool false) := HId1.out.at_ 27 _ rfl
         have z28 : wd1.cell? ⟨p, 28, none⟩ = some (.int .i64 0) := HId1.out.at_ 28 _ rfl
         have z29 : wd1.cell? ⟨p, 29, none⟩ = some (.slice none 0 0) := HId1.out.at_ 29 _ rfl
         have z30 : wd1.cell? ⟨p, 30, none⟩ = some (.int .i64 0) := HId1.out.at_ 30 _ rfl
         have z31 : wd1.cell? ⟨p, 31, none⟩ = some (.int .i64 0) := HId1.out.at_ 31 _ rfl
         have z32 : wd1.cell? ⟨p, 32, none⟩ = some (.bool false) := HId1.out.at_ 32 _ rfl
         have z33 : wd1.cell? ⟨p, 33, none⟩ = some (.bool false) := HId1.out.at_ 33 _ rfl
         have z34 : wd1.cell? ⟨p, 34, none⟩ = some (.bool false) := HId1.out.at_ 34 _ rfl
         have z35 : wd1.cell? ⟨p, 35, none⟩ = some (.bool false) := HId1.out.at_ 35 _ rfl))
  obtain ⟨wf1, hwf1⟩ : ∃ y, stores wd1 p 19 [.int .u32 2, .int .i64 4, .int .i64 6, .int .i64 3, .bool false, .bool false, .slice none 0 0, .bool false, .bool false, .int .i64 4, .slice none 0 0, .int .i64 4, .int .i64 0, .bool false, .bool false, .bool false, .bool false] = y := ⟨_, rfl⟩
  have HIf1 : Hid (Is wf1 p 55 #[.pointer (some ⟨g, 0, none⟩), .pointer (some ⟨h, 0, none⟩), .int .u32 1, .int .i64 4, .int .i64 6, .int .i64 3, .bool true, .bool false, .slice none 0 0, .bool false, .bool false, .int .i64 4, .slice none 0 0, .int .i64 4, .int .i64 0, .bool false, .bool false, .bool false, .bool false, .int .u32 2, .int .i64 4, .int .i64 6, .int .i64 3, .bool false, .bool false, .slice none 0 0, .bool false, .bool false, .int .i64 4, .slice none 0 0, .int .i64 4, .int .i64 0, .bool false, .bool false, .bool false, .bool false, .bool false, .bool false]) := by
    show Is _ _ _ _
    rw [← hwf1]
    have hst := HId1.out.stores 19 [.int .u32 2, .int .i64 4, .int .i64 6, .int .i64 3, .bool false, .bool false, .slice none 0 0, .bool false, .bool false, .int .i64 4, .slice none 0 0, .int .i64 4, .int .i64 0, .bool false, .bool false, .bool false, .bool false]
    rw [show puts #[.pointer (some ⟨g, 0, none⟩), .pointer (some ⟨h, 0, none⟩), .int .u32 1, .int .i64 4, .int .i64 6, .int .i64 3, .bool true, .bool false, .slice none 0 0, .bool false, .bool false, .int .i64 4, .slice none 0 0, .int .i64 4, .int .i64 0, .bool false, .bool false, .bool false, .bool false, .int .u32 0, .int .i64 0, .int .i64 0, .int .i64 0, .bool false, .bool false, .slice none 0 0, .bool false, .bool false, .int .i64 0, .slice none 0 0, .int .i64 0, .int .i64 0, .bool false, .bool false, .bool false, .bool false, .bool false, .bool false] 19 [.int .u32 2, .int .i64 4, .int .i64 6, .int .i64 3, .bool false, .bool false, .slice none 0 0, .bool false, .bool false, .int .i64 4, .slice none 0 0, .int .i64 4, .int .i64 0, .bool false, .bool false, .bool false, .bool false] = #[.pointer (some ⟨g, 0, none⟩), .pointer (some ⟨h, 0, none⟩), .int .u32 1, .int .i64 4, .int .i64 6, .int .i64 3, .bool true, .bool false, .slice none 0 0, .bool false, .bool false, .int .i64 4, .slice none 0 0, .int .i64 4, .int .i64 0, .bool false, .bool false, .bool false, .bool false, .int .u32 2, .int .i64 4, .int .i64 6, .int .i64 3, .bool false, .bool false, .slice none 0 0, .bool false, .bool false, .int .i64 4, .slice none 0 0, .int .i64 4, .int .i64 0, .bool false, .bool false, .bool false, .bool false, .bool false, .bool false] from by simp [puts]] at hst
    exact hst
  have HCf1 : Hid (Chg (fun k => k = p) wb1 wf1) := by
    show Chg _ _ _
    rw [← hwf1]
    have hst := ((HCs1.out.drew).trans (c13.more fun _ _ f => f.elim)).trans (c14.more fun _ _ f => f.elim)
    exact hst.stores (fun _ => rfl) 19 _
  rw [show (((((((((((((((((wd1.setCell ⟨p, 19, none⟩ (.int .u32 2)).setCell ⟨p, 20, none⟩ (.int .i64 4)).setCell ⟨p, 21, none⟩ (.int .i64 6)).setCell ⟨p, 22, none⟩ (.int .i64 3)).setCell ⟨p, 23, none⟩ (.bool false)).setCell ⟨p, 24, none⟩ (.bool false)).setCell ⟨p, 25, none⟩ (.slice none 0 0)).setCell ⟨p, 26, none⟩ (.bool false)).setCell ⟨p, 27, none⟩ (.bool false)).setCell ⟨p, 28, none⟩ (.int .i64 4)).setCell ⟨p, 29, none⟩ (.slice none 0 0)).setCell ⟨p, 30, none⟩ (.int .i64 4)).setCell ⟨p, 31, none⟩ (.int .i64 0)).setCell ⟨p, 32, none⟩ (.bool false)).setCell ⟨p, 33, none⟩ (.bool false)).setCell ⟨p, 34, none⟩ (.bool false)).setCell ⟨p, 35, none⟩ (.bool false)) = wf1 from hwf1]
  clear hwf1 c13 c14 HId1 HIc1 HCs1 HIb1 gz1 fz1 z1 z19 z20 z21 z22 z23 z24 z25 z26 z27 z28 z29 z30 z31 z32 z33 z34 z35
  have HG1 : Hid (Chg (fun k => k = p) wf0 wf1) := by
    show Chg _ _ _
    exact ((HCa1.out.trans HCb1.out).more fun _ _ f => f.elim).trans HCf1.out
  go_wp2_with fail
  rw [rounds_succ]
  go_wp2_with fail
  go_ret2
  have l0 := HIa0.out.lt
  have z1 := HCb0.out.size
  have z2 := HCf0.out.size
  have z3 := HCa1.out.size
  have z4 := HCb1.out.size
  have z5 := HCf1.out.size
  have y0 : Pst wf0 (fun k => wa0.heap.size ≤ k ∧ k < wb0.heap.size) g (Sm.new 1 true 4 6 3) := HP0.out.chg HCf0.out fun k hk _ e => by omega
  have y1 : Pst wf1 (fun k => wa0.heap.size ≤ k ∧ k < wb0.heap.size) g (Sm.new 1 true 4 6 3) := ((y0.keep HCa1.out).keep HCb1.out).chg HCf1.out fun k hk _ e => by omega
  have y2 : Pst wf1 (fun k => wa1.heap.size ≤ k ∧ k < wb1.heap.size) h (Sm.new 2 false 4 6 3) := HP1.out.chg HCf1.out fun k hk _ e => by omega
  have hP := HPw.out
  refine ⟨p, g, h, rfl, by omega, HIf1.out, ⟨by omega, _, _, y1, y2, fun k hk hu => by omega, fun k hk => by omega, fun k hk => by omega⟩, (HC1.out.then HG0.out fun k hk e => by omega).then HG1.out fun k hk e => by omega⟩
end
end Go.Proofs.YthalmjjbamglgaaDoor
