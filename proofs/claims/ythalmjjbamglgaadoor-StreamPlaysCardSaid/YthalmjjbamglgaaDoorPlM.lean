/-
  culvertlaw10.Pair.Step by contract, kind by kind.
  No condition of its own: the facts 'Sen' and 'Tab' on the world; everything lawful (Pri).
-/
import Derived.Test.YthalmjjbamglgaaDoorPlP
import Derived.Test.YthalmjjbamglgaaDoorPlI
import Derived.Test.YthalmjjbamglgaaDoorPlT
import Derived.Test.YthalmjjbamglgaaDoorPlC
import Derived.Test.YthalmjjbamglgaaDoorPlW
import Derived.Test.YthalmjjbamglgaaDoorPlL
import Derived.Test.YthalmjjbamglgaaDoorPlF
import Derived.Deep.RegionHeld3
namespace Go.Proofs.YthalmjjbamglgaaDoor
open Go.RowKit
set_option linter.unusedSimpArgs false
set_option linter.unusedVariables false
theorem x17_upd {x : Nat → Value} (h : X17 x) {a : Nat} {y : Value} (hy : ∃ u : List Value, u.length = 17 ∧ y.cells.toList = u ∧ y = .agg u.toArray ∧ u.all (·.oneCell') = true) : X17 (upd x a y) := fun i hi => by
  by_cases e : i = a
  · subst e
    rw [upd_at]
    exact hy
  · rw [upd_ne x y e]
    exact h i hi
theorem szP : (Tryd.prog.info? 48).map (·.size) = some 1 := by kernel_rfl
theorem szBo : (Tryd.prog.info? 4).map (·.size) = some 1 := by kernel_rfl
theorem szOp : (Tryd.prog.info? 45).map (·.size) = some 14 := by kernel_rfl
theorem u32_bounds (x : Int) : 0 ≤ IntKind.u32.wrap x ∧ IntKind.u32.wrap x ≤ 4294967295 := by
  have h : IntKind.u32.wrap x = x % 4294967296 := rfl
  rw [h]
  omega
section
variable {B : Nat} {A : Nat → Addr}
set_option maxRecDepth 100000 in
set_option maxHeartbeats 4000000 in
theorem step_calls (w : World) {L g : Nat} {T : Nat → Nat → Prop} {p x : Nat → Value} {n : Nat → Bool} {s : Nat → Sm} (h : Pri w L g T p x n s) (hs : Sen B A w) (ht : Tab B w) (hBL : B ≤ L) (kd xx nn : Int) (A2 : Option Addr) (len cap : Nat) (dl : Int) (fl : Bool) (c0 c1 c2 c3 c4 c5 c6 c7 : Int) {a : Nat} (ha : a < 2) (hbits : bits .and .i64 xx 1 = (a : Int)) (k2 : 2 ≤ kd) (k5 : kd ≤ 5) (hC : ∀ w1, Chg none_ w w1 → Pri w1 L g T p x n s → Sen B A w1 → Tab B w1 → Calls Tryd.prog 52 #[.pointer (some ⟨g, 0, none⟩), .agg #[.int .i64 kd, .int .i64 xx, .int .i64 nn, .slice A2 len cap, .int .u32 dl, .bool fl, .int .i64 c0, .int .i64 c1, .int .i64 c2, .int .i64 c3, .int .i64 c4, .int .i64 c5, .int .i64 c6, .int .i64 c7]] w1 fun e w' => e = .returned (.bool true) ∧ Inv w' L g ∧ Chg (fun k => L ≤ k) w1 w') :
    Calls Tryd.prog 18 #[.pointer (some ⟨g, 0, none⟩), .agg #[.int .i64 kd, .int .i64 xx, .int .i64 nn, .slice A2 len cap, .int .u32 dl, .bool fl, .int .i64 c0, .int .i64 c1, .int .i64 c2, .int .i64 c3, .int .i64 c4, .int .i64 c5, .int .i64 c6, .int .i64 c7]] w fun e w' => e = .returned (.bool true) ∧ Inv w' L g ∧ Chg (fun k => L ≤ k) w w' := by
  have HCC := Lib.hid hC
  clear hC
  have n1 : (kd == 1) = false := by simp; omega
  have n12 : (kd == 12) = false := by simp; omega
  have H := Lib.hid h
  have HA := Lib.hid ha
  have ha0 : (0 : Int) ≤ (a : Int) := by omega
  have ha2 : (a : Int) < 2 := by omega
  have hB : B ≤ w.heap.size := Nat.le_trans hBL (Nat.le_trans h.hL (Nat.le_of_lt h.im.lt))
  have HS := Lib.hid (And.intro hs (And.intro ht (And.intro hBL hB)))
  clear h hs ht hBL hB ha
  obtain ⟨w1, hw1⟩ : ∃ y, w.alloc (.cells #[.int .i64 kd, .int .i64 xx, .int .i64 nn, .slice A2 len cap, .int .u32 dl, .bool fl, .int .i64 c0, .int .i64 c1, .int .i64 c2, .int .i64 c3, .int .i64 c4, .int .i64 c5, .int .i64 c6, .int .i64 c7] 45) = y := ⟨_, rfl⟩
  have HIo : Hid (Is w1 w.heap.size 45 #[.int .i64 kd, .int .i64 xx, .int .i64 nn, .slice A2 len cap, .int .u32 dl, .bool fl, .int .i64 c0, .int .i64 c1, .int .i64 c2, .int .i64 c3, .int .i64 c4, .int .i64 c5, .int .i64 c6, .int .i64 c7]) := by
    show Is _ _ _ _
    rw [← hw1]
    exact Is.new w _ _
  have HC1 : Hid (Chg none_ w w1) := by
    show Chg _ _ _
    rw [← hw1]
    exact (Chg.refl none_ w).alloc _
  have H1 := Lib.hid (H.out.keep HC1.out)
  have HS1 : Hid (Sen B A w1 ∧ Tab B w1 ∧ B ≤ w1.heap.size) := ⟨HS.out.1.below (HC1.out.old HS.out.2.2.2), HS.out.2.1.below (HC1.out.old HS.out.2.2.2), Nat.le_trans HS.out.2.2.2 HC1.out.size⟩
  obtain ⟨rb, hrb⟩ : ∃ y, w.heap.size = y := ⟨_, rfl⟩
  rw [hrb] at HIo
  have o0 : w1.cell? ⟨rb, 0, none⟩ = some (.int .i64 kd) := HIo.out.at_ 0 _ rfl
  have o1 : w1.cell? ⟨rb, 1, none⟩ = some (.int .i64 xx) := HIo.out.at_ 1 _ rfl
  have o2 : w1.cell? ⟨rb, 2, none⟩ = some (.int .i64 nn) := HIo.out.at_ 2 _ rfl
  have o3 : w1.cell? ⟨rb, 3, none⟩ = some (.slice A2 len cap) := HIo.out.at_ 3 _ rfl
  have o4 : w1.cell? ⟨rb, 4, none⟩ = some (.int .u32 dl) := HIo.out.at_ 4 _ rfl
  have o5 : w1.cell? ⟨rb, 5, none⟩ = some (.bool fl) := HIo.out.at_ 5 _ rfl
  have o6 : w1.cell? ⟨rb, 6, none⟩ = some (.int .i64 c0) := HIo.out.at_ 6 _ rfl
  have o7 : w1.cell? ⟨rb, 7, none⟩ = some (.int .i64 c1) := HIo.out.at_ 7 _ rfl
  have o8 : w1.cell? ⟨rb, 8, none⟩ = some (.int .i64 c2) := HIo.out.at_ 8 _ rfl
  have o9 : w1.cell? ⟨rb, 9, none⟩ = some (.int .i64 c3) := HIo.out.at_ 9 _ rfl
  have o10 : w1.cell? ⟨rb, 10, none⟩ = some (.int .i64 c4) := HIo.out.at_ 10 _ rfl
  have o11 : w1.cell? ⟨rb, 11, none⟩ = some (.int .i64 c5) := HIo.out.at_ 11 _ rfl
  have o12 : w1.cell? ⟨rb, 12, none⟩ = some (.int .i64 c6) := HIo.out.at_ 12 _ rfl
  have o13 : w1.cell? ⟨rb, 13, none⟩ = some (.int .i64 c7) := HIo.out.at_ 13 _ rfl
  go_enter Tryd.func18, Tryd.ntmps18
  go_wp2_with fail
  refine (HCC.out w1 HC1.out H1.out HS1.out.1 HS1.out.2.1).mono ?_
  rintro e w2 ⟨rfl, i2, c2⟩
  have HE := Lib.hid (And.intro i2 c2)
  clear i2 c2
  go_wp2
  go_ret
  exact ⟨rfl, HE.out.1, (HC1.out.more fun _ _ f => f.elim).trans HE.out.2⟩
set_option maxRecDepth 100000 in
set_option maxHeartbeats 4000000 in
theorem step_wire (w : World) {L g : Nat} {T : Nat → Nat → Prop} {p x : Nat → Value} {n : Nat → Bool} {s : Nat → Sm} (h : Pri w L g T p x n s) (hs : Sen B A w) (ht : Tab B w) (hBL : B ≤ L) (kd xx nn : Int) (A2 : Option Addr) (len cap : Nat) (dl : Int) (fl : Bool) (c0 c1 c2 c3 c4 c5 c6 c7 : Int) {a : Nat} (ha : a < 2) (hbits : bits .and .i64 xx 1 = (a : Int)) (k6 : 6 ≤ kd) (k10 : kd ≤ 10) (hC : ∀ w1, Chg none_ w w1 → Pri w1 L g T p x n s → Sen B A w1 → Tab B w1 → Calls Tryd.prog 53 #[.pointer (some ⟨g, 0, none⟩), .agg #[.int .i64 kd, .int .i64 xx, .int .i64 nn, .slice A2 len cap, .int .u32 dl, .bool fl, .int .i64 c0, .int .i64 c1, .int .i64 c2, .int .i64 c3, .int .i64 c4, .int .i64 c5, .int .i64 c6, .int .i64 c7]] w1 fun e w' => e = .returned (.bool true) ∧ Inv w' L g ∧ Chg (fun k => L ≤ k) w1 w') :
    Calls Tryd.prog 18 #[.pointer (some ⟨g, 0, none⟩), .agg #[.int .i64 kd, .int .i64 xx, .int .i64 nn, .slice A2 len cap, .int .u32 dl, .bool fl, .int .i64 c0, .int .i64 c1, .int .i64 c2, .int .i64 c3, .int .i64 c4, .int .i64 c5, .int .i64 c6, .int .i64 c7]] w fun e w' => e = .returned (.bool true) ∧ Inv w' L g ∧ Chg (fun k => L ≤ k) w w' := by
  have HCC := Lib.hid hC
  clear hC
  have n1 : (kd == 1) = false := by simp; omega
  have n12 : (kd == 12) = false := by simp; omega
  have n5 : ¬ kd ≤ 5 := by omega
  have n2 : 2 ≤ kd := by omega
  have H := Lib.hid h
  have HA := Lib.hid ha
  have ha0 : (0 : Int) ≤ (a : Int) := by omega
  have ha2 : (a : Int) < 2 := by omega
  have hB : B ≤ w.heap.size := Nat.le_trans hBL (Nat.le_trans h.hL (Nat.le_of_lt h.im.lt))
  have HS := Lib.hid (And.intro hs (And.intro ht (And.intro hBL hB)))
  clear h hs ht hBL hB ha
  obtain ⟨w1, hw1⟩ : ∃ y, w.alloc (.cells #[.int .i64 kd, .int .i64 xx, .int .i64 nn, .slice A2 len cap, .int .u32 dl, .bool fl, .int .i64 c0, .int .i64 c1, .int .i64 c2, .int .i64 c3, .int .i64 c4, .int .i64 c5, .int .i64 c6, .int .i64 c7] 45) = y := ⟨_, rfl⟩
  have HIo : Hid (Is w1 w.heap.size 45 #[.int .i64 kd, .int .i64 xx, .int .i64 nn, .slice A2 len cap, .int .u32 dl, .bool fl, .int .i64 c0, .int .i64 c1, .int .i64 c2, .int .i64 c3, .int .i64 c4, .int .i64 c5, .int .i64 c6, .int .i64 c7]) := by
    show Is _ _ _ _
    rw [← hw1]
    exact Is.new w _ _
  have HC1 : Hid (Chg none_ w w1) := by
    show Chg _ _ _
    rw [← hw1]
    exact (Chg.refl none_ w).alloc _
  have H1 := Lib.hid (H.out.keep HC1.out)
  have HS1 : Hid (Sen B A w1 ∧ Tab B w1 ∧ B ≤ w1.heap.size) := ⟨HS.out.1.below (HC1.out.old HS.out.2.2.2), HS.out.2.1.below (HC1.out.old HS.out.2.2.2), Nat.le_trans HS.out.2.2.2 HC1.out.size⟩
  obtain ⟨rb, hrb⟩ : ∃ y, w.heap.size = y := ⟨_, rfl⟩
  rw [hrb] at HIo
  have o0 : w1.cell? ⟨rb, 0, none⟩ = some (.int .i64 kd) := HIo.out.at_ 0 _ rfl
  have o1 : w1.cell? ⟨rb, 1, none⟩ = some (.int .i64 xx) := HIo.out.at_ 1 _ rfl
  have o2 : w1.cell? ⟨rb, 2, none⟩ = some (.int .i64 nn) := HIo.out.at_ 2 _ rfl
  have o3 : w1.cell? ⟨rb, 3, none⟩ = some (.slice A2 len cap) := HIo.out.at_ 3 _ rfl
  have o4 : w1.cell? ⟨rb, 4, none⟩ = some (.int .u32 dl) := HIo.out.at_ 4 _ rfl
  have o5 : w1.cell? ⟨rb, 5, none⟩ = some (.bool fl) := HIo.out.at_ 5 _ rfl
  have o6 : w1.cell? ⟨rb, 6, none⟩ = some (.int .i64 c0) := HIo.out.at_ 6 _ rfl
  have o7 : w1.cell? ⟨rb, 7, none⟩ = some (.int .i64 c1) := HIo.out.at_ 7 _ rfl
  have o8 : w1.cell? ⟨rb, 8, none⟩ = some (.int .i64 c2) := HIo.out.at_ 8 _ rfl
  have o9 : w1.cell? ⟨rb, 9, none⟩ = some (.int .i64 c3) := HIo.out.at_ 9 _ rfl
  have o10 : w1.cell? ⟨rb, 10, none⟩ = some (.int .i64 c4) := HIo.out.at_ 10 _ rfl
  have o11 : w1.cell? ⟨rb, 11, none⟩ = some (.int .i64 c5) := HIo.out.at_ 11 _ rfl
  have o12 : w1.cell? ⟨rb, 12, none⟩ = some (.int .i64 c6) := HIo.out.at_ 12 _ rfl
  have o13 : w1.cell? ⟨rb, 13, none⟩ = some (.int .i64 c7) := HIo.out.at_ 13 _ rfl
  go_enter Tryd.func18, Tryd.ntmps18
  go_wp2_with fail
  refine (HCC.out w1 HC1.out H1.out HS1.out.1 HS1.out.2.1).mono ?_
  rintro e w2 ⟨rfl, i2, c2⟩
  have HE := Lib.hid (And.intro i2 c2)
  clear i2 c2
  go_wp2
  go_ret
  exact ⟨rfl, HE.out.1, (HC1.out.more fun _ _ f => f.elim).trans HE.out.2⟩
set_option maxRecDepth 100000 in
set_option maxHeartbeats 4000000 in
theorem step_look (w : World) {L g : Nat} {T : Nat → Nat → Prop} {p x : Nat → Value} {n : Nat → Bool} {s : Nat → Sm} (h : Pri w L g T p x n s) (hs : Sen B A w) (ht : Tab B w) (hBL : B ≤ L) (kd xx nn : Int) (A2 : Option Addr) (len cap : Nat) (dl : Int) (fl : Bool) (c0 c1 c2 c3 c4 c5 c6 c7 : Int) {a : Nat} (ha : a < 2) (hbits : bits .and .i64 xx 1 = (a : Int)) (e1 : ¬ kd = 1) (e12 : ¬ kd = 12) (k : ¬ (2 ≤ kd ∧ kd ≤ 10)) :
    Calls Tryd.prog 18 #[.pointer (some ⟨g, 0, none⟩), .agg #[.int .i64 kd, .int .i64 xx, .int .i64 nn, .slice A2 len cap, .int .u32 dl, .bool fl, .int .i64 c0, .int .i64 c1, .int .i64 c2, .int .i64 c3, .int .i64 c4, .int .i64 c5, .int .i64 c6, .int .i64 c7]] w fun e w' => e = .returned (.bool true) ∧ Inv w' L g ∧ Chg (fun k => L ≤ k) w w' := by
  have HK := Lib.hid k
  clear k
  rcases (show kd < 2 ∨ 10 < kd by have := HK.out; omega) with kk | kk
  · have n2 : ¬ 2 ≤ kd := by omega
    have n6 : ¬ 6 ≤ kd := by omega
    clear HK kk
    have n1 : (kd == 1) = false := by simp; exact e1
    have n12 : (kd == 12) = false := by simp; exact e12
    have H := Lib.hid h
    have HA := Lib.hid ha
    have ha0 : (0 : Int) ≤ (a : Int) := by omega
    have ha2 : (a : Int) < 2 := by omega
    have hB : B ≤ w.heap.size := Nat.le_trans hBL (Nat.le_trans h.hL (Nat.le_of_lt h.im.lt))
    have HS := Lib.hid (And.intro hs (And.intro ht (And.intro hBL hB)))
    clear h hs ht hBL hB ha
    obtain ⟨w1, hw1⟩ : ∃ y, w.alloc (.cells #[.int .i64 kd, .int .i64 xx, .int .i64 nn, .slice A2 len cap, .int .u32 dl, .bool fl, .int .i64 c0, .int .i64 c1, .int .i64 c2, .int .i64 c3, .int .i64 c4, .int .i64 c5, .int .i64 c6, .int .i64 c7] 45) = y := ⟨_, rfl⟩
    have HIo : Hid (Is w1 w.heap.size 45 #[.int .i64 kd, .int .i64 xx, .int .i64 nn, .slice A2 len cap, .int .u32 dl, .bool fl, .int .i64 c0, .int .i64 c1, .int .i64 c2, .int .i64 c3, .int .i64 c4, .int .i64 c5, .int .i64 c6, .int .i64 c7]) := by
      show Is _ _ _ _
      rw [← hw1]
      exact Is.new w _ _
    have HC1 : Hid (Chg none_ w w1) := by
      show Chg _ _ _
      rw [← hw1]
      exact (Chg.refl none_ w).alloc _
    have H1 := Lib.hid (H.out.keep HC1.out)
    have HS1 : Hid (Sen B A w1 ∧ Tab B w1 ∧ B ≤ w1.heap.size) := ⟨HS.out.1.below (HC1.out.old HS.out.2.2.2), HS.out.2.1.below (HC1.out.old HS.out.2.2.2), Nat.le_trans HS.out.2.2.2 HC1.out.size⟩
    obtain ⟨rb, hrb⟩ : ∃ y, w.heap.size = y := ⟨_, rfl⟩
    rw [hrb] at HIo
    have o0 : w1.cell? ⟨rb, 0, none⟩ = some (.int .i64 kd) := HIo.out.at_ 0 _ rfl
    have o1 : w1.cell? ⟨rb, 1, none⟩ = some (.int .i64 xx) := HIo.out.at_ 1 _ rfl
    have o2 : w1.cell? ⟨rb, 2, none⟩ = some (.int .i64 nn) := HIo.out.at_ 2 _ rfl
    have o3 : w1.cell? ⟨rb, 3, none⟩ = some (.slice A2 len cap) := HIo.out.at_ 3 _ rfl
    have o4 : w1.cell? ⟨rb, 4, none⟩ = some (.int .u32 dl) := HIo.out.at_ 4 _ rfl
    have o5 : w1.cell? ⟨rb, 5, none⟩ = some (.bool fl) := HIo.out.at_ 5 _ rfl
    have o6 : w1.cell? ⟨rb, 6, none⟩ = some (.int .i64 c0) := HIo.out.at_ 6 _ rfl
    have o7 : w1.cell? ⟨rb, 7, none⟩ = some (.int .i64 c1) := HIo.out.at_ 7 _ rfl
    have o8 : w1.cell? ⟨rb, 8, none⟩ = some (.int .i64 c2) := HIo.out.at_ 8 _ rfl
    have o9 : w1.cell? ⟨rb, 9, none⟩ = some (.int .i64 c3) := HIo.out.at_ 9 _ rfl
    have o10 : w1.cell? ⟨rb, 10, none⟩ = some (.int .i64 c4) := HIo.out.at_ 10 _ rfl
    have o11 : w1.cell? ⟨rb, 11, none⟩ = some (.int .i64 c5) := HIo.out.at_ 11 _ rfl
    have o12 : w1.cell? ⟨rb, 12, none⟩ = some (.int .i64 c6) := HIo.out.at_ 12 _ rfl
    have o13 : w1.cell? ⟨rb, 13, none⟩ = some (.int .i64 c7) := HIo.out.at_ 13 _ rfl
    go_enter Tryd.func18, Tryd.ntmps18
    go_wp2_with fail
    all_goals (
      refine (looks_any w1 H1.out HS1.out.1 HS1.out.2.1 HS.out.2.2.1 HA.out).mono ?_
      rintro e w2 ⟨rfl, c2⟩
      have HE := Lib.hid c2
      clear c2
      go_wp2
      go_ret
      exact ⟨rfl, ⟨_, _, _, _, _, H1.out.keep HE.out⟩, (HC1.out.trans HE.out).more fun _ _ f => f.elim⟩)
  · have n2 : 2 ≤ kd := by omega
    have n5 : ¬ kd ≤ 5 := by omega
    have n6 : 6 ≤ kd := by omega
    have n10 : ¬ kd ≤ 10 := by omega
    clear HK kk
    have n1 : (kd == 1) = false := by simp; exact e1
    have n12 : (kd == 12) = false := by simp; exact e12
    have H := Lib.hid h
    have HA := Lib.hid ha
    have ha0 : (0 : Int) ≤ (a : Int) := by omega
    have ha2 : (a : Int) < 2 := by omega
    have hB : B ≤ w.heap.size := Nat.le_trans hBL (Nat.le_trans h.hL (Nat.le_of_lt h.im.lt))
    have HS := Lib.hid (And.intro hs (And.intro ht (And.intro hBL hB)))
    clear h hs ht hBL hB ha
    obtain ⟨w1, hw1⟩ : ∃ y, w.alloc (.cells #[.int .i64 kd, .int .i64 xx, .int .i64 nn, .slice A2 len cap, .int .u32 dl, .bool fl, .int .i64 c0, .int .i64 c1, .int .i64 c2, .int .i64 c3, .int .i64 c4, .int .i64 c5, .int .i64 c6, .int .i64 c7] 45) = y := ⟨_, rfl⟩
    have HIo : Hid (Is w1 w.heap.size 45 #[.int .i64 kd, .int .i64 xx, .int .i64 nn, .slice A2 len cap, .int .u32 dl, .bool fl, .int .i64 c0, .int .i64 c1, .int .i64 c2, .int .i64 c3, .int .i64 c4, .int .i64 c5, .int .i64 c6, .int .i64 c7]) := by
      show Is _ _ _ _
      rw [← hw1]
      exact Is.new w _ _
    have HC1 : Hid (Chg none_ w w1) := by
      show Chg _ _ _
      rw [← hw1]
      exact (Chg.refl none_ w).alloc _
    have H1 := Lib.hid (H.out.keep HC1.out)
    have HS1 : Hid (Sen B A w1 ∧ Tab B w1 ∧ B ≤ w1.heap.size) := ⟨HS.out.1.below (HC1.out.old HS.out.2.2.2), HS.out.2.1.below (HC1.out.old HS.out.2.2.2), Nat.le_trans HS.out.2.2.2 HC1.out.size⟩
    obtain ⟨rb, hrb⟩ : ∃ y, w.heap.size = y := ⟨_, rfl⟩
    rw [hrb] at HIo
    have o0 : w1.cell? ⟨rb, 0, none⟩ = some (.int .i64 kd) := HIo.out.at_ 0 _ rfl
    have o1 : w1.cell? ⟨rb, 1, none⟩ = some (.int .i64 xx) := HIo.out.at_ 1 _ rfl
    have o2 : w1.cell? ⟨rb, 2, none⟩ = some (.int .i64 nn) := HIo.out.at_ 2 _ rfl
    have o3 : w1.cell? ⟨rb, 3, none⟩ = some (.slice A2 len cap) := HIo.out.at_ 3 _ rfl
    have o4 : w1.cell? ⟨rb, 4, none⟩ = some (.int .u32 dl) := HIo.out.at_ 4 _ rfl
    have o5 : w1.cell? ⟨rb, 5, none⟩ = some (.bool fl) := HIo.out.at_ 5 _ rfl
    have o6 : w1.cell? ⟨rb, 6, none⟩ = some (.int .i64 c0) := HIo.out.at_ 6 _ rfl
    have o7 : w1.cell? ⟨rb, 7, none⟩ = some (.int .i64 c1) := HIo.out.at_ 7 _ rfl
    have o8 : w1.cell? ⟨rb, 8, none⟩ = some (.int .i64 c2) := HIo.out.at_ 8 _ rfl
    have o9 : w1.cell? ⟨rb, 9, none⟩ = some (.int .i64 c3) := HIo.out.at_ 9 _ rfl
    have o10 : w1.cell? ⟨rb, 10, none⟩ = some (.int .i64 c4) := HIo.out.at_ 10 _ rfl
    have o11 : w1.cell? ⟨rb, 11, none⟩ = some (.int .i64 c5) := HIo.out.at_ 11 _ rfl
    have o12 : w1.cell? ⟨rb, 12, none⟩ = some (.int .i64 c6) := HIo.out.at_ 12 _ rfl
    have o13 : w1.cell? ⟨rb, 13, none⟩ = some (.int .i64 c7) := HIo.out.at_ 13 _ rfl
    go_enter Tryd.func18, Tryd.ntmps18
    go_wp2_with fail
    all_goals (
      refine (looks_any w1 H1.out HS1.out.1 HS1.out.2.1 HS.out.2.2.1 HA.out).mono ?_
      rintro e w2 ⟨rfl, c2⟩
      have HE := Lib.hid c2
      clear c2
      go_wp2
      go_ret
      exact ⟨rfl, ⟨_, _, _, _, _, H1.out.keep HE.out⟩, (HC1.out.trans HE.out).more fun _ _ f => f.elim⟩)
set_option maxRecDepth 100000 in
set_option maxHeartbeats 4000000 in
theorem step_nil (w : World) {L g : Nat} {T : Nat → Nat → Prop} {p x : Nat → Value} {n : Nat → Bool} {s : Nat → Sm} (h : Pri w L g T p x n s) (hs : Sen B A w) (ht : Tab B w) (hBL : B ≤ L) (xx nn : Int) (A2 : Option Addr) (len cap : Nat) (dl : Int) (fl : Bool) (c0 c1 c2 c3 c4 c5 c6 c7 : Int) {a : Nat} (ha : a < 2) (hbits : bits .and .i64 xx 1 = (a : Int)) :
    Calls Tryd.prog 18 #[.pointer (some ⟨g, 0, none⟩), .agg #[.int .i64 12, .int .i64 xx, .int .i64 nn, .slice A2 len cap, .int .u32 dl, .bool fl, .int .i64 c0, .int .i64 c1, .int .i64 c2, .int .i64 c3, .int .i64 c4, .int .i64 c5, .int .i64 c6, .int .i64 c7]] w fun e w' => e = .returned (.bool true) ∧ Inv w' L g ∧ Chg (fun k => L ≤ k) w w' := by
  have H := Lib.hid h
  have HA := Lib.hid ha
  have ha0 : (0 : Int) ≤ (a : Int) := by omega
  have ha2 : (a : Int) < 2 := by omega
  have hB : B ≤ w.heap.size := Nat.le_trans hBL (Nat.le_trans h.hL (Nat.le_of_lt h.im.lt))
  have HS := Lib.hid (And.intro hs (And.intro ht (And.intro hBL hB)))
  clear h hs ht hBL hB ha
  obtain ⟨w1, hw1⟩ : ∃ y, w.alloc (.cells #[.int .i64 12, .int .i64 xx, .int .i64 nn, .slice A2 len cap, .int .u32 dl, .bool fl, .int .i64 c0, .int .i64 c1, .int .i64 c2, .int .i64 c3, .int .i64 c4, .int .i64 c5, .int .i64 c6, .int .i64 c7] 45) = y := ⟨_, rfl⟩
  have HIo : Hid (Is w1 w.heap.size 45 #[.int .i64 12, .int .i64 xx, .int .i64 nn, .slice A2 len cap, .int .u32 dl, .bool fl, .int .i64 c0, .int .i64 c1, .int .i64 c2, .int .i64 c3, .int .i64 c4, .int .i64 c5, .int .i64 c6, .int .i64 c7]) := by
    show Is _ _ _ _
    rw [← hw1]
    exact Is.new w _ _
  have HC1 : Hid (Chg none_ w w1) := by
    show Chg _ _ _
    rw [← hw1]
    exact (Chg.refl none_ w).alloc _
  have H1 := Lib.hid (H.out.keep HC1.out)
  have HS1 : Hid (Sen B A w1 ∧ Tab B w1 ∧ B ≤ w1.heap.size) := ⟨HS.out.1.below (HC1.out.old HS.out.2.2.2), HS.out.2.1.below (HC1.out.old HS.out.2.2.2), Nat.le_trans HS.out.2.2.2 HC1.out.size⟩
  obtain ⟨rb, hrb⟩ : ∃ y, w.heap.size = y := ⟨_, rfl⟩
  rw [hrb] at HIo
  have o0 : w1.cell? ⟨rb, 0, none⟩ = some (.int .i64 12) := HIo.out.at_ 0 _ rfl
  have o1 : w1.cell? ⟨rb, 1, none⟩ = some (.int .i64 xx) := HIo.out.at_ 1 _ rfl
  have o2 : w1.cell? ⟨rb, 2, none⟩ = some (.int .i64 nn) := HIo.out.at_ 2 _ rfl
  have o3 : w1.cell? ⟨rb, 3, none⟩ = some (.slice A2 len cap) := HIo.out.at_ 3 _ rfl
  have o4 : w1.cell? ⟨rb, 4, none⟩ = some (.int .u32 dl) := HIo.out.at_ 4 _ rfl
  have o5 : w1.cell? ⟨rb, 5, none⟩ = some (.bool fl) := HIo.out.at_ 5 _ rfl
  have o6 : w1.cell? ⟨rb, 6, none⟩ = some (.int .i64 c0) := HIo.out.at_ 6 _ rfl
  have o7 : w1.cell? ⟨rb, 7, none⟩ = some (.int .i64 c1) := HIo.out.at_ 7 _ rfl
  have o8 : w1.cell? ⟨rb, 8, none⟩ = some (.int .i64 c2) := HIo.out.at_ 8 _ rfl
  have o9 : w1.cell? ⟨rb, 9, none⟩ = some (.int .i64 c3) := HIo.out.at_ 9 _ rfl
  have o10 : w1.cell? ⟨rb, 10, none⟩ = some (.int .i64 c4) := HIo.out.at_ 10 _ rfl
  have o11 : w1.cell? ⟨rb, 11, none⟩ = some (.int .i64 c5) := HIo.out.at_ 11 _ rfl
  have o12 : w1.cell? ⟨rb, 12, none⟩ = some (.int .i64 c6) := HIo.out.at_ 12 _ rfl
  have o13 : w1.cell? ⟨rb, 13, none⟩ = some (.int .i64 c7) := HIo.out.at_ 13 _ rfl
  go_enter Tryd.func18, Tryd.ntmps18
  go_wp2_with fail
  refine wp_region_held_drew (S := fun u => True) (by kernel_rfl) trivial (fun hS0 => ?_)
  refine take_at 73 (i := 0) (v := .pointer (some ⟨g, 0, none⟩)) rfl (by kernel_rfl) (by kernel_rfl) (by kernel_rfl) (by kernel_rfl) (fun _ _ _ h => h) (Or.inl ⟨by kernel_rfl, by intro u hSw; (try dsimp only at hSw); go_simp⟩) (by assumption) ?_
  try simp only [Act.put, List.setIfInBounds_toArray, List.set_cons_zero, List.set_cons_succ]
  refine take_at 74 (i := 1) (v := .int .i64 (a : Int)) rfl (by kernel_rfl) (by kernel_rfl) (by kernel_rfl) (by kernel_rfl) (fun _ _ _ h => h) (Or.inl ⟨by kernel_rfl, by intro u hSw; (try dsimp only at hSw); go_simp⟩) (by assumption) ?_
  try simp only [Act.put, List.setIfInBounds_toArray, List.set_cons_zero, List.set_cons_succ]
  refine take_at 75 (i := 2) (v := .pointer (some ⟨g, 0, none⟩)) rfl (by kernel_rfl) (by kernel_rfl) (by kernel_rfl) (by kernel_rfl) (fun _ _ _ h => h) (Or.inl ⟨by kernel_rfl, by intro u hSw; (try dsimp only at hSw); go_simp⟩) (by assumption) ?_
  try simp only [Act.put, List.setIfInBounds_toArray, List.set_cons_zero, List.set_cons_succ]
  refine take_at 76 (i := 3) (v := .int .i64 (a : Int)) rfl (by kernel_rfl) (by kernel_rfl) (by kernel_rfl) (by kernel_rfl) (fun _ _ _ h => h) (Or.inl ⟨by kernel_rfl, by intro u hSw; (try dsimp only at hSw); go_simp⟩) (by assumption) ?_
  try simp only [Act.put, List.setIfInBounds_toArray, List.set_cons_zero, List.set_cons_succ]
  refine take_at 77 (i := 4) (v := .pointer (some ⟨g, 0, none⟩)) rfl (by kernel_rfl) (by kernel_rfl) (by kernel_rfl) (by kernel_rfl) (fun _ _ _ h => h) (Or.inl ⟨by kernel_rfl, by intro u hSw; (try dsimp only at hSw); go_simp⟩) (by assumption) ?_
  try simp only [Act.put, List.setIfInBounds_toArray, List.set_cons_zero, List.set_cons_succ]
  refine take_at 78 (i := 5) (v := .pointer (some ⟨g, 0, none⟩)) rfl (by kernel_rfl) (by kernel_rfl) (by kernel_rfl) (by kernel_rfl) (fun _ _ _ h => h) (Or.inl ⟨by kernel_rfl, by intro u hSw; (try dsimp only at hSw); go_simp⟩) (by assumption) ?_
  try simp only [Act.put, List.setIfInBounds_toArray, List.set_cons_zero, List.set_cons_succ]
  refine take_at 79 (i := 6) (v := .pointer (some ⟨g, a, none⟩)) rfl (by kernel_rfl) (by kernel_rfl) (by kernel_rfl) (by kernel_rfl) (fun _ _ _ h => h) (Or.inl ⟨by kernel_rfl, by intro u hSw; (try dsimp only at hSw); go_simp⟩) (by assumption) ?_
  try simp only [Act.put, List.setIfInBounds_toArray, List.set_cons_zero, List.set_cons_succ]
  refine take_at 80 (i := 8) (v := .pointer (some ⟨g, 0, none⟩)) rfl (by kernel_rfl) (by kernel_rfl) (by kernel_rfl) (by kernel_rfl) (fun _ _ _ h => h) (Or.inl ⟨by kernel_rfl, by intro u hSw; (try dsimp only at hSw); go_simp⟩) (by assumption) ?_
  try simp only [Act.put, List.setIfInBounds_toArray, List.set_cons_zero, List.set_cons_succ]
  refine take_at 81 (i := 9) (v := .pointer (some ⟨g, 36, none⟩)) rfl (by kernel_rfl) (by kernel_rfl) (by kernel_rfl) (by kernel_rfl) (fun _ _ _ h => h) (Or.inl ⟨by kernel_rfl, by intro u hSw; (try dsimp only at hSw); go_simp⟩) (by assumption) ?_
  try simp only [Act.put, List.setIfInBounds_toArray, List.set_cons_zero, List.set_cons_succ]
  refine wpAnyH_ready (rs := [7]) (by kernel_rfl) (by simp) ?_
  refine AllReadyH.cons rfl (fun K hK => ?_) AllReadyH.nil
  refine step_store_part rfl 48 (.tmp 79) (.const (.pointer none)) rfl g (a) rfl (.pointer none) rfl [.pointer none] H1.out.im rfl (by rw [prV_size H1.out.x17]; have := HA.out; simp only [List.length_cons, List.length_nil]; omega) rfl szP _ ((put_one _ _ _ (by rw [prV_size H1.out.x17]; have := HA.out; omega)).trans (prV_putp HA.out _)) ?_
  intro w2 hiw2 hcw2
  refine hK.out _ _ trivial (fun _ => ?_)
  clear hK K
  try simp only [Act.put, List.setIfInBounds_toArray, List.set_cons_zero, List.set_cons_succ]
  refine take_at 82 (i := 10) (v := .pointer (some ⟨g, 36 + a, none⟩)) rfl (by kernel_rfl) (by kernel_rfl) (by kernel_rfl) (by kernel_rfl) (fun _ _ _ h => h) (Or.inl ⟨by kernel_rfl, by intro u hSw; (try dsimp only at hSw); go_simp⟩) (by assumption) ?_
  try simp only [Act.put, List.setIfInBounds_toArray, List.set_cons_zero, List.set_cons_succ]
  refine wpAnyH_ready (rs := [11]) (by kernel_rfl) (by simp) ?_
  refine AllReadyH.cons rfl (fun K hK => ?_) AllReadyH.nil
  refine step_store_part rfl 4 (.tmp 82) (.const (.bool true)) rfl g (36 + a) rfl (.bool true) rfl [.bool true] hiw2 rfl (by rw [prV_size H1.out.x17]; have := HA.out; simp only [List.length_cons, List.length_nil]; omega) rfl szBo _ ((put_one _ _ _ (by rw [prV_size H1.out.x17]; have := HA.out; omega)).trans (prV_putn H1.out.x17 HA.out _)) ?_
  intro w3 hiw3 hcw3
  refine hK.out _ _ trivial (fun _ => ?_)
  clear hK K
  try simp only [Act.put, List.setIfInBounds_toArray, List.set_cons_zero, List.set_cons_succ]
  refine wpAnyH_done (by kernel_rfl) ?_ _
  have HE := Lib.hid (H1.out.tonil HA.out (((Chg.refl (fun k => k = g) w1).drew.trans hcw2).trans hcw3) hiw3)
  clear hiw2 hcw2 hiw3 hcw3
  obtain ⟨⟨T', p', x', n', s', h'⟩, cc⟩ := HE.out
  have H3 := Lib.hid h'
  have HC3 := Lib.hid cc
  clear h' cc HE
  have HS3 : Hid (Sen B A w3 ∧ Tab B w3) := ⟨HS1.out.1.below (HC3.out.below (fun k _ hk => Nat.le_trans HS.out.2.2.1 hk) HS1.out.2.2), HS1.out.2.1.below (HC3.out.below (fun k _ hk => Nat.le_trans HS.out.2.2.1 hk) HS1.out.2.2)⟩
  go_wp2_with fail
  refine (looks_any w3 H3.out HS3.out.1 HS3.out.2 HS.out.2.2.1 HA.out).mono ?_
  rintro e w4 ⟨rfl, c4⟩
  have HE := Lib.hid c4
  clear c4
  go_wp2
  go_ret
  exact ⟨rfl, ⟨_, _, _, _, _, H3.out.keep HE.out⟩, ((HC1.out.more fun _ _ f => f.elim).trans HC3.out).trans (HE.out.more fun _ _ f => f.elim)⟩
set_option maxRecDepth 100000 in
set_option maxHeartbeats 4000000 in
theorem step_new_no (w : World) {L g : Nat} {T : Nat → Nat → Prop} {p x : Nat → Value} {n : Nat → Bool} {s : Nat → Sm} (h : Pri w L g T p x n s) (hs : Sen B A w) (ht : Tab B w) (hBL : B ≤ L) (xx nn : Int) (A2 : Option Addr) (len cap : Nat) (dl : Int) (fl : Bool) (c0 c1 c2 c3 c4 c5 c6 c7 : Int) {a : Nat} (ha : a < 2) (hbits : bits .and .i64 xx 1 = (a : Int)) {id : Int} (hid : IntKind.u32.wrap nn = id) {d0 d1 d2 d3 d4 d5 d6 d7 : Int} (hcf : ∀ w1 u, Chg none_ w1 u → Calls Tryd.prog 51 #[.agg #[.int .i64 1, .int .i64 xx, .int .i64 nn, .slice A2 len cap, .int .u32 dl, .bool fl, .int .i64 c0, .int .i64 c1, .int .i64 c2, .int .i64 c3, .int .i64 c4, .int .i64 c5, .int .i64 c6, .int .i64 c7]] u fun e u' => e = .returned (.agg #[.int .i64 d0, .int .i64 d1, .int .i64 d2, .int .i64 d3, .int .i64 d4, .int .i64 d5, .int .i64 d6, .int .i64 d7]) ∧ Chg none_ w1 u') {k : Nat} (hk1 : 1 ≤ k) (hk2 : k ≤ 42) (hNo : ∀ u, Sen B A u → B ≤ u.heap.size → Calls Tryd.prog 41 #[.int .u32 id, .agg #[.int .i64 d0, .int .i64 d1, .int .i64 d2, .int .i64 d3, .int .i64 d4, .int .i64 d5, .int .i64 d6, .int .i64 d7], .bool fl] u fun e u' => e = .returned (.tuple #[.pointer none, errv A k]) ∧ Chg none_ u u') (hRo : ∀ u, Calls Tryd.prog 50 #[.int .u32 id, .agg #[.int .i64 d0, .int .i64 d1, .int .i64 d2, .int .i64 d3, .int .i64 d4, .int .i64 d5, .int .i64 d6, .int .i64 d7], .bool fl] u fun e u' => e = .returned (.tuple #[rfZ, .int .i64 (k : Int)]) ∧ Chg none_ u u') :
    Calls Tryd.prog 18 #[.pointer (some ⟨g, 0, none⟩), .agg #[.int .i64 1, .int .i64 xx, .int .i64 nn, .slice A2 len cap, .int .u32 dl, .bool fl, .int .i64 c0, .int .i64 c1, .int .i64 c2, .int .i64 c3, .int .i64 c4, .int .i64 c5, .int .i64 c6, .int .i64 c7]] w fun e w' => e = .returned (.bool true) ∧ Inv w' L g ∧ Chg (fun k => L ≤ k) w w' := by
  have HCf := Lib.hid hcf
  clear hcf
  have HNo : Hid (∀ u, Sen B A u → B ≤ u.heap.size → Calls Tryd.prog 41 #[.int .u32 id, .agg #[.int .i64 d0, .int .i64 d1, .int .i64 d2, .int .i64 d3, .int .i64 d4, .int .i64 d5, .int .i64 d6, .int .i64 d7], .bool fl] u fun e u' => e = .returned (.tuple #[.pointer none, errv A k]) ∧ Chg none_ u u') := hNo
  have HRo : Hid (∀ u, Calls Tryd.prog 50 #[.int .u32 id, .agg #[.int .i64 d0, .int .i64 d1, .int .i64 d2, .int .i64 d3, .int .i64 d4, .int .i64 d5, .int .i64 d6, .int .i64 d7], .bool fl] u fun e u' => e = .returned (.tuple #[rfZ, .int .i64 (k : Int)]) ∧ Chg none_ u u') := hRo
  have HKl := Lib.hid (And.intro hk1 hk2)
  clear hNo hRo hk1 hk2

  have H := Lib.hid h
  have HA := Lib.hid ha
  have ha0 : (0 : Int) ≤ (a : Int) := by omega
  have ha2 : (a : Int) < 2 := by omega
  have hB : B ≤ w.heap.size := Nat.le_trans hBL (Nat.le_trans h.hL (Nat.le_of_lt h.im.lt))
  have HS := Lib.hid (And.intro hs (And.intro ht (And.intro hBL hB)))
  clear h hs ht hBL hB ha
  obtain ⟨w1, hw1⟩ : ∃ y, w.alloc (.cells #[.int .i64 1, .int .i64 xx, .int .i64 nn, .slice A2 len cap, .int .u32 dl, .bool fl, .int .i64 c0, .int .i64 c1, .int .i64 c2, .int .i64 c3, .int .i64 c4, .int .i64 c5, .int .i64 c6, .int .i64 c7] 45) = y := ⟨_, rfl⟩
  have HIo : Hid (Is w1 w.heap.size 45 #[.int .i64 1, .int .i64 xx, .int .i64 nn, .slice A2 len cap, .int .u32 dl, .bool fl, .int .i64 c0, .int .i64 c1, .int .i64 c2, .int .i64 c3, .int .i64 c4, .int .i64 c5, .int .i64 c6, .int .i64 c7]) := by
    show Is _ _ _ _
    rw [← hw1]
    exact Is.new w _ _
  have HC1 : Hid (Chg none_ w w1) := by
    show Chg _ _ _
    rw [← hw1]
    exact (Chg.refl none_ w).alloc _
  have H1 := Lib.hid (H.out.keep HC1.out)
  have HS1 : Hid (Sen B A w1 ∧ Tab B w1 ∧ B ≤ w1.heap.size) := ⟨HS.out.1.below (HC1.out.old HS.out.2.2.2), HS.out.2.1.below (HC1.out.old HS.out.2.2.2), Nat.le_trans HS.out.2.2.2 HC1.out.size⟩
  obtain ⟨rb, hrb⟩ : ∃ y, w.heap.size = y := ⟨_, rfl⟩
  rw [hrb] at HIo
  have o0 : w1.cell? ⟨rb, 0, none⟩ = some (.int .i64 1) := HIo.out.at_ 0 _ rfl
  have o1 : w1.cell? ⟨rb, 1, none⟩ = some (.int .i64 xx) := HIo.out.at_ 1 _ rfl
  have o2 : w1.cell? ⟨rb, 2, none⟩ = some (.int .i64 nn) := HIo.out.at_ 2 _ rfl
  have o3 : w1.cell? ⟨rb, 3, none⟩ = some (.slice A2 len cap) := HIo.out.at_ 3 _ rfl
  have o4 : w1.cell? ⟨rb, 4, none⟩ = some (.int .u32 dl) := HIo.out.at_ 4 _ rfl
  have o5 : w1.cell? ⟨rb, 5, none⟩ = some (.bool fl) := HIo.out.at_ 5 _ rfl
  have o6 : w1.cell? ⟨rb, 6, none⟩ = some (.int .i64 c0) := HIo.out.at_ 6 _ rfl
  have o7 : w1.cell? ⟨rb, 7, none⟩ = some (.int .i64 c1) := HIo.out.at_ 7 _ rfl
  have o8 : w1.cell? ⟨rb, 8, none⟩ = some (.int .i64 c2) := HIo.out.at_ 8 _ rfl
  have o9 : w1.cell? ⟨rb, 9, none⟩ = some (.int .i64 c3) := HIo.out.at_ 9 _ rfl
  have o10 : w1.cell? ⟨rb, 10, none⟩ = some (.int .i64 c4) := HIo.out.at_ 10 _ rfl
  have o11 : w1.cell? ⟨rb, 11, none⟩ = some (.int .i64 c5) := HIo.out.at_ 11 _ rfl
  have o12 : w1.cell? ⟨rb, 12, none⟩ = some (.int .i64 c6) := HIo.out.at_ 12 _ rfl
  have o13 : w1.cell? ⟨rb, 13, none⟩ = some (.int .i64 c7) := HIo.out.at_ 13 _ rfl
  go_enter Tryd.func18, Tryd.ntmps18
  have HNw : Hid (∀ u, Chg none_ w1 u → Calls Tryd.prog 41 #[.int .u32 id, .agg #[.int .i64 d0, .int .i64 d1, .int .i64 d2, .int .i64 d3, .int .i64 d4, .int .i64 d5, .int .i64 d6, .int .i64 d7], .bool fl] u fun e u' => e = .returned (.tuple #[.pointer none, errv A k]) ∧ Chg none_ w1 u') := fun u hu => (HNo.out u (HS1.out.1.below (hu.old HS1.out.2.2)) (Nat.le_trans HS1.out.2.2 hu.size)).mono fun e u' ⟨e1, e2⟩ => ⟨e1, hu.trans e2⟩
  have HRw : Hid (∀ w1 u, Chg none_ w1 u → Calls Tryd.prog 50 #[.int .u32 id, .agg #[.int .i64 d0, .int .i64 d1, .int .i64 d2, .int .i64 d3, .int .i64 d4, .int .i64 d5, .int .i64 d6, .int .i64 d7], .bool fl] u fun e u' => e = .returned (.tuple #[rfZ, .int .i64 (k : Int)]) ∧ Chg none_ w1 u') := fun w1 u hu => (HRo.out u).mono fun e u' ⟨e1, e2⟩ => ⟨e1, hu.trans e2⟩
  clear HNo HRo
  go_wp2_with fail
  refine wp_region_held_drew (S := fun u => Chg none_ w1 u) (by kernel_rfl) ((Chg.refl none_ w1).drew) (fun hS0 => ?_)
  refine take_at 18 (i := 0) (v := .pointer (some ⟨rb, 2, none⟩)) rfl (by kernel_rfl) (by kernel_rfl) (by kernel_rfl) (by kernel_rfl) (fun _ _ _ h => h) (Or.inl ⟨by kernel_rfl, by intro u hSw; (try dsimp only at hSw); go_simp⟩) (by assumption) ?_
  try simp only [Act.put, List.setIfInBounds_toArray, List.set_cons_zero, List.set_cons_succ]
  refine take_at 19 (i := 1) (v := .int .i64 nn) rfl (by kernel_rfl) (by kernel_rfl) (by kernel_rfl) (by kernel_rfl) (fun _ _ _ h => h) (Or.inl ⟨by kernel_rfl, by intro u hSw; have hc := (HIo.out.chg hSw fun f => f).at_ 2 _ rfl; go_simp⟩) (by assumption) ?_
  try simp only [Act.put, List.setIfInBounds_toArray, List.set_cons_zero, List.set_cons_succ]
  refine take_at 20 (i := 2) (v := .int .u32 id) rfl (by kernel_rfl) (by kernel_rfl) (by kernel_rfl) (by kernel_rfl) (fun _ _ _ h => h) (Or.inl ⟨by kernel_rfl, by intro u hSw; (try dsimp only at hSw); go_simp⟩) (by assumption) ?_
  try simp only [Act.put, List.setIfInBounds_toArray, List.set_cons_zero, List.set_cons_succ]
  refine take_at 21 (i := 3) (v := .agg #[.int .i64 1, .int .i64 xx, .int .i64 nn, .slice A2 len cap, .int .u32 dl, .bool fl, .int .i64 c0, .int .i64 c1, .int .i64 c2, .int .i64 c3, .int .i64 c4, .int .i64 c5, .int .i64 c6, .int .i64 c7]) rfl (by kernel_rfl) (by kernel_rfl) (by kernel_rfl) (by kernel_rfl) (fun _ _ _ h => h) (Or.inl ⟨by kernel_rfl, fun u hSw => yields_load_part 45 (.tmp 3) rfl rb 0 rfl [.int .i64 1, .int .i64 xx, .int .i64 nn, .slice A2 len cap, .int .u32 dl, .bool fl, .int .i64 c0, .int .i64 c1, .int .i64 c2, .int .i64 c3, .int .i64 c4, .int .i64 c5, .int .i64 c6, .int .i64 c7] (HIo.out.chg hSw fun f => f) rfl Tryd.underlying45 rfl szOp⟩) (by assumption) ?_
  try simp only [Act.put, List.setIfInBounds_toArray, List.set_cons_zero, List.set_cons_succ]
  refine take_at 23 (i := 5) (v := .pointer (some ⟨rb, 5, none⟩)) rfl (by kernel_rfl) (by kernel_rfl) (by kernel_rfl) (by kernel_rfl) (fun _ _ _ h => h) (Or.inl ⟨by kernel_rfl, by intro u hSw; (try dsimp only at hSw); go_simp⟩) (by assumption) ?_
  try simp only [Act.put, List.setIfInBounds_toArray, List.set_cons_zero, List.set_cons_succ]
  refine take_at 24 (i := 6) (v := .bool fl) rfl (by kernel_rfl) (by kernel_rfl) (by kernel_rfl) (by kernel_rfl) (fun _ _ _ h => h) (Or.inl ⟨by kernel_rfl, by intro u hSw; have hc := (HIo.out.chg hSw fun f => f).at_ 5 _ rfl; go_simp⟩) (by assumption) ?_
  try simp only [Act.put, List.setIfInBounds_toArray, List.set_cons_zero, List.set_cons_succ]
  refine wpAnyH_ready (rs := [4]) (by kernel_rfl) (by simp) ?_
  refine AllReadyH.cons rfl (fun K hK => ?_) AllReadyH.nil
  go_simp
  refine (HCf.out w1 _ hS0).mono ?_
  rintro e u1 ⟨rfl, hS1⟩
  try go_simp
  refine hK.out _ _ hS1 (fun _ => ?_)
  clear hK K
  try simp only [Act.put, List.setIfInBounds_toArray, List.set_cons_zero, List.set_cons_succ]
  refine wpAnyH_ready (rs := [7]) (by kernel_rfl) (by simp) ?_
  refine AllReadyH.cons rfl (fun K hK => ?_) AllReadyH.nil
  go_simp
  refine (HNw.out _ hS1).mono ?_
  rintro e u2 ⟨rfl, hS2⟩
  try go_simp
  refine hK.out _ _ hS2 (fun _ => ?_)
  clear hK K
  try simp only [Act.put, List.setIfInBounds_toArray, List.set_cons_zero, List.set_cons_succ]
  refine take_at 17 (i := 8) (v := .tuple #[.pointer none, errv A k]) rfl (by kernel_rfl) (by kernel_rfl) (by kernel_rfl) (by kernel_rfl) (fun _ _ _ h => h) (Or.inl ⟨by kernel_rfl, by intro u hSw; (try dsimp only at hSw); go_simp⟩) (by assumption) ?_
  try simp only [Act.put, List.setIfInBounds_toArray, List.set_cons_zero, List.set_cons_succ]
  refine take_at 26 (i := 9) (v := .pointer none) rfl (by kernel_rfl) (by kernel_rfl) (by kernel_rfl) (by kernel_rfl) (fun _ _ _ h => h) (Or.inl ⟨by kernel_rfl, by intro u hSw; (try dsimp only at hSw); go_simp⟩) (by assumption) ?_
  try simp only [Act.put, List.setIfInBounds_toArray, List.set_cons_zero, List.set_cons_succ]
  refine take_at 27 (i := 10) (v := errv A k) rfl (by kernel_rfl) (by kernel_rfl) (by kernel_rfl) (by kernel_rfl) (fun _ _ _ h => h) (Or.inl ⟨by kernel_rfl, by intro u hSw; (try dsimp only at hSw); go_simp⟩) (by assumption) ?_
  try simp only [Act.put, List.setIfInBounds_toArray, List.set_cons_zero, List.set_cons_succ]
  refine wpAnyH_ready (rs := [11]) (by kernel_rfl) (by simp) ?_
  refine AllReadyH.cons rfl (fun K hK => ?_) AllReadyH.nil
  go_simp
  refine hK.out _ _ (by assumption) (fun _ => ?_)
  clear hK K
  try simp only [Act.put, List.setIfInBounds_toArray, List.set_cons_zero, List.set_cons_succ]
  refine wpAnyH_ready (rs := [12]) (by kernel_rfl) (by simp) ?_
  refine AllReadyH.cons rfl (fun K hK => ?_) AllReadyH.nil
  go_simp
  refine hK.out _ _ (by assumption) (fun _ => ?_)
  clear hK K
  try simp only [Act.put, List.setIfInBounds_toArray, List.set_cons_zero, List.set_cons_succ]
  refine wpAnyH_done (by kernel_rfl) ?_ _
  have HC3 := Lib.hid hS2
  obtain ⟨w3, hw3⟩ : ∃ y, y = u2 := ⟨_, rfl⟩
  rw [← hw3] at HC3 ⊢
  clear hS0 hS1 hS2 hw3
  go_upto_region 4 with fail
  have HIo3 := Lib.hid (HIo.out.chg HC3.out fun f => f)
  have HgL : Hid (g < w3.heap.size) := by
    show _ < _
    have q1 := H.out.im.lt
    have q2 := HC1.out.size
    have q3 := HC3.out.size
    omega
  go_cut [8, 9] (fun v8 v9 wx => ∃ r8, v8 = .pointer (some ⟨r8, 0, none⟩) ∧ v9 = .int .i64 (k : Int) ∧ Is wx r8 51 #[.int .u32 0, .int .i64 0, .int .i64 0, .int .i64 0, .bool false, .bool false, .slice none 0 0, .bool false, .bool false, .int .i64 0, .slice none 0 0, .int .i64 0, .int .i64 0, .bool false, .bool false, .bool false, .bool false] ∧ w3.heap.size ≤ r8 ∧ Chg none_ w3 wx)
  case first =>
    refine wp_region_held_drew (S := fun u => Chg none_ w3 u) (by kernel_rfl) ((Chg.refl none_ w3).drew) (fun hS0 => ?_)
    refine take_at 29 (i := 0) (v := .pointer (some ⟨rb, 2, none⟩)) rfl (by kernel_rfl) (by kernel_rfl) (by kernel_rfl) (by kernel_rfl) (fun _ _ _ h => h) (Or.inl ⟨by kernel_rfl, by intro u hSw; (try dsimp only at hSw); go_simp⟩) (by assumption) ?_
    try simp only [Act.put, List.setIfInBounds_toArray, List.set_cons_zero, List.set_cons_succ]
    refine take_at 30 (i := 1) (v := .int .i64 nn) rfl (by kernel_rfl) (by kernel_rfl) (by kernel_rfl) (by kernel_rfl) (fun _ _ _ h => h) (Or.inl ⟨by kernel_rfl, by intro u hSw; have hc := (HIo3.out.chg hSw fun f => f).at_ 2 _ rfl; go_simp⟩) (by assumption) ?_
    try simp only [Act.put, List.setIfInBounds_toArray, List.set_cons_zero, List.set_cons_succ]
    refine take_at 31 (i := 2) (v := .int .u32 id) rfl (by kernel_rfl) (by kernel_rfl) (by kernel_rfl) (by kernel_rfl) (fun _ _ _ h => h) (Or.inl ⟨by kernel_rfl, by intro u hSw; (try dsimp only at hSw); go_simp⟩) (by assumption) ?_
    try simp only [Act.put, List.setIfInBounds_toArray, List.set_cons_zero, List.set_cons_succ]
    refine take_at 32 (i := 3) (v := .agg #[.int .i64 1, .int .i64 xx, .int .i64 nn, .slice A2 len cap, .int .u32 dl, .bool fl, .int .i64 c0, .int .i64 c1, .int .i64 c2, .int .i64 c3, .int .i64 c4, .int .i64 c5, .int .i64 c6, .int .i64 c7]) rfl (by kernel_rfl) (by kernel_rfl) (by kernel_rfl) (by kernel_rfl) (fun _ _ _ h => h) (Or.inl ⟨by kernel_rfl, fun u hSw => yields_load_part 45 (.tmp 3) rfl rb 0 rfl [.int .i64 1, .int .i64 xx, .int .i64 nn, .slice A2 len cap, .int .u32 dl, .bool fl, .int .i64 c0, .int .i64 c1, .int .i64 c2, .int .i64 c3, .int .i64 c4, .int .i64 c5, .int .i64 c6, .int .i64 c7] (HIo3.out.chg hSw fun f => f) rfl Tryd.underlying45 rfl szOp⟩) (by assumption) ?_
    try simp only [Act.put, List.setIfInBounds_toArray, List.set_cons_zero, List.set_cons_succ]
    refine take_at 34 (i := 5) (v := .pointer (some ⟨rb, 5, none⟩)) rfl (by kernel_rfl) (by kernel_rfl) (by kernel_rfl) (by kernel_rfl) (fun _ _ _ h => h) (Or.inl ⟨by kernel_rfl, by intro u hSw; (try dsimp only at hSw); go_simp⟩) (by assumption) ?_
    try simp only [Act.put, List.setIfInBounds_toArray, List.set_cons_zero, List.set_cons_succ]
    refine take_at 35 (i := 6) (v := .bool fl) rfl (by kernel_rfl) (by kernel_rfl) (by kernel_rfl) (by kernel_rfl) (fun _ _ _ h => h) (Or.inl ⟨by kernel_rfl, by intro u hSw; have hc := (HIo3.out.chg hSw fun f => f).at_ 5 _ rfl; go_simp⟩) (by assumption) ?_
    try simp only [Act.put, List.setIfInBounds_toArray, List.set_cons_zero, List.set_cons_succ]
    obtain ⟨u0, hu0⟩ : ∃ y, w3.drew = y := ⟨_, rfl⟩
    rw [hu0] at hS0 ⊢
    clear hu0
    refine wpAnyH_ready (rs := [4, 11]) (by kernel_rfl) (by simp) ?_
    refine AllReadyH.cons rfl (fun K hK => ?_) (AllReadyH.cons rfl (fun K hK => ?_) AllReadyH.nil)
    · go_simp
      refine (HCf.out w3 _ hS0).mono ?_
      rintro e u1 ⟨rfl, hS1⟩
      try go_simp
      refine hK.out _ _ hS1 (fun _ => ?_)
      clear hK K
      try simp only [Act.put, List.setIfInBounds_toArray, List.set_cons_zero, List.set_cons_succ]
      refine wpAnyH_ready (rs := [7, 11]) (by kernel_rfl) (by simp) ?_
      refine AllReadyH.cons rfl (fun K hK => ?_) (AllReadyH.cons rfl (fun K hK => ?_) AllReadyH.nil)
      · go_simp
        refine (HRw.out w3 _ hS1).mono ?_
        rintro e u2 ⟨rfl, hS2⟩
        try go_simp
        refine hK.out _ _ hS2 (fun _ => ?_)
        clear hK K
        try simp only [Act.put, List.setIfInBounds_toArray, List.set_cons_zero, List.set_cons_succ]
        rw [show rfZ = .agg #[.int .u32 0, .int .i64 0, .int .i64 0, .int .i64 0, .bool false, .bool false, .slice none 0 0, .bool false, .bool false, .int .i64 0, .slice none 0 0, .int .i64 0, .int .i64 0, .bool false, .bool false, .bool false, .bool false] from rfl]
        refine take_at 28 (i := 8) (v := .tuple #[.agg #[.int .u32 0, .int .i64 0, .int .i64 0, .int .i64 0, .bool false, .bool false, .slice none 0 0, .bool false, .bool false, .int .i64 0, .slice none 0 0, .int .i64 0, .int .i64 0, .bool false, .bool false, .bool false, .bool false], .int .i64 (k : Int)]) rfl (by kernel_rfl) (by kernel_rfl) (by kernel_rfl) (by kernel_rfl) (fun _ _ _ h => h) (Or.inl ⟨by kernel_rfl, by intro u hSw; (try dsimp only at hSw); go_simp⟩) (by assumption) ?_
        try simp only [Act.put, List.setIfInBounds_toArray, List.set_cons_zero, List.set_cons_succ]
        refine take_at 37 (i := 9) (v := .agg #[.int .u32 0, .int .i64 0, .int .i64 0, .int .i64 0, .bool false, .bool false, .slice none 0 0, .bool false, .bool false, .int .i64 0, .slice none 0 0, .int .i64 0, .int .i64 0, .bool false, .bool false, .bool false, .bool false]) rfl (by kernel_rfl) (by kernel_rfl) (by kernel_rfl) (by kernel_rfl) (fun _ _ _ h => h) (Or.inl ⟨by kernel_rfl, by intro u hSw; (try dsimp only at hSw); go_simp⟩) (by assumption) ?_
        try simp only [Act.put, List.setIfInBounds_toArray, List.set_cons_zero, List.set_cons_succ]
        refine take_at 38 (i := 10) (v := .int .i64 (k : Int)) rfl (by kernel_rfl) (by kernel_rfl) (by kernel_rfl) (by kernel_rfl) (fun _ _ _ h => h) (Or.inl ⟨by kernel_rfl, by intro u hSw; (try dsimp only at hSw); go_simp⟩) (by assumption) ?_
        try simp only [Act.put, List.setIfInBounds_toArray, List.set_cons_zero, List.set_cons_succ]
        refine wpAnyH_ready (rs := [11]) (by kernel_rfl) (by simp) ?_
        refine AllReadyH.cons rfl (fun K hK => ?_) AllReadyH.nil
        go_simp
        have hI2 : Is (u2.alloc (.cells #[.int .u32 0, .int .i64 0, .int .i64 0, .int .i64 0, .bool false, .bool false, .slice none 0 0, .bool false, .bool false, .int .i64 0, .slice none 0 0, .int .i64 0, .int .i64 0, .bool false, .bool false, .bool false, .bool false] 51)) u2.heap.size 51 #[.int .u32 0, .int .i64 0, .int .i64 0, .int .i64 0, .bool false, .bool false, .slice none 0 0, .bool false, .bool false, .int .i64 0, .slice none 0 0, .int .i64 0, .int .i64 0, .bool false, .bool false, .bool false, .bool false] := Is.new u2 _ _
        have hz2 : w3.heap.size ≤ u2.heap.size := hS2.size
        have hS2a := hS2.alloc (.cells #[.int .u32 0, .int .i64 0, .int .i64 0, .int .i64 0, .bool false, .bool false, .slice none 0 0, .bool false, .bool false, .int .i64 0, .slice none 0 0, .int .i64 0, .int .i64 0, .bool false, .bool false, .bool false, .bool false] 51)
        refine hK.out _ _ hS2a (fun _ => ?_)
        clear hK K
        try simp only [Act.put, List.setIfInBounds_toArray, List.set_cons_zero, List.set_cons_succ]
        refine wpAnyH_ready (rs := [12]) (by kernel_rfl) (by simp) ?_
        refine AllReadyH.cons rfl (fun K hK => ?_) AllReadyH.nil
        refine step_store_part rfl 51 (.tmp 8) (.tmp 37) rfl u2.heap.size 0 rfl (.agg #[.int .u32 0, .int .i64 0, .int .i64 0, .int .i64 0, .bool false, .bool false, .slice none 0 0, .bool false, .bool false, .int .i64 0, .slice none 0 0, .int .i64 0, .int .i64 0, .bool false, .bool false, .bool false, .bool false]) rfl [.int .u32 0, .int .i64 0, .int .i64 0, .int .i64 0, .bool false, .bool false, .slice none 0 0, .bool false, .bool false, .int .i64 0, .slice none 0 0, .int .i64 0, .int .i64 0, .bool false, .bool false, .bool false, .bool false] hI2 rfl (Nat.le_refl 17) rfl szSt _ rfl ?_
        intro w4 hi4 hc4
        have hS9 : Chg none_ w3 w4 := (hS2a).then hc4 fun k hk e => by omega
        refine hK.out _ _ hS9 (fun _ => ?_)
        clear hK K
        try simp only [Act.put, List.setIfInBounds_toArray, List.set_cons_zero, List.set_cons_succ]
        refine wpAnyH_ready (rs := [13]) (by kernel_rfl) (by simp) ?_
        refine AllReadyH.cons rfl (fun K hK => ?_) AllReadyH.nil
        go_simp
        refine hK.out _ _ hS9 (fun _ => ?_)
        clear hK K
        try simp only [Act.put, List.setIfInBounds_toArray, List.set_cons_zero, List.set_cons_succ]
        refine wpAnyH_done (by kernel_rfl) ?_ _
        go_wp2_with fail
        go_meet
        exact ⟨_, rfl, rfl, hi4, by omega, hS9⟩
      · go_simp
        have hI1 : Is (u1.alloc (.cells #[.int .u32 0, .int .i64 0, .int .i64 0, .int .i64 0, .bool false, .bool false, .slice none 0 0, .bool false, .bool false, .int .i64 0, .slice none 0 0, .int .i64 0, .int .i64 0, .bool false, .bool false, .bool false, .bool false] 51)) u1.heap.size 51 #[.int .u32 0, .int .i64 0, .int .i64 0, .int .i64 0, .bool false, .bool false, .slice none 0 0, .bool false, .bool false, .int .i64 0, .slice none 0 0, .int .i64 0, .int .i64 0, .bool false, .bool false, .bool false, .bool false] := Is.new u1 _ _
        have hz1 : w3.heap.size ≤ u1.heap.size := hS1.size
        have hS1a := hS1.alloc (.cells #[.int .u32 0, .int .i64 0, .int .i64 0, .int .i64 0, .bool false, .bool false, .slice none 0 0, .bool false, .bool false, .int .i64 0, .slice none 0 0, .int .i64 0, .int .i64 0, .bool false, .bool false, .bool false, .bool false] 51)
        refine hK.out _ _ hS1a (fun _ => ?_)
        clear hK K
        try simp only [Act.put, List.setIfInBounds_toArray, List.set_cons_zero, List.set_cons_succ]
        refine wpAnyH_ready (rs := [7]) (by kernel_rfl) (by simp) ?_
        refine AllReadyH.cons rfl (fun K hK => ?_) AllReadyH.nil
        go_simp
        refine (HRw.out _ _ (Chg.refl none_ _)).mono ?_
        rintro e u3 ⟨rfl, ku3⟩
        have hIu3 := hI1.chg ku3 fun f => f
        have hSu3 := hS1a.trans ku3
        try go_simp
        refine hK.out _ _ hSu3 (fun _ => ?_)
        clear hK K
        try simp only [Act.put, List.setIfInBounds_toArray, List.set_cons_zero, List.set_cons_succ]
        rw [show rfZ = .agg #[.int .u32 0, .int .i64 0, .int .i64 0, .int .i64 0, .bool false, .bool false, .slice none 0 0, .bool false, .bool false, .int .i64 0, .slice none 0 0, .int .i64 0, .int .i64 0, .bool false, .bool false, .bool false, .bool false] from rfl]
        refine take_at 28 (i := 8) (v := .tuple #[.agg #[.int .u32 0, .int .i64 0, .int .i64 0, .int .i64 0, .bool false, .bool false, .slice none 0 0, .bool false, .bool false, .int .i64 0, .slice none 0 0, .int .i64 0, .int .i64 0, .bool false, .bool false, .bool false, .bool false], .int .i64 (k : Int)]) rfl (by kernel_rfl) (by kernel_rfl) (by kernel_rfl) (by kernel_rfl) (fun _ _ _ h => h) (Or.inl ⟨by kernel_rfl, by intro u hSw; (try dsimp only at hSw); go_simp⟩) (by assumption) ?_
        try simp only [Act.put, List.setIfInBounds_toArray, List.set_cons_zero, List.set_cons_succ]
        refine take_at 37 (i := 9) (v := .agg #[.int .u32 0, .int .i64 0, .int .i64 0, .int .i64 0, .bool false, .bool false, .slice none 0 0, .bool false, .bool false, .int .i64 0, .slice none 0 0, .int .i64 0, .int .i64 0, .bool false, .bool false, .bool false, .bool false]) rfl (by kernel_rfl) (by kernel_rfl) (by kernel_rfl) (by kernel_rfl) (fun _ _ _ h => h) (Or.inl ⟨by kernel_rfl, by intro u hSw; (try dsimp only at hSw); go_simp⟩) (by assumption) ?_
        try simp only [Act.put, List.setIfInBounds_toArray, List.set_cons_zero, List.set_cons_succ]
        refine take_at 38 (i := 10) (v := .int .i64 (k : Int)) rfl (by kernel_rfl) (by kernel_rfl) (by kernel_rfl) (by kernel_rfl) (fun _ _ _ h => h) (Or.inl ⟨by kernel_rfl, by intro u hSw; (try dsimp only at hSw); go_simp⟩) (by assumption) ?_
        try simp only [Act.put, List.setIfInBounds_toArray, List.set_cons_zero, List.set_cons_succ]
        refine wpAnyH_ready (rs := [12]) (by kernel_rfl) (by simp) ?_
        refine AllReadyH.cons rfl (fun K hK => ?_) AllReadyH.nil
        refine step_store_part rfl 51 (.tmp 8) (.tmp 37) rfl u1.heap.size 0 rfl (.agg #[.int .u32 0, .int .i64 0, .int .i64 0, .int .i64 0, .bool false, .bool false, .slice none 0 0, .bool false, .bool false, .int .i64 0, .slice none 0 0, .int .i64 0, .int .i64 0, .bool false, .bool false, .bool false, .bool false]) rfl [.int .u32 0, .int .i64 0, .int .i64 0, .int .i64 0, .bool false, .bool false, .slice none 0 0, .bool false, .bool false, .int .i64 0, .slice none 0 0, .int .i64 0, .int .i64 0, .bool false, .bool false, .bool false, .bool false] hIu3 rfl (Nat.le_refl 17) rfl szSt _ rfl ?_
        intro w4 hi4 hc4
        have hS9 : Chg none_ w3 w4 := (hSu3).then hc4 fun k hk e => by omega
        refine hK.out _ _ hS9 (fun _ => ?_)
        clear hK K
        try simp only [Act.put, List.setIfInBounds_toArray, List.set_cons_zero, List.set_cons_succ]
        refine wpAnyH_ready (rs := [13]) (by kernel_rfl) (by simp) ?_
        refine AllReadyH.cons rfl (fun K hK => ?_) AllReadyH.nil
        go_simp
        refine hK.out _ _ hS9 (fun _ => ?_)
        clear hK K
        try simp only [Act.put, List.setIfInBounds_toArray, List.set_cons_zero, List.set_cons_succ]
        refine wpAnyH_done (by kernel_rfl) ?_ _
        go_wp2_with fail
        go_meet
        exact ⟨_, rfl, rfl, hi4, by omega, hS9⟩
    · go_simp
      have hI0 : Is (u0.alloc (.cells #[.int .u32 0, .int .i64 0, .int .i64 0, .int .i64 0, .bool false, .bool false, .slice none 0 0, .bool false, .bool false, .int .i64 0, .slice none 0 0, .int .i64 0, .int .i64 0, .bool false, .bool false, .bool false, .bool false] 51)) u0.heap.size 51 #[.int .u32 0, .int .i64 0, .int .i64 0, .int .i64 0, .bool false, .bool false, .slice none 0 0, .bool false, .bool false, .int .i64 0, .slice none 0 0, .int .i64 0, .int .i64 0, .bool false, .bool false, .bool false, .bool false] := Is.new u0 _ _
      have hz0 : w3.heap.size ≤ u0.heap.size := hS0.size
      have hS0a := hS0.alloc (.cells #[.int .u32 0, .int .i64 0, .int .i64 0, .int .i64 0, .bool false, .bool false, .slice none 0 0, .bool false, .bool false, .int .i64 0, .slice none 0 0, .int .i64 0, .int .i64 0, .bool false, .bool false, .bool false, .bool false] 51)
      refine hK.out _ _ hS0a (fun _ => ?_)
      clear hK K
      try simp only [Act.put, List.setIfInBounds_toArray, List.set_cons_zero, List.set_cons_succ]
      refine wpAnyH_ready (rs := [4]) (by kernel_rfl) (by simp) ?_
      refine AllReadyH.cons rfl (fun K hK => ?_) AllReadyH.nil
      go_simp
      refine (HCf.out _ _ (Chg.refl none_ _)).mono ?_
      rintro e u2 ⟨rfl, ku2⟩
      have hIu2 := hI0.chg ku2 fun f => f
      have hSu2 := hS0a.trans ku2
      try go_simp
      refine hK.out _ _ hSu2 (fun _ => ?_)
      clear hK K
      try simp only [Act.put, List.setIfInBounds_toArray, List.set_cons_zero, List.set_cons_succ]
      refine wpAnyH_ready (rs := [7]) (by kernel_rfl) (by simp) ?_
      refine AllReadyH.cons rfl (fun K hK => ?_) AllReadyH.nil
      go_simp
      refine (HRw.out _ _ (Chg.refl none_ _)).mono ?_
      rintro e u3 ⟨rfl, ku3⟩
      have hIu3 := hIu2.chg ku3 fun f => f
      have hSu3 := hSu2.trans ku3
      try go_simp
      refine hK.out _ _ hSu3 (fun _ => ?_)
      clear hK K
      try simp only [Act.put, List.setIfInBounds_toArray, List.set_cons_zero, List.set_cons_succ]
      rw [show rfZ = .agg #[.int .u32 0, .int .i64 0, .int .i64 0, .int .i64 0, .bool false, .bool false, .slice none 0 0, .bool false, .bool false, .int .i64 0, .slice none 0 0, .int .i64 0, .int .i64 0, .bool false, .bool false, .bool false, .bool false] from rfl]
      refine take_at 28 (i := 8) (v := .tuple #[.agg #[.int .u32 0, .int .i64 0, .int .i64 0, .int .i64 0, .bool false, .bool false, .slice none 0 0, .bool false, .bool false, .int .i64 0, .slice none 0 0, .int .i64 0, .int .i64 0, .bool false, .bool false, .bool false, .bool false], .int .i64 (k : Int)]) rfl (by kernel_rfl) (by kernel_rfl) (by kernel_rfl) (by kernel_rfl) (fun _ _ _ h => h) (Or.inl ⟨by kernel_rfl, by intro u hSw; (try dsimp only at hSw); go_simp⟩) (by assumption) ?_
      try simp only [Act.put, List.setIfInBounds_toArray, List.set_cons_zero, List.set_cons_succ]
      refine take_at 37 (i := 9) (v := .agg #[.int .u32 0, .int .i64 0, .int .i64 0, .int .i64 0, .bool false, .bool false, .slice none 0 0, .bool false, .bool false, .int .i64 0, .slice none 0 0, .int .i64 0, .int .i64 0, .bool false, .bool false, .bool false, .bool false]) rfl (by kernel_rfl) (by kernel_rfl) (by kernel_rfl) (by kernel_rfl) (fun _ _ _ h => h) (Or.inl ⟨by kernel_rfl, by intro u hSw; (try dsimp only at hSw); go_simp⟩) (by assumption) ?_
      try simp only [Act.put, List.setIfInBounds_toArray, List.set_cons_zero, List.set_cons_succ]
      refine take_at 38 (i := 10) (v := .int .i64 (k : Int)) rfl (by kernel_rfl) (by kernel_rfl) (by kernel_rfl) (by kernel_rfl) (fun _ _ _ h => h) (Or.inl ⟨by kernel_rfl, by intro u hSw; (try dsimp only at hSw); go_simp⟩) (by assumption) ?_
      try simp only [Act.put, List.setIfInBounds_toArray, List.set_cons_zero, List.set_cons_succ]
      refine wpAnyH_ready (rs := [12]) (by kernel_rfl) (by simp) ?_
      refine AllReadyH.cons rfl (fun K hK => ?_) AllReadyH.nil
      refine step_store_part rfl 51 (.tmp 8) (.tmp 37) rfl u0.heap.size 0 rfl (.agg #[.int .u32 0, .int .i64 0, .int .i64 0, .int .i64 0, .bool false, .bool false, .slice none 0 0, .bool false, .bool false, .int .i64 0, .slice none 0 0, .int .i64 0, .int .i64 0, .bool false, .bool false, .bool false, .bool false]) rfl [.int .u32 0, .int .i64 0, .int .i64 0, .int .i64 0, .bool false, .bool false, .slice none 0 0, .bool false, .bool false, .int .i64 0, .slice none 0 0, .int .i64 0, .int .i64 0, .bool false, .bool false, .bool false, .bool false] hIu3 rfl (Nat.le_refl 17) rfl szSt _ rfl ?_
      intro w4 hi4 hc4
      have hS9 : Chg none_ w3 w4 := (hSu3).then hc4 fun k hk e => by omega
      refine hK.out _ _ hS9 (fun _ => ?_)
      clear hK K
      try simp only [Act.put, List.setIfInBounds_toArray, List.set_cons_zero, List.set_cons_succ]
      refine wpAnyH_ready (rs := [13]) (by kernel_rfl) (by simp) ?_
      refine AllReadyH.cons rfl (fun K hK => ?_) AllReadyH.nil
      go_simp
      refine hK.out _ _ hS9 (fun _ => ?_)
      clear hK K
      try simp only [Act.put, List.setIfInBounds_toArray, List.set_cons_zero, List.set_cons_succ]
      refine wpAnyH_done (by kernel_rfl) ?_ _
      go_wp2_with fail
      go_meet
      exact ⟨_, rfl, rfl, hi4, by omega, hS9⟩
  case rest =>
    obtain ⟨w4, rfl⟩ : ∃ y, y = wc := ⟨_, rfl⟩
    obtain ⟨r8, rfl, rfl, i4, l4, hS4⟩ := hcut
    have HI4 : Hid (Is w4 r8 51 #[.int .u32 0, .int .i64 0, .int .i64 0, .int .i64 0, .bool false, .bool false, .slice none 0 0, .bool false, .bool false, .int .i64 0, .slice none 0 0, .int .i64 0, .int .i64 0, .bool false, .bool false, .bool false, .bool false]) := i4
    have HC4 : Hid (Chg none_ w1 w4) := HC3.out.trans hS4
    clear i4 l4 hS4
    have HS4 : Hid (Sen B A w4 ∧ Tab B w4) := ⟨HS1.out.1.below (HC4.out.old HS1.out.2.2), HS1.out.2.1.below (HC4.out.old HS1.out.2.2)⟩
    go_wp2_with fail
    refine (code_any w4 HS4.out.1 k HKl.out.2).mono ?_
    rintro e w' ⟨rfl, rfl⟩
    have hkk : ((k : Int) == 0) = false := by have := HKl.out; simp; omega
    have hkn : ((k : Int) != 0) = true := by have := HKl.out; simp; omega
    have hk0 : ¬ (k : Int) = 0 := by have := HKl.out; omega
    go_wp2_with fail
    refine (looks_any w4 (H1.out.keep HC4.out) HS4.out.1 HS4.out.2 HS.out.2.2.1 HA.out).mono ?_
    rintro e w5 ⟨rfl, c5⟩
    have HE := Lib.hid c5
    clear c5
    go_wp2
    go_ret
    exact ⟨rfl, ⟨_, _, _, _, _, (H1.out.keep HC4.out).keep HE.out⟩, ((HC1.out.trans HC4.out).trans HE.out).more fun _ _ f => f.elim⟩
set_option maxRecDepth 100000 in
set_option maxHeartbeats 4000000 in
theorem step_new_ok (w : World) {L g : Nat} {T : Nat → Nat → Prop} {p x : Nat → Value} {n : Nat → Bool} {s : Nat → Sm} (h : Pri w L g T p x n s) (hs : Sen B A w) (ht : Tab B w) (hBL : B ≤ L) (xx nn : Int) (A2 : Option Addr) (len cap : Nat) (dl : Int) (fl : Bool) (c0 c1 c2 c3 c4 c5 c6 c7 : Int) {a : Nat} (ha : a < 2) (hbits : bits .and .i64 xx 1 = (a : Int)) {id : Int} (hid : IntKind.u32.wrap nn = id) {W stage frame : Nat} {d3 d4 d5 d6 d7 : Int} (hcf : ∀ w1 u, Chg none_ w1 u → Calls Tryd.prog 51 #[.agg #[.int .i64 1, .int .i64 xx, .int .i64 nn, .slice A2 len cap, .int .u32 dl, .bool fl, .int .i64 c0, .int .i64 c1, .int .i64 c2, .int .i64 c3, .int .i64 c4, .int .i64 c5, .int .i64 c6, .int .i64 c7]] u fun e u' => e = .returned (.agg #[.int .i64 (W : Int), .int .i64 (stage : Int), .int .i64 (frame : Int), .int .i64 d3, .int .i64 d4, .int .i64 d5, .int .i64 d6, .int .i64 d7]) ∧ Chg none_ w1 u') (h1 : 1 ≤ id) (h2 : id ≤ 4294967295) (b1 : 1 ≤ W) (b2 : W ≤ 2147483647) (b3 : 1 ≤ stage) (b4 : stage ≤ 1048576) (b5 : 1 ≤ frame) (b6 : frame ≤ 65536) :
    Calls Tryd.prog 18 #[.pointer (some ⟨g, 0, none⟩), .agg #[.int .i64 1, .int .i64 xx, .int .i64 nn, .slice A2 len cap, .int .u32 dl, .bool fl, .int .i64 c0, .int .i64 c1, .int .i64 c2, .int .i64 c3, .int .i64 c4, .int .i64 c5, .int .i64 c6, .int .i64 c7]] w fun e w' => e = .returned (.bool true) ∧ Inv w' L g ∧ Chg (fun k => L ≤ k) w w' := by
  have HCf := Lib.hid hcf
  clear hcf
  have HNw : Hid (∀ u, Sen B A u → Tab B u → B ≤ u.heap.size → Calls Tryd.prog 41 #[.int .u32 id, .agg #[.int .i64 (W : Int), .int .i64 (stage : Int), .int .i64 (frame : Int), .int .i64 d3, .int .i64 d4, .int .i64 d5, .int .i64 d6, .int .i64 d7], .bool fl] u fun e u' => ∃ q, e = .returned (.tuple #[.pointer (some ⟨q, 0, none⟩), .nilIface]) ∧ Pst u' (fun k => u.heap.size ≤ k) q (Sm.new id fl W stage frame) ∧ Chg none_ u u') := fun u hs ht hB => snew_ok u hs ht hB id fl W stage frame _ _ _ _ _ h1 h2 b1 b2 b3 b4 b5 b6
  have HRw : Hid (∀ w1 u, Chg none_ w1 u → Calls Tryd.prog 50 #[.int .u32 id, .agg #[.int .i64 (W : Int), .int .i64 (stage : Int), .int .i64 (frame : Int), .int .i64 d3, .int .i64 d4, .int .i64 d5, .int .i64 d6, .int .i64 d7], .bool fl] u fun e u' => e = .returned (.tuple #[rfNew id fl W stage frame, .int .i64 0]) ∧ Chg none_ w1 u') := fun w1 u hu => (qnew_ok u id fl W stage frame _ _ _ _ _ h1 b1 b2 b3 b4 b5 b6).mono fun e u' ⟨e1, e2⟩ => ⟨e1, hu.trans e2⟩
  have HB := Lib.hid (And.intro h1 (And.intro h2 (And.intro b1 (And.intro b2 (And.intro b3 (And.intro b4 (And.intro b5 b6)))))))
  clear h1 h2 b1 b2 b3 b4 b5 b6

  have H := Lib.hid h
  have HA := Lib.hid ha
  have ha0 : (0 : Int) ≤ (a : Int) := by omega
  have ha2 : (a : Int) < 2 := by omega
  have hB : B ≤ w.heap.size := Nat.le_trans hBL (Nat.le_trans h.hL (Nat.le_of_lt h.im.lt))
  have HS := Lib.hid (And.intro hs (And.intro ht (And.intro hBL hB)))
  clear h hs ht hBL hB ha
  obtain ⟨w1, hw1⟩ : ∃ y, w.alloc (.cells #[.int .i64 1, .int .i64 xx, .int .i64 nn, .slice A2 len cap, .int .u32 dl, .bool fl, .int .i64 c0, .int .i64 c1, .int .i64 c2, .int .i64 c3, .int .i64 c4, .int .i64 c5, .int .i64 c6, .int .i64 c7] 45) = y := ⟨_, rfl⟩
  have HIo : Hid (Is w1 w.heap.size 45 #[.int .i64 1, .int .i64 xx, .int .i64 nn, .slice A2 len cap, .int .u32 dl, .bool fl, .int .i64 c0, .int .i64 c1, .int .i64 c2, .int .i64 c3, .int .i64 c4, .int .i64 c5, .int .i64 c6, .int .i64 c7]) := by
    show Is _ _ _ _
    rw [← hw1]
    exact Is.new w _ _
  have HC1 : Hid (Chg none_ w w1) := by
    show Chg _ _ _
    rw [← hw1]
    exact (Chg.refl none_ w).alloc _
  have H1 := Lib.hid (H.out.keep HC1.out)
  have HS1 : Hid (Sen B A w1 ∧ Tab B w1 ∧ B ≤ w1.heap.size) := ⟨HS.out.1.below (HC1.out.old HS.out.2.2.2), HS.out.2.1.below (HC1.out.old HS.out.2.2.2), Nat.le_trans HS.out.2.2.2 HC1.out.size⟩
  obtain ⟨rb, hrb⟩ : ∃ y, w.heap.size = y := ⟨_, rfl⟩
  rw [hrb] at HIo
  have o0 : w1.cell? ⟨rb, 0, none⟩ = some (.int .i64 1) := HIo.out.at_ 0 _ rfl
  have o1 : w1.cell? ⟨rb, 1, none⟩ = some (.int .i64 xx) := HIo.out.at_ 1 _ rfl
  have o2 : w1.cell? ⟨rb, 2, none⟩ = some (.int .i64 nn) := HIo.out.at_ 2 _ rfl
  have o3 : w1.cell? ⟨rb, 3, none⟩ = some (.slice A2 len cap) := HIo.out.at_ 3 _ rfl
  have o4 : w1.cell? ⟨rb, 4, none⟩ = some (.int .u32 dl) := HIo.out.at_ 4 _ rfl
  have o5 : w1.cell? ⟨rb, 5, none⟩ = some (.bool fl) := HIo.out.at_ 5 _ rfl
  have o6 : w1.cell? ⟨rb, 6, none⟩ = some (.int .i64 c0) := HIo.out.at_ 6 _ rfl
  have o7 : w1.cell? ⟨rb, 7, none⟩ = some (.int .i64 c1) := HIo.out.at_ 7 _ rfl
  have o8 : w1.cell? ⟨rb, 8, none⟩ = some (.int .i64 c2) := HIo.out.at_ 8 _ rfl
  have o9 : w1.cell? ⟨rb, 9, none⟩ = some (.int .i64 c3) := HIo.out.at_ 9 _ rfl
  have o10 : w1.cell? ⟨rb, 10, none⟩ = some (.int .i64 c4) := HIo.out.at_ 10 _ rfl
  have o11 : w1.cell? ⟨rb, 11, none⟩ = some (.int .i64 c5) := HIo.out.at_ 11 _ rfl
  have o12 : w1.cell? ⟨rb, 12, none⟩ = some (.int .i64 c6) := HIo.out.at_ 12 _ rfl
  have o13 : w1.cell? ⟨rb, 13, none⟩ = some (.int .i64 c7) := HIo.out.at_ 13 _ rfl
  go_enter Tryd.func18, Tryd.ntmps18
  go_wp2_with fail
  refine wp_region_held_drew (S := fun u => Chg none_ w1 u) (by kernel_rfl) ((Chg.refl none_ w1).drew) (fun hS0 => ?_)
  refine take_at 18 (i := 0) (v := .pointer (some ⟨rb, 2, none⟩)) rfl (by kernel_rfl) (by kernel_rfl) (by kernel_rfl) (by kernel_rfl) (fun _ _ _ h => h) (Or.inl ⟨by kernel_rfl, by intro u hSw; (try dsimp only at hSw); go_simp⟩) (by assumption) ?_
  try simp only [Act.put, List.setIfInBounds_toArray, List.set_cons_zero, List.set_cons_succ]
  refine take_at 19 (i := 1) (v := .int .i64 nn) rfl (by kernel_rfl) (by kernel_rfl) (by kernel_rfl) (by kernel_rfl) (fun _ _ _ h => h) (Or.inl ⟨by kernel_rfl, by intro u hSw; have hc := (HIo.out.chg hSw fun f => f).at_ 2 _ rfl; go_simp⟩) (by assumption) ?_
  try simp only [Act.put, List.setIfInBounds_toArray, List.set_cons_zero, List.set_cons_succ]
  refine take_at 20 (i := 2) (v := .int .u32 id) rfl (by kernel_rfl) (by kernel_rfl) (by kernel_rfl) (by kernel_rfl) (fun _ _ _ h => h) (Or.inl ⟨by kernel_rfl, by intro u hSw; (try dsimp only at hSw); go_simp⟩) (by assumption) ?_
  try simp only [Act.put, List.setIfInBounds_toArray, List.set_cons_zero, List.set_cons_succ]
  refine take_at 21 (i := 3) (v := .agg #[.int .i64 1, .int .i64 xx, .int .i64 nn, .slice A2 len cap, .int .u32 dl, .bool fl, .int .i64 c0, .int .i64 c1, .int .i64 c2, .int .i64 c3, .int .i64 c4, .int .i64 c5, .int .i64 c6, .int .i64 c7]) rfl (by kernel_rfl) (by kernel_rfl) (by kernel_rfl) (by kernel_rfl) (fun _ _ _ h => h) (Or.inl ⟨by kernel_rfl, fun u hSw => yields_load_part 45 (.tmp 3) rfl rb 0 rfl [.int .i64 1, .int .i64 xx, .int .i64 nn, .slice A2 len cap, .int .u32 dl, .bool fl, .int .i64 c0, .int .i64 c1, .int .i64 c2, .int .i64 c3, .int .i64 c4, .int .i64 c5, .int .i64 c6, .int .i64 c7] (HIo.out.chg hSw fun f => f) rfl Tryd.underlying45 rfl szOp⟩) (by assumption) ?_
  try simp only [Act.put, List.setIfInBounds_toArray, List.set_cons_zero, List.set_cons_succ]
  refine take_at 23 (i := 5) (v := .pointer (some ⟨rb, 5, none⟩)) rfl (by kernel_rfl) (by kernel_rfl) (by kernel_rfl) (by kernel_rfl) (fun _ _ _ h => h) (Or.inl ⟨by kernel_rfl, by intro u hSw; (try dsimp only at hSw); go_simp⟩) (by assumption) ?_
  try simp only [Act.put, List.setIfInBounds_toArray, List.set_cons_zero, List.set_cons_succ]
  refine take_at 24 (i := 6) (v := .bool fl) rfl (by kernel_rfl) (by kernel_rfl) (by kernel_rfl) (by kernel_rfl) (fun _ _ _ h => h) (Or.inl ⟨by kernel_rfl, by intro u hSw; have hc := (HIo.out.chg hSw fun f => f).at_ 5 _ rfl; go_simp⟩) (by assumption) ?_
  try simp only [Act.put, List.setIfInBounds_toArray, List.set_cons_zero, List.set_cons_succ]
  refine wpAnyH_ready (rs := [4]) (by kernel_rfl) (by simp) ?_
  refine AllReadyH.cons rfl (fun K hK => ?_) AllReadyH.nil
  go_simp
  refine (HCf.out w1 _ hS0).mono ?_
  rintro e u1 ⟨rfl, hS1⟩
  try go_simp
  refine hK.out _ _ hS1 (fun _ => ?_)
  clear hK K
  try simp only [Act.put, List.setIfInBounds_toArray, List.set_cons_zero, List.set_cons_succ]
  refine wpAnyH_ready (rs := [7]) (by kernel_rfl) (by simp) ?_
  refine AllReadyH.cons rfl (fun K hK => ?_) AllReadyH.nil
  go_simp
  refine (HNw.out u1 (HS1.out.1.below (hS1.old HS1.out.2.2)) (HS1.out.2.1.below (hS1.old HS1.out.2.2)) (Nat.le_trans HS1.out.2.2 hS1.size)).mono ?_
  rintro e u2 ⟨q, rfl, hpq, cq⟩
  have HPq := Lib.hid hpq
  have HCq := Lib.hid cq
  have hS2 := hS1.trans cq
  clear hpq cq
  try go_simp
  refine hK.out _ _ hS2 (fun _ => ?_)
  clear hK K
  try simp only [Act.put, List.setIfInBounds_toArray, List.set_cons_zero, List.set_cons_succ]
  refine take_at 17 (i := 8) (v := .tuple #[.pointer (some ⟨q, 0, none⟩), .nilIface]) rfl (by kernel_rfl) (by kernel_rfl) (by kernel_rfl) (by kernel_rfl) (fun _ _ _ h => h) (Or.inl ⟨by kernel_rfl, by intro u hSw; (try dsimp only at hSw); go_simp⟩) (by assumption) ?_
  try simp only [Act.put, List.setIfInBounds_toArray, List.set_cons_zero, List.set_cons_succ]
  refine take_at 26 (i := 9) (v := .pointer (some ⟨q, 0, none⟩)) rfl (by kernel_rfl) (by kernel_rfl) (by kernel_rfl) (by kernel_rfl) (fun _ _ _ h => h) (Or.inl ⟨by kernel_rfl, by intro u hSw; (try dsimp only at hSw); go_simp⟩) (by assumption) ?_
  try simp only [Act.put, List.setIfInBounds_toArray, List.set_cons_zero, List.set_cons_succ]
  refine take_at 27 (i := 10) (v := .nilIface) rfl (by kernel_rfl) (by kernel_rfl) (by kernel_rfl) (by kernel_rfl) (fun _ _ _ h => h) (Or.inl ⟨by kernel_rfl, by intro u hSw; (try dsimp only at hSw); go_simp⟩) (by assumption) ?_
  try simp only [Act.put, List.setIfInBounds_toArray, List.set_cons_zero, List.set_cons_succ]
  refine wpAnyH_ready (rs := [11]) (by kernel_rfl) (by simp) ?_
  refine AllReadyH.cons rfl (fun K hK => ?_) AllReadyH.nil
  go_simp
  refine hK.out _ _ (by assumption) (fun _ => ?_)
  clear hK K
  try simp only [Act.put, List.setIfInBounds_toArray, List.set_cons_zero, List.set_cons_succ]
  refine wpAnyH_ready (rs := [12]) (by kernel_rfl) (by simp) ?_
  refine AllReadyH.cons rfl (fun K hK => ?_) AllReadyH.nil
  go_simp
  refine hK.out _ _ (by assumption) (fun _ => ?_)
  clear hK K
  try simp only [Act.put, List.setIfInBounds_toArray, List.set_cons_zero, List.set_cons_succ]
  refine wpAnyH_done (by kernel_rfl) ?_ _
  have HC3 := Lib.hid hS2
  obtain ⟨w3, hw3⟩ : ∃ y, y = u2 := ⟨_, rfl⟩
  rw [← hw3] at HC3 ⊢
  rw [← hw3] at HPq HCq
  obtain ⟨wn, hwn⟩ : ∃ y, y = u1 := ⟨_, rfl⟩
  rw [← hwn] at HPq HCq
  have HCn : Hid (Chg none_ w1 wn) := by
    show Chg _ _ _
    rw [hwn]
    exact hS1
  clear hwn
  clear hS0 hS1 hS2 hw3
  go_upto_region 4 with fail
  have HIo3 := Lib.hid (HIo.out.chg HC3.out fun f => f)
  have HgL : Hid (g < w3.heap.size) := by
    show _ < _
    have q1 := H.out.im.lt
    have q2 := HC1.out.size
    have q3 := HC3.out.size
    omega
  go_cut [8, 9] (fun v8 v9 wx => ∃ r8, v8 = .pointer (some ⟨r8, 0, none⟩) ∧ v9 = .int .i64 0 ∧ Is wx r8 51 #[.int .u32 id, .int .i64 (W : Int), .int .i64 (stage : Int), .int .i64 (frame : Int), .bool fl, .bool false, .slice none 0 0, .bool false, .bool false, .int .i64 (W : Int), .slice none 0 0, .int .i64 (W : Int), .int .i64 0, .bool false, .bool false, .bool false, .bool false] ∧ w3.heap.size ≤ r8 ∧ Chg none_ w3 wx)
  case first =>
    refine wp_region_held_drew (S := fun u => Chg none_ w3 u) (by kernel_rfl) ((Chg.refl none_ w3).drew) (fun hS0 => ?_)
    refine take_at 29 (i := 0) (v := .pointer (some ⟨rb, 2, none⟩)) rfl (by kernel_rfl) (by kernel_rfl) (by kernel_rfl) (by kernel_rfl) (fun _ _ _ h => h) (Or.inl ⟨by kernel_rfl, by intro u hSw; (try dsimp only at hSw); go_simp⟩) (by assumption) ?_
    try simp only [Act.put, List.setIfInBounds_toArray, List.set_cons_zero, List.set_cons_succ]
    refine take_at 30 (i := 1) (v := .int .i64 nn) rfl (by kernel_rfl) (by kernel_rfl) (by kernel_rfl) (by kernel_rfl) (fun _ _ _ h => h) (Or.inl ⟨by kernel_rfl, by intro u hSw; have hc := (HIo3.out.chg hSw fun f => f).at_ 2 _ rfl; go_simp⟩) (by assumption) ?_
    try simp only [Act.put, List.setIfInBounds_toArray, List.set_cons_zero, List.set_cons_succ]
    refine take_at 31 (i := 2) (v := .int .u32 id) rfl (by kernel_rfl) (by kernel_rfl) (by kernel_rfl) (by kernel_rfl) (fun _ _ _ h => h) (Or.inl ⟨by kernel_rfl, by intro u hSw; (try dsimp only at hSw); go_simp⟩) (by assumption) ?_
    try simp only [Act.put, List.setIfInBounds_toArray, List.set_cons_zero, List.set_cons_succ]
    refine take_at 32 (i := 3) (v := .agg #[.int .i64 1, .int .i64 xx, .int .i64 nn, .slice A2 len cap, .int .u32 dl, .bool fl, .int .i64 c0, .int .i64 c1, .int .i64 c2, .int .i64 c3, .int .i64 c4, .int .i64 c5, .int .i64 c6, .int .i64 c7]) rfl (by kernel_rfl) (by kernel_rfl) (by kernel_rfl) (by kernel_rfl) (fun _ _ _ h => h) (Or.inl ⟨by kernel_rfl, fun u hSw => yields_load_part 45 (.tmp 3) rfl rb 0 rfl [.int .i64 1, .int .i64 xx, .int .i64 nn, .slice A2 len cap, .int .u32 dl, .bool fl, .int .i64 c0, .int .i64 c1, .int .i64 c2, .int .i64 c3, .int .i64 c4, .int .i64 c5, .int .i64 c6, .int .i64 c7] (HIo3.out.chg hSw fun f => f) rfl Tryd.underlying45 rfl szOp⟩) (by assumption) ?_
    try simp only [Act.put, List.setIfInBounds_toArray, List.set_cons_zero, List.set_cons_succ]
    refine take_at 34 (i := 5) (v := .pointer (some ⟨rb, 5, none⟩)) rfl (by kernel_rfl) (by kernel_rfl) (by kernel_rfl) (by kernel_rfl) (fun _ _ _ h => h) (Or.inl ⟨by kernel_rfl, by intro u hSw; (try dsimp only at hSw); go_simp⟩) (by assumption) ?_
    try simp only [Act.put, List.setIfInBounds_toArray, List.set_cons_zero, List.set_cons_succ]
    refine take_at 35 (i := 6) (v := .bool fl) rfl (by kernel_rfl) (by kernel_rfl) (by kernel_rfl) (by kernel_rfl) (fun _ _ _ h => h) (Or.inl ⟨by kernel_rfl, by intro u hSw; have hc := (HIo3.out.chg hSw fun f => f).at_ 5 _ rfl; go_simp⟩) (by assumption) ?_
    try simp only [Act.put, List.setIfInBounds_toArray, List.set_cons_zero, List.set_cons_succ]
    obtain ⟨u0, hu0⟩ : ∃ y, w3.drew = y := ⟨_, rfl⟩
    rw [hu0] at hS0 ⊢
    clear hu0
    refine wpAnyH_ready (rs := [4, 11]) (by kernel_rfl) (by simp) ?_
    refine AllReadyH.cons rfl (fun K hK => ?_) (AllReadyH.cons rfl (fun K hK => ?_) AllReadyH.nil)
    · go_simp
      refine (HCf.out w3 _ hS0).mono ?_
      rintro e u1 ⟨rfl, hS1⟩
      try go_simp
      refine hK.out _ _ hS1 (fun _ => ?_)
      clear hK K
      try simp only [Act.put, List.setIfInBounds_toArray, List.set_cons_zero, List.set_cons_succ]
      refine wpAnyH_ready (rs := [7, 11]) (by kernel_rfl) (by simp) ?_
      refine AllReadyH.cons rfl (fun K hK => ?_) (AllReadyH.cons rfl (fun K hK => ?_) AllReadyH.nil)
      · go_simp
        refine (HRw.out w3 _ hS1).mono ?_
        rintro e u2 ⟨rfl, hS2⟩
        try go_simp
        refine hK.out _ _ hS2 (fun _ => ?_)
        clear hK K
        try simp only [Act.put, List.setIfInBounds_toArray, List.set_cons_zero, List.set_cons_succ]
        rw [show rfNew id fl W stage frame = .agg #[.int .u32 id, .int .i64 (W : Int), .int .i64 (stage : Int), .int .i64 (frame : Int), .bool fl, .bool false, .slice none 0 0, .bool false, .bool false, .int .i64 (W : Int), .slice none 0 0, .int .i64 (W : Int), .int .i64 0, .bool false, .bool false, .bool false, .bool false] from rfl]
        refine take_at 28 (i := 8) (v := .tuple #[.agg #[.int .u32 id, .int .i64 (W : Int), .int .i64 (stage : Int), .int .i64 (frame : Int), .bool fl, .bool false, .slice none 0 0, .bool false, .bool false, .int .i64 (W : Int), .slice none 0 0, .int .i64 (W : Int), .int .i64 0, .bool false, .bool false, .bool false, .bool false], .int .i64 0]) rfl (by kernel_rfl) (by kernel_rfl) (by kernel_rfl) (by kernel_rfl) (fun _ _ _ h => h) (Or.inl ⟨by kernel_rfl, by intro u hSw; (try dsimp only at hSw); go_simp⟩) (by assumption) ?_
        try simp only [Act.put, List.setIfInBounds_toArray, List.set_cons_zero, List.set_cons_succ]
        refine take_at 37 (i := 9) (v := .agg #[.int .u32 id, .int .i64 (W : Int), .int .i64 (stage : Int), .int .i64 (frame : Int), .bool fl, .bool false, .slice none 0 0, .bool false, .bool false, .int .i64 (W : Int), .slice none 0 0, .int .i64 (W : Int), .int .i64 0, .bool false, .bool false, .bool false, .bool false]) rfl (by kernel_rfl) (by kernel_rfl) (by kernel_rfl) (by kernel_rfl) (fun _ _ _ h => h) (Or.inl ⟨by kernel_rfl, by intro u hSw; (try dsimp only at hSw); go_simp⟩) (by assumption) ?_
        try simp only [Act.put, List.setIfInBounds_toArray, List.set_cons_zero, List.set_cons_succ]
        refine take_at 38 (i := 10) (v := .int .i64 0) rfl (by kernel_rfl) (by kernel_rfl) (by kernel_rfl) (by kernel_rfl) (fun _ _ _ h => h) (Or.inl ⟨by kernel_rfl, by intro u hSw; (try dsimp only at hSw); go_simp⟩) (by assumption) ?_
        try simp only [Act.put, List.setIfInBounds_toArray, List.set_cons_zero, List.set_cons_succ]
        refine wpAnyH_ready (rs := [11]) (by kernel_rfl) (by simp) ?_
        refine AllReadyH.cons rfl (fun K hK => ?_) AllReadyH.nil
        go_simp
        have hI2 : Is (u2.alloc (.cells #[.int .u32 0, .int .i64 0, .int .i64 0, .int .i64 0, .bool false, .bool false, .slice none 0 0, .bool false, .bool false, .int .i64 0, .slice none 0 0, .int .i64 0, .int .i64 0, .bool false, .bool false, .bool false, .bool false] 51)) u2.heap.size 51 #[.int .u32 0, .int .i64 0, .int .i64 0, .int .i64 0, .bool false, .bool false, .slice none 0 0, .bool false, .bool false, .int .i64 0, .slice none 0 0, .int .i64 0, .int .i64 0, .bool false, .bool false, .bool false, .bool false] := Is.new u2 _ _
        have hz2 : w3.heap.size ≤ u2.heap.size := hS2.size
        have hS2a := hS2.alloc (.cells #[.int .u32 0, .int .i64 0, .int .i64 0, .int .i64 0, .bool false, .bool false, .slice none 0 0, .bool false, .bool false, .int .i64 0, .slice none 0 0, .int .i64 0, .int .i64 0, .bool false, .bool false, .bool false, .bool false] 51)
        refine hK.out _ _ hS2a (fun _ => ?_)
        clear hK K
        try simp only [Act.put, List.setIfInBounds_toArray, List.set_cons_zero, List.set_cons_succ]
        refine wpAnyH_ready (rs := [12]) (by kernel_rfl) (by simp) ?_
        refine AllReadyH.cons rfl (fun K hK => ?_) AllReadyH.nil
        refine step_store_part rfl 51 (.tmp 8) (.tmp 37) rfl u2.heap.size 0 rfl (.agg #[.int .u32 id, .int .i64 (W : Int), .int .i64 (stage : Int), .int .i64 (frame : Int), .bool fl, .bool false, .slice none 0 0, .bool false, .bool false, .int .i64 (W : Int), .slice none 0 0, .int .i64 (W : Int), .int .i64 0, .bool false, .bool false, .bool false, .bool false]) rfl [.int .u32 id, .int .i64 (W : Int), .int .i64 (stage : Int), .int .i64 (frame : Int), .bool fl, .bool false, .slice none 0 0, .bool false, .bool false, .int .i64 (W : Int), .slice none 0 0, .int .i64 (W : Int), .int .i64 0, .bool false, .bool false, .bool false, .bool false] hI2 rfl (Nat.le_refl 17) rfl szSt _ rfl ?_
        intro w4 hi4 hc4
        have hS9 : Chg none_ w3 w4 := (hS2a).then hc4 fun k hk e => by omega
        refine hK.out _ _ hS9 (fun _ => ?_)
        clear hK K
        try simp only [Act.put, List.setIfInBounds_toArray, List.set_cons_zero, List.set_cons_succ]
        refine wpAnyH_ready (rs := [13]) (by kernel_rfl) (by simp) ?_
        refine AllReadyH.cons rfl (fun K hK => ?_) AllReadyH.nil
        go_simp
        refine hK.out _ _ hS9 (fun _ => ?_)
        clear hK K
        try simp only [Act.put, List.setIfInBounds_toArray, List.set_cons_zero, List.set_cons_succ]
        refine wpAnyH_done (by kernel_rfl) ?_ _
        go_wp2_with fail
        go_meet
        exact ⟨_, rfl, rfl, hi4, by omega, hS9⟩
      · go_simp
        have hI1 : Is (u1.alloc (.cells #[.int .u32 0, .int .i64 0, .int .i64 0, .int .i64 0, .bool false, .bool false, .slice none 0 0, .bool false, .bool false, .int .i64 0, .slice none 0 0, .int .i64 0, .int .i64 0, .bool false, .bool false, .bool false, .bool false] 51)) u1.heap.size 51 #[.int .u32 0, .int .i64 0, .int .i64 0, .int .i64 0, .bool false, .bool false, .slice none 0 0, .bool false, .bool false, .int .i64 0, .slice none 0 0, .int .i64 0, .int .i64 0, .bool false, .bool false, .bool false, .bool false] := Is.new u1 _ _
        have hz1 : w3.heap.size ≤ u1.heap.size := hS1.size
        have hS1a := hS1.alloc (.cells #[.int .u32 0, .int .i64 0, .int .i64 0, .int .i64 0, .bool false, .bool false, .slice none 0 0, .bool false, .bool false, .int .i64 0, .slice none 0 0, .int .i64 0, .int .i64 0, .bool false, .bool false, .bool false, .bool false] 51)
        refine hK.out _ _ hS1a (fun _ => ?_)
        clear hK K
        try simp only [Act.put, List.setIfInBounds_toArray, List.set_cons_zero, List.set_cons_succ]
        refine wpAnyH_ready (rs := [7]) (by kernel_rfl) (by simp) ?_
        refine AllReadyH.cons rfl (fun K hK => ?_) AllReadyH.nil
        go_simp
        refine (HRw.out _ _ (Chg.refl none_ _)).mono ?_
        rintro e u3 ⟨rfl, ku3⟩
        have hIu3 := hI1.chg ku3 fun f => f
        have hSu3 := hS1a.trans ku3
        try go_simp
        refine hK.out _ _ hSu3 (fun _ => ?_)
        clear hK K
        try simp only [Act.put, List.setIfInBounds_toArray, List.set_cons_zero, List.set_cons_succ]
        rw [show rfNew id fl W stage frame = .agg #[.int .u32 id, .int .i64 (W : Int), .int .i64 (stage : Int), .int .i64 (frame : Int), .bool fl, .bool false, .slice none 0 0, .bool false, .bool false, .int .i64 (W : Int), .slice none 0 0, .int .i64 (W : Int), .int .i64 0, .bool false, .bool false, .bool false, .bool false] from rfl]
        refine take_at 28 (i := 8) (v := .tuple #[.agg #[.int .u32 id, .int .i64 (W : Int), .int .i64 (stage : Int), .int .i64 (frame : Int), .bool fl, .bool false, .slice none 0 0, .bool false, .bool false, .int .i64 (W : Int), .slice none 0 0, .int .i64 (W : Int), .int .i64 0, .bool false, .bool false, .bool false, .bool false], .int .i64 0]) rfl (by kernel_rfl) (by kernel_rfl) (by kernel_rfl) (by kernel_rfl) (fun _ _ _ h => h) (Or.inl ⟨by kernel_rfl, by intro u hSw; (try dsimp only at hSw); go_simp⟩) (by assumption) ?_
        try simp only [Act.put, List.setIfInBounds_toArray, List.set_cons_zero, List.set_cons_succ]
        refine take_at 37 (i := 9) (v := .agg #[.int .u32 id, .int .i64 (W : Int), .int .i64 (stage : Int), .int .i64 (frame : Int), .bool fl, .bool false, .slice none 0 0, .bool false, .bool false, .int .i64 (W : Int), .slice none 0 0, .int .i64 (W : Int), .int .i64 0, .bool false, .bool false, .bool false, .bool false]) rfl (by kernel_rfl) (by kernel_rfl) (by kernel_rfl) (by kernel_rfl) (fun _ _ _ h => h) (Or.inl ⟨by kernel_rfl, by intro u hSw; (try dsimp only at hSw); go_simp⟩) (by assumption) ?_
        try simp only [Act.put, List.setIfInBounds_toArray, List.set_cons_zero, List.set_cons_succ]
        refine take_at 38 (i := 10) (v := .int .i64 0) rfl (by kernel_rfl) (by kernel_rfl) (by kernel_rfl) (by kernel_rfl) (fun _ _ _ h => h) (Or.inl ⟨by kernel_rfl, by intro u hSw; (try dsimp only at hSw); go_simp⟩) (by assumption) ?_
        try simp only [Act.put, List.setIfInBounds_toArray, List.set_cons_zero, List.set_cons_succ]
        refine wpAnyH_ready (rs := [12]) (by kernel_rfl) (by simp) ?_
        refine AllReadyH.cons rfl (fun K hK => ?_) AllReadyH.nil
        refine step_store_part rfl 51 (.tmp 8) (.tmp 37) rfl u1.heap.size 0 rfl (.agg #[.int .u32 id, .int .i64 (W : Int), .int .i64 (stage : Int), .int .i64 (frame : Int), .bool fl, .bool false, .slice none 0 0, .bool false, .bool false, .int .i64 (W : Int), .slice none 0 0, .int .i64 (W : Int), .int .i64 0, .bool false, .bool false, .bool false, .bool false]) rfl [.int .u32 id, .int .i64 (W : Int), .int .i64 (stage : Int), .int .i64 (frame : Int), .bool fl, .bool false, .slice none 0 0, .bool false, .bool false, .int .i64 (W : Int), .slice none 0 0, .int .i64 (W : Int), .int .i64 0, .bool false, .bool false, .bool false, .bool false] hIu3 rfl (Nat.le_refl 17) rfl szSt _ rfl ?_
        intro w4 hi4 hc4
        have hS9 : Chg none_ w3 w4 := (hSu3).then hc4 fun k hk e => by omega
        refine hK.out _ _ hS9 (fun _ => ?_)
        clear hK K
        try simp only [Act.put, List.setIfInBounds_toArray, List.set_cons_zero, List.set_cons_succ]
        refine wpAnyH_ready (rs := [13]) (by kernel_rfl) (by simp) ?_
        refine AllReadyH.cons rfl (fun K hK => ?_) AllReadyH.nil
        go_simp
        refine hK.out _ _ hS9 (fun _ => ?_)
        clear hK K
        try simp only [Act.put, List.setIfInBounds_toArray, List.set_cons_zero, List.set_cons_succ]
        refine wpAnyH_done (by kernel_rfl) ?_ _
        go_wp2_with fail
        go_meet
        exact ⟨_, rfl, rfl, hi4, by omega, hS9⟩
    · go_simp
      have hI0 : Is (u0.alloc (.cells #[.int .u32 0, .int .i64 0, .int .i64 0, .int .i64 0, .bool false, .bool false, .slice none 0 0, .bool false, .bool false, .int .i64 0, .slice none 0 0, .int .i64 0, .int .i64 0, .bool false, .bool false, .bool false, .bool false] 51)) u0.heap.size 51 #[.int .u32 0, .int .i64 0, .int .i64 0, .int .i64 0, .bool false, .bool false, .slice none 0 0, .bool false, .bool false, .int .i64 0, .slice none 0 0, .int .i64 0, .int .i64 0, .bool false, .bool false, .bool false, .bool false] := Is.new u0 _ _
      have hz0 : w3.heap.size ≤ u0.heap.size := hS0.size
      have hS0a := hS0.alloc (.cells #[.int .u32 0, .int .i64 0, .int .i64 0, .int .i64 0, .bool false, .bool false, .slice none 0 0, .bool false, .bool false, .int .i64 0, .slice none 0 0, .int .i64 0, .int .i64 0, .bool false, .bool false, .bool false, .bool false] 51)
      refine hK.out _ _ hS0a (fun _ => ?_)
      clear hK K
      try simp only [Act.put, List.setIfInBounds_toArray, List.set_cons_zero, List.set_cons_succ]
      refine wpAnyH_ready (rs := [4]) (by kernel_rfl) (by simp) ?_
      refine AllReadyH.cons rfl (fun K hK => ?_) AllReadyH.nil
      go_simp
      refine (HCf.out _ _ (Chg.refl none_ _)).mono ?_
      rintro e u2 ⟨rfl, ku2⟩
      have hIu2 := hI0.chg ku2 fun f => f
      have hSu2 := hS0a.trans ku2
      try go_simp
      refine hK.out _ _ hSu2 (fun _ => ?_)
      clear hK K
      try simp only [Act.put, List.setIfInBounds_toArray, List.set_cons_zero, List.set_cons_succ]
      refine wpAnyH_ready (rs := [7]) (by kernel_rfl) (by simp) ?_
      refine AllReadyH.cons rfl (fun K hK => ?_) AllReadyH.nil
      go_simp
      refine (HRw.out _ _ (Chg.refl none_ _)).mono ?_
      rintro e u3 ⟨rfl, ku3⟩
      have hIu3 := hIu2.chg ku3 fun f => f
      have hSu3 := hSu2.trans ku3
      try go_simp
      refine hK.out _ _ hSu3 (fun _ => ?_)
      clear hK K
      try simp only [Act.put, List.setIfInBounds_toArray, List.set_cons_zero, List.set_cons_succ]
      rw [show rfNew id fl W stage frame = .agg #[.int .u32 id, .int .i64 (W : Int), .int .i64 (stage : Int), .int .i64 (frame : Int), .bool fl, .bool false, .slice none 0 0, .bool false, .bool false, .int .i64 (W : Int), .slice none 0 0, .int .i64 (W : Int), .int .i64 0, .bool false, .bool false, .bool false, .bool false] from rfl]
      refine take_at 28 (i := 8) (v := .tuple #[.agg #[.int .u32 id, .int .i64 (W : Int), .int .i64 (stage : Int), .int .i64 (frame : Int), .bool fl, .bool false, .slice none 0 0, .bool false, .bool false, .int .i64 (W : Int), .slice none 0 0, .int .i64 (W : Int), .int .i64 0, .bool false, .bool false, .bool false, .bool false], .int .i64 0]) rfl (by kernel_rfl) (by kernel_rfl) (by kernel_rfl) (by kernel_rfl) (fun _ _ _ h => h) (Or.inl ⟨by kernel_rfl, by intro u hSw; (try dsimp only at hSw); go_simp⟩) (by assumption) ?_
      try simp only [Act.put, List.setIfInBounds_toArray, List.set_cons_zero, List.set_cons_succ]
      refine take_at 37 (i := 9) (v := .agg #[.int .u32 id, .int .i64 (W : Int), .int .i64 (stage : Int), .int .i64 (frame : Int), .bool fl, .bool false, .slice none 0 0, .bool false, .bool false, .int .i64 (W : Int), .slice none 0 0, .int .i64 (W : Int), .int .i64 0, .bool false, .bool false, .bool false, .bool false]) rfl (by kernel_rfl) (by kernel_rfl) (by kernel_rfl) (by kernel_rfl) (fun _ _ _ h => h) (Or.inl ⟨by kernel_rfl, by intro u hSw; (try dsimp only at hSw); go_simp⟩) (by assumption) ?_
      try simp only [Act.put, List.setIfInBounds_toArray, List.set_cons_zero, List.set_cons_succ]
      refine take_at 38 (i := 10) (v := .int .i64 0) rfl (by kernel_rfl) (by kernel_rfl) (by kernel_rfl) (by kernel_rfl) (fun _ _ _ h => h) (Or.inl ⟨by kernel_rfl, by intro u hSw; (try dsimp only at hSw); go_simp⟩) (by assumption) ?_
      try simp only [Act.put, List.setIfInBounds_toArray, List.set_cons_zero, List.set_cons_succ]
      refine wpAnyH_ready (rs := [12]) (by kernel_rfl) (by simp) ?_
      refine AllReadyH.cons rfl (fun K hK => ?_) AllReadyH.nil
      refine step_store_part rfl 51 (.tmp 8) (.tmp 37) rfl u0.heap.size 0 rfl (.agg #[.int .u32 id, .int .i64 (W : Int), .int .i64 (stage : Int), .int .i64 (frame : Int), .bool fl, .bool false, .slice none 0 0, .bool false, .bool false, .int .i64 (W : Int), .slice none 0 0, .int .i64 (W : Int), .int .i64 0, .bool false, .bool false, .bool false, .bool false]) rfl [.int .u32 id, .int .i64 (W : Int), .int .i64 (stage : Int), .int .i64 (frame : Int), .bool fl, .bool false, .slice none 0 0, .bool false, .bool false, .int .i64 (W : Int), .slice none 0 0, .int .i64 (W : Int), .int .i64 0, .bool false, .bool false, .bool false, .bool false] hIu3 rfl (Nat.le_refl 17) rfl szSt _ rfl ?_
      intro w4 hi4 hc4
      have hS9 : Chg none_ w3 w4 := (hSu3).then hc4 fun k hk e => by omega
      refine hK.out _ _ hS9 (fun _ => ?_)
      clear hK K
      try simp only [Act.put, List.setIfInBounds_toArray, List.set_cons_zero, List.set_cons_succ]
      refine wpAnyH_ready (rs := [13]) (by kernel_rfl) (by simp) ?_
      refine AllReadyH.cons rfl (fun K hK => ?_) AllReadyH.nil
      go_simp
      refine hK.out _ _ hS9 (fun _ => ?_)
      clear hK K
      try simp only [Act.put, List.setIfInBounds_toArray, List.set_cons_zero, List.set_cons_succ]
      refine wpAnyH_done (by kernel_rfl) ?_ _
      go_wp2_with fail
      go_meet
      exact ⟨_, rfl, rfl, hi4, by omega, hS9⟩
  case rest =>
    obtain ⟨w4, rfl⟩ : ∃ y, y = wc := ⟨_, rfl⟩
    obtain ⟨r8, rfl, rfl, i4, l4, hS4⟩ := hcut
    have HI4 : Hid (Is w4 r8 51 #[.int .u32 id, .int .i64 (W : Int), .int .i64 (stage : Int), .int .i64 (frame : Int), .bool fl, .bool false, .slice none 0 0, .bool false, .bool false, .int .i64 (W : Int), .slice none 0 0, .int .i64 (W : Int), .int .i64 0, .bool false, .bool false, .bool false, .bool false]) := i4
    have HC4 : Hid (Chg none_ w1 w4) := HC3.out.trans hS4
    have HCn4 : Hid (Chg none_ wn w4) := HCq.out.trans hS4
    have HP4 := Lib.hid (H1.out.keep HC4.out)
    have HNe : Hid (¬ r8 = g) := by
      show ¬ _
      have q1 := HgL.out
      omega
    have HS4 : Hid (Sen B A w4 ∧ Tab B w4) := ⟨HS1.out.1.below (HC4.out.old HS1.out.2.2), HS1.out.2.1.below (HC4.out.old HS1.out.2.2)⟩
    have HPq4 : Hid (Pst w4 (fun k => wn.heap.size ≤ k) q (Sm.new id fl W stage frame)) := (HPq.out.keep hS4)
    clear i4 l4 hS4
    go_wp2_with fail
    refine (code_nil w4).mono ?_
    rintro e w' ⟨rfl, rfl⟩
    go_wp2_with fail
    refine wp_region_held_drew (S := fun u => Is u r8 51 #[.int .u32 id, .int .i64 (W : Int), .int .i64 (stage : Int), .int .i64 (frame : Int), .bool fl, .bool false, .slice none 0 0, .bool false, .bool false, .int .i64 (W : Int), .slice none 0 0, .int .i64 (W : Int), .int .i64 0, .bool false, .bool false, .bool false, .bool false]) (by kernel_rfl) HI4.out.dr1 (fun hS0 => ?_)
    refine take_at 52 (i := 0) (v := .pointer (some ⟨g, 0, none⟩)) rfl (by kernel_rfl) (by kernel_rfl) (by kernel_rfl) (by kernel_rfl) (fun _ _ _ h => h) (Or.inl ⟨by kernel_rfl, by intro u hSw; (try dsimp only at hSw); go_simp⟩) (by assumption) ?_
    try simp only [Act.put, List.setIfInBounds_toArray, List.set_cons_zero, List.set_cons_succ]
    refine take_at 53 (i := 1) (v := .int .i64 (a : Int)) rfl (by kernel_rfl) (by kernel_rfl) (by kernel_rfl) (by kernel_rfl) (fun _ _ _ h => h) (Or.inl ⟨by kernel_rfl, by intro u hSw; (try dsimp only at hSw); go_simp⟩) (by assumption) ?_
    try simp only [Act.put, List.setIfInBounds_toArray, List.set_cons_zero, List.set_cons_succ]
    refine take_at 54 (i := 2) (v := .pointer (some ⟨g, 0, none⟩)) rfl (by kernel_rfl) (by kernel_rfl) (by kernel_rfl) (by kernel_rfl) (fun _ _ _ h => h) (Or.inl ⟨by kernel_rfl, by intro u hSw; (try dsimp only at hSw); go_simp⟩) (by assumption) ?_
    try simp only [Act.put, List.setIfInBounds_toArray, List.set_cons_zero, List.set_cons_succ]
    refine take_at 55 (i := 3) (v := .int .i64 (a : Int)) rfl (by kernel_rfl) (by kernel_rfl) (by kernel_rfl) (by kernel_rfl) (fun _ _ _ h => h) (Or.inl ⟨by kernel_rfl, by intro u hSw; (try dsimp only at hSw); go_simp⟩) (by assumption) ?_
    try simp only [Act.put, List.setIfInBounds_toArray, List.set_cons_zero, List.set_cons_succ]
    refine take_at 56 (i := 4) (v := .pointer (some ⟨g, 0, none⟩)) rfl (by kernel_rfl) (by kernel_rfl) (by kernel_rfl) (by kernel_rfl) (fun _ _ _ h => h) (Or.inl ⟨by kernel_rfl, by intro u hSw; (try dsimp only at hSw); go_simp⟩) (by assumption) ?_
    try simp only [Act.put, List.setIfInBounds_toArray, List.set_cons_zero, List.set_cons_succ]
    refine take_at 57 (i := 5) (v := .int .i64 (a : Int)) rfl (by kernel_rfl) (by kernel_rfl) (by kernel_rfl) (by kernel_rfl) (fun _ _ _ h => h) (Or.inl ⟨by kernel_rfl, by intro u hSw; (try dsimp only at hSw); go_simp⟩) (by assumption) ?_
    try simp only [Act.put, List.setIfInBounds_toArray, List.set_cons_zero, List.set_cons_succ]
    refine take_at 58 (i := 6) (v := .pointer (some ⟨q, 0, none⟩)) rfl (by kernel_rfl) (by kernel_rfl) (by kernel_rfl) (by kernel_rfl) (fun _ _ _ h => h) (Or.inl ⟨by kernel_rfl, by intro u hSw; (try dsimp only at hSw); go_simp⟩) (by assumption) ?_
    try simp only [Act.put, List.setIfInBounds_toArray, List.set_cons_zero, List.set_cons_succ]
    refine take_at 59 (i := 7) (v := .agg #[.int .u32 id, .int .i64 (W : Int), .int .i64 (stage : Int), .int .i64 (frame : Int), .bool fl, .bool false, .slice none 0 0, .bool false, .bool false, .int .i64 (W : Int), .slice none 0 0, .int .i64 (W : Int), .int .i64 0, .bool false, .bool false, .bool false, .bool false]) rfl (by kernel_rfl) (by kernel_rfl) (by kernel_rfl) (by kernel_rfl) (fun _ _ _ h => h) (Or.inl ⟨by kernel_rfl, fun u hSw => yields_load_part 51 (.tmp 8) rfl r8 0 rfl [.int .u32 id, .int .i64 (W : Int), .int .i64 (stage : Int), .int .i64 (frame : Int), .bool fl, .bool false, .slice none 0 0, .bool false, .bool false, .int .i64 (W : Int), .slice none 0 0, .int .i64 (W : Int), .int .i64 0, .bool false, .bool false, .bool false, .bool false] hSw rfl Tryd.underlying51 rfl szSt⟩) (by assumption) ?_
    try simp only [Act.put, List.setIfInBounds_toArray, List.set_cons_zero, List.set_cons_succ]
    refine take_at 60 (i := 8) (v := .pointer (some ⟨g, 0, none⟩)) rfl (by kernel_rfl) (by kernel_rfl) (by kernel_rfl) (by kernel_rfl) (fun _ _ _ h => h) (Or.inl ⟨by kernel_rfl, by intro u hSw; (try dsimp only at hSw); go_simp⟩) (by assumption) ?_
    try simp only [Act.put, List.setIfInBounds_toArray, List.set_cons_zero, List.set_cons_succ]
    refine take_at 61 (i := 9) (v := .pointer (some ⟨g, 0, none⟩)) rfl (by kernel_rfl) (by kernel_rfl) (by kernel_rfl) (by kernel_rfl) (fun _ _ _ h => h) (Or.inl ⟨by kernel_rfl, by intro u hSw; (try dsimp only at hSw); go_simp⟩) (by assumption) ?_
    try simp only [Act.put, List.setIfInBounds_toArray, List.set_cons_zero, List.set_cons_succ]
    refine take_at 62 (i := 10) (v := .pointer (some ⟨g, a, none⟩)) rfl (by kernel_rfl) (by kernel_rfl) (by kernel_rfl) (by kernel_rfl) (fun _ _ _ h => h) (Or.inl ⟨by kernel_rfl, by intro u hSw; (try dsimp only at hSw); go_simp⟩) (by assumption) ?_
    try simp only [Act.put, List.setIfInBounds_toArray, List.set_cons_zero, List.set_cons_succ]
    refine take_at 63 (i := 12) (v := .pointer (some ⟨g, 0, none⟩)) rfl (by kernel_rfl) (by kernel_rfl) (by kernel_rfl) (by kernel_rfl) (fun _ _ _ h => h) (Or.inl ⟨by kernel_rfl, by intro u hSw; (try dsimp only at hSw); go_simp⟩) (by assumption) ?_
    try simp only [Act.put, List.setIfInBounds_toArray, List.set_cons_zero, List.set_cons_succ]
    refine take_at 64 (i := 13) (v := .pointer (some ⟨g, 2, none⟩)) rfl (by kernel_rfl) (by kernel_rfl) (by kernel_rfl) (by kernel_rfl) (fun _ _ _ h => h) (Or.inl ⟨by kernel_rfl, by intro u hSw; (try dsimp only at hSw); go_simp⟩) (by assumption) ?_
    try simp only [Act.put, List.setIfInBounds_toArray, List.set_cons_zero, List.set_cons_succ]
    refine take_at 66 (i := 16) (v := .pointer (some ⟨g, 0, none⟩)) rfl (by kernel_rfl) (by kernel_rfl) (by kernel_rfl) (by kernel_rfl) (fun _ _ _ h => h) (Or.inl ⟨by kernel_rfl, by intro u hSw; (try dsimp only at hSw); go_simp⟩) (by assumption) ?_
    try simp only [Act.put, List.setIfInBounds_toArray, List.set_cons_zero, List.set_cons_succ]
    refine take_at 67 (i := 17) (v := .pointer (some ⟨g, 36, none⟩)) rfl (by kernel_rfl) (by kernel_rfl) (by kernel_rfl) (by kernel_rfl) (fun _ _ _ h => h) (Or.inl ⟨by kernel_rfl, by intro u hSw; (try dsimp only at hSw); go_simp⟩) (by assumption) ?_
    try simp only [Act.put, List.setIfInBounds_toArray, List.set_cons_zero, List.set_cons_succ]
    refine wpAnyH_ready (rs := [11]) (by kernel_rfl) (by simp) ?_
    refine AllReadyH.cons rfl (fun K hK => ?_) AllReadyH.nil
    refine step_store_part rfl 48 (.tmp 62) (.tmp 58) rfl g (a) rfl (.pointer (some ⟨q, 0, none⟩)) rfl [.pointer (some ⟨q, 0, none⟩)] HP4.out.im.dr1 rfl (by rw [prV_size H1.out.x17]; have := HA.out; simp only [List.length_cons, List.length_nil]; omega) rfl szP _ ((put_one _ _ _ (by rw [prV_size H1.out.x17]; have := HA.out; omega)).trans (prV_putp HA.out _)) ?_
    intro w5 hiw5 hcw5
    refine hK.out _ _ (HI4.out.dr1.chg hcw5 fun e => HNe.out e) (fun _ => ?_)
    clear hK K
    try simp only [Act.put, List.setIfInBounds_toArray, List.set_cons_zero, List.set_cons_succ]
    refine take_at 65 (i := 14) (v := .pointer (some ⟨g, 2 + a * 17, none⟩)) rfl (by kernel_rfl) (by kernel_rfl) (by kernel_rfl) (by kernel_rfl) (fun _ _ _ h => h) (Or.inl ⟨by kernel_rfl, by intro u hSw; (try dsimp only at hSw); go_simp⟩) (by assumption) ?_
    try simp only [Act.put, List.setIfInBounds_toArray, List.set_cons_zero, List.set_cons_succ]
    refine wpAnyH_ready (rs := [15]) (by kernel_rfl) (by simp) ?_
    refine AllReadyH.cons rfl (fun K hK => ?_) AllReadyH.nil
    refine step_store_part rfl 51 (.tmp 65) (.tmp 59) rfl g (2 + a * 17) rfl (.agg #[.int .u32 id, .int .i64 (W : Int), .int .i64 (stage : Int), .int .i64 (frame : Int), .bool fl, .bool false, .slice none 0 0, .bool false, .bool false, .int .i64 (W : Int), .slice none 0 0, .int .i64 (W : Int), .int .i64 0, .bool false, .bool false, .bool false, .bool false]) rfl [.int .u32 id, .int .i64 (W : Int), .int .i64 (stage : Int), .int .i64 (frame : Int), .bool fl, .bool false, .slice none 0 0, .bool false, .bool false, .int .i64 (W : Int), .slice none 0 0, .int .i64 (W : Int), .int .i64 0, .bool false, .bool false, .bool false, .bool false] hiw5 rfl (by rw [prV_size H1.out.x17]; have := HA.out; simp only [List.length_cons, List.length_nil]; omega) rfl szSt _ (prV_putx H1.out.x17 HA.out (y := .agg #[.int .u32 id, .int .i64 (W : Int), .int .i64 (stage : Int), .int .i64 (frame : Int), .bool fl, .bool false, .slice none 0 0, .bool false, .bool false, .int .i64 (W : Int), .slice none 0 0, .int .i64 (W : Int), .int .i64 0, .bool false, .bool false, .bool false, .bool false]) (vs := [.int .u32 id, .int .i64 (W : Int), .int .i64 (stage : Int), .int .i64 (frame : Int), .bool fl, .bool false, .slice none 0 0, .bool false, .bool false, .int .i64 (W : Int), .slice none 0 0, .int .i64 (W : Int), .int .i64 0, .bool false, .bool false, .bool false, .bool false]) rfl rfl) ?_
    intro w6 hiw6 hcw6
    refine hK.out _ _ ((HI4.out.dr1.chg hcw5 fun e => HNe.out e).chg hcw6 fun e => HNe.out e) (fun _ => ?_)
    clear hK K
    try simp only [Act.put, List.setIfInBounds_toArray, List.set_cons_zero, List.set_cons_succ]
    refine take_at 68 (i := 18) (v := .pointer (some ⟨g, 36 + a, none⟩)) rfl (by kernel_rfl) (by kernel_rfl) (by kernel_rfl) (by kernel_rfl) (fun _ _ _ h => h) (Or.inl ⟨by kernel_rfl, by intro u hSw; (try dsimp only at hSw); go_simp⟩) (by assumption) ?_
    try simp only [Act.put, List.setIfInBounds_toArray, List.set_cons_zero, List.set_cons_succ]
    refine wpAnyH_ready (rs := [19]) (by kernel_rfl) (by simp) ?_
    refine AllReadyH.cons rfl (fun K hK => ?_) AllReadyH.nil
    refine step_store_part rfl 4 (.tmp 68) (.const (.bool false)) rfl g (36 + a) rfl (.bool false) rfl [.bool false] hiw6 rfl (by rw [prV_size (x17_upd H1.out.x17 ⟨_, rfl, rfl, rfl, rfl⟩)]; have := HA.out; simp only [List.length_cons, List.length_nil]; omega) rfl szBo _ ((put_one _ _ _ (by rw [prV_size (x17_upd H1.out.x17 ⟨_, rfl, rfl, rfl, rfl⟩)]; have := HA.out; omega)).trans (prV_putn (x17_upd H1.out.x17 ⟨_, rfl, rfl, rfl, rfl⟩) HA.out _)) ?_
    intro w7 hiw7 hcw7
    refine hK.out _ _ (((HI4.out.dr1.chg hcw5 fun e => HNe.out e).chg hcw6 fun e => HNe.out e).chg hcw7 fun e => HNe.out e) (fun _ => ?_)
    clear hK K
    try simp only [Act.put, List.setIfInBounds_toArray, List.set_cons_zero, List.set_cons_succ]
    refine wpAnyH_done (by kernel_rfl) ?_ _
    have HE := Lib.hid ((H1.out.keep HCn.out).fresh HA.out HPq4.out HCn4.out (((((Chg.refl (fun k => k = g) w4).drew.trans hcw5).trans hcw6).trans hcw7)) (fun u U => rf_new u U fl HB.out.1 HB.out.2.1 HB.out.2.2.1 HB.out.2.2.2.1 HB.out.2.2.2.2.2.1 HB.out.2.2.2.2.2.2.1 HB.out.2.2.2.2.2.2.2) hiw7)
    clear hiw5 hcw5 hiw6 hcw6 hiw7 hcw7
    obtain ⟨⟨T', p', x', n', s', h'⟩, cc⟩ := HE.out
    have H7 := Lib.hid h'
    have HC7 : Hid (Chg (fun k => L ≤ k) w w7) := ((HC1.out.trans HCn.out).more fun _ _ f => f.elim).trans cc
    clear h' cc HE
    have HS7 : Hid (Sen B A w7 ∧ Tab B w7) := ⟨HS.out.1.below (HC7.out.below (fun k _ hk => Nat.le_trans HS.out.2.2.1 hk) HS.out.2.2.2), HS.out.2.1.below (HC7.out.below (fun k _ hk => Nat.le_trans HS.out.2.2.1 hk) HS.out.2.2.2)⟩
    go_wp2_with fail
    refine (looks_any w7 H7.out HS7.out.1 HS7.out.2 HS.out.2.2.1 HA.out).mono ?_
    rintro e w8 ⟨rfl, c8⟩
    have HE := Lib.hid c8
    clear c8
    go_wp2
    go_ret
    exact ⟨rfl, ⟨_, _, _, _, _, H7.out.keep HE.out⟩, HC7.out.trans (HE.out.more fun _ _ f => f.elim)⟩
end
end Go.Proofs.YthalmjjbamglgaaDoor
