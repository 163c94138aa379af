/-
  stream.New by contract; culvertlaw10.open.
  No condition of its own: the facts 'Sen' and 'Tab' on the world.
-/
import Derived.Test.YthalmjjbamglgaaDoorStr6
namespace Go.Proofs.YthalmjjbamglgaaDoor
open Go.RowKit

section
variable {B : Nat} {a : Nat → Addr}
def Sm.new (id : Int) (mine : Bool) (W stage frame : Nat) : Sm := ⟨id, mine, false, frame, [], stage, false, false, Cr.new W, [], false, false, Gr.new W, false, false⟩
theorem Sm.new_ok {id : Int} {mine : Bool} {W stage frame : Nat} (h1 : 1 ≤ id) (h2 : id ≤ 4294967295) (w1 : 1 ≤ W) (w2 : W ≤ 2147483647) (s2 : stage ≤ 1048576) (f1 : 1 ≤ frame) (f2 : frame ≤ 65536) : (Sm.new id mine W stage frame).Ok :=
  ⟨h1, h2, f1, f2, s2, Cr.new_ok (by omega) (by omega), Gr.new_ok (by omega) (by omega), rfl, fun _ _ _ => rfl⟩
set_option maxRecDepth 100000 in
set_option maxHeartbeats 4000000 in
theorem snew_ok (w : World) (hs : Sen B a w) (ht : Tab B w) (hB : B ≤ w.heap.size) (id : Int) (mine : Bool) (W stage frame : Nat) (x3 x4 x5 x6 x7 : Value) (h1 : 1 ≤ id) (h2 : id ≤ 4294967295) (w1 : 1 ≤ W) (w2 : W ≤ 2147483647) (s1 : 1 ≤ stage) (s2 : stage ≤ 1048576) (f1 : 1 ≤ frame) (f2 : frame ≤ 65536) :
    Calls Tryd.prog 41 #[.int .u32 id, .agg #[.int .i64 (W : Int), .int .i64 (stage : Int), .int .i64 (frame : Int), x3, x4, x5, x6, x7], .bool mine] w fun e w' => ∃ g, e = .returned (.tuple #[.pointer (some ⟨g, 0, none⟩), .nilIface]) ∧ Pst w' (fun k => w.heap.size ≤ k) g (Sm.new id mine W stage frame) ∧ Chg none_ w w' := by
  have HS := Lib.hid hs
  have HT := Lib.hid ht
  have HB := Lib.hid hB
  have hid0 : ¬ id = 0 := by omega
  have t1 : ¬ (stage : Int) < 1 := by omega
  have t2 : (stage : Int) ≤ 1048576 := by omega
  have t3 : ¬ (frame : Int) < 1 := by omega
  have t4 : (frame : Int) ≤ 65536 := by omega
  have HOk := Lib.hid (Sm.new_ok (mine := mine) h1 h2 w1 w2 s2 f1 f2)
  have HN := Lib.hid (And.intro w1 (And.intro w2 s2))
  obtain ⟨w0, hw0⟩ : ∃ y, w.alloc (.cells #[.int .i64 (W : Int), .int .i64 (stage : Int), .int .i64 (frame : Int), x3, x4, x5, x6, x7] 43) = y := ⟨_, rfl⟩
  obtain ⟨r0, hr0⟩ : ∃ y, w.heap.size = y := ⟨_, rfl⟩
  have HC0 : Hid (Chg none_ w w0) := by show Chg _ _ _; rw [← hw0]; exact (Chg.refl none_ w).alloc _
  have HI0 : Hid (Is w0 r0 43 #[.int .i64 (W : Int), .int .i64 (stage : Int), .int .i64 (frame : Int), x3, x4, x5, x6, x7]) := by show Is _ _ _ _; rw [← hw0, ← hr0]; exact Is.new w _ _
  have HR0 := Lib.hid hr0
  have k0 : w0.cell? ⟨r0, 0, none⟩ = some (.int .i64 (W : Int)) := HI0.out.at_ 0 _ rfl
  have k1 : w0.cell? ⟨r0, 1, none⟩ = some (.int .i64 (stage : Int)) := HI0.out.at_ 1 _ rfl
  have k2 : w0.cell? ⟨r0, 2, none⟩ = some (.int .i64 (frame : Int)) := HI0.out.at_ 2 _ rfl
  clear hs ht hB h1 h2 w1 w2 s1 s2 f1 f2
  go_enter Tryd.func41, Tryd.ntmps41
  go_wp2_with fail
  clear hw0
  refine (crnew_ok w0 W (by have := HN.out; omega) (by have := HN.out; omega)).mono ?_
  rintro e w1 ⟨g3, rfl, a1, a2, a3⟩
  have k0' : w1.cell? ⟨r0, 0, none⟩ = some (.int .i64 (W : Int)) := (HI0.out.chg a3 fun f => f).at_ 0 _ rfl
  have HA := Lib.hid (And.intro a1 (And.intro a2 a3))
  clear a1 a2 a3
  go_wp2_with fail
  refine (grnew_ok w1 W (by have := HN.out; omega) (by have := HN.out; omega)).mono ?_
  rintro e w2 ⟨g4, rfl, a1, a2, a3⟩
  have HI2 : Hid (Is w2 r0 43 #[.int .i64 (W : Int), .int .i64 (stage : Int), .int .i64 (frame : Int), x3, x4, x5, x6, x7]) := (HI0.out.chg HA.out.2.2 fun f => f).chg a3 fun f => f
  have HG := Lib.hid (And.intro a1 (And.intro a2 a3))
  obtain ⟨w3, hw3⟩ : ∃ y, w2.alloc (.cells #[.int .u32 id, .bool mine, .bool false, .int .i64 (frame : Int), .int .i64 0, .pointer none, .bool false, .bool false, .pointer (some ⟨g3, 0, none⟩), .pointer none, .bool false, .bool false, .pointer (some ⟨g4, 0, none⟩), .bool false, .bool false] 129) = y := ⟨_, rfl⟩
  obtain ⟨g, hg⟩ : ∃ y, w2.heap.size = y := ⟨_, rfl⟩
  have HC3 : Hid (Chg none_ w2 w3) := by show Chg _ _ _; rw [← hw3]; exact (Chg.refl none_ w2).alloc _
  have HO3 : Hid (Is w3 g 129 #[.int .u32 id, .bool mine, .bool false, .int .i64 (frame : Int), .int .i64 0, .pointer none, .bool false, .bool false, .pointer (some ⟨g3, 0, none⟩), .pointer none, .bool false, .bool false, .pointer (some ⟨g4, 0, none⟩), .bool false, .bool false]) := by show Is _ _ _ _; rw [← hw3, ← hg]; exact Is.new w2 _ _
  have HGg := Lib.hid hg
  have k1 : w2.cell? ⟨r0, 1, none⟩ = some (.int .i64 (stage : Int)) := HI2.out.at_ 1 _ rfl
  have k2 : w2.cell? ⟨r0, 2, none⟩ = some (.int .i64 (frame : Int)) := HI2.out.at_ 2 _ rfl
  have k1' : w3.cell? ⟨r0, 1, none⟩ = some (.int .i64 (stage : Int)) := (HI2.out.chg HC3.out fun f => f).at_ 1 _ rfl
  clear a1 a2 a3 k0 k0'
  go_wp2_with fail
  clear hw3 hg
  refine (rnewb_any w3 stage (by have := HN.out; omega)).mono ?_
  rintro e w4 ⟨g1, rfl, b1, b2, b3⟩
  have HB4 := Lib.hid (And.intro b1 (And.intro b2 b3))
  have hO4 : Is w4 g 129 #[.int .u32 id, .bool mine, .bool false, .int .i64 (frame : Int), .int .i64 0, .pointer none, .bool false, .bool false, .pointer (some ⟨g3, 0, none⟩), .pointer none, .bool false, .bool false, .pointer (some ⟨g4, 0, none⟩), .bool false, .bool false] := HO3.out.chg b3 fun f => f
  have HO4 := Lib.hid hO4
  have m5 : w4.cell? ⟨g, 5, none⟩ = some (.pointer none) := hO4.at_ 5 _ rfl
  have p5 : w4.frozen? ⟨g, 5, none⟩ = false := hO4.frozen 5
  obtain ⟨w5, hw5⟩ : ∃ y, w4.setCell ⟨g, 5, none⟩ (.pointer (some ⟨g1, 0, none⟩)) = y := ⟨_, rfl⟩
  have HC5 : Hid (Chg (fun k => k = g) w4 w5) := by show Chg _ _ _; rw [← hw5]; exact (Chg.refl (fun k => k = g) w4).setCell (p := ⟨g, 5, none⟩) (fun _ => rfl) _
  have HO5 : Hid (Is w5 g 129 #[.int .u32 id, .bool mine, .bool false, .int .i64 (frame : Int), .int .i64 0, .pointer (some ⟨g1, 0, none⟩), .bool false, .bool false, .pointer (some ⟨g3, 0, none⟩), .pointer none, .bool false, .bool false, .pointer (some ⟨g4, 0, none⟩), .bool false, .bool false]) := by show Is _ _ _ _; rw [← hw5]; exact hO4.put 5 _
  have hI5 : Is w5 r0 43 #[.int .i64 (W : Int), .int .i64 (stage : Int), .int .i64 (frame : Int), x3, x4, x5, x6, x7] := ((HI2.out.chg HC3.out fun f => f).chg b3 fun f => f).chg HC5.out fun e => by have := HI2.out.lt; have := HGg.out; omega
  have k5 : w5.cell? ⟨r0, 0, none⟩ = some (.int .i64 (W : Int)) := hI5.at_ 0 _ rfl
  clear b1 b2 b3 hO4 hI5 k1 k2 k1'
  go_wp2_with fail
  clear hw5
  refine (rnewb_any w5 W (by have := HN.out; omega)).mono ?_
  rintro e w6 ⟨g2, rfl, b1, b2, b3⟩
  have HB6 := Lib.hid (And.intro b1 (And.intro b2 b3))
  have hO6 : Is w6 g 129 #[.int .u32 id, .bool mine, .bool false, .int .i64 (frame : Int), .int .i64 0, .pointer (some ⟨g1, 0, none⟩), .bool false, .bool false, .pointer (some ⟨g3, 0, none⟩), .pointer none, .bool false, .bool false, .pointer (some ⟨g4, 0, none⟩), .bool false, .bool false] := HO5.out.chg b3 fun f => f
  have m9 : w6.cell? ⟨g, 9, none⟩ = some (.pointer none) := hO6.at_ 9 _ rfl
  have p9 : w6.frozen? ⟨g, 9, none⟩ = false := hO6.frozen 9
  obtain ⟨w7, hw7⟩ : ∃ y, w6.setCell ⟨g, 9, none⟩ (.pointer (some ⟨g2, 0, none⟩)) = y := ⟨_, rfl⟩
  have HC7 : Hid (Chg (fun k => k = g) w6 w7) := by show Chg _ _ _; rw [← hw7]; exact (Chg.refl (fun k => k = g) w6).setCell (p := ⟨g, 9, none⟩) (fun _ => rfl) _
  have HO7 : Hid (Is w7 g 129 #[.int .u32 id, .bool mine, .bool false, .int .i64 (frame : Int), .int .i64 0, .pointer (some ⟨g1, 0, none⟩), .bool false, .bool false, .pointer (some ⟨g3, 0, none⟩), .pointer (some ⟨g2, 0, none⟩), .bool false, .bool false, .pointer (some ⟨g4, 0, none⟩), .bool false, .bool false]) := by show Is _ _ _ _; rw [← hw7]; exact hO6.put 9 _
  have hsz : w.heap.size < w0.heap.size ∧ w0.heap.size ≤ g3 ∧ g3 < w1.heap.size ∧ w1.heap.size ≤ g4 ∧ g4 < g ∧ g < w3.heap.size ∧ w3.heap.size ≤ g1 ∧ g1 < w4.heap.size ∧ w4.heap.size ≤ w5.heap.size ∧ w5.heap.size ≤ g2 ∧ g2 < w6.heap.size ∧ w6.heap.size ≤ w7.heap.size := by
    have z1 : g3 < w1.heap.size := by
      rcases HA.out.2.1 with ⟨_, h⟩ | ⟨_, q, hq, hi⟩
      · cases h
      · cases hq; exact hi.lt
    have z2 : g4 < w2.heap.size := by
      rcases HG.out.2.1 with ⟨_, h⟩ | ⟨_, q, hq, hi⟩
      · cases h
      · cases hq; exact hi.lt
    have z3 : g1 < w4.heap.size := by obtain ⟨_, _, hi, _⟩ := HB4.out.2.1.is; exact hi.lt
    have z4 : g2 < w6.heap.size := by obtain ⟨_, _, hi, _⟩ := HB6.out.2.1.is; exact hi.lt
    have := HI0.out.lt; have := HR0.out; have := HGg.out; have := HO3.out.lt
    exact ⟨by omega, HA.out.1, z1, HG.out.1, by omega, by omega, HB4.out.1, z3, HC5.out.size, HB6.out.1, z4, HC7.out.size⟩
  have HSz := Lib.hid hsz
  have hcw7 : Chg none_ w w7 := by
    have c6 : Chg none_ w w4 := (((HC0.out.trans HA.out.2.2).trans HG.out.2.2).trans HC3.out).trans HB4.out.2.2
    have c7 : Chg none_ w w6 := (c6.then HC5.out fun q hq e => by omega).trans HB6.out.2.2
    exact c7.then HC7.out fun q hq e => by omega
  have HCw7 := Lib.hid hcw7
  have HS7 : Hid (Sen B a w7 ∧ Tab B w7) := ⟨HS.out.below (hcw7.old HB.out), HT.out.below (hcw7.old HB.out)⟩
  have HEnd : Hid (∀ w8, Is w8 g 129 (smC (Sm.new id mine W stage frame) g1 g2 g3 g4) → Chg (fun k => k = g) w7 w8 → Pst w8 (fun k => w.heap.size ≤ k) g (Sm.new id mine W stage frame)) := fun w8 hi hc => by
    have hz := HSz.out
    have hz8 := hc.size
    have ewin : (Sm.new id mine W stage frame).win = W := by unfold Sm.win Sm.new Gr.new; simp
    refine ⟨fun k => k = g1, fun k => k = g2, g1, g2, g3, g4, hi, ((HB4.out.2.1.chg HC5.out fun k e => by omega).chg HB6.out.2.2 fun _ _ f => f).chg HC7.out (fun k e => by omega) |>.chg hc (fun k e => by omega), by rw [ewin]; exact (HB6.out.2.1.chg HC7.out fun k e => by omega).chg hc (fun k e => by omega), ?_, ?_, fun k e => by refine ⟨?_, ?_, ?_, ?_, ?_, ?_⟩ <;> (try show ¬ _) <;> omega, fun k e => by refine ⟨?_, ?_, ?_, ?_, ?_⟩ <;> omega, by refine ⟨?_, ?_, ?_, ?_, ?_, ?_, ?_, ?_, ?_⟩ <;> (try show _ ≤ _) <;> omega, HOk.out⟩
    · exact ((((((HA.out.2.1.keep HG.out.2.2).keep HC3.out).keep HB4.out.2.2).chg HC5.out fun b ⟨q, hq, hb⟩ => by cases hq; omega).keep HB6.out.2.2).chg HC7.out fun b ⟨q, hq, hb⟩ => by cases hq; omega).chg hc fun b ⟨q, hq, hb⟩ => by cases hq; omega
    · exact (((((HG.out.2.1.keep HC3.out).keep HB4.out.2.2).chg HC5.out fun b ⟨q, hq, hb⟩ => by cases hq; omega).keep HB6.out.2.2).chg HC7.out fun b ⟨q, hq, hb⟩ => by cases hq; omega).chg hc fun b ⟨q, hq, hb⟩ => by cases hq; omega
  clear b1 b2 b3 hO6 hsz hcw7 k5 m5 p5
  cases mine with
  | true =>
    go_wp2_with fail
    clear hw7
    refine (hap_open w7 HS7.out.1 HS7.out.2 HO7.out rfl (x := 0) (y := 1) rfl (by decide) (by decide)).mono ?_
    rintro e w8 ⟨⟨r, rfl⟩, j1, j2⟩
    have J1 := Lib.hid j1
    have J2 := Lib.hid j2
    clear j1 j2
    go_wp2
    go_ret2
    exact ⟨g, rfl, HEnd.out w8 J1.out J2.out, HCw7.out.then J2.out fun q hq e => by have := HSz.out; omega⟩
  | false =>
    go_wp2_with fail
    clear hw7
    refine (hap_syn w7 HS7.out.1 HS7.out.2 HO7.out rfl (x := 0) (y := 2) rfl (by decide) (by decide)).mono ?_
    rintro e w8 ⟨⟨r, rfl⟩, j1, j2⟩
    have J1 := Lib.hid j1
    have J2 := Lib.hid j2
    clear j1 j2
    go_wp2
    go_ret2
    exact ⟨g, rfl, HEnd.out w8 J1.out J2.out, HCw7.out.then J2.out fun q hq e => by have := HSz.out; omega⟩
end
end Go.Proofs.YthalmjjbamglgaaDoor
