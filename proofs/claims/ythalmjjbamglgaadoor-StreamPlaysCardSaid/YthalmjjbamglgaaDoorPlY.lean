/-
  The walk of culvertlaw10.StreamPlays.
  No condition of its own: the facts 'Sen' and 'Tab' on the world; the script opened.
-/
import Derived.Test.YthalmjjbamglgaaDoorPlO
import Derived.Deep.DeepCutAuto
import Derived.Deep.CutBlock
namespace Go.Proofs.YthalmjjbamglgaaDoor
open Go.RowKit

theorem inv_begin {w2 : World} {L p g h : Nat} (hi : Is w2 p 55 (prC0 g h)) (hL : L ≤ p) (ht : Two w2 (p + 1) g h (Sm.new 1 true 4 6 3) (Sm.new 2 false 4 6 3)) : Inv w2 L p := by
  obtain ⟨hz, T, U, h1, h2, h3, h4, h5⟩ := ht
  refine ⟨fun i => if i = 0 then T else U, fun i => if i = 0 then .pointer (some ⟨g, 0, none⟩) else .pointer (some ⟨h, 0, none⟩), fun i => if i = 0 then rfNew 1 true 4 6 3 else rfNew 2 false 4 6 3, fun _ => false, fun i => if i = 0 then Sm.new 1 true 4 6 3 else Sm.new 2 false 4 6 3, hi, hL, (fun i _ e => by cases e), fun i hi' _ => ?_, fun i hi' => ?_, fun k hk => ?_, fun i hi' k hk => ?_⟩
  · rcases lt2 hi' with rfl | rfl
    · exact ⟨g, rfl, h1⟩
    · exact ⟨h, rfl, h2⟩
  · rcases lt2 hi' with rfl | rfl
    · exact rf_new w2 _ true (by decide) (by decide) (by decide) (by decide) (by decide) (by decide) (by decide)
    · exact rf_new w2 _ false (by decide) (by decide) (by decide) (by decide) (by decide) (by decide) (by decide)
  · exact h3 k hk
  · rcases lt2 hi' with rfl | rfl
    · have := h4 k hk
      exact ⟨by omega, by omega, this.2⟩
    · have := h5 k hk
      exact ⟨by omega, by omega, this.2⟩
section
variable {a : Nat → Addr}
set_option maxRecDepth 100000 in
set_option maxHeartbeats 4000000 in
theorem streamplays_walk (w : World) (hs : Sen w.heap.size a w) (ht : Tab w.heap.size w) (A : Option Addr) (n c : Nat) (hnc : n ≤ c) (hcm : c ≤ 140737488355328) (O : Nat → Opv) (hr : Rds w A n 14 fun i j => (O i).cells.getD j (.bool false)) (hO : ∀ i, i < n → (O i).Ok w ∧ (O i).len ≤ 140737488355328) :
    Calls Tryd.prog 4 #[.slice A n c] w fun e w' => e = .returned (.bool true) ∧ Below w.heap.size w w' := by
  have HS := Lib.hid hs
  have HT := Lib.hid ht
  have HR := Lib.hid hr
  have HOs := Lib.hid hO
  have HNc := Lib.hid (And.intro hnc hcm)
  have hB : w.heap.size ≤ w.heap.size := Nat.le_refl _
  have hn63 : (n : Int) ≤ 140737488355328 := by omega
  clear hs ht hr hO hnc hcm
  go_enter Tryd.func4, Tryd.ntmps4
  go_wp2_with fail
  refine (awake10_any w HS.out HT.out hB).mono ?_
  rintro e w1 ⟨rfl, c1⟩
  have HC1 := Lib.hid c1
  clear c1
  go_wp2_with fail
  refine (begin_any w1 (HS.out.below (HC1.out.old hB)) (HT.out.below (HC1.out.old hB)) HC1.out.size).mono ?_
  rintro e w2 ⟨p, g, h, rfl, h0, h1, h2, h3⟩
  have HI2 : Hid (Inv w2 w.heap.size p) := inv_begin h1 (Nat.le_trans HC1.out.size h0) h2
  have HC2 : Hid (Below w.heap.size w w2) := (HC1.out.trans h3).old hB
  clear h0 h1 h2 h3 HC1
  go_wp2_with fail
  go_loopw [5] (fun xi wr => ∃ k : Nat, k ≤ n ∧ xi = .int .i64 k ∧ Inv wr w.heap.size p ∧ Below w.heap.size w wr) (fun xi _ => n - (intOf xi).toNat)
  case atStart => exact ⟨0, by omega, rfl, HI2.out, HC2.out⟩
  case round =>
    clear HC2 HI2
    obtain ⟨k, hk, rfl, hi, hg⟩ := hrel
    have HI := Lib.hid hi
    have HG := Lib.hid (And.intro hg trivial)
    clear hg hi
    by_cases hkn : k < n
    · obtain ⟨ad, rfl, hcell⟩ := HR.out (by omega)
      clear hcell
      have x0 : wr.cell? (ad.add (k * 14)) = some ((O k).cells.getD 0 (.bool false)) := HR.out.f0 rfl HG.out.1 (by decide) hkn
      have x1 : wr.cell? ⟨(ad.add (k * 14)).block, (ad.add (k * 14)).off + 1, none⟩ = some ((O k).cells.getD 1 (.bool false)) := HR.out.fj rfl HG.out.1 hkn (j := 1) (by decide) (by decide)
      have x2 : wr.cell? ⟨(ad.add (k * 14)).block, (ad.add (k * 14)).off + 2, none⟩ = some ((O k).cells.getD 2 (.bool false)) := HR.out.fj rfl HG.out.1 hkn (j := 2) (by decide) (by decide)
      have x3 : wr.cell? ⟨(ad.add (k * 14)).block, (ad.add (k * 14)).off + 3, none⟩ = some ((O k).cells.getD 3 (.bool false)) := HR.out.fj rfl HG.out.1 hkn (j := 3) (by decide) (by decide)
      have x4 : wr.cell? ⟨(ad.add (k * 14)).block, (ad.add (k * 14)).off + 4, none⟩ = some ((O k).cells.getD 4 (.bool false)) := HR.out.fj rfl HG.out.1 hkn (j := 4) (by decide) (by decide)
      have x5 : wr.cell? ⟨(ad.add (k * 14)).block, (ad.add (k * 14)).off + 5, none⟩ = some ((O k).cells.getD 5 (.bool false)) := HR.out.fj rfl HG.out.1 hkn (j := 5) (by decide) (by decide)
      have x6 : wr.cell? ⟨(ad.add (k * 14)).block, (ad.add (k * 14)).off + 6, none⟩ = some ((O k).cells.getD 6 (.bool false)) := HR.out.fj rfl HG.out.1 hkn (j := 6) (by decide) (by decide)
      have x7 : wr.cell? ⟨(ad.add (k * 14)).block, (ad.add (k * 14)).off + 7, none⟩ = some ((O k).cells.getD 7 (.bool false)) := HR.out.fj rfl HG.out.1 hkn (j := 7) (by decide) (by decide)
      have x8 : wr.cell? ⟨(ad.add (k * 14)).block, (ad.add (k * 14)).off + 8, none⟩ = some ((O k).cells.getD 8 (.bool false)) := HR.out.fj rfl HG.out.1 hkn (j := 8) (by decide) (by decide)
      have x9 : wr.cell? ⟨(ad.add (k * 14)).block, (ad.add (k * 14)).off + 9, none⟩ = some ((O k).cells.getD 9 (.bool false)) := HR.out.fj rfl HG.out.1 hkn (j := 9) (by decide) (by decide)
      have x10 : wr.cell? ⟨(ad.add (k * 14)).block, (ad.add (k * 14)).off + 10, none⟩ = some ((O k).cells.getD 10 (.bool false)) := HR.out.fj rfl HG.out.1 hkn (j := 10) (by decide) (by decide)
      have x11 : wr.cell? ⟨(ad.add (k * 14)).block, (ad.add (k * 14)).off + 11, none⟩ = some ((O k).cells.getD 11 (.bool false)) := HR.out.fj rfl HG.out.1 hkn (j := 11) (by decide) (by decide)
      have x12 : wr.cell? ⟨(ad.add (k * 14)).block, (ad.add (k * 14)).off + 12, none⟩ = some ((O k).cells.getD 12 (.bool false)) := HR.out.fj rfl HG.out.1 hkn (j := 12) (by decide) (by decide)
      have x13 : wr.cell? ⟨(ad.add (k * 14)).block, (ad.add (k * 14)).off + 13, none⟩ = some ((O k).cells.getD 13 (.bool false)) := HR.out.fj rfl HG.out.1 hkn (j := 13) (by decide) (by decide)
      have HOk := Lib.hid (HOs.out k hkn)
      generalize O k = ok at x0 x1 x2 x3 x4 x5 x6 x7 x8 x9 x10 x11 x12 x13 HOk
      obtain ⟨kd, xx, nn, A2, len, cap, zs, dl, fl, c0, c1, c2, c3, c4, c5, c6, c7⟩ := ok
      have hk0 : (0 : Int) ≤ (k : Int) := by omega
      have hkI : (k : Int) < (n : Int) := by omega
      replace x0 : wr.cell? (ad.add (k * 14)) = some (.int .i64 kd) := x0
      replace x1 : wr.cell? ⟨(ad.add (k * 14)).block, (ad.add (k * 14)).off + 1, none⟩ = some (.int .i64 xx) := x1
      replace x2 : wr.cell? ⟨(ad.add (k * 14)).block, (ad.add (k * 14)).off + 2, none⟩ = some (.int .i64 nn) := x2
      replace x3 : wr.cell? ⟨(ad.add (k * 14)).block, (ad.add (k * 14)).off + 3, none⟩ = some (.slice A2 len cap) := x3
      replace x4 : wr.cell? ⟨(ad.add (k * 14)).block, (ad.add (k * 14)).off + 4, none⟩ = some (.int .u32 dl) := x4
      replace x5 : wr.cell? ⟨(ad.add (k * 14)).block, (ad.add (k * 14)).off + 5, none⟩ = some (.bool fl) := x5
      replace x6 : wr.cell? ⟨(ad.add (k * 14)).block, (ad.add (k * 14)).off + 6, none⟩ = some (.int .i64 c0) := x6
      replace x7 : wr.cell? ⟨(ad.add (k * 14)).block, (ad.add (k * 14)).off + 7, none⟩ = some (.int .i64 c1) := x7
      replace x8 : wr.cell? ⟨(ad.add (k * 14)).block, (ad.add (k * 14)).off + 8, none⟩ = some (.int .i64 c2) := x8
      replace x9 : wr.cell? ⟨(ad.add (k * 14)).block, (ad.add (k * 14)).off + 9, none⟩ = some (.int .i64 c3) := x9
      replace x10 : wr.cell? ⟨(ad.add (k * 14)).block, (ad.add (k * 14)).off + 10, none⟩ = some (.int .i64 c4) := x10
      replace x11 : wr.cell? ⟨(ad.add (k * 14)).block, (ad.add (k * 14)).off + 11, none⟩ = some (.int .i64 c5) := x11
      replace x12 : wr.cell? ⟨(ad.add (k * 14)).block, (ad.add (k * 14)).off + 12, none⟩ = some (.int .i64 c6) := x12
      replace x13 : wr.cell? ⟨(ad.add (k * 14)).block, (ad.add (k * 14)).off + 13, none⟩ = some (.int .i64 c7) := x13
      have HSr : Hid (Sen w.heap.size a wr ∧ Tab w.heap.size wr) := ⟨HS.out.below HG.out.1, HT.out.below HG.out.1⟩
      go_wp2_with fail
      refine (step_any wr HI.out HSr.out.1 HSr.out.2 (Nat.le_refl _) ⟨kd, xx, nn, A2, len, cap, zs, dl, fl, c0, c1, c2, c3, c4, c5, c6, c7⟩ HOk.out.1.n HOk.out.1.len HOk.out.1.byt (fun u hb => HOk.out.1.rd.below (HG.out.1.trans hb) fun ad h0 e => HOk.out.1.rd.lt ad h0 e) HOk.out.2 HOk.out.1.cap HOk.out.1.d0 HOk.out.1.d1).mono ?_
      rintro e w3 ⟨rfl, i3, c3_⟩
      obtain ⟨T', p', x', n', s', h'⟩ := i3
      have H3 := Lib.hid h'
      have HB3 : Hid (Below w.heap.size w w3) := HG.out.1.trans (c3_.below (fun k _ h => h) HG.out.1.size)
      have HS3 : Hid (Sen w.heap.size a w3 ∧ Tab w.heap.size w3) := ⟨HS.out.below HB3.out, HT.out.below HB3.out⟩
      clear h' c3_ x0 x1 x2 x3 x4 x5 x6 x7 x8 x9 x10 x11 x12 x13
      go_wp2_with fail
      refine (looks_any (a := 0) w3 H3.out HS3.out.1 HS3.out.2 (Nat.le_refl _) (by decide)).mono ?_
      rintro e w4 ⟨rfl, c4_⟩
      have HC4 := Lib.hid c4_
      have HB4 : Hid (Below w.heap.size w w4) := HB3.out.trans (HC4.out.old HB3.out.size)
      clear c4_
      go_wp2_with fail
      refine (looks_any (a := 1) w4 (H3.out.keep HC4.out) (HS.out.below HB4.out) (HT.out.below HB4.out) (Nat.le_refl _) (by decide)).mono ?_
      rintro e w5 ⟨rfl, c5_⟩
      have HC5 := Lib.hid c5_
      have HB5 : Hid (Below w.heap.size w w5) := HB4.out.trans (HC5.out.old HB4.out.size)
      clear c5_
      go_wp2
      go_roundw
      case rel => exact ⟨k + 1, by omega, by go_num, ⟨_, _, _, _, _, (H3.out.keep HC4.out).keep HC5.out⟩, HB5.out⟩
      case measure => simp [intOf]; omega
    · have hkn' : ¬ (k : Int) < (n : Int) := by omega
      go_wp2
      go_ret
      exact ⟨rfl, HG.out.1⟩
end
end Go.Proofs.YthalmjjbamglgaaDoor
