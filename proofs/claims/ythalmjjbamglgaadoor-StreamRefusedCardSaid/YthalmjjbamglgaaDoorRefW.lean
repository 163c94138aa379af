/-
  The walk of culvertlaw10.StreamRefused.
  No condition of its own: the facts 'Sen' and 'Tab' on the world; the script opened.
-/
import Derived.Test.YthalmjjbamglgaaDoorRefL
import Derived.Test.YthalmjjbamglgaaDoorOps
import Derived.Deep.DeepCutAuto
import Derived.Deep.CutBlock
namespace Go.Proofs.YthalmjjbamglgaaDoor
open Go.RowKit

section
variable {a : Nat → Addr}
set_option maxRecDepth 100000 in
set_option maxHeartbeats 4000000 in
theorem streamrefused_walk (w : World) (hs : Sen w.heap.size a w) (ht : Tab w.heap.size w) (A : Option Addr) (n c : Nat) (hnc : n ≤ c) (hcm : c ≤ 140737488355328) (O : Nat → Opv) (hr : Rds w A n 14 fun i j => (O i).cells.getD j (.bool false)) (hO : ∀ i, i < n → (O i).Ok w ∧ (O i).len ≤ 140737488355328) (cut : Bool) :
    Calls Tryd.prog 5 #[.slice A n c, .bool cut] w fun e w' => e = .returned (.bool true) ∧ Below w.heap.size w w' := by
  have HS := Lib.hid hs
  have HT := Lib.hid ht
  have HR := Lib.hid hr
  have HOs := Lib.hid hO
  have HNc := Lib.hid (And.intro hnc hcm)
  have hB : w.heap.size ≤ w.heap.size := Nat.le_refl _
  have hn63 : (n : Int) ≤ 140737488355328 := by omega
  clear hs ht hr hO hnc hcm
  go_enter Tryd.func5, Tryd.ntmps5
  go_wp2_with fail
  refine (awake10_any w HS.out HT.out hB).mono ?_
  rintro e w1 ⟨rfl, c1⟩
  have HC1 := Lib.hid c1
  clear c1
  go_wp2_with fail
  refine (begin_any w1 (HS.out.below (HC1.out.old hB)) (HT.out.below (HC1.out.old hB)) HC1.out.size).mono ?_
  rintro e w2 ⟨p, g, h, rfl, h0, h1, h2, h3⟩
  have HI2 := Lib.hid h1
  have HTwo2 := Lib.hid h2
  have HC2 : Hid (Chg none_ w w2) := HC1.out.trans h3
  have HPw : Hid (w.heap.size ≤ p) := by show _ ≤ _; have := HC1.out.size; omega
  clear h0 h1 h2 h3 HC1
  go_wp2_with fail
  go_loopw [7] (fun xi wr => ∃ (k : Nat) (s t : Sm), k ≤ n ∧ xi = .int .i64 k ∧ Two wr (p + 1) g h s t ∧ s.Up ∧ t.Up ∧ Chg none_ w wr ∧ Is wr p 55 (prC0 g h)) (fun xi _ => n - (intOf xi).toNat)
  case atStart => exact ⟨0, _, _, by omega, rfl, HTwo2.out, ⟨rfl, rfl⟩, ⟨rfl, rfl⟩, HC2.out, HI2.out⟩
  case round =>
    clear HTwo2 HC2 HI2
    obtain ⟨k, s, t, hk, rfl, ho, hu1, hu2, hg, hi⟩ := hrel
    have HTwo := Lib.hid ho
    have HUp := Lib.hid (And.intro hu1 hu2)
    have HG := Lib.hid hg
    have HI := Lib.hid hi
    clear ho hg hi hu1 hu2
    by_cases hkn : k < n
    · obtain ⟨ad, rfl, hcell⟩ := HR.out (by omega)
      clear hcell
      have x0 : wr.cell? (ad.add (k * 14)) = some ((O k).cells.getD 0 (.bool false)) := HR.out.f0 rfl (HG.out.old hB) (by decide) hkn
      have x1 : wr.cell? ⟨(ad.add (k * 14)).block, (ad.add (k * 14)).off + 1, none⟩ = some ((O k).cells.getD 1 (.bool false)) := HR.out.fj rfl (HG.out.old hB) hkn (j := 1) (by decide) (by decide)
      have x2 : wr.cell? ⟨(ad.add (k * 14)).block, (ad.add (k * 14)).off + 2, none⟩ = some ((O k).cells.getD 2 (.bool false)) := HR.out.fj rfl (HG.out.old hB) hkn (j := 2) (by decide) (by decide)
      have x3 : wr.cell? ⟨(ad.add (k * 14)).block, (ad.add (k * 14)).off + 3, none⟩ = some ((O k).cells.getD 3 (.bool false)) := HR.out.fj rfl (HG.out.old hB) hkn (j := 3) (by decide) (by decide)
      have x4 : wr.cell? ⟨(ad.add (k * 14)).block, (ad.add (k * 14)).off + 4, none⟩ = some ((O k).cells.getD 4 (.bool false)) := HR.out.fj rfl (HG.out.old hB) hkn (j := 4) (by decide) (by decide)
      have x5 : wr.cell? ⟨(ad.add (k * 14)).block, (ad.add (k * 14)).off + 5, none⟩ = some ((O k).cells.getD 5 (.bool false)) := HR.out.fj rfl (HG.out.old hB) hkn (j := 5) (by decide) (by decide)
      have x6 : wr.cell? ⟨(ad.add (k * 14)).block, (ad.add (k * 14)).off + 6, none⟩ = some ((O k).cells.getD 6 (.bool false)) := HR.out.fj rfl (HG.out.old hB) hkn (j := 6) (by decide) (by decide)
      have x7 : wr.cell? ⟨(ad.add (k * 14)).block, (ad.add (k * 14)).off + 7, none⟩ = some ((O k).cells.getD 7 (.bool false)) := HR.out.fj rfl (HG.out.old hB) hkn (j := 7) (by decide) (by decide)
      have x8 : wr.cell? ⟨(ad.add (k * 14)).block, (ad.add (k * 14)).off + 8, none⟩ = some ((O k).cells.getD 8 (.bool false)) := HR.out.fj rfl (HG.out.old hB) hkn (j := 8) (by decide) (by decide)
      have x9 : wr.cell? ⟨(ad.add (k * 14)).block, (ad.add (k * 14)).off + 9, none⟩ = some ((O k).cells.getD 9 (.bool false)) := HR.out.fj rfl (HG.out.old hB) hkn (j := 9) (by decide) (by decide)
      have x10 : wr.cell? ⟨(ad.add (k * 14)).block, (ad.add (k * 14)).off + 10, none⟩ = some ((O k).cells.getD 10 (.bool false)) := HR.out.fj rfl (HG.out.old hB) hkn (j := 10) (by decide) (by decide)
      have x11 : wr.cell? ⟨(ad.add (k * 14)).block, (ad.add (k * 14)).off + 11, none⟩ = some ((O k).cells.getD 11 (.bool false)) := HR.out.fj rfl (HG.out.old hB) hkn (j := 11) (by decide) (by decide)
      have x12 : wr.cell? ⟨(ad.add (k * 14)).block, (ad.add (k * 14)).off + 12, none⟩ = some ((O k).cells.getD 12 (.bool false)) := HR.out.fj rfl (HG.out.old hB) hkn (j := 12) (by decide) (by decide)
      have x13 : wr.cell? ⟨(ad.add (k * 14)).block, (ad.add (k * 14)).off + 13, none⟩ = some ((O k).cells.getD 13 (.bool false)) := HR.out.fj rfl (HG.out.old hB) hkn (j := 13) (by decide) (by decide)
      have HOk := Lib.hid (HOs.out k hkn)
      generalize O k = ok at x0 x1 x2 x3 x4 x5 x6 x7 x8 x9 x10 x11 x12 x13 HOk
      obtain ⟨kd, xx, nn, A2, len, cap, zs, dl, fl, c0, c1, c2, c3, c4, c5, c6, c7⟩ := ok
      have hk0 : (0 : Int) ≤ (k : Int) := by omega
      have hkI : (k : Int) < (n : Int) := by omega
      replace x0 : wr.cell? (ad.add (k * 14)) = some (.int .i64 kd) := x0
      replace x1 : wr.cell? ⟨(ad.add (k * 14)).block, (ad.add (k * 14)).off + 1, none⟩ = some (.int .i64 xx) := x1
      replace x2 : wr.cell? ⟨(ad.add (k * 14)).block, (ad.add (k * 14)).off + 2, none⟩ = some (.int .i64 nn) := x2
      replace x3 : wr.cell? ⟨(ad.add (k * 14)).block, (ad.add (k * 14)).off + 3, none⟩ = some (.slice A2 len cap) := x3
      replace x4 : wr.cell? ⟨(ad.add (k * 14)).block, (ad.add (k * 14)).off + 4, none⟩ = some (.int .u32 dl) := x4
      replace x5 : wr.cell? ⟨(ad.add (k * 14)).block, (ad.add (k * 14)).off + 5, none⟩ = some (.bool fl) := x5
      replace x6 : wr.cell? ⟨(ad.add (k * 14)).block, (ad.add (k * 14)).off + 6, none⟩ = some (.int .i64 c0) := x6
      replace x7 : wr.cell? ⟨(ad.add (k * 14)).block, (ad.add (k * 14)).off + 7, none⟩ = some (.int .i64 c1) := x7
      replace x8 : wr.cell? ⟨(ad.add (k * 14)).block, (ad.add (k * 14)).off + 8, none⟩ = some (.int .i64 c2) := x8
      replace x9 : wr.cell? ⟨(ad.add (k * 14)).block, (ad.add (k * 14)).off + 9, none⟩ = some (.int .i64 c3) := x9
      replace x10 : wr.cell? ⟨(ad.add (k * 14)).block, (ad.add (k * 14)).off + 10, none⟩ = some (.int .i64 c4) := x10
      replace x11 : wr.cell? ⟨(ad.add (k * 14)).block, (ad.add (k * 14)).off + 11, none⟩ = some (.int .i64 c5) := x11
      replace x12 : wr.cell? ⟨(ad.add (k * 14)).block, (ad.add (k * 14)).off + 12, none⟩ = some (.int .i64 c6) := x12
      replace x13 : wr.cell? ⟨(ad.add (k * 14)).block, (ad.add (k * 14)).off + 13, none⟩ = some (.int .i64 c7) := x13
      have HIo : Hid (Is (wr.alloc (.cells #[.int .i64 kd, .int .i64 xx, .int .i64 nn, .slice A2 len cap, .int .u32 dl, .bool fl, .int .i64 c0, .int .i64 c1, .int .i64 c2, .int .i64 c3, .int .i64 c4, .int .i64 c5, .int .i64 c6, .int .i64 c7] 45)) wr.heap.size 45 #[.int .i64 kd, .int .i64 xx, .int .i64 nn, .slice A2 len cap, .int .u32 dl, .bool fl, .int .i64 c0, .int .i64 c1, .int .i64 c2, .int .i64 c3, .int .i64 c4, .int .i64 c5, .int .i64 c6, .int .i64 c7]) := Is.new wr _ _
      by_cases e1 : kd = 1
      · subst e1
        go_wp2
        go_roundw
        case rel => exact ⟨k + 1, s, t, by omega, by go_num, HTwo.out.keep ((Chg.refl none_ wr).alloc _), HUp.out.1, HUp.out.2, HG.out.alloc _, HI.out.alloc _⟩
        case measure => simp [intOf]; omega
      have n1 : (kd == 1) = false := by simp [e1]
      by_cases e12 : kd = 12
      · subst e12
        go_wp2
        go_roundw
        case rel => exact ⟨k + 1, s, t, by omega, by go_num, HTwo.out.keep ((Chg.refl none_ wr).alloc _), HUp.out.1, HUp.out.2, HG.out.alloc _, HI.out.alloc _⟩
        case measure => simp [intOf]; omega
      have n12 : (kd == 12) = false := by simp [e12]
      by_cases e9 : kd = 9
      · subst e9
        go_wp2
        go_roundw
        case rel => exact ⟨k + 1, s, t, by omega, by go_num, HTwo.out.keep ((Chg.refl none_ wr).alloc _), HUp.out.1, HUp.out.2, HG.out.alloc _, HI.out.alloc _⟩
        case measure => simp [intOf]; omega
      have n9 : (kd == 9) = false := by simp [e9]
      by_cases e10 : kd = 10
      · subst e10
        go_wp2
        go_roundw
        case rel => exact ⟨k + 1, s, t, by omega, by go_num, HTwo.out.keep ((Chg.refl none_ wr).alloc _), HUp.out.1, HUp.out.2, HG.out.alloc _, HI.out.alloc _⟩
        case measure => simp [intOf]; omega
      have n10 : (kd == 10) = false := by simp [e10]
      have HNk := Lib.hid (And.intro e1 (And.intro e12 (And.intro e9 e10)))

      obtain ⟨wa, hwa⟩ : ∃ y, wr.alloc (.cells #[.int .i64 kd, .int .i64 xx, .int .i64 nn, .slice A2 len cap, .int .u32 dl, .bool fl, .int .i64 c0, .int .i64 c1, .int .i64 c2, .int .i64 c3, .int .i64 c4, .int .i64 c5, .int .i64 c6, .int .i64 c7] 45) = y := ⟨_, rfl⟩
      obtain ⟨ro, hro⟩ : ∃ y, wr.heap.size = y := ⟨_, rfl⟩
      have hca : Chg none_ wr wa := by rw [← hwa]; exact (Chg.refl none_ wr).alloc _
      have HIo : Hid (Is wa ro 45 #[.int .i64 kd, .int .i64 xx, .int .i64 nn, .slice A2 len cap, .int .u32 dl, .bool fl, .int .i64 c0, .int .i64 c1, .int .i64 c2, .int .i64 c3, .int .i64 c4, .int .i64 c5, .int .i64 c6, .int .i64 c7]) := by show Is _ _ _ _; rw [← hwa, ← hro]; exact Is.new wr _ _
      have HZa : Hid (Twz wa (p + 1) ro g h s t) := by show Twz _ _ _ _ _ _ _; rw [← hro]; exact HTwo.out.twz hca
      have HGa : Hid (Chg none_ w wa) := HG.out.trans hca
      have HIa : Hid (Is wa p 55 (prC0 g h)) := HI.out.chg hca fun f => f
      have hbits := bits_one xx
      have b0 : wa.cell? ⟨ro, 0, none⟩ = some (.int .i64 kd) := HIo.out.at_ 0 _ rfl
      go_upto_region 11 with fail
      clear hwa hca b0 e1 e12 e9 e10 x0 x1 x2 x3 x4 x5 x6 x7 x8 x9 x10 x11 x12 x13 HTwo HI
      go_cut [9] (fun v wx => ∃ (G G' : Nat) (s1 t1 : Sm), v = .pointer (some ⟨G, 0, none⟩) ∧ Twz wx (p + 1) ro G G' s1 t1 ∧ s1.Up ∧ t1.Up ∧ Hid (∀ wj s2, Two wj (p + 1) G G' s2 t1 → s2.Up → ∃ s t, Two wj (p + 1) g h s t ∧ s.Up ∧ t.Up) ∧ Chg none_ w wx ∧ Is wx p 55 (prC0 g h) ∧ Is wx ro 45 #[.int .i64 kd, .int .i64 xx, .int .i64 nn, .slice A2 len cap, .int .u32 dl, .bool fl, .int .i64 c0, .int .i64 c1, .int .i64 c2, .int .i64 c3, .int .i64 c4, .int .i64 c5, .int .i64 c6, .int .i64 c7])
      case first =>
        have y1 : wa.cell? ⟨ro, 1, none⟩ = some (.int .i64 xx) := HIo.out.at_ 1 _ rfl
        by_cases hx : xx % 2 = 0
        · have y0 : wa.cell? ⟨p, 0, none⟩ = some (.pointer (some ⟨g, 0, none⟩)) := HIa.out.at_ 0 _ rfl
          rw [hx] at hbits
          go_region
          go_wp2_with fail
          go_meet
          exact ⟨g, h, s, t, rfl, HZa.out.keep ((Chg.refl none_ wa).drewN _), HUp.out.1, HUp.out.2, fun wj s2 hh hu => ⟨s2, t, hh, hu, HUp.out.2⟩, HGa.out.drewN _, HIa.out.drewN _, HIo.out.drewN _⟩
        · have hx1 : xx % 2 = 1 := by omega
          have y0 : wa.cell? ⟨p, 1, none⟩ = some (.pointer (some ⟨h, 0, none⟩)) := HIa.out.at_ 1 _ rfl
          rw [hx1] at hbits
          go_region
          go_wp2_with fail
          go_meet
          exact ⟨h, g, t, s, rfl, HZa.out.swap.keep ((Chg.refl none_ wa).drewN _), HUp.out.2, HUp.out.1, fun wj s2 hh hu => ⟨s, s2, hh.swap, HUp.out.1, hu⟩, HGa.out.drewN _, HIa.out.drewN _, HIo.out.drewN _⟩
      case rest =>
        obtain ⟨G, G', s1, t1, rfl, hz, u1, u2, hback, hg, hi, ho⟩ := hcut
        have HUs := Lib.hid (And.intro u1 u2)
        obtain ⟨z1, z2, T, U, k1, k2, k3, k4, k5⟩ := hz
        have HPst := Lib.hid (And.intro k1 k2)
        have HTU := Lib.hid (And.intro z1 (And.intro z2 (And.intro k3 (And.intro k4 k5))))
        have HGc := Lib.hid hg
        have HIc := Lib.hid hi
        have HIoc := Lib.hid ho
        clear u1 u2 z1 z2 k1 k2 k3 k4 k5 hg hi ho HZa HGa HIa HIo hbits
        obtain ⟨vc, vl, vo, hv⟩ : ∃ vc vl vo, vwV s1 = .agg #[.int .u32 s1.id, .int .i64 s1.st, .bool s1.mine, .bool s1.acc, .int .i64 (s1.sg.length : Int), .int .u32 vc, .int .i64 vl, .int .i64 (s1.un.length : Int), .int .i64 vo, .bool s1.cl, .bool s1.td] := ⟨_, _, _, rfl⟩
        have HV := Lib.hid hv
        clear hv
        go_wp2_with fail
        refine (sview_any wc HPst.out.1).mono ?_
        rintro e w3 ⟨rfl, k3⟩
        rw [HV.out]
        obtain ⟨w4, hw4⟩ : ∃ y, w3.alloc (.cells #[.int .u32 s1.id, .int .i64 s1.st, .bool s1.mine, .bool s1.acc, .int .i64 (s1.sg.length : Int), .int .u32 vc, .int .i64 vl, .int .i64 (s1.un.length : Int), .int .i64 vo, .bool s1.cl, .bool s1.td] 58) = y := ⟨_, rfl⟩
        obtain ⟨rv, hrv⟩ : ∃ y, w3.heap.size = y := ⟨_, rfl⟩
        have hc4 : Chg none_ wc w4 := by rw [← hw4]; exact k3.alloc _
        have HIv : Hid (Is w4 rv 58 #[.int .u32 s1.id, .int .i64 s1.st, .bool s1.mine, .bool s1.acc, .int .i64 (s1.sg.length : Int), .int .u32 vc, .int .i64 vl, .int .i64 (s1.un.length : Int), .int .i64 vo, .bool s1.cl, .bool s1.td]) := by show Is _ _ _ _; rw [← hw4, ← hrv]; exact Is.new w3 _ _
        have HIo4 : Hid (Is w4 ro 45 #[.int .i64 kd, .int .i64 xx, .int .i64 nn, .slice A2 len cap, .int .u32 dl, .bool fl, .int .i64 c0, .int .i64 c1, .int .i64 c2, .int .i64 c3, .int .i64 c4, .int .i64 c5, .int .i64 c6, .int .i64 c7]) := HIoc.out.chg hc4 fun f => f
        have HI4 : Hid (Is w4 p 55 (prC0 g h)) := HIc.out.chg hc4 fun f => f
        have HG4 : Hid (Chg none_ w w4) := HGc.out.trans hc4
        have HLo : Hid (ro ≤ rv ∧ rv < w4.heap.size) := ⟨by have := HTU.out.2.1; have := k3.size; omega, HIv.out.lt⟩
        have HP4 : Hid (Pst w4 U G' t1) := HPst.out.2.keep hc4
        have HR4 : Hid (Run w.heap.size a w4 w4 T G s1) := Run.init (HS.out.below (HG4.out.old hB)) (HT.out.below (HG4.out.old hB)) HG4.out.size (HPst.out.1.keep hc4) fun k hk => by have := (HTU.out.2.2.2.1 k hk).1; have := HPw.out; omega
        have b0 : w4.cell? ⟨ro, 0, none⟩ = some (.int .i64 kd) := HIo4.out.at_ 0 _ rfl
        have b2 : w4.cell? ⟨ro, 2, none⟩ = some (.int .i64 nn) := HIo4.out.at_ 2 _ rfl
        have b3 : w4.cell? ⟨ro, 3, none⟩ = some (.slice A2 len cap) := HIo4.out.at_ 3 _ rfl
        have b4 : w4.cell? ⟨ro, 4, none⟩ = some (.int .u32 dl) := HIo4.out.at_ 4 _ rfl
        have b5 : w4.cell? ⟨ro, 5, none⟩ = some (.bool fl) := HIo4.out.at_ 5 _ rfl
        go_upto_block 2 with fail
        clear hw4 hc4 k3 HIoc HIc HGc HPst
        have HFin : Hid (∀ w5 s2, Run w.heap.size a w4 w5 T G s2 → Two w5 (p + 1) G G' s2 t1 ∧ Chg none_ w w5 ∧ Is w5 rv 58 #[.int .u32 s1.id, .int .i64 s1.st, .bool s1.mine, .bool s1.acc, .int .i64 (s1.sg.length : Int), .int .u32 vc, .int .i64 vl, .int .i64 (s1.un.length : Int), .int .i64 vo, .bool s1.cl, .bool s1.td]) := fun w5 s2 r =>
          fin_step r HP4.out HTU.out.2.2.1 HTU.out.2.2.2.1 HTU.out.2.2.2.2 HTU.out.1 HLo.out HG4.out (by have := HPw.out; omega) HIv.out
        have HFinS : Hid (∀ w5 s2, Run w.heap.size a w4 w5 T G s2 → ∀ v, Two (w5.setCell ⟨rv, 10, none⟩ v) (p + 1) G G' s2 t1 ∧ Chg none_ w (w5.setCell ⟨rv, 10, none⟩ v) ∧ Is (w5.setCell ⟨rv, 10, none⟩ v) rv 58 (#[.int .u32 s1.id, .int .i64 s1.st, .bool s1.mine, .bool s1.acc, .int .i64 (s1.sg.length : Int), .int .u32 vc, .int .i64 vl, .int .i64 (s1.un.length : Int), .int .i64 vo, .bool s1.cl, .bool s1.td].setIfInBounds 10 v)) := fun w5 s2 r v =>
          fin_store r HP4.out HTU.out.2.2.1 HTU.out.2.2.2.1 HTU.out.2.2.2.2 HTU.out.1 HLo.out HG4.out (by have := HPw.out; omega) HIv.out v
        have HRd4 : Hid (Rd w4 A2 len fun i => .int .u8 (zs.getD i 0)) := HOk.out.1.rd.below (HG4.out.old hB) fun ad h0 e => HOk.out.1.rd.lt ad h0 e
        have HRd4d : Hid (Rd w4.drew A2 len fun i => .int .u8 (zs.getD i 0)) := HRd4.out
        have HZs : Hid (zs.length ≤ 140737488355328) := by show _ ≤ _; rw [HOk.out.1.len]; exact HOk.out.2
        go_cut [11] (fun e wx => ∃ (s2 : Sm) (cd : Nat) (td : Bool), e = errv a cd ∧ Hid (cd ≠ 0 → vwV s2 = .agg #[.int .u32 s1.id, .int .i64 s1.st, .bool s1.mine, .bool s1.acc, .int .i64 (s1.sg.length : Int), .int .u32 vc, .int .i64 vl, .int .i64 (s1.un.length : Int), .int .i64 vo, .bool s1.cl, .bool td]) ∧ Two wx (p + 1) G G' s2 t1 ∧ s2.Up ∧ Chg none_ w wx ∧ Is wx p 55 (prC0 g h) ∧ Is wx rv 58 #[.int .u32 s1.id, .int .i64 s1.st, .bool s1.mine, .bool s1.acc, .int .i64 (s1.sg.length : Int), .int .u32 vc, .int .i64 vl, .int .i64 (s1.un.length : Int), .int .i64 vo, .bool s1.cl, .bool td])
        case first =>
          by_cases e2 : kd = 2
          · subst e2
            go_wp2_with fail
            refine (run_accept HR4.out).mono ?_
            rintro e w5 ⟨rfl, r⟩
            have HX := Lib.hid (HFin.out _ _ r)
            have HXp := Lib.hid (HI4.out.chg r.chg fun ht => by have := (HTU.out.2.2.2.1 _ ht).1; omega)
            clear r
            go_wp2_with fail
            go_meet
            exact ⟨acS s1, acC s1, s1.td, rfl, fun h0 => by rw [acS_no h0]; exact HV.out, HX.out.1, acS_up HUs.out.1, HX.out.2.1, HXp.out, HX.out.2.2⟩
          have n2 : (kd == 2) = false := by simp [e2]
          by_cases e3 : kd = 3
          · subst e3
            go_wp2_with fail
            refine (copied_any w4 A2 len cap zs HOk.out.1.len HRd4.out HOk.out.2).mono ?_
            rintro e w5 ⟨v, rfl, j1, j2⟩
            have J1 := Lib.hid j1
            have J2 := Lib.hid j2
            clear j1 j2
            go_wp2_with fail
            refine (run_write (HR4.out.grow J2.out) v zs (BsO.of_ob J1.out HOk.out.1.byt) (z := w4.heap.size) J2.out.size (HR4.out.old J2.out) (fun k hk => J1.out.block k (J1.out.rdk k hk)) HZs.out).mono ?_
            rintro e w6 ⟨rfl, r⟩
            have HX := Lib.hid (HFin.out _ _ r)
            have HXp := Lib.hid (HI4.out.chg r.chg fun ht => by have := (HTU.out.2.2.2.1 _ ht).1; omega)
            clear r
            go_wp2_with fail
            go_meet
            exact ⟨wrS s1 zs, wrC s1, s1.td, rfl, fun h0 => by rw [wrS_no h0]; exact HV.out, HX.out.1, wrS_up HUs.out.1 zs, HX.out.2.1, HXp.out, HX.out.2.2⟩
          have n3 : (kd == 3) = false := by simp [e3]
          by_cases e4 : kd = 4
          · subst e4
            go_wp2_with fail
            refine (run_close HR4.out).mono ?_
            rintro e w5 ⟨rfl, r⟩
            have HX := Lib.hid (HFin.out _ _ r)
            have HXp := Lib.hid (HI4.out.chg r.chg fun ht => by have := (HTU.out.2.2.2.1 _ ht).1; omega)
            clear r
            go_wp2_with fail
            go_meet
            exact ⟨clS s1, wrC s1, s1.td, rfl, fun h0 => by rw [clS_no h0]; exact HV.out, HX.out.1, clS_up HUs.out.1, HX.out.2.1, HXp.out, HX.out.2.2⟩
          have n4 : (kd == 4) = false := by simp [e4]
          by_cases e5 : kd = 5
          · subst e5
            have hno := rtS_no (s := s1) (n := nn)
            have hle := rtC_le s1 nn
            have hup := rtS_up HUs.out.1 nn
            obtain ⟨rc, hrc⟩ : ∃ q, rtC s1 nn = q := ⟨_, rfl⟩
            obtain ⟨rs, hrs⟩ : ∃ q, rtS s1 nn = q := ⟨_, rfl⟩
            have HRd : Hid (Calls Tryd.prog 25 #[.pointer (some ⟨G, 0, none⟩), .int .i64 nn] w4 fun e wj => ∃ v x, e = .returned (.tuple #[v, .int .u32 x, errv a rc]) ∧ Run w.heap.size a w4 wj T G rs) := by
              show Calls _ _ _ _ _
              rw [← hrc, ← hrs]
              exact (run_read HR4.out nn HOk.out.1.n.1 HOk.out.1.n.2).mono fun e wj ⟨v, q1, _, q2⟩ => ⟨v, _, q1, q2⟩
            rw [hrc, hrs] at hno
            rw [hrc] at hle
            rw [hrs] at hup
            have HNo := Lib.hid (And.intro hno (And.intro hle hup))
            clear hno hle hup hrc hrs
            go_wp2_with fail
            refine HRd.out.mono ?_
            rintro e w5 ⟨v, x, rfl, r⟩
            have HRn := Lib.hid r
            clear r
            go_wp2_with fail
            refine (code_any w5 HRn.out.sen rc HNo.out.2.1).mono ?_
            rintro e w' ⟨rfl, rfl⟩
            have f10 : ∀ j, w5.frozen? ⟨rv, j, none⟩ = false := fun j => (HFin.out _ _ HRn.out).2.2.frozen j
            have v10 : w5.cell? ⟨rv, 10, none⟩ = some (.bool s1.td) := (HFin.out _ _ HRn.out).2.2.at_ 10 _ rfl
            by_cases h25 : rc = 25
            · subst h25
              go_wp2_with fail
              go_meet
              have hx := HFinS.out _ _ HRn.out (.bool true)
              have hxp : Is (w5.setCell ⟨rv, 10, none⟩ (.bool true)) p 55 (prC0 g h) := (HI4.out.chg HRn.out.chg fun ht => by have := (HTU.out.2.2.2.1 _ ht).1; omega).far (p := ⟨rv, 10, none⟩) (by have := HLo.out.1; have := HTU.out.1; show p ≠ rv; omega) _
              exact ⟨rs, 25, true, rfl, fun h0 => by
                rcases HNo.out.1 h0 with ⟨_, e⟩ | ⟨e, _⟩
                · rw [e]; exact vw_td HV.out true
                · exact absurd rfl e, hx.1, HNo.out.2.2, hx.2.1, hxp, hx.2.2⟩
            · have h25I : ¬ (rc : Int) = 25 := by omega
              have r := HRn.out
              have HX := Lib.hid (HFin.out _ _ r)
              have HXp := Lib.hid (HI4.out.chg r.chg fun ht => by have := (HTU.out.2.2.2.1 _ ht).1; omega)
              clear r
              go_wp2_with fail
              go_meet
              exact ⟨rs, rc, s1.td, rfl, fun h0 => by
                rcases HNo.out.1 h0 with ⟨e, _⟩ | ⟨_, e⟩
                · exact absurd e h25
                · rw [e]; exact HV.out, HX.out.1, HNo.out.2.2, HX.out.2.1, HXp.out, HX.out.2.2⟩
          have n5 : (kd == 5) = false := by simp [e5]
          by_cases e7 : kd = 7
          · subst e7
            go_wp2_with fail
            go_region_held3 (fun u => u.cell? ⟨ro, 3, none⟩ = some (.slice A2 len cap) ∧ u.cell? ⟨ro, 5, none⟩ = some (.bool fl))
              (first | assumption | exact ⟨b3, b5⟩)
              (first
                | (go_at_call 23; refine (copied_any _ A2 len cap zs HOk.out.1.len HRd4d.out HOk.out.2).mono ?_; rintro e w5 ⟨v, rfl, j1, j2⟩
                   have j2' : Chg none_ w4 w5 := ((Chg.refl none_ w4).drew).trans j2
                   have ho5 : w5.cell? ⟨ro, 3, none⟩ = some (.slice A2 len cap) ∧ w5.cell? ⟨ro, 5, none⟩ = some (.bool fl) := ⟨(HIo4.out.chg j2' fun f => f).at_ 3 _ rfl, (HIo4.out.chg j2' fun f => f).at_ 5 _ rfl⟩)
                | (go_at_call 27; refine (run_arrive (HR4.out.grow j2') v zs (BsO.of_ob j1 HOk.out.1.byt) (z := w4.heap.size) j2'.size (HR4.out.old j2') (fun k hk => j1.block k (j1.rdk k hk)) HZs.out fl).mono ?_; rintro e w6 ⟨rfl, r⟩
                   have ho6 : w6.cell? ⟨ro, 3, none⟩ = some (.slice A2 len cap) ∧ w6.cell? ⟨ro, 5, none⟩ = some (.bool fl) := ⟨(HIo4.out.chg r.chg fun ht => by have := (HTU.out.2.2.2.1 _ ht).2; omega).at_ 3 _ rfl, (HIo4.out.chg r.chg fun ht => by have := (HTU.out.2.2.2.1 _ ht).2; omega).at_ 5 _ rfl⟩))
            have HX := Lib.hid (HFin.out _ _ r)
            have HXp := Lib.hid (HI4.out.chg r.chg fun ht => by have := (HTU.out.2.2.2.1 _ ht).1; omega)
            clear r
            go_wp2_with fail
            go_meet
            exact ⟨avS s1 zs fl, avC s1 zs.length, s1.td, rfl, fun h0 => by rw [avS_no h0]; exact HV.out, HX.out.1, avS_up HUs.out.1 zs fl, HX.out.2.1, HXp.out, HX.out.2.2⟩
          have n7 : (kd == 7) = false := by simp [e7]
          by_cases e8 : kd = 8
          · subst e8
            go_wp2_with fail
            refine (run_grant HR4.out dl HOk.out.1.d0 HOk.out.1.d1 fl).mono ?_
            rintro e w5 ⟨rfl, r⟩
            have HX := Lib.hid (HFin.out _ _ r)
            have HXp := Lib.hid (HI4.out.chg r.chg fun ht => by have := (HTU.out.2.2.2.1 _ ht).1; omega)
            clear r
            go_wp2_with fail
            go_meet
            exact ⟨gnS s1 dl fl, gnC s1 dl, s1.td, rfl, fun h0 => by rw [gnS_no h0]; exact HV.out, HX.out.1, gnS_up HUs.out.1 dl fl, HX.out.2.1, HXp.out, HX.out.2.2⟩
          have n8 : (kd == 8) = false := by simp [e8]
          go_wp2_with fail
          refine (run_frame HR4.out).mono ?_
          rintro e w5 ⟨x2, x3, x4, v, ok, rfl, _, r⟩
          have HX := Lib.hid (HFin.out _ _ r)
          have HXp := Lib.hid (HI4.out.chg r.chg fun ht => by have := (HTU.out.2.2.2.1 _ ht).1; omega)
          clear r
          go_wp2_with fail
          go_meet
          exact ⟨fxS s1, 0, s1.td, rfl, fun h0 => absurd rfl h0, HX.out.1, fxS_up HUs.out.1, HX.out.2.1, HXp.out, HX.out.2.2⟩
        case rest =>
          obtain ⟨s2, cd, td, rfl, hvw, htwo, hup, hg5, hi5, hv5⟩ := hcut
          have HVw := hvw
          have HT5 := Lib.hid htwo
          have HUp5 := Lib.hid hup
          have HG5 := Lib.hid hg5
          have HI5 := Lib.hid hi5
          have HV5 := Lib.hid hv5
          have HBack := hback
          clear hvw htwo hup hg5 hi5 hv5 hback HFin HFinS HRd4 HRd4d HZs HR4 HP4 HG4 HI4 HIo4 HIv b0 b2 b3 b4 b5
          by_cases h0 : cd = 0
          · subst h0
            rw [show errv a 0 = Value.nilIface from rfl]
            go_wp2_with fail
            go_quiet (fail)
            go_wp2
            go_roundw
            case rel =>
              obtain ⟨s', t', q1, q2, q3⟩ := HBack.out _ s2 (HT5.out.keep ((Chg.refl none_ wc).drewN _)) HUp5.out
              exact ⟨k + 1, s', t', by omega, by go_num, q1, q2, q3, HG5.out.drewN _, HI5.out.drewN _⟩
            case measure => simp [intOf]; omega
          · obtain ⟨q, rfl⟩ : ∃ q, cd = q + 1 := ⟨cd - 1, by omega⟩
            have hvq := HVw.out h0
            have HVq := Lib.hid hvq
            rw [show errv a (q + 1) = .iface 200 (.pointer (some (a (q + 1)))) from rfl]
            clear hvq h0 HVw
            go_wp2_with fail
            go_region_held3 (fun u => u.cell? ⟨rv, 0, none⟩ = some (.int .u32 s1.id) ∧ u.cell? ⟨rv, 1, none⟩ = some (.int .i64 s1.st) ∧ u.cell? ⟨rv, 2, none⟩ = some (.bool s1.mine) ∧ u.cell? ⟨rv, 3, none⟩ = some (.bool s1.acc) ∧ u.cell? ⟨rv, 4, none⟩ = some (.int .i64 (s1.sg.length : Int)) ∧ u.cell? ⟨rv, 5, none⟩ = some (.int .u32 vc) ∧ u.cell? ⟨rv, 6, none⟩ = some (.int .i64 vl) ∧ u.cell? ⟨rv, 7, none⟩ = some (.int .i64 (s1.un.length : Int)) ∧ u.cell? ⟨rv, 8, none⟩ = some (.int .i64 vo) ∧ u.cell? ⟨rv, 9, none⟩ = some (.bool s1.cl) ∧ u.cell? ⟨rv, 10, none⟩ = some (.bool td))
              (first | assumption | exact ⟨HV5.out.at_ 0 _ rfl, HV5.out.at_ 1 _ rfl, HV5.out.at_ 2 _ rfl, HV5.out.at_ 3 _ rfl, HV5.out.at_ 4 _ rfl, HV5.out.at_ 5 _ rfl, HV5.out.at_ 6 _ rfl, HV5.out.at_ 7 _ rfl, HV5.out.at_ 8 _ rfl, HV5.out.at_ 9 _ rfl, HV5.out.at_ 10 _ rfl⟩)
              (first
                | (go_at_call 20
                   obtain ⟨_, _, _, p5, _⟩ := HT5.out.keep ((Chg.refl none_ wc).drew)
                   refine (sview_any _ p5).mono ?_
                   rintro e w6 ⟨rfl, c6⟩
                   rw [HVq.out]
                   have c6' : Chg none_ wc w6 := ((Chg.refl none_ wc).drew).trans c6
                   have hv6 := HV5.out.chg c6' fun f => f
                   have hs6 : (fun u : World => u.cell? ⟨rv, 0, none⟩ = some (.int .u32 s1.id) ∧ u.cell? ⟨rv, 1, none⟩ = some (.int .i64 s1.st) ∧ u.cell? ⟨rv, 2, none⟩ = some (.bool s1.mine) ∧ u.cell? ⟨rv, 3, none⟩ = some (.bool s1.acc) ∧ u.cell? ⟨rv, 4, none⟩ = some (.int .i64 (s1.sg.length : Int)) ∧ u.cell? ⟨rv, 5, none⟩ = some (.int .u32 vc) ∧ u.cell? ⟨rv, 6, none⟩ = some (.int .i64 vl) ∧ u.cell? ⟨rv, 7, none⟩ = some (.int .i64 (s1.un.length : Int)) ∧ u.cell? ⟨rv, 8, none⟩ = some (.int .i64 vo) ∧ u.cell? ⟨rv, 9, none⟩ = some (.bool s1.cl) ∧ u.cell? ⟨rv, 10, none⟩ = some (.bool td)) w6 := ⟨hv6.at_ 0 _ rfl, hv6.at_ 1 _ rfl, hv6.at_ 2 _ rfl, hv6.at_ 3 _ rfl, hv6.at_ 4 _ rfl, hv6.at_ 5 _ rfl, hv6.at_ 6 _ rfl, hv6.at_ 7 _ rfl, hv6.at_ 8 _ rfl, hv6.at_ 9 _ rfl, hv6.at_ 10 _ rfl⟩))
            have HC6 := Lib.hid c6'
            clear c6 c6' hv6 hs6
            go_wp2
            go_roundw
            case rel =>
              obtain ⟨s', t', q1, q2, q3⟩ := HBack.out _ s2 (HT5.out.keep HC6.out) HUp5.out
              exact ⟨k + 1, s', t', by omega, by go_num, q1, q2, q3, HG5.out.trans HC6.out, HI5.out.chg HC6.out fun f => f⟩
            case measure => simp [intOf]; omega
    · have hkn' : ¬ (k : Int) < (n : Int) := by omega
      have y0 : wr.cell? ⟨p, 0, none⟩ = some (.pointer (some ⟨g, 0, none⟩)) := HI.out.at_ 0 _ rfl
      go_wp2_with fail
      obtain ⟨hL, T, U, h1, h2, h3, h4, h5⟩ := HTwo.out
      refine (behind_any (HS.out.below (HG.out.old hB)) (HT.out.below (HG.out.old hB)) HG.out.size h1 (fun k hk => by have := (h4 k hk).1; have := HPw.out; omega) HUp.out.1 cut).mono ?_
      rintro e w9 ⟨rfl, c9⟩
      have HC9 : Hid (Below w.heap.size w w9) := (HG.out.then c9 fun k hk ht => by have := (h4 k ht).1; have := HPw.out; omega).below (fun _ _ f => f.elim) hB
      clear c9 h1 h2 h3 h4 h5 hL
      go_wp2
      go_ret
      exact ⟨rfl, HC9.out⟩
end
end Go.Proofs.YthalmjjbamglgaaDoor
