/-
  culvertlaw10.StreamPair walked.
  The conditions: the error variables and the table laid.
-/
import Derived.Test.YthalmjjbamglgaaDoorPrS
import Derived.Deep.DeepCutAuto
import Derived.Deep.CutBlock
import Derived.Deep.RegionHeld3
import Derived.StillTailTactics
namespace Go.Proofs.YthalmjjbamglgaaDoor
open Go.RowKit
set_option linter.unusedVariables false
set_option linter.unusedSimpArgs false
section
variable {a : Nat → Addr}
set_option maxRecDepth 100000 in
set_option maxHeartbeats 8000000 in
theorem streampair_walk (w : World) (hs : Sen w.heap.size a w) (ht : Tab w.heap.size w) (WI stI frI y3 y4 y5 y6 y7 : Int) (A : Option Addr) (n c : Nat) (hnc : n ≤ c) (hn20 : n ≤ 1048576) (O : Nat → Mvv) (hr : Rds w A n 3 fun i j => (O i).cells.getD j (.bool false)) (hO : ∀ i, i < n → (O i).Ok w ∧ (O i).len ≤ 140737488355328) :
    Calls Tryd.prog 9 #[.agg #[.int .i64 WI, .int .i64 stI, .int .i64 frI, .int .i64 y3, .int .i64 y4, .int .i64 y5, .int .i64 y6, .int .i64 y7], .slice A n c] w fun e w' => e = .returned (.bool true) ∧ Below w.heap.size w w' := by
  have HS := Lib.hid hs
  have HT := Lib.hid ht
  have HR := Lib.hid hr
  have HOs := Lib.hid hO
  have HNc := Lib.hid (And.intro hnc hn20)
  have hB : w.heap.size ≤ w.heap.size := Nat.le_refl _
  have hn63 : (n : Int) ≤ 1048576 := by omega
  obtain ⟨w0, hw0⟩ : ∃ y, w.alloc (.cells #[.int .i64 WI, .int .i64 stI, .int .i64 frI, .int .i64 y3, .int .i64 y4, .int .i64 y5, .int .i64 y6, .int .i64 y7] 43) = y := ⟨_, rfl⟩
  have HC0 : Hid (Chg none_ w w0) := by show Chg _ _ _; rw [← hw0]; exact (Chg.refl none_ w).alloc _
  have HI0 : Hid (Is w0 w.heap.size 43 #[.int .i64 WI, .int .i64 stI, .int .i64 frI, .int .i64 y3, .int .i64 y4, .int .i64 y5, .int .i64 y6, .int .i64 y7]) := by show Is _ _ _ _; rw [← hw0]; exact Is.new w _ _
  have HZ0 : Hid (w.heap.size < w0.heap.size) := by show _ < _; rw [← hw0]; simp
  clear hs ht hr hO hnc hn20
  by_cases hk : 1 ≤ WI ∧ WI ≤ 2147483647 ∧ 1 ≤ stI ∧ stI ≤ 1048576 ∧ 1 ≤ frI ∧ frI ≤ 65536
  · obtain ⟨W, rfl⟩ : ∃ W : Nat, WI = (W : Int) := ⟨WI.toNat, by omega⟩
    obtain ⟨st, rfl⟩ : ∃ W : Nat, stI = (W : Int) := ⟨stI.toNat, by omega⟩
    obtain ⟨fr, rfl⟩ : ∃ W : Nat, frI = (W : Int) := ⟨frI.toNat, by omega⟩
    have HK := Lib.hid hk
    clear hk
    go_enter Tryd.func9, Tryd.ntmps9
    go_wp2_with fail
    clear hw0
    refine (awake10_any w0 (HS.out.below (HC0.out.old hB)) (HT.out.below (HC0.out.old hB)) HC0.out.size).mono ?_
    rintro e w1 ⟨rfl, c1⟩
    have HC1 : Hid (Chg none_ w w1) := HC0.out.trans c1
    have HZ1 : Hid (w.heap.size < w1.heap.size) := Nat.lt_of_lt_of_le HZ0.out c1.size
    have HI1 : Hid (Is w1 w.heap.size 43 #[.int .i64 (W : Int), .int .i64 (st : Int), .int .i64 (fr : Int), .int .i64 y3, .int .i64 y4, .int .i64 y5, .int .i64 y6, .int .i64 y7]) := HI0.out.chg c1 fun f => f
    have k0 : w1.cell? ⟨w.heap.size, 0, none⟩ = some (.int .i64 (W : Int)) := HI1.out.at_ 0 _ rfl
    have k1 : w1.cell? ⟨w.heap.size, 1, none⟩ = some (.int .i64 (st : Int)) := HI1.out.at_ 1 _ rfl
    have k2 : w1.cell? ⟨w.heap.size, 2, none⟩ = some (.int .i64 (fr : Int)) := HI1.out.at_ 2 _ rfl
    have k3 : w1.cell? ⟨w.heap.size, 3, none⟩ = some (.int .i64 y3) := HI1.out.at_ 3 _ rfl
    have k4 : w1.cell? ⟨w.heap.size, 4, none⟩ = some (.int .i64 y4) := HI1.out.at_ 4 _ rfl
    have k5 : w1.cell? ⟨w.heap.size, 5, none⟩ = some (.int .i64 y5) := HI1.out.at_ 5 _ rfl
    have k6 : w1.cell? ⟨w.heap.size, 6, none⟩ = some (.int .i64 y6) := HI1.out.at_ 6 _ rfl
    have k7 : w1.cell? ⟨w.heap.size, 7, none⟩ = some (.int .i64 y7) := HI1.out.at_ 7 _ rfl
    clear c1
    go_wp2_with fail
    refine (open_yes w1 (HS.out.below (HC1.out.old hB)) (HT.out.below (HC1.out.old hB)) HC1.out.size W st fr y3 y4 y5 y6 y7 (by have := HK.out; omega) (by have := HK.out; omega) (by have := HK.out; omega) (by have := HK.out; omega) (by have := HK.out; omega) (by have := HK.out; omega)).mono ?_
    rintro e w2 ⟨ga, gb, m, rfl, p1, p2, hm1, hm2, c2⟩
    have HP1 := Lib.hid p1
    have HP2 := Lib.hid p2
    have HM := Lib.hid (And.intro hm1 hm2)
    have HC12 := Lib.hid c2
    clear p1 p2 hm1 hm2 c2 k0 k1 k2 k3 k4 k5 k6 k7
    go_wp2_with fail
    obtain ⟨w4, hw4⟩ : ∃ y, (w2.alloc (.cells #[.pointer (some ⟨ga, 0, none⟩), .pointer (some ⟨gb, 0, none⟩)] 49)).alloc (.cells #[.slice none 0 0, .slice none 0 0, .slice none 0 0, .slice none 0 0, .bool false, .bool false, .slice none 0 0, .slice none 0 0, .slice none 0 0, .slice none 0 0, .bool false, .bool false] 103) = y := ⟨_, rfl⟩
    rw [hw4]
    have HC24 : Hid (Chg none_ w2 w4) := by
      show Chg _ _ _
      rw [← hw4]
      exact ((Chg.refl none_ w2).alloc _).alloc _
    have HIe : Hid (Is w4 w2.heap.size 49 #[.pointer (some ⟨ga, 0, none⟩), .pointer (some ⟨gb, 0, none⟩)]) := by
      show Is _ _ _ _
      rw [← hw4]
      exact (Is.new w2 _ _).alloc _
    have HIw : Hid (Is w4 (w2.heap.size + 1) 103 (wcells zS)) := by
      show Is _ _ _ _
      rw [← hw4]
      exact isn2v w2 _ _ _
    have HZ4 : Hid (w2.heap.size < w4.heap.size) := by
      show _ < _
      rw [← hw4]
      simp
      omega
    have hP := pp_start (w := w) (L := w.heap.size) (rc := w.heap.size) (eb := w2.heap.size) (wb := w2.heap.size + 1) HC1.out.size HP1.out HP2.out HM.out.1 HM.out.2 ⟨Nat.le_refl _, HZ1.out⟩ ⟨Nat.le_refl _, HZ4.out⟩ (by omega) (by omega) HC24.out HIw.out
    obtain ⟨X4, hX4⟩ : ∃ y : Nat → Prop, (fun k => k = w.heap.size ∨ k = w2.heap.size) = y := ⟨_, rfl⟩
    have hx4 : X4 w.heap.size ∧ X4 w2.heap.size := by rw [← hX4]; exact ⟨.inl rfl, .inr rfl⟩
    rw [hX4] at hP
    have HX4 := Lib.hid hx4
    have HP4 := Lib.hid hP
    have HI4 : Hid (Is w4 w.heap.size 43 #[.int .i64 (W : Int), .int .i64 (st : Int), .int .i64 (fr : Int), .int .i64 y3, .int .i64 y4, .int .i64 y5, .int .i64 y6, .int .i64 y7]) := ((HI1.out.chg HC12.out fun f => f).chg HC24.out fun f => f)
    have HC4 : Hid (Chg none_ w w4) := (HC1.out.trans HC12.out).trans HC24.out
    obtain ⟨eb, heb⟩ : ∃ y, w2.heap.size = y := ⟨_, rfl⟩
    obtain ⟨wb, hwb⟩ : ∃ y, eb + 1 = y := ⟨_, rfl⟩
    rw [heb, hwb] at HP4
    rw [heb] at HX4 HIe ⊢
    rw [hwb]
    have q0 : qS ga gb 0 = ga := rfl
    have q1 : qS ga gb 1 = gb := rfl
    have hI0 : Inv2 (sS W st fr) wS 0 := inv2_start (by have := HK.out; omega)
    have HV0 := Lib.hid hI0
    generalize labS wb w.heap.size eb m = lab0 at HP4
    generalize qS ga gb = q at HP4 q0 q1
    subst q0 q1
    clear hP hX4 hx4 hw4 HP1 HP2 HM HZ4 HIw hI0
    go_loopw [11] (fun x11 wr => ∃ (k : Nat) (s' : Nat → Sm) (W' : Nat → Wr) (lab' : Nat → Nat) (c' : Nat → Nat → Value), k ≤ n ∧ x11 = .int .i64 k ∧ Hid (Pp w4 X4 wr w.heap.size wb q lab' s' W' c' ∧ Inv2 s' W' (2 * k) ∧ ∀ d, (s' d).cr.W = (W : Int)) ∧ Chg (fun k => w.heap.size ≤ k) w wr) (fun x _ => n - (intOf x).toNat)
    case atStart => exact ⟨0, _, _, _, _, by omega, rfl, ⟨HP4.out, HV0.out, sS_W W st fr⟩, HC4.out.more fun _ _ f => f.elim⟩
    case round =>
      obtain ⟨k, sa, Wa, lab1, c1, hk, rfl, hh, hg⟩ := hrel
      have HH := Lib.hid hh.out
      have HG := Lib.hid hg
      have HBl : Hid (Below w.heap.size w wr) := hg.below (fun k _ hk => hk) hB
      clear hh hg HP4 HV0 HC4
      by_cases hkn : k < n
      · obtain ⟨ad, rfl, hcell⟩ := HR.out (by omega)
        clear hcell
        have x0 : wr.cell? (ad.add (k * 3)) = some ((O k).cells.getD 0 (.bool false)) := HR.out.f0 rfl HBl.out (by decide) hkn
        have x1 : wr.cell? ⟨(ad.add (k * 3)).block, (ad.add (k * 3)).off + 1, none⟩ = some ((O k).cells.getD 1 (.bool false)) := HR.out.fj rfl HBl.out hkn (j := 1) (by decide) (by decide)
        have x2 : wr.cell? ⟨(ad.add (k * 3)).block, (ad.add (k * 3)).off + 2, none⟩ = some ((O k).cells.getD 2 (.bool false)) := HR.out.fj rfl HBl.out hkn (j := 2) (by decide) (by decide)
        have HOk := Lib.hid (HOs.out k hkn)
        generalize O k = ok at x0 x1 x2 HOk
        obtain ⟨kd, nn, A2, len, cap, zs⟩ := ok
        have hk0 : (0 : Int) ≤ (k : Int) := by omega
        have hkI : (k : Int) < (n : Int) := by omega
        replace x0 : wr.cell? (ad.add (k * 3)) = some (.int .i64 kd) := x0
        replace x1 : wr.cell? ⟨(ad.add (k * 3)).block, (ad.add (k * 3)).off + 1, none⟩ = some (.int .i64 nn) := x1
        replace x2 : wr.cell? ⟨(ad.add (k * 3)).block, (ad.add (k * 3)).off + 2, none⟩ = some (.slice A2 len cap) := x2
        by_cases hout : kd < 0 ∨ 13 < kd
        · rcases hout with hneg | hbig
          · go_wp2_with fail
            go_roundw
            case rel => exact ⟨k + 1, sa, Wa, _, _, by omega, by go_num, ⟨HH.out.1.keep ((Chg.refl none_ wr).alloc _), HH.out.2.1.more (by omega), HH.out.2.2⟩, HG.out.trans ((Chg.refl _ wr).alloc _)⟩
            case measure => simp [intOf]; omega
          · have hneg : ¬ kd < 0 := by omega
            go_wp2_with fail
            go_roundw
            case rel => exact ⟨k + 1, sa, Wa, _, _, by omega, by go_num, ⟨HH.out.1.keep ((Chg.refl none_ wr).alloc _), HH.out.2.1.more (by omega), HH.out.2.2⟩, HG.out.trans ((Chg.refl _ wr).alloc _)⟩
            case measure => simp [intOf]; omega
        · have hneg : ¬ kd < 0 := by omega
          have hbig : ¬ 13 < kd := by omega
          have hbe : ∃ e : Nat, e < 2 ∧ bits BinOp.and IntKind.i64 kd 1 = (e : Int) := by
            rcases (show kd = 0 ∨ kd = 1 ∨ kd = 2 ∨ kd = 3 ∨ kd = 4 ∨ kd = 5 ∨ kd = 6 ∨ kd = 7 ∨ kd = 8 ∨ kd = 9 ∨ kd = 10 ∨ kd = 11 ∨ kd = 12 ∨ kd = 13 by omega) with rfl | rfl | rfl | rfl | rfl | rfl | rfl | rfl | rfl | rfl | rfl | rfl | rfl | rfl
            all_goals first | exact ⟨0, by decide, by decide⟩ | exact ⟨1, by decide, by decide⟩
          obtain ⟨e, he2, hbits⟩ := hbe
          obtain ⟨w5, hw5⟩ : ∃ y, wr.alloc (.cells #[.int .i64 kd, .int .i64 nn, .slice A2 len cap] 105) = y := ⟨_, rfl⟩
          have HC5 : Hid (Chg none_ wr w5) := by
            show Chg _ _ _
            rw [← hw5]
            exact (Chg.refl none_ wr).alloc _
          have hmb : Is w5 wr.heap.size 105 #[.int .i64 kd, .int .i64 nn, .slice A2 len cap] := by
            rw [← hw5]
            exact Is.new wr _ _
          have hx5 : (fun k => X4 k ∨ (wr.heap.size ≤ k ∧ k < w5.heap.size)) w.heap.size ∧ (fun k => X4 k ∨ (wr.heap.size ≤ k ∧ k < w5.heap.size)) eb ∧ (fun k => X4 k ∨ (wr.heap.size ≤ k ∧ k < w5.heap.size)) wr.heap.size := ⟨.inl HX4.out.1, .inl HX4.out.2, .inr ⟨Nat.le_refl _, by rw [← hw5]; simp⟩⟩
          have hb1 : ∀ k, X4 k → (fun k => X4 k ∨ (wr.heap.size ≤ k ∧ k < w5.heap.size)) k ∧ w5.heap[k]? = w4.heap[k]? := fun k hk => ⟨.inl hk, by
            obtain ⟨y1, _, y3⟩ := HH.out.1.ex k hk
            exact (HC5.out.block k y1 fun f => f).trans y3⟩
          have H5 := Lib.hid (HH.out.1.boxes HC5.out)
          obtain ⟨X5, hX⟩ : ∃ y : Nat → Prop, (fun k => X4 k ∨ (wr.heap.size ≤ k ∧ k < w5.heap.size)) = y := ⟨_, rfl⟩
          obtain ⟨lab5, hlab5⟩ : ∃ y, relab lab1 wr.heap.size 50 = y := ⟨_, rfl⟩
          rw [hX] at hx5 hb1 H5
          rw [hlab5] at H5
          have HX5 := Lib.hid hx5
          have HB1 := Lib.hid hb1
          have HI5c : Hid (Is w5 w.heap.size 43 #[.int .i64 (W : Int), .int .i64 (st : Int), .int .i64 (fr : Int), .int .i64 y3, .int .i64 y4, .int .i64 y5, .int .i64 y6, .int .i64 y7]) := (HH.out.1.is HX4.out.1 HI4.out).chg HC5.out fun f => f
          have hi5 : Is w5 eb 49 #[.pointer (some ⟨q 0, 0, none⟩), .pointer (some ⟨q 1, 0, none⟩)] := (HH.out.1.is HX4.out.2 HIe.out).chg HC5.out fun f => f
          have HI5 := Lib.hid (And.intro hi5 hmb)
          have hqd : (#[.pointer (some ⟨q 0, 0, none⟩), .pointer (some ⟨q 1, 0, none⟩)] : Array Value)[e]? = some (.pointer (some ⟨q e, 0, none⟩)) := by rcases lt2 he2 with rfl | rfl <;> rfl
          have hqe : (#[.pointer (some ⟨q 0, 0, none⟩), .pointer (some ⟨q 1, 0, none⟩)] : Array Value)[1 - e]? = some (.pointer (some ⟨q (1 - e), 0, none⟩)) := by rcases lt2 he2 with rfl | rfl <;> rfl
          have HQn := Lib.hid (And.intro hqd hqe)
          have HW5 := Lib.hid hw5
          have HG5 : Hid (Chg (fun k => w.heap.size ≤ k) w w5) := HG.out.trans (HC5.out.more fun _ _ f => f.elim)
          clear hqd hqe hx5 hb1 hX hlab5 hw5 hmb hi5 hout
          have i3 : (e : Int) < 2 := by omega
          have i0 : decide ((e : Int) < 0) = false := by simp
          have i1 : decide (2 ≤ e) = false := by simp; omega
          have m1 : IntKind.i64.wrap (1 - (e : Int)) = ((1 - e : Nat) : Int) := (IntWalk.i64_in _ (by omega)).trans (by omega)
          have j0 : decide (((1 - e : Nat) : Int) < 0) = false := by simp
          have j1 : decide (2 ≤ 1 - e) = false := by simp; omega
          have j2 : ((1 - e : Nat) : Int) < 2 := by omega
          by_cases h6 : kd / 2 = 6
          · have b6 : (kd / 2 == 6) = true := by simp [h6]
            have y0 : (wr.alloc (.cells #[.int .i64 kd, .int .i64 nn, .slice A2 len cap] 105)).cell? ⟨eb, e, none⟩ = some (.pointer (some ⟨q e, 0, none⟩)) := by
              rw [HW5.out]
              exact HI5.out.1.at_ e _ HQn.out.1
            go_wp2_with fail
            rw [HW5.out]
            clear y0
            have hbel : Below w.heap.size w w5 := HG5.out.below (fun k _ hk => hk) hB
            have HR5 : Hid (Run w.heap.size a w5 w5 _ (q e) (sa e)) := Run.init (HS.out.below hbel) (HT.out.below hbel) HG5.out.size (H5.out.st e he2) (fun k hk => hk.1)
            clear hbel
            refine (run_accept HR5.out).mono ?_
            rintro e1 wa ⟨rfl, ra⟩
            have HGa : Hid (Chg (fun k => w.heap.size ≤ k) w wa) := HG5.out.trans (ra.chg.more fun k _ hk => hk.1)
            have hPa := H5.out.ran he2 HG5.out.size ra
            have hVa := HH.out.2.1.accept he2
            have hWa : ∀ d, (upd sa e (acS (sa e)) d).cr.W = (W : Int) := fun d => (upd_crW (acS_W _) d).trans (HH.out.2.2 d)
            obtain ⟨sb, hsb⟩ : ∃ y, upd sa e (acS (sa e)) = y := ⟨_, rfl⟩
            obtain ⟨ev, hev⟩ : ∃ y, errv a (acC (sa e)) = y := ⟨_, rfl⟩
            rw [hsb] at hPa hVa hWa
            rw [hev]
            have HPa := Lib.hid hPa
            have HVa := Lib.hid hVa
            have HWa := Lib.hid hWa
            clear ra hPa hVa hWa hsb hev HR5 x0 x1 x2
            go_wp2_with fail
            have HPe := Lib.hid (HPa.out.keep (Chg.refl none_ wa).drew)
            refine wp_region_held_drew (S := fun u => Is u eb 49 #[.pointer (some ⟨q 0, 0, none⟩), .pointer (some ⟨q 1, 0, none⟩)] ∧ Is u wr.heap.size 105 #[.int .i64 kd, .int .i64 nn, .slice A2 len cap]) (by kernel_rfl) ⟨HPe.out.is HX5.out.2.1 HI5.out.1, HPe.out.is HX5.out.2.2 HI5.out.2⟩ (fun hS0 => ?_)
            refine take_at 64 (i := 0) (v := .int .i64 (e : Int)) rfl (by kernel_rfl) (by kernel_rfl) (by kernel_rfl) (by kernel_rfl) (fun _ _ _ h => h) (Or.inl ⟨by kernel_rfl, by intro u hSw; (try dsimp only at hSw); go_simp⟩) (by assumption) ?_
            try simp only [Act.put, List.setIfInBounds_toArray, List.set_cons_zero, List.set_cons_succ]
            refine take_at 65 (i := 1) (v := .pointer (some ⟨eb, e, none⟩)) rfl (by kernel_rfl) (by kernel_rfl) (by kernel_rfl) (by kernel_rfl) (fun _ _ _ h => h) (Or.inl ⟨by kernel_rfl, by intro u hSw; (try dsimp only at hSw); go_simp⟩) (by assumption) ?_
            try simp only [Act.put, List.setIfInBounds_toArray, List.set_cons_zero, List.set_cons_succ]
            refine take_at 66 (i := 2) (v := .pointer (some ⟨q e, 0, none⟩)) rfl (by kernel_rfl) (by kernel_rfl) (by kernel_rfl) (by kernel_rfl) (fun _ _ _ h => h) (Or.inl ⟨by kernel_rfl, by intro u hSw; have hc := hSw.1.at_ e _ HQn.out.1; go_simp⟩) (by assumption) ?_
            try simp only [Act.put, List.setIfInBounds_toArray, List.set_cons_zero, List.set_cons_succ]
            refine take_at 67 (i := 3) (v := .int .i64 (e : Int)) rfl (by kernel_rfl) (by kernel_rfl) (by kernel_rfl) (by kernel_rfl) (fun _ _ _ h => h) (Or.inl ⟨by kernel_rfl, by intro u hSw; (try dsimp only at hSw); go_simp⟩) (by assumption) ?_
            try simp only [Act.put, List.setIfInBounds_toArray, List.set_cons_zero, List.set_cons_succ]
            refine take_at 68 (i := 4) (v := .pointer (some ⟨wb, e * 6, none⟩)) rfl (by kernel_rfl) (by kernel_rfl) (by kernel_rfl) (by kernel_rfl) (fun _ _ _ h => h) (Or.inl ⟨by kernel_rfl, by intro u hSw; (try dsimp only at hSw); go_simp⟩) (by assumption) ?_
            try simp only [Act.put, List.setIfInBounds_toArray, List.set_cons_zero, List.set_cons_succ]
            refine take_at 69 (i := 5) (v := .int .i64 (e : Int)) rfl (by kernel_rfl) (by kernel_rfl) (by kernel_rfl) (by kernel_rfl) (fun _ _ _ h => h) (Or.inl ⟨by kernel_rfl, by intro u hSw; (try dsimp only at hSw); go_simp⟩) (by assumption) ?_
            try simp only [Act.put, List.setIfInBounds_toArray, List.set_cons_zero, List.set_cons_succ]
            refine take_at 70 (i := 6) (v := .int .i64 ((1 - e : Nat) : Int)) rfl (by kernel_rfl) (by kernel_rfl) (by kernel_rfl) (by kernel_rfl) (fun _ _ _ h => h) (Or.inl ⟨by kernel_rfl, by intro u hSw; (try dsimp only at hSw); go_simp⟩) (by assumption) ?_
            try simp only [Act.put, List.setIfInBounds_toArray, List.set_cons_zero, List.set_cons_succ]
            refine take_at 71 (i := 7) (v := .pointer (some ⟨wb, (1 - e) * 6, none⟩)) rfl (by kernel_rfl) (by kernel_rfl) (by kernel_rfl) (by kernel_rfl) (fun _ _ _ h => h) (Or.inl ⟨by kernel_rfl, by intro u hSw; (try dsimp only at hSw); go_simp⟩) (by assumption) ?_
            try simp only [Act.put, List.setIfInBounds_toArray, List.set_cons_zero, List.set_cons_succ]
            refine take_at 72 (i := 8) (v := .agg #[.int .i64 kd, .int .i64 nn, .slice A2 len cap]) rfl (by kernel_rfl) (by kernel_rfl) (by kernel_rfl) (by kernel_rfl) (fun _ _ _ h => h) (Or.inl ⟨by kernel_rfl, fun u hSw => yields_load_part 105 (.tmp 12) rfl wr.heap.size 0 rfl [.int .i64 kd, .int .i64 nn, .slice A2 len cap] hSw.2 rfl Tryd.underlying105 rfl szMv⟩) (by assumption) ?_
            try simp only [Act.put, List.setIfInBounds_toArray, List.set_cons_zero, List.set_cons_succ]
            refine wpAnyH_ready (rs := [9]) (by kernel_rfl) (by simp) ?_
            refine AllReadyH.cons rfl (fun K hK => ?_) AllReadyH.nil
            have hge : Chg (fun k => w.heap.size ≤ k) w wa.drew := HGa.out.trans (Chg.refl _ wa).drew
            have hbel : Below w.heap.size w wa.drew := hge.below (fun k _ hk => hk) hB
            have hcall := user_any HPe.out (HS.out.below hbel) (HT.out.below hbel) hB hge.size he2 (e * 6) ((1 - e) * 6) (by omega) (by omega) kd nn A2 len cap zs HOk.out.1.len HOk.out.1.byt (fun u hu => HOk.out.1.rd.below (hbel.trans hu) fun ad h0 e => HOk.out.1.rd.lt ad h0 e) HOk.out.2 HOk.out.1.cap HOk.out.1.n.2 HVa.out (by have := HNc.out.2; omega)
            have HCall := Lib.hid hcall
            have HGe := Lib.hid hge
            clear hcall hge hbel
            go_simp
            refine HCall.out.mono ?_
            rintro e2 w6 ⟨rfl, ⟨lab6, c6, hp6⟩, hg6⟩
            try go_simp
            have HI6 := Lib.hid (HVa.out.user HPa.out.ok he2 (kd / 2) nn HOk.out.1.byt)
            have HP6 := Lib.hid hp6
            have HG6 : Hid (Chg (fun k => w.heap.size ≤ k) w w6) := HGe.out.trans hg6
            have hS1 := And.intro (hp6.is HX5.out.2.1 HI5.out.1) (hp6.is HX5.out.2.2 HI5.out.2)
            refine hK.out _ _ hS1 (fun _ => ?_)
            clear hK K hp6 hg6 HCall hS0
            try simp only [Act.put, List.setIfInBounds_toArray, List.set_cons_zero, List.set_cons_succ]
            refine take_at 74 (i := 10) (v := .bool false) rfl (by kernel_rfl) (by kernel_rfl) (by kernel_rfl) (by kernel_rfl) (fun _ _ _ h => h) (Or.inl ⟨by kernel_rfl, by intro u hSw; (try dsimp only at hSw); go_simp⟩) (by assumption) ?_
            try simp only [Act.put, List.setIfInBounds_toArray, List.set_cons_zero, List.set_cons_succ]
            refine take_at 75 (i := 11) (v := .bool false) rfl (by kernel_rfl) (by kernel_rfl) (by kernel_rfl) (by kernel_rfl) (fun _ _ _ h => h) (Or.inl ⟨by kernel_rfl, by intro u hSw; (try dsimp only at hSw); go_simp⟩) (by assumption) ?_
            try simp only [Act.put, List.setIfInBounds_toArray, List.set_cons_zero, List.set_cons_succ]
            refine take_at 76 (i := 12) (v := .int .i64 (e : Int)) rfl (by kernel_rfl) (by kernel_rfl) (by kernel_rfl) (by kernel_rfl) (fun _ _ _ h => h) (Or.inl ⟨by kernel_rfl, by intro u hSw; (try dsimp only at hSw); go_simp⟩) (by assumption) ?_
            try simp only [Act.put, List.setIfInBounds_toArray, List.set_cons_zero, List.set_cons_succ]
            refine take_at 77 (i := 13) (v := .pointer (some ⟨eb, e, none⟩)) rfl (by kernel_rfl) (by kernel_rfl) (by kernel_rfl) (by kernel_rfl) (fun _ _ _ h => h) (Or.inl ⟨by kernel_rfl, by intro u hSw; (try dsimp only at hSw); go_simp⟩) (by assumption) ?_
            try simp only [Act.put, List.setIfInBounds_toArray, List.set_cons_zero, List.set_cons_succ]
            refine take_at 78 (i := 14) (v := .pointer (some ⟨q e, 0, none⟩)) rfl (by kernel_rfl) (by kernel_rfl) (by kernel_rfl) (by kernel_rfl) (fun _ _ _ h => h) (Or.inl ⟨by kernel_rfl, by intro u hSw; have hc := hSw.1.at_ e _ HQn.out.1; go_simp⟩) (by assumption) ?_
            try simp only [Act.put, List.setIfInBounds_toArray, List.set_cons_zero, List.set_cons_succ]
            refine take_at 79 (i := 15) (v := .int .i64 (e : Int)) rfl (by kernel_rfl) (by kernel_rfl) (by kernel_rfl) (by kernel_rfl) (fun _ _ _ h => h) (Or.inl ⟨by kernel_rfl, by intro u hSw; (try dsimp only at hSw); go_simp⟩) (by assumption) ?_
            try simp only [Act.put, List.setIfInBounds_toArray, List.set_cons_zero, List.set_cons_succ]
            refine take_at 80 (i := 16) (v := .int .i64 ((1 - e : Nat) : Int)) rfl (by kernel_rfl) (by kernel_rfl) (by kernel_rfl) (by kernel_rfl) (fun _ _ _ h => h) (Or.inl ⟨by kernel_rfl, by intro u hSw; (try dsimp only at hSw); go_simp⟩) (by assumption) ?_
            try simp only [Act.put, List.setIfInBounds_toArray, List.set_cons_zero, List.set_cons_succ]
            refine take_at 81 (i := 17) (v := .pointer (some ⟨eb, 1 - e, none⟩)) rfl (by kernel_rfl) (by kernel_rfl) (by kernel_rfl) (by kernel_rfl) (fun _ _ _ h => h) (Or.inl ⟨by kernel_rfl, by intro u hSw; (try dsimp only at hSw); go_simp⟩) (by assumption) ?_
            try simp only [Act.put, List.setIfInBounds_toArray, List.set_cons_zero, List.set_cons_succ]
            refine take_at 82 (i := 18) (v := .pointer (some ⟨q (1 - e), 0, none⟩)) rfl (by kernel_rfl) (by kernel_rfl) (by kernel_rfl) (by kernel_rfl) (fun _ _ _ h => h) (Or.inl ⟨by kernel_rfl, by intro u hSw; have hc := hSw.1.at_ (1 - e) _ HQn.out.2; go_simp⟩) (by assumption) ?_
            try simp only [Act.put, List.setIfInBounds_toArray, List.set_cons_zero, List.set_cons_succ]
            refine take_at 83 (i := 19) (v := .int .i64 (e : Int)) rfl (by kernel_rfl) (by kernel_rfl) (by kernel_rfl) (by kernel_rfl) (fun _ _ _ h => h) (Or.inl ⟨by kernel_rfl, by intro u hSw; (try dsimp only at hSw); go_simp⟩) (by assumption) ?_
            try simp only [Act.put, List.setIfInBounds_toArray, List.set_cons_zero, List.set_cons_succ]
            refine take_at 84 (i := 20) (v := .pointer (some ⟨wb, e * 6, none⟩)) rfl (by kernel_rfl) (by kernel_rfl) (by kernel_rfl) (by kernel_rfl) (fun _ _ _ h => h) (Or.inl ⟨by kernel_rfl, by intro u hSw; (try dsimp only at hSw); go_simp⟩) (by assumption) ?_
            try simp only [Act.put, List.setIfInBounds_toArray, List.set_cons_zero, List.set_cons_succ]
            refine take_at 85 (i := 21) (v := .agg #[.int .i64 kd, .int .i64 nn, .slice A2 len cap]) rfl (by kernel_rfl) (by kernel_rfl) (by kernel_rfl) (by kernel_rfl) (fun _ _ _ h => h) (Or.inl ⟨by kernel_rfl, fun u hSw => yields_load_part 105 (.tmp 12) rfl wr.heap.size 0 rfl [.int .i64 kd, .int .i64 nn, .slice A2 len cap] hSw.2 rfl Tryd.underlying105 rfl szMv⟩) (by assumption) ?_
            try simp only [Act.put, List.setIfInBounds_toArray, List.set_cons_zero, List.set_cons_succ]
            refine wpAnyH_ready (rs := [22]) (by kernel_rfl) (by simp) ?_
            refine AllReadyH.cons rfl (fun K hK => ?_) AllReadyH.nil
            have hbel : Below w.heap.size w w6 := HG6.out.below (fun k _ hk => hk) hB
            have hcall := carry_any HP6.out (HS.out.below hbel) (HT.out.below hbel) hB HG6.out.size he2 (e * 6) (by omega) kd nn A2 len cap HI6.out (by have := HNc.out.2; omega)
            have HCall := Lib.hid hcall
            clear hcall hbel
            go_simp
            refine HCall.out.mono ?_
            rintro e2 w7 ⟨rfl, ⟨lab7, c7, hp7⟩, hg7⟩
            try go_simp
            have hV7 := HI6.out.carry HP6.out.ok he2 (kd / 2)
            have hW7 : ∀ d, ((cS (kd / 2) e (uS (kd / 2) nn zs e sb Wa).1 (uS (kd / 2) nn zs e sb Wa).2).1 d).cr.W = (W : Int) := fun d => by rw [cS_W, uS_W]; exact HWa.out d
            obtain ⟨st7, hst7⟩ : ∃ y, cS (kd / 2) e (uS (kd / 2) nn zs e sb Wa).1 (uS (kd / 2) nn zs e sb Wa).2 = y := ⟨_, rfl⟩
            rw [hst7] at hp7 hV7 hW7
            have HP7 := Lib.hid hp7
            have HV7 := Lib.hid hV7
            have HW7 := Lib.hid hW7
            have HG7 : Hid (Chg (fun k => w.heap.size ≤ k) w w7) := HG6.out.trans hg7
            have hS2 := And.intro (hp7.is HX5.out.2.1 HI5.out.1) (hp7.is HX5.out.2.2 HI5.out.2)
            refine hK.out _ _ hS2 (fun _ => ?_)
            clear hK K hp7 hg7 HCall hS1 hV7 hW7 hst7
            try simp only [Act.put, List.setIfInBounds_toArray, List.set_cons_zero, List.set_cons_succ]
            refine take_at 87 (i := 23) (v := .bool false) rfl (by kernel_rfl) (by kernel_rfl) (by kernel_rfl) (by kernel_rfl) (fun _ _ _ h => h) (Or.inl ⟨by kernel_rfl, by intro u hSw; (try dsimp only at hSw); go_simp⟩) (by assumption) ?_
            try simp only [Act.put, List.setIfInBounds_toArray, List.set_cons_zero, List.set_cons_succ]
            refine take_at 88 (i := 24) (v := .bool false) rfl (by kernel_rfl) (by kernel_rfl) (by kernel_rfl) (by kernel_rfl) (fun _ _ _ h => h) (Or.inl ⟨by kernel_rfl, by intro u hSw; (try dsimp only at hSw); go_simp⟩) (by assumption) ?_
            try simp only [Act.put, List.setIfInBounds_toArray, List.set_cons_zero, List.set_cons_succ]
            refine wpAnyH_done (by kernel_rfl) ?_ _
            clear hS2 HPe HP6 HI6 HGe HPa HVa HWa HGa HG6 j0 j1 j2 i0 i1 m1
            go_wp2_with fail
            go_loopw [14] (fun x14 w' => ∃ (d : Nat) (lab' : Nat → Nat) (c' : Nat → Nat → Value), d ≤ 2 ∧ x14 = .int .i64 d ∧ Hid (Pp w5 X5 w' w.heap.size wb q lab' st7.1 st7.2 c') ∧ Chg (fun k => w.heap.size ≤ k) w w') (fun x _ => 2 - (intOf x).toNat)
            case atStart => exact ⟨0, _, _, by omega, rfl, HP7.out, HG7.out⟩
            case round =>
              obtain ⟨d, lab8, c8, hd, rfl, hh, hg⟩ := hrel
              have HP8 := Lib.hid hh.out
              have HG8 := Lib.hid hg
              clear hh hg
              by_cases hd2 : d < 2
              · have i3 : (d : Int) < 2 := by omega
                have i0 : decide ((d : Int) < 0) = false := by simp
                have i1 : decide (2 ≤ d) = false := by simp; omega
                have j0 : decide (((1 - d : Nat) : Int) < 0) = false := by simp
                have j1 : decide (2 ≤ 1 - d) = false := by simp; omega
                have j2 : ((1 - d : Nat) : Int) < 2 := by omega
                have m1 : IntKind.i64.wrap (1 - (d : Int)) = ((1 - d : Nat) : Int) := (IntWalk.i64_in _ (by omega)).trans (by omega)
                have HFq : Hid (∀ u, Chg none_ wr u → u.cell? ⟨eb, d, none⟩ = some (.pointer (some ⟨q d, 0, none⟩))) := fun u hu => ((HP8.out.is HX5.out.2.1 HI5.out.1).chg hu fun f => f).at_ d _ (by rcases lt2 hd2 with rfl | rfl <;> rfl)
                have HFe : Hid (∀ u, Chg none_ wr u → u.cell? ⟨eb, 1 - d, none⟩ = some (.pointer (some ⟨q (1 - d), 0, none⟩))) := fun u hu => ((HP8.out.is HX5.out.2.1 HI5.out.1).chg hu fun f => f).at_ (1 - d) _ (by rcases lt2 hd2 with rfl | rfl <;> rfl)
                have HFc : Hid (∀ u, Chg none_ wr u → u.cell? ⟨w.heap.size, 0, none⟩ = some (.int .i64 (W : Int))) := fun u hu => ((HP8.out.is HX5.out.1 HI5c.out).chg hu fun f => f).at_ 0 _ rfl
                have HCf : Hid (∀ u, Chg none_ wr u → Calls Tryd.prog 45 #[.pointer (some ⟨wb, d * 6, none⟩)] u fun e u' => e = .returned (.bool true) ∧ Chg none_ wr u') := fun u hu => by
                  refine (fits_dj (HP8.out.keep hu) hd2 HV7.out (d * 6) (by omega)).mono ?_
                  rintro e u' ⟨rfl, hc⟩
                  exact ⟨rfl, hu.trans hc⟩
                have HCb : Hid (∀ u, Chg none_ wr u → Calls Tryd.prog 46 #[.pointer (some ⟨q d, 0, none⟩), .pointer (some ⟨q (1 - d), 0, none⟩), .pointer (some ⟨wb, d * 6, none⟩), .int .i64 (W : Int)] u fun e u' => e = .returned (.bool true) ∧ Chg none_ wr u') := fun u hu => by
                  refine (balanced_dj (HP8.out.keep hu) hd2 HV7.out (by have := HNc.out.2; omega) (d * 6) (by omega) (W : Int) (HW7.out d)).mono ?_
                  rintro e u' ⟨rfl, hc⟩
                  exact ⟨rfl, hu.trans hc⟩
                go_wp2_with fail
                refine wp_region_held_drew (S := fun u => Chg none_ wr u) (by kernel_rfl) ((Chg.refl none_ wr).drew) (fun hS0 => ?_)
                refine take_at 93 (i := 0) (v := .int .i64 (d : Int)) rfl (by kernel_rfl) (by kernel_rfl) (by kernel_rfl) (by kernel_rfl) (fun _ _ _ h => h) (Or.inl ⟨by kernel_rfl, by intro u hSw; (try dsimp only at hSw); go_simp⟩) (by assumption) ?_
                try simp only [Act.put, List.setIfInBounds_toArray, List.set_cons_zero, List.set_cons_succ]
                refine take_at 94 (i := 1) (v := .pointer (some ⟨wb, d * 6, none⟩)) rfl (by kernel_rfl) (by kernel_rfl) (by kernel_rfl) (by kernel_rfl) (fun _ _ _ h => h) (Or.inl ⟨by kernel_rfl, by intro u hSw; (try dsimp only at hSw); go_simp⟩) (by assumption) ?_
                try simp only [Act.put, List.setIfInBounds_toArray, List.set_cons_zero, List.set_cons_succ]
                refine wpAnyH_ready (rs := [2]) (by kernel_rfl) (by simp) ?_
                refine AllReadyH.cons rfl (fun K hK => ?_) AllReadyH.nil
                go_simp
                refine (HCf.out _ hS0).mono ?_
                rintro e u1 ⟨rfl, hS1⟩
                try go_simp
                refine hK.out _ _ hS1 (fun _ => ?_)
                clear hK K
                try simp only [Act.put, List.setIfInBounds_toArray, List.set_cons_zero, List.set_cons_succ]
                refine take_at 96 (i := 3) (v := .bool false) rfl (by kernel_rfl) (by kernel_rfl) (by kernel_rfl) (by kernel_rfl) (fun _ _ _ h => h) (Or.inl ⟨by kernel_rfl, by intro u hSw; (try dsimp only at hSw); go_simp⟩) (by assumption) ?_
                try simp only [Act.put, List.setIfInBounds_toArray, List.set_cons_zero, List.set_cons_succ]
                refine take_at 97 (i := 4) (v := .bool false) rfl (by kernel_rfl) (by kernel_rfl) (by kernel_rfl) (by kernel_rfl) (fun _ _ _ h => h) (Or.inl ⟨by kernel_rfl, by intro u hSw; (try dsimp only at hSw); go_simp⟩) (by assumption) ?_
                try simp only [Act.put, List.setIfInBounds_toArray, List.set_cons_zero, List.set_cons_succ]
                refine take_at 98 (i := 5) (v := .int .i64 (d : Int)) rfl (by kernel_rfl) (by kernel_rfl) (by kernel_rfl) (by kernel_rfl) (fun _ _ _ h => h) (Or.inl ⟨by kernel_rfl, by intro u hSw; (try dsimp only at hSw); go_simp⟩) (by assumption) ?_
                try simp only [Act.put, List.setIfInBounds_toArray, List.set_cons_zero, List.set_cons_succ]
                refine take_at 99 (i := 6) (v := .pointer (some ⟨eb, d, none⟩)) rfl (by kernel_rfl) (by kernel_rfl) (by kernel_rfl) (by kernel_rfl) (fun _ _ _ h => h) (Or.inl ⟨by kernel_rfl, by intro u hSw; (try dsimp only at hSw); go_simp⟩) (by assumption) ?_
                try simp only [Act.put, List.setIfInBounds_toArray, List.set_cons_zero, List.set_cons_succ]
                refine take_at 100 (i := 7) (v := .pointer (some ⟨q d, 0, none⟩)) rfl (by kernel_rfl) (by kernel_rfl) (by kernel_rfl) (by kernel_rfl) (fun _ _ _ h => h) (Or.inl ⟨by kernel_rfl, by intro u hSw; have hc := HFq.out u hSw; go_simp⟩) (by assumption) ?_
                try simp only [Act.put, List.setIfInBounds_toArray, List.set_cons_zero, List.set_cons_succ]
                refine take_at 101 (i := 8) (v := .int .i64 (d : Int)) rfl (by kernel_rfl) (by kernel_rfl) (by kernel_rfl) (by kernel_rfl) (fun _ _ _ h => h) (Or.inl ⟨by kernel_rfl, by intro u hSw; (try dsimp only at hSw); go_simp⟩) (by assumption) ?_
                try simp only [Act.put, List.setIfInBounds_toArray, List.set_cons_zero, List.set_cons_succ]
                refine take_at 102 (i := 9) (v := .int .i64 ((1 - d : Nat) : Int)) rfl (by kernel_rfl) (by kernel_rfl) (by kernel_rfl) (by kernel_rfl) (fun _ _ _ h => h) (Or.inl ⟨by kernel_rfl, by intro u hSw; (try dsimp only at hSw); go_simp⟩) (by assumption) ?_
                try simp only [Act.put, List.setIfInBounds_toArray, List.set_cons_zero, List.set_cons_succ]
                refine take_at 103 (i := 10) (v := .pointer (some ⟨eb, 1 - d, none⟩)) rfl (by kernel_rfl) (by kernel_rfl) (by kernel_rfl) (by kernel_rfl) (fun _ _ _ h => h) (Or.inl ⟨by kernel_rfl, by intro u hSw; (try dsimp only at hSw); go_simp⟩) (by assumption) ?_
                try simp only [Act.put, List.setIfInBounds_toArray, List.set_cons_zero, List.set_cons_succ]
                refine take_at 104 (i := 11) (v := .pointer (some ⟨q (1 - d), 0, none⟩)) rfl (by kernel_rfl) (by kernel_rfl) (by kernel_rfl) (by kernel_rfl) (fun _ _ _ h => h) (Or.inl ⟨by kernel_rfl, by intro u hSw; have hc := HFe.out u hSw; go_simp⟩) (by assumption) ?_
                try simp only [Act.put, List.setIfInBounds_toArray, List.set_cons_zero, List.set_cons_succ]
                refine take_at 105 (i := 12) (v := .int .i64 (d : Int)) rfl (by kernel_rfl) (by kernel_rfl) (by kernel_rfl) (by kernel_rfl) (fun _ _ _ h => h) (Or.inl ⟨by kernel_rfl, by intro u hSw; (try dsimp only at hSw); go_simp⟩) (by assumption) ?_
                try simp only [Act.put, List.setIfInBounds_toArray, List.set_cons_zero, List.set_cons_succ]
                refine take_at 106 (i := 13) (v := .pointer (some ⟨wb, d * 6, none⟩)) rfl (by kernel_rfl) (by kernel_rfl) (by kernel_rfl) (by kernel_rfl) (fun _ _ _ h => h) (Or.inl ⟨by kernel_rfl, by intro u hSw; (try dsimp only at hSw); go_simp⟩) (by assumption) ?_
                try simp only [Act.put, List.setIfInBounds_toArray, List.set_cons_zero, List.set_cons_succ]
                refine take_at 107 (i := 14) (v := .pointer (some ⟨w.heap.size, 0, none⟩)) rfl (by kernel_rfl) (by kernel_rfl) (by kernel_rfl) (by kernel_rfl) (fun _ _ _ h => h) (Or.inl ⟨by kernel_rfl, by intro u hSw; (try dsimp only at hSw); go_simp⟩) (by assumption) ?_
                try simp only [Act.put, List.setIfInBounds_toArray, List.set_cons_zero, List.set_cons_succ]
                refine take_at 108 (i := 15) (v := .int .i64 (W : Int)) rfl (by kernel_rfl) (by kernel_rfl) (by kernel_rfl) (by kernel_rfl) (fun _ _ _ h => h) (Or.inl ⟨by kernel_rfl, by intro u hSw; have hc := HFc.out u hSw; go_simp⟩) (by assumption) ?_
                try simp only [Act.put, List.setIfInBounds_toArray, List.set_cons_zero, List.set_cons_succ]
                refine wpAnyH_ready (rs := [16]) (by kernel_rfl) (by simp) ?_
                refine AllReadyH.cons rfl (fun K hK => ?_) AllReadyH.nil
                go_simp
                refine (HCb.out _ hS1).mono ?_
                rintro e u2 ⟨rfl, hS2⟩
                try go_simp
                refine hK.out _ _ hS2 (fun _ => ?_)
                clear hK K
                try simp only [Act.put, List.setIfInBounds_toArray, List.set_cons_zero, List.set_cons_succ]
                refine take_at 110 (i := 17) (v := .bool false) rfl (by kernel_rfl) (by kernel_rfl) (by kernel_rfl) (by kernel_rfl) (fun _ _ _ h => h) (Or.inl ⟨by kernel_rfl, by intro u hSw; (try dsimp only at hSw); go_simp⟩) (by assumption) ?_
                try simp only [Act.put, List.setIfInBounds_toArray, List.set_cons_zero, List.set_cons_succ]
                refine take_at 111 (i := 18) (v := .bool false) rfl (by kernel_rfl) (by kernel_rfl) (by kernel_rfl) (by kernel_rfl) (fun _ _ _ h => h) (Or.inl ⟨by kernel_rfl, by intro u hSw; (try dsimp only at hSw); go_simp⟩) (by assumption) ?_
                try simp only [Act.put, List.setIfInBounds_toArray, List.set_cons_zero, List.set_cons_succ]
                refine wpAnyH_done (by kernel_rfl) ?_ _
                clear i0 i1 j0 j1 j2 m1 hS0 hS1
                go_wp2
                go_roundw
                case rel => exact ⟨d + 1, _, _, by omega, by go_num, HP8.out.keep hS2, HG8.out.trans (hS2.more fun _ _ f => f.elim)⟩
                case measure => simp [intOf]; omega
              · obtain rfl : d = 2 := by omega
                go_wp2_with fail
                go_roundw
                case rel => exact ⟨k + 1, st7.1, st7.2, _, _, by omega, by go_num, ⟨HP8.out.back HB1.out, HV7.out, HW7.out⟩, HG8.out⟩
                case measure => simp [intOf]; omega
          · have b6 : (kd / 2 == 6) = false := by simp [h6]
            have HPa := Lib.hid H5.out
            have HVa := Lib.hid HH.out.2.1
            have HWa := Lib.hid HH.out.2.2
            have HGa := Lib.hid HG5.out
            go_wp2_with fail
            rw [HW5.out]
            clear x0 x1 x2
            have HPe := Lib.hid (HPa.out.keep (Chg.refl none_ w5).drew)
            refine wp_region_held_drew (S := fun u => Is u eb 49 #[.pointer (some ⟨q 0, 0, none⟩), .pointer (some ⟨q 1, 0, none⟩)] ∧ Is u wr.heap.size 105 #[.int .i64 kd, .int .i64 nn, .slice A2 len cap]) (by kernel_rfl) ⟨HPe.out.is HX5.out.2.1 HI5.out.1, HPe.out.is HX5.out.2.2 HI5.out.2⟩ (fun hS0 => ?_)
            refine take_at 64 (i := 0) (v := .int .i64 (e : Int)) rfl (by kernel_rfl) (by kernel_rfl) (by kernel_rfl) (by kernel_rfl) (fun _ _ _ h => h) (Or.inl ⟨by kernel_rfl, by intro u hSw; (try dsimp only at hSw); go_simp⟩) (by assumption) ?_
            try simp only [Act.put, List.setIfInBounds_toArray, List.set_cons_zero, List.set_cons_succ]
            refine take_at 65 (i := 1) (v := .pointer (some ⟨eb, e, none⟩)) rfl (by kernel_rfl) (by kernel_rfl) (by kernel_rfl) (by kernel_rfl) (fun _ _ _ h => h) (Or.inl ⟨by kernel_rfl, by intro u hSw; (try dsimp only at hSw); go_simp⟩) (by assumption) ?_
            try simp only [Act.put, List.setIfInBounds_toArray, List.set_cons_zero, List.set_cons_succ]
            refine take_at 66 (i := 2) (v := .pointer (some ⟨q e, 0, none⟩)) rfl (by kernel_rfl) (by kernel_rfl) (by kernel_rfl) (by kernel_rfl) (fun _ _ _ h => h) (Or.inl ⟨by kernel_rfl, by intro u hSw; have hc := hSw.1.at_ e _ HQn.out.1; go_simp⟩) (by assumption) ?_
            try simp only [Act.put, List.setIfInBounds_toArray, List.set_cons_zero, List.set_cons_succ]
            refine take_at 67 (i := 3) (v := .int .i64 (e : Int)) rfl (by kernel_rfl) (by kernel_rfl) (by kernel_rfl) (by kernel_rfl) (fun _ _ _ h => h) (Or.inl ⟨by kernel_rfl, by intro u hSw; (try dsimp only at hSw); go_simp⟩) (by assumption) ?_
            try simp only [Act.put, List.setIfInBounds_toArray, List.set_cons_zero, List.set_cons_succ]
            refine take_at 68 (i := 4) (v := .pointer (some ⟨wb, e * 6, none⟩)) rfl (by kernel_rfl) (by kernel_rfl) (by kernel_rfl) (by kernel_rfl) (fun _ _ _ h => h) (Or.inl ⟨by kernel_rfl, by intro u hSw; (try dsimp only at hSw); go_simp⟩) (by assumption) ?_
            try simp only [Act.put, List.setIfInBounds_toArray, List.set_cons_zero, List.set_cons_succ]
            refine take_at 69 (i := 5) (v := .int .i64 (e : Int)) rfl (by kernel_rfl) (by kernel_rfl) (by kernel_rfl) (by kernel_rfl) (fun _ _ _ h => h) (Or.inl ⟨by kernel_rfl, by intro u hSw; (try dsimp only at hSw); go_simp⟩) (by assumption) ?_
            try simp only [Act.put, List.setIfInBounds_toArray, List.set_cons_zero, List.set_cons_succ]
            refine take_at 70 (i := 6) (v := .int .i64 ((1 - e : Nat) : Int)) rfl (by kernel_rfl) (by kernel_rfl) (by kernel_rfl) (by kernel_rfl) (fun _ _ _ h => h) (Or.inl ⟨by kernel_rfl, by intro u hSw; (try dsimp only at hSw); go_simp⟩) (by assumption) ?_
            try simp only [Act.put, List.setIfInBounds_toArray, List.set_cons_zero, List.set_cons_succ]
            refine take_at 71 (i := 7) (v := .pointer (some ⟨wb, (1 - e) * 6, none⟩)) rfl (by kernel_rfl) (by kernel_rfl) (by kernel_rfl) (by kernel_rfl) (fun _ _ _ h => h) (Or.inl ⟨by kernel_rfl, by intro u hSw; (try dsimp only at hSw); go_simp⟩) (by assumption) ?_
            try simp only [Act.put, List.setIfInBounds_toArray, List.set_cons_zero, List.set_cons_succ]
            refine take_at 72 (i := 8) (v := .agg #[.int .i64 kd, .int .i64 nn, .slice A2 len cap]) rfl (by kernel_rfl) (by kernel_rfl) (by kernel_rfl) (by kernel_rfl) (fun _ _ _ h => h) (Or.inl ⟨by kernel_rfl, fun u hSw => yields_load_part 105 (.tmp 12) rfl wr.heap.size 0 rfl [.int .i64 kd, .int .i64 nn, .slice A2 len cap] hSw.2 rfl Tryd.underlying105 rfl szMv⟩) (by assumption) ?_
            try simp only [Act.put, List.setIfInBounds_toArray, List.set_cons_zero, List.set_cons_succ]
            refine wpAnyH_ready (rs := [9]) (by kernel_rfl) (by simp) ?_
            refine AllReadyH.cons rfl (fun K hK => ?_) AllReadyH.nil
            have hge : Chg (fun k => w.heap.size ≤ k) w w5.drew := HGa.out.trans (Chg.refl _ w5).drew
            have hbel : Below w.heap.size w w5.drew := hge.below (fun k _ hk => hk) hB
            have hcall := user_any HPe.out (HS.out.below hbel) (HT.out.below hbel) hB hge.size he2 (e * 6) ((1 - e) * 6) (by omega) (by omega) kd nn A2 len cap zs HOk.out.1.len HOk.out.1.byt (fun u hu => HOk.out.1.rd.below (hbel.trans hu) fun ad h0 e => HOk.out.1.rd.lt ad h0 e) HOk.out.2 HOk.out.1.cap HOk.out.1.n.2 HVa.out (by have := HNc.out.2; omega)
            have HCall := Lib.hid hcall
            have HGe := Lib.hid hge
            clear hcall hge hbel
            go_simp
            refine HCall.out.mono ?_
            rintro e2 w6 ⟨rfl, ⟨lab6, c6, hp6⟩, hg6⟩
            try go_simp
            have HI6 := Lib.hid (HVa.out.user HPa.out.ok he2 (kd / 2) nn HOk.out.1.byt)
            have HP6 := Lib.hid hp6
            have HG6 : Hid (Chg (fun k => w.heap.size ≤ k) w w6) := HGe.out.trans hg6
            have hS1 := And.intro (hp6.is HX5.out.2.1 HI5.out.1) (hp6.is HX5.out.2.2 HI5.out.2)
            refine hK.out _ _ hS1 (fun _ => ?_)
            clear hK K hp6 hg6 HCall hS0
            try simp only [Act.put, List.setIfInBounds_toArray, List.set_cons_zero, List.set_cons_succ]
            refine take_at 74 (i := 10) (v := .bool false) rfl (by kernel_rfl) (by kernel_rfl) (by kernel_rfl) (by kernel_rfl) (fun _ _ _ h => h) (Or.inl ⟨by kernel_rfl, by intro u hSw; (try dsimp only at hSw); go_simp⟩) (by assumption) ?_
            try simp only [Act.put, List.setIfInBounds_toArray, List.set_cons_zero, List.set_cons_succ]
            refine take_at 75 (i := 11) (v := .bool false) rfl (by kernel_rfl) (by kernel_rfl) (by kernel_rfl) (by kernel_rfl) (fun _ _ _ h => h) (Or.inl ⟨by kernel_rfl, by intro u hSw; (try dsimp only at hSw); go_simp⟩) (by assumption) ?_
            try simp only [Act.put, List.setIfInBounds_toArray, List.set_cons_zero, List.set_cons_succ]
            refine take_at 76 (i := 12) (v := .int .i64 (e : Int)) rfl (by kernel_rfl) (by kernel_rfl) (by kernel_rfl) (by kernel_rfl) (fun _ _ _ h => h) (Or.inl ⟨by kernel_rfl, by intro u hSw; (try dsimp only at hSw); go_simp⟩) (by assumption) ?_
            try simp only [Act.put, List.setIfInBounds_toArray, List.set_cons_zero, List.set_cons_succ]
            refine take_at 77 (i := 13) (v := .pointer (some ⟨eb, e, none⟩)) rfl (by kernel_rfl) (by kernel_rfl) (by kernel_rfl) (by kernel_rfl) (fun _ _ _ h => h) (Or.inl ⟨by kernel_rfl, by intro u hSw; (try dsimp only at hSw); go_simp⟩) (by assumption) ?_
            try simp only [Act.put, List.setIfInBounds_toArray, List.set_cons_zero, List.set_cons_succ]
            refine take_at 78 (i := 14) (v := .pointer (some ⟨q e, 0, none⟩)) rfl (by kernel_rfl) (by kernel_rfl) (by kernel_rfl) (by kernel_rfl) (fun _ _ _ h => h) (Or.inl ⟨by kernel_rfl, by intro u hSw; have hc := hSw.1.at_ e _ HQn.out.1; go_simp⟩) (by assumption) ?_
            try simp only [Act.put, List.setIfInBounds_toArray, List.set_cons_zero, List.set_cons_succ]
            refine take_at 79 (i := 15) (v := .int .i64 (e : Int)) rfl (by kernel_rfl) (by kernel_rfl) (by kernel_rfl) (by kernel_rfl) (fun _ _ _ h => h) (Or.inl ⟨by kernel_rfl, by intro u hSw; (try dsimp only at hSw); go_simp⟩) (by assumption) ?_
            try simp only [Act.put, List.setIfInBounds_toArray, List.set_cons_zero, List.set_cons_succ]
            refine take_at 80 (i := 16) (v := .int .i64 ((1 - e : Nat) : Int)) rfl (by kernel_rfl) (by kernel_rfl) (by kernel_rfl) (by kernel_rfl) (fun _ _ _ h => h) (Or.inl ⟨by kernel_rfl, by intro u hSw; (try dsimp only at hSw); go_simp⟩) (by assumption) ?_
            try simp only [Act.put, List.setIfInBounds_toArray, List.set_cons_zero, List.set_cons_succ]
            refine take_at 81 (i := 17) (v := .pointer (some ⟨eb, 1 - e, none⟩)) rfl (by kernel_rfl) (by kernel_rfl) (by kernel_rfl) (by kernel_rfl) (fun _ _ _ h => h) (Or.inl ⟨by kernel_rfl, by intro u hSw; (try dsimp only at hSw); go_simp⟩) (by assumption) ?_
            try simp only [Act.put, List.setIfInBounds_toArray, List.set_cons_zero, List.set_cons_succ]
            refine take_at 82 (i := 18) (v := .pointer (some ⟨q (1 - e), 0, none⟩)) rfl (by kernel_rfl) (by kernel_rfl) (by kernel_rfl) (by kernel_rfl) (fun _ _ _ h => h) (Or.inl ⟨by kernel_rfl, by intro u hSw; have hc := hSw.1.at_ (1 - e) _ HQn.out.2; go_simp⟩) (by assumption) ?_
            try simp only [Act.put, List.setIfInBounds_toArray, List.set_cons_zero, List.set_cons_succ]
            refine take_at 83 (i := 19) (v := .int .i64 (e : Int)) rfl (by kernel_rfl) (by kernel_rfl) (by kernel_rfl) (by kernel_rfl) (fun _ _ _ h => h) (Or.inl ⟨by kernel_rfl, by intro u hSw; (try dsimp only at hSw); go_simp⟩) (by assumption) ?_
            try simp only [Act.put, List.setIfInBounds_toArray, List.set_cons_zero, List.set_cons_succ]
            refine take_at 84 (i := 20) (v := .pointer (some ⟨wb, e * 6, none⟩)) rfl (by kernel_rfl) (by kernel_rfl) (by kernel_rfl) (by kernel_rfl) (fun _ _ _ h => h) (Or.inl ⟨by kernel_rfl, by intro u hSw; (try dsimp only at hSw); go_simp⟩) (by assumption) ?_
            try simp only [Act.put, List.setIfInBounds_toArray, List.set_cons_zero, List.set_cons_succ]
            refine take_at 85 (i := 21) (v := .agg #[.int .i64 kd, .int .i64 nn, .slice A2 len cap]) rfl (by kernel_rfl) (by kernel_rfl) (by kernel_rfl) (by kernel_rfl) (fun _ _ _ h => h) (Or.inl ⟨by kernel_rfl, fun u hSw => yields_load_part 105 (.tmp 12) rfl wr.heap.size 0 rfl [.int .i64 kd, .int .i64 nn, .slice A2 len cap] hSw.2 rfl Tryd.underlying105 rfl szMv⟩) (by assumption) ?_
            try simp only [Act.put, List.setIfInBounds_toArray, List.set_cons_zero, List.set_cons_succ]
            refine wpAnyH_ready (rs := [22]) (by kernel_rfl) (by simp) ?_
            refine AllReadyH.cons rfl (fun K hK => ?_) AllReadyH.nil
            have hbel : Below w.heap.size w w6 := HG6.out.below (fun k _ hk => hk) hB
            have hcall := carry_any HP6.out (HS.out.below hbel) (HT.out.below hbel) hB HG6.out.size he2 (e * 6) (by omega) kd nn A2 len cap HI6.out (by have := HNc.out.2; omega)
            have HCall := Lib.hid hcall
            clear hcall hbel
            go_simp
            refine HCall.out.mono ?_
            rintro e2 w7 ⟨rfl, ⟨lab7, c7, hp7⟩, hg7⟩
            try go_simp
            have hV7 := HI6.out.carry HP6.out.ok he2 (kd / 2)
            have hW7 : ∀ d, ((cS (kd / 2) e (uS (kd / 2) nn zs e sa Wa).1 (uS (kd / 2) nn zs e sa Wa).2).1 d).cr.W = (W : Int) := fun d => by rw [cS_W, uS_W]; exact HWa.out d
            obtain ⟨st7, hst7⟩ : ∃ y, cS (kd / 2) e (uS (kd / 2) nn zs e sa Wa).1 (uS (kd / 2) nn zs e sa Wa).2 = y := ⟨_, rfl⟩
            rw [hst7] at hp7 hV7 hW7
            have HP7 := Lib.hid hp7
            have HV7 := Lib.hid hV7
            have HW7 := Lib.hid hW7
            have HG7 : Hid (Chg (fun k => w.heap.size ≤ k) w w7) := HG6.out.trans hg7
            have hS2 := And.intro (hp7.is HX5.out.2.1 HI5.out.1) (hp7.is HX5.out.2.2 HI5.out.2)
            refine hK.out _ _ hS2 (fun _ => ?_)
            clear hK K hp7 hg7 HCall hS1 hV7 hW7 hst7
            try simp only [Act.put, List.setIfInBounds_toArray, List.set_cons_zero, List.set_cons_succ]
            refine take_at 87 (i := 23) (v := .bool false) rfl (by kernel_rfl) (by kernel_rfl) (by kernel_rfl) (by kernel_rfl) (fun _ _ _ h => h) (Or.inl ⟨by kernel_rfl, by intro u hSw; (try dsimp only at hSw); go_simp⟩) (by assumption) ?_
            try simp only [Act.put, List.setIfInBounds_toArray, List.set_cons_zero, List.set_cons_succ]
            refine take_at 88 (i := 24) (v := .bool false) rfl (by kernel_rfl) (by kernel_rfl) (by kernel_rfl) (by kernel_rfl) (fun _ _ _ h => h) (Or.inl ⟨by kernel_rfl, by intro u hSw; (try dsimp only at hSw); go_simp⟩) (by assumption) ?_
            try simp only [Act.put, List.setIfInBounds_toArray, List.set_cons_zero, List.set_cons_succ]
            refine wpAnyH_done (by kernel_rfl) ?_ _
            clear hS2 HPe HP6 HI6 HGe HPa HVa HWa HGa HG6 j0 j1 j2 i0 i1 m1
            go_wp2_with fail
            go_loopw [14] (fun x14 w' => ∃ (d : Nat) (lab' : Nat → Nat) (c' : Nat → Nat → Value), d ≤ 2 ∧ x14 = .int .i64 d ∧ Hid (Pp w5 X5 w' w.heap.size wb q lab' st7.1 st7.2 c') ∧ Chg (fun k => w.heap.size ≤ k) w w') (fun x _ => 2 - (intOf x).toNat)
            case atStart => exact ⟨0, _, _, by omega, rfl, HP7.out, HG7.out⟩
            case round =>
              obtain ⟨d, lab8, c8, hd, rfl, hh, hg⟩ := hrel
              have HP8 := Lib.hid hh.out
              have HG8 := Lib.hid hg
              clear hh hg
              by_cases hd2 : d < 2
              · have i3 : (d : Int) < 2 := by omega
                have i0 : decide ((d : Int) < 0) = false := by simp
                have i1 : decide (2 ≤ d) = false := by simp; omega
                have j0 : decide (((1 - d : Nat) : Int) < 0) = false := by simp
                have j1 : decide (2 ≤ 1 - d) = false := by simp; omega
                have j2 : ((1 - d : Nat) : Int) < 2 := by omega
                have m1 : IntKind.i64.wrap (1 - (d : Int)) = ((1 - d : Nat) : Int) := (IntWalk.i64_in _ (by omega)).trans (by omega)
                have HFq : Hid (∀ u, Chg none_ wr u → u.cell? ⟨eb, d, none⟩ = some (.pointer (some ⟨q d, 0, none⟩))) := fun u hu => ((HP8.out.is HX5.out.2.1 HI5.out.1).chg hu fun f => f).at_ d _ (by rcases lt2 hd2 with rfl | rfl <;> rfl)
                have HFe : Hid (∀ u, Chg none_ wr u → u.cell? ⟨eb, 1 - d, none⟩ = some (.pointer (some ⟨q (1 - d), 0, none⟩))) := fun u hu => ((HP8.out.is HX5.out.2.1 HI5.out.1).chg hu fun f => f).at_ (1 - d) _ (by rcases lt2 hd2 with rfl | rfl <;> rfl)
                have HFc : Hid (∀ u, Chg none_ wr u → u.cell? ⟨w.heap.size, 0, none⟩ = some (.int .i64 (W : Int))) := fun u hu => ((HP8.out.is HX5.out.1 HI5c.out).chg hu fun f => f).at_ 0 _ rfl
                have HCf : Hid (∀ u, Chg none_ wr u → Calls Tryd.prog 45 #[.pointer (some ⟨wb, d * 6, none⟩)] u fun e u' => e = .returned (.bool true) ∧ Chg none_ wr u') := fun u hu => by
                  refine (fits_dj (HP8.out.keep hu) hd2 HV7.out (d * 6) (by omega)).mono ?_
                  rintro e u' ⟨rfl, hc⟩
                  exact ⟨rfl, hu.trans hc⟩
                have HCb : Hid (∀ u, Chg none_ wr u → Calls Tryd.prog 46 #[.pointer (some ⟨q d, 0, none⟩), .pointer (some ⟨q (1 - d), 0, none⟩), .pointer (some ⟨wb, d * 6, none⟩), .int .i64 (W : Int)] u fun e u' => e = .returned (.bool true) ∧ Chg none_ wr u') := fun u hu => by
                  refine (balanced_dj (HP8.out.keep hu) hd2 HV7.out (by have := HNc.out.2; omega) (d * 6) (by omega) (W : Int) (HW7.out d)).mono ?_
                  rintro e u' ⟨rfl, hc⟩
                  exact ⟨rfl, hu.trans hc⟩
                go_wp2_with fail
                refine wp_region_held_drew (S := fun u => Chg none_ wr u) (by kernel_rfl) ((Chg.refl none_ wr).drew) (fun hS0 => ?_)
                refine take_at 93 (i := 0) (v := .int .i64 (d : Int)) rfl (by kernel_rfl) (by kernel_rfl) (by kernel_rfl) (by kernel_rfl) (fun _ _ _ h => h) (Or.inl ⟨by kernel_rfl, by intro u hSw; (try dsimp only at hSw); go_simp⟩) (by assumption) ?_
                try simp only [Act.put, List.setIfInBounds_toArray, List.set_cons_zero, List.set_cons_succ]
                refine take_at 94 (i := 1) (v := .pointer (some ⟨wb, d * 6, none⟩)) rfl (by kernel_rfl) (by kernel_rfl) (by kernel_rfl) (by kernel_rfl) (fun _ _ _ h => h) (Or.inl ⟨by kernel_rfl, by intro u hSw; (try dsimp only at hSw); go_simp⟩) (by assumption) ?_
                try simp only [Act.put, List.setIfInBounds_toArray, List.set_cons_zero, List.set_cons_succ]
                refine wpAnyH_ready (rs := [2]) (by kernel_rfl) (by simp) ?_
                refine AllReadyH.cons rfl (fun K hK => ?_) AllReadyH.nil
                go_simp
                refine (HCf.out _ hS0).mono ?_
                rintro e u1 ⟨rfl, hS1⟩
                try go_simp
                refine hK.out _ _ hS1 (fun _ => ?_)
                clear hK K
                try simp only [Act.put, List.setIfInBounds_toArray, List.set_cons_zero, List.set_cons_succ]
                refine take_at 96 (i := 3) (v := .bool false) rfl (by kernel_rfl) (by kernel_rfl) (by kernel_rfl) (by kernel_rfl) (fun _ _ _ h => h) (Or.inl ⟨by kernel_rfl, by intro u hSw; (try dsimp only at hSw); go_simp⟩) (by assumption) ?_
                try simp only [Act.put, List.setIfInBounds_toArray, List.set_cons_zero, List.set_cons_succ]
                refine take_at 97 (i := 4) (v := .bool false) rfl (by kernel_rfl) (by kernel_rfl) (by kernel_rfl) (by kernel_rfl) (fun _ _ _ h => h) (Or.inl ⟨by kernel_rfl, by intro u hSw; (try dsimp only at hSw); go_simp⟩) (by assumption) ?_
                try simp only [Act.put, List.setIfInBounds_toArray, List.set_cons_zero, List.set_cons_succ]
                refine take_at 98 (i := 5) (v := .int .i64 (d : Int)) rfl (by kernel_rfl) (by kernel_rfl) (by kernel_rfl) (by kernel_rfl) (fun _ _ _ h => h) (Or.inl ⟨by kernel_rfl, by intro u hSw; (try dsimp only at hSw); go_simp⟩) (by assumption) ?_
                try simp only [Act.put, List.setIfInBounds_toArray, List.set_cons_zero, List.set_cons_succ]
                refine take_at 99 (i := 6) (v := .pointer (some ⟨eb, d, none⟩)) rfl (by kernel_rfl) (by kernel_rfl) (by kernel_rfl) (by kernel_rfl) (fun _ _ _ h => h) (Or.inl ⟨by kernel_rfl, by intro u hSw; (try dsimp only at hSw); go_simp⟩) (by assumption) ?_
                try simp only [Act.put, List.setIfInBounds_toArray, List.set_cons_zero, List.set_cons_succ]
                refine take_at 100 (i := 7) (v := .pointer (some ⟨q d, 0, none⟩)) rfl (by kernel_rfl) (by kernel_rfl) (by kernel_rfl) (by kernel_rfl) (fun _ _ _ h => h) (Or.inl ⟨by kernel_rfl, by intro u hSw; have hc := HFq.out u hSw; go_simp⟩) (by assumption) ?_
                try simp only [Act.put, List.setIfInBounds_toArray, List.set_cons_zero, List.set_cons_succ]
                refine take_at 101 (i := 8) (v := .int .i64 (d : Int)) rfl (by kernel_rfl) (by kernel_rfl) (by kernel_rfl) (by kernel_rfl) (fun _ _ _ h => h) (Or.inl ⟨by kernel_rfl, by intro u hSw; (try dsimp only at hSw); go_simp⟩) (by assumption) ?_
                try simp only [Act.put, List.setIfInBounds_toArray, List.set_cons_zero, List.set_cons_succ]
                refine take_at 102 (i := 9) (v := .int .i64 ((1 - d : Nat) : Int)) rfl (by kernel_rfl) (by kernel_rfl) (by kernel_rfl) (by kernel_rfl) (fun _ _ _ h => h) (Or.inl ⟨by kernel_rfl, by intro u hSw; (try dsimp only at hSw); go_simp⟩) (by assumption) ?_
                try simp only [Act.put, List.setIfInBounds_toArray, List.set_cons_zero, List.set_cons_succ]
                refine take_at 103 (i := 10) (v := .pointer (some ⟨eb, 1 - d, none⟩)) rfl (by kernel_rfl) (by kernel_rfl) (by kernel_rfl) (by kernel_rfl) (fun _ _ _ h => h) (Or.inl ⟨by kernel_rfl, by intro u hSw; (try dsimp only at hSw); go_simp⟩) (by assumption) ?_
                try simp only [Act.put, List.setIfInBounds_toArray, List.set_cons_zero, List.set_cons_succ]
                refine take_at 104 (i := 11) (v := .pointer (some ⟨q (1 - d), 0, none⟩)) rfl (by kernel_rfl) (by kernel_rfl) (by kernel_rfl) (by kernel_rfl) (fun _ _ _ h => h) (Or.inl ⟨by kernel_rfl, by intro u hSw; have hc := HFe.out u hSw; go_simp⟩) (by assumption) ?_
                try simp only [Act.put, List.setIfInBounds_toArray, List.set_cons_zero, List.set_cons_succ]
                refine take_at 105 (i := 12) (v := .int .i64 (d : Int)) rfl (by kernel_rfl) (by kernel_rfl) (by kernel_rfl) (by kernel_rfl) (fun _ _ _ h => h) (Or.inl ⟨by kernel_rfl, by intro u hSw; (try dsimp only at hSw); go_simp⟩) (by assumption) ?_
                try simp only [Act.put, List.setIfInBounds_toArray, List.set_cons_zero, List.set_cons_succ]
                refine take_at 106 (i := 13) (v := .pointer (some ⟨wb, d * 6, none⟩)) rfl (by kernel_rfl) (by kernel_rfl) (by kernel_rfl) (by kernel_rfl) (fun _ _ _ h => h) (Or.inl ⟨by kernel_rfl, by intro u hSw; (try dsimp only at hSw); go_simp⟩) (by assumption) ?_
                try simp only [Act.put, List.setIfInBounds_toArray, List.set_cons_zero, List.set_cons_succ]
                refine take_at 107 (i := 14) (v := .pointer (some ⟨w.heap.size, 0, none⟩)) rfl (by kernel_rfl) (by kernel_rfl) (by kernel_rfl) (by kernel_rfl) (fun _ _ _ h => h) (Or.inl ⟨by kernel_rfl, by intro u hSw; (try dsimp only at hSw); go_simp⟩) (by assumption) ?_
                try simp only [Act.put, List.setIfInBounds_toArray, List.set_cons_zero, List.set_cons_succ]
                refine take_at 108 (i := 15) (v := .int .i64 (W : Int)) rfl (by kernel_rfl) (by kernel_rfl) (by kernel_rfl) (by kernel_rfl) (fun _ _ _ h => h) (Or.inl ⟨by kernel_rfl, by intro u hSw; have hc := HFc.out u hSw; go_simp⟩) (by assumption) ?_
                try simp only [Act.put, List.setIfInBounds_toArray, List.set_cons_zero, List.set_cons_succ]
                refine wpAnyH_ready (rs := [16]) (by kernel_rfl) (by simp) ?_
                refine AllReadyH.cons rfl (fun K hK => ?_) AllReadyH.nil
                go_simp
                refine (HCb.out _ hS1).mono ?_
                rintro e u2 ⟨rfl, hS2⟩
                try go_simp
                refine hK.out _ _ hS2 (fun _ => ?_)
                clear hK K
                try simp only [Act.put, List.setIfInBounds_toArray, List.set_cons_zero, List.set_cons_succ]
                refine take_at 110 (i := 17) (v := .bool false) rfl (by kernel_rfl) (by kernel_rfl) (by kernel_rfl) (by kernel_rfl) (fun _ _ _ h => h) (Or.inl ⟨by kernel_rfl, by intro u hSw; (try dsimp only at hSw); go_simp⟩) (by assumption) ?_
                try simp only [Act.put, List.setIfInBounds_toArray, List.set_cons_zero, List.set_cons_succ]
                refine take_at 111 (i := 18) (v := .bool false) rfl (by kernel_rfl) (by kernel_rfl) (by kernel_rfl) (by kernel_rfl) (fun _ _ _ h => h) (Or.inl ⟨by kernel_rfl, by intro u hSw; (try dsimp only at hSw); go_simp⟩) (by assumption) ?_
                try simp only [Act.put, List.setIfInBounds_toArray, List.set_cons_zero, List.set_cons_succ]
                refine wpAnyH_done (by kernel_rfl) ?_ _
                clear i0 i1 j0 j1 j2 m1 hS0 hS1
                go_wp2
                go_roundw
                case rel => exact ⟨d + 1, _, _, by omega, by go_num, HP8.out.keep hS2, HG8.out.trans (hS2.more fun _ _ f => f.elim)⟩
                case measure => simp [intOf]; omega
              · obtain rfl : d = 2 := by omega
                go_wp2_with fail
                go_roundw
                case rel => exact ⟨k + 1, st7.1, st7.2, _, _, by omega, by go_num, ⟨HP8.out.back HB1.out, HV7.out, HW7.out⟩, HG8.out⟩
                case measure => simp [intOf]; omega
      · obtain rfl : k = n := by omega
        have hIe := HH.out.1.is HX4.out.2 HIe.out
        have b0 : wr.cell? ⟨eb, 0, none⟩ = some (.pointer (some ⟨q 0, 0, none⟩)) := hIe.at_ 0 _ rfl
        have b1 : wr.cell? ⟨eb, 1, none⟩ = some (.pointer (some ⟨q 1, 0, none⟩)) := hIe.at_ 1 _ rfl
        have b2 : wr.cell? ⟨w.heap.size, 2, none⟩ = some (.int .i64 (fr : Int)) := (HH.out.1.is HX4.out.1 HI4.out).at_ 2 _ rfl
        have i3 : ¬ (k : Int) < (k : Int) := by omega
        clear hIe
        go_wp2_with fail
        refine (finish_any wr HH.out.1 (HS.out.below HBl.out) (HT.out.below HBl.out) hB HG.out.size HH.out.2.1 (by have := HNc.out.2; omega) (fr : Int)).mono ?_
        rintro e w' ⟨rfl, hg'⟩
        have HGz : Hid (Below w.heap.size w w') := (HG.out.trans hg').below (fun k _ hk => hk) hB
        clear hg' b0 b1 b2
        go_wp2
        go_ret
        exact ⟨rfl, HGz.out⟩
  · have HK := Lib.hid hk
    clear hk
    go_enter Tryd.func9, Tryd.ntmps9
    go_wp2_with fail
    clear hw0
    refine (awake10_any w0 (HS.out.below (HC0.out.old hB)) (HT.out.below (HC0.out.old hB)) HC0.out.size).mono ?_
    rintro e w1 ⟨rfl, c1⟩
    have HC1 : Hid (Chg none_ w w1) := HC0.out.trans c1
    have HI1 : Hid (Is w1 w.heap.size 43 #[.int .i64 WI, .int .i64 stI, .int .i64 frI, .int .i64 y3, .int .i64 y4, .int .i64 y5, .int .i64 y6, .int .i64 y7]) := HI0.out.chg c1 fun f => f
    have k0 : w1.cell? ⟨w.heap.size, 0, none⟩ = some (.int .i64 WI) := HI1.out.at_ 0 _ rfl
    have k1 : w1.cell? ⟨w.heap.size, 1, none⟩ = some (.int .i64 stI) := HI1.out.at_ 1 _ rfl
    have k2 : w1.cell? ⟨w.heap.size, 2, none⟩ = some (.int .i64 frI) := HI1.out.at_ 2 _ rfl
    have k3 : w1.cell? ⟨w.heap.size, 3, none⟩ = some (.int .i64 y3) := HI1.out.at_ 3 _ rfl
    have k4 : w1.cell? ⟨w.heap.size, 4, none⟩ = some (.int .i64 y4) := HI1.out.at_ 4 _ rfl
    have k5 : w1.cell? ⟨w.heap.size, 5, none⟩ = some (.int .i64 y5) := HI1.out.at_ 5 _ rfl
    have k6 : w1.cell? ⟨w.heap.size, 6, none⟩ = some (.int .i64 y6) := HI1.out.at_ 6 _ rfl
    have k7 : w1.cell? ⟨w.heap.size, 7, none⟩ = some (.int .i64 y7) := HI1.out.at_ 7 _ rfl
    clear c1
    go_wp2_with fail
    refine (open_no w1 (HS.out.below (HC1.out.old hB)) HC1.out.size WI stI frI y3 y4 y5 y6 y7 HK.out).mono ?_
    rintro e w2 ⟨rfl, c2⟩
    have HC2 := Lib.hid (HC1.out.trans c2)
    have HI2 := Lib.hid (HI1.out.chg c2 fun f => f)
    clear c2 k0 k1 k2 k3 k4 k5 k6 k7
    have k0 : w2.cell? ⟨w.heap.size, 0, none⟩ = some (.int .i64 WI) := HI2.out.at_ 0 _ rfl
    have k1 : w2.cell? ⟨w.heap.size, 1, none⟩ = some (.int .i64 stI) := HI2.out.at_ 1 _ rfl
    have k2 : w2.cell? ⟨w.heap.size, 2, none⟩ = some (.int .i64 frI) := HI2.out.at_ 2 _ rfl
    have k3 : w2.cell? ⟨w.heap.size, 3, none⟩ = some (.int .i64 y3) := HI2.out.at_ 3 _ rfl
    have k4 : w2.cell? ⟨w.heap.size, 4, none⟩ = some (.int .i64 y4) := HI2.out.at_ 4 _ rfl
    have k5 : w2.cell? ⟨w.heap.size, 5, none⟩ = some (.int .i64 y5) := HI2.out.at_ 5 _ rfl
    have k6 : w2.cell? ⟨w.heap.size, 6, none⟩ = some (.int .i64 y6) := HI2.out.at_ 6 _ rfl
    have k7 : w2.cell? ⟨w.heap.size, 7, none⟩ = some (.int .i64 y7) := HI2.out.at_ 7 _ rfl
    go_wp2_with fail
    refine (snew_no w2 (HS.out.below (HC2.out.old hB)) HC2.out.size 7 true WI stI frI _ _ _ _ _ (by decide) HK.out).mono ?_
    rintro e w3 ⟨rfl, c3⟩
    have HC3 := Lib.hid (HC2.out.trans c3)
    clear c3
    rw [show errv a 10 = .iface 200 (.pointer (some (a 10))) from rfl]
    go_wp2_with fail
    refine (code_err w3 (HS.out.below (HC3.out.old hB)) 10 (by decide) (by decide)).mono ?_
    rintro e w' ⟨rfl, rfl⟩
    go_wp2
    go_ret
    exact ⟨rfl, HC3.out.old hB⟩
end
end Go.Proofs.YthalmjjbamglgaaDoor
