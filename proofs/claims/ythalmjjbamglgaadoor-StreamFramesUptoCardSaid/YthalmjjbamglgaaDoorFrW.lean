/-
  The walk of culvertlaw10.StreamFrames.
  No condition of its own: the facts 'Sen' and 'Tab' on the world; the script opened, of at most 1048576 steps.
-/
import Derived.Test.YthalmjjbamglgaaDoorFrL
import Derived.Test.YthalmjjbamglgaaDoorOps
import Derived.Deep.DeepCutAuto
import Derived.Deep.CutBlock
namespace Go.Proofs.YthalmjjbamglgaaDoor
open Go.RowKit

section
variable {a : Nat → Addr}
set_option maxRecDepth 100000 in
set_option maxHeartbeats 40000000 in
theorem streamframes_walk (w : World) (hs : Sen w.heap.size a w) (ht : Tab w.heap.size w) (WI stI frI y3 y4 y5 y6 y7 : Int) (A : Option Addr) (n c : Nat) (hnc : n ≤ c) (hn20 : n ≤ 1048576) (O : Nat → Opv) (hr : Rds w A n 14 fun i j => (O i).cells.getD j (.bool false)) (hO : ∀ i, i < n → (O i).Ok w ∧ (O i).len ≤ 140737488355328) :
    Calls Tryd.prog 7 #[.agg #[.int .i64 WI, .int .i64 stI, .int .i64 frI, .int .i64 y3, .int .i64 y4, .int .i64 y5, .int .i64 y6, .int .i64 y7], .slice A n c] w fun e w' => e = .returned (.bool true) ∧ Below w.heap.size w w' := by
  have HS := Lib.hid hs
  have HT := Lib.hid ht
  have HR := Lib.hid hr
  have HOs := Lib.hid hO
  have HNc := Lib.hid (And.intro hnc hn20)
  have hB : w.heap.size ≤ w.heap.size := Nat.le_refl _
  have hn63 : (n : Int) ≤ 1048576 := by omega
  obtain ⟨w0, hw0⟩ : ∃ y, w.alloc (.cells #[.int .i64 WI, .int .i64 stI, .int .i64 frI, .int .i64 y3, .int .i64 y4, .int .i64 y5, .int .i64 y6, .int .i64 y7] 43) = y := ⟨_, rfl⟩
  obtain ⟨rc, hrc⟩ : ∃ y, w.heap.size = y := ⟨_, rfl⟩
  have HC0 : Hid (Chg none_ w w0) := by show Chg _ _ _; rw [← hw0]; exact (Chg.refl none_ w).alloc _
  have HI0 : Hid (Is w0 rc 43 #[.int .i64 WI, .int .i64 stI, .int .i64 frI, .int .i64 y3, .int .i64 y4, .int .i64 y5, .int .i64 y6, .int .i64 y7]) := by show Is _ _ _ _; rw [← hw0, ← hrc]; exact Is.new w _ _
  have HRc : Hid (w.heap.size = rc) := hrc
  clear hs ht hr hO hnc hn20
  by_cases hk : 1 ≤ WI ∧ WI ≤ 2147483647 ∧ 1 ≤ stI ∧ stI ≤ 1048576 ∧ 1 ≤ frI ∧ frI ≤ 65536
  · obtain ⟨W, rfl⟩ : ∃ W : Nat, WI = (W : Int) := ⟨WI.toNat, by omega⟩
    obtain ⟨st, rfl⟩ : ∃ W : Nat, stI = (W : Int) := ⟨stI.toNat, by omega⟩
    obtain ⟨fr, rfl⟩ : ∃ W : Nat, frI = (W : Int) := ⟨frI.toNat, by omega⟩
    have HK := Lib.hid hk
    clear hk
    go_enter Tryd.func7, Tryd.ntmps7
    go_wp2_with fail
    clear hw0 hrc
    refine (awake10_any w0 (HS.out.below (HC0.out.old hB)) (HT.out.below (HC0.out.old hB)) HC0.out.size).mono ?_
    rintro e w1 ⟨rfl, c1⟩
    have HC1 : Hid (Chg none_ w w1) := HC0.out.trans c1
    have HI1 : Hid (Is w1 rc 43 #[.int .i64 (W : Int), .int .i64 (st : Int), .int .i64 (fr : Int), .int .i64 y3, .int .i64 y4, .int .i64 y5, .int .i64 y6, .int .i64 y7]) := HI0.out.chg c1 fun f => f
    have k0 : w1.cell? ⟨rc, 0, none⟩ = some (.int .i64 (W : Int)) := HI1.out.at_ 0 _ rfl
    have k1 : w1.cell? ⟨rc, 1, none⟩ = some (.int .i64 (st : Int)) := HI1.out.at_ 1 _ rfl
    have k2 : w1.cell? ⟨rc, 2, none⟩ = some (.int .i64 (fr : Int)) := HI1.out.at_ 2 _ rfl
    have k3 : w1.cell? ⟨rc, 3, none⟩ = some (.int .i64 y3) := HI1.out.at_ 3 _ rfl
    have k4 : w1.cell? ⟨rc, 4, none⟩ = some (.int .i64 y4) := HI1.out.at_ 4 _ rfl
    have k5 : w1.cell? ⟨rc, 5, none⟩ = some (.int .i64 y5) := HI1.out.at_ 5 _ rfl
    have k6 : w1.cell? ⟨rc, 6, none⟩ = some (.int .i64 y6) := HI1.out.at_ 6 _ rfl
    have k7 : w1.cell? ⟨rc, 7, none⟩ = some (.int .i64 y7) := HI1.out.at_ 7 _ rfl
    clear c1
    go_wp2_with fail
    refine (snew_ok w1 (HS.out.below (HC1.out.old hB)) (HT.out.below (HC1.out.old hB)) HC1.out.size 9 true W st fr _ _ _ _ _ (by decide) (by decide) (by have := HK.out; omega) (by have := HK.out; omega) (by have := HK.out; omega) (by have := HK.out; omega) (by have := HK.out; omega) (by have := HK.out; omega)).mono ?_
    rintro e w2 ⟨g, rfl, p1, p2⟩
    have HF2 : Hid (FrR w w2 #[.int .i64 (W : Int), .int .i64 (st : Int), .int .i64 (fr : Int), .int .i64 y3, .int .i64 y4, .int .i64 y5, .int .i64 y6, .int .i64 y7] (W : Int) fr g rc (Sm.new 9 true W st fr) [] [] (.slice none 0 0) (.slice none 0 0)) :=
      ⟨HC1.out.trans p2, ⟨_, p1.cut, fun k hk => ⟨⟨by have := HC1.out.size; omega, hk.2⟩, fun e => by have := HI1.out.lt; omega, fun e => by simp [obk] at e, fun e => by simp [obk] at e⟩⟩, ob_nil _ _ _ _, ob_nil _ _ _ _, fun q hq => by simp [obk] at hq, fun e => by simp [obk] at e, fun e => by simp [obk] at e, HI1.out.chg p2 fun f => f, ⟨rfl, rfl⟩, rfl, rfl⟩
    have z0 : w2.cell? ⟨rc, 0, none⟩ = some (.int .i64 (W : Int)) := HF2.out.cfg.at_ 0 _ rfl
    clear p1 p2 k0 k1 k2 k3 k4 k5 k6 k7 HC0 HI0 HC1 HI1
    go_wp2_with fail
    clear z0
    go_loopw [7, 8, 9, 10, 11, 12] (fun xw xb xc xl xk xi wr => ∃ (k : Nat) (s : Sm) (bo : List Int), k ≤ n ∧ xi = .int .i64 k ∧ xc = .bool s.cl ∧ xl = .bool s.lo ∧ xk = .int .i64 s.cr.h ∧ (bo ++ s.sg).length ≤ k * 1048576 ∧ FrR w wr #[.int .i64 (W : Int), .int .i64 (st : Int), .int .i64 (fr : Int), .int .i64 y3, .int .i64 y4, .int .i64 y5, .int .i64 y6, .int .i64 y7] (W : Int) fr g rc s (bo ++ s.sg) bo xw xb) (fun _ _ _ _ _ xi _ => n - (intOf xi).toNat)
    case atStart => exact ⟨0, _, [], by omega, rfl, rfl, rfl, rfl, by simp [Sm.new], HF2.out⟩
    case round =>
      clear HF2
      obtain ⟨k, s, bo, hk, rfl, rfl, rfl, rfl, hlen, hf⟩ := hrel
      have HF := Lib.hid hf
      have HLen := Lib.hid hlen
      clear hf hlen
      by_cases hkn : k < n
      · obtain ⟨ad, rfl, hcell⟩ := HR.out (by omega)
        clear hcell
        have x0 : wr.cell? (ad.add (k * 14)) = some ((O k).cells.getD 0 (.bool false)) := HR.out.f0 rfl (HF.out.chg.old hB) (by decide) hkn
        have x1 : wr.cell? ⟨(ad.add (k * 14)).block, (ad.add (k * 14)).off + 1, none⟩ = some ((O k).cells.getD 1 (.bool false)) := HR.out.fj rfl (HF.out.chg.old hB) hkn (j := 1) (by decide) (by decide)
        have x2 : wr.cell? ⟨(ad.add (k * 14)).block, (ad.add (k * 14)).off + 2, none⟩ = some ((O k).cells.getD 2 (.bool false)) := HR.out.fj rfl (HF.out.chg.old hB) hkn (j := 2) (by decide) (by decide)
        have x3 : wr.cell? ⟨(ad.add (k * 14)).block, (ad.add (k * 14)).off + 3, none⟩ = some ((O k).cells.getD 3 (.bool false)) := HR.out.fj rfl (HF.out.chg.old hB) hkn (j := 3) (by decide) (by decide)
        have x4 : wr.cell? ⟨(ad.add (k * 14)).block, (ad.add (k * 14)).off + 4, none⟩ = some ((O k).cells.getD 4 (.bool false)) := HR.out.fj rfl (HF.out.chg.old hB) hkn (j := 4) (by decide) (by decide)
        have x5 : wr.cell? ⟨(ad.add (k * 14)).block, (ad.add (k * 14)).off + 5, none⟩ = some ((O k).cells.getD 5 (.bool false)) := HR.out.fj rfl (HF.out.chg.old hB) hkn (j := 5) (by decide) (by decide)
        have x6 : wr.cell? ⟨(ad.add (k * 14)).block, (ad.add (k * 14)).off + 6, none⟩ = some ((O k).cells.getD 6 (.bool false)) := HR.out.fj rfl (HF.out.chg.old hB) hkn (j := 6) (by decide) (by decide)
        have x7 : wr.cell? ⟨(ad.add (k * 14)).block, (ad.add (k * 14)).off + 7, none⟩ = some ((O k).cells.getD 7 (.bool false)) := HR.out.fj rfl (HF.out.chg.old hB) hkn (j := 7) (by decide) (by decide)
        have x8 : wr.cell? ⟨(ad.add (k * 14)).block, (ad.add (k * 14)).off + 8, none⟩ = some ((O k).cells.getD 8 (.bool false)) := HR.out.fj rfl (HF.out.chg.old hB) hkn (j := 8) (by decide) (by decide)
        have x9 : wr.cell? ⟨(ad.add (k * 14)).block, (ad.add (k * 14)).off + 9, none⟩ = some ((O k).cells.getD 9 (.bool false)) := HR.out.fj rfl (HF.out.chg.old hB) hkn (j := 9) (by decide) (by decide)
        have x10 : wr.cell? ⟨(ad.add (k * 14)).block, (ad.add (k * 14)).off + 10, none⟩ = some ((O k).cells.getD 10 (.bool false)) := HR.out.fj rfl (HF.out.chg.old hB) hkn (j := 10) (by decide) (by decide)
        have x11 : wr.cell? ⟨(ad.add (k * 14)).block, (ad.add (k * 14)).off + 11, none⟩ = some ((O k).cells.getD 11 (.bool false)) := HR.out.fj rfl (HF.out.chg.old hB) hkn (j := 11) (by decide) (by decide)
        have x12 : wr.cell? ⟨(ad.add (k * 14)).block, (ad.add (k * 14)).off + 12, none⟩ = some ((O k).cells.getD 12 (.bool false)) := HR.out.fj rfl (HF.out.chg.old hB) hkn (j := 12) (by decide) (by decide)
        have x13 : wr.cell? ⟨(ad.add (k * 14)).block, (ad.add (k * 14)).off + 13, none⟩ = some ((O k).cells.getD 13 (.bool false)) := HR.out.fj rfl (HF.out.chg.old hB) hkn (j := 13) (by decide) (by decide)
        have HOk := Lib.hid (HOs.out k hkn)
        generalize O k = ok at x0 x1 x2 x3 x4 x5 x6 x7 x8 x9 x10 x11 x12 x13 HOk
        obtain ⟨kd, xx, nn, A2, len, cap, zs, dl, fl, c0, c1, c2, c3, c4, c5, c6, c7⟩ := ok
        have hk0 : (0 : Int) ≤ (k : Int) := by omega
        have hkI : (k : Int) < (n : Int) := by omega
        replace x0 : wr.cell? (ad.add (k * 14)) = some (.int .i64 kd) := x0
        replace x1 : wr.cell? ⟨(ad.add (k * 14)).block, (ad.add (k * 14)).off + 1, none⟩ = some (.int .i64 xx) := x1
        replace x2 : wr.cell? ⟨(ad.add (k * 14)).block, (ad.add (k * 14)).off + 2, none⟩ = some (.int .i64 nn) := x2
        replace x3 : wr.cell? ⟨(ad.add (k * 14)).block, (ad.add (k * 14)).off + 3, none⟩ = some (.slice A2 len cap) := x3
        replace x4 : wr.cell? ⟨(ad.add (k * 14)).block, (ad.add (k * 14)).off + 4, none⟩ = some (.int .u32 dl) := x4
        replace x5 : wr.cell? ⟨(ad.add (k * 14)).block, (ad.add (k * 14)).off + 5, none⟩ = some (.bool fl) := x5
        replace x6 : wr.cell? ⟨(ad.add (k * 14)).block, (ad.add (k * 14)).off + 6, none⟩ = some (.int .i64 c0) := x6
        replace x7 : wr.cell? ⟨(ad.add (k * 14)).block, (ad.add (k * 14)).off + 7, none⟩ = some (.int .i64 c1) := x7
        replace x8 : wr.cell? ⟨(ad.add (k * 14)).block, (ad.add (k * 14)).off + 8, none⟩ = some (.int .i64 c2) := x8
        replace x9 : wr.cell? ⟨(ad.add (k * 14)).block, (ad.add (k * 14)).off + 9, none⟩ = some (.int .i64 c3) := x9
        replace x10 : wr.cell? ⟨(ad.add (k * 14)).block, (ad.add (k * 14)).off + 10, none⟩ = some (.int .i64 c4) := x10
        replace x11 : wr.cell? ⟨(ad.add (k * 14)).block, (ad.add (k * 14)).off + 11, none⟩ = some (.int .i64 c5) := x11
        replace x12 : wr.cell? ⟨(ad.add (k * 14)).block, (ad.add (k * 14)).off + 12, none⟩ = some (.int .i64 c6) := x12
        replace x13 : wr.cell? ⟨(ad.add (k * 14)).block, (ad.add (k * 14)).off + 13, none⟩ = some (.int .i64 c7) := x13
        obtain ⟨wa, hwa⟩ : ∃ y, wr.alloc (.cells #[.int .i64 kd, .int .i64 xx, .int .i64 nn, .slice A2 len cap, .int .u32 dl, .bool fl, .int .i64 c0, .int .i64 c1, .int .i64 c2, .int .i64 c3, .int .i64 c4, .int .i64 c5, .int .i64 c6, .int .i64 c7] 45) = y := ⟨_, rfl⟩
        obtain ⟨ro, hro⟩ : ∃ y, wr.heap.size = y := ⟨_, rfl⟩
        have hca : Chg none_ wr wa := by rw [← hwa]; exact (Chg.refl none_ wr).alloc _
        have HIo : Hid (Is wa ro 45 #[.int .i64 kd, .int .i64 xx, .int .i64 nn, .slice A2 len cap, .int .u32 dl, .bool fl, .int .i64 c0, .int .i64 c1, .int .i64 c2, .int .i64 c3, .int .i64 c4, .int .i64 c5, .int .i64 c6, .int .i64 c7]) := by show Is _ _ _ _; rw [← hwa, ← hro]; exact Is.new wr _ _
        have HFa : Hid (FrR w wa #[.int .i64 (W : Int), .int .i64 (st : Int), .int .i64 (fr : Int), .int .i64 y3, .int .i64 y4, .int .i64 y5, .int .i64 y6, .int .i64 y7] (W : Int) fr g rc s (bo ++ s.sg) bo u7 u8) := HF.out.grow hca
        obtain ⟨T, p1, p2⟩ := HF.out.pst
        have HTp : Hid (∀ k, T k → ((w.heap.size ≤ k ∧ k < wa.heap.size) ∧ k ≠ rc ∧ obk u7 ≠ some k ∧ obk u8 ≠ some k) ∧ k ≠ ro) := fun k hk => by have h2 := p2 k hk; have := hca.size; exact ⟨⟨⟨h2.1.1, by omega⟩, h2.2.1, h2.2.2.1, h2.2.2.2⟩, by omega⟩
        have HR4 : Hid (Run w.heap.size a wa wa T g s) := Run.init (HS.out.below (HFa.out.chg.old hB)) (HT.out.below (HFa.out.chg.old hB)) HFa.out.chg.size (p1.keep hca) fun k hk => (p2 k hk).1.1
        have HOk4 := Lib.hid p1.ok
        have HSg := Lib.hid p1.sgl
        have b0 : wa.cell? ⟨ro, 0, none⟩ = some (.int .i64 kd) := HIo.out.at_ 0 _ rfl
        have b3 : wa.cell? ⟨ro, 3, none⟩ = some (.slice A2 len cap) := HIo.out.at_ 3 _ rfl
        have b4 : wa.cell? ⟨ro, 4, none⟩ = some (.int .u32 dl) := HIo.out.at_ 4 _ rfl
        clear p1 p2
        go_upto_block 2 with fail
        have HZs : Hid (zs.length ≤ 140737488355328) := by show _ ≤ _; rw [HOk.out.1.len]; exact HOk.out.2
        have HRd4 : Hid (∀ u, Below w.heap.size w u → Rd u A2 len fun i => .int .u8 (zs.getD i 0)) := fun u hb => HOk.out.1.rd.below hb fun ad h0 e => HOk.out.1.rd.lt ad h0 e
        have HRun : Hid (∀ u s', Run w.heap.size a wa u T g s' → s'.Up → s'.frame = s.frame → s'.cr.W = s.cr.W → FrR w u #[.int .i64 (W : Int), .int .i64 (st : Int), .int .i64 (fr : Int), .int .i64 y3, .int .i64 y4, .int .i64 y5, .int .i64 y6, .int .i64 y7] (W : Int) fr g rc s' (bo ++ s.sg) bo u7 u8 ∧ Is u ro 45 #[.int .i64 kd, .int .i64 xx, .int .i64 nn, .slice A2 len cap, .int .u32 dl, .bool fl, .int .i64 c0, .int .i64 c1, .int .i64 c2, .int .i64 c3, .int .i64 c4, .int .i64 c5, .int .i64 c6, .int .i64 c7]) := fun u s' r h1 h2 h3 => ⟨HFa.out.run (fun k hk => (HTp.out k hk).1) r h1 h2 h3, HIo.out.chg r.chg fun ht => (HTp.out _ ht).2 rfl⟩
        clear hwa hca hro x0 x1 x2 x3 x4 x5 x6 x7 x8 x9 x10 x11 x12 x13
        go_cut [7, 8, 9, 10, 11] (fun xw xb xc xl xk wx => ∃ (s' : Sm) (bo' : List Int), xc = .bool s'.cl ∧ xl = .bool s'.lo ∧ xk = .int .i64 s'.cr.h ∧ (bo' ++ s'.sg).length ≤ (k + 1) * 1048576 ∧ FrR w wx #[.int .i64 (W : Int), .int .i64 (st : Int), .int .i64 (fr : Int), .int .i64 y3, .int .i64 y4, .int .i64 y5, .int .i64 y6, .int .i64 y7] (W : Int) fr g rc s' (bo' ++ s'.sg) bo' xw xb)
        case first =>
          by_cases e3 : kd = 3
          · as_aux_lemma =>
              subst e3
              go_wp2_with fail
              refine (copied_any wa A2 len cap zs HOk.out.1.len (HRd4.out wa (HFa.out.chg.old hB)) HOk.out.2).mono ?_
              rintro e w5 ⟨v, rfl, j1, j2⟩
              have J1 := Lib.hid j1
              have J2 := Lib.hid j2
              clear j1 j2
              go_wp2_with fail
              refine (run_write (HR4.out.grow J2.out) v zs (BsO.of_ob J1.out HOk.out.1.byt) (z := wa.heap.size) J2.out.size (HR4.out.old J2.out) (fun k hk => J1.out.block k (J1.out.rdk k hk)) HZs.out).mono ?_
              rintro e w6 ⟨rfl, r⟩
              have hq := HRun.out w6 _ r (wrS_up HFa.out.up zs) rfl rfl
              obtain ⟨m, hm⟩ : ∃ m, wrN s zs = m := ⟨_, rfl⟩
              have hle := wrN_le s zs
              rw [hm] at hle ⊢
              have hcap := HOk.out.1.cap
              have hln := HOk.out.1.len
              have hg2 := HOk4.out.g2
              have hm0 : ¬ (m : Int) < 0 := by omega
              have hm1 : ¬ (len : Int) < (m : Int) := by simp only at hln; omega
              have hm2 : (0 : Int) ≤ (m : Int) := by omega
              have hm3 : (m : Int) ≤ (cap : Int) := by simp only at hln hcap; omega
              have hm4 : m ≤ cap := by omega
              have HM := Lib.hid (And.intro hm (And.intro hle (And.intro hln hg2)))
              have b36 : w6.cell? ⟨ro, 3, none⟩ = some (.slice A2 len cap) := hq.2.at_ 3 _ rfl
              have HF6 := Lib.hid hq.1
              clear hq r hm hle hcap hln hg2
              go_wp2_with (at_builtin; refine wpList_append_bytes rfl (.tmp 145) (.tmp 149) rfl rfl HF6.out.ow A2 m cap (zs.take m) rfl ?hl ?hr ?hb ?hz ?_)
              case hl => have := HM.out.2.1; have := HM.out.2.2.1; rw [List.length_take]; omega
              case hr =>
                intro h0
                obtain ⟨ad', e, hh⟩ := (HRd4.out w6 (HF6.out.chg.old hB)) (by have := HM.out.2.1; have := HM.out.2.2.1; omega)
                refine ⟨ad', e, fun i hi => ?_⟩
                rw [hh i (by have := HM.out.2.1; have := HM.out.2.2.1; omega)]
                show some (Value.int .u8 (zs.getD i 0)) = some (Value.int .u8 ((zs.take m).getD i 0))
                rw [List.getD_eq_getElem?_getD, List.getD_eq_getElem?_getD, List.getElem?_take, if_pos hi]
              case hb => have := HLen.out; have := HM.out.2.1; have := HM.out.2.2.2; have := HNc.out; omega
              case hz => exact HF6.out.chg.size
              intro v' w7 h1 h2 h3
              have t0 : Ob w7 w.heap.size 5 v' ((bo ++ s.sg).length + m) (u8s (bo ++ s.sg ++ zs.take m)) := by
                have e : u8s (bo ++ s.sg ++ zs.take m) = u8s (bo ++ s.sg) ++ (zs.take m).map (Value.int .u8) := List.map_append
                rw [e, List.length_append, List.map_take]
                exact h1
              have t2 : (zs.take m).length = m := by
                have := HM.out.2.1
                rw [List.length_take]
                omega
              have t1 : (bo ++ s.sg).length + m = (bo ++ s.sg ++ zs.take m).length := by
                have e : (bo ++ s.sg ++ zs.take m).length = (bo ++ s.sg).length + (zs.take m).length := List.length_append
                omega
              have hF7 := HF6.out.appw h2 t0 t1 h3
              clear t0 t1 t2
              have HF7 := Lib.hid hF7
              clear h1 h2 h3 hF7
              go_wp2_with fail
              go_meet
              have e : bo ++ s.sg ++ zs.take m = bo ++ (wrS s zs).sg := by
                show _ = bo ++ (s.sg ++ zs.take (wrN s zs))
                rw [HM.out.1, List.append_assoc]
              refine ⟨wrS s zs, bo, rfl, rfl, rfl, ?_, by rw [← e]; exact HF7.out⟩
              have e1 : (bo ++ s.sg ++ zs.take m).length = (bo ++ s.sg).length + (zs.take m).length := List.length_append
              have e2 : (zs.take m).length ≤ 1048576 := by have := HM.out.2.1; have := HM.out.2.2.2; rw [List.length_take]; omega
              rw [← e, e1, Nat.succ_mul]
              exact Nat.add_le_add HLen.out e2
          have n3 : (kd == 3) = false := by simp [e3]
          by_cases e4 : kd = 4
          · as_aux_lemma =>
              subst e4
              go_wp2_with fail
              refine (run_close HR4.out).mono ?_
              rintro e w5 ⟨rfl, r⟩
              have hcl := clS_facts HFa.out.up
              have hq := HRun.out w5 _ r (clS_up HFa.out.up) hcl.2.2.2.2 (by rw [hcl.2.2.1])
              have HQ := Lib.hid (And.intro hcl hq)
              clear r hcl hq
              go_wp2_with fail
              go_meet
              refine ⟨clS s, bo, by rw [HQ.out.1.1], by rw [HQ.out.1.2.1], by rw [HQ.out.1.2.2.1], ?_, by rw [HQ.out.1.2.2.2.1]; exact HQ.out.2.1⟩
              rw [HQ.out.1.2.2.2.1]
              exact Nat.le_trans HLen.out (Nat.mul_le_mul_right _ (Nat.le_succ k))
          have n4 : (kd == 4) = false := by simp [e4]
          by_cases e8 : kd = 8
          · as_aux_lemma =>
              subst e8
              have hgn := gn_facts HFa.out.up HOk4.out dl
              have d0 := HOk.out.1.d0
              have d1 := HOk.out.1.d1
              simp only at d0 d1
              have h0 := HOk4.out.cr.h0
              have h1 := HOk4.out.cr.h1
              have h2 := HOk4.out.cr.W2
              have HD := Lib.hid (And.intro d0 d1)
              have hend : ∀ (w5 : World) (x : Int), Run w.heap.size a wa w5 T g (gnS s dl false) → x = (gnS s dl false).cr.h → ∃ (s' : Sm) (bo' : List Int), Value.bool s.cl = .bool s'.cl ∧ Value.bool s.lo = .bool s'.lo ∧ Value.int .i64 x = .int .i64 s'.cr.h ∧ (bo' ++ s'.sg).length ≤ (k + 1) * 1048576 ∧ FrR w w5 #[.int .i64 (W : Int), .int .i64 (st : Int), .int .i64 (fr : Int), .int .i64 y3, .int .i64 y4, .int .i64 y5, .int .i64 y6, .int .i64 y7] (W : Int) fr g rc s' (bo' ++ s'.sg) bo' u7 u8 := fun w5 x r hx =>
                ⟨gnS s dl false, bo, by rw [hgn.1], by rw [hgn.2.1], by rw [hx], by rw [hgn.2.2.1]; exact Nat.le_trans HLen.out (Nat.mul_le_mul_right _ (Nat.le_succ k)), by rw [hgn.2.2.1]; exact (HRun.out w5 _ r (gnS_up HFa.out.up dl false) hgn.2.2.2.1 hgn.2.2.2.2.1).1⟩
              have HEnd := Lib.hid hend
              have HRo : Hid (∀ w5, Run w.heap.size a wa w5 T g (gnS s dl false) → Is w5 ro 45 #[.int .i64 8, .int .i64 xx, .int .i64 nn, .slice A2 len cap, .int .u32 dl, .bool fl, .int .i64 c0, .int .i64 c1, .int .i64 c2, .int .i64 c3, .int .i64 c4, .int .i64 c5, .int .i64 c6, .int .i64 c7]) := fun w5 r => (HRun.out w5 _ r (gnS_up HFa.out.up dl false) hgn.2.2.2.1 hgn.2.2.2.2.1).2
              have HGn := Lib.hid hgn
              clear hend hgn
              by_cases hg0 : gnC s dl = 0
              · cases hlo : s.lo with
                | true =>
                  rw [hlo] at HEnd
                  have HL := Lib.hid (And.intro hg0 hlo)
                  clear h0 h1 h2 d0 d1
                  go_wp2_with fail
                  refine (run_grant HR4.out dl HD.out.1 HD.out.2 false).mono ?_
                  rintro e w5 ⟨rfl, r⟩
                  rw [HL.out.1, show errv a 0 = Value.nilIface from rfl]
                  have HR5 := Lib.hid r
                  clear r hg0 hlo
                  go_wp2_with fail
                  go_meet
                  exact HEnd.out w5 _ HR5.out (by rw [HGn.out.2.2.2.2.2.1, if_pos HL.out.1, if_pos HL.out.2])
                | false =>
                  rw [hlo] at HEnd
                  have hle := HGn.out.2.2.2.2.2.2 hg0 hlo
                  have hw1 : IntKind.i64.wrap dl = dl := IntWalk.i64_in _ (by omega)
                  have hw2 : IntKind.i64.wrap (s.cr.h + dl) = s.cr.h + dl := IntWalk.i64_in _ (by omega)
                  have HL := Lib.hid (And.intro hg0 hlo)
                  clear h0 h1 h2 d0 d1 hle
                  go_wp2_with fail
                  refine (run_grant HR4.out dl HD.out.1 HD.out.2 false).mono ?_
                  rintro e w5 ⟨rfl, r⟩
                  rw [HL.out.1, show errv a 0 = Value.nilIface from rfl]
                  have b45 : w5.cell? ⟨ro, 4, none⟩ = some (.int .u32 dl) := (HRo.out w5 r).at_ 4 _ rfl
                  have HR5 := Lib.hid r
                  clear r hg0 hlo
                  go_wp2_with fail
                  go_meet
                  exact HEnd.out w5 _ HR5.out (by rw [HGn.out.2.2.2.2.2.1, if_pos HL.out.1, if_neg (by rw [HL.out.2]; decide)])
              · obtain ⟨q, hq⟩ : ∃ q, gnC s dl = q + 1 := ⟨gnC s dl - 1, by omega⟩
                have HL := Lib.hid (And.intro hg0 hq)
                clear h0 h1 h2 d0 d1 hg0 hq
                go_wp2_with fail
                refine (run_grant HR4.out dl HD.out.1 HD.out.2 false).mono ?_
                rintro e w5 ⟨rfl, r⟩
                rw [HL.out.2, show errv a (q + 1) = .iface 200 (.pointer (some (a (q + 1)))) from rfl]
                have HR5 := Lib.hid r
                clear r
                go_wp2_with fail
                go_meet
                exact HEnd.out w5 _ HR5.out (by rw [HGn.out.2.2.2.2.2.1, if_neg HL.out.1])
          have n8 : (kd == 8) = false := by simp [e8]
          cases hrd : rdyB s with
          | false =>
            have HRd := Lib.hid hrd
            clear hrd
            go_wp2_with fail
            refine (run_fno HR4.out HRd.out).mono ?_
            rintro e w5 ⟨rfl, r⟩
            have HF5 := Lib.hid (HRun.out w5 _ r HFa.out.up rfl rfl).1
            clear r
            unfold frZ
            go_wp2
            go_roundw
            case rel => exact ⟨k + 1, s, bo, by omega, by go_num, rfl, rfl, rfl, Nat.le_trans HLen.out (Nat.mul_le_mul_right _ (Nat.le_succ k)), HF5.out.grow ((Chg.refl none_ w5).alloc _)⟩
            case measure => simp [intOf]; omega
          | true =>
            have hfr := fr_facts HOk4.out hrd
            obtain ⟨m, hm⟩ : ∃ m, frK s = m := ⟨_, rfl⟩
            have hsf : (frS s).frame = s.frame := rfl
            have HRn : Hid (Calls Tryd.prog 29 #[.pointer (some ⟨g, 0, none⟩)] wa fun e wj => ∃ v c5, e = .returned (.tuple #[frV (if frE s then 4 else 0) s.id m (.slice v m c5), .bool true]) ∧ Ob wj wa.heap.size 5 (.slice v m c5) m (u8s (s.sg.take m)) ∧ FrR w wj #[.int .i64 (W : Int), .int .i64 (st : Int), .int .i64 (fr : Int), .int .i64 y3, .int .i64 y4, .int .i64 y5, .int .i64 y6, .int .i64 y7] (W : Int) fr g rc (frS s) (bo ++ s.sg) bo u7 u8 ∧ m ≤ c5) := by
              show Calls _ _ _ _ _
              rw [← hm]
              refine (run_fyes HR4.out hrd).mono ?_
              rintro e wj ⟨v, q1, q2, q3⟩
              obtain ⟨A5, c5, rfl, q4, _⟩ := q2.slice
              exact ⟨A5, c5, q1, q2, (HRun.out wj _ q3 ⟨HFa.out.up.1, HFa.out.up.2⟩ rfl hfr.2.2.2.2.2.1).1, q4⟩
            rw [hm] at hfr
            have hfm : m ≤ fr := by have := HFa.out.fr; omega
            have h0 := HOk4.out.cr.h0
            have h1 := HOk4.out.cr.h1
            have h2 := HOk4.out.cr.W2
            have hw1 : IntKind.i64.wrap (m : Int) = (m : Int) := IntWalk.i64_in _ (by omega)
            have hw2 : IntKind.i64.wrap (s.cr.h - (m : Int)) = s.cr.h - (m : Int) := IntWalk.i64_in _ (by omega)
            have i1 : ¬ (fr : Int) < (m : Int) := by omega
            have i2 : ¬ s.cr.h < (m : Int) := by omega
            have hlo := hfr.2.2.2.1
            have HM := Lib.hid (And.intro hfr hm)
            rw [hlo]
            clear hfr hm hrd hsf h0 h1 h2 hlo hfm
            by_cases hmz : m = 0
            · as_aux_lemma =>
                subst hmz
                have hE : frE s = true := HM.out.1.2.2.2.2.2.2.1 rfl
                have hcl : s.cl = true := by have h := HM.out.1.2.2.2.2.2.2.2; rw [hE] at h; cases h2 : s.cl with | true => rfl | false => rw [h2] at h; cases h
                rw [hE, if_pos rfl] at HRn
                rw [hcl]
                have HCl := Lib.hid (And.intro hcl hE)
                clear hcl hE
                go_wp2_with fail
                refine HRn.out.mono ?_
                rintro e w5 ⟨v, c5, rfl, j1, j2, hm5⟩
                unfold frV
                obtain ⟨w6, hw6⟩ : ∃ y, w5.alloc (.cells #[.int .u8 0, .int .u8 0, .int .u16 4, .int .u32 s.id, .int .u32 (0 : Int), .slice v 0 c5] 72) = y := ⟨_, rfl⟩
                obtain ⟨rf, hrf⟩ : ∃ y, w5.heap.size = y := ⟨_, rfl⟩
                have hc6 : Chg none_ w5 w6 := by rw [← hw6]; exact (Chg.refl none_ w5).alloc _
                have hi6 : Is w6 rf 72 #[.int .u8 0, .int .u8 0, .int .u16 4, .int .u32 s.id, .int .u32 (0 : Int), .slice v 0 c5] := by rw [← hw6, ← hrf]; exact Is.new w5 _ _
                have HF6 := Lib.hid (j2.grow hc6)
                have HJ6 := Lib.hid (j1.chg hc6 fun _ _ f => f)
                have f2 : w6.cell? ⟨rf, 2, none⟩ = some (.int .u16 4) := hi6.at_ 2 _ rfl
                have f4 : w6.cell? ⟨rf, 4, none⟩ = some (.int .u32 (0 : Int)) := hi6.at_ 4 _ rfl
                have f5 : w6.cell? ⟨rf, 5, none⟩ = some (.slice v 0 c5) := hi6.at_ 5 _ rfl
                have z2 : w6.cell? ⟨rc, 2, none⟩ = some (.int .i64 (fr : Int)) := HF6.out.cfg.at_ 2 _ rfl
                have i5 : (0 : Int) ≤ (c5 : Int) := by omega
                clear hc6 hi6 j1 j2
                go_wp2_with (at_builtin; refine wpList_append_bytes rfl (.tmp 111) (.tmp 113) rfl rfl HF6.out.ob v 0 c5 (s.sg.take 0) rfl ?hl2 ?hr2 ?hb2 ?hz2 ?_)
                case hl2 => rw [List.length_take]; have := HM.out.1.2.2.1; omega
                case hr2 => exact HJ6.out.rd (fun i hi => ints_get (by rw [List.length_take]; have := HM.out.1.2.2.1; omega)) rfl
                case hb2 =>
                  have e : (bo ++ s.sg).length = bo.length + s.sg.length := List.length_append
                  have := HLen.out; have := HM.out.1.2.2.1; have := HNc.out; omega
                case hz2 => exact HF6.out.chg.size
                intro v' w7 h1 h2 h3
                have hF7 := HF6.out.appb h2 h1 rfl h3
                obtain ⟨Ab, cb, hvb, _, _⟩ := h1.slice
                obtain ⟨Aw, cw, hu7, _, _⟩ := HF6.out.ow.slice
                subst hvb
                have hsg0 : s.sg.length = 0 := by have h := HM.out.1.2.2.2.2.2.2.2; rw [HCl.out.2, HCl.out.1] at h; simpa [eq_comm] using h
                rw [hu7]
                rw [hu7] at hF7
                have HF7 := Lib.hid hF7
                clear h1 h2 h3 hF7 HF6 HJ6
                go_wp2_with fail
                go_meet
                have esg : (frS s).sg = [] := by show s.sg.drop _ = _; rw [List.eq_nil_of_length_eq_zero hsg0, List.drop_nil]
                have ebo : bo ++ s.sg = bo := by rw [List.eq_nil_of_length_eq_zero hsg0, List.append_nil]
                refine ⟨frS s, bo, by show _ = Value.bool s.cl; rw [HCl.out.1], by show _ = Value.bool (s.lo || frE s); rw [HCl.out.2, Bool.or_true], by rw [HM.out.1.2.2.2.2.1, IntWalk.wrap64_in _ (by have h0 := HOk4.out.cr.h0; have h1 := HOk4.out.cr.h1; have h2 := HOk4.out.cr.W2; omega)]; simp, ?_, ?_⟩
                · rw [esg, List.append_nil]
                  have h := HLen.out
                  rw [ebo] at h
                  exact Nat.le_trans h (Nat.mul_le_mul_right _ (Nat.le_succ k))
                · rw [esg, List.append_nil]
                  exact (fun (l : List Int) (e : bo ++ s.sg = l) => (by rw [← e]; exact HF7.out : FrR w w7 #[.int .i64 (W : Int), .int .i64 (st : Int), .int .i64 (fr : Int), .int .i64 y3, .int .i64 y4, .int .i64 y5, .int .i64 y6, .int .i64 y7] (W : Int) fr g rc (frS s) l bo (.slice Aw (bo ++ s.sg).length cw) (.slice Ab bo.length cb))) bo ebo
            · have hmzI : ¬ (m : Int) = 0 := by omega
              by_cases hc : s.cl = true
              · by_cases hms : m = s.sg.length
                · as_aux_lemma =>
                    have hcl : s.cl = true := hc
                    have hE : frE s = true := by rw [HM.out.1.2.2.2.2.2.2.2, hcl, decide_eq_true hms]; rfl
                    have HMS := Lib.hid hms
                    clear hc hms
                    rw [hE, if_pos rfl] at HRn
                    rw [hcl]
                    have HCl := Lib.hid (And.intro hcl hE)
                    clear hcl hE
                    go_wp2_with fail
                    refine HRn.out.mono ?_
                    rintro e w5 ⟨v, c5, rfl, j1, j2, hm5⟩
                    unfold frV
                    obtain ⟨w6, hw6⟩ : ∃ y, w5.alloc (.cells #[.int .u8 0, .int .u8 0, .int .u16 4, .int .u32 s.id, .int .u32 (m : Int), .slice v m c5] 72) = y := ⟨_, rfl⟩
                    obtain ⟨rf, hrf⟩ : ∃ y, w5.heap.size = y := ⟨_, rfl⟩
                    have hc6 : Chg none_ w5 w6 := by rw [← hw6]; exact (Chg.refl none_ w5).alloc _
                    have hi6 : Is w6 rf 72 #[.int .u8 0, .int .u8 0, .int .u16 4, .int .u32 s.id, .int .u32 (m : Int), .slice v m c5] := by rw [← hw6, ← hrf]; exact Is.new w5 _ _
                    have HF6 := Lib.hid (j2.grow hc6)
                    have HJ6 := Lib.hid (j1.chg hc6 fun _ _ f => f)
                    have f2 : w6.cell? ⟨rf, 2, none⟩ = some (.int .u16 4) := hi6.at_ 2 _ rfl
                    have f4 : w6.cell? ⟨rf, 4, none⟩ = some (.int .u32 (m : Int)) := hi6.at_ 4 _ rfl
                    have f5 : w6.cell? ⟨rf, 5, none⟩ = some (.slice v m c5) := hi6.at_ 5 _ rfl
                    have z2 : w6.cell? ⟨rc, 2, none⟩ = some (.int .i64 (fr : Int)) := HF6.out.cfg.at_ 2 _ rfl
                    have i5 : (m : Int) ≤ (c5 : Int) := by omega
                    clear hc6 hi6 j1 j2
                    go_wp2_with (at_builtin; refine wpList_append_bytes rfl (.tmp 111) (.tmp 113) rfl rfl HF6.out.ob v m c5 (s.sg.take m) rfl ?hl2 ?hr2 ?hb2 ?hz2 ?_)
                    case hl2 => rw [List.length_take]; have := HM.out.1.2.2.1; omega
                    case hr2 => exact HJ6.out.rd (fun i hi => ints_get (by rw [List.length_take]; have := HM.out.1.2.2.1; omega)) rfl
                    case hb2 =>
                      have e : (bo ++ s.sg).length = bo.length + s.sg.length := List.length_append
                      have := HLen.out; have := HM.out.1.2.2.1; have := HNc.out; omega
                    case hz2 => exact HF6.out.chg.size
                    intro v' w7 h1 h2 h3
                    have t0 : Ob w7 w.heap.size 5 v' (bo.length + m) (u8s (bo ++ s.sg.take m)) := by
                      have e : u8s (bo ++ s.sg.take m) = u8s bo ++ (s.sg.take m).map (Value.int .u8) := List.map_append
                      rw [e, List.map_take]
                      exact h1
                    have t1 : bo.length + m = (bo ++ s.sg.take m).length := by
                      have e : (bo ++ s.sg.take m).length = bo.length + (s.sg.take m).length := List.length_append
                      rw [e, List.length_take]
                      have := HM.out.1.2.2.1
                      omega
                    have hF7 := HF6.out.appb h2 t0 t1 h3
                    obtain ⟨Ab, cb, hvb, _, _⟩ := h1.slice
                    obtain ⟨Aw, cw, hu7, _, _⟩ := HF6.out.ow.slice
                    subst hvb
                    rw [hu7]
                    rw [hu7] at hF7
                    have HF7 := Lib.hid hF7
                    clear h1 h2 h3 t0 t1 hF7 HF6 HJ6
                    have hq1 : m = s.sg.length := HMS.out
                    trace_state
                    go_wp2_with fail
                    go_meet
                    have hk7 : frK s = m := HM.out.2
                    have esg : bo ++ s.sg.take m ++ (frS s).sg = bo ++ s.sg := by show bo ++ s.sg.take m ++ s.sg.drop (frK s) = _; rw [hk7, List.append_assoc, List.take_append_drop]
                    refine ⟨frS s, bo ++ s.sg.take m, by show _ = Value.bool s.cl; rw [HCl.out.1], by show _ = Value.bool (s.lo || frE s); rw [HCl.out.2, HM.out.1.2.2.2.1]; rfl, by rw [HM.out.1.2.2.2.2.1], ?_, ?_⟩
                    · rw [esg]
                      exact Nat.le_trans HLen.out (Nat.mul_le_mul_right _ (Nat.le_succ k))
                    · rw [esg]
                      exact HF7.out
                · as_aux_lemma =>
                    have hcl : s.cl = true := hc
                    have hE : frE s = false := by rw [HM.out.1.2.2.2.2.2.2.2, hcl, decide_eq_false hms]; rfl
                    have HMS := Lib.hid hms
                    clear hc hms
                    rw [hE, if_neg (by decide)] at HRn
                    rw [hcl]
                    have HCl := Lib.hid (And.intro hcl hE)
                    clear hcl hE
                    go_wp2_with fail
                    refine HRn.out.mono ?_
                    rintro e w5 ⟨v, c5, rfl, j1, j2, hm5⟩
                    unfold frV
                    obtain ⟨w6, hw6⟩ : ∃ y, w5.alloc (.cells #[.int .u8 0, .int .u8 0, .int .u16 0, .int .u32 s.id, .int .u32 (m : Int), .slice v m c5] 72) = y := ⟨_, rfl⟩
                    obtain ⟨rf, hrf⟩ : ∃ y, w5.heap.size = y := ⟨_, rfl⟩
                    have hc6 : Chg none_ w5 w6 := by rw [← hw6]; exact (Chg.refl none_ w5).alloc _
                    have hi6 : Is w6 rf 72 #[.int .u8 0, .int .u8 0, .int .u16 0, .int .u32 s.id, .int .u32 (m : Int), .slice v m c5] := by rw [← hw6, ← hrf]; exact Is.new w5 _ _
                    have HF6 := Lib.hid (j2.grow hc6)
                    have HJ6 := Lib.hid (j1.chg hc6 fun _ _ f => f)
                    have f2 : w6.cell? ⟨rf, 2, none⟩ = some (.int .u16 0) := hi6.at_ 2 _ rfl
                    have f4 : w6.cell? ⟨rf, 4, none⟩ = some (.int .u32 (m : Int)) := hi6.at_ 4 _ rfl
                    have f5 : w6.cell? ⟨rf, 5, none⟩ = some (.slice v m c5) := hi6.at_ 5 _ rfl
                    have z2 : w6.cell? ⟨rc, 2, none⟩ = some (.int .i64 (fr : Int)) := HF6.out.cfg.at_ 2 _ rfl
                    have i5 : (m : Int) ≤ (c5 : Int) := by omega
                    clear hc6 hi6 j1 j2
                    go_wp2_with (at_builtin; refine wpList_append_bytes rfl (.tmp 111) (.tmp 113) rfl rfl HF6.out.ob v m c5 (s.sg.take m) rfl ?hl2 ?hr2 ?hb2 ?hz2 ?_)
                    case hl2 => rw [List.length_take]; have := HM.out.1.2.2.1; omega
                    case hr2 => exact HJ6.out.rd (fun i hi => ints_get (by rw [List.length_take]; have := HM.out.1.2.2.1; omega)) rfl
                    case hb2 =>
                      have e : (bo ++ s.sg).length = bo.length + s.sg.length := List.length_append
                      have := HLen.out; have := HM.out.1.2.2.1; have := HNc.out; omega
                    case hz2 => exact HF6.out.chg.size
                    intro v' w7 h1 h2 h3
                    have t0 : Ob w7 w.heap.size 5 v' (bo.length + m) (u8s (bo ++ s.sg.take m)) := by
                      have e : u8s (bo ++ s.sg.take m) = u8s bo ++ (s.sg.take m).map (Value.int .u8) := List.map_append
                      rw [e, List.map_take]
                      exact h1
                    have t1 : bo.length + m = (bo ++ s.sg.take m).length := by
                      have e : (bo ++ s.sg.take m).length = bo.length + (s.sg.take m).length := List.length_append
                      rw [e, List.length_take]
                      have := HM.out.1.2.2.1
                      omega
                    have hF7 := HF6.out.appb h2 t0 t1 h3
                    obtain ⟨Ab, cb, hvb, _, _⟩ := h1.slice
                    obtain ⟨Aw, cw, hu7, _, _⟩ := HF6.out.ow.slice
                    subst hvb
                    rw [hu7]
                    rw [hu7] at hF7
                    have HF7 := Lib.hid hF7
                    clear h1 h2 h3 t0 t1 hF7 HF6 HJ6
                    have hq1 : ¬ m = s.sg.length := HMS.out
                    have hq2 : ¬ (m : Int) = (s.sg.length : Int) := by omega
                    trace_state
                    go_wp2_with fail
                    go_meet
                    have hk7 : frK s = m := HM.out.2
                    have esg : bo ++ s.sg.take m ++ (frS s).sg = bo ++ s.sg := by show bo ++ s.sg.take m ++ s.sg.drop (frK s) = _; rw [hk7, List.append_assoc, List.take_append_drop]
                    refine ⟨frS s, bo ++ s.sg.take m, by show _ = Value.bool s.cl; rw [HCl.out.1], by show _ = Value.bool (s.lo || frE s); rw [HCl.out.2, HM.out.1.2.2.2.1]; rfl, by rw [HM.out.1.2.2.2.2.1], ?_, ?_⟩
                    · rw [esg]
                      exact Nat.le_trans HLen.out (Nat.mul_le_mul_right _ (Nat.le_succ k))
                    · rw [esg]
                      exact HF7.out
              · as_aux_lemma =>
                  have hcl : s.cl = false := by simpa using hc
                  have hE : frE s = false := by rw [HM.out.1.2.2.2.2.2.2.2, hcl]; rfl
                  clear hc
                  rw [hE, if_neg (by decide)] at HRn
                  rw [hcl]
                  have HCl := Lib.hid (And.intro hcl hE)
                  clear hcl hE
                  go_wp2_with fail
                  refine HRn.out.mono ?_
                  rintro e w5 ⟨v, c5, rfl, j1, j2, hm5⟩
                  unfold frV
                  obtain ⟨w6, hw6⟩ : ∃ y, w5.alloc (.cells #[.int .u8 0, .int .u8 0, .int .u16 0, .int .u32 s.id, .int .u32 (m : Int), .slice v m c5] 72) = y := ⟨_, rfl⟩
                  obtain ⟨rf, hrf⟩ : ∃ y, w5.heap.size = y := ⟨_, rfl⟩
                  have hc6 : Chg none_ w5 w6 := by rw [← hw6]; exact (Chg.refl none_ w5).alloc _
                  have hi6 : Is w6 rf 72 #[.int .u8 0, .int .u8 0, .int .u16 0, .int .u32 s.id, .int .u32 (m : Int), .slice v m c5] := by rw [← hw6, ← hrf]; exact Is.new w5 _ _
                  have HF6 := Lib.hid (j2.grow hc6)
                  have HJ6 := Lib.hid (j1.chg hc6 fun _ _ f => f)
                  have f2 : w6.cell? ⟨rf, 2, none⟩ = some (.int .u16 0) := hi6.at_ 2 _ rfl
                  have f4 : w6.cell? ⟨rf, 4, none⟩ = some (.int .u32 (m : Int)) := hi6.at_ 4 _ rfl
                  have f5 : w6.cell? ⟨rf, 5, none⟩ = some (.slice v m c5) := hi6.at_ 5 _ rfl
                  have z2 : w6.cell? ⟨rc, 2, none⟩ = some (.int .i64 (fr : Int)) := HF6.out.cfg.at_ 2 _ rfl
                  have i5 : (m : Int) ≤ (c5 : Int) := by omega
                  clear hc6 hi6 j1 j2
                  go_wp2_with (at_builtin; refine wpList_append_bytes rfl (.tmp 111) (.tmp 113) rfl rfl HF6.out.ob v m c5 (s.sg.take m) rfl ?hl2 ?hr2 ?hb2 ?hz2 ?_)
                  case hl2 => rw [List.length_take]; have := HM.out.1.2.2.1; omega
                  case hr2 => exact HJ6.out.rd (fun i hi => ints_get (by rw [List.length_take]; have := HM.out.1.2.2.1; omega)) rfl
                  case hb2 =>
                    have e : (bo ++ s.sg).length = bo.length + s.sg.length := List.length_append
                    have := HLen.out; have := HM.out.1.2.2.1; have := HNc.out; omega
                  case hz2 => exact HF6.out.chg.size
                  intro v' w7 h1 h2 h3
                  have t0 : Ob w7 w.heap.size 5 v' (bo.length + m) (u8s (bo ++ s.sg.take m)) := by
                    have e : u8s (bo ++ s.sg.take m) = u8s bo ++ (s.sg.take m).map (Value.int .u8) := List.map_append
                    rw [e, List.map_take]
                    exact h1
                  have t1 : bo.length + m = (bo ++ s.sg.take m).length := by
                    have e : (bo ++ s.sg.take m).length = bo.length + (s.sg.take m).length := List.length_append
                    rw [e, List.length_take]
                    have := HM.out.1.2.2.1
                    omega
                  have hF7 := HF6.out.appb h2 t0 t1 h3
                  obtain ⟨Ab, cb, hvb, _, _⟩ := h1.slice
                  obtain ⟨Aw, cw, hu7, _, _⟩ := HF6.out.ow.slice
                  subst hvb
                  rw [hu7]
                  rw [hu7] at hF7
                  have HF7 := Lib.hid hF7
                  clear h1 h2 h3 t0 t1 hF7 HF6 HJ6
                  go_wp2_with fail
                  go_meet
                  have hk7 : frK s = m := HM.out.2
                  have esg : bo ++ s.sg.take m ++ (frS s).sg = bo ++ s.sg := by show bo ++ s.sg.take m ++ s.sg.drop (frK s) = _; rw [hk7, List.append_assoc, List.take_append_drop]
                  refine ⟨frS s, bo ++ s.sg.take m, by show _ = Value.bool s.cl; rw [HCl.out.1], by show _ = Value.bool (s.lo || frE s); rw [HCl.out.2, HM.out.1.2.2.2.1]; rfl, by rw [HM.out.1.2.2.2.2.1], ?_, ?_⟩
                  · rw [esg]
                    exact Nat.le_trans HLen.out (Nat.mul_le_mul_right _ (Nat.le_succ k))
                  · rw [esg]
                    exact HF7.out
        case rest => as_aux_lemma =>
            obtain ⟨s', bo', rfl, rfl, rfl, hl2, hf2⟩ := hcut
            obtain ⟨Aw, cw, rfl, hw4, _⟩ := hf2.ow.slice
            obtain ⟨Ab, cb, rfl, hb4, _⟩ := hf2.ob.slice
            have HF2 := Lib.hid hf2
            have HL2 := Lib.hid hl2
            obtain ⟨T', p1, p2⟩ := hf2.pst
            have HP2 := Lib.hid p1
            have hse : ((strOfNums bo').toList == (strOfNums bo').toList) = true := by simp
            have h0 := p1.ok.cr.h0
            have h1 := p1.ok.cr.h1
            have h2 := p1.ok.cr.W2
            have hcw := hf2.cw
            have hel : (bo' ++ s'.sg).length = bo'.length + s'.sg.length := List.length_append
            obtain ⟨ns, hns⟩ : ∃ y, s'.sg.length = y := ⟨_, rfl⟩
            have hbk : bo'.length + ns ≤ 140737488355328 := by have := HNc.out; omega
            have htk : (bo' ++ s'.sg).take bo'.length = bo' := List.take_left
            have kb : ∀ u, Chg none_ wc u → ∀ dst, Tryd.prog.underlying dst = some .string → (convert 23 dst (.slice Ab bo'.length cb)).run Tryd.prog u = .ok (.string (strOfNums bo')) u := fun u hu => by
              exact run_str (P := Tryd.prog) (w := u) (c := cb) (n := bo'.length) (A := Ab) (xs := bo') 23 5 Tryd.underlying23 Tryd.underlying5 rfl ((HF2.out.ob.chg hu fun _ _ f => f).rd (fun i hi => ints_get hi) rfl)
            have kw : ∀ u, Chg none_ wc u → ∀ dst, Tryd.prog.underlying dst = some .string → (convert 23 dst (.slice Aw bo'.length cw)).run Tryd.prog u = .ok (.string (strOfNums bo')) u := fun u hu => by
              have hrd : Rd u Aw (bo' ++ s'.sg).length fun i => .int .u8 ((bo' ++ s'.sg).getD i 0) := (HF2.out.ow.chg hu fun _ _ f => f).rd (fun i hi => ints_get hi) rfl
              have h := run_str (P := Tryd.prog) (w := u) (c := cw) (n := bo'.length) (A := Aw) (xs := (bo' ++ s'.sg).take bo'.length) 23 5 Tryd.underlying23 Tryd.underlying5 (by rw [htk]) (rd_take hrd (by rw [hel]; omega))
              rw [htk] at h
              exact h
            have hfld : ∀ (w : World) (x0 x1 x2 x3 x4 x5 x6 x7 x8 x9 x10 : Value), (Instr.field 58 (.agg #[x0, x1, x2, x3, x4, x5, x6, x7, x8, x9, x10]) 4).run Tryd.prog w = .ok x4 w := fun _ _ _ _ _ _ _ _ _ _ _ _ => by kernel_rfl
            rw [hel, hns] at hw4
            obtain ⟨nb, hnb⟩ : ∃ y, bo'.length = y := ⟨_, rfl⟩
            rw [hnb] at kb kw hbk hw4 hb4
            rw [hel, hns, hnb]
            obtain ⟨nw, hnw⟩ : ∃ y, nb + ns = y := ⟨_, rfl⟩
            rw [hnw] at hw4 ⊢
            have hgt : ¬ (nw : Int) < (nb : Int) := by omega
            have hgb : decide ((nw : Int) < (nb : Int)) = false := decide_eq_false hgt
            have hgn : ¬ nw < nb := by omega
            have hgnb : decide (nw < nb) = false := decide_eq_false hgn
            have hcap : (nb : Int) ≤ (cw : Int) := by omega
            have hcapn : nb ≤ cw := by omega
            have hcr : ¬ (W : Int) < s'.cr.h := by omega
            have hcb : decide ((W : Int) < s'.cr.h) = false := decide_eq_false hcr
            have hwr : IntKind.i64.wrap ((nw : Int) - (nb : Int)) = (ns : Int) := by
              have := IntWalk.i64_in ((nw : Int) - (nb : Int)) (by omega)
              omega
            have HNw := Lib.hid hnw
            have z0 : wc.cell? ⟨rc, 0, none⟩ = some (.int .i64 (W : Int)) := HF2.out.cfg.at_ 0 _ rfl
            have HNs := Lib.hid hns
            have HNb := Lib.hid hnb
            have HEl := Lib.hid hel
            clear h0 h1 h2 hcw hel htk hl2 hf2 p1 hns hnb hnw
            go_wp2_with fail
            have KB := Lib.hid kb
            have KW := Lib.hid kw
            clear kb kw
            obtain ⟨q5, q6, q8, hvq⟩ : ∃ q5 q6 q8 : Int, vwV s' = .agg #[.int .u32 s'.id, .int .i64 s'.st, .bool s'.mine, .bool s'.acc, .int .i64 (ns : Int), .int .u32 q5, .int .i64 q6, .int .i64 (s'.un.length : Int), .int .i64 q8, .bool s'.cl, .bool s'.td] := ⟨_, _, _, by unfold vwV; rw [HNs.out]⟩
            have HVq := Lib.hid hvq
            clear hvq
            have HS0 : Hid (wc.drew.cell? ⟨rc, 0, none⟩ = some (.int .i64 (W : Int)) ∧ (∀ dst, Tryd.prog.underlying dst = some .string → (convert 23 dst (.slice Ab nb cb)).run Tryd.prog wc.drew = .ok (.string (strOfNums bo')) wc.drew) ∧ (∀ dst, Tryd.prog.underlying dst = some .string → (convert 23 dst (.slice Aw nb cw)).run Tryd.prog wc.drew = .ok (.string (strOfNums bo')) wc.drew)) := ⟨z0, KB.out _ ((Chg.refl none_ wc).drew), KW.out _ ((Chg.refl none_ wc).drew)⟩
            go_region_held3 (fun u => u.cell? ⟨rc, 0, none⟩ = some (.int .i64 (W : Int)) ∧ (∀ dst, Tryd.prog.underlying dst = some .string → (convert 23 dst (.slice Ab nb cb)).run Tryd.prog u = .ok (.string (strOfNums bo')) u) ∧ (∀ dst, Tryd.prog.underlying dst = some .string → (convert 23 dst (.slice Aw nb cw)).run Tryd.prog u = .ok (.string (strOfNums bo')) u))
              (first | assumption | exact HS0.out)
              (first
                | (go_at_call 20
                   refine (sview_any _ (HP2.out.keep ((Chg.refl none_ wc).drew))).mono ?_
                   rintro e wv ⟨rfl, cv⟩
                   rw [HVq.out]
                   have cv' : Chg none_ wc wv := ((Chg.refl none_ wc).drew).trans cv
                   have zv : wv.cell? ⟨rc, 0, none⟩ = some (.int .i64 (W : Int)) ∧ (∀ dst, Tryd.prog.underlying dst = some .string → (convert 23 dst (.slice Ab nb cb)).run Tryd.prog wv = .ok (.string (strOfNums bo')) wv) ∧ (∀ dst, Tryd.prog.underlying dst = some .string → (convert 23 dst (.slice Aw nb cw)).run Tryd.prog wv = .ok (.string (strOfNums bo')) wv) := ⟨(HF2.out.cfg.chg cv' fun f => f).at_ 0 _ rfl, KB.out _ cv', KW.out _ cv'⟩))
            have HCv := Lib.hid cv'
            clear cv cv' zv
            go_wp2
            go_roundw
            case rel =>
              refine ⟨k + 1, s', bo', by omega, by go_num, rfl, rfl, rfl, HL2.out, ?_⟩
              have h := HF2.out
              rw [HEl.out, HNs.out, HNb.out, HNw.out] at h
              exact h.grow HCv.out
            case measure => simp [intOf]; omega
      · have hkn' : ¬ (k : Int) < (n : Int) := by omega
        go_wp2
        go_ret
        exact ⟨rfl, HF.out.chg.old hB⟩
  · as_aux_lemma =>
      have HK := Lib.hid hk
      clear hk
      go_enter Tryd.func7, Tryd.ntmps7
      go_wp2_with fail
      clear hw0 hrc
      refine (awake10_any w0 (HS.out.below (HC0.out.old hB)) (HT.out.below (HC0.out.old hB)) HC0.out.size).mono ?_
      rintro e w1 ⟨rfl, c1⟩
      have HC1 : Hid (Chg none_ w w1) := HC0.out.trans c1
      have HI1 : Hid (Is w1 rc 43 #[.int .i64 WI, .int .i64 stI, .int .i64 frI, .int .i64 y3, .int .i64 y4, .int .i64 y5, .int .i64 y6, .int .i64 y7]) := HI0.out.chg c1 fun f => f
      have k0 : w1.cell? ⟨rc, 0, none⟩ = some (.int .i64 WI) := HI1.out.at_ 0 _ rfl
      have k1 : w1.cell? ⟨rc, 1, none⟩ = some (.int .i64 stI) := HI1.out.at_ 1 _ rfl
      have k2 : w1.cell? ⟨rc, 2, none⟩ = some (.int .i64 frI) := HI1.out.at_ 2 _ rfl
      have k3 : w1.cell? ⟨rc, 3, none⟩ = some (.int .i64 y3) := HI1.out.at_ 3 _ rfl
      have k4 : w1.cell? ⟨rc, 4, none⟩ = some (.int .i64 y4) := HI1.out.at_ 4 _ rfl
      have k5 : w1.cell? ⟨rc, 5, none⟩ = some (.int .i64 y5) := HI1.out.at_ 5 _ rfl
      have k6 : w1.cell? ⟨rc, 6, none⟩ = some (.int .i64 y6) := HI1.out.at_ 6 _ rfl
      have k7 : w1.cell? ⟨rc, 7, none⟩ = some (.int .i64 y7) := HI1.out.at_ 7 _ rfl
      clear c1
      go_wp2_with fail
      refine (snew_no w1 (HS.out.below (HC1.out.old hB)) HC1.out.size 9 true WI stI frI _ _ _ _ _ (by decide) HK.out).mono ?_
      rintro e w2 ⟨rfl, c2⟩
      have HC2 := Lib.hid (HC1.out.trans c2)
      clear c2
      rw [show errv a 10 = .iface 200 (.pointer (some (a 10))) from rfl]
      go_wp2_with fail
      refine (code_err w2 (HS.out.below (HC2.out.old hB)) 10 (by decide) (by decide)).mono ?_
      rintro e w' ⟨rfl, rfl⟩
      go_wp2
      go_ret
      exact ⟨rfl, HC2.out.old hB⟩
end
end Go.Proofs.YthalmjjbamglgaaDoor
