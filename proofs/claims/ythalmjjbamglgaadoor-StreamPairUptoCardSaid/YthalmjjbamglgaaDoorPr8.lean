/-
  culvertlaw10.finish by contract.
  No condition.
-/
import Derived.Test.YthalmjjbamglgaaDoorPr7
import Derived.Deep.DeepCutAuto
import Derived.Deep.CutBlock
import Derived.Deep.RegionHeld3
import Derived.StillTailTactics
namespace Go.Proofs.YthalmjjbamglgaaDoor
open Go.RowKit
set_option linter.unusedVariables false
set_option linter.unusedSimpArgs false
theorem szMv : (Tryd.prog.info? 105).map (·.size) = some 3 := by kernel_rfl
theorem Pp.back {E0 E1 : World} {X0 X1 : Nat → Prop} {w : World} {L wb : Nat} {q lab : Nat → Nat} {s : Nat → Sm} {W : Nat → Wr} {c : Nat → Nat → Value} (h : Pp E0 X0 w L wb q lab s W c) (hx : ∀ k, X1 k → X0 k ∧ E0.heap[k]? = E1.heap[k]?) : Pp E1 X1 w L wb q lab s W c := ⟨h.im, h.hb, h.st, h.wq, fun k hk => by
  obtain ⟨y1, y2⟩ := hx k hk
  obtain ⟨x1, x2, x3⟩ := h.ex k y1
  exact ⟨x1, x2, x3.trans y2⟩⟩
/-- What is left below direction n. -/
def lf1 (m : Wr) : Nat := m.wrote.length - m.gave.length + m.frames.length + m.grants.length
def lfN (W : Nat → Wr) : Nat → Nat
  | 0 => 0
  | n + 1 => lfN W n + lf1 (W n)
section
variable {B : Nat} {A : Nat → Addr}
set_option maxRecDepth 100000 in
set_option maxHeartbeats 8000000 in
theorem finish_any {E0 : World} {X0 : Nat → Prop} (w : World) {L wb : Nat} {q lab : Nat → Nat} {s : Nat → Sm} {W : Nat → Wr} {c : Nat → Nat → Value} {t : Nat} (h : Pp E0 X0 w L wb q lab s W c) (hs : Sen B A w) (ht : Tab B w) (hBL : B ≤ L) (hLw : L ≤ w.heap.size) (hi : Inv2 s W t) (htb : t ≤ 4000000) (fr : Int) :
    Calls Tryd.prog 47 #[.agg #[.pointer (some ⟨q 0, 0, none⟩), .pointer (some ⟨q 1, 0, none⟩)], .pointer (some ⟨wb, 0, none⟩), .int .i64 fr] w fun e' w' => e' = .returned (.bool true) ∧ Chg (fun k => L ≤ k) w w' := by
  have HS := Lib.hid (And.intro hs (And.intro ht (And.intro hBL hLw)))
  have HI := Lib.hid hi
  have HBw : Hid (B ≤ w.heap.size) := Nat.le_trans hBL hLw
  obtain ⟨w1, hw1⟩ : ∃ y, w.alloc (.cells #[.pointer (some ⟨q 0, 0, none⟩), .pointer (some ⟨q 1, 0, none⟩)] 49) = y := ⟨_, rfl⟩
  have HEb : Hid (Is w1 w.heap.size 49 #[.pointer (some ⟨q 0, 0, none⟩), .pointer (some ⟨q 1, 0, none⟩)]) := by
    show Is _ _ _ _
    rw [← hw1]
    exact Is.new w _ _
  have HC1 : Hid (Chg none_ w w1) := by
    show Chg _ _ _
    rw [← hw1]
    exact (Chg.refl none_ w).alloc _
  have hX : (fun k => X0 k ∨ (w.heap.size ≤ k ∧ k < w1.heap.size)) w.heap.size := .inr ⟨Nat.le_refl _, by rw [← hw1]; simp⟩
  have H1 := Lib.hid (h.boxes HC1.out)
  obtain ⟨X1, hX1⟩ : ∃ y : Nat → Prop, (fun k => X0 k ∨ (w.heap.size ≤ k ∧ k < w1.heap.size)) = y := ⟨_, rfl⟩
  obtain ⟨lab1, hlab1⟩ : ∃ y, relab lab w.heap.size 50 = y := ⟨_, rfl⟩
  rw [hX1] at hX H1
  rw [hlab1] at H1
  have HX := Lib.hid hX
  have HT := Lib.hid htb
  have HLf : Hid (∀ d, d < 2 → (W d).wrote.length ≤ 4398046511104 ∧ (W d).frames.length ≤ 8388608 ∧ (W d).grants.length ≤ 8388608 ∧ (W d).gave.length ≤ (W d).wrote.length) := fun d hd => by
    have h1 := hi.cnt d hd
    have h2 := (hi.dj d hd).fits.1
    have h3 : t * 1048576 ≤ 4000000 * 1048576 := Nat.mul_le_mul_right _ htb
    omega
  clear h hs ht hBL hLw hi htb hX hX1 hlab1
  go_enter Tryd.func47, Tryd.ntmps47
  go_wp2_with fail
  go_loopw [7, 8] (fun x7 x8 wr => ∃ (n : Nat) (s' : Nat → Sm) (W' : Nat → Wr) (lab' : Nat → Nat) (c' : Nat → Nat → Value), n ≤ 2 ∧ x8 = .int .i64 n ∧ x7 = .int .i64 (lfN W n : Nat) ∧ Hid (Fst s W n s' W' ∧ Inv2 s' W' (t + n) ∧ Pp w1 X1 wr L wb q lab' s' W' c') ∧ Chg (fun k => L ≤ k) w wr) (fun _ x8 _ => 2 - (intOf x8).toNat)
  case atStart => exact ⟨0, s, W, _, _, by omega, rfl, rfl, ⟨⟨fun d hd => ⟨rfl, rfl, rfl, rfl⟩, fun d hd h => by omega⟩, HI.out, H1.out⟩, HC1.out.more fun _ _ f => f.elim⟩
  case round =>
    obtain ⟨n, s', W', lab', c', hn, rfl, rfl, hh, hg⟩ := hrel
    have HP := Lib.hid hh.out.2.2
    have HF := Lib.hid hh.out.1
    have HV := Lib.hid hh.out.2.1
    have HG := Lib.hid hg
    clear hh hg
    by_cases hn2 : n < 2
    · have hi2 : (n : Int) < 2 := by omega
      have hi0 : decide ((n : Int) < 0) = false := by simp
      have hi1 : decide (2 ≤ n) = false := by simp; omega
      have HN2 := Lib.hid hn2
      have HPi : Hid (Is wr w.heap.size 49 #[.pointer (some ⟨q 0, 0, none⟩), .pointer (some ⟨q 1, 0, none⟩)]) := HP.out.is HX.out HEb.out
      have HQ := Lib.hid (HP.out.wq n hn2)
      obtain ⟨z0, z1, z2, z3⟩ := HF.out.same n hn2
      obtain ⟨A0, k0, v0, _, _⟩ := HQ.out.wr.slice
      obtain ⟨A1, k1, v1, _, _⟩ := HQ.out.gv.slice
      obtain ⟨A2, k2, v2, _, _⟩ := HQ.out.fr.elim fun _ h => h.2.slice
      obtain ⟨A3, k3, v3, _, _⟩ := HQ.out.gr.slice
      rw [z0] at v0
      rw [z1] at v1
      rw [z2] at v2
      rw [z3] at v3
      obtain ⟨y1, y2, y3, y4⟩ := HLf.out n hn2
      have hlf : lfN W n ≤ 4398063288320 := by
        rcases lt2 hn2 with rfl | rfl
        · exact Nat.zero_le _
        · obtain ⟨y1, y2, y3, y4⟩ := HLf.out 0 (by decide)
          show 0 + lf1 (W 0) ≤ _
          unfold lf1
          omega
      have hlf2 : (lfN W (n + 1) : Int) = (lfN W n : Int) + (((W n).wrote.length : Int) - ((W n).gave.length : Int) + ((W n).frames.length : Int) + ((W n).grants.length : Int)) := by
        show ((lfN W n + lf1 (W n) : Nat) : Int) = _
        unfold lf1
        omega
      have HL2 := Lib.hid hlf2
      have r0 : wr.cell? ⟨wb, n * 6, none⟩ = some (.slice A0 (W n).wrote.length k0) := by
        rw [Nat.mul_comm, ← v0]
        exact HP.out.im.at_ _ _ (wcells_at (j := 0) c' hn2 (by decide))
      have r1 : wr.cell? ⟨wb, n * 6 + 1, none⟩ = some (.slice A1 (W n).gave.length k1) := by
        rw [Nat.mul_comm, ← v1]
        exact HP.out.im.at_ _ _ (wcells_at (j := 1) c' hn2 (by decide))
      have r2 : wr.cell? ⟨wb, n * 6 + 2, none⟩ = some (.slice A2 (W n).frames.length k2) := by
        rw [Nat.mul_comm, ← v2]
        exact HP.out.im.at_ _ _ (wcells_at (j := 2) c' hn2 (by decide))
      have r3 : wr.cell? ⟨wb, n * 6 + 3, none⟩ = some (.slice A3 (W n).grants.length k3) := by
        rw [Nat.mul_comm, ← v3]
        exact HP.out.im.at_ _ _ (wcells_at (j := 3) c' hn2 (by decide))
      clear z0 z1 z2 z3 v0 v1 v2 v3 hlf2
      generalize (W n).wrote.length = a0 at y1 y4 r0 HL2
      generalize (W n).gave.length = a1 at y4 r1 HL2
      generalize (W n).frames.length = a2 at y2 r2 HL2
      generalize (W n).grants.length = a3 at y3 r3 HL2
      generalize lfN W n = ll at hlf HL2 ⊢
      have k1 : IntKind.i64.wrap ((a0 : Int) - (a1 : Int)) = (a0 : Int) - (a1 : Int) := IntWalk.i64_in _ (by omega)
      have k2 : IntKind.i64.wrap ((a0 : Int) - (a1 : Int) + (a2 : Int)) = (a0 : Int) - (a1 : Int) + (a2 : Int) := IntWalk.i64_in _ (by omega)
      have k3 : IntKind.i64.wrap ((a0 : Int) - (a1 : Int) + (a2 : Int) + (a3 : Int)) = (a0 : Int) - (a1 : Int) + (a2 : Int) + (a3 : Int) := IntWalk.i64_in _ (by omega)
      have k4 : IntKind.i64.wrap ((ll : Int) + ((a0 : Int) - (a1 : Int) + (a2 : Int) + (a3 : Int))) = (ll : Int) + ((a0 : Int) - (a1 : Int) + (a2 : Int) + (a3 : Int)) := IntWalk.i64_in _ (by omega)
      clear hlf y1 y2 y3 y4
      go_wp2_with fail
      refine wp_region_still_lit (by kernel_rfl) (by kernel_rfl) ?_
      repeat still_step
      refine wpStill_nil ?_
      change Exit.then _ _ _ _ wr.drew
      clear r0 r1 r2 r3 k1 k2 k3 k4
      rw [← HL2.out]
      obtain ⟨wd, hwd⟩ : ∃ y, wr.drew = y := ⟨_, rfl⟩
      have HCd : Hid (Chg none_ wr wd) := by
        show Chg _ _ _
        rw [← hwd]
        exact (Chg.refl none_ wr).drew
      rw [hwd]
      clear hwd
      have HPd := Lib.hid (HP.out.keep HCd.out)
      have hqn : (#[.pointer (some ⟨q 0, 0, none⟩), .pointer (some ⟨q 1, 0, none⟩)] : Array Value)[n]? = some (.pointer (some ⟨q n, 0, none⟩)) := by rcases lt2 hn2 with rfl | rfl <;> rfl
      have HQn := Lib.hid hqn
      have p0 : wd.cell? ⟨w.heap.size, n, none⟩ = some (.pointer (some ⟨q n, 0, none⟩)) := (HPi.out.chg HCd.out fun f => f).at_ n _ hqn
      clear hqn
      have HGd : Hid (Chg (fun k => L ≤ k) w wd) := HG.out.trans (HCd.out.more fun _ _ f => f.elim)
      have hbel : Below B w wd := HGd.out.below (fun k _ hk => Nat.le_trans HS.out.2.2.1 hk) HBw.out
      have HR : Hid (Run B A wd wd _ (q n) (s' n)) := Run.init (HS.out.1.below hbel) (HS.out.2.1.below hbel) (Nat.le_trans HBw.out HGd.out.size) (HPd.out.st n hn2) (fun k hk => Nat.le_trans HS.out.2.2.1 hk.1)
      clear hbel
      go_wp2_with fail
      refine (run_accept HR.out).mono ?_
      rintro e1 wa ⟨rfl, ra⟩
      have HGa : Hid (Chg (fun k => L ≤ k) w wa) := HGd.out.trans (ra.chg.more fun k _ hk => hk.1)
      have HPa := Lib.hid (HPd.out.ran hn2 (Nat.le_trans HS.out.2.2.2 HGd.out.size) ra)
      have HVa := Lib.hid (HV.out.accept hn2)
      clear ra p0
      obtain ⟨ev, hev⟩ : ∃ y, errv A (acC (s' n)) = y := ⟨_, rfl⟩
      rw [hev]
      clear hev
      go_wp2_with fail
      have HPj : Hid (Is wa w.heap.size 49 #[.pointer (some ⟨q 0, 0, none⟩), .pointer (some ⟨q 1, 0, none⟩)]) := HPa.out.is HX.out HEb.out
      have m1 : IntKind.i64.wrap (1 - (n : Int)) = ((1 - n : Nat) : Int) := (IntWalk.i64_in _ (by omega)).trans (by omega)
      have m2 : IntKind.i64.wrap (10 + (n : Int)) = ((10 + n : Nat) : Int) := (IntWalk.i64_in _ (by omega)).trans (by omega)
      have j0 : decide (((1 - n : Nat) : Int) < 0) = false := by simp
      have j1 : decide (2 ≤ 1 - n) = false := by simp; omega
      have j2 : ((1 - n : Nat) : Int) < 2 := by omega
      have HPe := Lib.hid (HPa.out.keep (Chg.refl none_ wa).drew)
      refine wp_region_held_drew (S := fun u => Is u w.heap.size 49 #[.pointer (some ⟨q 0, 0, none⟩), .pointer (some ⟨q 1, 0, none⟩)]) (by kernel_rfl) (HPe.out.is HX.out HEb.out) (fun hS0 => ?_)
      refine take_at 55 (i := 0) (v := .int .i64 (n : Int)) rfl (by kernel_rfl) (by kernel_rfl) (by kernel_rfl) (by kernel_rfl) (fun _ _ _ h => h) (Or.inl ⟨by kernel_rfl, by intro u hSw; (try dsimp only at hSw); go_simp⟩) (by assumption) ?_
      try simp only [Act.put, List.setIfInBounds_toArray, List.set_cons_zero, List.set_cons_succ]
      refine take_at 56 (i := 1) (v := .pointer (some ⟨w.heap.size, n, none⟩)) rfl (by kernel_rfl) (by kernel_rfl) (by kernel_rfl) (by kernel_rfl) (fun _ _ _ h => h) (Or.inl ⟨by kernel_rfl, by intro u hSw; (try dsimp only at hSw); go_simp⟩) (by assumption) ?_
      try simp only [Act.put, List.setIfInBounds_toArray, List.set_cons_zero, List.set_cons_succ]
      refine take_at 57 (i := 2) (v := .pointer (some ⟨q n, 0, none⟩)) rfl (by kernel_rfl) (by kernel_rfl) (by kernel_rfl) (by kernel_rfl) (fun _ _ _ h => h) (Or.inl ⟨by kernel_rfl, by intro u hSw; have hc := hSw.at_ n _ HQn.out; go_simp⟩) (by assumption) ?_
      try simp only [Act.put, List.setIfInBounds_toArray, List.set_cons_zero, List.set_cons_succ]
      refine take_at 58 (i := 3) (v := .pointer (some ⟨wb, 0, none⟩)) rfl (by kernel_rfl) (by kernel_rfl) (by kernel_rfl) (by kernel_rfl) (fun _ _ _ h => h) (Or.inl ⟨by kernel_rfl, by intro u hSw; (try dsimp only at hSw); go_simp⟩) (by assumption) ?_
      try simp only [Act.put, List.setIfInBounds_toArray, List.set_cons_zero, List.set_cons_succ]
      refine take_at 59 (i := 4) (v := .int .i64 (n : Int)) rfl (by kernel_rfl) (by kernel_rfl) (by kernel_rfl) (by kernel_rfl) (fun _ _ _ h => h) (Or.inl ⟨by kernel_rfl, by intro u hSw; (try dsimp only at hSw); go_simp⟩) (by assumption) ?_
      try simp only [Act.put, List.setIfInBounds_toArray, List.set_cons_zero, List.set_cons_succ]
      refine take_at 60 (i := 5) (v := .pointer (some ⟨wb, 0, none⟩)) rfl (by kernel_rfl) (by kernel_rfl) (by kernel_rfl) (by kernel_rfl) (fun _ _ _ h => h) (Or.inl ⟨by kernel_rfl, by intro u hSw; (try dsimp only at hSw); go_simp⟩) (by assumption) ?_
      try simp only [Act.put, List.setIfInBounds_toArray, List.set_cons_zero, List.set_cons_succ]
      refine take_at 61 (i := 6) (v := .pointer (some ⟨wb, n * 6, none⟩)) rfl (by kernel_rfl) (by kernel_rfl) (by kernel_rfl) (by kernel_rfl) (fun _ _ _ h => h) (Or.inl ⟨by kernel_rfl, by intro u hSw; (try dsimp only at hSw); go_simp⟩) (by assumption) ?_
      try simp only [Act.put, List.setIfInBounds_toArray, List.set_cons_zero, List.set_cons_succ]
      refine take_at 62 (i := 7) (v := .pointer (some ⟨wb, 0, none⟩)) rfl (by kernel_rfl) (by kernel_rfl) (by kernel_rfl) (by kernel_rfl) (fun _ _ _ h => h) (Or.inl ⟨by kernel_rfl, by intro u hSw; (try dsimp only at hSw); go_simp⟩) (by assumption) ?_
      try simp only [Act.put, List.setIfInBounds_toArray, List.set_cons_zero, List.set_cons_succ]
      refine take_at 63 (i := 8) (v := .int .i64 (n : Int)) rfl (by kernel_rfl) (by kernel_rfl) (by kernel_rfl) (by kernel_rfl) (fun _ _ _ h => h) (Or.inl ⟨by kernel_rfl, by intro u hSw; (try dsimp only at hSw); go_simp⟩) (by assumption) ?_
      try simp only [Act.put, List.setIfInBounds_toArray, List.set_cons_zero, List.set_cons_succ]
      refine take_at 64 (i := 9) (v := .int .i64 ((1 - n : Nat) : Int)) rfl (by kernel_rfl) (by kernel_rfl) (by kernel_rfl) (by kernel_rfl) (fun _ _ _ h => h) (Or.inl ⟨by kernel_rfl, by intro u hSw; (try dsimp only at hSw); go_simp⟩) (by assumption) ?_
      try simp only [Act.put, List.setIfInBounds_toArray, List.set_cons_zero, List.set_cons_succ]
      refine take_at 65 (i := 10) (v := .pointer (some ⟨wb, 0, none⟩)) rfl (by kernel_rfl) (by kernel_rfl) (by kernel_rfl) (by kernel_rfl) (fun _ _ _ h => h) (Or.inl ⟨by kernel_rfl, by intro u hSw; (try dsimp only at hSw); go_simp⟩) (by assumption) ?_
      try simp only [Act.put, List.setIfInBounds_toArray, List.set_cons_zero, List.set_cons_succ]
      refine take_at 66 (i := 11) (v := .pointer (some ⟨wb, (1 - n) * 6, none⟩)) rfl (by kernel_rfl) (by kernel_rfl) (by kernel_rfl) (by kernel_rfl) (fun _ _ _ h => h) (Or.inl ⟨by kernel_rfl, by intro u hSw; (try dsimp only at hSw); go_simp⟩) (by assumption) ?_
      try simp only [Act.put, List.setIfInBounds_toArray, List.set_cons_zero, List.set_cons_succ]
      refine take_at 67 (i := 12) (v := .int .i64 (n : Int)) rfl (by kernel_rfl) (by kernel_rfl) (by kernel_rfl) (by kernel_rfl) (fun _ _ _ h => h) (Or.inl ⟨by kernel_rfl, by intro u hSw; (try dsimp only at hSw); go_simp⟩) (by assumption) ?_
      try simp only [Act.put, List.setIfInBounds_toArray, List.set_cons_zero, List.set_cons_succ]
      refine take_at 68 (i := 13) (v := .int .i64 ((10 + n : Nat) : Int)) rfl (by kernel_rfl) (by kernel_rfl) (by kernel_rfl) (by kernel_rfl) (fun _ _ _ h => h) (Or.inl ⟨by kernel_rfl, by intro u hSw; (try dsimp only at hSw); go_simp⟩) (by assumption) ?_
      try simp only [Act.put, List.setIfInBounds_toArray, List.set_cons_zero, List.set_cons_succ]
      refine take_at 69 (i := 14) (v := .agg #[.int .i64 ((10 + n : Nat) : Int), .int .i64 0, .slice none 0 0]) rfl (by kernel_rfl) (by kernel_rfl) (by kernel_rfl) (by kernel_rfl) (fun _ _ _ h => h) (Or.inl ⟨by kernel_rfl, by intro u hSw; (try dsimp only at hSw); go_simp⟩) (by assumption) ?_
      try simp only [Act.put, List.setIfInBounds_toArray, List.set_cons_zero, List.set_cons_succ]
      refine wpAnyH_ready (rs := [15]) (by kernel_rfl) (by simp) ?_
      refine AllReadyH.cons rfl (fun K hK => ?_) AllReadyH.nil
      have hge : Chg (fun k => L ≤ k) w wa.drew := HGa.out.trans (Chg.refl _ wa).drew
      have hbel : Below B w wa.drew := hge.below (fun k _ hk => Nat.le_trans HS.out.2.2.1 hk) HBw.out
      have hcall := user_any HPe.out (HS.out.1.below hbel) (HS.out.2.1.below hbel) HS.out.2.2.1 (Nat.le_trans HS.out.2.2.2 hge.size) hn2 (n * 6) ((1 - n) * 6) (by omega) (by omega) ((10 + n : Nat) : Int) 0 none 0 0 [] rfl (fun z hz => by cases hz) (fun u _ hn => absurd hn (Nat.lt_irrefl 0)) (by decide) (by decide) (by decide) HVa.out (by have := HT.out; omega)
      rw [show ((10 + n : Nat) : Int) / 2 = 5 by omega] at hcall
      have HCall := Lib.hid hcall
      have HGe := Lib.hid hge
      clear hcall hge hbel
      go_simp
      refine HCall.out.mono ?_
      rintro e2 wz ⟨rfl, ⟨lab2, c2, hp2⟩, hg2⟩
      try go_simp
      refine hK.out _ _ (hp2.is HX.out HEb.out) (fun _ => ?_)
      clear hK K
      try simp only [Act.put, List.setIfInBounds_toArray, List.set_cons_zero, List.set_cons_succ]
      refine wpAnyH_done (by kernel_rfl) ?_ _
      have HP2 := Lib.hid hp2
      have HG2 : Hid (Chg (fun k => L ≤ k) w wz) := HGe.out.trans hg2
      clear hp2 hg2 hS0 HCall HGe HPe HPj m1 m2 j0 j1 j2
      go_wp2
      go_roundw
      case rel => exact ⟨n + 1, _, _, _, _, by omega, by go_num, rfl, ⟨HF.out.step hn2 (HV.out.dj n hn2).upa, HVa.out.user HPa.out.ok hn2 5 0 (fun z hz => by cases hz), HP2.out⟩, HG2.out⟩
      case measure => simp [intOf]; omega
    · obtain rfl : n = 2 := by omega
      by_cases hbig : (3000 : Int) < (lfN W 2 : Int)
      · go_wp2
        go_ret
        exact ⟨rfl, HG.out⟩
      have hll : lfN W 2 = lf1 (W 0) + lf1 (W 1) := by
        show 0 + lf1 (W 0) + lf1 (W 1) = _
        omega
      have HL0 : Hid (Lv (s', W')) := ⟨fun d hd => HF.out.on d hd hd, fun d hd => by
        obtain ⟨z0, z1, _, _⟩ := HF.out.same d hd
        show (W' d).wrote.length ≤ (W' d).gave.length + 3000
        rw [z0, z1]
        unfold lf1 at hll
        rcases lt2 hd with rfl | rfl <;> omega⟩
      have HM0 : Hid (mu (s', W') + 0 ≤ 4 * lfN W 2 + 10 ∨ mu (s', W') = 0) := .inl (by
        have h1 := mu_start (st := (s', W')) HV.out
        obtain ⟨a0, a1, a2, a3⟩ := HF.out.same 0 (by decide)
        obtain ⟨b0, b1, b2, b3⟩ := HF.out.same 1 (by decide)
        rw [a0, a1, a2, a3, b0, b1, b2, b3] at h1
        unfold lf1 at hll
        omega)
      obtain ⟨ll, hl⟩ : ∃ y, lfN W 2 = y := ⟨_, rfl⟩
      rw [hl] at HM0 hbig ⊢
      clear hll hl hn hn2
      have hl3 : ll ≤ 3000 := by omega
      have hbig : ¬ (3000 : Int) < (ll : Int) := hbig
      go_wp2_with fail
      have k1 : IntKind.i64.wrap (4 * (ll : Int)) = 4 * (ll : Int) := IntWalk.i64_in _ (by omega)
      have k2 : IntKind.i64.wrap (4 * (ll : Int) + 20) = 4 * (ll : Int) + 20 := IntWalk.i64_in _ (by omega)
      go_loopw [9] (fun x9 wr => ∃ (i : Nat) (st : (Nat → Sm) × (Nat → Wr)) (t' : Nat) (lab' : Nat → Nat) (c' : Nat → Nat → Value), i ≤ 4 * ll + 20 ∧ x9 = .int .i64 i ∧ Hid (Pp w1 X1 wr L wb q lab' st.1 st.2 c' ∧ Inv2 st.1 st.2 t' ∧ Lv st ∧ t' ≤ t + 2 + 16 * i ∧ (mu st + i ≤ 4 * ll + 10 ∨ mu st = 0)) ∧ Chg (fun k => L ≤ k) w wr) (fun x9 _ => 4 * ll + 20 - (intOf x9).toNat)
      case atStart => exact ⟨0, (s', W'), _, _, _, by omega, rfl, ⟨HP.out, HV.out, HL0.out, by omega, HM0.out⟩, HG.out⟩
      case round =>
        obtain ⟨i, st, t', lab', c', hi, rfl, hh, hg⟩ := hrel
        have HH := Lib.hid hh.out
        have HG2 := Lib.hid hg
        clear hh hg HP HF HV HG HL0 HM0
        by_cases hi2 : i < 4 * ll + 20
        · have i2 : (i : Int) < 4 * (ll : Int) + 20 := by omega
          go_wp2_with fail
          go_loopw [10] (fun x10 wr => ∃ (d : Nat) (st' : (Nat → Sm) × (Nat → Wr)) (t' : Nat) (lab' : Nat → Nat) (c' : Nat → Nat → Value), d ≤ 2 ∧ x10 = .int .i64 d ∧ Hid (Pp w1 X1 wr L wb q lab' st'.1 st'.2 c' ∧ Inv2 st'.1 st'.2 t' ∧ Lv st' ∧ t' ≤ t + 2 + 16 * i + 8 * d ∧ Prog st st' (4 * d)) ∧ Chg (fun k => L ≤ k) w wr) (fun x10 _ => 2 - (intOf x10).toNat)
          case atStart => exact ⟨0, st, _, _, _, by omega, rfl, ⟨HH.out.1, HH.out.2.1, HH.out.2.2.1, HH.out.2.2.2.1, Prog.start st⟩, HG2.out⟩
          case round =>
            obtain ⟨d, st', t2, lab2, c2, hd, rfl, hh, hg⟩ := hrel
            have HH2 := Lib.hid hh.out
            have HG3 := Lib.hid hg
            clear hh hg
            by_cases hd2 : d < 2
            · have i3 : (d : Int) < 2 := by omega
              go_wp2_with fail
              go_loopw [11] (fun x11 wr => ∃ (j : Nat) (st' : (Nat → Sm) × (Nat → Wr)) (t' : Nat) (lab' : Nat → Nat) (c' : Nat → Nat → Value), j ≤ 4 ∧ x11 = .int .i64 ((2 + 2 * j : Nat) : Int) ∧ Hid (Pp w1 X1 wr L wb q lab' st'.1 st'.2 c' ∧ Inv2 st'.1 st'.2 t' ∧ Lv st' ∧ t' ≤ t + 2 + 16 * i + 8 * d + 2 * j ∧ Prog st st' (4 * d + j)) ∧ Chg (fun k => L ≤ k) w wr) (fun x11 _ => 10 - (intOf x11).toNat)
              case atStart => exact ⟨0, st', _, _, _, by omega, rfl, HH2.out, HG3.out⟩
              case round =>
                obtain ⟨j, st3, t3, lab3, c3, hj, rfl, hh, hg⟩ := hrel
                have HH3 := Lib.hid hh.out
                have HG4 := Lib.hid hg
                clear hh hg
                by_cases hj2 : j < 4
                · have i4 : ((2 + 2 * j : Nat) : Int) < 10 := by omega
                  have HD2 := Lib.hid (And.intro hd2 hj2)
                  obtain ⟨kk, hkk⟩ : ∃ y : Int, y = 2 + 2 * (j : Int) + (d : Int) := ⟨_, rfl⟩
                  have HKk := Lib.hid hkk
                  clear hkk
                  have hqd : (#[.pointer (some ⟨q 0, 0, none⟩), .pointer (some ⟨q 1, 0, none⟩)] : Array Value)[d]? = some (.pointer (some ⟨q d, 0, none⟩)) := by rcases lt2 hd2 with rfl | rfl <;> rfl
                  have hqe : (#[.pointer (some ⟨q 0, 0, none⟩), .pointer (some ⟨q 1, 0, none⟩)] : Array Value)[1 - d]? = some (.pointer (some ⟨q (1 - d), 0, none⟩)) := by rcases lt2 hd2 with rfl | rfl <;> rfl
                  have HQn := Lib.hid (And.intro hqd hqe)
                  clear hqd hqe
                  obtain ⟨w3, hw3⟩ : ∃ y, wr.alloc (.cells #[.int .i64 kk, .int .i64 1048576, .slice none 0 0] 105) = y := ⟨_, rfl⟩
                  have HC3 : Hid (Chg none_ wr w3) := by
                    show Chg _ _ _
                    rw [← hw3]
                    exact (Chg.refl none_ wr).alloc _
                  have HMb : Hid (Is w3 wr.heap.size 105 #[.int .i64 kk, .int .i64 1048576, .slice none 0 0]) := by
                    show Is _ _ _ _
                    rw [← hw3]
                    exact Is.new wr _ _
                  have hX3 : (fun k => X1 k ∨ (wr.heap.size ≤ k ∧ k < w3.heap.size)) w.heap.size ∧ (fun k => X1 k ∨ (wr.heap.size ≤ k ∧ k < w3.heap.size)) wr.heap.size := ⟨.inl HX.out, .inr ⟨Nat.le_refl _, by rw [← hw3]; simp⟩⟩
                  have hb1 : ∀ k, X1 k → (fun k => X1 k ∨ (wr.heap.size ≤ k ∧ k < w3.heap.size)) k ∧ w3.heap[k]? = w1.heap[k]? := fun k hk => ⟨.inl hk, by
                    obtain ⟨x1, _, x3⟩ := HH3.out.1.ex k hk
                    exact (HC3.out.block k x1 fun f => f).trans x3⟩
                  have H3 := Lib.hid (HH3.out.1.boxes HC3.out)
                  obtain ⟨X3, hX⟩ : ∃ y : Nat → Prop, (fun k => X1 k ∨ (wr.heap.size ≤ k ∧ k < w3.heap.size)) = y := ⟨_, rfl⟩
                  obtain ⟨lab4, hlab4⟩ : ∃ y, relab lab3 wr.heap.size 50 = y := ⟨_, rfl⟩
                  rw [hX] at hX3 hb1 H3
                  rw [hlab4] at H3
                  have HX3 := Lib.hid hX3
                  have HB1 := Lib.hid hb1
                  have HI3 : Hid (Is w3 w.heap.size 49 #[.pointer (some ⟨q 0, 0, none⟩), .pointer (some ⟨q 1, 0, none⟩)]) := (HH3.out.1.is HX.out HEb.out).chg HC3.out fun f => f
                  have HW3 := Lib.hid hw3
                  clear hX3 hb1 hX hlab4 hw3
                  have m0 : IntKind.i64.wrap (2 + 2 * (j : Int) + (d : Int)) = kk := (IntWalk.i64_in _ (by omega)).trans HKk.out.symm
                  have m1 : IntKind.i64.wrap (1 - (d : Int)) = ((1 - d : Nat) : Int) := (IntWalk.i64_in _ (by omega)).trans (by omega)
                  have i0 : decide ((d : Int) < 0) = false := by simp
                  have i1 : decide (2 ≤ d) = false := by simp; omega
                  have j0 : decide (((1 - d : Nat) : Int) < 0) = false := by simp
                  have j1 : decide (2 ≤ 1 - d) = false := by simp; omega
                  have j2 : ((1 - d : Nat) : Int) < 2 := by omega
                  go_wp2_with fail
                  rw [HW3.out]
                  have HPe := Lib.hid (H3.out.keep (Chg.refl none_ w3).drew)
                  refine wp_region_held_drew (S := fun u => Is u w.heap.size 49 #[.pointer (some ⟨q 0, 0, none⟩), .pointer (some ⟨q 1, 0, none⟩)] ∧ Is u wr.heap.size 105 #[.int .i64 kk, .int .i64 1048576, .slice none 0 0]) (by kernel_rfl) ⟨HPe.out.is HX3.out.1 HI3.out, HPe.out.is HX3.out.2 HMb.out⟩ (fun hS0 => ?_)
                  refine take_at 92 (i := 0) (v := .int .i64 (d : Int)) rfl (by kernel_rfl) (by kernel_rfl) (by kernel_rfl) (by kernel_rfl) (fun _ _ _ h => h) (Or.inl ⟨by kernel_rfl, by intro u hSw; (try dsimp only at hSw); go_simp⟩) (by assumption) ?_
                  try simp only [Act.put, List.setIfInBounds_toArray, List.set_cons_zero, List.set_cons_succ]
                  refine take_at 93 (i := 1) (v := .pointer (some ⟨w.heap.size, d, none⟩)) rfl (by kernel_rfl) (by kernel_rfl) (by kernel_rfl) (by kernel_rfl) (fun _ _ _ h => h) (Or.inl ⟨by kernel_rfl, by intro u hSw; (try dsimp only at hSw); go_simp⟩) (by assumption) ?_
                  try simp only [Act.put, List.setIfInBounds_toArray, List.set_cons_zero, List.set_cons_succ]
                  refine take_at 94 (i := 2) (v := .pointer (some ⟨q d, 0, none⟩)) rfl (by kernel_rfl) (by kernel_rfl) (by kernel_rfl) (by kernel_rfl) (fun _ _ _ h => h) (Or.inl ⟨by kernel_rfl, by intro u hSw; have hc := hSw.1.at_ d _ HQn.out.1; go_simp⟩) (by assumption) ?_
                  try simp only [Act.put, List.setIfInBounds_toArray, List.set_cons_zero, List.set_cons_succ]
                  refine take_at 95 (i := 3) (v := .pointer (some ⟨wb, 0, none⟩)) rfl (by kernel_rfl) (by kernel_rfl) (by kernel_rfl) (by kernel_rfl) (fun _ _ _ h => h) (Or.inl ⟨by kernel_rfl, by intro u hSw; (try dsimp only at hSw); go_simp⟩) (by assumption) ?_
                  try simp only [Act.put, List.setIfInBounds_toArray, List.set_cons_zero, List.set_cons_succ]
                  refine take_at 96 (i := 4) (v := .int .i64 (d : Int)) rfl (by kernel_rfl) (by kernel_rfl) (by kernel_rfl) (by kernel_rfl) (fun _ _ _ h => h) (Or.inl ⟨by kernel_rfl, by intro u hSw; (try dsimp only at hSw); go_simp⟩) (by assumption) ?_
                  try simp only [Act.put, List.setIfInBounds_toArray, List.set_cons_zero, List.set_cons_succ]
                  refine take_at 97 (i := 5) (v := .pointer (some ⟨wb, 0, none⟩)) rfl (by kernel_rfl) (by kernel_rfl) (by kernel_rfl) (by kernel_rfl) (fun _ _ _ h => h) (Or.inl ⟨by kernel_rfl, by intro u hSw; (try dsimp only at hSw); go_simp⟩) (by assumption) ?_
                  try simp only [Act.put, List.setIfInBounds_toArray, List.set_cons_zero, List.set_cons_succ]
                  refine take_at 98 (i := 6) (v := .pointer (some ⟨wb, d * 6, none⟩)) rfl (by kernel_rfl) (by kernel_rfl) (by kernel_rfl) (by kernel_rfl) (fun _ _ _ h => h) (Or.inl ⟨by kernel_rfl, by intro u hSw; (try dsimp only at hSw); go_simp⟩) (by assumption) ?_
                  try simp only [Act.put, List.setIfInBounds_toArray, List.set_cons_zero, List.set_cons_succ]
                  refine take_at 99 (i := 7) (v := .pointer (some ⟨wb, 0, none⟩)) rfl (by kernel_rfl) (by kernel_rfl) (by kernel_rfl) (by kernel_rfl) (fun _ _ _ h => h) (Or.inl ⟨by kernel_rfl, by intro u hSw; (try dsimp only at hSw); go_simp⟩) (by assumption) ?_
                  try simp only [Act.put, List.setIfInBounds_toArray, List.set_cons_zero, List.set_cons_succ]
                  refine take_at 100 (i := 8) (v := .int .i64 (d : Int)) rfl (by kernel_rfl) (by kernel_rfl) (by kernel_rfl) (by kernel_rfl) (fun _ _ _ h => h) (Or.inl ⟨by kernel_rfl, by intro u hSw; (try dsimp only at hSw); go_simp⟩) (by assumption) ?_
                  try simp only [Act.put, List.setIfInBounds_toArray, List.set_cons_zero, List.set_cons_succ]
                  refine take_at 101 (i := 9) (v := .int .i64 ((1 - d : Nat) : Int)) rfl (by kernel_rfl) (by kernel_rfl) (by kernel_rfl) (by kernel_rfl) (fun _ _ _ h => h) (Or.inl ⟨by kernel_rfl, by intro u hSw; (try dsimp only at hSw); go_simp⟩) (by assumption) ?_
                  try simp only [Act.put, List.setIfInBounds_toArray, List.set_cons_zero, List.set_cons_succ]
                  refine take_at 102 (i := 10) (v := .pointer (some ⟨wb, 0, none⟩)) rfl (by kernel_rfl) (by kernel_rfl) (by kernel_rfl) (by kernel_rfl) (fun _ _ _ h => h) (Or.inl ⟨by kernel_rfl, by intro u hSw; (try dsimp only at hSw); go_simp⟩) (by assumption) ?_
                  try simp only [Act.put, List.setIfInBounds_toArray, List.set_cons_zero, List.set_cons_succ]
                  refine take_at 103 (i := 11) (v := .pointer (some ⟨wb, (1 - d) * 6, none⟩)) rfl (by kernel_rfl) (by kernel_rfl) (by kernel_rfl) (by kernel_rfl) (fun _ _ _ h => h) (Or.inl ⟨by kernel_rfl, by intro u hSw; (try dsimp only at hSw); go_simp⟩) (by assumption) ?_
                  try simp only [Act.put, List.setIfInBounds_toArray, List.set_cons_zero, List.set_cons_succ]
                  refine take_at 104 (i := 12) (v := .agg #[.int .i64 kk, .int .i64 1048576, .slice none 0 0]) rfl (by kernel_rfl) (by kernel_rfl) (by kernel_rfl) (by kernel_rfl) (fun _ _ _ h => h) (Or.inl ⟨by kernel_rfl, fun u hSw => yields_load_part 105 (.tmp 12) rfl wr.heap.size 0 rfl [.int .i64 kk, .int .i64 1048576, .slice none 0 0] hSw.2 rfl Tryd.underlying105 rfl szMv⟩) (by assumption) ?_
                  try simp only [Act.put, List.setIfInBounds_toArray, List.set_cons_zero, List.set_cons_succ]
                  refine wpAnyH_ready (rs := [13]) (by kernel_rfl) (by simp) ?_
                  refine AllReadyH.cons rfl (fun K hK => ?_) AllReadyH.nil
                  have hge : Chg (fun k => L ≤ k) w w3.drew := (HG4.out.trans (HC3.out.more fun _ _ f => f.elim)).trans (Chg.refl _ w3).drew
                  have hbel : Below B w w3.drew := hge.below (fun k _ hk => Nat.le_trans HS.out.2.2.1 hk) HBw.out
                  have htb : t3 + 1 ≤ 8388608 := by have := HT.out; have := HH3.out.2.2.2.1; omega
                  have hcall := user_any HPe.out (HS.out.1.below hbel) (HS.out.2.1.below hbel) HS.out.2.2.1 (Nat.le_trans HS.out.2.2.2 hge.size) hd2 (d * 6) ((1 - d) * 6) (by omega) (by omega) kk 1048576 none 0 0 [] rfl (fun z hz => by cases hz) (fun u _ hn => absurd hn (Nat.lt_irrefl 0)) (by decide) (by decide) (by decide) HH3.out.2.1 (by omega)
                  have hkd : kk / 2 = (j : Int) + 1 := by rw [HKk.out]; omega
                  rw [hkd] at hcall
                  have HCall := Lib.hid hcall
                  have HGe := Lib.hid hge
                  have HKd := Lib.hid (And.intro hkd htb)
                  clear hcall hge hbel hkd htb
                  go_simp
                  refine HCall.out.mono ?_
                  rintro e2 w4 ⟨rfl, ⟨lab5, c5, hp4⟩, hg4⟩
                  try go_simp
                  have HI4 := Lib.hid (HH3.out.2.1.user HH3.out.1.ok hd2 ((j : Int) + 1) 1048576 (zs := []) (fun z hz => by cases hz))
                  have HP4 := Lib.hid hp4
                  have HG5 : Hid (Chg (fun k => L ≤ k) w w4) := HGe.out.trans hg4
                  have hS1 := And.intro (hp4.is HX3.out.1 HI3.out) (hp4.is HX3.out.2 HMb.out)
                  refine hK.out _ _ hS1 (fun _ => ?_)
                  clear hK K hp4 hg4 HCall hS0
                  try simp only [Act.put, List.setIfInBounds_toArray, List.set_cons_zero, List.set_cons_succ]
                  refine take_at 106 (i := 14) (v := .bool false) rfl (by kernel_rfl) (by kernel_rfl) (by kernel_rfl) (by kernel_rfl) (fun _ _ _ h => h) (Or.inl ⟨by kernel_rfl, by intro u hSw; (try dsimp only at hSw); go_simp⟩) (by assumption) ?_
                  try simp only [Act.put, List.setIfInBounds_toArray, List.set_cons_zero, List.set_cons_succ]
                  refine take_at 107 (i := 15) (v := .bool false) rfl (by kernel_rfl) (by kernel_rfl) (by kernel_rfl) (by kernel_rfl) (fun _ _ _ h => h) (Or.inl ⟨by kernel_rfl, by intro u hSw; (try dsimp only at hSw); go_simp⟩) (by assumption) ?_
                  try simp only [Act.put, List.setIfInBounds_toArray, List.set_cons_zero, List.set_cons_succ]
                  refine take_at 108 (i := 16) (v := .int .i64 (d : Int)) rfl (by kernel_rfl) (by kernel_rfl) (by kernel_rfl) (by kernel_rfl) (fun _ _ _ h => h) (Or.inl ⟨by kernel_rfl, by intro u hSw; (try dsimp only at hSw); go_simp⟩) (by assumption) ?_
                  try simp only [Act.put, List.setIfInBounds_toArray, List.set_cons_zero, List.set_cons_succ]
                  refine take_at 109 (i := 17) (v := .pointer (some ⟨w.heap.size, d, none⟩)) rfl (by kernel_rfl) (by kernel_rfl) (by kernel_rfl) (by kernel_rfl) (fun _ _ _ h => h) (Or.inl ⟨by kernel_rfl, by intro u hSw; (try dsimp only at hSw); go_simp⟩) (by assumption) ?_
                  try simp only [Act.put, List.setIfInBounds_toArray, List.set_cons_zero, List.set_cons_succ]
                  refine take_at 110 (i := 18) (v := .pointer (some ⟨q d, 0, none⟩)) rfl (by kernel_rfl) (by kernel_rfl) (by kernel_rfl) (by kernel_rfl) (fun _ _ _ h => h) (Or.inl ⟨by kernel_rfl, by intro u hSw; have hc := hSw.1.at_ d _ HQn.out.1; go_simp⟩) (by assumption) ?_
                  try simp only [Act.put, List.setIfInBounds_toArray, List.set_cons_zero, List.set_cons_succ]
                  refine take_at 111 (i := 19) (v := .int .i64 (d : Int)) rfl (by kernel_rfl) (by kernel_rfl) (by kernel_rfl) (by kernel_rfl) (fun _ _ _ h => h) (Or.inl ⟨by kernel_rfl, by intro u hSw; (try dsimp only at hSw); go_simp⟩) (by assumption) ?_
                  try simp only [Act.put, List.setIfInBounds_toArray, List.set_cons_zero, List.set_cons_succ]
                  refine take_at 112 (i := 20) (v := .int .i64 ((1 - d : Nat) : Int)) rfl (by kernel_rfl) (by kernel_rfl) (by kernel_rfl) (by kernel_rfl) (fun _ _ _ h => h) (Or.inl ⟨by kernel_rfl, by intro u hSw; (try dsimp only at hSw); go_simp⟩) (by assumption) ?_
                  try simp only [Act.put, List.setIfInBounds_toArray, List.set_cons_zero, List.set_cons_succ]
                  refine take_at 113 (i := 21) (v := .pointer (some ⟨w.heap.size, 1 - d, none⟩)) rfl (by kernel_rfl) (by kernel_rfl) (by kernel_rfl) (by kernel_rfl) (fun _ _ _ h => h) (Or.inl ⟨by kernel_rfl, by intro u hSw; (try dsimp only at hSw); go_simp⟩) (by assumption) ?_
                  try simp only [Act.put, List.setIfInBounds_toArray, List.set_cons_zero, List.set_cons_succ]
                  refine take_at 114 (i := 22) (v := .pointer (some ⟨q (1 - d), 0, none⟩)) rfl (by kernel_rfl) (by kernel_rfl) (by kernel_rfl) (by kernel_rfl) (fun _ _ _ h => h) (Or.inl ⟨by kernel_rfl, by intro u hSw; have hc := hSw.1.at_ (1 - d) _ HQn.out.2; go_simp⟩) (by assumption) ?_
                  try simp only [Act.put, List.setIfInBounds_toArray, List.set_cons_zero, List.set_cons_succ]
                  refine take_at 115 (i := 23) (v := .pointer (some ⟨wb, 0, none⟩)) rfl (by kernel_rfl) (by kernel_rfl) (by kernel_rfl) (by kernel_rfl) (fun _ _ _ h => h) (Or.inl ⟨by kernel_rfl, by intro u hSw; (try dsimp only at hSw); go_simp⟩) (by assumption) ?_
                  try simp only [Act.put, List.setIfInBounds_toArray, List.set_cons_zero, List.set_cons_succ]
                  refine take_at 116 (i := 24) (v := .int .i64 (d : Int)) rfl (by kernel_rfl) (by kernel_rfl) (by kernel_rfl) (by kernel_rfl) (fun _ _ _ h => h) (Or.inl ⟨by kernel_rfl, by intro u hSw; (try dsimp only at hSw); go_simp⟩) (by assumption) ?_
                  try simp only [Act.put, List.setIfInBounds_toArray, List.set_cons_zero, List.set_cons_succ]
                  refine take_at 117 (i := 25) (v := .pointer (some ⟨wb, 0, none⟩)) rfl (by kernel_rfl) (by kernel_rfl) (by kernel_rfl) (by kernel_rfl) (fun _ _ _ h => h) (Or.inl ⟨by kernel_rfl, by intro u hSw; (try dsimp only at hSw); go_simp⟩) (by assumption) ?_
                  try simp only [Act.put, List.setIfInBounds_toArray, List.set_cons_zero, List.set_cons_succ]
                  refine take_at 118 (i := 26) (v := .pointer (some ⟨wb, d * 6, none⟩)) rfl (by kernel_rfl) (by kernel_rfl) (by kernel_rfl) (by kernel_rfl) (fun _ _ _ h => h) (Or.inl ⟨by kernel_rfl, by intro u hSw; (try dsimp only at hSw); go_simp⟩) (by assumption) ?_
                  try simp only [Act.put, List.setIfInBounds_toArray, List.set_cons_zero, List.set_cons_succ]
                  refine take_at 119 (i := 27) (v := .agg #[.int .i64 kk, .int .i64 1048576, .slice none 0 0]) rfl (by kernel_rfl) (by kernel_rfl) (by kernel_rfl) (by kernel_rfl) (fun _ _ _ h => h) (Or.inl ⟨by kernel_rfl, fun u hSw => yields_load_part 105 (.tmp 12) rfl wr.heap.size 0 rfl [.int .i64 kk, .int .i64 1048576, .slice none 0 0] hSw.2 rfl Tryd.underlying105 rfl szMv⟩) (by assumption) ?_
                  try simp only [Act.put, List.setIfInBounds_toArray, List.set_cons_zero, List.set_cons_succ]
                  refine wpAnyH_ready (rs := [28]) (by kernel_rfl) (by simp) ?_
                  refine AllReadyH.cons rfl (fun K hK => ?_) AllReadyH.nil
                  have hbel : Below B w w4 := HG5.out.below (fun k _ hk => Nat.le_trans HS.out.2.2.1 hk) HBw.out
                  have hcall := carry_any HP4.out (HS.out.1.below hbel) (HS.out.2.1.below hbel) HS.out.2.2.1 (Nat.le_trans HS.out.2.2.2 HG5.out.size) hd2 (d * 6) (by omega) kk 1048576 none 0 0 HI4.out HKd.out.2
                  rw [HKd.out.1] at hcall
                  have HCall := Lib.hid hcall
                  clear hcall hbel
                  go_simp
                  refine HCall.out.mono ?_
                  rintro e2 w5 ⟨rfl, ⟨lab6, c6, hp5⟩, hg5⟩
                  try go_simp
                  have HP5 := Lib.hid hp5
                  have HG6 : Hid (Chg (fun k => L ≤ k) w w5) := HG5.out.trans hg5
                  have hS2 := And.intro (hp5.is HX3.out.1 HI3.out) (hp5.is HX3.out.2 HMb.out)
                  refine hK.out _ _ hS2 (fun _ => ?_)
                  clear hK K hp5 hg5 HCall hS1
                  try simp only [Act.put, List.setIfInBounds_toArray, List.set_cons_zero, List.set_cons_succ]
                  refine take_at 121 (i := 29) (v := .bool false) rfl (by kernel_rfl) (by kernel_rfl) (by kernel_rfl) (by kernel_rfl) (fun _ _ _ h => h) (Or.inl ⟨by kernel_rfl, by intro u hSw; (try dsimp only at hSw); go_simp⟩) (by assumption) ?_
                  try simp only [Act.put, List.setIfInBounds_toArray, List.set_cons_zero, List.set_cons_succ]
                  refine take_at 122 (i := 30) (v := .bool false) rfl (by kernel_rfl) (by kernel_rfl) (by kernel_rfl) (by kernel_rfl) (fun _ _ _ h => h) (Or.inl ⟨by kernel_rfl, by intro u hSw; (try dsimp only at hSw); go_simp⟩) (by assumption) ?_
                  try simp only [Act.put, List.setIfInBounds_toArray, List.set_cons_zero, List.set_cons_succ]
                  refine wpAnyH_done (by kernel_rfl) ?_ _
                  clear hS2 m0 m1 i0 i1 j0 j1 j2
                  go_wp2
                  go_roundw
                  case rel =>
                    have hg := mv_good HH3.out.2.1 HH3.out.1.ok HH3.out.2.2.1 hd2 hj2
                    exact ⟨j + 1, mvS ((j : Int) + 1) d st3, t3 + 2, lab6, c6, by omega, by go_num, ⟨HP5.out.back HB1.out, HI4.out.carry HP4.out.ok hd2 ((j : Int) + 1), hg.1, by have := HH3.out.2.2.2.1; omega, HH3.out.2.2.2.2.step hj2 hg⟩, HG6.out⟩
                  case measure => simp [intOf]; omega
                · obtain rfl : j = 4 := by omega
                  go_wp2_with fail
                  go_roundw
                  case rel => exact ⟨d + 1, st3, t3, lab3, c3, by omega, by go_num, ⟨HH3.out.1, HH3.out.2.1, HH3.out.2.2.1, by have := HH3.out.2.2.2.1; omega, HH3.out.2.2.2.2⟩, HG4.out⟩
                  case measure => simp [intOf]; omega
            · obtain rfl : d = 2 := by omega
              go_wp2_with fail
              go_roundw
              case rel => exact ⟨i + 1, st', t2, lab2, c2, by omega, by go_num, ⟨HH2.out.1, HH2.out.2.1, HH2.out.2.2.1, by have := HH2.out.2.2.2.1; omega, by
                have h1 := HH2.out.2.2.2.2.fin HH.out.2.1 HH.out.1.ok HH.out.2.2.1
                have h2 := HH2.out.2.2.2.2.1
                have h3 := HH.out.2.2.2.2
                omega⟩, HG3.out⟩
              case measure => simp [intOf]; omega
        · obtain rfl : i = 4 * ll + 20 := by omega
          have HZ : Hid (mu st = 0) := by
            have h3 := HH.out.2.2.2.2
            show _ = _
            omega
          have i2 : ¬ (((4 * ll + 20 : Nat) : Int) < 4 * (ll : Int) + 20) := by omega
          go_wp2_with fail
          go_loopw [13] (fun x13 w' => ∃ d : Nat, d ≤ 2 ∧ x13 = .int .i64 d ∧ Hid (Pp w1 X1 w' L wb q lab' st.1 st.2 c') ∧ Chg (fun k => L ≤ k) w w') (fun x13 _ => 2 - (intOf x13).toNat)
          case atStart => exact ⟨0, by omega, rfl, HH.out.1, HG2.out⟩
          case round =>
            obtain ⟨d, hd, rfl, hh, hg⟩ := hrel
            have HPf := Lib.hid hh.out
            have HGf := Lib.hid hg
            clear hh hg
            by_cases hd2 : d < 2
            · have i3 : (d : Int) < 2 := by omega
              have HMz := Lib.hid (mu_zero HH.out.2.1 HZ.out hd2)
              have HQ := Lib.hid (HPf.out.wq d hd2)
              obtain ⟨A0, k0, v0, _, _⟩ := HQ.out.wr.slice
              obtain ⟨A1, k1, v1, _, _⟩ := HQ.out.gv.slice
              obtain ⟨xs, hxs⟩ : ∃ y, (st.2 d).wrote = y := ⟨_, rfl⟩
              obtain ⟨N, hN⟩ : ∃ y, xs.length = y := ⟨_, rfl⟩
              rw [HMz.out.2.1, hxs, hN] at v1
              rw [hxs, hN] at v0
              have HF5 : Hid (∀ u, Chg none_ wr u → u.cell? ⟨wb, d * 6 + 5, none⟩ = some (.bool true)) := fun u hu => by
                rw [Nat.mul_comm, ← HMz.out.1, ← HQ.out.en]
                exact (HPf.out.im.chg hu fun f => f).at_ _ _ (wcells_at (j := 5) c' hd2 (by decide))
              have HF1 : Hid (∀ u, Chg none_ wr u → u.cell? ⟨wb, d * 6 + 1, none⟩ = some (.slice A1 N k1)) := fun u hu => by
                rw [Nat.mul_comm, ← v1]
                exact (HPf.out.im.chg hu fun f => f).at_ _ _ (wcells_at (j := 1) c' hd2 (by decide))
              have HF0 : Hid (∀ u, Chg none_ wr u → u.cell? ⟨wb, d * 6, none⟩ = some (.slice A0 N k0)) := fun u hu => by
                rw [Nat.mul_comm, ← v0]
                exact (HPf.out.im.chg hu fun f => f).at_ _ _ (wcells_at (j := 0) c' hd2 (by decide))
              have HFq : Hid (∀ u, Chg none_ wr u → u.cell? ⟨w.heap.size, d, none⟩ = some (.pointer (some ⟨q d, 0, none⟩))) := fun u hu => by
                exact ((HPf.out.is HX.out HEb.out).chg hu fun f => f).at_ d _ (by rcases lt2 hd2 with rfl | rfl <;> rfl)
              obtain ⟨sx, hsx⟩ : ∃ y, strOfNums xs = y := ⟨_, rfl⟩
              have HK1 : Hid (∀ u, Chg none_ wr u → (convert 23 9 (.slice A1 N k1)).run Tryd.prog u = .ok (.string sx) u) := fun u hu => by
                have h1 := HQ.out.gv.chg hu (fun _ _ f => f)
                rw [v1, HMz.out.2.1, hxs, hN] at h1
                rw [← hsx]
                exact run_str (P := Tryd.prog) (c := k1) 23 5 Tryd.underlying23 Tryd.underlying5 hN (h1.rd (fun i hi => by unfold u8s; rw [List.getElem?_map, List.getD_eq_getElem?_getD, List.getElem?_eq_getElem (show i < xs.length by omega)]; rfl) rfl) 9 Tryd.underlying9
              have HK0 : Hid (∀ u, Chg none_ wr u → (convert 23 9 (.slice A0 N k0)).run Tryd.prog u = .ok (.string sx) u) := fun u hu => by
                have h1 := HQ.out.wr.chg hu (fun _ _ f => f)
                rw [v0, hxs, hN] at h1
                rw [← hsx]
                exact run_str (P := Tryd.prog) (c := k0) 23 5 Tryd.underlying23 Tryd.underlying5 hN (h1.rd (fun i hi => by unfold u8s; rw [List.getElem?_map, List.getD_eq_getElem?_getD, List.getElem?_eq_getElem (show i < xs.length by omega)]; rfl) rfl) 9 Tryd.underlying9
              have hup := (HH.out.2.1.dj d hd2).upa
              have hquB : quB (st.1 d) = true := by
                obtain ⟨_, _, _, _, e5, e6, _⟩ := HMz.out
                unfold quB
                rw [hup.1, e5, e6]
                rfl
              have hdnB : dnB (st.1 d) = true := by
                obtain ⟨_, _, _, _, _, _, e7⟩ := HMz.out
                unfold dnB
                rw [hup.1, hup.2, hquB, e7]
                rfl
              have HCq : Hid (∀ u, Chg none_ wr u → Calls Tryd.prog 54 #[.pointer (some ⟨q d, 0, none⟩)] u fun e u' => e = .returned (.bool true) ∧ Chg none_ wr u') := fun u hu => by
                refine (squiet_any u ((HPf.out.st d hd2).keep hu)).mono ?_
                rintro e u' ⟨rfl, rfl⟩
                rw [hquB]
                exact ⟨rfl, hu⟩
              have HCd : Hid (∀ u, Chg none_ wr u → Calls Tryd.prog 55 #[.pointer (some ⟨q d, 0, none⟩)] u fun e u' => e = .returned (.bool true) ∧ Chg none_ wr u') := fun u hu => by
                refine (sdone_any u ((HPf.out.st d hd2).keep hu)).mono ?_
                rintro e u' ⟨rfl, rfl⟩
                rw [hdnB]
                exact ⟨rfl, hu⟩
              have HCh : Hid (∀ u, Chg none_ wr u → Calls Tryd.prog 57 #[.pointer (some ⟨q d, 0, none⟩)] u fun e u' => e = .returned (.int .i64 0) ∧ Chg none_ wr u') := fun u hu => by
                obtain ⟨_, _, e3, e4, _⟩ := HMz.out
                refine (sheld_any u ((HPf.out.st d hd2).keep hu)).mono ?_
                rintro e u' ⟨rfl, hc⟩
                rw [e3, e4]
                exact ⟨rfl, hu.trans hc⟩
              have i0 : decide ((d : Int) < 0) = false := by simp
              have i1 : decide (2 ≤ d) = false := by simp; omega
              clear v0 v1 hxs hN hsx hup hquB hdnB
              go_wp2_with fail
              refine wp_region_held_drew (S := fun u => Chg none_ wr u) (by kernel_rfl) ((Chg.refl none_ wr).drew) (fun hS0 => ?_)
              refine take_at 127 (i := 0) (v := .pointer (some ⟨wb, 0, none⟩)) rfl (by kernel_rfl) (by kernel_rfl) (by kernel_rfl) (by kernel_rfl) (fun _ _ _ h => h) (Or.inl ⟨by kernel_rfl, by intro u hSw; (try dsimp only at hSw); go_simp⟩) (by assumption) ?_
              try simp only [Act.put, List.setIfInBounds_toArray, List.set_cons_zero, List.set_cons_succ]
              refine take_at 128 (i := 1) (v := .int .i64 (d : Int)) rfl (by kernel_rfl) (by kernel_rfl) (by kernel_rfl) (by kernel_rfl) (fun _ _ _ h => h) (Or.inl ⟨by kernel_rfl, by intro u hSw; (try dsimp only at hSw); go_simp⟩) (by assumption) ?_
              try simp only [Act.put, List.setIfInBounds_toArray, List.set_cons_zero, List.set_cons_succ]
              refine take_at 129 (i := 2) (v := .pointer (some ⟨wb, 0, none⟩)) rfl (by kernel_rfl) (by kernel_rfl) (by kernel_rfl) (by kernel_rfl) (fun _ _ _ h => h) (Or.inl ⟨by kernel_rfl, by intro u hSw; (try dsimp only at hSw); go_simp⟩) (by assumption) ?_
              try simp only [Act.put, List.setIfInBounds_toArray, List.set_cons_zero, List.set_cons_succ]
              refine take_at 130 (i := 3) (v := .pointer (some ⟨wb, d * 6, none⟩)) rfl (by kernel_rfl) (by kernel_rfl) (by kernel_rfl) (by kernel_rfl) (fun _ _ _ h => h) (Or.inl ⟨by kernel_rfl, by intro u hSw; (try dsimp only at hSw); go_simp⟩) (by assumption) ?_
              try simp only [Act.put, List.setIfInBounds_toArray, List.set_cons_zero, List.set_cons_succ]
              refine take_at 131 (i := 4) (v := .pointer (some ⟨wb, d * 6 + 5, none⟩)) rfl (by kernel_rfl) (by kernel_rfl) (by kernel_rfl) (by kernel_rfl) (fun _ _ _ h => h) (Or.inl ⟨by kernel_rfl, by intro u hSw; (try dsimp only at hSw); go_simp⟩) (by assumption) ?_
              try simp only [Act.put, List.setIfInBounds_toArray, List.set_cons_zero, List.set_cons_succ]
              refine take_at 132 (i := 5) (v := .bool true) rfl (by kernel_rfl) (by kernel_rfl) (by kernel_rfl) (by kernel_rfl) (fun _ _ _ h => h) (Or.inl ⟨by kernel_rfl, by intro u hSw; have hc := HF5.out u hSw; go_simp⟩) (by assumption) ?_
              try simp only [Act.put, List.setIfInBounds_toArray, List.set_cons_zero, List.set_cons_succ]
              refine take_at 133 (i := 6) (v := .bool false) rfl (by kernel_rfl) (by kernel_rfl) (by kernel_rfl) (by kernel_rfl) (fun _ _ _ h => h) (Or.inl ⟨by kernel_rfl, by intro u hSw; (try dsimp only at hSw); go_simp⟩) (by assumption) ?_
              try simp only [Act.put, List.setIfInBounds_toArray, List.set_cons_zero, List.set_cons_succ]
              refine take_at 134 (i := 7) (v := .bool false) rfl (by kernel_rfl) (by kernel_rfl) (by kernel_rfl) (by kernel_rfl) (fun _ _ _ h => h) (Or.inl ⟨by kernel_rfl, by intro u hSw; (try dsimp only at hSw); go_simp⟩) (by assumption) ?_
              try simp only [Act.put, List.setIfInBounds_toArray, List.set_cons_zero, List.set_cons_succ]
              refine take_at 135 (i := 8) (v := .pointer (some ⟨wb, 0, none⟩)) rfl (by kernel_rfl) (by kernel_rfl) (by kernel_rfl) (by kernel_rfl) (fun _ _ _ h => h) (Or.inl ⟨by kernel_rfl, by intro u hSw; (try dsimp only at hSw); go_simp⟩) (by assumption) ?_
              try simp only [Act.put, List.setIfInBounds_toArray, List.set_cons_zero, List.set_cons_succ]
              refine take_at 136 (i := 9) (v := .int .i64 (d : Int)) rfl (by kernel_rfl) (by kernel_rfl) (by kernel_rfl) (by kernel_rfl) (fun _ _ _ h => h) (Or.inl ⟨by kernel_rfl, by intro u hSw; (try dsimp only at hSw); go_simp⟩) (by assumption) ?_
              try simp only [Act.put, List.setIfInBounds_toArray, List.set_cons_zero, List.set_cons_succ]
              refine take_at 137 (i := 10) (v := .pointer (some ⟨wb, 0, none⟩)) rfl (by kernel_rfl) (by kernel_rfl) (by kernel_rfl) (by kernel_rfl) (fun _ _ _ h => h) (Or.inl ⟨by kernel_rfl, by intro u hSw; (try dsimp only at hSw); go_simp⟩) (by assumption) ?_
              try simp only [Act.put, List.setIfInBounds_toArray, List.set_cons_zero, List.set_cons_succ]
              refine take_at 138 (i := 11) (v := .pointer (some ⟨wb, d * 6, none⟩)) rfl (by kernel_rfl) (by kernel_rfl) (by kernel_rfl) (by kernel_rfl) (fun _ _ _ h => h) (Or.inl ⟨by kernel_rfl, by intro u hSw; (try dsimp only at hSw); go_simp⟩) (by assumption) ?_
              try simp only [Act.put, List.setIfInBounds_toArray, List.set_cons_zero, List.set_cons_succ]
              refine take_at 139 (i := 12) (v := .pointer (some ⟨wb, d * 6 + 1, none⟩)) rfl (by kernel_rfl) (by kernel_rfl) (by kernel_rfl) (by kernel_rfl) (fun _ _ _ h => h) (Or.inl ⟨by kernel_rfl, by intro u hSw; (try dsimp only at hSw); go_simp⟩) (by assumption) ?_
              try simp only [Act.put, List.setIfInBounds_toArray, List.set_cons_zero, List.set_cons_succ]
              refine take_at 140 (i := 13) (v := .slice A1 N k1) rfl (by kernel_rfl) (by kernel_rfl) (by kernel_rfl) (by kernel_rfl) (fun _ _ _ h => h) (Or.inl ⟨by kernel_rfl, by intro u hSw; have hc := HF1.out u hSw; go_simp⟩) (by assumption) ?_
              try simp only [Act.put, List.setIfInBounds_toArray, List.set_cons_zero, List.set_cons_succ]
              refine take_at 141 (i := 14) (v := .string sx) rfl (by kernel_rfl) (by kernel_rfl) (by kernel_rfl) (by kernel_rfl) (fun _ _ _ h => h) (Or.inl ⟨by kernel_rfl, by intro u hSw; have hc := HK1.out u hSw; go_simp⟩) (by assumption) ?_
              try simp only [Act.put, List.setIfInBounds_toArray, List.set_cons_zero, List.set_cons_succ]
              refine take_at 142 (i := 15) (v := .pointer (some ⟨wb, 0, none⟩)) rfl (by kernel_rfl) (by kernel_rfl) (by kernel_rfl) (by kernel_rfl) (fun _ _ _ h => h) (Or.inl ⟨by kernel_rfl, by intro u hSw; (try dsimp only at hSw); go_simp⟩) (by assumption) ?_
              try simp only [Act.put, List.setIfInBounds_toArray, List.set_cons_zero, List.set_cons_succ]
              refine take_at 143 (i := 16) (v := .int .i64 (d : Int)) rfl (by kernel_rfl) (by kernel_rfl) (by kernel_rfl) (by kernel_rfl) (fun _ _ _ h => h) (Or.inl ⟨by kernel_rfl, by intro u hSw; (try dsimp only at hSw); go_simp⟩) (by assumption) ?_
              try simp only [Act.put, List.setIfInBounds_toArray, List.set_cons_zero, List.set_cons_succ]
              refine take_at 144 (i := 17) (v := .pointer (some ⟨wb, 0, none⟩)) rfl (by kernel_rfl) (by kernel_rfl) (by kernel_rfl) (by kernel_rfl) (fun _ _ _ h => h) (Or.inl ⟨by kernel_rfl, by intro u hSw; (try dsimp only at hSw); go_simp⟩) (by assumption) ?_
              try simp only [Act.put, List.setIfInBounds_toArray, List.set_cons_zero, List.set_cons_succ]
              refine take_at 145 (i := 18) (v := .pointer (some ⟨wb, d * 6, none⟩)) rfl (by kernel_rfl) (by kernel_rfl) (by kernel_rfl) (by kernel_rfl) (fun _ _ _ h => h) (Or.inl ⟨by kernel_rfl, by intro u hSw; (try dsimp only at hSw); go_simp⟩) (by assumption) ?_
              try simp only [Act.put, List.setIfInBounds_toArray, List.set_cons_zero, List.set_cons_succ]
              refine take_at 146 (i := 19) (v := .pointer (some ⟨wb, d * 6, none⟩)) rfl (by kernel_rfl) (by kernel_rfl) (by kernel_rfl) (by kernel_rfl) (fun _ _ _ h => h) (Or.inl ⟨by kernel_rfl, by intro u hSw; (try dsimp only at hSw); go_simp⟩) (by assumption) ?_
              try simp only [Act.put, List.setIfInBounds_toArray, List.set_cons_zero, List.set_cons_succ]
              refine take_at 147 (i := 20) (v := .slice A0 N k0) rfl (by kernel_rfl) (by kernel_rfl) (by kernel_rfl) (by kernel_rfl) (fun _ _ _ h => h) (Or.inl ⟨by kernel_rfl, by intro u hSw; have hc := HF0.out u hSw; go_simp⟩) (by assumption) ?_
              try simp only [Act.put, List.setIfInBounds_toArray, List.set_cons_zero, List.set_cons_succ]
              refine take_at 148 (i := 21) (v := .string sx) rfl (by kernel_rfl) (by kernel_rfl) (by kernel_rfl) (by kernel_rfl) (fun _ _ _ h => h) (Or.inl ⟨by kernel_rfl, by intro u hSw; have hc := HK0.out u hSw; go_simp⟩) (by assumption) ?_
              try simp only [Act.put, List.setIfInBounds_toArray, List.set_cons_zero, List.set_cons_succ]
              refine take_at 149 (i := 22) (v := .bool false) rfl (by kernel_rfl) (by kernel_rfl) (by kernel_rfl) (by kernel_rfl) (fun _ _ _ h => h) (Or.inl ⟨by kernel_rfl, by intro u hSw; (try dsimp only at hSw); go_simp⟩) (by assumption) ?_
              try simp only [Act.put, List.setIfInBounds_toArray, List.set_cons_zero, List.set_cons_succ]
              refine take_at 150 (i := 23) (v := .bool false) rfl (by kernel_rfl) (by kernel_rfl) (by kernel_rfl) (by kernel_rfl) (fun _ _ _ h => h) (Or.inl ⟨by kernel_rfl, by intro u hSw; (try dsimp only at hSw); go_simp⟩) (by assumption) ?_
              try simp only [Act.put, List.setIfInBounds_toArray, List.set_cons_zero, List.set_cons_succ]
              refine take_at 151 (i := 24) (v := .bool false) rfl (by kernel_rfl) (by kernel_rfl) (by kernel_rfl) (by kernel_rfl) (fun _ _ _ h => h) (Or.inl ⟨by kernel_rfl, by intro u hSw; (try dsimp only at hSw); go_simp⟩) (by assumption) ?_
              try simp only [Act.put, List.setIfInBounds_toArray, List.set_cons_zero, List.set_cons_succ]
              refine take_at 152 (i := 25) (v := .int .i64 (d : Int)) rfl (by kernel_rfl) (by kernel_rfl) (by kernel_rfl) (by kernel_rfl) (fun _ _ _ h => h) (Or.inl ⟨by kernel_rfl, by intro u hSw; (try dsimp only at hSw); go_simp⟩) (by assumption) ?_
              try simp only [Act.put, List.setIfInBounds_toArray, List.set_cons_zero, List.set_cons_succ]
              refine take_at 153 (i := 26) (v := .pointer (some ⟨w.heap.size, d, none⟩)) rfl (by kernel_rfl) (by kernel_rfl) (by kernel_rfl) (by kernel_rfl) (fun _ _ _ h => h) (Or.inl ⟨by kernel_rfl, by intro u hSw; (try dsimp only at hSw); go_simp⟩) (by assumption) ?_
              try simp only [Act.put, List.setIfInBounds_toArray, List.set_cons_zero, List.set_cons_succ]
              refine take_at 154 (i := 27) (v := .pointer (some ⟨q d, 0, none⟩)) rfl (by kernel_rfl) (by kernel_rfl) (by kernel_rfl) (by kernel_rfl) (fun _ _ _ h => h) (Or.inl ⟨by kernel_rfl, by intro u hSw; have hc := HFq.out u hSw; go_simp⟩) (by assumption) ?_
              try simp only [Act.put, List.setIfInBounds_toArray, List.set_cons_zero, List.set_cons_succ]
              refine wpAnyH_ready (rs := [28]) (by kernel_rfl) (by simp) ?_
              refine AllReadyH.cons rfl (fun K hK => ?_) AllReadyH.nil
              go_simp
              refine (HCq.out _ hS0).mono ?_
              rintro e u1 ⟨rfl, hS1⟩
              try go_simp
              refine hK.out _ _ hS1 (fun _ => ?_)
              clear hK K
              try simp only [Act.put, List.setIfInBounds_toArray, List.set_cons_zero, List.set_cons_succ]
              refine take_at 156 (i := 29) (v := .bool false) rfl (by kernel_rfl) (by kernel_rfl) (by kernel_rfl) (by kernel_rfl) (fun _ _ _ h => h) (Or.inl ⟨by kernel_rfl, by intro u hSw; (try dsimp only at hSw); go_simp⟩) (by assumption) ?_
              try simp only [Act.put, List.setIfInBounds_toArray, List.set_cons_zero, List.set_cons_succ]
              refine take_at 157 (i := 30) (v := .bool false) rfl (by kernel_rfl) (by kernel_rfl) (by kernel_rfl) (by kernel_rfl) (fun _ _ _ h => h) (Or.inl ⟨by kernel_rfl, by intro u hSw; (try dsimp only at hSw); go_simp⟩) (by assumption) ?_
              try simp only [Act.put, List.setIfInBounds_toArray, List.set_cons_zero, List.set_cons_succ]
              refine take_at 158 (i := 31) (v := .bool false) rfl (by kernel_rfl) (by kernel_rfl) (by kernel_rfl) (by kernel_rfl) (fun _ _ _ h => h) (Or.inl ⟨by kernel_rfl, by intro u hSw; (try dsimp only at hSw); go_simp⟩) (by assumption) ?_
              try simp only [Act.put, List.setIfInBounds_toArray, List.set_cons_zero, List.set_cons_succ]
              refine take_at 159 (i := 32) (v := .int .i64 (d : Int)) rfl (by kernel_rfl) (by kernel_rfl) (by kernel_rfl) (by kernel_rfl) (fun _ _ _ h => h) (Or.inl ⟨by kernel_rfl, by intro u hSw; (try dsimp only at hSw); go_simp⟩) (by assumption) ?_
              try simp only [Act.put, List.setIfInBounds_toArray, List.set_cons_zero, List.set_cons_succ]
              refine take_at 160 (i := 33) (v := .pointer (some ⟨w.heap.size, d, none⟩)) rfl (by kernel_rfl) (by kernel_rfl) (by kernel_rfl) (by kernel_rfl) (fun _ _ _ h => h) (Or.inl ⟨by kernel_rfl, by intro u hSw; (try dsimp only at hSw); go_simp⟩) (by assumption) ?_
              try simp only [Act.put, List.setIfInBounds_toArray, List.set_cons_zero, List.set_cons_succ]
              refine take_at 161 (i := 34) (v := .pointer (some ⟨q d, 0, none⟩)) rfl (by kernel_rfl) (by kernel_rfl) (by kernel_rfl) (by kernel_rfl) (fun _ _ _ h => h) (Or.inl ⟨by kernel_rfl, by intro u hSw; have hc := HFq.out u hSw; go_simp⟩) (by assumption) ?_
              try simp only [Act.put, List.setIfInBounds_toArray, List.set_cons_zero, List.set_cons_succ]
              refine wpAnyH_ready (rs := [35]) (by kernel_rfl) (by simp) ?_
              refine AllReadyH.cons rfl (fun K hK => ?_) AllReadyH.nil
              go_simp
              refine (HCd.out _ hS1).mono ?_
              rintro e u2 ⟨rfl, hS2⟩
              try go_simp
              refine hK.out _ _ hS2 (fun _ => ?_)
              clear hK K
              try simp only [Act.put, List.setIfInBounds_toArray, List.set_cons_zero, List.set_cons_succ]
              refine take_at 163 (i := 36) (v := .bool false) rfl (by kernel_rfl) (by kernel_rfl) (by kernel_rfl) (by kernel_rfl) (fun _ _ _ h => h) (Or.inl ⟨by kernel_rfl, by intro u hSw; (try dsimp only at hSw); go_simp⟩) (by assumption) ?_
              try simp only [Act.put, List.setIfInBounds_toArray, List.set_cons_zero, List.set_cons_succ]
              refine take_at 164 (i := 37) (v := .bool false) rfl (by kernel_rfl) (by kernel_rfl) (by kernel_rfl) (by kernel_rfl) (fun _ _ _ h => h) (Or.inl ⟨by kernel_rfl, by intro u hSw; (try dsimp only at hSw); go_simp⟩) (by assumption) ?_
              try simp only [Act.put, List.setIfInBounds_toArray, List.set_cons_zero, List.set_cons_succ]
              refine take_at 165 (i := 38) (v := .bool false) rfl (by kernel_rfl) (by kernel_rfl) (by kernel_rfl) (by kernel_rfl) (fun _ _ _ h => h) (Or.inl ⟨by kernel_rfl, by intro u hSw; (try dsimp only at hSw); go_simp⟩) (by assumption) ?_
              try simp only [Act.put, List.setIfInBounds_toArray, List.set_cons_zero, List.set_cons_succ]
              refine take_at 166 (i := 39) (v := .int .i64 (d : Int)) rfl (by kernel_rfl) (by kernel_rfl) (by kernel_rfl) (by kernel_rfl) (fun _ _ _ h => h) (Or.inl ⟨by kernel_rfl, by intro u hSw; (try dsimp only at hSw); go_simp⟩) (by assumption) ?_
              try simp only [Act.put, List.setIfInBounds_toArray, List.set_cons_zero, List.set_cons_succ]
              refine take_at 167 (i := 40) (v := .pointer (some ⟨w.heap.size, d, none⟩)) rfl (by kernel_rfl) (by kernel_rfl) (by kernel_rfl) (by kernel_rfl) (fun _ _ _ h => h) (Or.inl ⟨by kernel_rfl, by intro u hSw; (try dsimp only at hSw); go_simp⟩) (by assumption) ?_
              try simp only [Act.put, List.setIfInBounds_toArray, List.set_cons_zero, List.set_cons_succ]
              refine take_at 168 (i := 41) (v := .pointer (some ⟨q d, 0, none⟩)) rfl (by kernel_rfl) (by kernel_rfl) (by kernel_rfl) (by kernel_rfl) (fun _ _ _ h => h) (Or.inl ⟨by kernel_rfl, by intro u hSw; have hc := HFq.out u hSw; go_simp⟩) (by assumption) ?_
              try simp only [Act.put, List.setIfInBounds_toArray, List.set_cons_zero, List.set_cons_succ]
              refine wpAnyH_ready (rs := [42]) (by kernel_rfl) (by simp) ?_
              refine AllReadyH.cons rfl (fun K hK => ?_) AllReadyH.nil
              go_simp
              refine (HCh.out _ hS2).mono ?_
              rintro e u3 ⟨rfl, hS3⟩
              try go_simp
              refine hK.out _ _ hS3 (fun _ => ?_)
              clear hK K
              try simp only [Act.put, List.setIfInBounds_toArray, List.set_cons_zero, List.set_cons_succ]
              refine take_at 170 (i := 43) (v := .bool false) rfl (by kernel_rfl) (by kernel_rfl) (by kernel_rfl) (by kernel_rfl) (fun _ _ _ h => h) (Or.inl ⟨by kernel_rfl, by intro u hSw; (try dsimp only at hSw); go_simp⟩) (by assumption) ?_
              try simp only [Act.put, List.setIfInBounds_toArray, List.set_cons_zero, List.set_cons_succ]
              refine take_at 171 (i := 44) (v := .bool false) rfl (by kernel_rfl) (by kernel_rfl) (by kernel_rfl) (by kernel_rfl) (fun _ _ _ h => h) (Or.inl ⟨by kernel_rfl, by intro u hSw; (try dsimp only at hSw); go_simp⟩) (by assumption) ?_
              try simp only [Act.put, List.setIfInBounds_toArray, List.set_cons_zero, List.set_cons_succ]
              refine wpAnyH_done (by kernel_rfl) ?_ _
              clear i0 i1 hS0 hS1 hS2
              go_wp2
              go_roundw
              case rel => exact ⟨d + 1, by omega, by go_num, HPf.out.keep hS3, HGf.out.trans (hS3.more fun _ _ f => f.elim)⟩
              case measure => simp [intOf]; omega
            · obtain rfl : d = 2 := by omega
              go_wp2
              go_ret
              exact ⟨rfl, HGf.out⟩
end
end Go.Proofs.YthalmjjbamglgaaDoor
