/-
  The walk of culvertlaw08.GrantAnswers (printed by gen_grans2.py).
  No condition of its own: the fact 'Sen' on the world; the script reads as rows.
-/
import Derived.Test.YtpmncndicdlmhaaDoorGrAns
import Derived.Deep.DeepCutAuto
import Derived.Deep.CutBlock
namespace Go.Proofs.YtpmncndicdlmhaaDoor
open Go.RowKit

structure RelA (w wr : World) (p : Option Addr) (gm : Nat) (s : Gr) (C S T : Int) : Prop where
  ob : Rc wr p s
  mm : Is wr gm 57 #[.int .i64 (s).W, .int .i64 C, .int .i64 S, .int .i64 T]
  sm : Sm C S T s
  ch : Chg none_ w wr
theorem rdV_bd {s : Gr} (h : s = Gr.none_ ∨ s.Ok) {z : Int} : 0 ≤ rdV s z ∧ rdV s z ≤ 2147483647 := by
  rcases h with rfl | ok
  · have h : rdV Gr.none_ z = 0 := rfl
    rw [h]
    exact ⟨Int.le_refl _, by decide⟩
  · by_cases h0 : 0 ≤ z
    · by_cases h1 : z ≤ s.u
      · obtain ⟨_, _, _, _, _, r5, r6⟩ := rd_in ok h0 h1
        exact ⟨r5, r6⟩
      · rw [(rd_out ok (n := z) (.inr (by omega))).2.2]; omega
    · rw [(rd_out ok (n := z) (.inl (by omega))).2.2]; omega
theorem off_of {p : Option Addr} {b : Nat} (h : ∀ g, p = some ⟨g, 0, none⟩ → g ≠ b) : ¬ at_ p b := fun ⟨g, e, hb⟩ => h g e hb.symm
theorem at_far {n : Nat} {p : Option Addr} (hf : ∀ g, p = some ⟨g, 0, none⟩ → n ≤ g) {w w1 w2 : World} (hn : w.heap.size = n) (h : Chg none_ w w1) (k : Chg (at_ p) w1 w2) : Chg none_ w w2 :=
  h.then k fun b hb hs => by
    obtain ⟨g, e, rfl⟩ := hs
    have := hf b e
    omega
theorem rc_put4 {w : World} {p : Option Addr} {s : Gr} {gm : Nat} (h : Rc w p s) (hn : ∀ g, p = some ⟨g, 0, none⟩ → g ≠ gm) (a b c d : Value) :
    Rc ((((w.setCell ⟨gm, 0, none⟩ a).setCell ⟨gm, 1, none⟩ b).setCell ⟨gm, 2, none⟩ c).setCell ⟨gm, 3, none⟩ d) p s := by
  rcases h with h | ⟨ok, g, e, hi⟩
  · exact .inl h
  · exact .inr ⟨ok, g, e, (((hi.far (p := ⟨gm, 0, none⟩) (hn g e) _).far (p := ⟨gm, 1, none⟩) (hn g e) _).far (p := ⟨gm, 2, none⟩) (hn g e) _).far (p := ⟨gm, 3, none⟩) (hn g e) _⟩
theorem chg_put4 {w u : World} {gm : Nat} (h : Chg none_ w u) (hg : w.heap.size ≤ gm) (a b c d : Value) :
    Chg none_ w ((((u.setCell ⟨gm, 0, none⟩ a).setCell ⟨gm, 1, none⟩ b).setCell ⟨gm, 2, none⟩ c).setCell ⟨gm, 3, none⟩ d) :=
  (((h.setCell (p := ⟨gm, 0, none⟩) (fun h => absurd h (Nat.not_lt.2 hg)) _).setCell (p := ⟨gm, 1, none⟩) (fun h => absurd h (Nat.not_lt.2 hg)) _).setCell (p := ⟨gm, 2, none⟩) (fun h => absurd h (Nat.not_lt.2 hg)) _).setCell (p := ⟨gm, 3, none⟩) (fun h => absurd h (Nat.not_lt.2 hg)) _

set_option maxRecDepth 100000 in
set_option maxHeartbeats 8000000 in
theorem ganswers_walk {a : Nat → Addr} (w : World) (hs : Sen w.heap.size a w) (W : Int) (Q : Option Addr) (n c : Nat) (F : Nat → Nat → Value) (K0 : Nat → Bool) (K1 : Nat → Int) (hm : n ≤ 8796093022208)
    (hr : Rds w Q n 2 F) (h0 : ∀ i, i < n → F i 0 = .bool (K0 i)) (h1 : ∀ i, i < n → F i 1 = .int .i64 (K1 i)) (hb1 : ∀ i, i < n → -9223372036854775808 ≤ K1 i ∧ K1 i ≤ 9223372036854775807) :
    Calls Tryd.prog 6 #[.int .i64 W, .slice Q n c] w fun e w' => e = .returned (.bool true) ∧ Below w.heap.size w w' := by
  have hB : w.heap.size ≤ w.heap.size := Nat.le_refl _
  have HS := Lib.hid hs
  have HR := Lib.hid hr
  have HF := Lib.hid (And.intro h0 (And.intro h1 hb1))
  clear hs hr h0 h1 hb1
  obtain ⟨t, ht⟩ : ∃ t, thr W = t := ⟨_, rfl⟩
  have HT := Lib.hid ht
  clear ht
  go_enter Tryd.func6, Tryd.ntmps6
  go_wp2_with fail
  refine (gfixed_any w HS.out hB).mono ?_
  rintro e w1 ⟨rfl, c1⟩
  have HC1 := Lib.hid c1
  clear c1
  by_cases hW : W < 1 ∨ 2147483647 < W
  · have HW := Lib.hid hW
    clear hW
    go_wp2_with fail
    refine (grnew_no w1 (HS.out.below (HC1.out.old hB)) W HW.out).mono ?_
    rintro e w2 ⟨rfl, d2⟩
    have HC2 := Lib.hid (HC1.out.trans d2.chg)
    clear d2
    go_wp2_with fail
    refine (rgnew_no w2 W HW.out).mono ?_
    rintro e w3 ⟨rfl, k3⟩
    have HC3 := Lib.hid ((HC2.out.trans k3).alloc (.cells #[.int .i64 0, .int .i64 0, .int .i64 0, .int .i64 0] 57))
    have hgm : w.heap.size ≤ w3.heap.size := (HC2.out.trans k3).size
    clear k3 HC2 HC1
    go_wp2_with fail
    refine (code_any _ (HS.out.below (HC3.out.old hB)) 2 (by decide)).mono ?_
    rintro e w' ⟨rfl, rfl⟩
    go_wp2_with fail
    refine (thr_c _ W t HT.out).mono ?_
    rintro e w' ⟨rfl, rfl⟩
    go_wp2_with fail
    refine (rgthr_v _ W t HT.out).mono ?_
    rintro e w' ⟨rfl, rfl⟩
    have HR0 : Hid (RelA w (w3.alloc (.cells #[.int .i64 0, .int .i64 0, .int .i64 0, .int .i64 0] 57)) none w3.heap.size Gr.none_ 0 0 0) := ⟨.inl ⟨rfl, rfl⟩, Is.new w3 _ _, ⟨⟨0, rfl⟩, ⟨0, rfl⟩⟩, HC3.out⟩
    have HFar : Hid (∀ g, (none : Option Addr) = some ⟨g, 0, none⟩ → w.heap.size ≤ g ∧ g ≠ w3.heap.size) := fun g e => by cases e
    clear HC3
    go_wp2_with fail
    generalize w3.heap.size = gm at HR0 HFar hgm ⊢
    generalize Gr.none_ = s0 at HR0
    generalize hp : (none : Option Addr) = p at HR0 HFar ⊢
    go_loopw [50] (fun xi wr => ∃ (k : Nat) (s : Gr) (C S T : Int), k ≤ n ∧ xi = .int .i64 k ∧ RelA w wr p gm s C S T) (fun xi _ => n - (intOf xi).toNat)
    case atStart => exact ⟨0, s0, 0, 0, 0, by omega, rfl, HR0.out⟩
    case round =>
      clear HR0
      obtain ⟨k, s, C, S, T, hk, rfl, hrel⟩ := hrel
      have HRel := Lib.hid hrel
      have hgmlt := hrel.mm.lt
      clear hrel
      by_cases hkn : k < n
      · obtain ⟨ad, rfl, hcell⟩ := HR.out (by omega)
        clear hcell
        have x0 := HR.out.f0 rfl (HRel.out.ch.old hB) (by decide) hkn
        have x1 := HR.out.fj rfl (HRel.out.ch.old hB) hkn (j := 1) (by decide) (by decide)
        rw [HF.out.1 k hkn] at x0
        rw [HF.out.2.1 k hkn] at x1
        obtain ⟨z0, z1⟩ := HF.out.2.2 k hkn
        generalize K1 k = z at x1 z0 z1
        generalize K0 k = cm at x0
        have HIo : Hid (Is (wr.alloc (.cells #[.bool cm, .int .i64 z] 30)) wr.heap.size 30 #[.bool cm, .int .i64 z]) := Is.new wr _ _
        have HO := Lib.hid (HRel.out.ob.keep ((Chg.refl none_ wr).alloc (.cells #[.bool cm, .int .i64 z] 30)))
        have HM : Hid (Is (wr.alloc (.cells #[.bool cm, .int .i64 z] 30)) gm 57 #[.int .i64 (s).W, .int .i64 C, .int .i64 S, .int .i64 T]) := HRel.out.mm.alloc _
        have HG := Lib.hid (HRel.out.ch.alloc (.cells #[.bool cm, .int .i64 z] 30))
        have HSm := Lib.hid HRel.out.sm
        clear HRel
        cases cm with
        | true =>
          obtain ⟨C2, sm2, hcall⟩ := rarrive_any s HO.out.gk C S T z HSm.out
          obtain ⟨q, hq⟩ : ∃ q, arC s z = q := ⟨_, rfl⟩
          obtain ⟨s2, hs2⟩ : ∃ s2, arS s z = s2 := ⟨_, rfl⟩
          have hq2 : q ≤ 42 := hq ▸ arC_le s z
          have HE : Hid (errv a (arC s z) = errv a q) := congrArg (errv a) hq
          rw [hq, hs2] at hcall
          rw [hs2] at sm2
          have HCall := Lib.hid hcall
          have HSm2 := Lib.hid sm2
          have HS2 := Lib.hid hs2
          clear hcall sm2 hq hs2
          have m0 := HM.out.at_ 0 _ rfl
          have m1 := HM.out.at_ 1 _ rfl
          have m2 := HM.out.at_ 2 _ rfl
          have m3 := HM.out.at_ 3 _ rfl
          go_wp2_with fail
          refine (HCall.out _).mono ?_
          rintro e w4 ⟨rfl, k4⟩
          clear m0 m1 m2 m3
          have HO4 : Hid (Rc (w4.alloc (.cells #[.int .i64 (s2).W, .int .i64 C2, .int .i64 S, .int .i64 T] 57)) p s) := (HO.out.keep k4).keep ((Chg.refl none_ _).alloc _)
          have HM4 : Hid (Is (w4.alloc (.cells #[.int .i64 (s2).W, .int .i64 C2, .int .i64 S, .int .i64 T] 57)) gm 57 #[.int .i64 (s).W, .int .i64 C, .int .i64 S, .int .i64 T]) := (HM.out.chg k4 (fun f => f)).alloc _
          have HG4 : Hid (Chg none_ w (w4.alloc (.cells #[.int .i64 (s2).W, .int .i64 C2, .int .i64 S, .int .i64 T] 57))) := (HG.out.trans k4).alloc _
          have HI4 : Hid (Is (w4.alloc (.cells #[.int .i64 (s2).W, .int .i64 C2, .int .i64 S, .int .i64 T] 57)) wr.heap.size 30 #[.bool true, .int .i64 z]) := (HIo.out.chg k4 (fun f => f)).alloc _
          have HB4 : Hid (Is (w4.alloc (.cells #[.int .i64 (s2).W, .int .i64 C2, .int .i64 S, .int .i64 T] 57)) w4.heap.size 57 #[.int .i64 (s2).W, .int .i64 C2, .int .i64 S, .int .i64 T]) := Is.new w4 _ _
          have hb4 : Hid (∀ g, p = some ⟨g, 0, none⟩ → g ≠ w4.heap.size) := fun g e => by have h := HO.out.keep k4; subst e; have := h.low; omega
          have hg4 : Hid (gm ≠ w4.heap.size) := by have := (HM.out.chg k4 (fun f => f) : Is w4 gm 57 #[.int .i64 (s).W, .int .i64 C, .int .i64 S, .int .i64 T]).lt; exact Nat.ne_of_lt this
          have y1 := HI4.out.at_ 1 (.int .i64 z) rfl
          clear k4 HO HM HG HIo
          go_wp2_with fail
          refine (arrive_c _ (HS.out.below (HG4.out.old hB)) _ s HO4.out z z0 z1 _ _ HE.out HS2.out).mono ?_
          rintro e w5 ⟨rfl, o5, k5⟩
          have HO5 := Lib.hid o5
          have HM5 : Hid (Is w5 gm 57 #[.int .i64 (s).W, .int .i64 C, .int .i64 S, .int .i64 T]) := HM4.out.chg k5 (off_of fun g e => (HFar.out g e).2)
          have HB5 : Hid (Is w5 w4.heap.size 57 #[.int .i64 (s2).W, .int .i64 C2, .int .i64 S, .int .i64 T]) := HB4.out.chg k5 (off_of hb4.out)
          have HG5 := Lib.hid (at_far (fun g e => (HFar.out g e).1) rfl HG4.out k5)
          clear o5 k5 y1 HO4 HM4 HG4 HI4 HB4 hb4
          go_wp2_with fail
          refine (code_any w5 (HS.out.below (HG5.out.old hB)) q hq2).mono ?_
          rintro e w' ⟨rfl, rfl⟩
          have y0 := HB5.out.at_ 0 _ rfl
          have y1 := HB5.out.at_ 1 _ rfl
          have y2 := HB5.out.at_ 2 _ rfl
          have y3 := HB5.out.at_ 3 _ rfl
          have z0 := HM5.out.at_ 0 _ rfl
          have z1 := HM5.out.at_ 1 _ rfl
          have z2 := HM5.out.at_ 2 _ rfl
          have z3 := HM5.out.at_ 3 _ rfl
          have f0 := HM5.out.frozen 0
          have f1 := HM5.out.frozen 1
          have f2 := HM5.out.frozen 2
          have f3 := HM5.out.frozen 3
          have HOt : Hid (Rc (((((w5).setCell ⟨gm, 0, none⟩ (.int .i64 (s2).W)).setCell ⟨gm, 1, none⟩ (.int .i64 C2)).setCell ⟨gm, 2, none⟩ (.int .i64 S)).setCell ⟨gm, 3, none⟩ (.int .i64 T)) p s2) := rc_put4 HO5.out (fun g e => (HFar.out g e).2) _ _ _ _
          have HMt : Hid (Is (((((w5).setCell ⟨gm, 0, none⟩ (.int .i64 (s2).W)).setCell ⟨gm, 1, none⟩ (.int .i64 C2)).setCell ⟨gm, 2, none⟩ (.int .i64 S)).setCell ⟨gm, 3, none⟩ (.int .i64 T)) gm 57 #[.int .i64 (s2).W, .int .i64 C2, .int .i64 S, .int .i64 T]) := (((HM5.out.put 0 _).put 1 _).put 2 _).put 3 _
          have HGt : Hid (Chg none_ w (((((w5).setCell ⟨gm, 0, none⟩ (.int .i64 (s2).W)).setCell ⟨gm, 1, none⟩ (.int .i64 C2)).setCell ⟨gm, 2, none⟩ (.int .i64 S)).setCell ⟨gm, 3, none⟩ (.int .i64 T))) := chg_put4 HG5.out hgm _ _ _ _
          go_wp2_with fail
          refine (tells_any _ p s2 HOt.out C2 S T HSm2.out).mono ?_
          rintro e w6 ⟨rfl, k6⟩
          have HR6 : Hid (RelA w w6 p gm s2 C2 S T) := ⟨HOt.out.keep k6, HMt.out.chg k6 (fun f => f), HSm2.out, HGt.out.trans k6⟩
          clear k6 y0 y1 y2 y3 z0 z1 z2 z3 f0 f1 f2 f3 HO5 HM5 HB5 HG5 HOt HMt HGt
          go_wp2_with fail
          go_roundw
          case rel => exact ⟨k + 1, s2, C2, S, T, by omega, by go_num, HR6.out⟩
          case measure => simp [intOf]; omega
        | false =>
          obtain ⟨S2, T2, sm2, hcall⟩ := rread_any s HO.out.gk C S T z HSm.out
          have vb := rdV_bd HO.out.gk (z := z)
          obtain ⟨q, hq⟩ : ∃ q, rdC s z = q := ⟨_, rfl⟩
          obtain ⟨s2, hs2⟩ : ∃ s2, rdS s z = s2 := ⟨_, rfl⟩
          have hq2 : q ≤ 42 := hq ▸ rdC_le s z
          have HE : Hid (errv a (rdC s z) = errv a q) := congrArg (errv a) hq
          obtain ⟨v, hv⟩ : ∃ v, rdV s z = v := ⟨_, rfl⟩
          rw [hv] at hcall vb
          have HV := Lib.hid hv
          have wv : IntKind.i64.wrap v = v := IntWalk.i64_in _ (by omega)
          clear hv vb
          rw [hq, hs2] at hcall
          rw [hs2] at sm2
          have HCall := Lib.hid hcall
          have HSm2 := Lib.hid sm2
          have HS2 := Lib.hid hs2
          clear hcall sm2 hq hs2
          have m0 := HM.out.at_ 0 _ rfl
          have m1 := HM.out.at_ 1 _ rfl
          have m2 := HM.out.at_ 2 _ rfl
          have m3 := HM.out.at_ 3 _ rfl
          go_wp2_with fail
          refine (HCall.out _).mono ?_
          rintro e w4 ⟨rfl, k4⟩
          clear m0 m1 m2 m3
          have HO4 : Hid (Rc (w4.alloc (.cells #[.int .i64 (s2).W, .int .i64 C, .int .i64 S2, .int .i64 T2] 57)) p s) := (HO.out.keep k4).keep ((Chg.refl none_ _).alloc _)
          have HM4 : Hid (Is (w4.alloc (.cells #[.int .i64 (s2).W, .int .i64 C, .int .i64 S2, .int .i64 T2] 57)) gm 57 #[.int .i64 (s).W, .int .i64 C, .int .i64 S, .int .i64 T]) := (HM.out.chg k4 (fun f => f)).alloc _
          have HG4 : Hid (Chg none_ w (w4.alloc (.cells #[.int .i64 (s2).W, .int .i64 C, .int .i64 S2, .int .i64 T2] 57))) := (HG.out.trans k4).alloc _
          have HI4 : Hid (Is (w4.alloc (.cells #[.int .i64 (s2).W, .int .i64 C, .int .i64 S2, .int .i64 T2] 57)) wr.heap.size 30 #[.bool false, .int .i64 z]) := (HIo.out.chg k4 (fun f => f)).alloc _
          have HB4 : Hid (Is (w4.alloc (.cells #[.int .i64 (s2).W, .int .i64 C, .int .i64 S2, .int .i64 T2] 57)) w4.heap.size 57 #[.int .i64 (s2).W, .int .i64 C, .int .i64 S2, .int .i64 T2]) := Is.new w4 _ _
          have hb4 : Hid (∀ g, p = some ⟨g, 0, none⟩ → g ≠ w4.heap.size) := fun g e => by have h := HO.out.keep k4; subst e; have := h.low; omega
          have hg4 : Hid (gm ≠ w4.heap.size) := by have := (HM.out.chg k4 (fun f => f) : Is w4 gm 57 #[.int .i64 (s).W, .int .i64 C, .int .i64 S, .int .i64 T]).lt; exact Nat.ne_of_lt this
          have y1 := HI4.out.at_ 1 (.int .i64 z) rfl
          clear k4 HO HM HG HIo
          go_wp2_with fail
          refine (read_c _ (HS.out.below (HG4.out.old hB)) _ s HO4.out z z0 z1 _ _ _ HV.out HE.out HS2.out).mono ?_
          rintro e w5 ⟨rfl, o5, k5⟩
          have HO5 := Lib.hid o5
          have HM5 : Hid (Is w5 gm 57 #[.int .i64 (s).W, .int .i64 C, .int .i64 S, .int .i64 T]) := HM4.out.chg k5 (off_of fun g e => (HFar.out g e).2)
          have HB5 : Hid (Is w5 w4.heap.size 57 #[.int .i64 (s2).W, .int .i64 C, .int .i64 S2, .int .i64 T2]) := HB4.out.chg k5 (off_of hb4.out)
          have HG5 := Lib.hid (at_far (fun g e => (HFar.out g e).1) rfl HG4.out k5)
          clear o5 k5 y1 HO4 HM4 HG4 HI4 HB4 hb4
          go_wp2_with fail
          refine (code_any w5 (HS.out.below (HG5.out.old hB)) q hq2).mono ?_
          rintro e w' ⟨rfl, rfl⟩
          have y0 := HB5.out.at_ 0 _ rfl
          have y1 := HB5.out.at_ 1 _ rfl
          have y2 := HB5.out.at_ 2 _ rfl
          have y3 := HB5.out.at_ 3 _ rfl
          have z0 := HM5.out.at_ 0 _ rfl
          have z1 := HM5.out.at_ 1 _ rfl
          have z2 := HM5.out.at_ 2 _ rfl
          have z3 := HM5.out.at_ 3 _ rfl
          have f0 := HM5.out.frozen 0
          have f1 := HM5.out.frozen 1
          have f2 := HM5.out.frozen 2
          have f3 := HM5.out.frozen 3
          have HOt : Hid (Rc (((((w5).setCell ⟨gm, 0, none⟩ (.int .i64 (s2).W)).setCell ⟨gm, 1, none⟩ (.int .i64 C)).setCell ⟨gm, 2, none⟩ (.int .i64 S2)).setCell ⟨gm, 3, none⟩ (.int .i64 T2)) p s2) := rc_put4 HO5.out (fun g e => (HFar.out g e).2) _ _ _ _
          have HMt : Hid (Is (((((w5).setCell ⟨gm, 0, none⟩ (.int .i64 (s2).W)).setCell ⟨gm, 1, none⟩ (.int .i64 C)).setCell ⟨gm, 2, none⟩ (.int .i64 S2)).setCell ⟨gm, 3, none⟩ (.int .i64 T2)) gm 57 #[.int .i64 (s2).W, .int .i64 C, .int .i64 S2, .int .i64 T2]) := (((HM5.out.put 0 _).put 1 _).put 2 _).put 3 _
          have HGt : Hid (Chg none_ w (((((w5).setCell ⟨gm, 0, none⟩ (.int .i64 (s2).W)).setCell ⟨gm, 1, none⟩ (.int .i64 C)).setCell ⟨gm, 2, none⟩ (.int .i64 S2)).setCell ⟨gm, 3, none⟩ (.int .i64 T2))) := chg_put4 HG5.out hgm _ _ _ _
          go_wp2_with fail
          refine (tells_any _ p s2 HOt.out C S2 T2 HSm2.out).mono ?_
          rintro e w6 ⟨rfl, k6⟩
          have HR6 : Hid (RelA w w6 p gm s2 C S2 T2) := ⟨HOt.out.keep k6, HMt.out.chg k6 (fun f => f), HSm2.out, HGt.out.trans k6⟩
          clear k6 y0 y1 y2 y3 z0 z1 z2 z3 f0 f1 f2 f3 HO5 HM5 HB5 HG5 HOt HMt HGt
          go_wp2_with fail
          go_roundw
          case rel => exact ⟨k + 1, s2, C, S2, T2, by omega, by go_num, HR6.out⟩
          case measure => simp [intOf]; omega
      · obtain rfl : n = k := by omega
        have m0 := HRel.out.mm.at_ 0 _ rfl
        have m1 := HRel.out.mm.at_ 1 _ rfl
        have m2 := HRel.out.mm.at_ 2 _ rfl
        have m3 := HRel.out.mm.at_ 3 _ rfl
        go_wp2_with fail
        refine (tells_any wr p s HRel.out.ob C S T HRel.out.sm).mono ?_
        rintro e w6 ⟨rfl, k6⟩
        have HG6 := Lib.hid (HRel.out.ch.trans k6)
        clear k6 m0 m1 m2 m3
        go_wp2
        go_ret
        exact ⟨rfl, HG6.out.old hB⟩
  · have W1 : 1 ≤ W := by omega
    have W2 : W ≤ 2147483647 := by omega
    clear hW
    go_wp2_with fail
    refine (grnew_ok w1 W W1 W2).mono ?_
    rintro e w2 ⟨g, rfl, hg, o2, k2⟩
    have HC2 := Lib.hid (HC1.out.trans k2)
    have hgw : w.heap.size ≤ g := Nat.le_trans HC1.out.size hg
    clear k2 hg
    go_wp2_with fail
    refine (rgnew_ok w2 W W1 W2).mono ?_
    rintro e w3 ⟨rfl, k3⟩
    have o3 := o2.keep k3
    have hne : g ≠ w3.heap.size := by have := o3.low; omega
    have HO3 := Lib.hid (o3.keep ((Chg.refl none_ _).alloc (.cells #[.int .i64 W, .int .i64 0, .int .i64 0, .int .i64 0] 57)))
    have HC3 := Lib.hid ((HC2.out.trans k3).alloc (.cells #[.int .i64 W, .int .i64 0, .int .i64 0, .int .i64 0] 57))
    have hgm : w.heap.size ≤ w3.heap.size := (HC2.out.trans k3).size
    clear k3 HC2 HC1 o2 o3
    go_wp2_with fail
    refine (code_any _ (HS.out.below (HC3.out.old hB)) 0 (by decide)).mono ?_
    rintro e w' ⟨rfl, rfl⟩
    go_wp2_with fail
    refine (thr_c _ W t HT.out).mono ?_
    rintro e w' ⟨rfl, rfl⟩
    go_wp2_with fail
    refine (rgthr_v _ W t HT.out).mono ?_
    rintro e w' ⟨rfl, rfl⟩
    have HR0 : Hid (RelA w (w3.alloc (.cells #[.int .i64 W, .int .i64 0, .int .i64 0, .int .i64 0] 57)) (some ⟨g, 0, none⟩) w3.heap.size (Gr.new W) 0 0 0) := ⟨HO3.out, Is.new w3 _ _, Sm.begin W, HC3.out⟩
    have HFar : Hid (∀ g', (some ⟨g, 0, none⟩ : Option Addr) = some ⟨g', 0, none⟩ → w.heap.size ≤ g' ∧ g' ≠ w3.heap.size) := fun g' e => by injection e with e; injection e with e _; subst e; exact ⟨hgw, hne⟩
    clear HC3 HO3 hne hgw
    go_wp2_with fail
    generalize w3.heap.size = gm at HR0 HFar hgm ⊢
    generalize Gr.new W = s0 at HR0
    generalize (some ⟨g, 0, none⟩ : Option Addr) = p at HR0 HFar ⊢
    go_loopw [50] (fun xi wr => ∃ (k : Nat) (s : Gr) (C S T : Int), k ≤ n ∧ xi = .int .i64 k ∧ RelA w wr p gm s C S T) (fun xi _ => n - (intOf xi).toNat)
    case atStart => exact ⟨0, s0, 0, 0, 0, by omega, rfl, HR0.out⟩
    case round =>
      clear HR0
      obtain ⟨k, s, C, S, T, hk, rfl, hrel⟩ := hrel
      have HRel := Lib.hid hrel
      have hgmlt := hrel.mm.lt
      clear hrel
      by_cases hkn : k < n
      · obtain ⟨ad, rfl, hcell⟩ := HR.out (by omega)
        clear hcell
        have x0 := HR.out.f0 rfl (HRel.out.ch.old hB) (by decide) hkn
        have x1 := HR.out.fj rfl (HRel.out.ch.old hB) hkn (j := 1) (by decide) (by decide)
        rw [HF.out.1 k hkn] at x0
        rw [HF.out.2.1 k hkn] at x1
        obtain ⟨z0, z1⟩ := HF.out.2.2 k hkn
        generalize K1 k = z at x1 z0 z1
        generalize K0 k = cm at x0
        have HIo : Hid (Is (wr.alloc (.cells #[.bool cm, .int .i64 z] 30)) wr.heap.size 30 #[.bool cm, .int .i64 z]) := Is.new wr _ _
        have HO := Lib.hid (HRel.out.ob.keep ((Chg.refl none_ wr).alloc (.cells #[.bool cm, .int .i64 z] 30)))
        have HM : Hid (Is (wr.alloc (.cells #[.bool cm, .int .i64 z] 30)) gm 57 #[.int .i64 (s).W, .int .i64 C, .int .i64 S, .int .i64 T]) := HRel.out.mm.alloc _
        have HG := Lib.hid (HRel.out.ch.alloc (.cells #[.bool cm, .int .i64 z] 30))
        have HSm := Lib.hid HRel.out.sm
        clear HRel
        cases cm with
        | true =>
          obtain ⟨C2, sm2, hcall⟩ := rarrive_any s HO.out.gk C S T z HSm.out
          obtain ⟨q, hq⟩ : ∃ q, arC s z = q := ⟨_, rfl⟩
          obtain ⟨s2, hs2⟩ : ∃ s2, arS s z = s2 := ⟨_, rfl⟩
          have hq2 : q ≤ 42 := hq ▸ arC_le s z
          have HE : Hid (errv a (arC s z) = errv a q) := congrArg (errv a) hq
          rw [hq, hs2] at hcall
          rw [hs2] at sm2
          have HCall := Lib.hid hcall
          have HSm2 := Lib.hid sm2
          have HS2 := Lib.hid hs2
          clear hcall sm2 hq hs2
          have m0 := HM.out.at_ 0 _ rfl
          have m1 := HM.out.at_ 1 _ rfl
          have m2 := HM.out.at_ 2 _ rfl
          have m3 := HM.out.at_ 3 _ rfl
          go_wp2_with fail
          refine (HCall.out _).mono ?_
          rintro e w4 ⟨rfl, k4⟩
          clear m0 m1 m2 m3
          have HO4 : Hid (Rc (w4.alloc (.cells #[.int .i64 (s2).W, .int .i64 C2, .int .i64 S, .int .i64 T] 57)) p s) := (HO.out.keep k4).keep ((Chg.refl none_ _).alloc _)
          have HM4 : Hid (Is (w4.alloc (.cells #[.int .i64 (s2).W, .int .i64 C2, .int .i64 S, .int .i64 T] 57)) gm 57 #[.int .i64 (s).W, .int .i64 C, .int .i64 S, .int .i64 T]) := (HM.out.chg k4 (fun f => f)).alloc _
          have HG4 : Hid (Chg none_ w (w4.alloc (.cells #[.int .i64 (s2).W, .int .i64 C2, .int .i64 S, .int .i64 T] 57))) := (HG.out.trans k4).alloc _
          have HI4 : Hid (Is (w4.alloc (.cells #[.int .i64 (s2).W, .int .i64 C2, .int .i64 S, .int .i64 T] 57)) wr.heap.size 30 #[.bool true, .int .i64 z]) := (HIo.out.chg k4 (fun f => f)).alloc _
          have HB4 : Hid (Is (w4.alloc (.cells #[.int .i64 (s2).W, .int .i64 C2, .int .i64 S, .int .i64 T] 57)) w4.heap.size 57 #[.int .i64 (s2).W, .int .i64 C2, .int .i64 S, .int .i64 T]) := Is.new w4 _ _
          have hb4 : Hid (∀ g, p = some ⟨g, 0, none⟩ → g ≠ w4.heap.size) := fun g e => by have h := HO.out.keep k4; subst e; have := h.low; omega
          have hg4 : Hid (gm ≠ w4.heap.size) := by have := (HM.out.chg k4 (fun f => f) : Is w4 gm 57 #[.int .i64 (s).W, .int .i64 C, .int .i64 S, .int .i64 T]).lt; exact Nat.ne_of_lt this
          have y1 := HI4.out.at_ 1 (.int .i64 z) rfl
          clear k4 HO HM HG HIo
          go_wp2_with fail
          refine (arrive_c _ (HS.out.below (HG4.out.old hB)) _ s HO4.out z z0 z1 _ _ HE.out HS2.out).mono ?_
          rintro e w5 ⟨rfl, o5, k5⟩
          have HO5 := Lib.hid o5
          have HM5 : Hid (Is w5 gm 57 #[.int .i64 (s).W, .int .i64 C, .int .i64 S, .int .i64 T]) := HM4.out.chg k5 (off_of fun g e => (HFar.out g e).2)
          have HB5 : Hid (Is w5 w4.heap.size 57 #[.int .i64 (s2).W, .int .i64 C2, .int .i64 S, .int .i64 T]) := HB4.out.chg k5 (off_of hb4.out)
          have HG5 := Lib.hid (at_far (fun g e => (HFar.out g e).1) rfl HG4.out k5)
          clear o5 k5 y1 HO4 HM4 HG4 HI4 HB4 hb4
          go_wp2_with fail
          refine (code_any w5 (HS.out.below (HG5.out.old hB)) q hq2).mono ?_
          rintro e w' ⟨rfl, rfl⟩
          have y0 := HB5.out.at_ 0 _ rfl
          have y1 := HB5.out.at_ 1 _ rfl
          have y2 := HB5.out.at_ 2 _ rfl
          have y3 := HB5.out.at_ 3 _ rfl
          have z0 := HM5.out.at_ 0 _ rfl
          have z1 := HM5.out.at_ 1 _ rfl
          have z2 := HM5.out.at_ 2 _ rfl
          have z3 := HM5.out.at_ 3 _ rfl
          have f0 := HM5.out.frozen 0
          have f1 := HM5.out.frozen 1
          have f2 := HM5.out.frozen 2
          have f3 := HM5.out.frozen 3
          have HOt : Hid (Rc (((((w5).setCell ⟨gm, 0, none⟩ (.int .i64 (s2).W)).setCell ⟨gm, 1, none⟩ (.int .i64 C2)).setCell ⟨gm, 2, none⟩ (.int .i64 S)).setCell ⟨gm, 3, none⟩ (.int .i64 T)) p s2) := rc_put4 HO5.out (fun g e => (HFar.out g e).2) _ _ _ _
          have HMt : Hid (Is (((((w5).setCell ⟨gm, 0, none⟩ (.int .i64 (s2).W)).setCell ⟨gm, 1, none⟩ (.int .i64 C2)).setCell ⟨gm, 2, none⟩ (.int .i64 S)).setCell ⟨gm, 3, none⟩ (.int .i64 T)) gm 57 #[.int .i64 (s2).W, .int .i64 C2, .int .i64 S, .int .i64 T]) := (((HM5.out.put 0 _).put 1 _).put 2 _).put 3 _
          have HGt : Hid (Chg none_ w (((((w5).setCell ⟨gm, 0, none⟩ (.int .i64 (s2).W)).setCell ⟨gm, 1, none⟩ (.int .i64 C2)).setCell ⟨gm, 2, none⟩ (.int .i64 S)).setCell ⟨gm, 3, none⟩ (.int .i64 T))) := chg_put4 HG5.out hgm _ _ _ _
          go_wp2_with fail
          refine (tells_any _ p s2 HOt.out C2 S T HSm2.out).mono ?_
          rintro e w6 ⟨rfl, k6⟩
          have HR6 : Hid (RelA w w6 p gm s2 C2 S T) := ⟨HOt.out.keep k6, HMt.out.chg k6 (fun f => f), HSm2.out, HGt.out.trans k6⟩
          clear k6 y0 y1 y2 y3 z0 z1 z2 z3 f0 f1 f2 f3 HO5 HM5 HB5 HG5 HOt HMt HGt
          go_wp2_with fail
          go_roundw
          case rel => exact ⟨k + 1, s2, C2, S, T, by omega, by go_num, HR6.out⟩
          case measure => simp [intOf]; omega
        | false =>
          obtain ⟨S2, T2, sm2, hcall⟩ := rread_any s HO.out.gk C S T z HSm.out
          have vb := rdV_bd HO.out.gk (z := z)
          obtain ⟨q, hq⟩ : ∃ q, rdC s z = q := ⟨_, rfl⟩
          obtain ⟨s2, hs2⟩ : ∃ s2, rdS s z = s2 := ⟨_, rfl⟩
          have hq2 : q ≤ 42 := hq ▸ rdC_le s z
          have HE : Hid (errv a (rdC s z) = errv a q) := congrArg (errv a) hq
          obtain ⟨v, hv⟩ : ∃ v, rdV s z = v := ⟨_, rfl⟩
          rw [hv] at hcall vb
          have HV := Lib.hid hv
          have wv : IntKind.i64.wrap v = v := IntWalk.i64_in _ (by omega)
          clear hv vb
          rw [hq, hs2] at hcall
          rw [hs2] at sm2
          have HCall := Lib.hid hcall
          have HSm2 := Lib.hid sm2
          have HS2 := Lib.hid hs2
          clear hcall sm2 hq hs2
          have m0 := HM.out.at_ 0 _ rfl
          have m1 := HM.out.at_ 1 _ rfl
          have m2 := HM.out.at_ 2 _ rfl
          have m3 := HM.out.at_ 3 _ rfl
          go_wp2_with fail
          refine (HCall.out _).mono ?_
          rintro e w4 ⟨rfl, k4⟩
          clear m0 m1 m2 m3
          have HO4 : Hid (Rc (w4.alloc (.cells #[.int .i64 (s2).W, .int .i64 C, .int .i64 S2, .int .i64 T2] 57)) p s) := (HO.out.keep k4).keep ((Chg.refl none_ _).alloc _)
          have HM4 : Hid (Is (w4.alloc (.cells #[.int .i64 (s2).W, .int .i64 C, .int .i64 S2, .int .i64 T2] 57)) gm 57 #[.int .i64 (s).W, .int .i64 C, .int .i64 S, .int .i64 T]) := (HM.out.chg k4 (fun f => f)).alloc _
          have HG4 : Hid (Chg none_ w (w4.alloc (.cells #[.int .i64 (s2).W, .int .i64 C, .int .i64 S2, .int .i64 T2] 57))) := (HG.out.trans k4).alloc _
          have HI4 : Hid (Is (w4.alloc (.cells #[.int .i64 (s2).W, .int .i64 C, .int .i64 S2, .int .i64 T2] 57)) wr.heap.size 30 #[.bool false, .int .i64 z]) := (HIo.out.chg k4 (fun f => f)).alloc _
          have HB4 : Hid (Is (w4.alloc (.cells #[.int .i64 (s2).W, .int .i64 C, .int .i64 S2, .int .i64 T2] 57)) w4.heap.size 57 #[.int .i64 (s2).W, .int .i64 C, .int .i64 S2, .int .i64 T2]) := Is.new w4 _ _
          have hb4 : Hid (∀ g, p = some ⟨g, 0, none⟩ → g ≠ w4.heap.size) := fun g e => by have h := HO.out.keep k4; subst e; have := h.low; omega
          have hg4 : Hid (gm ≠ w4.heap.size) := by have := (HM.out.chg k4 (fun f => f) : Is w4 gm 57 #[.int .i64 (s).W, .int .i64 C, .int .i64 S, .int .i64 T]).lt; exact Nat.ne_of_lt this
          have y1 := HI4.out.at_ 1 (.int .i64 z) rfl
          clear k4 HO HM HG HIo
          go_wp2_with fail
          refine (read_c _ (HS.out.below (HG4.out.old hB)) _ s HO4.out z z0 z1 _ _ _ HV.out HE.out HS2.out).mono ?_
          rintro e w5 ⟨rfl, o5, k5⟩
          have HO5 := Lib.hid o5
          have HM5 : Hid (Is w5 gm 57 #[.int .i64 (s).W, .int .i64 C, .int .i64 S, .int .i64 T]) := HM4.out.chg k5 (off_of fun g e => (HFar.out g e).2)
          have HB5 : Hid (Is w5 w4.heap.size 57 #[.int .i64 (s2).W, .int .i64 C, .int .i64 S2, .int .i64 T2]) := HB4.out.chg k5 (off_of hb4.out)
          have HG5 := Lib.hid (at_far (fun g e => (HFar.out g e).1) rfl HG4.out k5)
          clear o5 k5 y1 HO4 HM4 HG4 HI4 HB4 hb4
          go_wp2_with fail
          refine (code_any w5 (HS.out.below (HG5.out.old hB)) q hq2).mono ?_
          rintro e w' ⟨rfl, rfl⟩
          have y0 := HB5.out.at_ 0 _ rfl
          have y1 := HB5.out.at_ 1 _ rfl
          have y2 := HB5.out.at_ 2 _ rfl
          have y3 := HB5.out.at_ 3 _ rfl
          have z0 := HM5.out.at_ 0 _ rfl
          have z1 := HM5.out.at_ 1 _ rfl
          have z2 := HM5.out.at_ 2 _ rfl
          have z3 := HM5.out.at_ 3 _ rfl
          have f0 := HM5.out.frozen 0
          have f1 := HM5.out.frozen 1
          have f2 := HM5.out.frozen 2
          have f3 := HM5.out.frozen 3
          have HOt : Hid (Rc (((((w5).setCell ⟨gm, 0, none⟩ (.int .i64 (s2).W)).setCell ⟨gm, 1, none⟩ (.int .i64 C)).setCell ⟨gm, 2, none⟩ (.int .i64 S2)).setCell ⟨gm, 3, none⟩ (.int .i64 T2)) p s2) := rc_put4 HO5.out (fun g e => (HFar.out g e).2) _ _ _ _
          have HMt : Hid (Is (((((w5).setCell ⟨gm, 0, none⟩ (.int .i64 (s2).W)).setCell ⟨gm, 1, none⟩ (.int .i64 C)).setCell ⟨gm, 2, none⟩ (.int .i64 S2)).setCell ⟨gm, 3, none⟩ (.int .i64 T2)) gm 57 #[.int .i64 (s2).W, .int .i64 C, .int .i64 S2, .int .i64 T2]) := (((HM5.out.put 0 _).put 1 _).put 2 _).put 3 _
          have HGt : Hid (Chg none_ w (((((w5).setCell ⟨gm, 0, none⟩ (.int .i64 (s2).W)).setCell ⟨gm, 1, none⟩ (.int .i64 C)).setCell ⟨gm, 2, none⟩ (.int .i64 S2)).setCell ⟨gm, 3, none⟩ (.int .i64 T2))) := chg_put4 HG5.out hgm _ _ _ _
          go_wp2_with fail
          refine (tells_any _ p s2 HOt.out C S2 T2 HSm2.out).mono ?_
          rintro e w6 ⟨rfl, k6⟩
          have HR6 : Hid (RelA w w6 p gm s2 C S2 T2) := ⟨HOt.out.keep k6, HMt.out.chg k6 (fun f => f), HSm2.out, HGt.out.trans k6⟩
          clear k6 y0 y1 y2 y3 z0 z1 z2 z3 f0 f1 f2 f3 HO5 HM5 HB5 HG5 HOt HMt HGt
          go_wp2_with fail
          go_roundw
          case rel => exact ⟨k + 1, s2, C, S2, T2, by omega, by go_num, HR6.out⟩
          case measure => simp [intOf]; omega
      · obtain rfl : n = k := by omega
        have m0 := HRel.out.mm.at_ 0 _ rfl
        have m1 := HRel.out.mm.at_ 1 _ rfl
        have m2 := HRel.out.mm.at_ 2 _ rfl
        have m3 := HRel.out.mm.at_ 3 _ rfl
        go_wp2_with fail
        refine (tells_any wr p s HRel.out.ob C S T HRel.out.sm).mono ?_
        rintro e w6 ⟨rfl, k6⟩
        have HG6 := Lib.hid (HRel.out.ch.trans k6)
        clear k6 m0 m1 m2 m3
        go_wp2
        go_ret
        exact ⟨rfl, HG6.out.old hB⟩
end Go.Proofs.YtpmncndicdlmhaaDoor
