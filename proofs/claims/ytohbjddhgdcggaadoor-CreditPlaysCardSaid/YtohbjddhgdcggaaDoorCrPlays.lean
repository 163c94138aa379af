/-
  The walk of culvertlaw07.CreditPlays (printed by gen_crplays.py).
  No condition of its own: the fact 'Sen' on the world; the script reads as rows.
-/
import Derived.Test.YtohbjddhgdcggaaDoorGrPure
import Derived.Test.YtohbjddhgdcggaaDoorRecs
import Derived.Deep.RegionHeld3
import Derived.RegionTactic
import Derived.ChangeAlike
namespace Go.Proofs.YtohbjddhgdcggaaDoor
open Go.RowKit

theorem cd_put3 {w : World} {g gm : Nat} {s : Cr} (h : Cd w (some ⟨g, 0, none⟩) s) (hn : g ≠ gm) (a b c : Value) :
    Cd (((w.setCell ⟨gm, 0, none⟩ a).setCell ⟨gm, 1, none⟩ b).setCell ⟨gm, 2, none⟩ c) (some ⟨g, 0, none⟩) s := by
  rcases h with ⟨_, h⟩ | ⟨ok, g', e, hi⟩
  · cases h
  · injection e with e
    injection e with e _
    subst e
    exact .inr ⟨ok, g, rfl, ((hi.far (p := ⟨gm, 0, none⟩) hn _).far (p := ⟨gm, 1, none⟩) hn _).far (p := ⟨gm, 2, none⟩) hn _⟩
theorem chg_put3 {w u : World} {gm : Nat} (h : Chg none_ w u) (hg : w.heap.size ≤ gm) (a b c : Value) :
    Chg none_ w (((u.setCell ⟨gm, 0, none⟩ a).setCell ⟨gm, 1, none⟩ b).setCell ⟨gm, 2, none⟩ c) :=
  ((h.setCell (p := ⟨gm, 0, none⟩) (fun h => absurd h (Nat.not_lt.2 hg)) _).setCell (p := ⟨gm, 1, none⟩) (fun h => absurd h (Nat.not_lt.2 hg)) _).setCell (p := ⟨gm, 2, none⟩) (fun h => absurd h (Nat.not_lt.2 hg)) _
theorem off_g {g b : Nat} (h : g ≠ b) : ¬ at_ (some ⟨g, 0, none⟩) b := fun ⟨g', e, hb⟩ => by
  injection e with e
  injection e with e _
  omega
theorem Cd.dr1 {w : World} {p : Option Addr} {s : Cr} (h : Cd w p s) : Cd w.drew p s := h
theorem Cd.drN {w : World} {p : Option Addr} {s : Cr} {n : Nat} (h : Cd w p s) : Cd (w.drewN n) p s := h
theorem crhave_v (w : World) (p : Option Addr) (s : Cr) (h : Cd w p s) (v : Int) (hv : s.h = v) : Calls Tryd.prog 16 #[.pointer p] w fun e w' => e = .returned (.int .u32 v) ∧ w = w' := hv ▸ crhave_any w p s h
theorem crspent_v (w : World) (p : Option Addr) (s : Cr) (h : Cd w p s) (v : Int) (hv : s.sp = v) : Calls Tryd.prog 17 #[.pointer p] w fun e w' => e = .returned (.int .u64 v) ∧ w = w' := hv ▸ crspent_any w p s h
theorem rcnew_v (w : World) (W : Int) (h1 : 1 ≤ W) (h2 : W ≤ 2147483647) :
    Calls Tryd.prog 10 #[.int .i64 W] w fun e w' => e = .returned (.tuple #[.agg #[.int .i64 W, .int .i64 W, .int .u64 0], .int .i64 0]) ∧ Chg none_ w w' := rcnew_ok w W h1 h2
theorem rcnew_nov (w : World) (W : Int) (hk : W < 1 ∨ 2147483647 < W) :
    Calls Tryd.prog 10 #[.int .i64 W] w fun e w' => e = .returned (.tuple #[.agg #[.int .i64 0, .int .i64 0, .int .u64 0], .int .i64 2]) ∧ Chg none_ w w' := rcnew_no w W hk
theorem rspend_v (w : World) (s : Cr) (ok : s.Ok) (n : Int) (q : Nat) (T : Cr) (hq : spC s n = q) (hT : spS s n = T) :
    Calls Tryd.prog 13 #[.agg #[.int .i64 (s).W, .int .i64 (s).h, .int .u64 (s).sp], .int .i64 n] w fun e w' => e = .returned (.tuple #[.agg #[.int .i64 (T).W, .int .i64 (T).h, .int .u64 (T).sp], .int .i64 q]) ∧ Chg none_ w w' := by
  subst hq hT
  exact rspend_any w s ok n
theorem rgrant_v (w : World) (s : Cr) (ok : s.Ok) (d : Int) (d0 : 0 ≤ d) (d1 : d ≤ 4294967295) (q : Nat) (T : Cr) (hq : gaC s d = q) (hT : gaS s d = T) :
    Calls Tryd.prog 15 #[.agg #[.int .i64 (s).W, .int .i64 (s).h, .int .u64 (s).sp], .int .u32 d] w fun e w' => e = .returned (.tuple #[.agg #[.int .i64 (T).W, .int .i64 (T).h, .int .u64 (T).sp], .int .i64 q]) ∧ Chg none_ w w' := by
  subst hq hT
  exact rgrant_any w s ok d d0 d1

/-- What holds behind each round. -/
structure RelC (w wr : World) (g gm : Nat) (s : Cr) : Prop where
  ob : Cd wr (some ⟨g, 0, none⟩) s
  mm : Is wr gm 31 #[.int .i64 (s).W, .int .i64 (s).h, .int .u64 (s).sp]
  ch : Chg none_ w wr
  far : w.heap.size ≤ g
  ne : g ≠ gm

set_option maxRecDepth 100000 in
set_option maxHeartbeats 8000000 in
theorem plays_walk {a : Nat → Addr} (w : World) (hs : Sen w.heap.size a w) (A : Option Addr) (n c : Nat) (F : Nat → Nat → Value) (K0 K1 K2 : Nat → Int) (hr : Rds w A n 3 F) (h0 : ∀ i, i < n → F i 0 = .int .i64 (K0 i)) (h1 : ∀ i, i < n → F i 1 = .int .i64 (K1 i)) (h2 : ∀ i, i < n → F i 2 = .int .u32 (K2 i))
    (hb2 : ∀ i, i < n → 0 ≤ K2 i ∧ K2 i ≤ 4294967295) (hm : n ≤ 8796093022208) :
    Calls Tryd.prog 3 #[.slice A n c] w fun e w' => e = .returned (.bool true) ∧ Below w.heap.size w w' := by
  have hB : w.heap.size ≤ w.heap.size := Nat.le_refl _
  have HS := Lib.hid hs
  have HR := Lib.hid hr
  have HF := Lib.hid (And.intro h0 (And.intro h1 (And.intro h2 hb2)))
  clear hs hr h0 h1 h2 hb2
  go_enter Tryd.func3, Tryd.ntmps3
  go_wp2_with fail
  refine (awake_any w HS.out hB).mono ?_
  rintro e w1 ⟨rfl, c1⟩
  go_wp2_with fail
  refine (crnew_ok w1 1 (by decide) (by decide)).mono ?_
  rintro e w2 ⟨g0, rfl, hg, o2, k2⟩
  have HC2 := Lib.hid (c1.trans k2)
  have hgw0 : w.heap.size ≤ g0 := Nat.le_trans c1.size hg
  have HO2 : Hid (Cd w2 (some ⟨g0, 0, none⟩) ⟨1, 1, 0⟩) := o2
  clear c1 k2 hg o2
  go_wp2_with fail
  refine (rcnew_v w2 1 (by decide) (by decide)).mono ?_
  rintro e w3 ⟨rfl, k3⟩
  have HC3 := Lib.hid (HC2.out.trans k3)
  have HO3 := Lib.hid (HO2.out.keep k3)
  have hgm : w.heap.size ≤ w3.heap.size := HC3.out.size
  have hne0 : g0 ≠ w3.heap.size := by have := HO3.out.low; omega
  have HR3 : Hid (RelC w (w3.alloc (.cells #[.int .i64 1, .int .i64 1, .int .u64 0] 31)) g0 w3.heap.size ⟨1, 1, 0⟩) := ⟨HO3.out.keep ((Chg.refl none_ _).alloc _), Is.new w3 _ _, HC3.out.alloc _, hgw0, hne0⟩
  clear HC2 HO2 k3 HC3 HO3 hne0 hgw0
  go_wp2_with fail
  generalize w3.heap.size = gm at HR3 hgm ⊢
  go_loopw [3, 7] (fun xs xi wr => ∃ (k g : Nat) (s : Cr), k ≤ n ∧ xi = .int .i64 k ∧ xs = .pointer (some ⟨g, 0, none⟩) ∧ RelC w wr g gm s) (fun _ xi _ => n - (intOf xi).toNat)
  case atStart => exact ⟨0, g0, _, by omega, rfl, rfl, HR3.out⟩
  case round =>
    clear HR3
    obtain ⟨k, g, s, hk, rfl, rfl, hrel⟩ := hrel
    have HRel := Lib.hid hrel
    have hgw := hrel.far
    have hne := hrel.ne
    have hok := Lib.hid hrel.ob.ok
    have hglt := hrel.ob.low
    have hgmlt := hrel.mm.lt
    clear hrel
    by_cases hkn : k < n
    · obtain ⟨ad, rfl, hcell⟩ := HR.out (by omega)
      clear hcell
      have x0 := HR.out.f0 rfl (HRel.out.ch.old hB) (by decide) hkn
      have x1 := HR.out.fj rfl (HRel.out.ch.old hB) hkn (j := 1) (by decide) (by decide)
      have x2 := HR.out.fj rfl (HRel.out.ch.old hB) hkn (j := 2) (by decide) (by decide)
      rw [HF.out.1 k hkn] at x0
      rw [HF.out.2.1 k hkn] at x1
      rw [HF.out.2.2.1 k hkn] at x2
      obtain ⟨D0, D1⟩ := HF.out.2.2.2 k hkn
      generalize K0 k = kd at x0
      generalize K1 k = N at x1
      generalize K2 k = D at x2 D0 D1
      have hgl : g ≠ wr.heap.size := by omega
      have HIo : Hid (Is (wr.alloc (.cells #[.int .i64 kd, .int .i64 N, .int .u32 D] 36)) wr.heap.size 36 #[.int .i64 kd, .int .i64 N, .int .u32 D]) := Is.new wr _ _
      have HO : Hid (Cd (wr.alloc (.cells #[.int .i64 kd, .int .i64 N, .int .u32 D] 36)) (some ⟨g, 0, none⟩) s) := HRel.out.ob.keep ((Chg.refl none_ wr).alloc _)
      have HM : Hid (Is (wr.alloc (.cells #[.int .i64 kd, .int .i64 N, .int .u32 D] 36)) gm 31 #[.int .i64 (s).W, .int .i64 (s).h, .int .u64 (s).sp]) := HRel.out.mm.alloc _
      have HG := Lib.hid (HRel.out.ch.alloc (.cells #[.int .i64 kd, .int .i64 N, .int .u32 D] 36))
      clear HRel
      by_cases e1 : kd = 1
      · subst e1
        by_cases hN : N < 1 ∨ 2147483647 < N
        · skip
          have HN := Lib.hid hN
          clear hN
          go_wp2_with fail
          refine (crnew_no _ (HS.out.below (HG.out.old hB)) N HN.out).mono ?_
          rintro e w4 ⟨rfl, d4⟩
          have HO4 := Lib.hid (HO.out.dr d4)
          have HG4 := Lib.hid (HG.out.trans d4.chg)
          have HM4 : Hid (Is w4 gm 31 #[.int .i64 (s).W, .int .i64 (s).h, .int .u64 (s).sp]) := HM.out.chg (Dr.chg (S := none_) d4) (fun f => f)
          have y1 := (HIo.out.chg (Dr.chg (S := none_) d4) (fun f => f)).at_ 1 (.int .i64 N) rfl
          clear d4 HIo HO HG HM
          go_wp2_with fail
          refine (rcnew_nov w4 N HN.out).mono ?_
          rintro e w5 ⟨rfl, k5⟩
          have HOt : Hid (Cd (w5.alloc (.cells #[.int .i64 0, .int .i64 0, .int .u64 0] 31)) (some ⟨g, 0, none⟩) s) := (HO4.out.keep k5).keep ((Chg.refl none_ _).alloc _)
          have HMt : Hid (Is (w5.alloc (.cells #[.int .i64 0, .int .i64 0, .int .u64 0] 31)) gm 31 #[.int .i64 (s).W, .int .i64 (s).h, .int .u64 (s).sp]) := (HM4.out.chg k5 (fun f => f)).alloc _
          have HGt : Hid (Chg none_ w (w5.alloc (.cells #[.int .i64 0, .int .i64 0, .int .u64 0] 31))) := (HG4.out.trans k5).alloc _
          clear k5 y1 HO4 HM4 HG4
          go_wp2_with fail
          refine (code_any _ (HS.out.below (HGt.out.old hB)) 2 (by decide)).mono ?_
          rintro e w' ⟨rfl, rfl⟩
          have m1 := HMt.out.at_ 1 _ rfl
          have m2 := HMt.out.at_ 2 _ rfl
          have t0 : 0 ≤ s.h := HOt.out.ok.h0
          have t1 : s.h ≤ 2147483647 := Int.le_trans HOt.out.ok.h1 HOt.out.ok.W2
          have wH : IntKind.i64.wrap s.h = s.h := IntWalk.i64_in _ (by omega)
          go_wp2_with fail
          go_quiet (first | (go_at_call 16; refine Calls.quiet_of_same ((crhave_v _ (some ⟨g, 0, none⟩) s ?_ s.h rfl).mono fun e w' h => ⟨h.1, h.2.symm⟩); first | exact Cd.drN HOt.out | exact HOt.out) | (go_at_call 17; refine Calls.quiet_of_same ((crspent_v _ (some ⟨g, 0, none⟩) s ?_ s.sp rfl).mono fun e w' h => ⟨h.1, h.2.symm⟩); first | exact Cd.drN HOt.out | exact HOt.out))
          go_wp2_with fail
          go_roundw
          case rel => exact ⟨k + 1, g, s, by omega, by go_num, rfl, ⟨HOt.out.dr ⟨_, rfl⟩, HMt.out, HGt.out.drewN _, by omega, by omega⟩⟩
          case measure => simp [intOf]; omega
        · skip
          have N1 : 1 ≤ N := by omega
          have N2 : N ≤ 2147483647 := by omega
          go_wp2_with fail
          refine (crnew_ok _ N N1 N2).mono ?_
          rintro e w4 ⟨g', rfl, hg', o4, k4⟩
          have hlt := HM.out.lt
          have hne' : g' ≠ gm := by omega
          have hsz := HG.out.size
          have hgw' : w.heap.size ≤ g' := Nat.le_trans hsz hg'
          have HO4 : Hid (Cd w4 (some ⟨g', 0, none⟩) ⟨N, N, 0⟩) := o4
          have HG4 := Lib.hid (HG.out.trans k4)
          have HM4 : Hid (Is w4 gm 31 #[.int .i64 (s).W, .int .i64 (s).h, .int .u64 (s).sp]) := HM.out.chg k4 (fun f => f)
          have y1 := (HIo.out.chg k4 (fun f => f)).at_ 1 (.int .i64 N) rfl
          clear o4 k4 HIo HO HG HM hlt hsz hg'
          go_wp2_with fail
          refine (rcnew_v w4 N N1 N2).mono ?_
          rintro e w5 ⟨rfl, k5⟩
          have HO5 : Hid (Cd (w5.alloc (.cells #[.int .i64 N, .int .i64 N, .int .u64 0] 31)) (some ⟨g', 0, none⟩) ⟨N, N, 0⟩) := (HO4.out.keep k5).keep ((Chg.refl none_ _).alloc _)
          have HM5 : Hid (Is (w5.alloc (.cells #[.int .i64 N, .int .i64 N, .int .u64 0] 31)) gm 31 #[.int .i64 (s).W, .int .i64 (s).h, .int .u64 (s).sp]) := (HM4.out.chg k5 (fun f => f)).alloc _
          have HG5 : Hid (Chg none_ w (w5.alloc (.cells #[.int .i64 N, .int .i64 N, .int .u64 0] 31))) := (HG4.out.trans k5).alloc _
          have hg5 : Hid (gm ≠ w5.heap.size) := by have := (HM4.out.chg k5 (fun f => f) : Is w5 gm 31 #[.int .i64 (s).W, .int .i64 (s).h, .int .u64 (s).sp]).lt; exact Nat.ne_of_lt this
          clear k5 y1 HO4 HM4 HG4
          go_wp2_with fail
          refine (code_any _ (HS.out.below (HG5.out.old hB)) 0 (by decide)).mono ?_
          rintro e w' ⟨rfl, rfl⟩
          have z0 := HM5.out.at_ 0 _ rfl
          have z1 := HM5.out.at_ 1 _ rfl
          have z2 := HM5.out.at_ 2 _ rfl
          have f0 := HM5.out.frozen 0
          have f1 := HM5.out.frozen 1
          have f2 := HM5.out.frozen 2
          go_wp2_with fail
          go_region
          all_goals
            have HOt : Hid (Cd (World.drew ((((w5.alloc (.cells #[.int .i64 N, .int .i64 N, .int .u64 0] 31)).setCell ⟨gm, 0, none⟩ (.int .i64 N)).setCell ⟨gm, 1, none⟩ (.int .i64 N)).setCell ⟨gm, 2, none⟩ (.int .u64 0))) (some ⟨g', 0, none⟩) (⟨N, N, 0⟩ : Cr)) := Cd.dr1 (cd_put3 HO5.out (by omega) _ _ _)
            have HMt : Hid (Is (World.drew ((((w5.alloc (.cells #[.int .i64 N, .int .i64 N, .int .u64 0] 31)).setCell ⟨gm, 0, none⟩ (.int .i64 N)).setCell ⟨gm, 1, none⟩ (.int .i64 N)).setCell ⟨gm, 2, none⟩ (.int .u64 0))) gm 31 #[.int .i64 N, .int .i64 N, .int .u64 0]) := ((HM5.out.put 0 _).put 1 _).put 2 _
            have HGt : Hid (Chg none_ w (World.drew ((((w5.alloc (.cells #[.int .i64 N, .int .i64 N, .int .u64 0] 31)).setCell ⟨gm, 0, none⟩ (.int .i64 N)).setCell ⟨gm, 1, none⟩ (.int .i64 N)).setCell ⟨gm, 2, none⟩ (.int .u64 0)))) := (chg_put3 HG5.out hgm _ _ _).drew
            clear z0 z1 z2 f0 f1 f2 HO5 HM5 HG5
            generalize World.drew ((((w5.alloc (.cells #[.int .i64 N, .int .i64 N, .int .u64 0] 31)).setCell ⟨gm, 0, none⟩ (.int .i64 N)).setCell ⟨gm, 1, none⟩ (.int .i64 N)).setCell ⟨gm, 2, none⟩ (.int .u64 0)) = w6 at HOt HMt HGt ⊢
            have m1 := HMt.out.at_ 1 _ rfl
            have m2 := HMt.out.at_ 2 _ rfl
            have t0 : 0 ≤ N := HOt.out.ok.h0
            have t1 : N ≤ 2147483647 := Int.le_trans HOt.out.ok.h1 HOt.out.ok.W2
            have wH : IntKind.i64.wrap N = N := IntWalk.i64_in _ (by omega)
            go_wp2_with fail
            go_quiet (first | (go_at_call 16; refine Calls.quiet_of_same ((crhave_v _ (some ⟨g', 0, none⟩) (⟨N, N, 0⟩ : Cr) ?_ N rfl).mono fun e w' h => ⟨h.1, h.2.symm⟩); first | exact Cd.drN HOt.out | exact HOt.out) | (go_at_call 17; refine Calls.quiet_of_same ((crspent_v _ (some ⟨g', 0, none⟩) (⟨N, N, 0⟩ : Cr) ?_ 0 rfl).mono fun e w' h => ⟨h.1, h.2.symm⟩); first | exact Cd.drN HOt.out | exact HOt.out))
            go_wp2_with fail
            go_roundw
            case rel => exact ⟨k + 1, g', (⟨N, N, 0⟩ : Cr), by omega, by go_num, rfl, ⟨HOt.out.dr ⟨_, rfl⟩, HMt.out, HGt.out.drewN _, by omega, by omega⟩⟩
            case measure => simp [intOf]; omega
      · by_cases e2 : kd = 2
        · subst e2
          obtain ⟨T, hT⟩ : ∃ T, spS s N = T := ⟨_, rfl⟩
          obtain ⟨q, hq⟩ : ∃ q, spC s N = q := ⟨_, rfl⟩
          have hq2 : q ≤ 42 := hq ▸ spC_le s N
          have HT := Lib.hid hT
          have HQ := Lib.hid hq
          have HK : Hid (errv a (spC s N) = errv a q) := congrArg (errv a) HQ.out
          clear hT hq
          go_wp2_with fail
          refine (spend_c _ (HS.out.below (HG.out.old hB)) _ s HO.out N (errv a q) T HK.out HT.out).mono ?_
          rintro e w4 ⟨rfl, o4, k4⟩
          have HO4 := Lib.hid o4
          have HG4 := Lib.hid (at_newC hgw rfl HG.out k4)
          have HM4 : Hid (Is w4 gm 31 #[.int .i64 (s).W, .int .i64 (s).h, .int .u64 (s).sp]) := HM.out.chg k4 (off_g hne)
          have HI4 : Hid (Is w4 wr.heap.size 36 #[.int .i64 2, .int .i64 N, .int .u32 D]) := HIo.out.chg k4 (off_g hgl)
          have y1 := HI4.out.at_ 1 (.int .i64 N) rfl
          have y2 := HI4.out.at_ 2 (.int .u32 D) rfl
          have m0 := HM4.out.at_ 0 _ rfl
          have m1 := HM4.out.at_ 1 _ rfl
          have m2 := HM4.out.at_ 2 _ rfl
          clear o4 k4 HIo HI4 HO HG HM
          go_wp2_with fail
          refine (rspend_v w4 s hok.out N q T HQ.out HT.out).mono ?_
          rintro e w5 ⟨rfl, k5⟩
          have HO5 : Hid (Cd (w5.alloc (.cells #[.int .i64 (T).W, .int .i64 (T).h, .int .u64 (T).sp] 31)) (some ⟨g, 0, none⟩) T) := (HO4.out.keep k5).keep ((Chg.refl none_ _).alloc _)
          have HM5 : Hid (Is (w5.alloc (.cells #[.int .i64 (T).W, .int .i64 (T).h, .int .u64 (T).sp] 31)) gm 31 #[.int .i64 (s).W, .int .i64 (s).h, .int .u64 (s).sp]) := (HM4.out.chg k5 (fun f => f)).alloc _
          have HG5 : Hid (Chg none_ w (w5.alloc (.cells #[.int .i64 (T).W, .int .i64 (T).h, .int .u64 (T).sp] 31))) := (HG4.out.trans k5).alloc _
          have hg5 : Hid (gm ≠ w5.heap.size) := by have := (HM4.out.chg k5 (fun f => f) : Is w5 gm 31 #[.int .i64 (s).W, .int .i64 (s).h, .int .u64 (s).sp]).lt; exact Nat.ne_of_lt this
          clear k5 m0 m1 m2 y1 y2 HO4 HM4 HG4
          have z0 := HM5.out.at_ 0 _ rfl
          have z1 := HM5.out.at_ 1 _ rfl
          have z2 := HM5.out.at_ 2 _ rfl
          have f0 := HM5.out.frozen 0
          have f1 := HM5.out.frozen 1
          have f2 := HM5.out.frozen 2
          have HOt : Hid (Cd ((((w5.alloc (.cells #[.int .i64 (T).W, .int .i64 (T).h, .int .u64 (T).sp] 31)).setCell ⟨gm, 0, none⟩ (.int .i64 (T).W)).setCell ⟨gm, 1, none⟩ (.int .i64 (T).h)).setCell ⟨gm, 2, none⟩ (.int .u64 (T).sp)) (some ⟨g, 0, none⟩) T) := cd_put3 HO5.out (by omega) _ _ _
          have HMt : Hid (Is ((((w5.alloc (.cells #[.int .i64 (T).W, .int .i64 (T).h, .int .u64 (T).sp] 31)).setCell ⟨gm, 0, none⟩ (.int .i64 (T).W)).setCell ⟨gm, 1, none⟩ (.int .i64 (T).h)).setCell ⟨gm, 2, none⟩ (.int .u64 (T).sp)) gm 31 #[.int .i64 (T).W, .int .i64 (T).h, .int .u64 (T).sp]) := ((HM5.out.put 0 _).put 1 _).put 2 _
          have HGt : Hid (Chg none_ w ((((w5.alloc (.cells #[.int .i64 (T).W, .int .i64 (T).h, .int .u64 (T).sp] 31)).setCell ⟨gm, 0, none⟩ (.int .i64 (T).W)).setCell ⟨gm, 1, none⟩ (.int .i64 (T).h)).setCell ⟨gm, 2, none⟩ (.int .u64 (T).sp))) := chg_put3 HG5.out hgm _ _ _
          go_wp2_with fail
          refine (code_any _ (HS.out.below (HGt.out.old hB)) q hq2).mono ?_
          rintro e w' ⟨rfl, rfl⟩
          clear z0 z1 z2 f0 f1 f2 HO5 HM5 HG5
          have m1 := HMt.out.at_ 1 _ rfl
          have m2 := HMt.out.at_ 2 _ rfl
          have t0 : 0 ≤ T.h := HOt.out.ok.h0
          have t1 : T.h ≤ 2147483647 := Int.le_trans HOt.out.ok.h1 HOt.out.ok.W2
          have wH : IntKind.i64.wrap T.h = T.h := IntWalk.i64_in _ (by omega)
          go_wp2_with fail
          go_quiet (first | (go_at_call 16; refine Calls.quiet_of_same ((crhave_v _ (some ⟨g, 0, none⟩) T ?_ T.h rfl).mono fun e w' h => ⟨h.1, h.2.symm⟩); first | exact Cd.drN HOt.out | exact HOt.out) | (go_at_call 17; refine Calls.quiet_of_same ((crspent_v _ (some ⟨g, 0, none⟩) T ?_ T.sp rfl).mono fun e w' h => ⟨h.1, h.2.symm⟩); first | exact Cd.drN HOt.out | exact HOt.out))
          go_wp2_with fail
          go_roundw
          case rel => exact ⟨k + 1, g, T, by omega, by go_num, rfl, ⟨HOt.out.dr ⟨_, rfl⟩, HMt.out, HGt.out.drewN _, by omega, by omega⟩⟩
          case measure => simp [intOf]; omega
        · by_cases e3 : kd = 3
          · subst e3
            obtain ⟨T, hT⟩ : ∃ T, gaS s D = T := ⟨_, rfl⟩
            obtain ⟨q, hq⟩ : ∃ q, gaC s D = q := ⟨_, rfl⟩
            have hq2 : q ≤ 42 := hq ▸ gaC_le s D
            have HT := Lib.hid hT
            have HQ := Lib.hid hq
            have HK : Hid (errv a (gaC s D) = errv a q) := congrArg (errv a) HQ.out
            clear hT hq
            go_wp2_with fail
            refine (grant_c _ (HS.out.below (HG.out.old hB)) _ s HO.out D D0 D1 (errv a q) T HK.out HT.out).mono ?_
            rintro e w4 ⟨rfl, o4, k4⟩
            have HO4 := Lib.hid o4
            have HG4 := Lib.hid (at_newC hgw rfl HG.out k4)
            have HM4 : Hid (Is w4 gm 31 #[.int .i64 (s).W, .int .i64 (s).h, .int .u64 (s).sp]) := HM.out.chg k4 (off_g hne)
            have HI4 : Hid (Is w4 wr.heap.size 36 #[.int .i64 3, .int .i64 N, .int .u32 D]) := HIo.out.chg k4 (off_g hgl)
            have y1 := HI4.out.at_ 1 (.int .i64 N) rfl
            have y2 := HI4.out.at_ 2 (.int .u32 D) rfl
            have m0 := HM4.out.at_ 0 _ rfl
            have m1 := HM4.out.at_ 1 _ rfl
            have m2 := HM4.out.at_ 2 _ rfl
            clear o4 k4 HIo HI4 HO HG HM
            go_wp2_with fail
            refine (rgrant_v w4 s hok.out D D0 D1 q T HQ.out HT.out).mono ?_
            rintro e w5 ⟨rfl, k5⟩
            have HO5 : Hid (Cd (w5.alloc (.cells #[.int .i64 (T).W, .int .i64 (T).h, .int .u64 (T).sp] 31)) (some ⟨g, 0, none⟩) T) := (HO4.out.keep k5).keep ((Chg.refl none_ _).alloc _)
            have HM5 : Hid (Is (w5.alloc (.cells #[.int .i64 (T).W, .int .i64 (T).h, .int .u64 (T).sp] 31)) gm 31 #[.int .i64 (s).W, .int .i64 (s).h, .int .u64 (s).sp]) := (HM4.out.chg k5 (fun f => f)).alloc _
            have HG5 : Hid (Chg none_ w (w5.alloc (.cells #[.int .i64 (T).W, .int .i64 (T).h, .int .u64 (T).sp] 31))) := (HG4.out.trans k5).alloc _
            have hg5 : Hid (gm ≠ w5.heap.size) := by have := (HM4.out.chg k5 (fun f => f) : Is w5 gm 31 #[.int .i64 (s).W, .int .i64 (s).h, .int .u64 (s).sp]).lt; exact Nat.ne_of_lt this
            clear k5 m0 m1 m2 y1 y2 HO4 HM4 HG4
            have z0 := HM5.out.at_ 0 _ rfl
            have z1 := HM5.out.at_ 1 _ rfl
            have z2 := HM5.out.at_ 2 _ rfl
            have f0 := HM5.out.frozen 0
            have f1 := HM5.out.frozen 1
            have f2 := HM5.out.frozen 2
            have HOt : Hid (Cd ((((w5.alloc (.cells #[.int .i64 (T).W, .int .i64 (T).h, .int .u64 (T).sp] 31)).setCell ⟨gm, 0, none⟩ (.int .i64 (T).W)).setCell ⟨gm, 1, none⟩ (.int .i64 (T).h)).setCell ⟨gm, 2, none⟩ (.int .u64 (T).sp)) (some ⟨g, 0, none⟩) T) := cd_put3 HO5.out (by omega) _ _ _
            have HMt : Hid (Is ((((w5.alloc (.cells #[.int .i64 (T).W, .int .i64 (T).h, .int .u64 (T).sp] 31)).setCell ⟨gm, 0, none⟩ (.int .i64 (T).W)).setCell ⟨gm, 1, none⟩ (.int .i64 (T).h)).setCell ⟨gm, 2, none⟩ (.int .u64 (T).sp)) gm 31 #[.int .i64 (T).W, .int .i64 (T).h, .int .u64 (T).sp]) := ((HM5.out.put 0 _).put 1 _).put 2 _
            have HGt : Hid (Chg none_ w ((((w5.alloc (.cells #[.int .i64 (T).W, .int .i64 (T).h, .int .u64 (T).sp] 31)).setCell ⟨gm, 0, none⟩ (.int .i64 (T).W)).setCell ⟨gm, 1, none⟩ (.int .i64 (T).h)).setCell ⟨gm, 2, none⟩ (.int .u64 (T).sp))) := chg_put3 HG5.out hgm _ _ _
            go_wp2_with fail
            refine (code_any _ (HS.out.below (HGt.out.old hB)) q hq2).mono ?_
            rintro e w' ⟨rfl, rfl⟩
            clear z0 z1 z2 f0 f1 f2 HO5 HM5 HG5
            have m1 := HMt.out.at_ 1 _ rfl
            have m2 := HMt.out.at_ 2 _ rfl
            have t0 : 0 ≤ T.h := HOt.out.ok.h0
            have t1 : T.h ≤ 2147483647 := Int.le_trans HOt.out.ok.h1 HOt.out.ok.W2
            have wH : IntKind.i64.wrap T.h = T.h := IntWalk.i64_in _ (by omega)
            go_wp2_with fail
            go_quiet (first | (go_at_call 16; refine Calls.quiet_of_same ((crhave_v _ (some ⟨g, 0, none⟩) T ?_ T.h rfl).mono fun e w' h => ⟨h.1, h.2.symm⟩); first | exact Cd.drN HOt.out | exact HOt.out) | (go_at_call 17; refine Calls.quiet_of_same ((crspent_v _ (some ⟨g, 0, none⟩) T ?_ T.sp rfl).mono fun e w' h => ⟨h.1, h.2.symm⟩); first | exact Cd.drN HOt.out | exact HOt.out))
            go_wp2_with fail
            go_roundw
            case rel => exact ⟨k + 1, g, T, by omega, by go_num, rfl, ⟨HOt.out.dr ⟨_, rfl⟩, HMt.out, HGt.out.drewN _, by omega, by omega⟩⟩
            case measure => simp [intOf]; omega
          · skip
            have n1 : (kd == 1) = false := by simp [e1]
            have n2 : (kd == 2) = false := by simp [e2]
            have n3 : (kd == 3) = false := by simp [e3]
            have HOt := HO
            have HMt := HM
            have HGt := HG
            clear HO HM HG
            have m1 := HMt.out.at_ 1 _ rfl
            have m2 := HMt.out.at_ 2 _ rfl
            have t0 : 0 ≤ s.h := HOt.out.ok.h0
            have t1 : s.h ≤ 2147483647 := Int.le_trans HOt.out.ok.h1 HOt.out.ok.W2
            have wH : IntKind.i64.wrap s.h = s.h := IntWalk.i64_in _ (by omega)
            go_wp2_with fail
            go_quiet (first | (go_at_call 16; refine Calls.quiet_of_same ((crhave_v _ (some ⟨g, 0, none⟩) s ?_ s.h rfl).mono fun e w' h => ⟨h.1, h.2.symm⟩); first | exact Cd.drN HOt.out | exact HOt.out) | (go_at_call 17; refine Calls.quiet_of_same ((crspent_v _ (some ⟨g, 0, none⟩) s ?_ s.sp rfl).mono fun e w' h => ⟨h.1, h.2.symm⟩); first | exact Cd.drN HOt.out | exact HOt.out))
            go_wp2_with fail
            go_roundw
            case rel => exact ⟨k + 1, g, s, by omega, by go_num, rfl, ⟨HOt.out.dr ⟨_, rfl⟩, HMt.out, HGt.out.drewN _, by omega, by omega⟩⟩
            case measure => simp [intOf]; omega
    · obtain rfl : n = k := by omega
      go_wp2
      go_ret
      exact ⟨rfl, HRel.out.ch.old hB⟩
end Go.Proofs.YtohbjddhgdcggaaDoor
