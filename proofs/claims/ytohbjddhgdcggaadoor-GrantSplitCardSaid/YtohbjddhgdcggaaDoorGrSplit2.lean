/-
  The walk of culvertlaw08.GrantSplit.
  No condition of its own: the fact 'Sen' on the world; the arguments read as lists.
-/
import Derived.Test.YtohbjddhgdcggaaDoorGrSplit
namespace Go.Proofs.YtohbjddhgdcggaaDoor
open Go.RowKit

theorem arC_le (s : Gr) (n : Int) : arC s n ≤ 42 := by unfold arC; repeat' split <;> try omega
def whG (W n : Int) : Value := .agg #[.int .i64 W, .int .i64 n]

set_option maxRecDepth 100000 in
set_option maxHeartbeats 8000000 in
theorem split_walk {a : Nat → Addr} (w : World) (hs : Sen w.heap.size a w) (W N : Int) (N0 : -9223372036854775808 ≤ N) (N1 : N ≤ 9223372036854775807) (A A' : Option Addr) (n c n' c' : Nat) (zs os : List Int) (hz : zs.length = n) (ho : os.length = n') (hm : n ≤ 17592186044416) (hm' : n' ≤ 17592186044416) (hr : Rd w A n fun i => .int .i64 (zs.getD i 0)) (hr' : Rd w A' n' fun i => .int .i64 (os.getD i 0)) :
    Calls Tryd.prog 6 #[whG W N, .slice A n c, .slice A' n' c'] w fun e w' => e = .returned (.bool true) ∧ Below w.heap.size w w' := by
  have hB : w.heap.size ≤ w.heap.size := Nat.le_refl _
  have HS := Lib.hid hs
  have HR := Lib.hid hr
  have HR' := Lib.hid hr'
  have HZ := Lib.hid (And.intro hz ho)
  have HL : Hid (∀ ad, 0 < n → A = some ad → ad.block < w.heap.size) := fun ad hn e => hr.lt ad hn e
  have HL' : Hid (∀ ad, 0 < n' → A' = some ad → ad.block < w.heap.size) := fun ad hn e => hr'.lt ad hn e
  clear hs hr hr' hz ho
  unfold whG
  have c0 : Chg none_ w (w.alloc (.cells #[.int .i64 W, .int .i64 N] 49)) := (Chg.refl none_ w).alloc _
  have b0 : Is (w.alloc (.cells #[.int .i64 W, .int .i64 N] 49)) w.heap.size 49 #[.int .i64 W, .int .i64 N] := Is.new w _ _
  by_cases hW : W < 1 ∨ 2147483647 < W
  · have HW := Lib.hid hW
    clear hW
    have e2 : errv a 2 = .iface 87 (.pointer (some (a 2))) := rfl
    go_enter Tryd.func6, Tryd.ntmps6
    go_wp2_with fail
    refine (gfixed_any _ (HS.out.below (c0.old hB)) c0.size).mono ?_
    rintro e w1 ⟨rfl, k1⟩
    have c1 := c0.trans k1
    have b1 := b0.chg k1 (fun f => f)
    clear c0 b0 k1
    have q0 := b1.at_ 0 (.int .i64 W) rfl
    have q1 := b1.at_ 1 (.int .i64 N) rfl
    have hl := b1.lt
    clear b1
    go_wp2_with fail
    go_quiet (fail)
    go_wp2_with fail
    refine (grnew_no _ (HS.out.below ((c1.drewN _).old hB)) W HW.out).mono ?_
    rintro e w2 ⟨rfl, d2⟩
    have c2 := (c1.drewN _).trans d2.chg
    clear c1 d2 q0 q1
    go_wp2_with fail
    refine (grnew_no w2 (HS.out.below (c2.old hB)) W HW.out).mono ?_
    rintro e w3 ⟨rfl, d3⟩
    have c3 := c2.trans d3.chg
    clear c2 d3
    rw [e2]
    go_wp2
    go_ret
    exact ⟨rfl, c3.old hB⟩
  · have W1 : 1 ≤ W := by omega
    have W2 : W ≤ 2147483647 := by omega
    clear hW
    go_enter Tryd.func6, Tryd.ntmps6
    go_wp2_with fail
    refine (gfixed_any _ (HS.out.below (c0.old hB)) c0.size).mono ?_
    rintro e w1 ⟨rfl, k1⟩
    have c1 := c0.trans k1
    have b1 := b0.chg k1 (fun f => f)
    clear c0 b0 k1
    have q0 := b1.at_ 0 (.int .i64 W) rfl
    have q1 := b1.at_ 1 (.int .i64 N) rfl
    have hl := b1.lt
    clear b1
    have s1 := c1.size
    go_wp2_with fail
    go_quiet (fail)
    go_wp2_with fail
    refine (grnew_ok _ W W1 W2).mono ?_
    rintro e w2 ⟨ga, rfl, hga, oa, k2⟩
    have c2 := (c1.drewN _).trans k2
    have s2 := c2.size
    have hga : w1.heap.size ≤ ga := hga
    clear c1 k2 q0 q1
    go_wp2_with fail
    refine (grnew_ok w2 W W1 W2).mono ?_
    rintro e w3 ⟨gb, rfl, hgb, ob, k3⟩
    have hab : ga ≠ gb := by have := oa.low; omega
    have hga' : w.heap.size ≤ ga := by omega
    have hgb' : w.heap.size ≤ gb := by omega
    have HC3 := Lib.hid (c2.trans k3)
    have HA3 := Lib.hid (oa.keep k3)
    have HB3 := Lib.hid ob
    clear c2 oa ob k3 hga hgb s1 s2
    by_cases hN : N < 0 ∨ W < N
    · obtain ⟨hac, _⟩ := ar_out (Gr.new_ok W1 W2) (n := N) hN
      have hcl := arC_le (Gr.new W) N
      obtain ⟨q, hq⟩ : ∃ q, arC (Gr.new W) N = q + 1 := ⟨arC (Gr.new W) N - 1, by omega⟩
      have hq2 : q + 1 ≤ 42 := by omega
      have HAc := Lib.hid (show errv a (arC (Gr.new W) N) = errv a (q + 1) by rw [hq])
      have hne : ((((q + 1 : Nat) : Int)) != 0) = true := by simp; omega
      clear hac hcl hq
      rcases hN with hN | hN
      all_goals
        go_wp2_with fail
        refine (arrive_c w3 (HS.out.below (HC3.out.old hB)) _ _ HA3.out N N0 N1 _ _ HAc.out rfl).mono ?_
        rintro e w4 ⟨rfl, o4, k4⟩
        have HC4 := Lib.hid (at_new hga' rfl HC3.out k4)
        go_wp2_with fail
        refine (code_any w4 (HS.out.below (HC4.out.old hB)) (q + 1) hq2).mono ?_
        rintro e w' ⟨rfl, rfl⟩
        go_wp2
        go_ret
        exact ⟨rfl, HC4.out.old hB⟩
    · have hN0 : 0 ≤ N := by omega
      have hN2 : N ≤ W := by omega
      have HSpl : Hid (Spl N W 0 ⟨W - N, N, 0, W⟩) := by
        have ht := thr_le W1 W2
        exact ⟨⟨W1, W2, by simp only; omega, hN0, Int.le_refl _, by simp only; omega, by simp only; omega⟩, rfl, by simp only; omega, Int.le_refl _⟩
      obtain ⟨hac, has⟩ := ar_in (Gr.new_ok W1 W2) hN0 (show N ≤ (Gr.new W).l from hN2)
      have HAc := Lib.hid (show errv a (arC (Gr.new W) N) = .nilIface by rw [hac]; rfl)
      have HAs := Lib.hid (show arS (Gr.new W) N = ⟨W - N, N, 0, W⟩ by rw [has]; simp [Gr.new])
      clear hac has hN
      go_wp2_with fail
      refine (arrive_c w3 (HS.out.below (HC3.out.old hB)) _ _ HA3.out N N0 N1 _ _ HAc.out HAs.out).mono ?_
      rintro e w4 ⟨rfl, oa4, k4⟩
      have HC4 := Lib.hid (at_new hga' rfl HC3.out k4)
      have HA4 := Lib.hid oa4
      have HB4 := Lib.hid (HB3.out.chg k4 (off_at hab.symm))
      clear oa4 k4 HA3 HB3 HC3
      go_wp2_with fail
      refine (arrive_c w4 (HS.out.below (HC4.out.old hB)) _ _ HB4.out N N0 N1 _ _ HAc.out HAs.out).mono ?_
      rintro e w5 ⟨rfl, ob5, k5⟩
      have HC5 := Lib.hid (at_new hgb' rfl HC4.out k5)
      have HA5 := Lib.hid (HA4.out.chg k5 (off_at hab))
      have HB5 := Lib.hid ob5
      clear ob5 k5 HA4 HB4 HC4
      go_wp2_with fail
      refine (gall_any w5 (HS.out.below (HC5.out.old hB)) HC5.out.size ga hga' ⟨W - N, N, 0, W⟩ N W (by omega) HA5.out HSpl.out A n c zs HZ.out.1 hm (HR.out.below (HC5.out.old hB) HL.out) HL.out).mono ?_
      rintro e w6 ⟨x, sa, rfl, oa6, hsa, hua, k6⟩
      have HC6 := Lib.hid (at_new hga' rfl HC5.out k6)
      have HA6 := Lib.hid oa6
      have HB6 := Lib.hid (HB5.out.chg k6 (off_at hab.symm))
      clear oa6 k6 HA5 HB5 HC5
      go_wp2_with fail
      refine (gall_any w6 (HS.out.below (HC6.out.old hB)) HC6.out.size gb hgb' ⟨W - N, N, 0, W⟩ N W (by omega) HB6.out HSpl.out A' n' c' os HZ.out.2 hm' (HR'.out.below (HC6.out.old hB) HL'.out) HL'.out).mono ?_
      rintro e w7 ⟨y, sb, rfl, ob7, hsb, hub, k7⟩
      have HC7 := Lib.hid (at_new hgb' rfl HC6.out k7)
      have HA7 := Lib.hid (HA6.out.chg k7 (off_at hab))
      have HB7 := Lib.hid ob7
      clear ob7 k7 HA6 HB6 HC6
      have a1 := hsa.sum
      have a2 := hsa.ok.o1
      have a3 := hsa.ok.o0
      have a4 := hsa.x0
      have a5 := hsa.W
      have b1 := hsb.sum
      have b2 := hsb.ok.o1
      have b3 := hsb.ok.o0
      have b4 := hsb.x0
      have b5 := hsb.W
      rw [a5] at a2
      rw [b5] at b2
      have t1 := thr_le W1 W2
      have w1' : IntKind.i64.wrap (x - y) = x - y := IntWalk.i64_in _ (by omega)
      have w2' : IntKind.i64.wrap (y - x) = y - x := IntWalk.i64_in _ (by omega)
      have w3' : IntKind.i64.wrap (x + sa.o) = x + sa.o := IntWalk.i64_in _ (by omega)
      have w4' : IntKind.i64.wrap (y + sb.o) = y + sb.o := IntWalk.i64_in _ (by omega)
      have d1 : decide (x - y < thr W) = true := by simp; omega
      have d2 : decide (y - x < thr W) = true := by simp; omega
      have d3 : (x + sa.o == N) = true := by simp; omega
      have d4 : (y + sb.o == N) = true := by simp; omega
      have U1 := Lib.hid hua
      have U2 := Lib.hid hub
      clear hsa hsb hua hub a1 a2 a3 a4 a5 b1 b2 b3 b4 b5 t1
      have thr1 := Lib.hid (thr_any w7 W)
      have un1 := Lib.hid (gunread_any w7 _ _ HA7.out)
      have un2 := Lib.hid (gunread_any w7 _ _ HB7.out)
      rw [U1.out] at un1
      rw [U2.out] at un2
      go_wp2_with fail
      refine thr1.out.mono ?_
      rintro e w' ⟨rfl, rfl⟩
      go_wp2_with fail
      refine thr1.out.mono ?_
      rintro e w' ⟨rfl, rfl⟩
      go_wp2_with fail
      refine un1.out.mono ?_
      rintro e w' ⟨rfl, rfl⟩
      go_wp2_with fail
      refine un2.out.mono ?_
      rintro e w' ⟨rfl, rfl⟩
      go_wp2_with fail
      refine (gowed_any w7 _ _ HA7.out).mono ?_
      rintro e w' ⟨rfl, rfl⟩
      go_wp2_with fail
      refine (gowed_any w7 _ _ HB7.out).mono ?_
      rintro e w' ⟨rfl, rfl⟩
      go_wp2
      go_ret
      exact ⟨rfl, HC7.out.old hB⟩
end Go.Proofs.YtohbjddhgdcggaaDoor
