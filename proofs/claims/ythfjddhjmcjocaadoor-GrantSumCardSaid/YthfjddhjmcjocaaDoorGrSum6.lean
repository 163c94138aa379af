/-
  The walk of culvertlaw08.GrantSum (printed by gen_gsum2.py).
  No condition of its own: the fact 'Sen6' on the world; the argument reads as rows.
-/
import Derived.Test.YthfjddhjmcjocaaDoorGrOnly6
import Derived.Test.YthfjddhjmcjocaaDoorRecs
import Derived.Deep.DeepCutAuto
import Derived.Deep.CutBlock
namespace Go.Proofs.YthfjddhjmcjocaaDoor
open Go.RowKit

structure SmR (w wr : World) (g : Nat) (W C S T : Int) (s : Gr) : Prop where
  r : Rc wr (some ⟨g, 0, none⟩) s
  sm : Sm C S T s
  W : s.W = W
  ch : Chg none_ w wr
theorem is_off {w w' : World} {b g : Nat} {t : TypeId} {cs : Array Value} (h : Is w b t cs) (hn : b ≠ g) (hc : Chg (at_ (some ⟨g, 0, none⟩)) w w') : Is w' b t cs := Is.chg h hc fun hs => by
  obtain ⟨g', e, rfl⟩ := hs
  injection e with e
  injection e with e _
  exact hn e.symm

set_option maxRecDepth 100000 in
set_option maxHeartbeats 8000000 in
theorem gsum_walk {a : Nat → Addr} (w : World) (hs : Sen6 w.heap.size a w) (W : Int) (Q : Option Addr) (n c : Nat) (F : Nat → Nat → Value) (K0 : Nat → Bool) (K1 : Nat → Int) (hm : n ≤ 8796093022208)
    (hr : Rds w Q n 2 F) (h0 : ∀ i, i < n → F i 0 = .bool (K0 i)) (h1 : ∀ i, i < n → F i 1 = .int .i64 (K1 i)) (hb1 : ∀ i, i < n → -9223372036854775808 ≤ K1 i ∧ K1 i ≤ 9223372036854775807) :
    Calls Tryd.prog 3 #[.int .i64 W, .slice Q n c] w fun e w' => e = .returned (.bool true) ∧ Below w.heap.size w w' := by
  have hB : w.heap.size ≤ w.heap.size := Nat.le_refl _
  have HS := Lib.hid hs
  have HR := Lib.hid hr
  have HF := Lib.hid (And.intro h0 (And.intro h1 hb1))
  clear hs hr h0 h1 hb1
  have e2 : errv a 2 = .iface 70 (.pointer (some (a 2))) := rfl
  by_cases hW : W < 1 ∨ 2147483647 < W
  · have HW := Lib.hid hW
    rcases hW with hW | hW
    all_goals
      go_enter Tryd.func3, Tryd.ntmps3
      go_wp2_with fail
      refine (gfixed_any w HS.out hB).mono ?_
      rintro e w1 ⟨rfl, c1⟩
      go_wp2_with fail
      refine (grnew_no w1 (HS.out.below (c1.old hB)) W HW.out).mono ?_
      rintro e w2 ⟨rfl, d2⟩
      have c2 := c1.trans d2.chg
      clear c1 d2
      rw [e2]
      go_wp2
      go_ret
      exact ⟨rfl, c2.old hB⟩
  have W1 : 1 ≤ W := by omega
  have W2 : W ≤ 2147483647 := by omega
  clear hW
  obtain ⟨t, ht⟩ : ∃ t, thr W = t := ⟨_, rfl⟩
  have HT := Lib.hid ht
  clear ht
  go_enter Tryd.func3, Tryd.ntmps3
  go_wp2_with fail
  refine (gfixed_any w HS.out hB).mono ?_
  rintro e w1 ⟨rfl, c1⟩
  go_wp2_with fail
  refine (grnew_ok w1 W W1 W2).mono ?_
  rintro e w2 ⟨g, rfl, hg, o2, k2⟩
  have hG : w.heap.size ≤ g := by have := c1.size; omega
  have H2 : Hid (SmR w w2 g W 0 0 0 (Gr.new W)) := ⟨o2, Sm.begin W, rfl, c1.trans k2⟩
  clear k2 c1 hg o2
  go_wp2_with fail
  go_loopw [7, 8, 9, 39] (fun xc xs xt i wr => ∃ (k : Nat) (C S T : Int) (s : Gr), k ≤ n ∧ i = .int .i64 k ∧ xc = .int .i64 C ∧ xs = .int .i64 S ∧ xt = .int .i64 T ∧ SmR w wr g W C S T s) (fun _ _ _ i _ => n - (intOf i).toNat)
  case atStart => exact ⟨0, 0, 0, 0, Gr.new W, by omega, rfl, rfl, rfl, rfl, H2.out⟩
  case round =>
    clear H2
    obtain ⟨k, C, S, T, s, hk, rfl, rfl, rfl, rfl, hrel⟩ := hrel
    have H := Lib.hid hrel
    have hok := Lib.hid hrel.r.ok
    obtain ⟨l0, l1, u0, u1, o0, o1, hsum⟩ := Sm.bd hrel.r.ok
    have hgl := hrel.r.low
    clear hrel
    by_cases hkn : k < n
    · obtain ⟨ad, rfl, hcell⟩ := HR.out (by omega)
      clear hcell
      have x0 := HR.out.f0 rfl (H.out.ch.old hB) (by decide) hkn
      have x1 := HR.out.fj rfl (H.out.ch.old hB) hkn (j := 1) (by decide) (by decide)
      rw [HF.out.1 k hkn] at x0
      rw [HF.out.2.1 k hkn] at x1
      obtain ⟨z0, z1⟩ := HF.out.2.2 k hkn
      generalize K1 k = z at x1 z0 z1
      generalize K0 k = cm at x0
      have hne : wr.heap.size ≠ g := by omega
      have HIo : Hid (Is (wr.alloc (.cells #[.bool cm, .int .i64 z] 30)) wr.heap.size 30 #[.bool cm, .int .i64 z]) := Is.new wr _ _
      have HO := Lib.hid (H.out.r.keep ((Chg.refl none_ wr).alloc (.cells #[.bool cm, .int .i64 z] 30)))
      have HG := Lib.hid (H.out.ch.alloc (.cells #[.bool cm, .int .i64 z] 30))
      have HSm := Lib.hid H.out.sm
      have HsW := Lib.hid H.out.W
      clear H
      go_wp2_with fail
      refine (gleft_any _ _ _ HO.out).mono ?_
      rintro e w' ⟨rfl, rfl⟩
      go_wp2_with fail
      refine (gunread_any _ _ _ HO.out).mono ?_
      rintro e w' ⟨rfl, rfl⟩
      go_wp2_with fail
      refine (gowed_any _ _ _ HO.out).mono ?_
      rintro e w' ⟨rfl, rfl⟩
      go_upto_if 50 with fail
      go_cut [7, 8, 9, 15] (fun xc xs xt xr wx => ∃ (C' S' T' : Int) (s' : Gr) (b : Bool), xc = .int .i64 C' ∧ xs = .int .i64 S' ∧ xt = .int .i64 T' ∧ xr = .bool b ∧ Hid (b = true → s' = s) ∧ SmR w wx g W C' S' T' s')
      case first =>
        cases cm with
        | true =>
          by_cases h1 : z < 0
          · have hz : z < 0 ∨ s.l < z := .inl h1
            obtain ⟨p0, p1⟩ := ar_out hok.out (n := z) hz
            obtain ⟨q, hq⟩ : ∃ q, arC s z = q + 1 := ⟨_, (Nat.succ_pred_eq_of_pos (Nat.pos_of_ne_zero p0)).symm⟩
            have HE := Lib.hid (show errv a (arC s z) = .iface 70 (.pointer (some (a (q + 1)))) by rw [hq]; rfl)
            have HP := Lib.hid p1
            clear p0 p1 hq
            have y1 := HIo.out.at_ 1 (.int .i64 z) rfl
            go_wp2_with fail
            refine (arrive_c _ (HS.out.below (HG.out.old hB)) _ s HO.out z z0 z1 _ _ HE.out HP.out).mono ?_
            rintro e w4 ⟨rfl, o4, k4⟩
            have HO4 := Lib.hid o4
            have HG4 := Lib.hid (at_new hG rfl HG.out k4)
            have HI4 := Lib.hid (is_off HIo.out hne k4)
            have y2 := HI4.out.at_ 1 (.int .i64 z) rfl
            clear o4 k4 HIo HO HG y1
            go_wp2_with fail
            go_meet
            exact ⟨C, S, T, s, true, rfl, rfl, rfl, rfl, fun _ => rfl, ⟨HO4.out, HSm.out, HsW.out, HG4.out⟩⟩
          · have h1 : 0 ≤ z := by omega
            by_cases h2 : s.l < z
            · have hz : z < 0 ∨ s.l < z := .inr h2
              obtain ⟨p0, p1⟩ := ar_out hok.out (n := z) hz
              obtain ⟨q, hq⟩ : ∃ q, arC s z = q + 1 := ⟨_, (Nat.succ_pred_eq_of_pos (Nat.pos_of_ne_zero p0)).symm⟩
              have HE := Lib.hid (show errv a (arC s z) = .iface 70 (.pointer (some (a (q + 1)))) by rw [hq]; rfl)
              have HP := Lib.hid p1
              clear p0 p1 hq
              have y1 := HIo.out.at_ 1 (.int .i64 z) rfl
              go_wp2_with fail
              refine (arrive_c _ (HS.out.below (HG.out.old hB)) _ s HO.out z z0 z1 _ _ HE.out HP.out).mono ?_
              rintro e w4 ⟨rfl, o4, k4⟩
              have HO4 := Lib.hid o4
              have HG4 := Lib.hid (at_new hG rfl HG.out k4)
              have HI4 := Lib.hid (is_off HIo.out hne k4)
              have y2 := HI4.out.at_ 1 (.int .i64 z) rfl
              clear o4 k4 HIo HO HG y1
              go_wp2_with fail
              go_meet
              exact ⟨C, S, T, s, true, rfl, rfl, rfl, rfl, fun _ => rfl, ⟨HO4.out, HSm.out, HsW.out, HG4.out⟩⟩
            · have h2 : z ≤ s.l := by omega
              have hz : 0 ≤ z ∧ z ≤ s.l := ⟨h1, h2⟩
              obtain ⟨p0, p1⟩ := ar_in hok.out (n := z) hz.1 hz.2
              have HE := Lib.hid (show errv a (arC s z) = .nilIface by rw [p0]; rfl)
              have HSm2 := HSm.out.arrive hok.out hz.1 hz.2
              simp only [IntWalk.i64_left] at HSm2
              have HSm2 := Lib.hid HSm2
              have HW2 : Hid ((arS s z).W = W) := by show _ = _; rw [p1]; exact HsW.out
              clear p0 p1
              have y1 := HIo.out.at_ 1 (.int .i64 z) rfl
              go_wp2_with fail
              refine (arrive_c _ (HS.out.below (HG.out.old hB)) _ s HO.out z z0 z1 _ _ HE.out rfl).mono ?_
              rintro e w4 ⟨rfl, o4, k4⟩
              have HO4 := Lib.hid o4
              have HG4 := Lib.hid (at_new hG rfl HG.out k4)
              have HI4 := Lib.hid (is_off HIo.out hne k4)
              have y2 := HI4.out.at_ 1 (.int .i64 z) rfl
              clear o4 k4 HIo HO HG y1
              go_wp2_with fail
              go_meet
              exact ⟨_, S, T, _, false, rfl, rfl, rfl, rfl, (fun h => absurd h (by decide)), ⟨HO4.out, HSm2.out, HW2.out, HG4.out⟩⟩
        | false =>
          by_cases h1 : z < 0
          · have hz : z < 0 ∨ s.u < z := .inl h1
            obtain ⟨p0, p1, p2⟩ := rd_out hok.out (n := z) hz
            obtain ⟨q, hq⟩ : ∃ q, rdC s z = q + 1 := ⟨_, (Nat.succ_pred_eq_of_pos (Nat.pos_of_ne_zero p0)).symm⟩
            have HE := Lib.hid (show errv a (rdC s z) = .iface 70 (.pointer (some (a (q + 1)))) by rw [hq]; rfl)
            have HP := Lib.hid p1
            have HV := Lib.hid p2
            clear p0 p1 hq p2
            have y1 := HIo.out.at_ 1 (.int .i64 z) rfl
            go_wp2_with fail
            refine (read_c _ (HS.out.below (HG.out.old hB)) _ s HO.out z z0 z1 _ _ _ HV.out HE.out HP.out).mono ?_
            rintro e w4 ⟨rfl, o4, k4⟩
            have HO4 := Lib.hid o4
            have HG4 := Lib.hid (at_new hG rfl HG.out k4)
            have HI4 := Lib.hid (is_off HIo.out hne k4)
            have y2 := HI4.out.at_ 1 (.int .i64 z) rfl
            clear o4 k4 HIo HO HG y1
            go_wp2_with fail
            go_meet
            exact ⟨C, S, T, s, true, rfl, rfl, rfl, rfl, fun _ => rfl, ⟨HO4.out, HSm.out, HsW.out, HG4.out⟩⟩
          · have h1 : 0 ≤ z := by omega
            by_cases h2 : s.u < z
            · have hz : z < 0 ∨ s.u < z := .inr h2
              obtain ⟨p0, p1, p2⟩ := rd_out hok.out (n := z) hz
              obtain ⟨q, hq⟩ : ∃ q, rdC s z = q + 1 := ⟨_, (Nat.succ_pred_eq_of_pos (Nat.pos_of_ne_zero p0)).symm⟩
              have HE := Lib.hid (show errv a (rdC s z) = .iface 70 (.pointer (some (a (q + 1)))) by rw [hq]; rfl)
              have HP := Lib.hid p1
              have HV := Lib.hid p2
              clear p0 p1 hq p2
              have y1 := HIo.out.at_ 1 (.int .i64 z) rfl
              go_wp2_with fail
              refine (read_c _ (HS.out.below (HG.out.old hB)) _ s HO.out z z0 z1 _ _ _ HV.out HE.out HP.out).mono ?_
              rintro e w4 ⟨rfl, o4, k4⟩
              have HO4 := Lib.hid o4
              have HG4 := Lib.hid (at_new hG rfl HG.out k4)
              have HI4 := Lib.hid (is_off HIo.out hne k4)
              have y2 := HI4.out.at_ 1 (.int .i64 z) rfl
              clear o4 k4 HIo HO HG y1
              go_wp2_with fail
              go_meet
              exact ⟨C, S, T, s, true, rfl, rfl, rfl, rfl, fun _ => rfl, ⟨HO4.out, HSm.out, HsW.out, HG4.out⟩⟩
            · have h2 : z ≤ s.u := by omega
              have hz : 0 ≤ z ∧ z ≤ s.u := ⟨h1, h2⟩
              obtain ⟨p0, p1, p2, p3, p4, p5, p6⟩ := rd_in hok.out (n := z) hz.1 hz.2
              have HE := Lib.hid (show errv a (rdC s z) = .nilIface by rw [p0]; rfl)
              have HSm2 := HSm.out.read hok.out hz.1 hz.2
              have HW2 : Hid ((rdS s z).W = W) := by show _ = _; rw [p3]; exact HsW.out
              obtain ⟨v, hv⟩ : ∃ v, rdV s z = v := ⟨_, rfl⟩
              rw [hv] at p5 p6 HSm2
              simp only [IntWalk.i64_left] at HSm2
              have HSm2 := Lib.hid HSm2
              have HV := Lib.hid hv
              have wv : IntKind.i64.wrap v = v := IntWalk.i64_in _ (by omega)
              clear p0 p1 p2 p3 p4 hv
              have y1 := HIo.out.at_ 1 (.int .i64 z) rfl
              go_wp2_with fail
              refine (read_c _ (HS.out.below (HG.out.old hB)) _ s HO.out z z0 z1 _ _ _ HV.out HE.out rfl).mono ?_
              rintro e w4 ⟨rfl, o4, k4⟩
              have HO4 := Lib.hid o4
              have HG4 := Lib.hid (at_new hG rfl HG.out k4)
              have HI4 := Lib.hid (is_off HIo.out hne k4)
              have y2 := HI4.out.at_ 1 (.int .i64 z) rfl
              clear o4 k4 HIo HO HG y1
              go_wp2_with fail
              go_meet
              exact ⟨C, _, _, _, false, rfl, rfl, rfl, rfl, (fun h => absurd h (by decide)), ⟨HO4.out, HSm2.out, HW2.out, HG4.out⟩⟩
      case rest =>
        obtain ⟨C', S', T', s', b, rfl, rfl, rfl, rfl, hb, hR⟩ := hcut
        have HR2 := Lib.hid hR.r
        have HG2 := Lib.hid hR
        have ok2 := hR.r.ok
        have q1 := hR.sm.unread ok2
        have q2 := hR.sm.owed ok2
        obtain ⟨a0, a1, b0, b1, c0, c1, sum2⟩ := Sm.bd ok2
        rw [hR.W] at sum2
        have ot : s'.o < t := by have h := ok2.o1; rw [hR.W, HT.out] at h; exact h
        have t1 : t ≤ 1073741824 := by have h := (thr_le W1 W2).2; rw [HT.out] at h; exact h
        have v1 : IntKind.i64.wrap (s'.l + s'.u) = s'.l + s'.u := IntWalk.i64_in _ (by omega)
        have v2 : IntKind.i64.wrap (s'.l + s'.u + s'.o) = W := by rw [sum2]; exact IntWalk.i64_in _ (by omega)
        have hz : (s'.l == 0) = false ∨ ((s'.l == 0) = true ∧ (s'.u == 0) = false) := by
          by_cases h : s'.l = 0
          · have h2 := thr_le W1 W2
            have h3 := thr_in W1 W2
            rw [HT.out] at h2 h3
            exact .inr ⟨by simp [h], by simp; omega⟩
          · exact .inl (by simp [h])
        clear ok2 hR
        cases b with
        | true =>
          obtain rfl := hb.out rfl
          clear hb
          rcases hz with hz | ⟨hz, hz2⟩
          all_goals
            go_wp2_with (first
              | (go_at_call 7; refine (gleft_any _ _ _ HR2.out).mono ?_; rintro e w' ⟨rfl, rfl⟩)
              | (go_at_call 8; refine (gunread_any _ _ _ HR2.out).mono ?_; rintro e w' ⟨rfl, rfl⟩)
              | (go_at_call 9; refine (gowed_any _ _ _ HR2.out).mono ?_; rintro e w' ⟨rfl, rfl⟩)
              | (go_at_call 12; refine (thr_c _ W t HT.out).mono ?_; rintro e w' ⟨rfl, rfl⟩))
            go_roundw
            case rel => exact ⟨k + 1, C', S', T', s', by omega, by go_num, rfl, rfl, rfl, HG2.out⟩
            case measure => simp [intOf]; omega
        | false =>
          clear hb
          rcases hz with hz | ⟨hz, hz2⟩
          all_goals
            go_wp2_with (first
              | (go_at_call 7; refine (gleft_any _ _ _ HR2.out).mono ?_; rintro e w' ⟨rfl, rfl⟩)
              | (go_at_call 8; refine (gunread_any _ _ _ HR2.out).mono ?_; rintro e w' ⟨rfl, rfl⟩)
              | (go_at_call 9; refine (gowed_any _ _ _ HR2.out).mono ?_; rintro e w' ⟨rfl, rfl⟩)
              | (go_at_call 12; refine (thr_c _ W t HT.out).mono ?_; rintro e w' ⟨rfl, rfl⟩))
            go_roundw
            case rel => exact ⟨k + 1, C', S', T', s', by omega, by go_num, rfl, rfl, rfl, HG2.out⟩
            case measure => simp [intOf]; omega
    · obtain rfl : n = k := by omega
      go_wp2
      go_ret
      exact ⟨rfl, H.out.ch.old hB⟩
end Go.Proofs.YthfjddhjmcjocaaDoor
