/-
  The walk of culvertlaw07.CreditNever.
  No condition of its own: the fact 'Sen' on the world; the script reads as rows.
-/
import Derived.Test.YtohbjddhgdcggaaDoorGrPure
import Derived.Test.YtohbjddhgdcggaaDoorRecs
import Derived.Deep.RegionHeld3
namespace Go.Proofs.YtohbjddhgdcggaaDoor
open Go.RowKit

theorem cd_none (w : World) : Cd w none Cr.none_ := .inl ⟨rfl, rfl⟩

set_option maxRecDepth 100000 in
set_option maxHeartbeats 8000000 in
theorem never_walk {a : Nat → Addr} (w : World) (hs : Sen w.heap.size a w) (W : Int) (A : Option Addr) (n c : Nat) (F : Nat → Nat → Value) (K0 K1 K2 : Nat → Int) (hr : Rds w A n 3 F) (h0 : ∀ i, i < n → F i 0 = .int .i64 (K0 i)) (h1 : ∀ i, i < n → F i 1 = .int .i64 (K1 i)) (h2 : ∀ i, i < n → F i 2 = .int .u32 (K2 i))
    (hb1 : ∀ i, i < n → -9223372036854775808 ≤ K1 i ∧ K1 i ≤ 9223372036854775807) (hb2 : ∀ i, i < n → 0 ≤ K2 i ∧ K2 i ≤ 4294967295) (hm : n ≤ 8796093022208) :
    Calls Tryd.prog 4 #[.int .i64 W, .slice A n c] w fun e w' => e = .returned (.bool true) ∧ Below w.heap.size w w' := by
  have hB : w.heap.size ≤ w.heap.size := Nat.le_refl _
  have HS := Lib.hid hs
  have HR := Lib.hid hr
  have HF := Lib.hid (And.intro h0 (And.intro h1 (And.intro h2 (And.intro hb1 hb2))))
  clear hs hr h0 h1 h2 hb1 hb2
  by_cases hW : W < 1 ∨ 2147483647 < W
  · have HW := Lib.hid hW
    have e2 : errv a 2 = .iface 87 (.pointer (some (a 2))) := rfl
    rcases hW with hW | hW
    all_goals
      go_enter Tryd.func4, Tryd.ntmps4
      go_wp2_with fail
      refine (awake_any w HS.out hB).mono ?_
      rintro e w1 ⟨rfl, c1⟩
      go_wp2_with fail
      refine (crnew_no w1 (HS.out.below (c1.old hB)) W HW.out).mono ?_
      rintro e w2 ⟨rfl, d2⟩
      have c2 := c1.trans d2.chg
      clear c1 d2
      go_wp2_with fail
      refine (code_any w2 (HS.out.below (c2.old hB)) 2 (by decide)).mono ?_
      rintro e w' ⟨rfl, rfl⟩
      go_wp2
      go_ret
      exact ⟨rfl, c2.old hB⟩
  · have W1 : 1 ≤ W := by omega
    have W2 : W ≤ 2147483647 := by omega
    clear hW
    go_enter Tryd.func4, Tryd.ntmps4
    go_wp2_with fail
    refine (awake_any w HS.out hB).mono ?_
    rintro e w1 ⟨rfl, c1⟩
    go_wp2_with fail
    refine (crnew_ok w1 W W1 W2).mono ?_
    rintro e w2 ⟨g, rfl, hg, o2, k2⟩
    have HC2 := Lib.hid (c1.trans k2)
    have hgw : w.heap.size ≤ g := Nat.le_trans c1.size hg
    have HO2 := Lib.hid o2
    clear c1 k2 hg o2
    go_wp2_with fail
    go_loopw [8, 9] (fun xh xi wr => ∃ (k : Nat) (s : Cr), k ≤ n ∧ xi = .int .i64 k ∧ xh = .int .i64 s.h ∧ Hid (s.W = W) ∧ Cd wr (some ⟨g, 0, none⟩) s ∧ Chg none_ w wr) (fun _ xi _ => n - (intOf xi).toNat)
    case atStart => exact ⟨0, Cr.new W, by omega, rfl, rfl, rfl, HO2.out, HC2.out⟩
    case round =>
      clear HO2 HC2
      obtain ⟨k, s, hk, rfl, rfl, HsW, ho, hg⟩ := hrel
      have HO := Lib.hid ho
      have HG := Lib.hid hg
      have hok := Lib.hid ho.ok
      have s0 := ho.ok.h0
      have s1 : s.h ≤ W := by have := ho.ok.h1; rw [HsW.out] at this; exact this
      clear ho hg
      by_cases hkn : k < n
      · obtain ⟨ad, rfl, hcell⟩ := HR.out (by omega)
        clear hcell
        have x0 := HR.out.f0 rfl (HG.out.old hB) (by decide) hkn
        have x1 := HR.out.fj rfl (HG.out.old hB) hkn (j := 1) (by decide) (by decide)
        have x2 := HR.out.fj rfl (HG.out.old hB) hkn (j := 2) (by decide) (by decide)
        rw [HF.out.1 k hkn] at x0
        rw [HF.out.2.1 k hkn] at x1
        rw [HF.out.2.2.1 k hkn] at x2
        obtain ⟨N0, N1⟩ := HF.out.2.2.2.1 k hkn
        obtain ⟨D0, D1⟩ := HF.out.2.2.2.2 k hkn
        generalize K0 k = kd at x0
        generalize K1 k = N at x1 N0 N1
        generalize K2 k = D at x2 D0 D1
        have HIo : Hid (Is (wr.alloc (.cells #[.int .i64 kd, .int .i64 N, .int .u32 D] 36)) wr.heap.size 36 #[.int .i64 kd, .int .i64 N, .int .u32 D]) := Is.new wr _ _
        have HOo : Hid (Cd (wr.alloc (.cells #[.int .i64 kd, .int .i64 N, .int .u32 D] 36)) (some ⟨g, 0, none⟩) s) := HO.out.keep ((Chg.refl none_ wr).alloc _)
        have HGo : Hid (Chg none_ w (wr.alloc (.cells #[.int .i64 kd, .int .i64 N, .int .u32 D] 36))) := HG.out.alloc _
        have hgl : Hid (wr.heap.size ≠ g) := by have := HO.out.low; show _ ≠ _; omega
        have hwh : IntKind.i64.wrap s.h = s.h := IntWalk.i64_in _ (by omega)
        clear HO HG
        by_cases e2 : kd = 2
        · subst e2
          by_cases hN0 : 0 ≤ N
          · by_cases hN1 : N ≤ s.h
            · obtain ⟨a1, a2⟩ := sp_in hok.out hN0 hN1
              have HEr := Lib.hid (show errv a (spC s N) = .nilIface by rw [a1]; rfl)
              have HSt := Lib.hid (show spS s N = ⟨s.W, s.h - N, (s.sp + N) % 18446744073709551616⟩ from a2)
              have HW5 : Hid ((⟨s.W, s.h - N, (s.sp + N) % 18446744073709551616⟩ : Cr).W = W) := HsW.out
              have hw1 : IntKind.i64.wrap (s.h - N) = s.h - N := IntWalk.i64_in _ (by omega)
              clear a1 a2
              go_wp2_with fail
              refine (spend_c _ (HS.out.below (HGo.out.old hB)) _ s HOo.out N .nilIface _ HEr.out HSt.out).mono ?_
              rintro e w5 ⟨rfl, o5, k5⟩
              have HO5 := Lib.hid o5
              have HG5 := Lib.hid (at_newC hgw rfl HGo.out k5)
              have HI5 : Hid (Is w5 wr.heap.size 36 #[.int .i64 2, .int .i64 N, .int .u32 D]) := HIo.out.chg k5 (fun h => by obtain ⟨x, e, hx⟩ := h; injection e with e; injection e with e _; have := hgl.out; omega)
              have y0 := HI5.out.at_ 0 (.int .i64 _) rfl
              have y1 := HI5.out.at_ 1 (.int .i64 N) rfl
              have y2 := HI5.out.at_ 2 (.int .u32 D) rfl
              clear o5 k5 HIo HOo HGo
              go_wp2_with fail
              refine (spend_nil w5 (HS.out.below (HG5.out.old hB)) N).mono ?_
              rintro e w' ⟨rfl, rfl⟩
              go_wp2_with fail
              refine (code_any w5 (HS.out.below (HG5.out.old hB)) 1 (by decide)).mono ?_
              rintro e w' ⟨rfl, rfl⟩
              go_wp2_with fail
              refine (crhave_any w5 _ _ HO5.out).mono ?_
              rintro e w' ⟨rfl, rfl⟩
              go_wp2_with fail
              go_roundw
              case rel => exact ⟨k + 1, (⟨s.W, s.h - N, (s.sp + N) % 18446744073709551616⟩ : Cr), by omega, by go_num, rfl, HW5.out, HO5.out, HG5.out⟩
              case measure => simp [intOf]; omega
            · have hNo : N < 0 ∨ s.h < N := by omega
              have hN2 : s.h < N := by omega
              obtain ⟨a1, a2, a3⟩ := sp_out hok.out hNo
              obtain ⟨q, hq⟩ : ∃ q, spC s N = q + 1 := ⟨spC s N - 1, by omega⟩
              have HEr := Lib.hid (show errv a (spC s N) = .iface 87 (.pointer (some (a (q + 1)))) by rw [hq]; rfl)
              have HSt := Lib.hid a3
              have HW5 := HsW
              clear a1 a2 a3 hq hNo
              go_wp2_with fail
              refine (spend_c _ (HS.out.below (HGo.out.old hB)) _ s HOo.out N _ _ HEr.out HSt.out).mono ?_
              rintro e w5 ⟨rfl, o5, k5⟩
              have HO5 := Lib.hid o5
              have HG5 := Lib.hid (at_newC hgw rfl HGo.out k5)
              have HI5 : Hid (Is w5 wr.heap.size 36 #[.int .i64 2, .int .i64 N, .int .u32 D]) := HIo.out.chg k5 (fun h => by obtain ⟨x, e, hx⟩ := h; injection e with e; injection e with e _; have := hgl.out; omega)
              have y0 := HI5.out.at_ 0 (.int .i64 _) rfl
              have y1 := HI5.out.at_ 1 (.int .i64 N) rfl
              have y2 := HI5.out.at_ 2 (.int .u32 D) rfl
              clear o5 k5 HIo HOo HGo
              go_wp2_with fail
              refine (spend_nil w5 (HS.out.below (HG5.out.old hB)) N).mono ?_
              rintro e w' ⟨rfl, rfl⟩
              go_wp2_with fail
              refine (code_any w5 (HS.out.below (HG5.out.old hB)) 1 (by decide)).mono ?_
              rintro e w' ⟨rfl, rfl⟩
              go_wp2_with fail
              refine (crhave_any w5 _ _ HO5.out).mono ?_
              rintro e w' ⟨rfl, rfl⟩
              go_wp2_with fail
              go_roundw
              case rel => exact ⟨k + 1, s, by omega, by go_num, rfl, HW5.out, HO5.out, HG5.out⟩
              case measure => simp [intOf]; omega
          · have hNo : N < 0 ∨ s.h < N := by omega
            have hN2 : N < 0 := by omega
            obtain ⟨a1, a2, a3⟩ := sp_out hok.out hNo
            obtain ⟨q, hq⟩ : ∃ q, spC s N = q + 1 := ⟨spC s N - 1, by omega⟩
            have HEr := Lib.hid (show errv a (spC s N) = .iface 87 (.pointer (some (a (q + 1)))) by rw [hq]; rfl)
            have HSt := Lib.hid a3
            have HW5 := HsW
            clear a1 a2 a3 hq hNo
            go_wp2_with fail
            refine (spend_c _ (HS.out.below (HGo.out.old hB)) _ s HOo.out N _ _ HEr.out HSt.out).mono ?_
            rintro e w5 ⟨rfl, o5, k5⟩
            have HO5 := Lib.hid o5
            have HG5 := Lib.hid (at_newC hgw rfl HGo.out k5)
            have HI5 : Hid (Is w5 wr.heap.size 36 #[.int .i64 2, .int .i64 N, .int .u32 D]) := HIo.out.chg k5 (fun h => by obtain ⟨x, e, hx⟩ := h; injection e with e; injection e with e _; have := hgl.out; omega)
            have y0 := HI5.out.at_ 0 (.int .i64 _) rfl
            have y1 := HI5.out.at_ 1 (.int .i64 N) rfl
            have y2 := HI5.out.at_ 2 (.int .u32 D) rfl
            clear o5 k5 HIo HOo HGo
            go_wp2_with fail
            refine (spend_nil w5 (HS.out.below (HG5.out.old hB)) N).mono ?_
            rintro e w' ⟨rfl, rfl⟩
            go_wp2_with fail
            refine (code_any w5 (HS.out.below (HG5.out.old hB)) 1 (by decide)).mono ?_
            rintro e w' ⟨rfl, rfl⟩
            go_wp2_with fail
            refine (crhave_any w5 _ _ HO5.out).mono ?_
            rintro e w' ⟨rfl, rfl⟩
            go_wp2_with fail
            go_roundw
            case rel => exact ⟨k + 1, s, by omega, by go_num, rfl, HW5.out, HO5.out, HG5.out⟩
            case measure => simp [intOf]; omega
        · by_cases e3 : kd = 3
          · subst e3
            have hGc : Hid (∀ (u : World) (hs : Sen w.heap.size a u) (p : Option Addr) (s : Cr) (h : Cd u p s) (er : Value) (s' : Cr), errv a (gaC s D) = er → gaS s D = s' → Calls Tryd.prog 14 #[.pointer p, .int .u32 D] u fun e w' => e = .returned er ∧ Cd w' p s' ∧ Chg (at_ p) u w') :=
              fun u hs p s h er s' he h' => grant_c u hs p s h D D0 D1 er s' he h'
            by_cases hD : s.h + D ≤ W
            · obtain ⟨a1, a2⟩ := ga_in hok.out (d := D) (by have := HsW.out; omega)
              have HEr := Lib.hid (show errv a (gaC s D) = .nilIface by rw [a1]; rfl)
              have HSt := Lib.hid (show gaS s D = ⟨s.W, s.h + D, s.sp⟩ from a2)
              have HW5 : Hid ((⟨s.W, s.h + D, s.sp⟩ : Cr).W = W) := HsW.out
              have hw1 : IntKind.i64.wrap (s.h + D) = s.h + D := IntWalk.i64_in _ (by omega)
              have hw2 : IntKind.i64.wrap D = D := IntWalk.i64_in _ (by omega)
              clear a1 a2
              go_wp2_with fail
              refine (hGc.out _ (HS.out.below (HGo.out.old hB)) _ s HOo.out .nilIface _ HEr.out HSt.out).mono ?_
              rintro e w5 ⟨rfl, o5, k5⟩
              have HO5 := Lib.hid o5
              have HG5 := Lib.hid (at_newC hgw rfl HGo.out k5)
              have HI5 : Hid (Is w5 wr.heap.size 36 #[.int .i64 3, .int .i64 N, .int .u32 D]) := HIo.out.chg k5 (fun h => by obtain ⟨x, e, hx⟩ := h; injection e with e; injection e with e _; have := hgl.out; omega)
              have y0 := HI5.out.at_ 0 (.int .i64 _) rfl
              have y1 := HI5.out.at_ 1 (.int .i64 N) rfl
              have y2 := HI5.out.at_ 2 (.int .u32 D) rfl
              clear o5 k5 HIo HOo HGo
              go_wp2_with fail
              refine (grant_nil w5 (HS.out.below (HG5.out.old hB)) D).mono ?_
              rintro e w' ⟨rfl, rfl⟩
              go_wp2_with fail
              refine (code_any w5 (HS.out.below (HG5.out.old hB)) 1 (by decide)).mono ?_
              rintro e w' ⟨rfl, rfl⟩
              go_wp2_with fail
              refine (crhave_any w5 _ _ HO5.out).mono ?_
              rintro e w' ⟨rfl, rfl⟩
              go_wp2_with fail
              go_roundw
              case rel => exact ⟨k + 1, (⟨s.W, s.h + D, s.sp⟩ : Cr), by omega, by go_num, rfl, HW5.out, HO5.out, HG5.out⟩
              case measure => simp [intOf]; omega
            · have hD2 : W < s.h + D := by omega
              obtain ⟨a1, a2⟩ := ga_out hok.out (d := D) (by have := HsW.out; omega)
              have HEr := Lib.hid (show errv a (gaC s D) = .iface 87 (.pointer (some (a 17))) by rw [a1]; rfl)
              have HSt := Lib.hid a2
              have HW5 := HsW
              have hw1 : IntKind.i64.wrap (s.h + D) = s.h + D := IntWalk.i64_in _ (by omega)
              have hw2 : IntKind.i64.wrap D = D := IntWalk.i64_in _ (by omega)
              clear a1 a2
              go_wp2_with fail
              refine (hGc.out _ (HS.out.below (HGo.out.old hB)) _ s HOo.out _ _ HEr.out HSt.out).mono ?_
              rintro e w5 ⟨rfl, o5, k5⟩
              have HO5 := Lib.hid o5
              have HG5 := Lib.hid (at_newC hgw rfl HGo.out k5)
              have HI5 : Hid (Is w5 wr.heap.size 36 #[.int .i64 3, .int .i64 N, .int .u32 D]) := HIo.out.chg k5 (fun h => by obtain ⟨x, e, hx⟩ := h; injection e with e; injection e with e _; have := hgl.out; omega)
              have y0 := HI5.out.at_ 0 (.int .i64 _) rfl
              have y1 := HI5.out.at_ 1 (.int .i64 N) rfl
              have y2 := HI5.out.at_ 2 (.int .u32 D) rfl
              clear o5 k5 HIo HOo HGo
              go_wp2_with fail
              refine (grant_nil w5 (HS.out.below (HG5.out.old hB)) D).mono ?_
              rintro e w' ⟨rfl, rfl⟩
              go_wp2_with fail
              refine (code_any w5 (HS.out.below (HG5.out.old hB)) 1 (by decide)).mono ?_
              rintro e w' ⟨rfl, rfl⟩
              go_wp2_with fail
              refine (crhave_any w5 _ _ HO5.out).mono ?_
              rintro e w' ⟨rfl, rfl⟩
              go_wp2_with fail
              go_roundw
              case rel => exact ⟨k + 1, s, by omega, by go_num, rfl, HW5.out, HO5.out, HG5.out⟩
              case measure => simp [intOf]; omega
          · have n2 : (kd == 2) = false := by simp [e2]
            have n3 : (kd == 3) = false := by simp [e3]
            go_wp2_with fail
            refine (crhave_any _ _ _ HOo.out).mono ?_
            rintro e w' ⟨rfl, rfl⟩
            go_wp2_with fail
            go_roundw
            case rel => exact ⟨k + 1, s, by omega, by go_num, rfl, HsW.out, HOo.out, HGo.out⟩
            case measure => simp [intOf]; omega
      · obtain rfl : n = k := by omega
        go_wp2_with fail
        refine (crhave_any wr none Cr.none_ (cd_none wr)).mono ?_
        rintro e w' ⟨rfl, rfl⟩
        go_wp2_with fail
        refine (crspent_any wr none Cr.none_ (cd_none wr)).mono ?_
        rintro e w' ⟨rfl, rfl⟩
        go_wp2
        go_ret
        exact ⟨rfl, HG.out.old hB⟩
end Go.Proofs.YtohbjddhgdcggaaDoor
