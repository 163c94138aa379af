/-
  The walk of MsgAll.
  No condition of its own: the fact 'Sen' on the world; sizes within the bulk.
-/
import Derived.Test.YtpmncndicdlmhaaDoorMsgPc
import Derived.WalkMore
namespace Go.Proofs.YtpmncndicdlmhaaDoor
open Go.RowKit

/-- Where the k-th framed message stands. -/
theorem cut_at {ms : List (List Int)} {xs r : List Int} (h : xs = ms.flatMap encB ++ r) {k : Nat} {m : List Int} (hm : ms[k]? = some m) :
    (xs.drop ((ms.take k).flatMap encB).length).take (encB m).length = encB m ∧ ((ms.take (k + 1)).flatMap encB).length = ((ms.take k).flatMap encB).length + (encB m).length ∧ ((ms.take k).flatMap encB).length + (encB m).length ≤ xs.length := by
  obtain ⟨hk, e⟩ := List.getElem?_eq_some_iff.1 hm
  have h1 : ms.take (k + 1) = ms.take k ++ [m] := by rw [List.take_succ_eq_append_getElem hk, e]
  have h2 : xs = (ms.take k).flatMap encB ++ (encB m ++ ((ms.drop (k + 1)).flatMap encB ++ r)) := by
    have h3 : ms = ms.take k ++ [m] ++ ms.drop (k + 1) := by rw [← h1]; exact (List.take_append_drop _ _).symm
    rw [h]
    conv => lhs; rw [h3]
    simp [List.flatMap_append]
  refine ⟨?_, by rw [h1, List.flatMap_append]; simp, ?_⟩
  · rw [h2, List.drop_left, List.take_left]
  · rw [h2]; simp only [List.length_append]; omega

set_option maxRecDepth 100000 in
set_option maxHeartbeats 8000000 in
theorem msgall_walk {a : Nat → Addr} (w : World) (hs : Sen w.heap.size a w) (most : Int) (v : Value) (xs : List Int) (hb : Bs w v xs) (hlen : xs.length ≤ 1048576) (CA : Option Addr) (nc cc : Nat) (zs : List Int) (hz : zs.length = nc)
    (hcr : Rd w CA nc fun i => .int .i64 (zs.getD i 0)) (hzb : ∀ z ∈ zs, -9223372036854775808 ≤ z ∧ z ≤ 9223372036854775807) (hnc : nc ≤ 1048576) :
    Calls Tryd.prog 11 #[.int .i64 most, v, .slice CA nc cc] w fun e w' => e = .returned (.bool true) ∧ Below w.heap.size w w' := by
  have HB := Lib.hid hb
  obtain ⟨A, N, c, rfl, hN, hby, hr, hncap⟩ := hb
  have HS := Lib.hid hs
  have HR := Lib.hid hr
  have HY := Lib.hid hby
  have HNx := Lib.hid hN
  have HL : Hid (N ≤ 1048576) := by show _ ≤ _; omega
  have HC : Hid (zs.length = nc ∧ (∀ z ∈ zs, -9223372036854775808 ≤ z ∧ z ≤ 9223372036854775807) ∧ nc ≤ 1048576) := ⟨hz, hzb, hnc⟩
  have HCR := Lib.hid hcr
  have HCap := Lib.hid hncap
  clear hs hr hby hN hlen hz hzb hnc hcr hncap
  by_cases hbad : most < 0 ∨ 1048576 < most
  · have HBad := Lib.hid hbad
    by_cases hneg : most < 0
    all_goals
      try have hpos : 1048576 < most := by omega
      try have hnn : 0 ≤ most := by omega
      clear hbad
      go_enter Tryd.func11, Tryd.ntmps11
      go_wp2_with fail
      refine (fixed_any _ HS.out (Nat.le_refl _)).mono ?_
      rintro e w1 ⟨rfl, k1⟩
      have HC1 := Lib.hid k1
      clear k1
      go_wp2_with fail
      refine (gives_no w1 (HS.out.below (HC1.out.old (Nat.le_refl _))) most HBad.out _ _).mono ?_
      rintro e w2 ⟨rfl, k2⟩
      have HC2 : Hid (Chg none_ w w2) := HC1.out.trans k2
      clear k2
      go_wp2
      go_ret
      exact ⟨rfl, HC2.out.old (Nat.le_refl _)⟩
  · have HM : Hid (0 ≤ most ∧ most ≤ 1048576) := ⟨by omega, by omega⟩
    clear hbad
    go_enter Tryd.func11, Tryd.ntmps11
    go_wp2_with fail
    refine (fixed_any _ HS.out (Nat.le_refl _)).mono ?_
    rintro e w1 ⟨rfl, k1⟩
    have HC1 := Lib.hid k1
    clear k1
    go_wp2_with fail
    refine (gives_any w1 (HS.out.below (HC1.out.old (Nat.le_refl _))) HC1.out.size most HM.out.1 HM.out.2 _ xs (HB.out.chg HC1.out fun _ _ f => f) (by have := HNx.out; have := HL.out; omega) CA nc cc zs HC.out.1 (HCR.out.keep (HC1.out.old (Nat.le_refl _))) HC.out.2.1 (by have := HC.out; omega)).mono ?_
    rintro e w2 ⟨p, va, us, hv, rfl, hp, hg⟩
    have HG := Lib.hid hg
    obtain ⟨g, rfl⟩ : ∃ g, p = some g := by cases p; exact absurd rfl hp; exact ⟨_, rfl⟩
    have HC2 : Hid (Chg none_ w w2) := HC1.out.trans hg.chg
    obtain ⟨Aa, ca, rfl, _, _⟩ := hg.all.slice
    obtain ⟨ms, hms⟩ : ∃ ms, (sayB most xs).1 = ms := ⟨_, rfl⟩
    have HMs := Lib.hid hms
    have HMem : Hid (Mem w2 w1.heap.size us ms) := by show Mem _ _ _ _; rw [← hms]; exact hg.mem
    have HVals := Lib.hid hg.all.vals
    obtain ⟨r, hback, hbm, hbr⟩ := say_back (most := most) xs HY.out
    rw [hms] at hback hbm
    have HBk : Hid (xs = ms.flatMap encB ++ r ∧ ∀ m ∈ ms, (m.length : Int) ≤ most) := ⟨hback, hbm⟩
    have HBr : Hid (stS most xs = some r ∨ stS most xs = none ∧ r ≠ []) := hbr
    obtain ⟨n, hn⟩ : ∃ n, n = us.length := ⟨_, rfl⟩
    rw [← hn]
    have HN : Hid (n = us.length ∧ n = ms.length ∧ n ≤ 1048576) := ⟨hn, by have := hg.mem.len; rw [hms] at this; omega, by have := hg.cnt HY.out; have := HNx.out; have := HL.out; omega⟩
    have hn20 : n ≤ 1048576 := HN.out.2.2
    have HTot : Hid ((ms.flatMap encB).length + r.length = N ∧ ms.take n = ms) := ⟨by rw [← List.length_append, ← hback]; exact HNx.out, List.take_of_length_le (by have := HN.out; omega)⟩
    clear hg hp hms hback hbm hbr hn
    obtain ⟨cf, hcf⟩ : ∃ cf, errv a (ffC most xs) = cf := ⟨_, rfl⟩
    have HCf := Lib.hid hcf
    rw [hcf]
    clear hcf
    go_wp2_with fail
    go_loopw [10, 35] (fun x10 x35 wr => ∃ (k at_ : Nat), x10 = .int .i64 (at_ : Int) ∧ x35 = .int .i64 (k : Int) ∧ k ≤ n ∧ at_ = ((ms.take k).flatMap encB).length ∧ Chg none_ w2 wr) (fun _ x35 _ => n - (intOf x35).toNat)
    case atStart => exact ⟨0, 0, rfl, rfl, Nat.zero_le _, rfl, Chg.refl _ _⟩
    case round =>
      obtain ⟨k, at_, rfl, rfl, hk, hat, hc⟩ := hrel
      have HW := Lib.hid hc
      have HAt := Lib.hid hat
      clear hc hat
      by_cases hlt : k < n
      · obtain ⟨m, hm⟩ : ∃ m, ms[k]? = some m := ⟨_, List.getElem?_eq_getElem (by have := HN.out; omega)⟩
        have hbu := HMem.out.all.get (vals_get (vs := us) (i := k) (by have := HN.out; omega)) hm
        obtain ⟨ad, rfl, hcA⟩ := HVals.out (by have := HN.out; omega)
        have hcell : Hid (wr.cell? (ad.add k) = some (us.getD k .nilIface)) := (World.cell?_of_block (HW.out.block _ (by rw [block_add]; exact HVals.out.lt ad (by have := HN.out; omega) rfl) (fun f => f))).trans (hcA k (by have := HN.out; omega))
        obtain ⟨bv, hbv⟩ : ∃ bv, us.getD k .nilIface = bv := ⟨_, rfl⟩
        have hcl := hcell.out
        rw [hbv] at hbu hcl
        have hbu2 : Bs w2 bv m := Bs.of_ob hbu.1 hbu.2
        have HBr2 := Lib.hid (hbu2.chg HW.out fun _ _ f => f)
        obtain ⟨Ab, nb, cb, rfl, hlb, hbb, _, _⟩ := hbu2
        clear hbu
        subst hlb
        have HMk := Lib.hid hm
        have HBB := Lib.hid hbb
        obtain ⟨c1, c2, c3⟩ := cut_at HBk.out.1 hm
        rw [← HAt.out] at c1 c2 c3
        rw [HNx.out] at c3
        have hlm : (m.length : Int) ≤ most := HBk.out.2 m (List.mem_of_getElem? hm)
        have HLm := Lib.hid hlm
        clear hm hcA hcell hbv hbb hlm
        go_wp2_with fail
        refine (encode_ok wr _ m HBr2.out most HM.out.1 HM.out.2 HLm.out).mono ?_
        rintro e w3 ⟨v2, rfl, q1, q2⟩
        obtain ⟨A2, c2', rfl, _, _⟩ := q1.slice
        have hebB : Byt (encB m) := (len_byt (by have := HLm.out; have := HM.out; omega)).append HBB.out
        have H2 : Hid (Bs w3 (.slice A2 (encB m).length c2') (encB m)) := Bs.of_ob q1 hebB
        have HW3 : Hid (Chg none_ w2 w3) := HW.out.trans q2
        obtain ⟨eb, heb⟩ : ∃ eb, encB m = eb := ⟨_, rfl⟩
        have HEB := Lib.hid heb
        rw [heb] at c1 c2 c3 H2 ⊢
        obtain ⟨el, hel⟩ : ∃ el, eb.length = el := ⟨_, rfl⟩
        rw [hel] at c1 c2 c3 H2 ⊢
        have HEL := Lib.hid hel
        have hsub := bs_sub (w := w3) (A := A) (R := xs) HNx.out HCap.out HY.out (HR.out.keep ((HC2.out.trans HW3.out).old (Nat.le_refl _))) c3
        rw [c1] at hsub
        have hbyE : Byt eb := by rw [← heb]; exact hebB
        obtain ⟨SA, sn, sc, eS, hl2, _, hr2, _⟩ := hsub
        cases eS
        obtain ⟨SA2, hSA⟩ : ∃ q, subA A at_ c = q := ⟨_, rfl⟩
        rw [hSA, Nat.add_sub_cancel_left] at hr2
        rw [Nat.add_sub_cancel_left] at hl2
        unfold subA at hSA
        have k2 : ∀ (Q : Nat) (dst : TypeId), Tryd.prog.underlying dst = some .string → (convert 38 dst (.slice SA2 el (c - at_))).run Tryd.prog (w3.drewN Q) = .ok (.string (strOfNums eb)) (w3.drewN Q) := fun Q => run_str (P := Tryd.prog) (c := c - at_) 38 5 Tryd.underlying38 Tryd.underlying5 hl2 (hr2.drewN Q)
        have k1 : ∀ (Q : Nat) (dst : TypeId), Tryd.prog.underlying dst = some .string → (convert 38 dst (.slice A2 el c2')).run Tryd.prog (w3.drewN Q) = .ok (.string (strOfNums eb)) (w3.drewN Q) := fun Q => run_str (P := Tryd.prog) (c := c2') 38 5 Tryd.underlying38 Tryd.underlying5 HEL.out (H2.out.rdG.drewN Q)
        obtain ⟨ae, hae⟩ : ∃ q, at_ + el = q := ⟨_, rfl⟩
        rw [hae] at c2 c3
        have hsn : ae - at_ = el := by omega
        have hq1 : (0 : Int) ≤ (at_ : Int) := by omega
        have hq2 : (at_ : Int) ≤ (ae : Int) := by omega
        have hq3 : (ae : Int) ≤ (c : Int) := by have := HCap.out; omega
        have hwr : IntKind.i64.wrap (ae : Int) = (ae : Int) := IntWalk.i64_in _ (by have := HL.out; omega)
        have hsum : ((at_ : Int) + (el : Int)) = (ae : Int) := by omega
        have hleI : ¬ ((N : Int) < (ae : Int)) := by omega
        have hleN : ¬ (N < ae) := by omega
        have HNext : Hid (ae = ((ms.take (k + 1)).flatMap encB).length) := c2.symm
        have HLast : Hid ((ae : Int) ≤ 1048576) := by show _ ≤ _; have := HL.out; omega
        clear hr2 hl2 hebB heb hel q1 q2 c1 c2 c3 hae hbyE
        go_wp2_with fail
        go_quiet (fail)
        go_wp2
        go_roundw
        case rel => exact ⟨k + 1, ae, by go_num, by go_num, by omega, HNext.out, HW3.out.drewN _⟩
        case measure => simp [intOf]; omega
      · have hkn : k = n := by omega
        have hS : Hid (Sen w.heap.size a wr) := HS.out.below ((HC2.out.trans HW.out).old (Nat.le_refl _))
        have HP := Lib.hid (HG.out.pr.keep HW.out)
        have hat2 : at_ + r.length = N := by rw [HAt.out, hkn, HTot.out.2]; exact HTot.out.1
        have HAN : Hid (Below w.heap.size w wr) := (HC2.out.trans HW.out).old (Nat.le_refl _)
        have hN20 : N ≤ 1048576 := HL.out
        obtain ⟨rl, hrl⟩ : ∃ q, r.length = q := ⟨_, rfl⟩
        rw [hrl] at hat2
        have HRl := Lib.hid hrl
        have hsI : (N : Int) - (at_ : Int) = (rl : Int) := by omega
        clear hrl hlt
        rcases HBr.out with hst | ⟨hst, hrn⟩
        · have h0 : cf = .nilIface := by rw [← HCf.out]; unfold ffC; rw [hst]; rfl
          have hH : hC most xs = rl := by unfold hC; rw [if_neg (by have := HM.out; omega), hst]; exact HRl.out
          have hD : dC most xs = if 0 < rl then 3 else 0 := by unfold dC; rw [if_neg (by have := HM.out; omega), hst]; show (if 0 < r.length then 3 else 0) = _; rw [HRl.out]
          have HH := Lib.hid hH
          subst h0
          clear hst hH
          by_cases hr0 : 0 < rl
          · have HD : Hid (dC most xs = 3) := by show _ = _; rw [hD, if_pos hr0]
            have hne : ¬ at_ = N := by omega
            have hneB : ((at_ : Int) == (N : Int)) = false := by rw [beq_eq_false_iff_ne]; omega
            clear hD
            go_wp2_with fail
            refine (pheld_any wr HP.out).mono ?_
            rintro e w' ⟨rfl, rfl⟩
            rw [HH.out]
            go_wp2_with fail
            refine (pdone_any wr hS.out HP.out).mono ?_
            rintro e w' ⟨rfl, rfl⟩
            rw [HD.out, show errv a 3 = .iface 123 (.pointer (some (a 3))) from rfl]
            go_wp2
            go_ret
            exact ⟨rfl, HAN.out⟩
          · have HD : Hid (dC most xs = 0) := by show _ = _; rw [hD, if_neg hr0]
            have hneB : ((at_ : Int) == (N : Int)) = true := by rw [beq_iff_eq]; omega
            clear hD
            go_wp2_with fail
            refine (pheld_any wr HP.out).mono ?_
            rintro e w' ⟨rfl, rfl⟩
            rw [HH.out]
            go_wp2_with fail
            refine (pdone_any wr hS.out HP.out).mono ?_
            rintro e w' ⟨rfl, rfl⟩
            rw [HD.out, show errv a 0 = .nilIface from rfl]
            go_wp2
            go_ret
            exact ⟨rfl, HAN.out⟩
        · have h0 : cf = errv a 15 := by rw [← HCf.out]; unfold ffC; rw [hst]; rfl
          have HH : Hid (hC most xs = 0) := by show _ = _; unfold hC; rw [if_neg (by have := HM.out; omega), hst]; rfl
          have HD : Hid (dC most xs = 34) := by show _ = _; unfold dC; rw [if_neg (by have := HM.out; omega), hst]; rfl
          have hlt2 : at_ < N := by have := List.length_pos_iff.2 hrn; have := HRl.out; omega
          have hltI : (at_ : Int) < (N : Int) := by omega
          have e15 : errv a 15 = .iface 123 (.pointer (some (a 15))) := rfl
          have E15 := Lib.hid e15
          rw [e15] at h0
          subst h0
          clear hst hrn e15
          go_wp2_with fail
          rw [← E15.out]
          refine (code_any wr hS.out 15 (by decide)).mono ?_
          rintro e w' ⟨rfl, rfl⟩
          go_wp2_with fail
          refine (pheld_any wr HP.out).mono ?_
          rintro e w' ⟨rfl, rfl⟩
          rw [HH.out]
          go_wp2_with fail
          refine (pdone_any wr hS.out HP.out).mono ?_
          rintro e w' ⟨rfl, rfl⟩
          rw [HD.out]
          go_wp2_with fail
          refine (code_any wr hS.out 34 (by decide)).mono ?_
          rintro e w' ⟨rfl, rfl⟩
          go_wp2
          go_ret
          exact ⟨rfl, HAN.out⟩
end Go.Proofs.YtpmncndicdlmhaaDoor
