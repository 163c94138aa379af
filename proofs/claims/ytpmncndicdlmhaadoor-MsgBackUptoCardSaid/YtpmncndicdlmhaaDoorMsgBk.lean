/-
  The walk of MsgBack.
  No condition of its own: the fact 'Sen' on the world; sizes within the bulk.
-/
import Derived.Test.YtpmncndicdlmhaaDoorMsgPc
import Derived.Test.YtpmncndicdlmhaaDoorMsgRd
namespace Go.Proofs.YtpmncndicdlmhaaDoor
open Go.RowKit

/-- The messages that may be, among the first k. -/
def accM (most : Int) (ps : List (List Int)) (k : Nat) : List (List Int) := (ps.take k).filter fun m => decide ((m.length : Int) ≤ most)
theorem accM_succ {most : Int} {ps : List (List Int)} {k : Nat} {m : List Int} (h : ps[k]? = some m) : accM most ps (k + 1) = if (m.length : Int) ≤ most then accM most ps k ++ [m] else accM most ps k := by
  obtain ⟨hk, e⟩ := List.getElem?_eq_some_iff.1 h
  unfold accM
  rw [List.take_succ_eq_append_getElem hk, List.filter_append, e]
  by_cases hl : (m.length : Int) ≤ most
  · rw [if_pos hl]; simp [hl]
  · rw [if_neg hl]; simp [hl]
theorem accM_mem {most : Int} {ps : List (List Int)} {k : Nat} (hb : ∀ m ∈ ps, Byt m) : ∀ m ∈ accM most ps k, Byt m ∧ (m.length : Int) ≤ most := by
  intro m hm
  obtain ⟨h1, h2⟩ := List.mem_filter.1 hm
  exact ⟨hb m (List.mem_of_mem_take h1), by simpa using h2⟩
theorem accM_len (most : Int) (ps : List (List Int)) (k : Nat) : ((accM most ps k).flatMap encB).length ≤ 3 * k + ((ps.take k).map List.length).sum ∧ (accM most ps k).length ≤ k := by
  have key : ∀ l : List (List Int), ((l.filter fun m => decide ((m.length : Int) ≤ most)).flatMap encB).length ≤ 3 * l.length + (l.map List.length).sum ∧ (l.filter fun m => decide ((m.length : Int) ≤ most)).length ≤ l.length := by
    intro l
    induction l with
    | nil => simp
    | cons m l ih =>
      have hl := len_len m.length
      have he : (encB m).length = (lenB m.length).length + m.length := by unfold encB; rw [List.length_append]
      by_cases h : (m.length : Int) ≤ most
      · simp only [List.filter_cons, h, decide_true, if_true, List.flatMap_cons, List.length_append, List.length_cons, List.map_cons, List.sum_cons]
        omega
      · simp only [List.filter_cons, h, decide_false, Bool.false_eq_true, if_false, List.length_cons, List.map_cons, List.sum_cons]
        omega
  have h := key (ps.take k)
  have : (ps.take k).length ≤ k := by rw [List.length_take]; omega
  unfold accM
  omega

/-- What holds at the head of MsgBack's loop. -/
structure BkL (w wr : World) (most : Int) (ps : List (List Int)) (k : Nat) (vb vw : Value) (ws : List Value) : Prop where
  chg : Chg none_ w wr
  b : Ob wr w.heap.size 5 vb ((accM most ps k).flatMap encB).length (((accM most ps k).flatMap encB).map (Value.int .u8))
  wt : Ob wr w.heap.size 38 vw ws.length ws
  all : All2 (Bs w) ws (accM most ps k)
  one : ∀ u ∈ ws, u.oneCell' = true
  off : ∀ q, obk vb = some q → obk vw ≠ some q
theorem BkL.skip {w wr wr' : World} {most : Int} {ps : List (List Int)} {k : Nat} {vb vw : Value} {ws : List Value} (h : BkL w wr most ps k vb vw ws) (hc : Chg none_ wr wr') {m : List Int} (hm : ps[k]? = some m) (hl : ¬ (m.length : Int) ≤ most) : BkL w wr' most ps (k + 1) vb vw ws := by
  have e : accM most ps (k + 1) = accM most ps k := by rw [accM_succ hm, if_neg hl]
  exact ⟨h.chg.trans hc, by rw [e]; exact h.b.chg hc (fun _ _ f => f), h.wt.chg hc (fun _ _ f => f), by rw [e]; exact h.all, h.one, h.off⟩

set_option maxRecDepth 100000 in
set_option maxHeartbeats 8000000 in
theorem msgback_walk {a : Nat → Addr} (w : World) (hs : Sen w.heap.size a w) (most : Int) (v : Value) (us : List Value) (ps : List (List Int)) (hl : Lst w 0 v us ps) (hsum : us.length + (ps.map List.length).sum ≤ 1048576)
    (CA : Option Addr) (nc cc : Nat) (zs : List Int) (hz : zs.length = nc) (hcr : Rd w CA nc fun i => .int .i64 (zs.getD i 0)) (hzb : ∀ z ∈ zs, -9223372036854775808 ≤ z ∧ z ≤ 9223372036854775807) (hnc : nc ≤ 1048576) :
    Calls Tryd.prog 10 #[.int .i64 most, v, .slice CA nc cc] w fun e w' => e = .returned (.bool true) ∧ Below w.heap.size w w' := by
  obtain ⟨A, c, rfl, hncap, hr⟩ := hl.form
  have HS := Lib.hid hs
  have HLs := Lib.hid hl
  have HSum := Lib.hid hsum
  have HR := Lib.hid hr
  have HC : Hid (zs.length = nc ∧ (∀ z ∈ zs, -9223372036854775808 ≤ z ∧ z ≤ 9223372036854775807) ∧ nc ≤ 1048576) := ⟨hz, hzb, hnc⟩
  have HCR := Lib.hid hcr
  obtain ⟨n, hn⟩ : ∃ n, n = us.length := ⟨_, rfl⟩
  rw [← hn] at hncap ⊢
  have HN := Lib.hid hn
  have hn20 : n ≤ 1048576 := by omega
  have HPb : Hid (∀ m ∈ ps, Byt m) := fun m hm => by
    obtain ⟨i, hi⟩ := List.getElem?_of_mem hm
    exact (hl.all.get (vals_get (vs := us) (i := i) (by have := hl.len; have := (List.getElem?_eq_some_iff.1 hi).1; omega)) hi).byt
  clear hs hl hr hsum hn hz hzb hnc hcr
  by_cases hbad : most < 0 ∨ 1048576 < most
  · have HBad := Lib.hid hbad
    by_cases hneg : most < 0
    all_goals
      try have hpos : 1048576 < most := by omega
      try have hnn : 0 ≤ most := by omega
      clear hbad
      go_enter Tryd.func10, Tryd.ntmps10
      go_wp2_with fail
      refine (fixed_any _ HS.out (Nat.le_refl _)).mono ?_
      rintro e w1 ⟨rfl, k1⟩
      have HC1 := Lib.hid k1
      clear k1
      go_wp2_with fail
      go_loopw [7, 8, 20] (fun x7 x8 x wr => x7 = .slice none 0 0 ∧ x8 = .slice none 0 0 ∧ (∃ k : Nat, x = .int .i64 (k : Int) ∧ k ≤ n) ∧ Chg none_ w wr) (fun _ _ x _ => n - (intOf x).toNat)
      case atStart => exact ⟨rfl, rfl, ⟨0, rfl, Nat.zero_le _⟩, HC1.out⟩
      case round =>
        obtain ⟨rfl, rfl, ⟨k, rfl, hk⟩, hc⟩ := hrel
        have HW := Lib.hid hc
        clear hc
        by_cases hlt : k < n
        · obtain ⟨b, hb⟩ : ∃ b, ps[k]? = some b := ⟨_, List.getElem?_eq_getElem (by have := HLs.out.len; have := HN.out; omega)⟩
          have hbu := HLs.out.all.get (vals_get (vs := us) (i := k) (by have := HN.out; omega)) hb
          obtain ⟨ad, rfl, hcA⟩ := HR.out (by have := HN.out; omega)
          have hcell : Hid (wr.cell? (ad.add k) = some (us.getD k .nilIface)) := (World.cell?_of_block (HW.out.block _ (by rw [block_add]; exact HR.out.lt ad (by have := HN.out; omega) rfl) (fun f => f))).trans (hcA k (by have := HN.out; omega))
          obtain ⟨bv, hbv⟩ : ∃ bv, us.getD k .nilIface = bv := ⟨_, rfl⟩
          have hcl := hcell.out
          rw [hbv] at hbu hcl
          obtain ⟨Ab, nb, cb, rfl, _, _, _, _⟩ := hbu
          clear hb hcA hcell hbv
          go_wp2_with fail
          refine (encode_no2 wr (HS.out.below (HW.out.old (Nat.le_refl _))) _ most HBad.out).mono ?_
          rintro e w2 ⟨rfl, k2⟩
          rw [show errv a 2 = .iface 123 (.pointer (some (a 2))) from rfl]
          have HW2 : Hid (Chg none_ w w2) := HW.out.trans k2
          clear k2
          go_wp2
          go_roundw
          case rel => exact ⟨rfl, rfl, ⟨k + 1, by go_num, by omega⟩, HW2.out⟩
          case measure => simp [intOf]; omega
        · go_wp2_with fail
          refine (gives_no wr (HS.out.below (HW.out.old (Nat.le_refl _))) most HBad.out _ _).mono ?_
          rintro e w2 ⟨rfl, k2⟩
          have HW2 : Hid (Chg none_ w w2) := HW.out.trans k2
          clear k2
          go_wp2
          go_ret
          exact ⟨rfl, HW2.out.old (Nat.le_refl _)⟩
  · have HM : Hid (0 ≤ most ∧ most ≤ 1048576) := ⟨by omega, by omega⟩
    have hm0 : 0 ≤ most := by omega
    have hm1 : most ≤ 1048576 := by omega
    clear hbad
    go_enter Tryd.func10, Tryd.ntmps10
    go_wp2_with fail
    refine (fixed_any _ HS.out (Nat.le_refl _)).mono ?_
    rintro e w1 ⟨rfl, k1⟩
    have HC1 := Lib.hid k1
    clear k1
    go_wp2_with fail
    go_loopw [7, 8, 20] (fun x7 x8 x wr => ∃ (k : Nat) (ws : List Value), x = .int .i64 (k : Int) ∧ k ≤ n ∧ BkL w wr most ps k x7 x8 ws) (fun _ _ x _ => n - (intOf x).toNat)
    case atStart => exact ⟨0, [], rfl, Nat.zero_le _, HC1.out, ob_nil _ _ _ _, ob_nil _ _ _ _, .nil, (fun u hu => by simp at hu), fun q hq => by simp [obk] at hq⟩
    case round =>
      obtain ⟨k, ws, rfl, hk, hL⟩ := hrel
      have HL := Lib.hid hL
      clear hL
      obtain ⟨Avb, cvb, rfl, _, _⟩ := HL.out.b.slice
      obtain ⟨Avw, cvw, rfl, _, _⟩ := HL.out.wt.slice
      obtain ⟨bl, hbl'⟩ : ∃ bl, (accM most ps k).flatMap encB = bl := ⟨_, rfl⟩
      have HBL := Lib.hid hbl'
      rw [hbl']
      clear hbl'
      by_cases hlt : k < n
      · obtain ⟨b, hb⟩ : ∃ b, ps[k]? = some b := ⟨_, List.getElem?_eq_getElem (by have := HLs.out.len; have := HN.out; omega)⟩
        have hbu := HLs.out.all.get (vals_get (vs := us) (i := k) (by have := HN.out; omega)) hb
        obtain ⟨ad, rfl, hcA⟩ := HR.out (by have := HN.out; omega)
        have hcell : Hid (wr.cell? (ad.add k) = some (us.getD k .nilIface)) := (World.cell?_of_block (HL.out.chg.block _ (by rw [block_add]; exact HR.out.lt ad (by have := HN.out; omega) rfl) (fun f => f))).trans (hcA k (by have := HN.out; omega))
        obtain ⟨bv, hbv⟩ : ∃ bv, us.getD k .nilIface = bv := ⟨_, rfl⟩
        have hcl := hcell.out
        rw [hbv] at hbu hcl
        have HBw := Lib.hid hbu
        have HBr := Lib.hid (hbu.chg HL.out.chg fun _ _ f => f)
        obtain ⟨Ab, nb, cb, rfl, hlb, hbb, _, _⟩ := hbu
        subst hlb
        have HPk := Lib.hid hb
        have HBB := Lib.hid hbb
        have hts := take_sum hb
        have htk := take_sum_le ps (k + 1)
        have hac := accM_len most ps k
        have hbl : b.length ≤ 1048576 := by have := HSum.out; omega
        have HTK : Hid (((accM most ps k).flatMap encB).length ≤ 8388608 ∧ ws.length ≤ 1048576) := ⟨by have := HSum.out; omega, by have := HL.out.all.len; omega⟩
        clear hb hcA hcell hbv hbb hts htk hac
        by_cases hle : (b.length : Int) ≤ most
        · have hle' := Lib.hid hle
          have hleB : decide ((b.length : Int) ≤ most) = true := by simpa using hle
          go_wp2_with fail
          refine (encode_ok wr _ b HBr.out most hm0 hm1 hle).mono ?_
          rintro e w2 ⟨v2, rfl, q1, q2⟩
          obtain ⟨A2, c2, rfl, _, _⟩ := q1.slice
          have H2 := Lib.hid q1
          have HQ2 := Lib.hid q2
          obtain ⟨eb, heb⟩ : ∃ eb, encB b = eb := ⟨_, rfl⟩
          have HEB := Lib.hid heb
          rw [heb] at q1 ⊢
          have Hb2 : Hid (Ob w2 w.heap.size 5 (.slice Avb bl.length cvb) bl.length (bl.map (Value.int .u8))) := by
            have h := HL.out.b.chg q2 (fun _ _ f => f)
            rw [HBL.out] at h
            exact h
          have H2' : Hid (Bs w2 (.slice A2 eb.length c2) eb) := Bs.of_ob q1 (by rw [← heb]; exact (len_byt (by omega)).append HBB.out)
          have hes : eb.length ≤ 1048579 := by rw [← heb]; have := len_len b.length; unfold encB; rw [List.length_append]; omega
          have HLs2 : Hid (bl.length ≤ 8388608 ∧ ws.length ≤ 1048576 ∧ eb.length ≤ 1048579) := ⟨by rw [← HBL.out]; exact HTK.out.1, HTK.out.2, hes⟩
          have hws2 : Hid (w.heap.size ≤ w2.heap.size) := Nat.le_trans HL.out.chg.size q2.size
          clear q1 q2 heb hes hle
          go_wp2_with (at_builtin; refine wpList_append_bytes rfl (.tmp 47) (.tmp 48) rfl rfl Hb2.out A2 eb.length c2 eb rfl rfl H2'.out.rdG ?hb hws2.out ?_)
          case hb => have := HLs2.out; omega
          intro vb3 w3 k1 k2 k3
          have HK1 := Lib.hid k1
          have HK2 := Lib.hid (grown_chg k2)
          have HK3 := Lib.hid k3
          obtain ⟨A3, c3, rfl, _, _⟩ := k1.slice
          have Hw3 : Hid (Ob (w3.alloc (.cells #[.slice Ab b.length cb] 38)) w.heap.size 38 (.slice Avw ws.length cvw) ws.length ws) :=
            (HL.out.wt.chg HQ2.out (fun _ _ f => f)).chg (HK2.out.alloc _) fun q hq hb => by
              have := HL.out.off q (by rw [HBL.out]; exact hb)
              exact this hq
          have hws3 : Hid (w2.heap.size ≤ w3.heap.size) := HK2.out.size
          clear k1 k2 k3
          go_wp2_with (at_builtin; refine wpList_append_lists rfl (.tmp 50) (.tmp 52) rfl rfl Hw3.out (some ⟨w3.heap.size, 0, none⟩) 1 1 [.slice Ab b.length cb] rfl rfl ?hr ?h1 ?hb2 ?hs2 ?_)
          case hr => exact Is.rdV [.slice Ab b.length cb] (Is.new w3 _ _)
          case h1 => intro u hu; obtain rfl := List.mem_singleton.1 hu; rfl
          case hb2 => have := HLs2.out; omega
          case hs2 => have := hws2.out; have := hws3.out; simp; omega
          intro vw4 w4 k1 k2 k3
          have HN4 : Hid (BkL w w4 most ps (k + 1) (.slice A3 (bl.length + eb.length) c3) vw4 (ws ++ [.slice Ab b.length cb])) := by
            have e : accM most ps (k + 1) = accM most ps k ++ [b] := by rw [accM_succ HPk.out, if_pos hle'.out]
            have ef : (accM most ps k ++ [b]).flatMap encB = bl ++ eb := by rw [List.flatMap_append, HBL.out]; simp [HEB.out]
            have hvw := HL.out.wt.block
            have hvb := Hb2.out.block
            have hsz := HL.out.chg.size
            have hsr := HQ2.out.size
            have hs3 := hws3.out
            have hs2 := hws2.out
            have hk2' : Chg (fun q => obk (.slice Avw ws.length cvw) = some q) (w3.alloc (.cells #[.slice Ab b.length cb] 38)) w4 := grown_chg k2
            have hb3 := HK1.out.block
            have e3 : ∀ q, obk (.slice A3 (bl.length + eb.length) c3) = some q → obk (.slice Avw ws.length cvw) ≠ some q := fun q hq hq' => by
              rcases HK3.out with h | h
              · exact HL.out.off q (by rw [HBL.out, ← h]; exact hq) hq'
              · rw [h] at hq; injection hq with e; have := (hvw q hq').2; omega
            refine ⟨?_, ?_, ?_, ?_, ?_, ?_⟩
            · refine (((HL.out.chg.trans HQ2.out).then HK2.out fun q hq hb => by have := (hvb q hb).1; omega).alloc _).then hk2' fun q hq hb => by have := (hvw q hb).1; omega
            · rw [e, ef, List.length_append, List.map_append]
              exact (HK1.out.chg ((Chg.refl none_ w3).alloc _) (fun _ _ f => f)).chg hk2' fun q hq hb => e3 q hq hb
            · rw [List.length_append]; exact k1
            · rw [e]; exact HL.out.all.app (.cons HBw.out .nil)
            · intro u hu
              rcases List.mem_append.1 hu with hu | hu
              · exact HL.out.one u hu
              · obtain rfl := List.mem_singleton.1 hu; rfl
            · intro q hq hq'
              rcases k3 with h | h
              · exact e3 q hq (by rw [← h]; exact hq')
              · rw [h] at hq'; injection hq' with e'; have := (hb3 q hq).2; omega
          clear k1 k2 k3
          go_wp2
          go_roundw
          case rel => exact ⟨k + 1, _, by go_num, by omega, HN4.out⟩
          case measure => simp [intOf]; omega
        · have hleB : decide ((b.length : Int) ≤ most) = false := by simpa using hle
          have HLe := Lib.hid hle
          go_wp2_with fail
          refine (encode_no15 wr (HS.out.below (HL.out.chg.old (Nat.le_refl _))) Ab b.length cb most hm0 hm1 (by omega)).mono ?_
          rintro e w2 ⟨rfl, k2⟩
          rw [show errv a 15 = .iface 123 (.pointer (some (a 15))) from rfl]
          have HN4 : Hid (BkL w w2 most ps (k + 1) (.slice Avb bl.length cvb) (.slice Avw ws.length cvw) ws) := by
            have h := HL.out.skip k2 HPk.out (by have := HLe.out; omega)
            rw [HBL.out] at h
            exact h
          clear k2 hle
          go_wp2
          go_roundw
          case rel => exact ⟨k + 1, _, by go_num, by omega, HN4.out⟩
          case measure => simp [intOf]; omega
      · have hkn : k = n := by omega
        subst hkn
        have hacc := say_enc (most := most) hm1 (accM most ps k) (accM_mem HPb.out)
        rw [HBL.out] at hacc
        have HAcc := Lib.hid hacc
        have HBv : Hid (Bs wr (.slice Avb bl.length cvb) bl) := by
          have h := HL.out.b
          rw [HBL.out] at h
          exact Bs.of_ob h HAcc.out.1
        have hac := accM_len most ps k
        have htk := take_sum_le ps k
        have HTK : Hid (((accM most ps k).flatMap encB).length ≤ 8388608 ∧ (accM most ps k).length ≤ 1048576) := ⟨by have := HSum.out; omega, by omega⟩
        clear hacc hac htk
        go_wp2_with fail
        refine (gives_any wr (HS.out.below (HL.out.chg.old (Nat.le_refl _))) HL.out.chg.size most HM.out.1 HM.out.2 _ bl HBv.out (by have := HTK.out.1; rw [HBL.out] at this; omega) CA nc cc zs HC.out.1 (HCR.out.keep (HL.out.chg.old (Nat.le_refl _))) HC.out.2.1 (by have := HC.out.2.2; omega)).mono ?_
        rintro e w2 ⟨p, va, us2, hv, rfl, hp, hg⟩
        have hff : ffC most bl = 0 := by unfold ffC stS; rw [HAcc.out.2]; rfl
        rw [hff]
        obtain ⟨g, rfl⟩ : ∃ g, p = some g := by cases p; exact absurd rfl hp; exact ⟨_, rfl⟩
        have HG := Lib.hid hg
        have HC2 : Hid (Chg none_ w w2) := HL.out.chg.trans hg.chg
        have HLg : Hid (Lst w2 wr.heap.size va us2 (accM most ps k)) := by
          have h := hg.lst
          rw [HAcc.out.2] at h
          exact h
        have HLw : Hid (Lst w2 0 (.slice Avw ws.length cvw) ws (accM most ps k)) := by
          have ho := HL.out.wt.chg hg.chg (fun _ _ f => f)
          obtain ⟨A', c', e', hnc', _⟩ := ho.slice
          cases e'
          exact ⟨⟨_, _, rfl, hnc', ho.vals⟩, HL.out.all.mono fun u m hu _ hb => hb.chg HC2.out (fun _ _ f => f), fun _ _ => Nat.zero_le _, fun _ _ _ _ => Nat.zero_le _⟩
        have hul : Hid (us2.length ≤ 1099511627776) := by show _ ≤ _; have := HLg.out.len; have := HTK.out.2; omega
        clear hg hp hff
        rw [show errv a 0 = .nilIface from rfl]
        go_wp2_with fail
        refine (msame_any w2 HLg.out HLw.out hul.out).mono ?_
        rintro e w3 ⟨rfl, k3⟩
        rw [decide_eq_true rfl]
        have HC3 : Hid (Chg none_ w w3) := HC2.out.trans k3
        have HP3 := Lib.hid (HG.out.pr.keep k3)
        clear k3
        go_wp2_with fail
        refine (pheld_any w3 HP3.out).mono ?_
        rintro e w' ⟨rfl, rfl⟩
        rw [show hC most bl = 0 from by unfold hC stS; rw [if_neg (by have := HM.out; omega), HAcc.out.2]; rfl]
        go_wp2_with fail
        refine (pdone_any w3 (HS.out.below (HC3.out.old (Nat.le_refl _))) HP3.out).mono ?_
        rintro e w' ⟨rfl, rfl⟩
        rw [show dC most bl = 0 from by unfold dC stS; rw [if_neg (by have := HM.out; omega), HAcc.out.2]; rfl, show errv a 0 = .nilIface from rfl]
        go_wp2
        go_ret
        exact ⟨rfl, HC3.out.old (Nat.le_refl _)⟩
end Go.Proofs.YtpmncndicdlmhaaDoor
