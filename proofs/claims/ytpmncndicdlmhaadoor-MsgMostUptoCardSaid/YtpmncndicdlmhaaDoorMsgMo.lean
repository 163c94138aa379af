/-
  The walk of MsgMost.
  No condition of its own: the fact 'Sen' on the world; sizes within the bulk.
-/
import Derived.Test.YtpmncndicdlmhaaDoorMsgTwo
import Derived.Test.YtpmncndicdlmhaaDoorMsgRd
namespace Go.Proofs.YtpmncndicdlmhaaDoor
open Go.RowKit

theorem SdL.new {w wa wb : World} {g : Nat} {most : Int} (hw : Chg none_ w wa) (h0 : 0 ≤ most) (h1 : most ≤ 1048576) (r : Rdr wb wa.heap.size g most (some []) (.slice none 0 0)) (hg : wa.heap.size ≤ g) (c : Chg none_ wa wb) :
    SdL w wb (some ⟨g, 0, none⟩) most [] (.slice none 0 0) [] (.slice none 0 0) (fun k => wa.heap.size ≤ k ∧ k < wb.heap.size) := by
  have hsz := hw.size
  have hP : Pr wb wa.heap.size (some ⟨g, 0, none⟩) most [] (.slice none 0 0) := .inr ⟨h0, h1, g, rfl, by rw [stS_nil]; exact r, hg⟩
  have hP2 : Pr wb w.heap.size (some ⟨g, 0, none⟩) most [] (.slice none 0 0) := .inr ⟨h0, h1, g, rfl, by rw [stS_nil]; exact ⟨r.is, ob_nil _ _ _ _, r.byt, r.ne, r.no⟩, Nat.le_trans hsz hg⟩
  refine ⟨⟨hw.trans c, hP2, ob_nil _ _ _ _, ?_, (fun u hu => by simp at hu), fun k hk => by simp [obk] at hk⟩, fun k hk => ⟨by omega, hk.2⟩, fun k hk => hP.own k hk, (fun k hk => by simp [obk] at hk), fun u hu => by simp at hu⟩
  rw [say_few rfl]
  exact Mem.nil _ _
/-- A list's beginning. -/
theorem Ob.front {w : World} {lo : Nat} {A : Option Addr} {c : Nat} {us : List Value} {ms : List (List Int)} (ho : Ob w lo 38 (.slice A us.length c) us.length us) (hm : Mem w lo us ms) {m : Nat} (hle : m ≤ us.length) (hc : us.length ≤ c) : Lst w 0 (.slice A m c) (us.take m) (ms.take m) := by
  refine ⟨⟨A, c, by rw [List.length_take, Nat.min_eq_left hle], by rw [List.length_take]; omega, fun hp => ?_⟩, All2.of (by rw [List.length_take, List.length_take, hm.len]) fun i u x hu hx => ?_, fun _ _ => Nat.zero_le _, fun _ _ _ _ => Nat.zero_le _⟩
  · rw [List.length_take] at hp ⊢
    obtain ⟨ad, e, h⟩ := ho.vals (by omega)
    refine ⟨ad, e, fun i hi => ?_⟩
    rw [h i (by omega)]
    show some (us.getD i .nilIface) = some ((us.take m).getD i .nilIface)
    rw [List.getD_eq_getElem?_getD, List.getD_eq_getElem?_getD, List.getElem?_take, if_pos (by omega)]
  · rw [List.getElem?_take] at hu hx
    by_cases hi : i < m
    · rw [if_pos hi] at hu hx
      exact hm.bs.get hu hx
    · rw [if_neg hi] at hu
      cases hu

theorem hC_le {most : Int} {F : List Int} (hm : 0 ≤ most) (hF : Byt F) : (hC most F : Int) ≤ most + 2 := by
  unfold hC
  rw [if_neg (by omega)]
  cases h : stS most F with
  | none => show ((0 : Nat) : Int) ≤ _; omega
  | some r => exact say_rest hm F hF r h
/-- What holds at the head of MsgMost's loop. -/
def MoL (w wr : World) (p q : Option Addr) (most M : Int) (ps : List (List Int)) (k : Nat) (va vb : Value) : Prop :=
  ∃ (C : List Int) (us vs : List Value) (hv hu : Value) (S T : Nat → Prop), Byt C ∧ C.length = ((ps.take k).map List.length).sum ∧ SdL w wr p most C va us hv S ∧ SdL w wr q M C vb vs hu T ∧ ∀ j, S j → ¬ T j

set_option maxRecDepth 100000 in
set_option maxHeartbeats 8000000 in
theorem msgmost_walk {a : Nat → Addr} (w : World) (hs : Sen w.heap.size a w) (most more : Int) (hmb : -9223372036854775808 ≤ most ∧ most ≤ 9223372036854775807) (hrb : -9223372036854775808 ≤ more ∧ more ≤ 9223372036854775807) (v : Value) (us : List Value) (ps : List (List Int)) (hl : Lst w 0 v us ps) (hsum : us.length + (ps.map List.length).sum ≤ 1048576) :
    Calls Tryd.prog 12 #[.int .i64 most, .int .i64 more, v] w fun e w' => e = .returned (.bool true) ∧ Below w.heap.size w w' := by
  obtain ⟨A, c, rfl, hncap, hr⟩ := hl.form
  have HS := Lib.hid hs
  have HLs := Lib.hid hl
  have HSum := Lib.hid hsum
  have HR := Lib.hid hr
  obtain ⟨n, hn⟩ : ∃ n, n = us.length := ⟨_, rfl⟩
  rw [← hn] at hncap ⊢
  have HN := Lib.hid hn
  have hn20 : n ≤ 1048576 := by omega
  clear hs hl hr hsum hn
  obtain ⟨m1, m2⟩ := hmb
  obtain ⟨m3, m4⟩ := hrb
  by_cases hbad : most < 0 ∨ more < 0 ∨ 1048576 < most ∨ 1048576 - most < more
  · by_cases b1 : most < 0
    · clear hbad
      go_enter Tryd.func12, Tryd.ntmps12
      go_wp2_with fail
      refine (fixed_any _ HS.out (Nat.le_refl _)).mono ?_
      rintro e w1 ⟨rfl, k1⟩
      have HC1 := Lib.hid k1
      clear k1
      go_wp2
      go_ret
      exact ⟨rfl, HC1.out.old (Nat.le_refl _)⟩
    · by_cases b2 : more < 0
      · clear hbad
        go_enter Tryd.func12, Tryd.ntmps12
        go_wp2_with fail
        refine (fixed_any _ HS.out (Nat.le_refl _)).mono ?_
        rintro e w1 ⟨rfl, k1⟩
        have HC1 := Lib.hid k1
        clear k1
        go_wp2
        go_ret
        exact ⟨rfl, HC1.out.old (Nat.le_refl _)⟩
      · by_cases b3 : 1048576 < most
        · clear hbad
          go_enter Tryd.func12, Tryd.ntmps12
          go_wp2_with fail
          refine (fixed_any _ HS.out (Nat.le_refl _)).mono ?_
          rintro e w1 ⟨rfl, k1⟩
          have HC1 := Lib.hid k1
          clear k1
          go_wp2
          go_ret
          exact ⟨rfl, HC1.out.old (Nat.le_refl _)⟩
        · have b4 : 1048576 - most < more := by omega
          clear hbad
          go_enter Tryd.func12, Tryd.ntmps12
          go_wp2_with fail
          refine (fixed_any _ HS.out (Nat.le_refl _)).mono ?_
          rintro e w1 ⟨rfl, k1⟩
          have HC1 := Lib.hid k1
          clear k1
          go_wp2
          go_ret
          exact ⟨rfl, HC1.out.old (Nat.le_refl _)⟩
  · obtain ⟨M, hM⟩ : ∃ M, most + more = M := ⟨_, rfl⟩
    have h0 : 0 ≤ most := by omega
    have h1 : 0 ≤ more := by omega
    have h2 : most ≤ 1048576 := by omega
    have h3 : more ≤ 1048576 - most := by omega
    have h4 : most ≤ M := by omega
    have h5 : M ≤ 1048576 := by omega
    have HM : Hid (0 ≤ most ∧ most ≤ 1048576 ∧ 0 ≤ M ∧ M ≤ 1048576 ∧ most ≤ M) := ⟨h0, h2, by omega, h5, h4⟩
    clear hbad
    go_enter Tryd.func12, Tryd.ntmps12
    go_wp2_with fail
    refine (fixed_any _ HS.out (Nat.le_refl _)).mono ?_
    rintro e w1 ⟨rfl, k1⟩
    have HC1 := Lib.hid k1
    clear k1
    go_wp2_with fail
    refine (mnew_ok w1 most HM.out.1 HM.out.2.1).mono ?_
    rintro e w2 ⟨g, rfl, hg, r1, c1⟩
    have HP := Lib.hid (SdL.new (Chg.refl none_ w1) HM.out.1 HM.out.2.1 r1 hg c1)
    have HC2 := Lib.hid c1
    clear hg r1 c1
    go_wp2_with fail
    refine (mnew_ok w2 M HM.out.2.2.1 HM.out.2.2.2.1).mono ?_
    rintro e w3 ⟨g2, rfl, hg, r1, c1⟩
    have HL0 : Hid (MoL w1 w3 (some ⟨g, 0, none⟩) (some ⟨g2, 0, none⟩) most M ps 0 (.slice none 0 0) (.slice none 0 0)) :=
      ⟨[], [], [], _, _, _, _, (fun _ h => by simp at h), rfl, HP.out.keep c1 (fun _ _ f => False.elim f), SdL.new HC2.out HM.out.2.2.1 HM.out.2.2.2.1 r1 hg c1, fun j h h' => by omega⟩
    clear hg r1 c1
    go_wp2_with fail
    go_loopw [11, 12, 65] (fun x11 x12 x65 wr => ∃ k : Nat, x65 = .int .i64 (k : Int) ∧ k ≤ n ∧ MoL w1 wr (some ⟨g, 0, none⟩) (some ⟨g2, 0, none⟩) most M ps k x11 x12) (fun _ _ x65 _ => n - (intOf x65).toNat)
    case atStart => exact ⟨0, rfl, Nat.zero_le _, HL0.out⟩
    case round =>
      obtain ⟨k, rfl, hk, C, us1, us2, hv, hu, S, T, hC, hCl, hP, hQ, hST⟩ := hrel
      have HW : Hid (Chg none_ w wr) := HC1.out.trans hP.g.chg
      by_cases hlt : k < n
      · obtain ⟨b, hb⟩ : ∃ b, ps[k]? = some b := ⟨_, List.getElem?_eq_getElem (by have := HLs.out.len; have := HN.out; omega)⟩
        have hbu := HLs.out.all.get (vals_get (vs := us) (i := k) (by have := HN.out; omega)) hb
        obtain ⟨ad, rfl, hcA⟩ := HR.out (by have := HN.out; omega)
        have hcell : Hid (wr.cell? (ad.add k) = some (us.getD k .nilIface)) := (World.cell?_of_block (HW.out.block _ (by rw [block_add]; exact HR.out.lt ad (by have := HN.out; omega) rfl) (fun f => f))).trans (hcA k (by have := HN.out; omega))
        obtain ⟨bv, hbv⟩ : ∃ bv, us.getD k .nilIface = bv := ⟨_, rfl⟩
        have hcl := hcell.out
        rw [hbv] at hbu hcl
        have HBw := Lib.hid hbu
        obtain ⟨Ab, nb, cb, rfl, hlb, hbb, _, _⟩ := hbu
        subst hlb
        have hts := take_sum hb
        have htk := take_sum_le ps (k + 1)
        have hCx : C.length + b.length ≤ 1048576 := by have := HSum.out; omega
        have HCl : Hid ((C ++ b).length = ((ps.take (k + 1)).map List.length).sum) := by show _ = _; rw [List.length_append]; omega
        have HCx : Hid (C.length + b.length ≤ 1048576 ∧ Byt C ∧ Byt b ∧ Byt (C ++ b)) := ⟨hCx, hC, hbb, hC.append hbb⟩
        have HP := Lib.hid hP
        have HQ := Lib.hid hQ
        have HD := Lib.hid hST
        obtain ⟨Aa, ca, rfl, _, _⟩ := hP.g.all.slice
        obtain ⟨Ac, cc, rfl, _, _⟩ := hQ.g.all.slice
        obtain ⟨bl, hbl⟩ : ∃ bl, b.length = bl := ⟨_, rfl⟩
        have HBL := Lib.hid hbl
        have HRb : Hid (Rd w Ab bl fun i => .int .u8 (b.getD i 0)) := by have h := HBw.out.rdG; rw [hbl] at h; exact h
        rw [hbl] at hCx hcl
        have hbl2 : bl ≤ 1048576 := by omega
        clear hb hcA hcell hbv hbb hts htk hP hQ hST hC hCl hbl
        go_wp2_with (at_builtin; refine wpList_append_bytes rfl (.tmp 71) (.tmp 72) rfl rfl (ob_nil _ wr.heap.size _ _) Ab bl _ b rfl HBL.out ?hr1 ?hb1 ?hs1 ?_)
        case hr1 => exact HRb.out.keep ((HW.out.alloc _).old (Nat.le_refl _))
        case hb1 => omega
        case hs1 => simp
        intro v5 w5 k1 k2 k3
        have HC5 : Hid (Chg none_ wr w5) := ((Chg.refl none_ wr).alloc _).trans ((grown_chg k2).more fun k _ hk => by simp [obk] at hk)
        have H5 : Hid (Bs w5 v5 b) := Bs.of_ob (n := bl) (by simpa using k1) HCx.out.2.2.1
        have HP5 := Lib.hid (HP.out.keep HC5.out fun _ _ f => False.elim f)
        have HQ5 := Lib.hid (HQ.out.keep HC5.out fun _ _ f => False.elim f)
        have HS5 : Hid (Sen w.heap.size a w5) := HS.out.below ((HW.out.trans HC5.out).old (Nat.le_refl _))
        have HW5 : Hid (w.heap.size ≤ w1.heap.size ∧ w1.heap.size ≤ w5.heap.size) := ⟨HC1.out.size, HP5.out.g.chg.size⟩
        clear k1 k2 k3
        go_wp2_with fail
        refine (pfeed_any w5 HS5.out HW5.out.2 HW5.out.1 HP5.out.g.pr HCx.out.2.1 v5 b H5.out (by have := HCx.out.1; omega)).mono ?_
        rintro e w6 ⟨out, vs, hv2, rfl, r1, r2, r3, r4, r5, r6, r7⟩
        obtain ⟨Ao, co, rfl, _, _⟩ := r3.slice
        have HF6 := Lib.hid (HP5.out.feed HM.out.1 HCx.out.2.1 HCx.out.2.2.1 r1 r2 r3 r4 r5 r6 r7)
        have HQ6 := Lib.hid (HQ5.out.keep r7 fun j _ hj => ⟨fun hT => HD.out j (HP5.out.s1 j hj) hT, (HP5.out.sz j (HP5.out.s1 j hj)).1⟩)
        have HD6 := Lib.hid (dis_l (lo := w5.heap.size) (hi := w6.heap.size) HD.out fun j hj => (HQ5.out.sz j hj).2)
        have HC6 : Hid (Chg none_ w w6) := HC1.out.trans HF6.out.chg
        clear r1 r2 r3 r4 r5 r6 r7
        go_wp2_with (at_builtin; refine wpList_append_bytes rfl (.tmp 79) (.tmp 80) rfl rfl (ob_nil _ w6.heap.size _ _) Ab bl _ b rfl HBL.out ?hr2 ?hb2 ?hs2 ?_)
        case hr2 => exact HRb.out.keep ((HC6.out.alloc _).old (Nat.le_refl _))
        case hb2 => omega
        case hs2 => simp
        intro v8 w8 k1 k2 k3
        have HC8 : Hid (Chg none_ w6 w8) := ((Chg.refl none_ w6).alloc _).trans ((grown_chg k2).more fun k _ hk => by simp [obk] at hk)
        have H8 : Hid (Bs w8 v8 b) := Bs.of_ob (n := bl) (by simpa using k1) HCx.out.2.2.1
        have HF8 := Lib.hid (HF6.out.keep HC8.out fun _ _ f => False.elim f)
        have HQ8 := Lib.hid (HQ6.out.keep HC8.out fun _ _ f => False.elim f)
        have HS8 : Hid (Sen w.heap.size a w8) := HS.out.below ((HC6.out.trans HC8.out).old (Nat.le_refl _))
        have HW8 : Hid (w.heap.size ≤ w1.heap.size ∧ w1.heap.size ≤ w8.heap.size) := ⟨HC1.out.size, HF8.out.chg.size⟩
        clear k1 k2 k3
        go_wp2_with fail
        refine (pfeed_any w8 HS8.out HW8.out.2 HW8.out.1 HQ8.out.g.pr HCx.out.2.1 v8 b H8.out (by have := HCx.out.1; omega)).mono ?_
        rintro e w9 ⟨out2, vs2, hu2, rfl, r1, r2, r3, r4, r5, r6, r7⟩
        obtain ⟨Ao2, co2, rfl, _, _⟩ := r3.slice
        have HG9 := Lib.hid (HQ8.out.feed HM.out.2.2.1 HCx.out.2.1 HCx.out.2.2.1 r1 r2 r3 r4 r5 r6 r7)
        have HF9 := Lib.hid (HF8.out.keep r7 fun j _ hj => ⟨fun hT => HD6.out j hT (HQ8.out.s1 j hj), (HQ8.out.sz j (HQ8.out.s1 j hj)).1⟩)
        have HD9 := Lib.hid (dis_r (lo := w8.heap.size) (hi := w9.heap.size) HD6.out fun j hj => (HF8.out.sz j hj).2)
        clear r1 r2 r3 r4 r5 r6 r7
        have hlen1 : us1.length ≤ 1048576 ∧ vs.length ≤ 1048576 := ⟨by have := HP.out.g.cnt HCx.out.2.1; have := HCx.out.1; omega, by rw [HF9.out.new.len]; have := fM_len (most := most) HCx.out.2.1 HCx.out.2.2.1; have := HCx.out.1; omega⟩
        have hlen2 : us2.length ≤ 1048576 ∧ vs2.length ≤ 1048576 := ⟨by have := HQ.out.g.cnt HCx.out.2.1; have := HCx.out.1; omega, by rw [HG9.out.new.len]; have := fM_len (most := M) HCx.out.2.1 HCx.out.2.2.1; have := HCx.out.1; omega⟩
        have HL1 := Lib.hid hlen1
        have HL2 := Lib.hid hlen2
        clear hlen1 hlen2
        go_wp2_with (at_builtin; refine wpList_append_lists rfl (.tmp 85) (.tmp 86) rfl rfl HF9.out.all Ao vs.length co vs rfl rfl HF9.out.outO.vals HF9.out.new.one_cell ?hb3 HF9.out.chg.size ?_)
        case hb3 => have := HL1.out; omega
        intro va3 w10 k1 k2 k3
        have HP10 := Lib.hid (HF9.out.app HM.out.1 HCx.out.2.1 HCx.out.2.2.1 k1 (grown_chg k2) k3)
        have HG10 := Lib.hid (HG9.out.keep (grown_chg k2) fun j _ hj => ⟨fun hT => HD9.out j (HF9.out.s2 j hj) hT, (HF9.out.sz j (HF9.out.s2 j hj)).1⟩)
        have HD10 := Lib.hid (dis_l (lo := w9.heap.size) (hi := w10.heap.size) HD9.out fun j hj => (HG9.out.sz j hj).2)
        clear k1 k2 k3
        go_wp2_with (at_builtin; refine wpList_append_lists rfl (.tmp 88) (.tmp 89) rfl rfl HG10.out.all Ao2 vs2.length co2 vs2 rfl rfl HG10.out.outO.vals HG10.out.new.one_cell ?hb4 HG10.out.chg.size ?_)
        case hb4 => have := HL2.out; omega
        intro vb3 w11 k1 k2 k3
        have HQ11 := Lib.hid (HG10.out.app HM.out.2.2.1 HCx.out.2.1 HCx.out.2.2.1 k1 (grown_chg k2) k3)
        have HP11 := Lib.hid (HP10.out.keep (grown_chg k2) fun j _ hj => ⟨fun hT => HD10.out j hT (HG10.out.s2 j hj), (HG10.out.sz j (HG10.out.s2 j hj)).1⟩)
        have HD11 := Lib.hid (dis_r (lo := w10.heap.size) (hi := w11.heap.size) HD10.out fun j hj => (HP10.out.sz j hj).2)
        clear k1 k2 k3
        obtain ⟨A3, c3, rfl, hc3, _⟩ := HP11.out.g.all.slice
        obtain ⟨B3, e3, rfl, hd3, _⟩ := HQ11.out.g.all.slice
        have hla := HP11.out.g.mem.len
        have hlb := HQ11.out.g.mem.len
        generalize hLA : (us1 ++ vs).length = LA at HP11 hla hc3 ⊢
        generalize hLB : (us2 ++ vs2).length = LB at HQ11 hlb hd3 ⊢
        obtain ⟨tt, htt⟩ := say_most (most := most) HM.out.2.2.2.2 (C ++ b) HCx.out.2.2.2
        have hle : LA ≤ LB := by rw [hla, hlb, htt, List.length_append]; omega
        have HSame : Hid ((sayB most (C ++ b)).1 = ((sayB M (C ++ b)).1).take LA) := by
          show _ = _
          rw [htt, hla, List.take_left]
        have HLst1 := Lib.hid HP11.out.g.lst
        have HLst2 : Hid (Lst w11 0 (.slice B3 LA e3) ((us2 ++ vs2).take LA) (((sayB M (C ++ b)).1).take LA)) := by
          have ho := HQ11.out.g.all
          have hm := HQ11.out.g.mem
          rw [← hLB] at ho
          exact Ob.front ho hm (by rw [hLB]; exact hle) (by rw [hLB]; exact hd3)
        have HLA : Hid ((us1 ++ vs).length ≤ 1099511627776) := by show _ ≤ _; rw [List.length_append]; have := HL1.out; omega
        obtain ⟨d1, hd1⟩ : ∃ q, hC most (C ++ b) = q := ⟨_, rfl⟩
        obtain ⟨d2, hd2⟩ : ∃ q, hC M (C ++ b) = q := ⟨_, rfl⟩
        have hb1 := hC_le HM.out.1 HCx.out.2.2.2
        have hb2 := hC_le HM.out.2.2.1 HCx.out.2.2.2
        rw [hd1] at hb1
        rw [hd2] at hb2
        have HD1 := Lib.hid hd1
        have HD2 := Lib.hid hd2
        have hla3 : LA ≤ e3 := Nat.le_trans hle hd3
        have hlaI : (LA : Int) ≤ (e3 : Int) := by omega
        have hla0 : (0 : Int) ≤ (LA : Int) := by omega
        clear hla hlb hLA hLB htt hd1 hd2
        go_wp2_with fail
        refine (pheld_any w11 HP11.out.g.pr).mono ?_
        rintro e w' ⟨rfl, rfl⟩
        rw [HD1.out]
        go_wp2_with fail
        refine (pheld_any w11 HP11.out.g.pr).mono ?_
        rintro e w' ⟨rfl, rfl⟩
        rw [HD1.out]
        go_wp2_with fail
        refine (pheld_any w11 HQ11.out.g.pr).mono ?_
        rintro e w' ⟨rfl, rfl⟩
        rw [HD2.out]
        go_wp2_with fail
        refine (msame_any w11 HLst1.out HLst2.out HLA.out).mono ?_
        rintro e w12 ⟨rfl, k4⟩
        rw [decide_eq_true HSame.out]
        have HN : Hid (MoL w1 w12 (some ⟨g, 0, none⟩) (some ⟨g2, 0, none⟩) most M ps (k + 1) (.slice A3 LA c3) (.slice B3 LB e3)) :=
          ⟨C ++ b, _, _, _, _, _, _, HCx.out.2.2.2, HCl.out, HP11.out.keep k4 (fun _ _ f => False.elim f), HQ11.out.keep k4 (fun _ _ f => False.elim f), HD11.out⟩
        clear k4
        go_wp2
        go_roundw
        case rel => exact ⟨k + 1, by go_num, by omega, HN.out⟩
        case measure => simp [intOf]; omega
      · go_wp2
        go_ret
        exact ⟨rfl, HW.out.old (Nat.le_refl _)⟩
end Go.Proofs.YtpmncndicdlmhaaDoor
