/-
  The walk of MsgMemory.
  No condition of its own: the fact 'Sen' on the world; the pieces are within the bulk.
-/
import Derived.Test.YthalmjjbamglgaaDoorMsgMm
import Derived.Test.YthalmjjbamglgaaDoorMsgMp
namespace Go.Proofs.YthalmjjbamglgaaDoor
open Go.RowKit

theorem all2_bs_one {w : World} : ∀ {us : List Value} {ms : List (List Int)}, All2 (Bs w) us ms → ∀ u ∈ us, u.oneCell' = true := fun h u hu => by
  obtain ⟨m, _, A, n, c, rfl, _⟩ := all2_mem h u hu
  rfl
theorem grown_size {w w' : World} {r : Option Nat} (h : w.grownBy w' r) : w.heap.size ≤ w'.heap.size := h.size

set_option maxRecDepth 100000 in
set_option maxHeartbeats 8000000 in
theorem msgmemory_walk {a : Nat → Addr} (w : World) (hs : Sen w.heap.size a w) (most : Int) (v : Value) (us : List Value) (ps : List (List Int)) (hl : Lst w 0 v us ps) (hsum : us.length + (ps.map List.length).sum ≤ 1048576) :
    Calls Tryd.prog 6 #[.int .i64 most, v] w fun e w' => e = .returned (.bool true) ∧ Below w.heap.size w w' := by
  obtain ⟨A, c, rfl, hnc, hr⟩ := hl.form
  have HS := Lib.hid hs
  have HLs := Lib.hid hl
  have HSum := Lib.hid hsum
  have HR := Lib.hid hr
  obtain ⟨n, hn⟩ : ∃ n, n = us.length := ⟨_, rfl⟩
  rw [← hn] at hnc ⊢
  have HN := Lib.hid hn
  have hn20 : n ≤ 1048576 := by omega
  clear hs hl hr hsum hn
  have HQ := Lib.hid (fun w => rnew_any w most)
  by_cases hbad : most < 0 ∨ 1048576 < most
  · have HBad := Lib.hid hbad
    by_cases b1 : most < 0
    · clear hbad
      go_enter Tryd.func6, Tryd.ntmps6
      go_wp2_with fail
      refine (fixed_any w HS.out (Nat.le_refl _)).mono ?_
      rintro e w1 ⟨rfl, c1⟩
      have HC1 := Lib.hid c1
      have HS1 : Hid (Sen w.heap.size a w1) := HS.out.below (c1.old (Nat.le_refl _))
      clear c1
      go_wp2_with fail
      refine (mnew_no w1 HS1.out most HBad.out).mono ?_
      rintro e w2 ⟨rfl, c2⟩
      have HC2 : Hid (Chg none_ w w2) := HC1.out.trans c2
      clear c2
      go_wp2_with fail
      have h3 := HQ.out w2
      rw [if_pos HBad.out, if_pos HBad.out] at h3
      refine h3.mono ?_
      rintro e w3 ⟨rfl, c3⟩
      have HC3 : Hid (Chg none_ w w3) := HC2.out.trans c3
      clear c3 h3
      rw [show errv a 2 = .iface 200 (.pointer (some (a 2))) from rfl]
      go_wp2
      go_ret
      exact ⟨rfl, (HC3.out.alloc _).old (Nat.le_refl _)⟩
    · have b2 : 1048576 < most := by omega
      clear hbad
      go_enter Tryd.func6, Tryd.ntmps6
      go_wp2_with fail
      refine (fixed_any w HS.out (Nat.le_refl _)).mono ?_
      rintro e w1 ⟨rfl, c1⟩
      have HC1 := Lib.hid c1
      have HS1 : Hid (Sen w.heap.size a w1) := HS.out.below (c1.old (Nat.le_refl _))
      clear c1
      go_wp2_with fail
      refine (mnew_no w1 HS1.out most HBad.out).mono ?_
      rintro e w2 ⟨rfl, c2⟩
      have HC2 : Hid (Chg none_ w w2) := HC1.out.trans c2
      clear c2
      go_wp2_with fail
      have h3 := HQ.out w2
      rw [if_pos HBad.out, if_pos HBad.out] at h3
      refine h3.mono ?_
      rintro e w3 ⟨rfl, c3⟩
      have HC3 : Hid (Chg none_ w w3) := HC2.out.trans c3
      clear c3 h3
      rw [show errv a 2 = .iface 200 (.pointer (some (a 2))) from rfl]
      go_wp2
      go_ret
      exact ⟨rfl, (HC3.out.alloc _).old (Nat.le_refl _)⟩
  · have HMr : Hid (0 ≤ most ∧ most ≤ 1048576) := ⟨by omega, by omega⟩
    have HBad := Lib.hid hbad
    clear hbad
    go_enter Tryd.func6, Tryd.ntmps6
    go_wp2_with fail
    refine (fixed_any w HS.out (Nat.le_refl _)).mono ?_
    rintro e w1 ⟨rfl, c1⟩
    have HC1 := Lib.hid c1
    clear c1
    go_wp2_with fail
    refine (mnew_ok w1 most HMr.out.1 HMr.out.2).mono ?_
    rintro e w2 ⟨g, rfl, hg, r1, c2⟩
    have HP := Lib.hid (SdL.fresh HC1.out HMr.out.1 HMr.out.2 r1 hg c2)
    clear hg r1 c2
    go_wp2_with fail
    have h3 := HQ.out w2
    rw [if_neg HBad.out, if_neg HBad.out] at h3
    refine h3.mono ?_
    rintro e w3 ⟨rfl, c3⟩
    have HP3 := Lib.hid (HP.out.keep c3 fun _ _ f => False.elim f)
    clear c3 h3
    obtain ⟨gm, hgm⟩ : ∃ gm, w3.heap.size = gm := ⟨_, rfl⟩
    have F0 : Hid (MmL w (w3.alloc (.cells #[.int .i64 most, .slice none 0 0] 81)) gm (some ⟨g, 0, none⟩) most [] [] (.slice none 0 0) [] (.slice none 0 0) (.slice none 0 0) [] (.slice none 0 0) (fun k => w1.heap.size ≤ k ∧ k < w2.heap.size) none_) := by
      have e : w3.heap.size = gm := hgm
      have hz := HP3.out.g.chg.size
      have h4 := HP3.out.keep ((Chg.refl none_ w3).alloc (.cells #[.int .i64 most, .slice none 0 0] 81)) fun _ _ f => False.elim f
      refine ⟨h4, ⟨ob_nil _ _ _ _, ?_, (fun k hk => by simp [obk] at hk), (fun u hu => by simp at hu), ⟨none, 0, rfl, Nat.le_refl _, Rd.zero _ _ _⟩, (fun k hk => by simp [rdk] at hk), .nil, (fun u hu => by simp at hu), ⟨none, 0, 0, rfl, rfl, (fun z hz => by simp at hz), Rd.zero _ _ _, Nat.le_refl _⟩, (fun k hk => by simp [rdk] at hk), (fun k hk => hk.elim), h4.g.chg.size⟩, by rw [← e]; exact Is.new w3 _ _, ⟨by omega, fun h => ?_, fun h => h⟩, fun k _ h => h, rfl⟩
      · rw [say_few rfl]; exact .nil
      · have := HP3.out.sz gm h; omega
    go_wp2_with fail
    clear hgm
    go_loopw [9, 10, 59] (fun x9 x10 x59 wr => ∃ (k : Nat) (C F : List Int) (va vb : Value) (us1 ws : List Value) (hv fv : Value) (S T : Nat → Prop), x59 = .int .i64 (k : Int) ∧ va = x9 ∧ vb = x10 ∧ k ≤ n ∧ Byt C ∧ Byt F ∧ C.length = ((ps.take k).map List.length).sum ∧ F.length ≤ C.length ∧ MmL w wr gm (some ⟨g, 0, none⟩) most C F va us1 hv vb ws fv S T) (fun _ _ x59 _ => n - (intOf x59).toNat)
    case atStart => exact ⟨0, [], [], _, _, [], [], _, _, _, _, rfl, rfl, rfl, Nat.zero_le _, (fun z hz => by simp at hz), (fun z hz => by simp at hz), by simp, by simp, F0.out⟩
    case round =>
      obtain ⟨k, C, F, va, vb, us1, ws, hv, fv, S, T, rfl, rfl, rfl, hk, hC, hF, hCl, hFl, hL⟩ := hrel
      obtain ⟨wo, rfl⟩ : ∃ wo, wo = wr := ⟨wr, rfl⟩
      obtain ⟨Aa, ca, rfl, _, _⟩ := hL.sd.g.all.slice
      obtain ⟨Av, cv, rfl, _, _⟩ := hL.rf.all.slice
      have HL := Lib.hid hL
      have HW : Hid (Chg none_ w wo) := hL.sd.g.chg
      by_cases hlt : k < n
      · obtain ⟨b, hb⟩ : ∃ b, ps[k]? = some b := ⟨_, List.getElem?_eq_getElem (by have := HLs.out.len; have := HN.out; omega)⟩
        have hbu := HLs.out.all.get (vals_get (vs := us) (i := k) (by have := HN.out; omega)) hb
        obtain ⟨ad, rfl, hcA⟩ := HR.out (by have := HN.out; omega)
        have hcell : Hid (wo.cell? (ad.add k) = some (us.getD k .nilIface)) := (World.cell?_of_block (HW.out.block _ (by rw [block_add]; exact HR.out.lt ad (by have := HN.out; omega) rfl) (fun f => f))).trans (hcA k (by have := HN.out; omega))
        obtain ⟨bv, hbv⟩ : ∃ bv, us.getD k .nilIface = bv := ⟨_, rfl⟩
        have hcl := hcell.out
        rw [hbv] at hbu hcl
        have HBw := Lib.hid hbu
        obtain ⟨Ab, nb, cb, rfl, hlb, hbb, _, _⟩ := hbu
        have hts := take_sum hb
        have htk := take_sum_le ps (k + 1)
        have hCx : C.length + b.length ≤ 1048576 := by have := HSum.out; omega
        have HCl : Hid ((C ++ b).length = ((ps.take (k + 1)).map List.length).sum ∧ (nF most F b).length ≤ (C ++ b).length) := ⟨by rw [List.length_append]; omega, by rw [List.length_append]; have := nF_len most F b; omega⟩
        have HCx : Hid (C.length + b.length ≤ 1048576 ∧ Byt C ∧ Byt b ∧ Byt (C ++ b) ∧ Byt F ∧ F.length + b.length ≤ 1048576 ∧ Byt (nF most F b)) := ⟨hCx, hC, hbb, hC.append hbb, hF, by omega, nF_byt hF hbb⟩
        have HBL := Lib.hid hlb
        have hnb2 : nb ≤ 1048576 := by omega
        obtain ⟨nw, hnw⟩ : ∃ q : Nat, nb + 3 = q := ⟨_, rfl⟩
        have hnwI : (nb : Int) + 3 = (nw : Int) := by omega
        have HNw : Hid (nb + 3 = nw ∧ nw ≤ 140737488355328) := ⟨hnw, by omega⟩
        clear hb hcA hcell hbv hbb hts htk hL hC hF hCl hFl hlb hnw
        go_wp2_with (refine wpList_make_room rfl _ _ rfl rfl _ rfl nw rfl HNw.out.2 (base := wo.heap.size) (Nat.le_refl _) ?_)
        intro y1 k1 c1
        have H1 := Lib.hid k1
        have HY1 := Lib.hid c1
        clear k1 c1
        go_wp2_with (at_builtin; refine wpList_append_bytes rfl (.tmp 66) (.tmp 67) rfl rfl H1.out Ab nb cb b rfl HBL.out ?hr1 ?hb1 HY1.out.size ?_)
        case hr1 => exact (HBw.out.chg (HW.out.trans HY1.out) fun _ _ f => f).rdG
        case hb1 => omega
        intro v2 y2 k1 k2 k3
        have k1' : Ob y2 wo.heap.size 5 v2 nb (b.map (Value.int .u8)) := by simpa using k1
        have HY2 : Hid (Chg none_ wo y2) := HY1.out.then (grown_chg k2) fun k hk hb => by have := (H1.out.block k hb).1; omega
        obtain ⟨A2, c2, rfl, _, _⟩ := k1'.slice
        have H2 : Hid (Ob (y2.alloc (.cells #[.int .u8 91, .int .u8 92, .int .u8 93] 5)) wo.heap.size 5 (.slice A2 nb c2) nb (b.map (Value.int .u8))) := k1'.chg ((Chg.refl none_ y2).alloc _) (fun _ _ f => f)
        have HR2 : Hid (Rd (y2.alloc (.cells #[.int .u8 91, .int .u8 92, .int .u8 93] 5)) (some ⟨y2.heap.size, 0, none⟩) 3 fun i => .int .u8 (([91, 92, 93] : List Int).getD i 0)) := Is.rdI [91, 92, 93] (Is.new y2 5 _)
        have h22 : wo.heap.size ≤ (y2.alloc (.cells #[.int .u8 91, .int .u8 92, .int .u8 93] 5)).heap.size := Nat.le_trans HY2.out.size (by simp)
        clear k1 k1' k2 k3
        go_wp2_with (at_builtin; refine wpList_append_bytes rfl (.tmp 68) (.tmp 69) rfl rfl H2.out (some ⟨y2.heap.size, 0, none⟩) 3 3 [91, 92, 93] rfl rfl HR2.out ?hb2 h22 ?_)
        case hb2 => have := HNw.out; omega
        intro v3 y3 k1 k2 k3
        replace k1 : Ob y3 wo.heap.size 5 v3 (nb + 3) ((b ++ [91, 92, 93]).map (Value.int .u8)) := by rw [List.map_append]; exact k1
        have HY3 : Hid (Chg none_ wo y3) := (HY2.out.alloc _).then (grown_chg k2) fun k hk hb => by have := (H2.out.block k hb).1; omega
        obtain ⟨A3, c3, rfl, hc3, hm3⟩ := k1.slice
        rw [HNw.out.1] at k1 hc3 ⊢
        obtain ⟨X3, hX3⟩ : ∃ X, b ++ [91, 92, 93] = X := ⟨_, rfl⟩
        have HXX := Lib.hid hX3
        have HXs : Hid (Byt X3) := by rw [← hX3]; exact HCx.out.2.2.1.append (by intro z hz; simp at hz; omega)
        rw [hX3] at k1
        have H3 := Lib.hid k1
        clear k1 k2 k3 hX3 h22
        have HBf : Hid (Bs y3 (.slice A3 nb c3) b) := by
          have h := (Bs.of_ob H3.out HXs.out).front (m := nb) (by have := HNw.out; omega)
          rw [← HXX.out, ← HBL.out, List.take_left, HBL.out] at h
          exact h
        have hnc3 : nb ≤ c3 := by have := HNw.out; omega
        have hncI : (nb : Int) ≤ (c3 : Int) := by omega
        have m0 : y3.cell? ⟨gm, 0, none⟩ = some (.int .i64 most) := (HL.out.im.chg HY3.out fun f => f).at_ 0 _ rfl
        have m1 : y3.cell? ⟨gm, 1, none⟩ = some fv := (HL.out.im.chg HY3.out fun f => f).at_ 1 _ rfl
        go_wp2_with fail
        refine (qfeed_any y3 most (Or.inr HMr.out) F b fv _ (HL.out.rf.bs.chg HY3.out fun _ _ f => f) (HBw.out.chg (HW.out.trans HY3.out) fun _ _ f => f) (by have := HCx.out; omega)).mono ?_
        rintro e y4 ⟨fv2, mv, ss, rfl, q1, q2, q3, q4⟩
        have HA4 := Lib.hid (HL.out.rf.feed HY3.out q1 q2 q3 q4)
        obtain ⟨A4, n4, c4, rfl, _, _, _, _⟩ := q1
        obtain ⟨Am, cm, rfl, _, _⟩ := q3.form
        have HY4 : Hid (Chg none_ wo y4) := HY3.out.trans q4
        have HY34 : Hid (y3.heap.size ≤ y4.heap.size) := q4.size
        have H4 : Hid (Ob y4 wo.heap.size 5 (.slice A3 nw c3) nw (X3.map (Value.int .u8))) := H3.out.chg q4 fun _ _ f => f
        clear q2 q3 q4 m0 m1
        obtain ⟨y5, hy5⟩ : ∃ y, y4.alloc (.cells #[.int .i64 most, .slice A4 n4 c4] 81) = y := ⟨_, rfl⟩
        obtain ⟨gi, hgi⟩ : ∃ g, y4.heap.size = g := ⟨_, rfl⟩
        have HY45 : Hid (Chg none_ y4 y5) := by show Chg _ _ _; rw [← hy5]; exact (Chg.refl none_ y4).alloc _
        have HI5 : Hid (Is y5 gi 81 #[.int .i64 most, .slice A4 n4 c4]) := by show Is _ _ _ _; rw [← hy5, ← hgi]; exact Is.new y4 _ _
        have HGi : Hid (y4.heap.size = gi ∧ gi < y5.heap.size) := ⟨hgi, HI5.out.lt⟩
        have HY5 : Hid (Chg none_ wo y5) := HY4.out.trans HY45.out
        have HA5 := Lib.hid (HA4.out.keep HY45.out fun _ _ f => f.elim)
        have HP5 := Lib.hid (HL.out.sd.keep HY5.out fun _ _ f => False.elim f)
        have HBf5 : Hid (Bs y5 (.slice A3 nb c3) b) := by
          have h := (Bs.of_ob H4.out HXs.out).front (m := nb) (by have := HNw.out; omega)
          rw [← HXX.out, ← HBL.out, List.take_left, HBL.out] at h
          exact h.chg HY45.out fun _ _ f => f
        have HCw5 : Hid (Chg none_ w y5) := HW.out.trans HY5.out
        have HS5 : Hid (Sen w.heap.size a y5) := HS.out.below (HCw5.out.old (Nat.le_refl _))
        go_wp2_with fail
        clear hy5 hgi
        refine (pfeed_any y5 HS5.out HCw5.out.size (Nat.le_refl _) HP5.out.g.pr HCx.out.2.1 _ b HBf5.out (by have := HCx.out.1; omega)).mono ?_
        rintro e y6 ⟨out, vs, hv2, rfl, r1, r2, r3, r4, r5, r6, r7⟩
        obtain ⟨Ao, co, rfl, _, _⟩ := r3.slice
        have hz5 := HY5.out.size
        have hz3 := HY3.out.size
        have HD5 := Lib.hid (dis_r (lo := y3.heap.size) (hi := y4.heap.size) HL.out.dis fun j hj => by have := (HL.out.sd.sz j hj).2; omega)
        have hgm1 := HL.out.gm1
        have hgml := HL.out.im.lt
        have HO6 := Lib.hid r3.block
        have HF6 := Lib.hid (HP5.out.feed HMr.out.1 HCx.out.2.1 HCx.out.2.2.1 r1 r2 r3 r4 r5 r6 r7)
        have HA6 := Lib.hid (HA5.out.keep r7 fun j _ hj => HD5.out j (HP5.out.s1 j hj))
        have hfl : ∀ j, fW (some ⟨g, 0, none⟩) hv j → j < wo.heap.size := fun j hj => (HL.out.sd.sz j (HL.out.sd.s1 j hj)).2
        have hm6 : Is y6 gm 81 #[.int .i64 most, fv] := (HL.out.im.chg HY5.out fun f => f).chg r7 fun h => hgm1.2.1 (HL.out.sd.s1 gm h)
        have hi6 : Is y6 gi 81 #[.int .i64 most, .slice A4 n4 c4] := HI5.out.chg r7 fun h => by have := hfl gi h; have := HGi.out; have := HY4.out.size; omega
        have H6 : Hid (Ob y6 wo.heap.size 5 (.slice A3 nw c3) nw (X3.map (Value.int .u8))) := (H4.out.chg HY45.out fun _ _ f => f).chg r7 fun j hj h => by have := hfl j h; have := (H4.out.block j hj).1; omega
        have HBp6 : Hid (Bs y6 (.slice Ab nb cb) b) := (HBw.out.chg HCw5.out fun _ _ f => f).chg r7 fun j hj h => by have := HBw.out.block j hj; have := (HL.out.sd.sz j (HL.out.sd.s1 j h)).1; omega
        have HY6 : Hid (y5.heap.size ≤ y6.heap.size) := r7.size
        have i0 : y6.cell? ⟨gi, 0, none⟩ = some (.int .i64 most) := hi6.at_ 0 _ rfl
        have i1 : y6.cell? ⟨gi, 1, none⟩ = some (.slice A4 n4 c4) := hi6.at_ 1 _ rfl
        have g0 : y6.cell? ⟨gm, 0, none⟩ = some (.int .i64 most) := hm6.at_ 0 _ rfl
        have g1 : y6.cell? ⟨gm, 1, none⟩ = some fv := hm6.at_ 1 _ rfl
        have f0 : y6.frozen? ⟨gm, 0, none⟩ = false := hm6.frozen 0
        have f1 : y6.frozen? ⟨gm, 1, none⟩ = false := hm6.frozen 1
        obtain ⟨y7, hy7⟩ : ∃ y, (y6.setCell ⟨gm, 0, none⟩ (.int .i64 most)).setCell ⟨gm, 1, none⟩ (.slice A4 n4 c4) = y := ⟨_, rfl⟩
        have HI7 : Hid (Is y7 gm 81 #[.int .i64 most, .slice A4 n4 c4]) := by show Is _ _ _ _; rw [← hy7]; exact (hm6.put 0 _).put 1 _
        have HY67 : Hid (Chg (fun k => k = gm) y6 y7) := by show Chg _ _ _; rw [← hy7]; exact ((Chg.refl (fun k => k = gm) y6).setCell (p := ⟨gm, 0, none⟩) (fun _ => rfl) _).setCell (p := ⟨gm, 1, none⟩) (fun _ => rfl) _
        have HF7 := Lib.hid (HF6.out.keep HY67.out fun j _ hj => by
          subst hj
          refine ⟨fun h => ?_, hgm1.1⟩
          rcases h with h | h
          · exact hgm1.2.1 h
          · omega)
        have HA7 := Lib.hid (HA6.out.keep HY67.out fun j _ hj => by
          subst hj
          intro h
          rcases h with h | h
          · exact hgm1.2.2 h
          · omega)
        have H7 : Hid (Ob y7 wo.heap.size 5 (.slice A3 nw c3) nw (X3.map (Value.int .u8))) := H6.out.chg HY67.out fun j hj h => by have := (H6.out.block j hj).1; omega
        have HBf7 : Hid (Bs y7 (.slice A3 nb c3) b) := by
          have h := (Bs.of_ob H7.out HXs.out).front (m := nb) (by have := HNw.out; omega)
          rw [← HXX.out, ← HBL.out, List.take_left, HBL.out] at h
          exact h
        have HBp7 : Hid (Bs y7 (.slice Ab nb cb) b) := HBp6.out.chg HY67.out fun j hj h => by have := HBw.out.block j hj; omega
        have HSt := Lib.hid (st_same HCx.out.2.1 HCx.out.2.2.2.2.1 HCx.out.2.2.1 HMr.out.1 HL.out.st)
        have HLo : Hid (Lst y7 y5.heap.size (.slice Ao vs.length co) vs (fM most F b)) := by show Lst _ _ _ _ _; rw [HSt.out.2]; exact Lst.of HF7.out.outO HF7.out.new
        have HLs7 := Lib.hid HA7.out.some_
        have HUL : Hid (vs.length ≤ 1048576) := by show _ ≤ _; have h1 := HF7.out.new.len; have := fM_len (most := most) HCx.out.2.1 HCx.out.2.2.1; have := HCx.out.1; omega
        obtain ⟨a3, hA3, hc3'⟩ : ∃ a3, A3 = some a3 ∧ ∀ i, i < nw → y7.cell? (a3.add i) = some (.int .u8 (X3.getD i 0)) := (Bs.of_ob H7.out HXs.out).rdG (by have := HNw.out; omega)
        subst hA3
        have hX : ∀ j, j < 3 → X3.getD (nb + j) 0 = ([91, 92, 93] : List Int).getD j 0 := fun j hj => by
          rw [← HXX.out, List.getD_eq_getElem?_getD, List.getD_eq_getElem?_getD, List.getElem?_append_right (by rw [HBL.out]; omega), HBL.out, Nat.add_sub_cancel_left]
        obtain ⟨n1, hn1⟩ : ∃ q : Nat, nb + 1 = q := ⟨_, rfl⟩
        obtain ⟨n2, hn2⟩ : ∃ q : Nat, nb + 2 = q := ⟨_, rfl⟩
        have cn0 : ∀ Q, (y7.drewN Q).cell? (a3.add nb) = some (.int .u8 91) := fun Q => by
          have h := hc3' nb (by have := HNw.out; omega)
          rw [show X3.getD nb 0 = 91 from hX 0 (by omega)] at h
          exact h
        have cn1 : ∀ Q, (y7.drewN Q).cell? (a3.add n1) = some (.int .u8 92) := fun Q => by
          have h := hc3' n1 (by have := HNw.out; omega)
          rw [← hn1, show X3.getD (nb + 1) 0 = 92 from hX 1 (by omega), hn1] at h
          exact h
        have cn2 : ∀ Q, (y7.drewN Q).cell? (a3.add n2) = some (.int .u8 93) := fun Q => by
          have h := hc3' n2 (by have := HNw.out; omega)
          rw [← hn2, show X3.getD (nb + 2) 0 = 93 from hX 2 (by omega), hn2] at h
          exact h
        have hn1I : (nb : Int) + 1 = (n1 : Int) := by omega
        have hn2I : (nb : Int) + 2 = (n2 : Int) := by omega
        have hn1w : IntKind.i64.wrap (n1 : Int) = (n1 : Int) := IntWalk.i64_in _ (by omega)
        have hn2w : IntKind.i64.wrap (n2 : Int) = (n2 : Int) := IntWalk.i64_in _ (by omega)
        have hn10 : (0 : Int) ≤ (n1 : Int) := by omega
        have hn20' : (0 : Int) ≤ (n2 : Int) := by omega
        have hn00 : (0 : Int) ≤ (nb : Int) := by omega
        have hnl0 : (nb : Int) < (nw : Int) := by have := HNw.out; omega
        have hnl1 : (n1 : Int) < (nw : Int) := by have := HNw.out; omega
        have hnl2 : (n2 : Int) < (nw : Int) := by have := HNw.out; omega
        have ks := fun (Q : Nat) {A : Option Addr} {n c : Nat} {ys : List Int} (h : Bs y7 (.slice A n c) ys) => run_str (P := Tryd.prog) (w := y7.drewN Q) (c := c) (A := A) (n := n) (xs := ys) 23 5 Tryd.underlying23 Tryd.underlying5 (by obtain ⟨_, _, _, e, hl, _⟩ := h; cases e; exact hl) (h.rdG.drewN Q)
        have kx : ∀ (Q : Nat) (dst : TypeId), Tryd.prog.underlying dst = some .string → (convert 23 dst (.slice (some a3) nb c3)).run Tryd.prog (y7.drewN Q) = .ok (.string (strOfNums b)) (y7.drewN Q) := fun Q => ks Q HBf7.out
        have km : ∀ (Q : Nat) (dst : TypeId), Tryd.prog.underlying dst = some .string → (convert 23 dst (.slice Ab nb cb)).run Tryd.prog (y7.drewN Q) = .ok (.string (strOfNums b)) (y7.drewN Q) := fun Q => ks Q HBp7.out
        clear r1 r2 r3 r4 r5 r6 r7 hm6 hi6 hfl hX hc3' hn1 hn2 ks hz5 hz3 hgm1 hgml
        go_wp2_with fail
        clear hy7
        go_quiet ((go_at_call 36; refine Calls.quiet_of ((msame_dr _ (HLo.out.keep ((Chg.refl none_ y7).drewN _)) (HLs7.out.keep ((Chg.refl none_ y7).drewN _)) (by have := HUL.out; omega)).mono fun e w' h => ⟨h.1, h.2⟩)))
        go_wp2_with fail
        obtain ⟨gw, hgw⟩ : ∃ gw, some a3 = some ⟨gw, 0, none⟩ := H7.out.addr (by have := HNw.out; omega)
        obtain rfl := Option.some.inj hgw
        have HGw : Hid (wo.heap.size ≤ gw ∧ gw < y3.heap.size) := by
          have h := H3.out.block gw (H3.out.rdk gw (by have := HNw.out; simp [Proofs.YthalmjjbamglgaaDoor.rdk]; omega))
          exact ⟨h.1, h.2⟩
        obtain ⟨y8, hy8⟩ : ∃ y, y7.drewN nq = y := ⟨_, rfl⟩
        have hy78 : Chg none_ y7 y8 := by rw [← hy8]; exact (Chg.refl none_ y7).drewN _
        have HY78 := Lib.hid hy78
        have HF8 := Lib.hid (HF7.out.keep hy78 fun _ _ f => False.elim f)
        have HA8 := Lib.hid (HA7.out.keep hy78 fun _ _ f => f.elim)
        have HI8 : Hid (Is y8 gm 81 #[.int .i64 most, .slice A4 n4 c4]) := HI7.out.chg hy78 fun f => f
        have H8 : Hid (Ob y8 wo.heap.size 5 (.slice (some ⟨gw, 0, none⟩) nw c3) nw (X3.map (Value.int .u8))) := H7.out.chg hy78 fun _ _ f => f
        rw [hy8]
        have hnw0 : 0 < nw := by have := HNw.out; omega
        clear hy8 hy78 kx km cn0 cn1 cn2 hn1I hn2I hn1w hn2w hn10 hn20' hn00 hnl0 hnl1 hnl2 i0 i1 g0 g1 f0 f1 hgw
        go_loopw [127] (fun x wr => ∃ i : Nat, x = .int .i64 (i : Int) ∧ i ≤ nw ∧ (∃ xs, Ob wr wo.heap.size 5 (.slice (some ⟨gw, 0, none⟩) nw c3) nw xs) ∧ Chg (fun k => k = gw) y8 wr) (fun x _ => nw - (intOf x).toNat)
        case atStart => exact ⟨0, rfl, Nat.zero_le _, ⟨_, H8.out⟩, Chg.refl _ _⟩
        case round =>
          obtain ⟨i, rfl, hi, ⟨xs, hO⟩, hC⟩ := hrel
          have HO := Lib.hid hO
          have HCg := Lib.hid hC
          clear hO hC
          by_cases hlt2 : i < nw
          · obtain ⟨u, hu⟩ : ∃ u, xs[i]? = some u := ⟨_, List.getElem?_eq_getElem (by rw [HO.out.len]; exact hlt2)⟩
            have hcc : wr.cell? ⟨gw, i, none⟩ = some u := (HO.out.cellAt i hlt2).trans hu
            have hfr : wr.frozen? ⟨gw, i, none⟩ = false := HO.out.frozenAt hnw0 i
            clear hu
            go_wp2
            go_roundw
            case rel => exact ⟨i + 1, by go_num, by omega, ⟨_, HO.out.set hnw0 i _⟩, HCg.out.setCell (fun _ => rfl) _⟩
            case measure => simp [intOf]; omega
          · obtain ⟨y9, rfl⟩ : ∃ y, y = wr := ⟨wr, rfl⟩
            have HF9 := Lib.hid (HF8.out.keep HCg.out fun j _ hj => by
              subst hj
              have h1 := HGw.out
              have h3 := HY34.out
              have h5 := HY45.out.size
              have h0 := HW.out.size
              refine ⟨fun h => ?_, by omega⟩
              rcases h with h | h
              · have := (HL.out.sd.sz _ h).2; omega
              · omega)
            have HA9 := Lib.hid (HA8.out.keep HCg.out fun j _ hj => by
              subst hj
              have h1 := HGw.out
              have h3 := HY34.out
              intro h
              rcases h with h | h
              · have := (HL.out.rf.sz _ h).2; omega
              · omega)
            have HI9 : Hid (Is y9 gm 81 #[.int .i64 most, .slice A4 n4 c4]) := HI8.out.chg HCg.out fun e => by have := HGw.out; have := HL.out.im.lt; omega
            have hus : us1.length ≤ 1048576 := by have := HL.out.sd.g.mem.len; have := say_cnt (most := most) C HCx.out.2.1; have := HCx.out.1; omega
            have hws : ws.length ≤ 1048576 ∧ ss.length ≤ 1048576 := by
              have h1 := HA9.out.mem.len
              have h2 := HA9.out.sm.len
              have := say_cnt (most := most) C HCx.out.2.1
              have := fM_len (most := most) HCx.out.2.2.2.2.1 HCx.out.2.2.1
              have := HCx.out
              omega
            have HLen := Lib.hid (And.intro hus hws)
            have HZ9 : Hid (y4.heap.size ≤ y5.heap.size ∧ y5.heap.size ≤ y6.heap.size ∧ y6.heap.size ≤ y9.heap.size) := ⟨HY45.out.size, HY6.out, by have := HY67.out.size; have := HY78.out.size; have := HCg.out.size; omega⟩
            clear hus hws HO
            go_wp2_with (at_builtin; refine wpList_append_lists rfl (.tmp 134) (.tmp 135) rfl rfl HF9.out.all Ao vs.length co vs rfl rfl HF9.out.outO.vals HF9.out.new.one_cell ?hb3 HF9.out.chg.size ?_)
            case hb3 => have := HLen.out; have := HUL.out; omega
            intro va2 y10 k1 k2 k3
            have HP10 := Lib.hid (HF9.out.app HMr.out.1 HCx.out.2.1 HCx.out.2.2.1 k1 (grown_chg k2) k3)
            have HD9 := Lib.hid (dis_l (lo := y5.heap.size) (hi := y6.heap.size) HD5.out fun j hj => by
              have := HZ9.out
              rcases hj with hj | hj
              · have := (HL.out.rf.sz _ hj).2; have := HY3.out.size; have := HY34.out; omega
              · omega)
            have HA10 := Lib.hid (HA9.out.keep (grown_chg k2) fun j _ hj => HD9.out j (HF9.out.s2 j hj))
            have HD10 := Lib.hid (dis_l (lo := y9.heap.size) (hi := y10.heap.size) HD9.out fun j hj => (HA9.out.sz j hj).2)
            have HI10 : Hid (Is y10 gm 81 #[.int .i64 most, .slice A4 n4 c4]) := HI9.out.chg (grown_chg k2) fun e => HL.out.gm1.2.1 (HL.out.sd.s2 gm e)
            have HOu10 : Hid (Ob y10 y5.heap.size 23 (.slice Ao vs.length co) vs.length vs) := HF9.out.outO.chg (grown_chg k2) fun j hj e => by have := (HF9.out.off2 j e).2; have := (HF9.out.outO.block j hj).1; omega
            have hap := HF9.out.apart (w7 := y10) k3
            have HAp := Lib.hid hap
            have HOb := Lib.hid (HF9.out.outO.block)
            have HY910 : Hid (y9.heap.size ≤ y10.heap.size) := grown_size k2
            obtain ⟨A10, c10, rfl, hc10, _⟩ := k1.slice
            obtain ⟨_, _, eM, _, hrM⟩ := HA10.out.mvf
            cases eM
            have HRm := Lib.hid hrM
            clear k1 k2 k3 hap hrM
            go_wp2_with (at_builtin; refine wpList_append_lists rfl (.tmp 137) (.tmp 138) rfl rfl HA10.out.all Am ss.length cm ss rfl rfl HRm.out (all2_bs_one HA10.out.sm) ?hb4 HA10.out.ge ?_)
            case hb4 => have := HLen.out; omega
            intro vb2 y11 k1 k2 k3
            have HA11 := Lib.hid (HA10.out.app k1 (grown_chg k2) k3)
            have HP11 := Lib.hid ((HP10.out.keep (grown_chg k2) fun j _ hj => ⟨fun h => HD10.out j h (HA10.out.t1 j hj), (HA10.out.sz j (HA10.out.t1 j hj)).1⟩))
            have HD11 := Lib.hid (dis_r (lo := y10.heap.size) (hi := y11.heap.size) HD10.out fun j hj => (HP10.out.sz j hj).2)
            have HI11 : Hid (Is y11 gm 81 #[.int .i64 most, .slice A4 n4 c4]) := HI10.out.chg (grown_chg k2) fun e => by
              rcases HA10.out.t1 gm e with h | h
              · exact HL.out.gm1.2.2 h
              · have := HL.out.im.lt; have := HY3.out.size; omega
            have HOu11 : Hid (Ob y11 y5.heap.size 23 (.slice Ao vs.length co) vs.length vs) := HOu10.out.chg (grown_chg k2) fun j hj e => by
              have := (HOb.out j hj).1
              have := HZ9.out
              rcases HA10.out.t1 j e with h | h
              · have := (HL.out.rf.sz _ h).2; have := HY3.out.size; have := HY34.out; omega
              · omega
            have HY1011 : Hid (y10.heap.size ≤ y11.heap.size) := grown_size k2
            obtain ⟨A11, c11, rfl, hc11, _⟩ := k1.slice
            clear k1 k2 k3
            go_wp2_with fail
            have hul := HUL.out
            go_loopw [142] (fun x wr => ∃ i : Nat, x = .int .i64 (i : Int) ∧ i ≤ vs.length ∧ (∃ xs, Ob wr y5.heap.size 23 (.slice Ao vs.length co) vs.length xs) ∧ Chg (fun k => obk (.slice Ao vs.length co) = some k) y11 wr) (fun x _ => vs.length - (intOf x).toNat)
            case atStart => exact ⟨0, rfl, Nat.zero_le _, ⟨_, HOu11.out⟩, Chg.refl _ _⟩
            case round =>
              obtain ⟨i3, rfl, hi3, ⟨xs3, hO⟩, hC⟩ := hrel
              have HO := Lib.hid hO
              have HCo := Lib.hid hC
              clear hO hC
              by_cases hlt3 : i3 < vs.length
              · obtain ⟨go, rfl⟩ := HO.out.addr (by omega)
                obtain ⟨u, hu⟩ : ∃ u, xs3[i3]? = some u := ⟨_, List.getElem?_eq_getElem (by rw [HO.out.len]; exact hlt3)⟩
                have hgo : go < wr.heap.size := (HO.out.block go (HO.out.rdk go (by show (if vs.length = 0 then none else some go) = some go; rw [if_neg (by omega)]))).2
                have hcc : wr.cell? ⟨go, i3, none⟩ = some u := (HO.out.cellAt i3 hlt3).trans hu
                have hfr : wr.frozen? ⟨go, i3, none⟩ = false := HO.out.frozenAt (by omega) i3
                have kcc := fun (w : World) (C : Array Value) (n c : Nat) => Lib.run_convert_bytes_const (P := Tryd.prog) w 23 5 C n c Tryd.underlying23 Tryd.underlying5
                clear hu
                go_wp2
                go_roundw
                case rel => exact ⟨i3 + 1, by go_num, by omega, ⟨_, (HO.out.set (by omega) i3 _).chg ((Chg.refl none_ _).alloc _) fun _ _ f => f⟩, (HCo.out.setCell (p := ⟨go, i3, none⟩) (fun _ => HO.out.rdk go (by show (if vs.length = 0 then none else some go) = some go; rw [if_neg (by omega)])) _).alloc _⟩
                case measure => simp [intOf]; omega
              · obtain ⟨y12, rfl⟩ : ∃ y, y = wr := ⟨wr, rfl⟩
                have HOutT := HO6
                have hex := HP11.out.exact
                have HP12 := Lib.hid (hex.1.keep HCo.out fun j _ hj => ⟨HAp.out j hj, by have := (HOb.out j hj).1; have := HCw5.out.size; omega⟩)
                have HA12 := Lib.hid (HA11.out.keep HCo.out fun j _ hj h => by
                  have h1 := HOutT.out j hj
                  have h9 := HZ9.out
                  have h10 := HY910.out
                  rcases h with (h | h) | h
                  · have := (HL.out.rf.sz _ h).2; have := HY3.out.size; have := HY34.out; omega
                  · omega
                  · omega)
                have HI12 : Hid (Is y12 gm 81 #[.int .i64 most, .slice A4 n4 c4]) := HI11.out.chg HCo.out fun e => by have := (HOutT.out gm e).1; have := HL.out.im.lt; have := HY5.out.size; omega
                have HDx : Hid (∀ j, Fp (some ⟨g, 0, none⟩) (.slice A10 (us1.length + vs.length) c10) (us1 ++ vs) hv2 j → ¬ ((T j ∨ y3.heap.size ≤ j ∧ j < y4.heap.size) ∨ y10.heap.size ≤ j ∧ j < y11.heap.size)) := fun j hj => HD11.out j (hex.2 j hj)
                have HLk := Lib.hid (Lst.of HP12.out.g.all HP12.out.g.mem)
                have HLw := Lib.hid HA12.out.want
                have HMs : Hid ((sayB most C).1 ++ fM most F b = (sayB most (C ++ b)).1) := by show _ = _; rw [(st_next HCx.out.2.1 HCx.out.2.2.1 HMr.out.1).2, HSt.out.2]
                go_wp2_with fail
                refine (msame_any _ HLk.out HLw.out (by rw [List.length_append]; have := HLen.out; have := HUL.out; omega)).mono ?_
                rintro e y13 ⟨rfl, k4⟩
                rw [decide_eq_true HMs.out.symm]
                have HN : Hid (MmL w y13 gm (some ⟨g, 0, none⟩) most (C ++ b) (nF most F b) (.slice A10 (us1.length + vs.length) c10) (us1 ++ vs) hv2 (.slice A11 (ws.length + ss.length) c11) (ws ++ ss) (.slice A4 n4 c4) (Fp (some ⟨g, 0, none⟩) (.slice A10 (us1.length + vs.length) c10) (us1 ++ vs) hv2) (fun j => (T j ∨ y3.heap.size ≤ j ∧ j < y4.heap.size) ∨ y10.heap.size ≤ j ∧ j < y11.heap.size)) := by
                  refine ⟨HP12.out.keep k4 fun _ _ f => False.elim f, ?_, HI12.out.chg k4 fun f => f, ⟨HL.out.gm1.1, fun h => ?_, fun h => ?_⟩, HDx.out, HSt.out.1⟩
                  · rw [← HMs.out]
                    exact HA12.out.keep k4 fun _ _ f => f.elim
                  · have hl := HL.out.im.lt
                    have h9 := HZ9.out
                    have h5 := HY5.out.size
                    rcases hex.2 _ h with (h | h) | h
                    · exact HL.out.gm1.2.1 h
                    · omega
                    · omega
                  · have hl := HL.out.im.lt
                    have h3 := HY3.out.size
                    have h9 := HZ9.out
                    have h10 := HY910.out
                    have h5 := HY5.out.size
                    rcases h with (h | h) | h
                    · exact HL.out.gm1.2.2 h
                    · omega
                    · omega
                clear k4 hex
                go_wp2
                go_roundw
                case rel => exact ⟨k + 1, C ++ b, nF most F b, _, _, _, _, _, _, _, _, by go_num, rfl, rfl, by omega, HCx.out.2.2.2.1, HCx.out.2.2.2.2.2.2, HCl.out.1, HCl.out.2, HN.out⟩
                case measure => simp [intOf]; omega
      · have HSu : Hid (∀ u ∈ us1, ∀ q, obk u = some q → w.heap.size ≤ q ∧ q < wo.heap.size ∧ S q) := fun u hu q hq => ⟨(hL.sd.sz q (hL.sd.s3 u hu q hq)).1, (hL.sd.sz q (hL.sd.s3 u hu q hq)).2, hL.sd.s3 u hu q hq⟩
        have hus : us1.length ≤ 1048576 := by have := hL.sd.g.mem.len; have := say_cnt (most := most) C hC; have := take_sum_le ps k; have := HSum.out; omega
        have hFl2 : F.length ≤ 1099511627776 := by have := take_sum_le ps k; have := HSum.out; omega
        obtain ⟨Ms, hMs⟩ : ∃ Ms, (sayB most C).1 = Ms := ⟨_, rfl⟩
        have hmem := hL.sd.g.mem
        rw [hMs] at hmem
        obtain ⟨U, hU⟩ : ∃ U : Nat → Value, (fun j => us1.getD j .nilIface) = U := ⟨_, rfl⟩
        obtain ⟨N, hN⟩ : ∃ N : Nat → Nat, (fun j => (Ms.getD j []).length) = N := ⟨_, rfl⟩
        obtain ⟨LL, hLL⟩ : ∃ LL : Nat → List Value, (fun j => List.replicate (N j) (Value.int .u8 ((j : Int) % 256))) = LL := ⟨_, rfl⟩
        obtain ⟨MM, hMM⟩ : ∃ MM : Nat → Value, (fun j : Nat => Value.int .u8 (((j : Int) + 1) % 256)) = MM := ⟨_, rfl⟩
        have hUj : ∀ j, j < us1.length → us1[j]? = some (U j) := fun j hj => by rw [← hU]; exact vals_get hj
        have hUm : ∀ j, j < us1.length → U j ∈ us1 := fun j hj => List.mem_of_getElem? (hUj j hj)
        have HOb0 : Hid (∀ j, j < us1.length → ∃ xs, Ob wo w.heap.size 5 (U j) (N j) xs ∧ N j ≤ 1099511627776) := fun j hj => by
          obtain ⟨b, hb⟩ : ∃ b, Ms[j]? = some b := ⟨_, List.getElem?_eq_getElem (by have := hmem.len; omega)⟩
          have h := hmem.all.get (hUj j hj) hb
          have e : N j = b.length := by rw [← hN]; show (Ms.getD j []).length = _; rw [List.getD_eq_getElem?_getD, hb]; rfl
          rw [e]
          have hbm : b ∈ Ms := List.mem_of_getElem? hb
          rw [← hMs] at hbm
          obtain ⟨_, _, hle, _⟩ := say_back (most := most) C hC
          have := hle b hbm
          have := HMr.out.2
          exact ⟨_, h.1, by omega⟩
        have HDis : Hid (∀ j j' q, j < us1.length → j' < us1.length → j ≠ j' → obk (U j) = some q → obk (U j') ≠ some q) := fun j j' q hj hj' hne e e' => by
          have hp := List.pairwise_iff_getElem.1 hmem.apart
          have g1 : us1[j] = U j := Option.some.inj ((List.getElem?_eq_getElem hj).symm.trans (hUj j hj))
          have g2 : us1[j'] = U j' := Option.some.inj ((List.getElem?_eq_getElem hj').symm.trans (hUj j' hj'))
          rcases Nat.lt_or_gt_of_ne hne with h | h
          · have := hp j j' hj hj' h q (by rw [g1]; exact e)
            rw [g2] at this
            exact this e'
          · have := hp j' j hj' hj h q (by rw [g2]; exact e')
            rw [g1] at this
            exact this e
        have HRd2 : Hid (∀ j, j < us1.length → ∀ q, rdk (U j) = some q → obk (U j) = some q) := fun j hj => by
          obtain ⟨xs, h, _⟩ := HOb0.out j hj
          exact h.rdk
        have HUlt : Hid (∀ j, j < us1.length → ∀ q, obk (U j) = some q → w.heap.size ≤ q ∧ q < wo.heap.size ∧ S q) := fun j hj => HSu.out _ (hUm j hj)
        have HLc : Hid (∀ wr, Chg (fun q => ∃ j, j < us1.length ∧ obk (U j) = some q) wo wr → ∀ j, j < us1.length → ∃ gk, Aa = some ⟨gk, 0, none⟩ ∧ wr.cell? ⟨gk, j, none⟩ = some (U j)) := fun wr hc j hj => by
          have ha := hL.sd.g.all
          obtain ⟨gk, rfl⟩ := ha.addr (by omega)
          refine ⟨gk, rfl, ?_⟩
          have hgk := ha.rdk gk (by show (if us1.length = 0 then none else some gk) = some gk; rw [if_neg (by omega)])
          refine (hc.cell (p := ⟨gk, j, none⟩) (ha.block gk hgk).2 fun ⟨j', hj', e⟩ => ?_).trans ((ha.cellAt j hj).trans (hUj j hj))
          exact (hL.sd.g.off _ (hUm j' hj') gk e).1 hgk
        have HM1 : Hid (Mp1 wo w.heap.size us1.length U N LL 0 wo) := ⟨fun j hj => by obtain ⟨xs, h, _⟩ := HOb0.out j hj; exact ⟨xs, h, fun h => by omega⟩, Chg.refl _ _⟩
        have HPr : Hid (Pr wo w.heap.size (some ⟨g, 0, none⟩) most F hv ∧ (∀ q, (∃ j, j < us1.length ∧ obk (U j) = some q) → ¬ fW (some ⟨g, 0, none⟩) hv q)) := by
          refine ⟨?_, fun q ⟨j, hj, e⟩ => (hL.sd.g.off _ (hUm j hj) q e).2⟩
          rcases hL.sd.g.pr with ⟨e, _⟩ | ⟨h0, h1, g', e, h2, h3⟩
          · have := HMr.out.1; omega
          · exact .inr ⟨h0, h1, g', e, by rw [hL.st]; exact h2, h3⟩
        have HLLe := Lib.hid hLL
        have HMMe := Lib.hid hMM
        have hLl : ∀ j, (LL j).length = N j := fun j => by rw [← hLL]; exact List.length_replicate
        have HLl := Lib.hid hLl
        clear hL hC hF hCl hFl hMs hmem hU hN hLL hMM hUj hUm hLl HSu
        go_wp2_with fail
        go_loopw [158] (fun x wr => ∃ i : Nat, x = .int .i64 (i : Int) ∧ i ≤ us1.length ∧ Mp1 wo w.heap.size us1.length U N LL i wr) (fun x _ => us1.length - (intOf x).toNat)
        case atStart => exact ⟨0, rfl, Nat.zero_le _, HM1.out⟩
        case round =>
          obtain ⟨i, rfl, hi, hA⟩ := hrel
          obtain ⟨w4, rfl⟩ : ∃ y, y = wr := ⟨wr, rfl⟩
          have HA := Lib.hid hA
          clear hA
          by_cases hlt4 : i < us1.length
          · obtain ⟨xs, hox, _⟩ := HA.out.ob i hlt4
            obtain ⟨gk, rfl, hcl⟩ := HLc.out w4 HA.out.chg i hlt4
            obtain ⟨Au, cu, hU, hNc, _⟩ := hox.slice
            obtain ⟨m, hm⟩ : ∃ m, N i = m := ⟨_, rfl⟩
            obtain ⟨_, _, hm47⟩ := HOb0.out i hlt4
            have hxl := hox.len
            rw [hU] at hox hcl
            rw [hm] at hox hcl hm47 hNc hxl
            have HU : Hid (U i = .slice Au m cu ∧ N i = m) := ⟨by rw [hU, hm], hm⟩
            have HO := Lib.hid hox
            have HXl := Lib.hid hxl
            clear hox hU hm hxl
            go_wp2_with fail
            go_loopw [165] (fun x wr => ∃ q : Nat, x = .int .i64 (q : Int) ∧ q ≤ m ∧ Ob wr w.heap.size 5 (.slice Au m cu) m (List.replicate q (Value.int .u8 ((i : Int) % 256)) ++ xs.drop q) ∧ Chg (fun q => obk (.slice Au m cu) = some q) w4 wr) (fun x _ => m - (intOf x).toNat)
            case atStart => exact ⟨0, rfl, Nat.zero_le _, by simpa using HO.out, Chg.refl _ _⟩
            case round =>
              obtain ⟨q, rfl, hq, hO, hC⟩ := hrel
              have HO2 := Lib.hid hO
              have HC2 := Lib.hid hC
              clear hO hC
              by_cases hlt5 : q < m
              · obtain ⟨g5, rfl⟩ := HO2.out.addr (by omega)
                obtain ⟨u, hu⟩ : ∃ u, (List.replicate q (Value.int .u8 ((i : Int) % 256)) ++ xs.drop q)[q]? = some u := ⟨_, List.getElem?_eq_getElem (by rw [List.length_append, List.length_replicate, List.length_drop, HXl.out]; omega)⟩
                have hcc : wr.cell? ⟨g5, q, none⟩ = some u := (HO2.out.cellAt q hlt5).trans hu
                have hfr : wr.frozen? ⟨g5, q, none⟩ = false := HO2.out.frozenAt (by omega) q
                clear hu
                go_wp2
                go_roundw
                case rel =>
                  refine ⟨q + 1, by go_num, by omega, ?_, HC2.out.setCell (fun _ => by simp [obk]; omega) _⟩
                  have h := HO2.out.set (by omega) q (.int .u8 ((i : Int) % 256))
                  rw [set_mid (List.length_replicate) (by rw [HXl.out]; exact hlt5), ← List.replicate_succ'] at h
                  exact h
                case measure => simp [intOf]; omega
              · go_wp2
                go_roundw
                case rel =>
                  have hkm : q = m := by omega
                  have hU : U i = .slice Au m cu := HU.out.1
                  have hfin : Ob wr w.heap.size 5 (.slice Au m cu) m (LL i) := by
                    have h := HO2.out
                    rw [hkm, List.drop_eq_nil_of_le (by rw [HXl.out]; exact Nat.le_refl _), List.append_nil] at h
                    rw [← HLLe.out]
                    show Ob _ _ _ _ _ (List.replicate (N i) _)
                    rw [HU.out.2]
                    exact h
                  have hd : ∀ j, j < us1.length → j ≠ i → ∀ q, obk (U j) = some q → ¬ obk (.slice Au m cu) = some q := fun j hj hji q hq e => HDis.out i j q hlt4 hj (by omega) (by rw [hU]; exact e) hq
                  refine ⟨i + 1, by go_num, by omega, fun j hj => ?_, HA.out.chg.then HC2.out fun q _ e => ⟨i, hlt4, by rw [hU]; exact e⟩⟩
                  by_cases hji : j = i
                  · subst hji
                    exact ⟨_, by rw [hU, HU.out.2]; exact hfin, fun _ => rfl⟩
                  · obtain ⟨ys, h1, h2⟩ := HA.out.ob j hj
                    exact ⟨ys, h1.chg HC2.out (hd j hj hji), fun h => h2 (by omega)⟩
                case measure => simp [intOf]; omega
          · have hin : i = us1.length := by omega
            have HT : Hid (∀ j, j < us1.length → Ob w4 w.heap.size 5 (U j) (N j) (LL j)) := fun j hj => by
              obtain ⟨ys, h1, h2⟩ := HA.out.ob j hj
              rw [h2 (by omega)] at h1
              exact h1
            have HC4 : Hid (Chg (fun q => ∃ j, j < us1.length ∧ obk (U j) = some q) wo w4) := HA.out.chg
            have HM3 : Hid (Mp3 w4 w.heap.size us1.length U N LL MM 0 w4 (.slice none 0 0) [] (fun _ => 0) (fun _ => 0)) :=
              ⟨ob_nil _ _ _ _, fun j hj => by omega, fun j hj => by omega, fun j hj => by omega, fun j _ hj => HT.out j hj, fun j hj => by omega, fun j hj => by omega, Chg.refl _ _⟩
            have HUl4 : Hid (∀ j, j < us1.length → ∀ q, obk (U j) = some q → q < w4.heap.size) := fun j hj q hq => by have := (HUlt.out j hj q hq).2.1; have := HC4.out.size; omega
            have HL4 : Hid (∀ wr, Chg (fun q => ∃ j, j < us1.length ∧ obk (U j) = some q) w4 wr → ∀ j, j < us1.length → ∃ gk, Aa = some ⟨gk, 0, none⟩ ∧ wr.cell? ⟨gk, j, none⟩ = some (U j)) := fun wr hc => HLc.out wr (HC4.out.trans hc)
            clear HA HM1
            go_wp2_with fail
            go_loopw [25, 177] (fun x25 x wr => ∃ (t : Nat) (vg : Value) (gsl : List Value) (Gb Gc : Nat → Nat), x = .int .i64 (t : Int) ∧ vg = x25 ∧ t ≤ us1.length ∧ Mp3 w4 w.heap.size us1.length U N LL MM t wr vg gsl Gb Gc) (fun _ x _ => us1.length - (intOf x).toNat)
            case atStart => exact ⟨0, _, [], _, _, rfl, rfl, Nat.zero_le _, HM3.out⟩
            case round =>
              obtain ⟨t, vg, gsl, Gb, Gc, rfl, rfl, ht, hA⟩ := hrel
              obtain ⟨w6, rfl⟩ : ∃ y, y = wr := ⟨wr, rfl⟩
              obtain ⟨Ag, cg, rfl, hcg, _⟩ := hA.all.slice
              have HA := Lib.hid hA
              clear hA
              by_cases hlt6 : t < us1.length
              · have hox := HA.out.todo t (Nat.le_refl _) hlt6
                obtain ⟨Au, cu, hU, hNc, _⟩ := hox.slice
                have HU : Hid (U t = .slice Au (N t) cu) := hU
                obtain ⟨gk, rfl, hcl⟩ := HL4.out w6 HA.out.chg t hlt6
                obtain ⟨_, _, hm47⟩ := HOb0.out t hlt6
                rw [hU] at hcl
                have H40 : Hid (Mp4 w6 w.heap.size (U t) (N t) (LL t) 0 w6 (.slice Au (N t) cu)) := ⟨⟨[], rfl, by rw [← hU]; simpa using hox⟩, hox, .inl (by rw [hU]; exact ⟨rfl, rfl⟩), Chg.refl _ _⟩
                clear hox hU
                go_wp2_with fail
                go_loopw [28, 29] (fun x28 x29 wr => ∃ (q : Nat) (v7 : Value), x29 = .int .i64 (q : Int) ∧ v7 = x28 ∧ q ≤ 64 ∧ Mp4 w6 w.heap.size (U t) (N t) (LL t) q wr v7) (fun _ x29 _ => 64 - (intOf x29).toNat)
                case atStart => exact ⟨0, _, rfl, rfl, Nat.zero_le _, H40.out⟩
                case round =>
                  obtain ⟨q, v7, rfl, rfl, hq, hP⟩ := hrel
                  have HP7 := Lib.hid hP
                  clear hP
                  have hbase : w.heap.size ≤ wr.heap.size := by have h1 := HP7.out.chg.size; have h2 := HA.out.chg.size; have h3 := HC4.out.size; have h4 := HW.out.size; omega
                  by_cases hlt7 : q < 64
                  · obtain ⟨xs, hxl, hxo⟩ := HP7.out.ob
                    have hPa : Ob (wr.alloc (.cells #[.int .u8 119] 5)) w.heap.size 5 v7 (N t + q) (LL t ++ xs) := hxo.chg ((Chg.refl none_ wr).alloc _) fun _ _ f => f
                    have hrd : Rd (wr.alloc (.cells #[.int .u8 119] 5)) (some ⟨wr.heap.size, 0, none⟩) 1 fun i => .int .u8 (([119] : List Int).getD i 0) := Is.rdI [119] (Is.new wr 5 _)
                    have HRd3 := Lib.hid hrd
                    have HXl := Lib.hid hxl
                    obtain ⟨nk, hnk⟩ : ∃ nk, N t + q = nk := ⟨_, rfl⟩
                    have HNk := Lib.hid hnk
                    have hnk47 : nk + 1 ≤ 140737488355328 := by omega
                    have hb7 : w.heap.size ≤ (wr.alloc (.cells #[.int .u8 119] 5)).heap.size := by simp; omega
                    rw [hnk] at hPa
                    clear hrd hnk hxo hxl
                    go_wp2_with (at_builtin; refine wpList_append_bytes4 rfl (.tmp 187) (.tmp 188) rfl rfl hPa (some ⟨wr.heap.size, 0, none⟩) 1 1 [119] rfl rfl HRd3.out hnk47 hb7 ?_)
                    intro v' w' k1 k2 k3
                    have HK : Hid (Mp4 w6 w.heap.size (U t) (N t) (LL t) (q + 1) w' v') := HP7.out.step (fun q hq => by have := HUl4.out t hlt6 q hq; have := HA.out.chg.size; omega) ((Chg.refl none_ wr).alloc _) (HLl.out t) HXl.out (z := .int .u8 119) (by rw [HNk.out, List.append_assoc]; exact k1) k2 (by simpa using k3)
                    clear k1 k2 k3
                    go_wp2
                    go_roundw
                    case rel => exact ⟨q + 1, _, by go_num, rfl, by omega, HK.out⟩
                    case measure => simp [intOf]; omega
                  · have hus' := HP7.out.us
                    rw [HU.out] at hus'
                    have hPa : Ob (wr.alloc (.cells #[.int .u8 (((t : Int) + 1) % 256)] 5)) w.heap.size 5 (.slice Au (N t) cu) (N t) (LL t) := hus'.chg ((Chg.refl none_ wr).alloc _) fun _ _ f => f
                    have HPa := Lib.hid hPa
                    have HRd3 : Hid (Rd (wr.alloc (.cells #[.int .u8 (((t : Int) + 1) % 256)] 5)) (some ⟨wr.heap.size, 0, none⟩) 1 fun i => .int .u8 (([((t : Int) + 1) % 256] : List Int).getD i 0)) := Is.rdI [((t : Int) + 1) % 256] (Is.new wr 5 _)
                    have hb7 : w.heap.size ≤ (wr.alloc (.cells #[.int .u8 (((t : Int) + 1) % 256)] 5)).heap.size := by simp; omega
                    clear hus' hPa
                    go_wp2_with (at_builtin; refine wpList_append_bytes4 rfl (.tmp 191) (.tmp 195) rfl rfl HPa.out (some ⟨wr.heap.size, 0, none⟩) 1 1 [((t : Int) + 1) % 256] rfl rfl HRd3.out (by omega) hb7 ?_)
                    intro v8 w8 k1 k2 k3
                    obtain ⟨A8, c8, rfl, _, _⟩ := k1.slice
                    obtain ⟨g8, rfl⟩ := k1.addr (by omega)
                    have HK1 := Lib.hid k1
                    have HK2 := Lib.hid k2
                    have HK3 := Lib.hid k3
                    have z8 : (wr.alloc (.cells #[.int .u8 (((t : Int) + 1) % 256)] 5)).heap.size ≤ w8.heap.size := k2.size
                    have hvgU : ∀ q, obk (.slice Ag t cg) = some q → obk (U t) ≠ some q := fun q hq e => by have := (HA.out.all.block q hq).1; have := HUl4.out t hlt6 q e; omega
                    have HAl : Hid (Ob (w8.alloc (.cells #[.slice (some ⟨g8, 0, none⟩) (N t + 1) c8] 23)) w4.heap.size 23 (.slice Ag t cg) t gsl) :=
                      (((HA.out.all.chg HP7.out.chg hvgU).chg ((Chg.refl none_ wr).alloc _) fun _ _ f => f).chg (grow_chg k2) fun q hq e => hvgU q hq (by rw [HU.out]; exact e)).chg ((Chg.refl none_ w8).alloc _) fun _ _ f => f
                    have HRl : Hid (Rd (w8.alloc (.cells #[.slice (some ⟨g8, 0, none⟩) (N t + 1) c8] 23)) (some ⟨w8.heap.size, 0, none⟩) 1 fun i => ([.slice (some ⟨g8, 0, none⟩) (N t + 1) c8] : List Value).getD i .nilIface) := Is.rdV [.slice (some ⟨g8, 0, none⟩) (N t + 1) c8] (Is.new w8 23 _)
                    have hb8 : w4.heap.size ≤ (w8.alloc (.cells #[.slice (some ⟨g8, 0, none⟩) (N t + 1) c8] 23)).heap.size := by
                      have h1 := HP7.out.chg.size
                      have h2 := HA.out.chg.size
                      simp at z8 ⊢
                      omega
                    clear k1 k2 k3 hvgU
                    go_wp2_with (at_builtin; refine wpList_append_lists rfl (.tmp 190) (.tmp 197) rfl rfl HAl.out (some ⟨w8.heap.size, 0, none⟩) 1 1 [.slice (some ⟨g8, 0, none⟩) (N t + 1) c8] rfl rfl HRl.out ?h1b ?hbb hb8 ?_)
                    case h1b => simp [Value.oneCell']
                    case hbb => omega
                    intro v9 w9 j1 j2 j3
                    have HS3 : Hid (Mp3 w4 w.heap.size us1.length U N LL MM (t + 1) w9 v9 (gsl ++ [.slice (some ⟨g8, 0, none⟩) (N t + 1) c8]) (fun j => if j = t then g8 else Gb j) (fun j => if j = t then c8 else Gc j)) :=
                      HA.out.step hlt6 (HLl.out t) HUl4.out HRd2.out HDis.out HP7.out ((Chg.refl none_ wr).alloc _) (by rw [← HMMe.out]; exact HK1.out) (by rw [HU.out]; exact HK2.out) (by
                        rw [HU.out]
                        rcases HK3.out with h | h
                        · exact .inl h.1
                        · exact .inr (by simpa using h)) ((Chg.refl none_ w8).alloc _) j1 j2 (by simpa using j3)
                    clear j1 j2 j3
                    go_wp2
                    go_roundw
                    case rel => exact ⟨t + 1, _, _, _, _, by go_num, rfl, by omega, HS3.out⟩
                    case measure => simp [intOf]; omega
              · have hti : t = us1.length := by omega
                have HLk : Hid ((∀ j, j < us1.length → ∃ gk, Aa = some ⟨gk, 0, none⟩ ∧ w6.cell? ⟨gk, j, none⟩ = some (U j)) ∧ (∀ j, j < us1.length → ∃ gv, Ag = some ⟨gv, 0, none⟩ ∧ w6.cell? ⟨gv, j, none⟩ = some (.slice (some ⟨Gb j, 0, none⟩) (N j + 1) (Gc j))) ∧ (∀ j, j < us1.length → w6.cell? ⟨Gb j, N j, none⟩ = some (.int .u8 (((j : Int) + 1) % 256))) ∧
                    (∀ j, j < us1.length → ∃ A c, U j = .slice A (N j) c ∧ (0 < N j → ∃ g, A = some ⟨g, 0, none⟩ ∧ ∀ q, q < N j → w6.cell? ⟨g, q, none⟩ = some (.int .u8 ((j : Int) % 256))))) := by
                  refine ⟨HL4.out w6 HA.out.chg, fun j hj => ?_, fun j hj => ?_, fun j hj => ?_⟩
                  · have ha := HA.out.all
                    obtain ⟨gv, rfl⟩ := ha.addr (by omega)
                    exact ⟨gv, rfl, (ha.cellAt j (by omega)).trans (HA.out.at_ j (by omega))⟩
                  · rw [(HA.out.gs j (by omega)).cellAt (N j) (by omega), List.getElem?_append_right (by rw [HLl.out]; exact Nat.le_refl _), HLl.out, Nat.sub_self, ← HMMe.out]
                    rfl
                  · have h0 := HT.out j hj
                    obtain ⟨A, c, hU, _, _⟩ := h0.slice
                    refine ⟨A, c, hU, fun hp => ?_⟩
                    rw [hU] at h0
                    obtain ⟨g, rfl⟩ := h0.addr hp
                    refine ⟨g, rfl, fun q hq => ?_⟩
                    rw [HA.out.us j (by omega) g c hU q hq, ← HLLe.out]
                    show (List.replicate (N j) _)[q]? = _
                    rw [List.getElem?_replicate, if_pos hq]
                have hC6 : Chg (fun q => ∃ j, j < us1.length ∧ obk (U j) = some q) wo w6 := HC4.out.trans HA.out.chg
                have HC6 : Hid (Chg none_ w w6) := HW.out.then hC6 fun q hq ⟨j, hj, e⟩ => by have := (HUlt.out j hj q e).1; omega
                have HE : Hid (Pr w6 w.heap.size (some ⟨g, 0, none⟩) most F hv ∧ Is w6 gm 81 #[.int .i64 most, fv] ∧ Bs w6 fv F ∧ Sen w.heap.size a w6) := by
                  refine ⟨HPr.out.1.chg hC6 fun q hq h => HPr.out.2 q h hq, HL.out.im.chg hC6 fun ⟨j, hj, e⟩ => HL.out.gm1.2.1 (HUlt.out j hj gm e).2.2, HL.out.rf.bs.chg hC6 fun q hq ⟨j, hj, e⟩ => HL.out.dis q (HUlt.out j hj q e).2.2 (HL.out.rf.ft q hq).1, HS.out.below (HC6.out.old (Nat.le_refl _))⟩
                subst hti
                clear hC6 HA HM3 HL4 HUl4 HC4 HT
                go_wp2_with fail
                go_loopw [202] (fun x wr => ∃ j : Nat, x = .int .i64 (j : Int) ∧ j ≤ us1.length ∧ ∃ q, w6.drewN q = wr) (fun x _ => us1.length - (intOf x).toNat)
                case atStart => exact ⟨0, rfl, Nat.zero_le _, 0, rfl⟩
                case round =>
                  obtain ⟨j, rfl, hj, q, rfl⟩ := hrel
                  by_cases hjt : j < us1.length
                  · obtain ⟨gk, rfl, hcl0⟩ := HLk.out.1 j hjt
                    obtain ⟨gv, rfl, hb0⟩ := HLk.out.2.1 j hjt
                    obtain ⟨Au, cu, hU, hUc⟩ := HLk.out.2.2.2 j hjt
                    obtain ⟨_, _, hm47⟩ := HOb0.out j hjt
                    have hM0 := HLk.out.2.2.1 j hjt
                    rw [hU] at hcl0
                    obtain ⟨m, hm⟩ : ∃ m, N j = m := ⟨_, rfl⟩
                    obtain ⟨m1, hm1⟩ : ∃ m1, m + 1 = m1 := ⟨_, rfl⟩
                    rw [hm] at hcl0 hUc hb0 hM0 hm47
                    rw [hm1] at hb0
                    have hcl : ∀ Q, (w6.drewN Q).cell? ⟨gk, j, none⟩ = some (.slice Au m cu) := fun Q => hcl0
                    have hb : ∀ Q, (w6.drewN Q).cell? ⟨gv, j, none⟩ = some (.slice (some ⟨Gb j, 0, none⟩) m1 (Gc j)) := fun Q => hb0
                    have hM : ∀ Q, (w6.drewN Q).cell? ⟨Gb j, m, none⟩ = some (.int .u8 (((j : Int) + 1) % 256)) := fun Q => hM0
                    have HU := Lib.hid hUc
                    clear hU hm hUc hcl0 hb0 hM0
                    go_wp2_with fail
                    go_loopw [209] (fun x wr => ∃ k : Nat, x = .int .i64 (k : Int) ∧ k ≤ m ∧ ∃ q, w6.drewN q = wr) (fun x _ => m - (intOf x).toNat)
                    case atStart => exact ⟨0, rfl, Nat.zero_le _, _, rfl⟩
                    case round =>
                      obtain ⟨k9, rfl, hk9, q2, rfl⟩ := hrel
                      by_cases hkm : k9 < m
                      · obtain ⟨g9, rfl, hg⟩ := HU.out (by omega)
                        have hc : ∀ Q, (w6.drewN Q).cell? ⟨g9, k9, none⟩ = some (.int .u8 ((j : Int) % 256)) := fun Q => hg k9 hkm
                        clear hg
                        go_wp2
                        go_roundw
                        case rel => exact ⟨k9 + 1, by go_num, by omega, _, rfl⟩
                        case measure => simp [intOf]; omega
                      · have hmm : (m : Int) < (m1 : Int) := by omega
                        have hmm0 : (0 : Int) ≤ (m : Int) := by omega
                        go_wp2
                        go_roundw
                        case rel => exact ⟨j + 1, by go_num, by omega, _, rfl⟩
                        case measure => simp [intOf]; omega
                  · have HS0 : Hid (RdS w (w6.drewN q) w.heap.size a gm (some ⟨g, 0, none⟩) most F fv hv) := ⟨HC6.out.drewN q, HE.out.1.keep ((Chg.refl none_ w6).drewN q), HE.out.2.1, HE.out.2.2.1.chg ((Chg.refl none_ w6).drewN q) fun _ _ f => f, HE.out.2.2.2.drewN q⟩
                    obtain ⟨w7, hw7⟩ : ∃ y, w6.drewN q = y := ⟨_, rfl⟩
                    rw [hw7] at HS0 ⊢
                    obtain ⟨Af, nf, cf, rfl, _, _, _, _⟩ := HE.out.2.2.1
                    have HF2 := Lib.hid hFl2
                    have HS1 := Lib.hid (HS0.out.to ((Chg.refl none_ w7).drew) HS0.out.chg.size)
                    clear hw7 hFl2
                    go_wp2_with fail
                    go_region_held3 (fun u => RdS w u w.heap.size a gm (some ⟨g, 0, none⟩) most F (.slice Af nf cf) hv ∧ u.cell? ⟨gm, 0, none⟩ = some (.int .i64 most) ∧ u.cell? ⟨gm, 1, none⟩ = some (.slice Af nf cf))
                      (first | assumption | exact ⟨HS1.out, HS1.out.im.at_ 0 _ rfl, HS1.out.im.at_ 1 _ rfl⟩ | exact RdS.keep2 (by assumption) (by assumption))
                      (first
                        | (go_at_call 26; refine (code_any _ (RdS.sen (And.left (by assumption))) _ (dC_le _ _)).mono ?_; rintro e w' ⟨rfl, rfl⟩)
                        | (go_at_call 37; refine (pheld_any _ (RdS.pr (And.left (by assumption)))).mono ?_; rintro e w' ⟨rfl, rfl⟩)
                        | (go_at_call 38; refine (qheld_any _ most (Or.inr HMr.out) _ _ (RdS.bs (And.left (by assumption))) HF2.out).mono ?_; rintro e w' ⟨rfl, hc⟩)
                        | (go_at_call 39; refine (pdone_any _ (RdS.sen (And.left (by assumption))) (RdS.pr (And.left (by assumption)))).mono ?_; rintro e w' ⟨rfl, rfl⟩)
                        | (go_at_call 40; refine (qdone_any _ most (Or.inr HMr.out) _ _ (RdS.bs (And.left (by assumption))) HF2.out).mono ?_; rintro e w' ⟨rfl, hc⟩))
                    rename_i hLast
                    have HLast := Lib.hid hLast
                    clear hLast
                    go_wp2
                    go_ret
                    exact ⟨rfl, HLast.out.1.chg.old (Nat.le_refl _)⟩
end Go.Proofs.YthalmjjbamglgaaDoor
