/-
  The walk of MsgReads (printed by gen_msgrd.py).
  No condition of its own: the fact 'Sen' on the world; the pieces are within the bulk.
-/
import Derived.Test.YtpmncndicdlmhaaDoorMsg6
namespace Go.Proofs.YtpmncndicdlmhaaDoor
open Go.RowKit

theorem rd_at {w : World} {ad : Addr} {n : Nat} {f : Nat → Value} (h : Rd w (some ad) n f) (i : Nat) (hi : i < n) : w.cell? (ad.add i) = some (f i) := by
  obtain ⟨ad', e, hc⟩ := h (by omega)
  obtain rfl := Option.some.inj e
  exact hc i hi
theorem take_sum {ps : List (List Int)} {k : Nat} {b : List Int} (h : ps[k]? = some b) : ((ps.take (k + 1)).map List.length).sum = ((ps.take k).map List.length).sum + b.length := by
  obtain ⟨hk, e⟩ := List.getElem?_eq_some_iff.1 h
  rw [List.take_succ_eq_append_getElem hk, List.map_append, List.sum_append, e]
  simp
theorem take_sum_le (ps : List (List Int)) (k : Nat) : ((ps.take k).map List.length).sum ≤ (ps.map List.length).sum := by
  have h := congrArg (fun l => (l.map List.length).sum) (List.take_append_drop k ps)
  simp only [List.map_append, List.sum_append] at h
  omega

theorem Bs.rdOf {w : World} {A : Option Addr} {n c : Nat} {xs : List Int} (h : Bs w (.slice A n c) xs) : Rd w A n fun i => .int .u8 (xs.getD i 0) := by
  obtain ⟨_, _, _, e, _, _, hr, _⟩ := h
  cases e
  exact hr
/-- What holds at the head of MsgReads' loop. -/
structure RdL (w wr : World) (gm : Nat) (p : Option Addr) (most : Int) (F : List Int) (fv hv : Value) : Prop where
  chg : Chg none_ w wr
  pr : Pr wr w.heap.size p most F hv
  im : Is wr gm 68 #[.int .i64 most, fv]
  bs : Bs wr fv F
  gm1 : w.heap.size ≤ gm
  gm2 : ¬ fW p hv gm
  off : ∀ k, rdk fv = some k → ¬ fW p hv k
  new : ∀ k, rdk fv = some k → w.heap.size ≤ k ∧ k ≠ gm

/-- What is known behind the Feeds of a round. -/
structure RdS (w W : World) (B : Nat) (a : Nat → Addr) (gm : Nat) (p : Option Addr) (most : Int) (F2 : List Int) (fv2 hv2 : Value) : Prop where
  chg : Chg none_ w W
  pr : Pr W w.heap.size p most F2 hv2
  im : Is W gm 68 #[.int .i64 most, fv2]
  bs : Bs W fv2 F2
  sen : Sen B a W
theorem RdS.to {w W W' : World} {B : Nat} {a : Nat → Addr} {gm : Nat} {p : Option Addr} {most : Int} {F2 : List Int} {fv2 hv2 : Value} (h : RdS w W B a gm p most F2 fv2 hv2) (hc : Chg none_ W W') (hB : B ≤ W.heap.size) : RdS w W' B a gm p most F2 fv2 hv2 :=
  ⟨h.chg.trans hc, h.pr.keep hc, h.im.chg hc (fun f => f), h.bs.chg hc (fun _ _ f => f), h.sen.below (hc.old hB)⟩

theorem RdS.keep2 {w W W' : World} {a : Nat → Addr} {gm : Nat} {p : Option Addr} {most : Int} {F2 : List Int} {fv2 hv2 : Value} (hc : Chg none_ W W')
    (h : RdS w W w.heap.size a gm p most F2 fv2 hv2 ∧ W.cell? ⟨gm, 0, none⟩ = some (.int .i64 most) ∧ W.cell? ⟨gm, 1, none⟩ = some fv2) :
    RdS w W' w.heap.size a gm p most F2 fv2 hv2 ∧ W'.cell? ⟨gm, 0, none⟩ = some (.int .i64 most) ∧ W'.cell? ⟨gm, 1, none⟩ = some fv2 :=
  ⟨h.1.to hc h.1.chg.size, (h.1.to hc h.1.chg.size).im.at_ 0 _ rfl, (h.1.to hc h.1.chg.size).im.at_ 1 _ rfl⟩

set_option maxRecDepth 100000 in
set_option maxHeartbeats 8000000 in
theorem msgreads_walk {a : Nat → Addr} (w : World) (hs : Sen w.heap.size a w) (most0 : Int) (v : Value) (us : List Value) (ps : List (List Int)) (hl : Lst w 0 v us ps) (hsum : us.length + (ps.map List.length).sum ≤ 1048576) :
    Calls Tryd.prog 8 #[.int .i64 most0, v] w fun e w' => e = .returned (.bool true) ∧ Below w.heap.size w w' := by
  obtain ⟨A, c, rfl, hnc, hr⟩ := hl.form
  have HS := Lib.hid hs
  have HLs := Lib.hid hl
  have HSum := Lib.hid hsum
  have HR := Lib.hid hr
  obtain ⟨n, hn⟩ : ∃ n, n = us.length := ⟨_, rfl⟩
  rw [← hn] at hnc ⊢
  have HN := Lib.hid hn
  have hn20 : n ≤ 1048576 := by omega
  clear hs hl hr hsum hn
  by_cases hbad : most0 < 0 ∨ 1048576 < most0
  · have HMr : Hid True := trivial
    have HQ := Lib.hid (fun w => rnew_any w most0)
    have HBad := Lib.hid hbad
    clear hbad
    go_enter Tryd.func8, Tryd.ntmps8
    go_wp2_with fail
    refine (fixed_any w HS.out (Nat.le_refl _)).mono ?_
    rintro e w1 ⟨rfl, c1⟩
    have HC1 := Lib.hid c1
    have HS1 : Hid (Sen w.heap.size a w1) := HS.out.below (c1.old (Nat.le_refl _))
    clear c1
    go_wp2_with fail
    refine (mnew_no w1 HS1.out most0 HBad.out).mono ?_
    rintro e w2 ⟨rfl, c2⟩
    have hP : Hid (Pr w2 w.heap.size none (-1) [] (.slice none 0 0)) := .inl ⟨rfl, rfl, rfl⟩
    have HC2 : Hid (Chg none_ w w2) := HC1.out.trans c2
    have HS2 : Hid (Sen w.heap.size a w2) := HS.out.below (HC2.out.old (Nat.le_refl _))
    clear c2
    go_wp2_with fail
    have h3 := HQ.out w2
    rw [if_pos HBad.out, if_pos HBad.out] at h3
    refine h3.mono ?_
    rintro e w3 ⟨rfl, c3⟩
    have HC3 : Hid (Chg none_ w w3) := HC2.out.trans c3
    have HP3 := Lib.hid (hP.out.keep c3)
    have HS3 : Hid (Sen w.heap.size a w3) := HS.out.below (HC3.out.old (Nat.le_refl _))
    clear c3 h3
    go_wp2_with fail
    refine (code_any _ (HS3.out.below (((Chg.refl none_ w3).alloc _).old HC3.out.size)) 2 (by decide)).mono ?_
    rintro e w' ⟨rfl, rfl⟩
    go_wp2_with fail
    obtain ⟨gm, hgm⟩ : ∃ gm, w3.heap.size = gm := ⟨_, rfl⟩
    have F0 : Hid (RdL w (w3.alloc (.cells #[.int .i64 (-1), .slice none 0 0] 68)) gm none (-1) [] (.slice none 0 0) (.slice none 0 0)) := by
      have e : w3.heap.size = gm := hgm
      refine ⟨HC3.out.alloc _, HP3.out.keep ((Chg.refl none_ w3).alloc _), by rw [← e]; exact Is.new w3 _ _, ⟨none, 0, 0, rfl, rfl, (fun z hz => by simp at hz), Rd.zero _ _ _, Nat.le_refl _⟩, by have := HC3.out.size; omega, fun h => ?_, (fun k hk => by simp [rdk] at hk), (fun k hk => by simp [rdk] at hk)⟩
      have := HP3.out.own gm h
      omega
    rw [hgm]
    clear hgm
    go_loopw [41] (fun x wr => ∃ (k : Nat) (F : List Int) (fv hv : Value), x = .int .i64 (k : Int) ∧ k ≤ n ∧ F.length ≤ ((ps.take k).map List.length).sum ∧ RdL w wr gm none (-1) F fv hv) (fun x _ => n - (intOf x).toNat)
    case atStart => exact ⟨0, [], _, _, rfl, Nat.zero_le _, by simp, F0.out⟩
    case round =>
      obtain ⟨k, F, fv, hv, rfl, hk, hF, hL⟩ := hrel
      have HF := Lib.hid hF
      have HL := Lib.hid hL
      clear hF hL
      by_cases hlt : k < n
      · have hsz := HF.out
        have htk := take_sum_le ps k
        have hS := HSum.out
        have hnu := HN.out
        have hlp := HLs.out.len
        obtain ⟨b, hb⟩ : ∃ b, ps[k]? = some b := ⟨_, List.getElem?_eq_getElem (by omega)⟩
        have hbu := HLs.out.all.get (vals_get (vs := us) (i := k) (by omega)) hb
        have hts := take_sum hb
        have htk1 := take_sum_le ps (k + 1)
        obtain ⟨ad, rfl, hcA⟩ := HR.out (by omega)
        have hcell : Hid (wr.cell? (ad.add k) = some (us.getD k .nilIface)) := (World.cell?_of_block (HL.out.chg.block _ (by rw [block_add]; exact HR.out.lt ad (by omega) rfl) (fun f => f))).trans (hcA k (by omega))
        obtain ⟨bv, hbv⟩ : ∃ bv, us.getD k .nilIface = bv := ⟨_, rfl⟩
        have hcl := hcell.out
        rw [hbv] at hbu hcl
        have HBv : Hid (Bs wr bv b) := hbu.chg HL.out.chg fun _ _ f => f
        have HBw := Lib.hid hbu
        obtain ⟨Ab, nb, cb, rfl, hlb, hbb, hrb, hncb⟩ := hbu
        have HLen : Hid (F.length + b.length ≤ 1048576 ∧ b.length ≤ 1048576 ∧ ((ps.take (k + 1)).map List.length).sum = ((ps.take k).map List.length).sum + b.length) := ⟨by omega, by omega, hts⟩
        have HPs := Lib.hid hb
        have HBb := Lib.hid hbb
        have HBl := Lib.hid hlb
        have m0 : wr.cell? ⟨gm, 0, none⟩ = some (.int .i64 (-1)) := HL.out.im.at_ 0 _ rfl
        have m1 : wr.cell? ⟨gm, 1, none⟩ = some fv := HL.out.im.at_ 1 _ rfl
        clear hsz htk hS hnu hlp hb hts htk1 hcA hcell hbv hlb hbb hrb
        go_wp2_with fail
        refine (qfeed_any wr (-1) (Or.inl rfl) F b fv _ HL.out.bs HBv.out (by have := HLen.out.1; omega)).mono ?_
        rintro e w4 ⟨fv2, mv, us2, rfl, q1, q2, q3, q4⟩
        have HBs2 := Lib.hid q1
        obtain ⟨A2, n2, cc2, rfl, hl2, _, _, _⟩ := q1
        have Hq2 := Lib.hid q2
        have HW := Lib.hid q3
        obtain ⟨Am, cm, rfl, _, _⟩ := q3.form
        have HC4 := Lib.hid q4
        clear q2 q3 q4 hl2
        have HCw4 : Hid (Chg none_ w w4) := HL.out.chg.trans HC4.out
        go_wp2_with (at_builtin; refine wpList_append_bytes rfl (.tmp 54) (.tmp 55) rfl rfl (ob_nil _ w4.heap.size _ _) Ab nb cb b rfl HBl.out ?hr ?hb ?hs ?_)
        case hr => exact (HBw.out.chg ((HCw4.out.alloc _).alloc _) (fun _ _ f => f)).rdOf
        case hb => have := HLen.out.2.1; have := HBl.out; omega
        case hs => simp; omega
        intro v5 w5 k1 k2 k3
        have HC5 : Hid (Chg none_ w4 w5) := (((Chg.refl none_ w4).alloc _).alloc _).trans ((grown_chg k2).more fun k _ hk => by simp [obk] at hk)
        have HCw5 : Hid (Chg none_ w w5) := HCw4.out.trans HC5.out
        have H5 : Hid (Bs w5 v5 b) := Bs.of_ob (by simpa using k1) HBb.out
        have i5 : Hid (Is w5 w4.heap.size 68 #[.int .i64 (-1), .slice A2 n2 cc2]) := by
          have h := ((Is.new w4 68 #[.int .i64 (-1), .slice A2 n2 cc2]).alloc (.cells #[] 5))
          exact h.chg ((grown_chg k2).more (S' := none_) fun k _ hk => by simp [obk] at hk) fun f => f
        have hwr := HC4.out.size
        have hw5 := HC5.out.size
        have hw45 := i5.out.lt
        have HSz : Hid (wr.heap.size ≤ w4.heap.size ∧ w4.heap.size ≤ w5.heap.size ∧ w4.heap.size < w5.heap.size) := ⟨hwr, hw5, hw45⟩
        clear k1 k2 k3 hwr hw5 hw45
        go_wp2_with fail
        refine (pfeed_any w5 (HS.out.below (HCw5.out.old (Nat.le_refl _))) HCw5.out.size (Nat.le_refl _) (HL.out.pr.keep (HC4.out.trans HC5.out)) HL.out.bs.byt v5 b H5.out (by have := HLen.out.1; omega)).mono ?_
        rintro e w6 ⟨out, us3, hv2, rfl, r1, r2, r3, r4, r5, r6, r7⟩
        have HLo : Hid (Lst w6 w5.heap.size out us3 (fM (-1) F b)) := Lst.of r3 r4
        have HCF := Lib.hid r7
        have Hp2 := Lib.hid r1
        have Hr2 := Lib.hid r2
        have ho := HL.out.pr.own
        have HC6 : Hid (Chg none_ w w6) := HCw5.out.then r7 fun k hk h => by have := (ho k h).1; omega
        have j4 : Hid (Is w6 w4.heap.size 68 #[.int .i64 (-1), .slice A2 n2 cc2]) := i5.out.chg r7 fun h => by have := (ho _ h).2; have := HSz.out; omega
        have jm : Hid (Is w6 gm 68 #[.int .i64 (-1), fv]) := (HL.out.im.chg (HC4.out.trans HC5.out) (fun f => f)).chg r7 fun h => HL.out.gm2 h
        have hgm := HL.out.im.lt
        have HGm := Lib.hid hgm
        have n0 : w6.cell? ⟨w4.heap.size, 0, none⟩ = some (.int .i64 (-1)) := j4.out.at_ 0 _ rfl
        have n1 : w6.cell? ⟨w4.heap.size, 1, none⟩ = some (.slice A2 n2 cc2) := j4.out.at_ 1 _ rfl
        have g0 : w6.cell? ⟨gm, 0, none⟩ = some (.int .i64 (-1)) := jm.out.at_ 0 _ rfl
        have g1 : w6.cell? ⟨gm, 1, none⟩ = some fv := jm.out.at_ 1 _ rfl
        have f0 : w6.frozen? ⟨gm, 0, none⟩ = false := jm.out.frozen 0
        have f1 : w6.frozen? ⟨gm, 1, none⟩ = false := jm.out.frozen 1
        have hofv := HL.out.off
        have hnew := HL.out.new
        have hF2 : ∀ k, rdk (.slice A2 n2 cc2) = some k → ¬ fW none hv k ∧ k ≠ gm ∧ w.heap.size ≤ k ∧ k < w5.heap.size := fun k hk => by
          rcases Hq2.out k hk with h | h
          · have := hnew k h; have := HL.out.bs.block k h; have := HSz.out; exact ⟨hofv k h, (hnew k h).2, (hnew k h).1, by omega⟩
          · have := HL.out.chg.size; have := HSz.out; have := HBs2.out.block k hk
            exact ⟨fun hw => by have := (ho k hw).2; omega, by omega, by omega, by omega⟩
        have HF2' := Lib.hid hF2
        have HB6 : Hid (Bs w6 (.slice A2 n2 cc2) (nF (-1) F b)) := (HBs2.out.chg HC5.out (fun _ _ f => f)).chg r7 fun k hk h => (hF2 k hk).1 h
        have HW6 : Hid (Lst w6 wr.heap.size (.slice Am us2.length cm) us2 (fM (-1) F b)) := (HW.out.keep HC5.out).chg r7 fun k hk _ h => by have := (ho k h).2; omega
        clear r1 r2 r3 r4 r5 r6 r7 ho hgm hofv hnew hF2
        have hF2l : Hid ((nF (-1) F b).length ≤ 1099511627776) := by show _ ≤ _; have := nF_len (-1) F b; have := HLen.out.1; omega
        have HUL : Hid (us3.length ≤ 1099511627776) := by show _ ≤ _; have h1 := HLo.out.len; have := fM_len (most := (-1)) HL.out.bs.byt HBb.out; have := HLen.out.1; omega
        have hWc : Chg (fun k => k = gm) w6 ((w6.setCell ⟨gm, 0, none⟩ (.int .i64 (-1))).setCell ⟨gm, 1, none⟩ (.slice A2 n2 cc2)) := ((Chg.refl (fun k => k = gm) w6).setCell (p := ⟨gm, 0, none⟩) (fun _ => rfl) _).setCell (p := ⟨gm, 1, none⟩) (fun _ => rfl) _
        have hgw : ∀ k, fW none hv2 k → k ≠ gm := fun k hk e => by
          subst e
          rcases Hr2.out k hk with h | h
          · exact HL.out.gm2 h
          · have := HGm.out; have := HSz.out; omega
        have hS0 : RdS w ((w6.setCell ⟨gm, 0, none⟩ (.int .i64 (-1))).setCell ⟨gm, 1, none⟩ (.slice A2 n2 cc2)) w.heap.size a gm none (-1) (nF (-1) F b) (.slice A2 n2 cc2) hv2 := by
          have hb : Chg none_ w ((w6.setCell ⟨gm, 0, none⟩ (.int .i64 (-1))).setCell ⟨gm, 1, none⟩ (.slice A2 n2 cc2)) := HC6.out.then hWc fun k hk e => by have := HL.out.gm1; omega
          exact ⟨hb, Hp2.out.chg hWc fun k hk e => hgw k hk e, (jm.out.put 0 _).put 1 _, HB6.out.chg hWc fun k hk e => (HF2'.out k hk).2.1 e, HS.out.below (hb.old (Nat.le_refl _))⟩
        have HLoW : Hid (Lst ((w6.setCell ⟨gm, 0, none⟩ (.int .i64 (-1))).setCell ⟨gm, 1, none⟩ (.slice A2 n2 cc2)).drew w5.heap.size out us3 (fM (-1) F b)) := HLo.out.chg hWc.drew fun k hk _ e => by have := HGm.out; have := HSz.out; omega
        have HWaW : Hid (Lst ((w6.setCell ⟨gm, 0, none⟩ (.int .i64 (-1))).setCell ⟨gm, 1, none⟩ (.slice A2 n2 cc2)).drew wr.heap.size (.slice Am us2.length cm) us2 (fM (-1) F b)) := HW6.out.chg hWc.drew fun k hk _ e => by have := HGm.out; omega
        have HS0 := Lib.hid (hS0.to ((Chg.refl none_ _).drew) hS0.chg.size)
        have HGW := Lib.hid hgw
        have HR2 := Hr2
        have HFC : Hid (fC (-1) F b ≤ 42) := fC_le _ _ _
        clear hWc hgw hS0 HLo HW6 HB6 Hp2 Hr2 jm j4
        go_wp2_with fail
        go_region_held3 (fun u => RdS w u w.heap.size a gm none (-1) (nF (-1) F b) (.slice A2 n2 cc2) hv2 ∧ u.cell? ⟨gm, 0, none⟩ = some (.int .i64 (-1)) ∧ u.cell? ⟨gm, 1, none⟩ = some (.slice A2 n2 cc2))
          (first | assumption | exact ⟨HS0.out, HS0.out.im.at_ 0 _ rfl, HS0.out.im.at_ 1 _ rfl⟩ | exact RdS.keep2 (by assumption) (by assumption))
          (first
            | (go_at_call 42; refine (msame_any _ HLoW.out HWaW.out HUL.out).mono ?_; rintro e w' ⟨rfl, hc⟩; rw [decide_eq_true rfl])
            | (go_at_call 30; refine (code_any _ (RdS.sen (And.left (by assumption))) _ (by first | exact HFC.out | exact dC_le _ _)).mono ?_; rintro e w' ⟨rfl, rfl⟩)
            | (go_at_call 43; refine (pheld_any _ (RdS.pr (And.left (by assumption)))).mono ?_; rintro e w' ⟨rfl, rfl⟩)
            | (go_at_call 44; refine (qheld_any _ (-1) (Or.inl rfl) _ _ (RdS.bs (And.left (by assumption))) hF2l.out).mono ?_; rintro e w' ⟨rfl, hc⟩)
            | (go_at_call 45; refine (pdone_any _ (RdS.sen (And.left (by assumption))) (RdS.pr (And.left (by assumption)))).mono ?_; rintro e w' ⟨rfl, rfl⟩)
            | (go_at_call 46; refine (qdone_any _ (-1) (Or.inl rfl) _ _ (RdS.bs (And.left (by assumption))) hF2l.out).mono ?_; rintro e w' ⟨rfl, hc⟩))
        rename_i hLast
        have HLast := Lib.hid hLast
        clear hLast
        go_wp2
        go_roundw
        case rel =>
          refine ⟨k + 1, nF (-1) F b, .slice A2 n2 cc2, hv2, by go_num, by omega, ?_, HLast.out.1.chg, HLast.out.1.pr, HLast.out.1.im, HLast.out.1.bs, HL.out.gm1, fun h => HGW.out gm h rfl, fun q hq h => ?_, fun q hq => ⟨(HF2'.out q hq).2.2.1, (HF2'.out q hq).2.1⟩⟩
          · have := nF_len (-1) F b; have := HF.out; have := HLen.out.2.2; omega
          · rcases HR2.out q h with h | h
            · exact (HF2'.out q hq).1 h
            · have := (HF2'.out q hq).2.2.2; omega
        case measure => simp [intOf]; omega
      · go_wp2
        go_ret
        exact ⟨rfl, HL.out.chg.old (Nat.le_refl _)⟩
  · have HMr : Hid (0 ≤ most0 ∧ most0 ≤ 1048576) := ⟨by omega, by omega⟩
    have HQ := Lib.hid (fun w => rnew_any w most0)
    have HBad := Lib.hid hbad
    clear hbad
    go_enter Tryd.func8, Tryd.ntmps8
    go_wp2_with fail
    refine (fixed_any w HS.out (Nat.le_refl _)).mono ?_
    rintro e w1 ⟨rfl, c1⟩
    have HC1 := Lib.hid c1
    have HS1 : Hid (Sen w.heap.size a w1) := HS.out.below (c1.old (Nat.le_refl _))
    clear c1
    go_wp2_with fail
    refine (mnew_ok w1 most0 (by have := HBad.out; omega) (by have := HBad.out; omega)).mono ?_
    rintro e w2 ⟨g, rfl, hg, hr2, c2⟩
    have hP : Hid (Pr w2 w.heap.size (some ⟨g, 0, none⟩) most0 [] (.slice none 0 0)) := .inr ⟨by have := HBad.out; omega, by have := HBad.out; omega, g, rfl, by rw [stS_nil]; exact ⟨hr2.is, hr2.ob.low (fun k hk => by simp [obk] at hk), hr2.byt, hr2.ne, hr2.no⟩, Nat.le_trans HC1.out.size hg⟩
    have HC2 : Hid (Chg none_ w w2) := HC1.out.trans c2
    have HS2 : Hid (Sen w.heap.size a w2) := HS.out.below (HC2.out.old (Nat.le_refl _))
    clear hg hr2 c2
    go_wp2_with fail
    have h3 := HQ.out w2
    rw [if_neg HBad.out, if_neg HBad.out] at h3
    refine h3.mono ?_
    rintro e w3 ⟨rfl, c3⟩
    have HC3 : Hid (Chg none_ w w3) := HC2.out.trans c3
    have HP3 := Lib.hid (hP.out.keep c3)
    have HS3 : Hid (Sen w.heap.size a w3) := HS.out.below (HC3.out.old (Nat.le_refl _))
    clear c3 h3
    go_wp2_with fail
    refine (code_any _ (HS3.out.below (((Chg.refl none_ w3).alloc _).old HC3.out.size)) 0 (by decide)).mono ?_
    rintro e w' ⟨rfl, rfl⟩
    go_wp2_with fail
    obtain ⟨gm, hgm⟩ : ∃ gm, w3.heap.size = gm := ⟨_, rfl⟩
    have F0 : Hid (RdL w (w3.alloc (.cells #[.int .i64 most0, .slice none 0 0] 68)) gm (some ⟨g, 0, none⟩) most0 [] (.slice none 0 0) (.slice none 0 0)) := by
      have e : w3.heap.size = gm := hgm
      refine ⟨HC3.out.alloc _, HP3.out.keep ((Chg.refl none_ w3).alloc _), by rw [← e]; exact Is.new w3 _ _, ⟨none, 0, 0, rfl, rfl, (fun z hz => by simp at hz), Rd.zero _ _ _, Nat.le_refl _⟩, by have := HC3.out.size; omega, fun h => ?_, (fun k hk => by simp [rdk] at hk), (fun k hk => by simp [rdk] at hk)⟩
      have := HP3.out.own gm h
      omega
    rw [hgm]
    clear hgm
    go_loopw [41] (fun x wr => ∃ (k : Nat) (F : List Int) (fv hv : Value), x = .int .i64 (k : Int) ∧ k ≤ n ∧ F.length ≤ ((ps.take k).map List.length).sum ∧ RdL w wr gm (some ⟨g, 0, none⟩) most0 F fv hv) (fun x _ => n - (intOf x).toNat)
    case atStart => exact ⟨0, [], _, _, rfl, Nat.zero_le _, by simp, F0.out⟩
    case round =>
      obtain ⟨k, F, fv, hv, rfl, hk, hF, hL⟩ := hrel
      have HF := Lib.hid hF
      have HL := Lib.hid hL
      clear hF hL
      by_cases hlt : k < n
      · have hsz := HF.out
        have htk := take_sum_le ps k
        have hS := HSum.out
        have hnu := HN.out
        have hlp := HLs.out.len
        obtain ⟨b, hb⟩ : ∃ b, ps[k]? = some b := ⟨_, List.getElem?_eq_getElem (by omega)⟩
        have hbu := HLs.out.all.get (vals_get (vs := us) (i := k) (by omega)) hb
        have hts := take_sum hb
        have htk1 := take_sum_le ps (k + 1)
        obtain ⟨ad, rfl, hcA⟩ := HR.out (by omega)
        have hcell : Hid (wr.cell? (ad.add k) = some (us.getD k .nilIface)) := (World.cell?_of_block (HL.out.chg.block _ (by rw [block_add]; exact HR.out.lt ad (by omega) rfl) (fun f => f))).trans (hcA k (by omega))
        obtain ⟨bv, hbv⟩ : ∃ bv, us.getD k .nilIface = bv := ⟨_, rfl⟩
        have hcl := hcell.out
        rw [hbv] at hbu hcl
        have HBv : Hid (Bs wr bv b) := hbu.chg HL.out.chg fun _ _ f => f
        have HBw := Lib.hid hbu
        obtain ⟨Ab, nb, cb, rfl, hlb, hbb, hrb, hncb⟩ := hbu
        have HLen : Hid (F.length + b.length ≤ 1048576 ∧ b.length ≤ 1048576 ∧ ((ps.take (k + 1)).map List.length).sum = ((ps.take k).map List.length).sum + b.length) := ⟨by omega, by omega, hts⟩
        have HPs := Lib.hid hb
        have HBb := Lib.hid hbb
        have HBl := Lib.hid hlb
        have m0 : wr.cell? ⟨gm, 0, none⟩ = some (.int .i64 most0) := HL.out.im.at_ 0 _ rfl
        have m1 : wr.cell? ⟨gm, 1, none⟩ = some fv := HL.out.im.at_ 1 _ rfl
        clear hsz htk hS hnu hlp hb hts htk1 hcA hcell hbv hlb hbb hrb
        go_wp2_with fail
        refine (qfeed_any wr most0 (Or.inr HMr.out) F b fv _ HL.out.bs HBv.out (by have := HLen.out.1; omega)).mono ?_
        rintro e w4 ⟨fv2, mv, us2, rfl, q1, q2, q3, q4⟩
        have HBs2 := Lib.hid q1
        obtain ⟨A2, n2, cc2, rfl, hl2, _, _, _⟩ := q1
        have Hq2 := Lib.hid q2
        have HW := Lib.hid q3
        obtain ⟨Am, cm, rfl, _, _⟩ := q3.form
        have HC4 := Lib.hid q4
        clear q2 q3 q4 hl2
        have HCw4 : Hid (Chg none_ w w4) := HL.out.chg.trans HC4.out
        go_wp2_with (at_builtin; refine wpList_append_bytes rfl (.tmp 54) (.tmp 55) rfl rfl (ob_nil _ w4.heap.size _ _) Ab nb cb b rfl HBl.out ?hr ?hb ?hs ?_)
        case hr => exact (HBw.out.chg ((HCw4.out.alloc _).alloc _) (fun _ _ f => f)).rdOf
        case hb => have := HLen.out.2.1; have := HBl.out; omega
        case hs => simp; omega
        intro v5 w5 k1 k2 k3
        have HC5 : Hid (Chg none_ w4 w5) := (((Chg.refl none_ w4).alloc _).alloc _).trans ((grown_chg k2).more fun k _ hk => by simp [obk] at hk)
        have HCw5 : Hid (Chg none_ w w5) := HCw4.out.trans HC5.out
        have H5 : Hid (Bs w5 v5 b) := Bs.of_ob (by simpa using k1) HBb.out
        have i5 : Hid (Is w5 w4.heap.size 68 #[.int .i64 most0, .slice A2 n2 cc2]) := by
          have h := ((Is.new w4 68 #[.int .i64 most0, .slice A2 n2 cc2]).alloc (.cells #[] 5))
          exact h.chg ((grown_chg k2).more (S' := none_) fun k _ hk => by simp [obk] at hk) fun f => f
        have hwr := HC4.out.size
        have hw5 := HC5.out.size
        have hw45 := i5.out.lt
        have HSz : Hid (wr.heap.size ≤ w4.heap.size ∧ w4.heap.size ≤ w5.heap.size ∧ w4.heap.size < w5.heap.size) := ⟨hwr, hw5, hw45⟩
        clear k1 k2 k3 hwr hw5 hw45
        go_wp2_with fail
        refine (pfeed_any w5 (HS.out.below (HCw5.out.old (Nat.le_refl _))) HCw5.out.size (Nat.le_refl _) (HL.out.pr.keep (HC4.out.trans HC5.out)) HL.out.bs.byt v5 b H5.out (by have := HLen.out.1; omega)).mono ?_
        rintro e w6 ⟨out, us3, hv2, rfl, r1, r2, r3, r4, r5, r6, r7⟩
        have HLo : Hid (Lst w6 w5.heap.size out us3 (fM most0 F b)) := Lst.of r3 r4
        have HCF := Lib.hid r7
        have Hp2 := Lib.hid r1
        have Hr2 := Lib.hid r2
        have ho := HL.out.pr.own
        have HC6 : Hid (Chg none_ w w6) := HCw5.out.then r7 fun k hk h => by have := (ho k h).1; omega
        have j4 : Hid (Is w6 w4.heap.size 68 #[.int .i64 most0, .slice A2 n2 cc2]) := i5.out.chg r7 fun h => by have := (ho _ h).2; have := HSz.out; omega
        have jm : Hid (Is w6 gm 68 #[.int .i64 most0, fv]) := (HL.out.im.chg (HC4.out.trans HC5.out) (fun f => f)).chg r7 fun h => HL.out.gm2 h
        have hgm := HL.out.im.lt
        have HGm := Lib.hid hgm
        have n0 : w6.cell? ⟨w4.heap.size, 0, none⟩ = some (.int .i64 most0) := j4.out.at_ 0 _ rfl
        have n1 : w6.cell? ⟨w4.heap.size, 1, none⟩ = some (.slice A2 n2 cc2) := j4.out.at_ 1 _ rfl
        have g0 : w6.cell? ⟨gm, 0, none⟩ = some (.int .i64 most0) := jm.out.at_ 0 _ rfl
        have g1 : w6.cell? ⟨gm, 1, none⟩ = some fv := jm.out.at_ 1 _ rfl
        have f0 : w6.frozen? ⟨gm, 0, none⟩ = false := jm.out.frozen 0
        have f1 : w6.frozen? ⟨gm, 1, none⟩ = false := jm.out.frozen 1
        have hofv := HL.out.off
        have hnew := HL.out.new
        have hF2 : ∀ k, rdk (.slice A2 n2 cc2) = some k → ¬ fW (some ⟨g, 0, none⟩) hv k ∧ k ≠ gm ∧ w.heap.size ≤ k ∧ k < w5.heap.size := fun k hk => by
          rcases Hq2.out k hk with h | h
          · have := hnew k h; have := HL.out.bs.block k h; have := HSz.out; exact ⟨hofv k h, (hnew k h).2, (hnew k h).1, by omega⟩
          · have := HL.out.chg.size; have := HSz.out; have := HBs2.out.block k hk
            exact ⟨fun hw => by have := (ho k hw).2; omega, by omega, by omega, by omega⟩
        have HF2' := Lib.hid hF2
        have HB6 : Hid (Bs w6 (.slice A2 n2 cc2) (nF most0 F b)) := (HBs2.out.chg HC5.out (fun _ _ f => f)).chg r7 fun k hk h => (hF2 k hk).1 h
        have HW6 : Hid (Lst w6 wr.heap.size (.slice Am us2.length cm) us2 (fM most0 F b)) := (HW.out.keep HC5.out).chg r7 fun k hk _ h => by have := (ho k h).2; omega
        clear r1 r2 r3 r4 r5 r6 r7 ho hgm hofv hnew hF2
        have hF2l : Hid ((nF most0 F b).length ≤ 1099511627776) := by show _ ≤ _; have := nF_len most0 F b; have := HLen.out.1; omega
        have HUL : Hid (us3.length ≤ 1099511627776) := by show _ ≤ _; have h1 := HLo.out.len; have := fM_len (most := most0) HL.out.bs.byt HBb.out; have := HLen.out.1; omega
        have hWc : Chg (fun k => k = gm) w6 ((w6.setCell ⟨gm, 0, none⟩ (.int .i64 most0)).setCell ⟨gm, 1, none⟩ (.slice A2 n2 cc2)) := ((Chg.refl (fun k => k = gm) w6).setCell (p := ⟨gm, 0, none⟩) (fun _ => rfl) _).setCell (p := ⟨gm, 1, none⟩) (fun _ => rfl) _
        have hgw : ∀ k, fW (some ⟨g, 0, none⟩) hv2 k → k ≠ gm := fun k hk e => by
          subst e
          rcases Hr2.out k hk with h | h
          · exact HL.out.gm2 h
          · have := HGm.out; have := HSz.out; omega
        have hS0 : RdS w ((w6.setCell ⟨gm, 0, none⟩ (.int .i64 most0)).setCell ⟨gm, 1, none⟩ (.slice A2 n2 cc2)) w.heap.size a gm (some ⟨g, 0, none⟩) most0 (nF most0 F b) (.slice A2 n2 cc2) hv2 := by
          have hb : Chg none_ w ((w6.setCell ⟨gm, 0, none⟩ (.int .i64 most0)).setCell ⟨gm, 1, none⟩ (.slice A2 n2 cc2)) := HC6.out.then hWc fun k hk e => by have := HL.out.gm1; omega
          exact ⟨hb, Hp2.out.chg hWc fun k hk e => hgw k hk e, (jm.out.put 0 _).put 1 _, HB6.out.chg hWc fun k hk e => (HF2'.out k hk).2.1 e, HS.out.below (hb.old (Nat.le_refl _))⟩
        have HLoW : Hid (Lst ((w6.setCell ⟨gm, 0, none⟩ (.int .i64 most0)).setCell ⟨gm, 1, none⟩ (.slice A2 n2 cc2)).drew w5.heap.size out us3 (fM most0 F b)) := HLo.out.chg hWc.drew fun k hk _ e => by have := HGm.out; have := HSz.out; omega
        have HWaW : Hid (Lst ((w6.setCell ⟨gm, 0, none⟩ (.int .i64 most0)).setCell ⟨gm, 1, none⟩ (.slice A2 n2 cc2)).drew wr.heap.size (.slice Am us2.length cm) us2 (fM most0 F b)) := HW6.out.chg hWc.drew fun k hk _ e => by have := HGm.out; omega
        have HS0 := Lib.hid (hS0.to ((Chg.refl none_ _).drew) hS0.chg.size)
        have HGW := Lib.hid hgw
        have HR2 := Hr2
        have HFC : Hid (fC most0 F b ≤ 42) := fC_le _ _ _
        clear hWc hgw hS0 HLo HW6 HB6 Hp2 Hr2 jm j4
        go_wp2_with fail
        go_region_held3 (fun u => RdS w u w.heap.size a gm (some ⟨g, 0, none⟩) most0 (nF most0 F b) (.slice A2 n2 cc2) hv2 ∧ u.cell? ⟨gm, 0, none⟩ = some (.int .i64 most0) ∧ u.cell? ⟨gm, 1, none⟩ = some (.slice A2 n2 cc2))
          (first | assumption | exact ⟨HS0.out, HS0.out.im.at_ 0 _ rfl, HS0.out.im.at_ 1 _ rfl⟩ | exact RdS.keep2 (by assumption) (by assumption))
          (first
            | (go_at_call 42; refine (msame_any _ HLoW.out HWaW.out HUL.out).mono ?_; rintro e w' ⟨rfl, hc⟩; rw [decide_eq_true rfl])
            | (go_at_call 30; refine (code_any _ (RdS.sen (And.left (by assumption))) _ (by first | exact HFC.out | exact dC_le _ _)).mono ?_; rintro e w' ⟨rfl, rfl⟩)
            | (go_at_call 43; refine (pheld_any _ (RdS.pr (And.left (by assumption)))).mono ?_; rintro e w' ⟨rfl, rfl⟩)
            | (go_at_call 44; refine (qheld_any _ most0 (Or.inr HMr.out) _ _ (RdS.bs (And.left (by assumption))) hF2l.out).mono ?_; rintro e w' ⟨rfl, hc⟩)
            | (go_at_call 45; refine (pdone_any _ (RdS.sen (And.left (by assumption))) (RdS.pr (And.left (by assumption)))).mono ?_; rintro e w' ⟨rfl, rfl⟩)
            | (go_at_call 46; refine (qdone_any _ most0 (Or.inr HMr.out) _ _ (RdS.bs (And.left (by assumption))) hF2l.out).mono ?_; rintro e w' ⟨rfl, hc⟩))
        rename_i hLast
        have HLast := Lib.hid hLast
        clear hLast
        go_wp2
        go_roundw
        case rel =>
          refine ⟨k + 1, nF most0 F b, .slice A2 n2 cc2, hv2, by go_num, by omega, ?_, HLast.out.1.chg, HLast.out.1.pr, HLast.out.1.im, HLast.out.1.bs, HL.out.gm1, fun h => HGW.out gm h rfl, fun q hq h => ?_, fun q hq => ⟨(HF2'.out q hq).2.2.1, (HF2'.out q hq).2.1⟩⟩
          · have := nF_len most0 F b; have := HF.out; have := HLen.out.2.2; omega
          · rcases HR2.out q h with h | h
            · exact (HF2'.out q hq).1 h
            · have := (HF2'.out q hq).2.2.2; omega
        case measure => simp [intOf]; omega
      · go_wp2
        go_ret
        exact ⟨rfl, HL.out.chg.old (Nat.le_refl _)⟩
end Go.Proofs.YtpmncndicdlmhaaDoor
