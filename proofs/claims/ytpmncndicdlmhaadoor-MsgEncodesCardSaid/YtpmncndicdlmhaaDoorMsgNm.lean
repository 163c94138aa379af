/-
  The walk of MsgNames; make of bytes as one law.
  No condition of its own: the fact 'Sen' on the world.
-/
import Derived.Test.YtpmncndicdlmhaaDoorMsgGv
import Derived.Laws.MakeOwn
import Derived.Laws.OwnMore
namespace Go.Proofs.YtpmncndicdlmhaaDoor
open Go.RowKit

theorem byt_zeros (n : Nat) : Byt (List.replicate n 0) := fun z hz => by
  obtain rfl := List.eq_of_mem_replicate hz
  decide
section
variable {w : World} {ops : Array Oper} {rest : List Oper} {o : Oper} {a : Act} {Q : Exit → Act → World → Prop}
/-- make([]byte, n, n). -/
theorem wpList_make_bytes (hgd : o.guard = none) (x y : Operand) (ho : o.op = Op.makeSlice 38 x y) (N : Int) (hx : a.eval x = .int .i64 N) (hy : a.eval y = .int .i64 N) (n : Nat) (hN : N = (n : Int)) (hn : n ≤ 140737488355328)
    (h : ∀ w', Bs w' (.slice (some ⟨w.heap.size, 0, none⟩) n n) (List.replicate n 0) → Chg none_ w w' → wpList Tryd.prog ops Q rest (a.put o.dst (.slice (some ⟨w.heap.size, 0, none⟩) n n)) w') : wpList Tryd.prog ops Q (o :: rest) a w := by
  subst hN
  obtain ⟨i, hi, hz0, hz1, hz2⟩ := info_parts Tryd.infoU8
  refine wpList_plain hgd fun K hK' => ?_
  have hrun := run_make (P := Tryd.prog) w 38 5 i (.int .u8 0) Tryd.underlying38 hi hz0 .i64 .i64 n n (by omega) (by omega) (by rw [hz2]; omega) (by omega)
  simp only [Int.toNat_natCast, hz1, Nat.mul_one] at hrun
  have hm : madeCells (Value.int .u8 0).cells n = ((List.replicate n (0 : Int)).map (Value.int .u8)).toArray := by
    apply Array.toList_inj.1
    rw [show (Value.int .u8 0).cells = #[Value.int .u8 0] from rfl, toList_madeCells_one]
    simp
  rw [hm] at hrun
  have hb := bs_const w (List.replicate n 0) (byt_zeros n) default
  rw [List.length_replicate] at hb
  have hc := (Chg.refl none_ w).alloc (.cells ((List.replicate n (0 : Int)).map (Value.int .u8)).toArray 5)
  obtain ⟨w', hw'⟩ : ∃ w', w.alloc (.cells ((List.replicate n (0 : Int)).map (Value.int .u8)).toArray 5) = w' := ⟨_, rfl⟩
  have hb' : Bs w' (.slice (some ⟨w.heap.size, 0, none⟩) n n) (List.replicate n 0) := by rw [← hw']; exact hb
  rw [hw'] at hrun hc
  unfold Oper.wp
  simp [execOp, ho, hx, hy, hrun, Result.andThen]
  exact hK' _ _ (h w' hb' hc)
end
theorem say_nm1 : sayB 0 [0, 0] = ([[], []], some []) := by
  have b : ∀ l : List Int, (∀ z ∈ l, z = 0) → Byt l := fun l h z hz => by obtain rfl := h z hz; decide
  rw [say_one (k := 1) (n := 0) (b _ (by simp)) rfl (by decide)]
  show ([] :: (sayB 0 [0]).1, (sayB 0 [0]).2) = _
  rw [say_one (k := 1) (n := 0) (b _ (by simp)) rfl (by decide)]
  show ([] :: [] :: (sayB 0 []).1, (sayB 0 []).2) = _
  rw [say_few rfl]
theorem say_nm2 : sayB 0 [1] = ([], none) := say_no rfl
theorem Bs.front {w : World} {A : Option Addr} {n c : Nat} {xs : List Int} (h : Bs w (.slice A n c) xs) {m : Nat} (hm : m ≤ n) : Bs w (.slice A m c) (xs.take m) := by
  obtain ⟨_, _, _, e, hl, hb, hr, hc⟩ := h
  cases e
  refine ⟨_, _, _, rfl, by rw [List.length_take]; omega, hb.take m, fun hp => ?_, by omega⟩
  obtain ⟨ad, e, hh⟩ := hr (by omega)
  refine ⟨ad, e, fun i hi => ?_⟩
  rw [hh i (by omega)]
  show some (Value.int .u8 (xs.getD i 0)) = some (Value.int .u8 ((xs.take m).getD i 0))
  rw [List.getD_eq_getElem?_getD, List.getD_eq_getElem?_getD, List.getElem?_take, if_pos hi]
theorem enc_zeros {n k : Nat} {l : List Int} (h : lenB n = l) (hk : l.length = k) : (encB (List.replicate n 0)).length = k + n ∧ (encB (List.replicate n 0)).take k = l := by
  unfold encB
  rw [List.length_replicate, h, List.length_append, List.length_replicate, hk]
  exact ⟨rfl, by rw [← hk, List.take_left]⟩

set_option maxRecDepth 100000 in
set_option maxHeartbeats 4000000 in
theorem msgnames_walk {a : Nat → Addr} (w : World) (hs : Sen w.heap.size a w) :
    Calls Tryd.prog 5 #[] w fun e w' => e = .returned (.bool true) ∧ Below w.heap.size w w' := by
  have HS := Lib.hid hs
  clear hs
  obtain ⟨n1, hn1⟩ : ∃ n : Nat, n = 1048576 := ⟨_, rfl⟩
  obtain ⟨n2, hn2⟩ : ∃ n : Nat, n = 300 := ⟨_, rfl⟩
  have HN1 : Hid ((1048576 : Int) = (n1 : Int) ∧ n1 ≤ 140737488355328 ∧ (((List.replicate n1 (0 : Int)).length : Nat) : Int) ≤ 1048576) := ⟨by omega, by omega, by rw [List.length_replicate]; omega⟩
  have HN2 : Hid ((300 : Int) = (n2 : Int) ∧ n2 ≤ 140737488355328 ∧ (((List.replicate n2 (0 : Int)).length : Nat) : Int) ≤ 300) := ⟨by omega, by omega, by rw [List.length_replicate]; omega⟩
  obtain ⟨e1, e2⟩ := enc_zeros (n := n1) (k := 3) (l := [128, 128, 64]) (by rw [hn1]; rfl) rfl
  obtain ⟨e3, e4⟩ := enc_zeros (n := n2) (k := 2) (l := [172, 2]) (by rw [hn2]; rfl) rfl
  have HE1 : Hid ((encB (List.replicate n1 0)).length = 1048579 ∧ (encB (List.replicate n1 0)).take 3 = [128, 128, 64]) := ⟨by omega, e2⟩
  have HE2 : Hid ((encB (List.replicate n2 0)).length = 302 ∧ (encB (List.replicate n2 0)).take 2 = [172, 2]) := ⟨by omega, e4⟩
  clear hn1 hn2 e1 e2 e3 e4
  go_enter Tryd.func5, Tryd.ntmps5
  go_wp2_with fail
  refine (mnew_no w HS.out (-1) (.inl (by decide))).mono ?_
  rintro e w1 ⟨rfl, k1⟩
  have HC1 := Lib.hid k1
  clear k1
  go_wp2_with fail
  refine (mnew_no w1 (HS.out.below (HC1.out.old (Nat.le_refl _))) 1048577 (.inr (by decide))).mono ?_
  rintro e w2 ⟨rfl, k1⟩
  have HC2 : Hid (Chg none_ w w2) := HC1.out.trans k1
  clear k1
  go_wp2_with fail
  refine (mnew_ok w2 1048576 (by decide) (by decide)).mono ?_
  rintro e w3 ⟨g, rfl, _, _, k1⟩
  have HC3 : Hid (Chg none_ w w3) := HC2.out.trans k1
  clear k1
  go_wp2_with fail
  refine (mnew_ok w3 0 (by decide) (by decide)).mono ?_
  rintro e w4 ⟨g2, rfl, hg, r1, k1⟩
  have HC4 : Hid (Chg none_ w w4) := HC3.out.trans k1
  have HR4 := Lib.hid r1
  have HG : Hid (w.heap.size ≤ w3.heap.size ∧ w3.heap.size ≤ g2 ∧ g2 < w4.heap.size) := ⟨HC3.out.size, hg, r1.is.lt⟩
  have HS4 : Hid (Sen w.heap.size a w4) := HS.out.below (HC4.out.old (Nat.le_refl _))
  clear k1 r1 hg
  go_wp2_with fail
  refine (code_any w4 HS4.out 2 (by decide)).mono ?_
  rintro e w' ⟨rfl, rfl⟩
  go_wp2_with fail
  refine (code_any w4 HS4.out 2 (by decide)).mono ?_
  rintro e w' ⟨rfl, rfl⟩
  go_wp2_with (refine wpList_make_bytes rfl _ _ rfl _ rfl rfl n1 HN1.out.1 HN1.out.2.1 ?_)
  intro w5 hb5 c5
  go_wp2_with fail
  refine (encode_ok w5 _ _ hb5 1048576 (by decide) (by decide) HN1.out.2.2).mono ?_
  rintro e w6 ⟨v6, rfl, q1, q2⟩
  have HC6 : Hid (Chg none_ w4 w6) := c5.trans q2
  have H6 : Hid (Bs w6 v6 (encB (List.replicate n1 0))) := Bs.of_ob q1 ((len_byt (by rw [List.length_replicate]; have := HN1.out.1; omega)).append (byt_zeros _))
  obtain ⟨A6, d6, rfl, hd6, _⟩ := q1.slice
  have HK6 : Hid (∀ k, rdk (.slice A6 (encB (List.replicate n1 0)).length d6) = some k → w4.heap.size ≤ k ∧ k < w6.heap.size) := fun k hk => by have := q1.block k (q1.rdk k hk); have := c5.size; omega
  rw [HE1.out.1] at hd6 H6 HK6 ⊢
  clear q1 q2 c5 hb5
  go_wp2_with (refine wpList_make_bytes rfl _ _ rfl _ rfl rfl n2 HN2.out.1 HN2.out.2.1 ?_)
  intro w7 hb7 c7
  go_wp2_with fail
  refine (encode_ok w7 _ _ hb7 300 (by decide) (by decide) HN2.out.2.2).mono ?_
  rintro e w8 ⟨v8, rfl, q1, q2⟩
  have HC8 : Hid (Chg none_ w4 w8) := (HC6.out.trans c7).trans q2
  have HC68 : Hid (Chg none_ w6 w8) := c7.trans q2
  have H8 : Hid (Bs w8 v8 (encB (List.replicate n2 0))) := Bs.of_ob q1 ((len_byt (by rw [List.length_replicate]; have := HN2.out.1; omega)).append (byt_zeros _))
  obtain ⟨A8, d8, rfl, hd8, _⟩ := q1.slice
  have HK8 : Hid (∀ k, rdk (.slice A8 (encB (List.replicate n2 0)).length d8) = some k → w4.heap.size ≤ k ∧ k < w8.heap.size) := fun k hk => by have := q1.block k (q1.rdk k hk); have := c7.size; have := HC6.out.size; omega
  rw [HE2.out.1] at hd8 H8 HK8 ⊢
  clear q1 q2 c7 hb7
  go_wp2_with fail
  have HCw8 : Hid (Chg none_ w w8) := HC4.out.trans HC8.out
  have h9 : Hid (Bs (w8.alloc (.cells #[.int .u8 0, .int .u8 0] 5)) (.slice (some ⟨w8.heap.size, 0, none⟩) 2 2) [0, 0]) := bs_const w8 [0, 0] (by intro z hz; simp at hz; omega) _
  have HS9 : Hid (Sen w.heap.size a (w8.alloc (.cells #[.int .u8 0, .int .u8 0] 5))) := HS.out.below ((HCw8.out.alloc _).old (Nat.le_refl _))
  have hs1 := HG.out
  have hs2 := HC8.out.size
  have hs3 := HCw8.out.size
  refine (feed_live _ HS9.out (by simp; omega) ((HR4.out.keep HC8.out).keep ((Chg.refl none_ w8).alloc _)) (by simp; omega) (by omega) (by omega) (by simp; omega) (by decide) (by decide) _ _ h9.out (by decide)).mono ?_
  rintro e w9 he
  obtain ⟨out1, vs1, hv1, rfl, r3, b3, ho1, hm1, _, _, c3⟩ := he.use (so := some []) (ms := [[], []]) say_nm1
  rw [errv_some]
  have hl1 : vs1.length = 2 := hm1.len
  obtain ⟨Ao, co, rfl, _, _⟩ := ho1.slice
  rw [hl1]
  have HR9 := Lib.hid r3
  have HB9 := Lib.hid b3
  have HC9 := Lib.hid c3
  have HCw9 : Hid (Chg none_ w w9) := (HCw8.out.alloc _).then c3 fun k hk h => by
    rcases h with rfl | h
    · have := HG.out; omega
    · simp [obk] at h
  clear he r3 b3 c3 ho1 hm1 hs1 hs2 hs3 hl1
  go_wp2_with fail
  have h10 : Hid (Bs (w9.alloc (.cells #[.int .u8 1] 5)) (.slice (some ⟨w9.heap.size, 0, none⟩) 1 1) [1]) := bs_const w9 [1] (by intro z hz; simp at hz; omega) _
  have HS10 : Hid (Sen w.heap.size a (w9.alloc (.cells #[.int .u8 1] 5))) := HS.out.below ((HCw9.out.alloc _).old (Nat.le_refl _))
  have hs1 := HG.out
  have hs2 := HCw9.out.size
  have hs4 := HC8.out.size
  have hs5 : w8.heap.size ≤ w9.heap.size := by have := HC9.out.size; simp at this; omega
  refine (feed_live _ HS10.out (by simp; omega) (HR9.out.keep ((Chg.refl none_ w9).alloc _)) (by simp; omega) (by omega) (by omega) (by simp; omega) (by decide) (by decide) _ _ h10.out (by decide)).mono ?_
  rintro e w10 he
  obtain ⟨out2, vs2, hv2, rfl, _, _, _, hm2, _, _, c4⟩ := he.use (so := none) (ms := []) say_nm2
  rw [show errv a (Option.elim (none : Option (List Int)) 15 fun _ => 0) = errv a 15 from rfl]
  have HCw10 : Hid (Chg none_ w w10) := (HCw9.out.alloc _).then c4 fun k hk h => by
    rcases h with rfl | h
    · omega
    · rcases HB9.out with e | e | ⟨q, e, hq⟩
      · rw [e] at h; simp [obk] at h
      · rw [e] at h; cases h
      · rw [e] at h; injection h with h; simp at hq; omega
  have HCS : Hid (Chg (fun k => k = g2) w8 w10) := ((((Chg.refl (fun k => k = g2) w8).alloc _).then HC9.out fun k hk h => by
    rcases h with rfl | h
    · rfl
    · simp [obk] at h).alloc _).then c4 fun k hk h => by
      rcases h with rfl | h
      · rfl
      · rcases HB9.out with e | e | ⟨q, e, hq⟩
        · rw [e] at h; simp [obk] at h
        · rw [e] at h; cases h
        · rw [e] at h; injection h with h; simp at hq; omega
  have HX6 : Hid (Bs w10 (.slice A6 3 d6) [128, 128, 64]) := by
    have h := (((H6.out.chg HC68.out fun _ _ f => f).chg HCS.out fun k hk e => by have := HK6.out k hk; have := HG.out; omega).front (m := 3) (by decide))
    rw [HE1.out.2] at h
    exact h
  have HX8 : Hid (Bs w10 (.slice A8 2 d8) [172, 2]) := by
    have h := ((H8.out.chg HCS.out fun k hk e => by have := HK8.out k hk; have := HG.out; omega).front (m := 2) (by decide))
    rw [HE2.out.2] at h
    exact h
  have kc1 := run_str (P := Tryd.prog) (w := w10) (c := d6) (n := 3) (A := A6) (xs := [128, 128, 64]) 38 5 Tryd.underlying38 Tryd.underlying5 rfl HX6.out.rdG
  rw [show strOfNums [128, 128, 64] = ⟨#[128, 128, 64]⟩ from rfl] at kc1
  have kc2 := run_str (P := Tryd.prog) (w := w10) (c := d8) (n := 2) (A := A8) (xs := [172, 2]) 38 5 Tryd.underlying38 Tryd.underlying5 rfl HX8.out.rdG
  rw [show strOfNums [172, 2] = ⟨#[172, 2]⟩ from rfl] at kc2
  have hd6I : (3 : Int) ≤ (d6 : Int) := by omega
  have hd8I : (2 : Int) ≤ (d8 : Int) := by omega
  have HS11 : Hid (Sen w.heap.size a w10) := HS.out.below (HCw10.out.old (Nat.le_refl _))
  clear he c4 hm2 hs1 hs2 hs4 hs5
  go_wp2_with fail
  refine (code_any w10 HS11.out 15 (by decide)).mono ?_
  rintro e w' ⟨rfl, rfl⟩
  go_wp2
  go_ret
  exact ⟨rfl, HCw10.out.old (Nat.le_refl _)⟩
end Go.Proofs.YtpmncndicdlmhaaDoor
