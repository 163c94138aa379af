/-
  culvertlaw27.gives by a contract (printed by gen_gives.py): what a reader gives for bytes cut anywhere is what the bytes say.
  No condition of its own: the fact 'Sen' on the world; sizes within the bulk.
-/
import Derived.Test.YtpmncndicdlmhaaDoorMsg6
namespace Go.Proofs.YtpmncndicdlmhaaDoor
open Go.RowKit

theorem st_next {most : Int} {F xs : List Int} (hF : Byt F) (hx : Byt xs) (hm : 0 ≤ most) : stS most (nF most F xs) = stS most (F ++ xs) ∧ (sayB most (F ++ xs)).1 = (sayB most F).1 ++ fM most F xs := by
  have h00 : ¬ most < 0 := by omega
  simp only [nF, fM, if_neg h00]
  cases h : stS most F with
  | none =>
    have := fd_dead hF hx h
    simp only [Option.isNone_none, if_true]
    exact ⟨by rw [h, this.1], by rw [this.2]; simp [fdM]⟩
  | some H =>
    simp only [Option.isNone_some, Bool.false_eq_true, if_false]
    exact ⟨by first | rfl | trivial, (fd_live hF hx h).2.1⟩
theorem Pr.next {w : World} {base : Nat} {p : Option Addr} {most : Int} {F xs : List Int} {hv : Value} (h : Pr w base p most (nF most F xs) hv) (hF : Byt F) (hx : Byt xs) (hm : 0 ≤ most) : Pr w base p most (F ++ xs) hv := by
  rcases h with ⟨rfl, _⟩ | ⟨h0, h1, g, rfl, h2, h3⟩
  · omega
  · exact .inr ⟨h0, h1, g, rfl, by rw [← (st_next hF hx hm).1]; exact h2, h3⟩
theorem Bs.rdG {w : World} {A : Option Addr} {n c : Nat} {xs : List Int} (h : Bs w (.slice A n c) xs) : Rd w A n fun i => .int .u8 (xs.getD i 0) := by
  obtain ⟨_, _, _, e, _, _, hr, _⟩ := h
  cases e
  exact hr
/-- The first error. -/
def ffC (most : Int) (F : List Int) : Nat := if (stS most F).isNone then 15 else 0
theorem ff_next {most : Int} {F xs : List Int} (hF : Byt F) (hx : Byt xs) (hm : 0 ≤ most) :
    (ffC most F = 0 ∧ fC most F xs = 0 ∧ ffC most (F ++ xs) = 0) ∨ (ffC most F = 0 ∧ fC most F xs = 15 ∧ ffC most (F ++ xs) = 15) ∨ (ffC most F = 15 ∧ fC most F xs = 34 ∧ ffC most (F ++ xs) = 15) := by
  unfold ffC fC
  rw [if_neg (show ¬ most < 0 by omega)]
  cases h : stS most F with
  | none =>
    have := fd_dead hF hx h
    rw [this.1]
    exact .inr (.inr ⟨rfl, rfl, rfl⟩)
  | some H =>
    have := (fd_live hF hx h).2.2
    rw [this]
    cases stS most (F ++ xs) with
    | none => exact .inr (.inl ⟨rfl, rfl, rfl⟩)
    | some H' => exact .inl ⟨rfl, rfl, rfl⟩

/-- What holds at the head of gives' loop. -/
structure GvL (w wr : World) (p : Option Addr) (most : Int) (C : List Int) (va : Value) (us : List Value) (hv : Value) : Prop where
  chg : Chg none_ w wr
  pr : Pr wr w.heap.size p most C hv
  all : Ob wr w.heap.size 38 va us.length us
  mem : Mem wr w.heap.size us (sayB most C).1
  off : ∀ u ∈ us, ∀ k, obk u = some k → obk va ≠ some k ∧ ¬ fW p hv k
  off2 : ∀ k, obk va = some k → ¬ fW p hv k
/-- What gives leaves. -/
def GvEnd (a : Nat → Addr) (w : World) (most : Int) (xs : List Int) (e : Ending) (w' : World) : Prop :=
  ∃ (p : Option Addr) (va : Value) (us : List Value) (hv : Value), e = .returned (.tuple #[va, errv a (ffC most xs), .pointer p]) ∧ p ≠ none ∧ GvL w w' p most xs va us hv

/-- Behind a Feed of a round: the relation anew. -/
theorem GvL.step {w wr w5 w6 w7 : World} {p : Option Addr} {most : Int} {C x : List Int} {va out va2 hv hv2 : Value} {us vs : List Value} (hL : GvL w wr p most C va us hv) (hm : 0 ≤ most) (hC : Byt C) (hx : Byt x)
    (h5 : Chg none_ wr w5) (r1 : Pr w6 w.heap.size p most (nF most C x) hv2) (r2 : ∀ k, fW p hv2 k → fW p hv k ∨ w5.heap.size ≤ k) (_r3 : Ob w6 w5.heap.size 38 out vs.length vs) (r4 : Mem w6 w5.heap.size vs (fM most C x))
    (r5 : ∀ v ∈ vs, ∀ k, obk v = some k → obk out ≠ some k ∧ ¬ fW p hv2 k) (r7 : Chg (fW p hv) w5 w6)
    (k1 : Ob w7 w.heap.size 38 va2 (us.length + vs.length) (us ++ vs)) (k2 : Chg (fun k => obk va = some k) w6 w7) (k3 : obk va2 = obk va ∨ obk va2 = some w6.heap.size) :
    GvL w w7 p most (C ++ x) va2 (us ++ vs) hv2 := by
  have ho := hL.pr.own
  have hsz := h5.size
  have hsz6 := r7.size
  have hsz7 := k2.size
  have hall : ∀ q, obk va = some q → w.heap.size ≤ q ∧ q < wr.heap.size := hL.all.block
  have c6 : Chg none_ w w6 := (hL.chg.trans h5).then r7 fun k hk h => by have := (ho k h).1; omega
  have hmem6 : Mem w6 w.heap.size us (sayB most C).1 := (hL.mem.keep h5).chg r7 fun u hu k hk => (hL.off u hu k hk).2
  have hvs : ∀ v ∈ vs, ∀ q, obk v = some q → w5.heap.size ≤ q ∧ q < w6.heap.size := r4.block
  have hus : ∀ u ∈ us, ∀ q, obk u = some q → w.heap.size ≤ q ∧ q < wr.heap.size := hL.mem.block
  have hw2 : ∀ k, fW p hv2 k → obk va2 ≠ some k := fun k hk e => by
    have hk6 := (r1.own k hk).2
    rcases k3 with h | h
    · rw [h] at e
      rcases r2 k hk with h' | h'
      · exact hL.off2 k e h'
      · have := (hall k e).2; omega
    · rw [h] at e; injection e with e; omega
  refine ⟨c6.then k2 fun k hk h => by have := (hall k h).1; omega, (r1.next hC hx hm).chg k2 fun k hk e => ?_, by rw [List.length_append]; exact k1, ?_, fun u hu k hk => ?_, fun k hk h => hw2 k h hk⟩
  · rcases r2 k hk with h' | h'
    · exact hL.off2 k e h'
    · have := (hall k e).2; omega
  · rw [(st_next hC hx hm).2]
    refine ((hmem6.app (r4.low (by have := hL.chg.size; omega)) fun u hu v hv q hq hq' => by have := (hus u hu q hq).2; have := (hvs v hv q hq').1; omega)).chg k2 fun u hu k hk e => ?_
    rcases List.mem_append.1 hu with hu | hu
    · exact (hL.off u hu k hk).1 e
    · have := (hvs u hu k hk).1; have := (hall k e).2; omega
  · rcases List.mem_append.1 hu with hu | hu
    · refine ⟨fun e => ?_, fun h => ?_⟩
      · rcases k3 with h | h
        · exact (hL.off u hu k hk).1 (by rw [← h]; exact e)
        · rw [h] at e; injection e with e; have := (hus u hu k hk).2; omega
      · rcases r2 k h with h' | h'
        · exact (hL.off u hu k hk).2 h'
        · have := (hus u hu k hk).2; omega
    · refine ⟨fun e => ?_, (r5 u hu k hk).2⟩
      rcases k3 with h | h
      · rw [h] at e; have := (hall k e).2; have := (hvs u hu k hk).1; omega
      · rw [h] at e; injection e with e; have := (hvs u hu k hk).2; omega

section
variable {B : Nat} {a : Nat → Addr}
theorem gives_no (w : World) (hs : Sen B a w) (most : Int) (h : most < 0 ∨ 1048576 < most) (v cv : Value) :
    Calls Tryd.prog 47 #[.int .i64 most, v, cv] w fun e w' => e = .returned (.tuple #[.slice none 0 0, errv a 2, .pointer none]) ∧ Chg none_ w w' := by
  have HS := Lib.hid hs
  have HB := Lib.hid h
  clear hs h
  go_enter Tryd.func47, Tryd.ntmps47
  go_wp2_with fail
  refine (mnew_no w HS.out most HB.out).mono ?_
  rintro e w1 ⟨rfl, c1⟩
  rw [show errv a 2 = .iface 123 (.pointer (some (a 2))) from rfl]
  have HC1 := Lib.hid c1
  clear c1
  go_wp2
  go_ret3
  exact ⟨rfl, HC1.out⟩

set_option maxRecDepth 100000 in
set_option maxHeartbeats 8000000 in
theorem gives_any (w : World) (hs : Sen B a w) (hBw : B ≤ w.heap.size) (most : Int) (h0 : 0 ≤ most) (h1 : most ≤ 1048576) (v : Value) (xs : List Int) (hb : Bs w v xs) (hlen : xs.length ≤ 1073741824) (CA : Option Addr) (nc cc : Nat) (zs : List Int) (hzs : zs.length = nc) (hcr : Rd w CA nc fun i => .int .i64 (zs.getD i 0))
    (hzb : ∀ z ∈ zs, -9223372036854775808 ≤ z ∧ z ≤ 9223372036854775807) (hnc : nc ≤ 140737488355328) :
    Calls Tryd.prog 47 #[.int .i64 most, v, .slice CA nc cc] w fun e w' => GvEnd a w most xs e w' := by
  have HB := Lib.hid hb
  obtain ⟨A, n, c, rfl, rfl, hby, hr, hncap⟩ := hb
  have HS := Lib.hid hs
  have HR := Lib.hid hr
  have HY := Lib.hid hby
  have HCR := Lib.hid hcr
  have HZ := Lib.hid hzs
  have HZB := Lib.hid hzb
  clear hs hr hby hcr hzs hzb
  obtain ⟨N, hN⟩ : ∃ N, N = xs.length := ⟨_, rfl⟩
  have HN := Lib.hid hN
  rw [← hN] at hlen hncap ⊢
  have HLen : Hid (N ≤ 1073741824) := hlen
  clear hN
  go_enter Tryd.func47, Tryd.ntmps47
  go_wp2_with fail
  refine (mnew_ok w most h0 h1).mono ?_
  rintro e w1 ⟨g, rfl, hg, r1, c1⟩
  have HC1 := Lib.hid c1
  have F0 : Hid (GvL w w1 (some ⟨g, 0, none⟩) most (xs.take 0) (.slice none 0 0) [] (.slice none 0 0)) := by
    refine ⟨c1, .inr ⟨h0, h1, g, rfl, by rw [List.take_zero, stS_nil]; exact r1, hg⟩, ob_nil _ _ _ _, ?_, (fun u hu => by simp at hu), fun k hk => by simp [obk] at hk⟩
    rw [List.take_zero, say_few rfl]
    exact Mem.nil _ _
  have HF0 : Hid (ffC most (xs.take 0) = 0) := by
    show _ = _
    rw [List.take_zero]
    unfold ffC
    rw [stS_nil]
    rfl
  clear r1 c1 hg
  go_wp2_with fail
  go_loopw [11, 12, 13, 14] (fun x11 x12 x13 x14 wr => ∃ (at_ k : Nat) (us : List Value) (hv : Value), x12 = errv a (ffC most (xs.take at_)) ∧ x13 = .int .i64 (at_ : Int) ∧ x14 = .int .i64 (k : Int) ∧ at_ ≤ N ∧ k ≤ nc + 1 ∧ (k = nc + 1 → at_ = N) ∧ GvL w wr (some ⟨g, 0, none⟩) most (xs.take at_) x11 us hv) (fun _ _ _ x14 _ => nc + 1 - (intOf x14).toNat)
  case atStart => exact ⟨0, 0, [], _, by rw [HF0.out]; rfl, rfl, rfl, Nat.zero_le _, Nat.zero_le _, (fun h => by omega), F0.out⟩
  case round =>
    obtain ⟨at_, k, us, hv, rfl, rfl, rfl, hat, hk, hend, hL⟩ := hrel
    have HL := Lib.hid hL
    have HE := Lib.hid hend
    clear hL hend
    obtain ⟨Aa, ca, rfl, hca1, hca2⟩ := HL.out.all.slice
    by_cases hkn : k ≤ nc
    · have hcell : Hid (k < nc → ∃ cd, CA = some cd ∧ wr.cell? (cd.add k) = some (.int .i64 (zs.getD k 0))) := fun hlt => by
        obtain ⟨cd, e, hc⟩ := HCR.out (by omega)
        refine ⟨cd, e, (World.cell?_of_block (HL.out.chg.block _ (by rw [block_add]; exact HCR.out.lt cd (by omega) e) (fun f => f))).trans (hc k hlt)⟩
      by_cases hlt : k < nc
      · obtain ⟨cd, rfl, hcell'⟩ := hcell.out hlt
        obtain ⟨z, hz⟩ : ∃ z, zs.getD k 0 = z := ⟨_, rfl⟩
        have hzb := HZB.out z (by rw [← hz]; exact getD_mem (by rw [HZ.out]; exact hlt))
        obtain ⟨hzb1, hzb2⟩ := hzb
        rw [hz] at hcell'
        clear hz hcell
        by_cases hz0 : 0 ≤ z
        · obtain ⟨d, hd, hd1⟩ : ∃ d : Nat, (if (N : Int) - (at_ : Int) < z then (N : Int) - (at_ : Int) else z) = (d : Int) ∧ at_ + d ≤ N := by
            by_cases hh : (N : Int) - (at_ : Int) < z
            · exact ⟨N - at_, by rw [if_pos hh]; omega, by omega⟩
            · exact ⟨z.toNat, by rw [if_neg hh]; omega, by omega⟩
          have hnd : k + 1 = nc + 1 → at_ + d = N := fun h => by omega
          have HND := Lib.hid hnd
          have HD1 := Lib.hid hd1
          have HEQ : Hid ((at_ : Int) + (d : Int) = ((at_ + d : Nat) : Int)) := by show _ = _; omega
          have HAC : Hid (at_ + d ≤ c) := Nat.le_trans hd1 hncap
          have hads : (0 : Int) ≤ (at_ : Int) + (d : Int) := by omega
          have hadn : (at_ : Int) + (d : Int) ≤ 1073741824 := by omega
          obtain ⟨x, hx⟩ : ∃ x : List Int, x = (xs.drop at_).take d := ⟨_, rfl⟩
          have hxl : x.length = d := by rw [hx, List.length_take, List.length_drop]; have := HN.out; omega
          have hxb : Byt x := by rw [hx]; exact (HY.out.drop _).take _
          have HX : Hid (x.length = d ∧ Byt x ∧ xs.take (at_ + d) = xs.take at_ ++ x) := ⟨hxl, hxb, by rw [hx, List.take_add]⟩
          obtain ⟨A', hA'⟩ : ∃ A', (if c = at_ then A else Option.map (fun x => x.add at_) A) = A' := ⟨_, rfl⟩
          have hadc : (at_ : Int) + (d : Int) ≤ (c : Int) := by omega
          have hatc : (at_ : Int) ≤ (at_ : Int) + (d : Int) := by omega
          have HXl : Hid (x.length = at_ + d - at_) := by show _ = _; rw [hxl]; omega
          have HSx : Hid (Rd w A' (at_ + d - at_) fun i => .int .u8 (x.getD i 0)) := by
            have h := bs_sub (w := w) (A := A) (HN.out.symm) hncap HY.out (by rw [HN.out]; exact HR.out) hd1
            rw [← hx] at h
            have e : subA A at_ c = A' := hA'
            rw [e] at h
            exact h.rdG
          have HCt : Hid (Byt (xs.take at_)) := HY.out.take _
          clear hnd hd1 hx hxl hxb
          go_wp2_with (at_builtin; refine wpList_append_bytes rfl (.tmp 53) (.tmp 59) rfl rfl (ob_nil _ wr.heap.size _ _) A' (at_ + d - at_) _ x rfl HXl.out ?hr_1 ?hb_1 ?hs_1 ?_)
          case hr_1 => exact HSx.out.keep ((HL.out.chg.alloc _).old (Nat.le_refl _))
          case hb_1 => have := HD1.out; have := HLen.out; omega
          case hs_1 => simp
          intro v5 w5 k1 k2 k3
          have HC5 : Hid (Chg none_ wr w5) := ((Chg.refl none_ wr).alloc _).trans ((grown_chg k2).more fun k _ hk => by simp [obk] at hk)
          have H5 : Hid (Bs w5 v5 x) := Bs.of_ob (n := d) (by simpa using k1) HX.out.2.1
          have HCw5 : Hid (Chg none_ w w5) := HL.out.chg.trans HC5.out
          clear k1 k2 k3
          go_wp2_with fail
          refine (pfeed_any w5 (HS.out.below (HCw5.out.old hBw)) HCw5.out.size hBw (HL.out.pr.keep HC5.out) HCt.out v5 x H5.out (by have := HX.out.1; have := HD1.out; have := HLen.out; rw [List.length_take]; omega)).mono ?_
          rintro e w6 ⟨out, vs, hv2, rfl, r1, r2, r3, r4, r5, r6, r7⟩
          obtain ⟨Ao, co, rfl, _, _⟩ := r3.slice
          have hvl : vs.length ≤ 1073741824 := by rw [r4.len]; have := fM_len (most := most) HCt.out HX.out.2.1; rw [List.length_take] at this; have := HX.out.1; have := HD1.out; have := HLen.out; omega
          have hul : us.length ≤ 1073741824 := by rw [HL.out.mem.len]; have := say_cnt (most := most) _ HCt.out; rw [List.length_take] at this; have := HLen.out; omega
          have HVU : Hid (vs.length ≤ 1073741824 ∧ us.length ≤ 1073741824) := ⟨hvl, hul⟩
          have HO6 : Hid (Ob w6 w.heap.size 38 (.slice Aa us.length ca) us.length us) := (HL.out.all.chg HC5.out (fun _ _ f => f)).chg r7 fun q hq h => HL.out.off2 q hq h
          have HR3 := Lib.hid r3
          have HR4 := Lib.hid r4
          have HR7 := Lib.hid r7
          have HR1 := Lib.hid r1
          have HR2 := Lib.hid r2
          have HR5 := Lib.hid r5
          have hs6 : Hid (w.heap.size ≤ w6.heap.size) := Nat.le_trans HCw5.out.size r7.size
          have HFF := Lib.hid (ff_next (most := most) HCt.out HX.out.2.1 h0)
          rw [show xs.take at_ ++ x = xs.take (at_ + d) from HX.out.2.2.symm] at HFF
          clear r1 r2 r3 r4 r5 r6 r7 hvl hul
          go_wp2_with (at_builtin; refine wpList_append_lists rfl (.tmp 64) (.tmp 65) rfl rfl HO6.out Ao vs.length co vs rfl rfl HR3.out.vals HR4.out.one_cell ?hb2_1 hs6.out ?_)
          case hb2_1 => have := HVU.out; omega
          intro va2 w7 k1 k2 k3
          have HN7 : Hid (GvL w w7 (some ⟨g, 0, none⟩) most (xs.take (at_ + d)) va2 (us ++ vs) hv2) := by
            have h := GvL.step HL.out h0 HCt.out HX.out.2.1 HC5.out HR1.out HR2.out HR3.out HR4.out HR5.out HR7.out k1 (grown_chg k2) k3
            rw [← HX.out.2.2] at h
            exact h
          clear k1 k2 k3
          have e15 : errv a 15 = .iface 123 (.pointer (some (a 15))) := rfl
          have e34 : errv a 34 = .iface 123 (.pointer (some (a 34))) := rfl
          have E15 := Lib.hid e15
          have E34 := Lib.hid e34
          clear e15 e34
          rcases HFF.out with ⟨q1, q2, q3⟩ | ⟨q1, q2, q3⟩ | ⟨q1, q2, q3⟩
          all_goals
            have Q3 := Lib.hid q3
            rw [q1, q2]
            clear q1 q2 q3
            try rw [show errv a 0 = .nilIface from rfl]
            try rw [E15.out]
            try rw [E34.out]
            go_wp2
            go_roundw
            case rel => exact ⟨at_ + d, k + 1, _, _, by rw [Q3.out]; first | rfl | exact E15.out.symm, by go_num, by go_num, HD1.out, by omega, HND.out, HN7.out⟩
            case measure => simp [intOf]; omega
        · have hz1 : z < 0 := by omega
          obtain ⟨d, hd, hd1⟩ : ∃ d : Nat, (if (N : Int) - (at_ : Int) < 0 then (N : Int) - (at_ : Int) else 0) = (d : Int) ∧ at_ + d ≤ N := ⟨0, by rw [if_neg (by omega)]; rfl, by omega⟩
          have hd0 : d = 0 := by rw [if_neg (by omega)] at hd; omega
          have hnd : k + 1 = nc + 1 → at_ + d = N := fun h => by omega
          have HND := Lib.hid hnd
          have HD1 := Lib.hid hd1
          have HEQ : Hid ((at_ : Int) + (d : Int) = ((at_ + d : Nat) : Int)) := by show _ = _; omega
          have HAC : Hid (at_ + d ≤ c) := Nat.le_trans hd1 hncap
          have hads : (0 : Int) ≤ (at_ : Int) + (d : Int) := by omega
          have hadn : (at_ : Int) + (d : Int) ≤ 1073741824 := by omega
          obtain ⟨x, hx⟩ : ∃ x : List Int, x = (xs.drop at_).take d := ⟨_, rfl⟩
          have hxl : x.length = d := by rw [hx, List.length_take, List.length_drop]; have := HN.out; omega
          have hxb : Byt x := by rw [hx]; exact (HY.out.drop _).take _
          have HX : Hid (x.length = d ∧ Byt x ∧ xs.take (at_ + d) = xs.take at_ ++ x) := ⟨hxl, hxb, by rw [hx, List.take_add]⟩
          obtain ⟨A', hA'⟩ : ∃ A', (if c = at_ then A else Option.map (fun x => x.add at_) A) = A' := ⟨_, rfl⟩
          have hadc : (at_ : Int) + (d : Int) ≤ (c : Int) := by omega
          have hatc : (at_ : Int) ≤ (at_ : Int) + (d : Int) := by omega
          have HXl : Hid (x.length = at_ + d - at_) := by show _ = _; rw [hxl]; omega
          have HSx : Hid (Rd w A' (at_ + d - at_) fun i => .int .u8 (x.getD i 0)) := by
            have h := bs_sub (w := w) (A := A) (HN.out.symm) hncap HY.out (by rw [HN.out]; exact HR.out) hd1
            rw [← hx] at h
            have e : subA A at_ c = A' := hA'
            rw [e] at h
            exact h.rdG
          have HCt : Hid (Byt (xs.take at_)) := HY.out.take _
          clear hnd hd1 hx hxl hxb
          go_wp2_with (at_builtin; refine wpList_append_bytes rfl (.tmp 53) (.tmp 59) rfl rfl (ob_nil _ wr.heap.size _ _) A' 0 _ [] rfl rfl ?hr_2 ?hb_2 ?hs_2 ?_)
          case hr_2 => exact fun h => absurd h (by omega)
          intro v5 w5 k1 k2 k3
          have HC5 : Hid (Chg none_ wr w5) := ((Chg.refl none_ wr).alloc _).trans ((grown_chg k2).more fun k _ hk => by simp [obk] at hk)
          have H5 : Hid (Bs w5 v5 x) := (by rw [show x = [] from List.eq_nil_of_length_eq_zero (by rw [HX.out.1]; exact hd0)]; exact Bs.of_ob (n := 0) (by simpa using k1) (fun _ h => by simp at h))
          have HCw5 : Hid (Chg none_ w w5) := HL.out.chg.trans HC5.out
          clear k1 k2 k3
          go_wp2_with fail
          refine (pfeed_any w5 (HS.out.below (HCw5.out.old hBw)) HCw5.out.size hBw (HL.out.pr.keep HC5.out) HCt.out v5 x H5.out (by have := HX.out.1; have := HD1.out; have := HLen.out; rw [List.length_take]; omega)).mono ?_
          rintro e w6 ⟨out, vs, hv2, rfl, r1, r2, r3, r4, r5, r6, r7⟩
          obtain ⟨Ao, co, rfl, _, _⟩ := r3.slice
          have hvl : vs.length ≤ 1073741824 := by rw [r4.len]; have := fM_len (most := most) HCt.out HX.out.2.1; rw [List.length_take] at this; have := HX.out.1; have := HD1.out; have := HLen.out; omega
          have hul : us.length ≤ 1073741824 := by rw [HL.out.mem.len]; have := say_cnt (most := most) _ HCt.out; rw [List.length_take] at this; have := HLen.out; omega
          have HVU : Hid (vs.length ≤ 1073741824 ∧ us.length ≤ 1073741824) := ⟨hvl, hul⟩
          have HO6 : Hid (Ob w6 w.heap.size 38 (.slice Aa us.length ca) us.length us) := (HL.out.all.chg HC5.out (fun _ _ f => f)).chg r7 fun q hq h => HL.out.off2 q hq h
          have HR3 := Lib.hid r3
          have HR4 := Lib.hid r4
          have HR7 := Lib.hid r7
          have HR1 := Lib.hid r1
          have HR2 := Lib.hid r2
          have HR5 := Lib.hid r5
          have hs6 : Hid (w.heap.size ≤ w6.heap.size) := Nat.le_trans HCw5.out.size r7.size
          have HFF := Lib.hid (ff_next (most := most) HCt.out HX.out.2.1 h0)
          rw [show xs.take at_ ++ x = xs.take (at_ + d) from HX.out.2.2.symm] at HFF
          clear r1 r2 r3 r4 r5 r6 r7 hvl hul
          go_wp2_with (at_builtin; refine wpList_append_lists rfl (.tmp 64) (.tmp 65) rfl rfl HO6.out Ao vs.length co vs rfl rfl HR3.out.vals HR4.out.one_cell ?hb2_2 hs6.out ?_)
          case hb2_2 => have := HVU.out; omega
          intro va2 w7 k1 k2 k3
          have HN7 : Hid (GvL w w7 (some ⟨g, 0, none⟩) most (xs.take (at_ + d)) va2 (us ++ vs) hv2) := by
            have h := GvL.step HL.out h0 HCt.out HX.out.2.1 HC5.out HR1.out HR2.out HR3.out HR4.out HR5.out HR7.out k1 (grown_chg k2) k3
            rw [← HX.out.2.2] at h
            exact h
          clear k1 k2 k3
          have e15 : errv a 15 = .iface 123 (.pointer (some (a 15))) := rfl
          have e34 : errv a 34 = .iface 123 (.pointer (some (a 34))) := rfl
          have E15 := Lib.hid e15
          have E34 := Lib.hid e34
          clear e15 e34
          rcases HFF.out with ⟨q1, q2, q3⟩ | ⟨q1, q2, q3⟩ | ⟨q1, q2, q3⟩
          all_goals
            have Q3 := Lib.hid q3
            rw [q1, q2]
            clear q1 q2 q3
            try rw [show errv a 0 = .nilIface from rfl]
            try rw [E15.out]
            try rw [E34.out]
            go_wp2
            go_roundw
            case rel => exact ⟨at_ + d, k + 1, _, _, by rw [Q3.out]; first | rfl | exact E15.out.symm, by go_num, by go_num, HD1.out, by omega, HND.out, HN7.out⟩
            case measure => simp [intOf]; omega
      · have hk' : k = nc := by omega
        obtain ⟨d, hd, hd1⟩ : ∃ d : Nat, (N : Int) - (at_ : Int) = (d : Int) ∧ at_ + d ≤ N := ⟨N - at_, by omega, by omega⟩
        have hnd : k + 1 = nc + 1 → at_ + d = N := fun h => by omega
        have HND := Lib.hid hnd
        have HD1 := Lib.hid hd1
        have HEQ : Hid ((at_ : Int) + (d : Int) = ((at_ + d : Nat) : Int)) := by show _ = _; omega
        have HAC : Hid (at_ + d ≤ c) := Nat.le_trans hd1 hncap
        have hads : (0 : Int) ≤ (at_ : Int) + (d : Int) := by omega
        have hadn : (at_ : Int) + (d : Int) ≤ 1073741824 := by omega
        obtain ⟨x, hx⟩ : ∃ x : List Int, x = (xs.drop at_).take d := ⟨_, rfl⟩
        have hxl : x.length = d := by rw [hx, List.length_take, List.length_drop]; have := HN.out; omega
        have hxb : Byt x := by rw [hx]; exact (HY.out.drop _).take _
        have HX : Hid (x.length = d ∧ Byt x ∧ xs.take (at_ + d) = xs.take at_ ++ x) := ⟨hxl, hxb, by rw [hx, List.take_add]⟩
        obtain ⟨A', hA'⟩ : ∃ A', (if c = at_ then A else Option.map (fun x => x.add at_) A) = A' := ⟨_, rfl⟩
        have hadc : (at_ : Int) + (d : Int) ≤ (c : Int) := by omega
        have hatc : (at_ : Int) ≤ (at_ : Int) + (d : Int) := by omega
        have HXl : Hid (x.length = at_ + d - at_) := by show _ = _; rw [hxl]; omega
        have HSx : Hid (Rd w A' (at_ + d - at_) fun i => .int .u8 (x.getD i 0)) := by
          have h := bs_sub (w := w) (A := A) (HN.out.symm) hncap HY.out (by rw [HN.out]; exact HR.out) hd1
          rw [← hx] at h
          have e : subA A at_ c = A' := hA'
          rw [e] at h
          exact h.rdG
        have HCt : Hid (Byt (xs.take at_)) := HY.out.take _
        clear hnd hd1 hx hxl hxb
        go_wp2_with (at_builtin; refine wpList_append_bytes rfl (.tmp 53) (.tmp 59) rfl rfl (ob_nil _ wr.heap.size _ _) A' (at_ + d - at_) _ x rfl HXl.out ?hr_3 ?hb_3 ?hs_3 ?_)
        case hr_3 => exact HSx.out.keep ((HL.out.chg.alloc _).old (Nat.le_refl _))
        case hb_3 => have := HD1.out; have := HLen.out; omega
        case hs_3 => simp
        intro v5 w5 k1 k2 k3
        have HC5 : Hid (Chg none_ wr w5) := ((Chg.refl none_ wr).alloc _).trans ((grown_chg k2).more fun k _ hk => by simp [obk] at hk)
        have H5 : Hid (Bs w5 v5 x) := Bs.of_ob (n := d) (by simpa using k1) HX.out.2.1
        have HCw5 : Hid (Chg none_ w w5) := HL.out.chg.trans HC5.out
        clear k1 k2 k3
        go_wp2_with fail
        refine (pfeed_any w5 (HS.out.below (HCw5.out.old hBw)) HCw5.out.size hBw (HL.out.pr.keep HC5.out) HCt.out v5 x H5.out (by have := HX.out.1; have := HD1.out; have := HLen.out; rw [List.length_take]; omega)).mono ?_
        rintro e w6 ⟨out, vs, hv2, rfl, r1, r2, r3, r4, r5, r6, r7⟩
        obtain ⟨Ao, co, rfl, _, _⟩ := r3.slice
        have hvl : vs.length ≤ 1073741824 := by rw [r4.len]; have := fM_len (most := most) HCt.out HX.out.2.1; rw [List.length_take] at this; have := HX.out.1; have := HD1.out; have := HLen.out; omega
        have hul : us.length ≤ 1073741824 := by rw [HL.out.mem.len]; have := say_cnt (most := most) _ HCt.out; rw [List.length_take] at this; have := HLen.out; omega
        have HVU : Hid (vs.length ≤ 1073741824 ∧ us.length ≤ 1073741824) := ⟨hvl, hul⟩
        have HO6 : Hid (Ob w6 w.heap.size 38 (.slice Aa us.length ca) us.length us) := (HL.out.all.chg HC5.out (fun _ _ f => f)).chg r7 fun q hq h => HL.out.off2 q hq h
        have HR3 := Lib.hid r3
        have HR4 := Lib.hid r4
        have HR7 := Lib.hid r7
        have HR1 := Lib.hid r1
        have HR2 := Lib.hid r2
        have HR5 := Lib.hid r5
        have hs6 : Hid (w.heap.size ≤ w6.heap.size) := Nat.le_trans HCw5.out.size r7.size
        have HFF := Lib.hid (ff_next (most := most) HCt.out HX.out.2.1 h0)
        rw [show xs.take at_ ++ x = xs.take (at_ + d) from HX.out.2.2.symm] at HFF
        clear r1 r2 r3 r4 r5 r6 r7 hvl hul
        go_wp2_with (at_builtin; refine wpList_append_lists rfl (.tmp 64) (.tmp 65) rfl rfl HO6.out Ao vs.length co vs rfl rfl HR3.out.vals HR4.out.one_cell ?hb2_3 hs6.out ?_)
        case hb2_3 => have := HVU.out; omega
        intro va2 w7 k1 k2 k3
        have HN7 : Hid (GvL w w7 (some ⟨g, 0, none⟩) most (xs.take (at_ + d)) va2 (us ++ vs) hv2) := by
          have h := GvL.step HL.out h0 HCt.out HX.out.2.1 HC5.out HR1.out HR2.out HR3.out HR4.out HR5.out HR7.out k1 (grown_chg k2) k3
          rw [← HX.out.2.2] at h
          exact h
        clear k1 k2 k3
        have e15 : errv a 15 = .iface 123 (.pointer (some (a 15))) := rfl
        have e34 : errv a 34 = .iface 123 (.pointer (some (a 34))) := rfl
        have E15 := Lib.hid e15
        have E34 := Lib.hid e34
        clear e15 e34
        rcases HFF.out with ⟨q1, q2, q3⟩ | ⟨q1, q2, q3⟩ | ⟨q1, q2, q3⟩
        all_goals
          have Q3 := Lib.hid q3
          rw [q1, q2]
          clear q1 q2 q3
          try rw [show errv a 0 = .nilIface from rfl]
          try rw [E15.out]
          try rw [E34.out]
          go_wp2
          go_roundw
          case rel => exact ⟨at_ + d, k + 1, _, _, by rw [Q3.out]; first | rfl | exact E15.out.symm, by go_num, by go_num, HD1.out, by omega, HND.out, HN7.out⟩
          case measure => simp [intOf]; omega
    · have hk' : k = nc + 1 := by omega
      have hat' := HE.out hk'
      have htk : xs.take at_ = xs := by rw [hat']; exact List.take_of_length_le (by have := HN.out; omega)
      have HTK := Lib.hid htk
      clear htk hat'
      go_wp2
      go_ret3
      exact ⟨_, _, us, hv, by rw [HTK.out]; rfl, by simp, by rw [← HTK.out]; exact HL.out⟩
end
end Go.Proofs.YtpmncndicdlmhaaDoor
