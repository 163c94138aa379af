/-
  culvertref27: Same, Held, Done, Feed by contracts; lists of byte lists as values.
  No condition of its own.
-/
import Derived.Test.YthalmjjbamglgaaDoorMsg4
namespace Go.Proofs.YthalmjjbamglgaaDoor
open Go.RowKit

/-- A slice value that reads as a list of byte lists; what it reads lies from block lo on. -/
structure Lst (w : World) (lo : Nat) (v : Value) (us : List Value) (ms : List (List Int)) : Prop where
  form : ∃ A c, v = .slice A us.length c ∧ us.length ≤ c ∧ Rd w A us.length fun i => us.getD i .nilIface
  all : All2 (Bs w) us ms
  top : ∀ k, rdk v = some k → lo ≤ k
  low : ∀ u ∈ us, ∀ k, rdk u = some k → lo ≤ k
theorem Lst.block {w : World} {lo : Nat} {v : Value} {us : List Value} {ms : List (List Int)} (h : Lst w lo v us ms) : ∀ k, rdk v = some k → lo ≤ k ∧ k < w.heap.size := by
  obtain ⟨A, c, rfl, _, hr⟩ := h.form
  exact fun k hk => ⟨h.top k hk, rdk_rd hr k hk⟩
theorem Lst.chg {S : Nat → Prop} {w w' : World} {lo : Nat} {v : Value} {us : List Value} {ms : List (List Int)} (h : Lst w lo v us ms) (hc : Chg S w w') (hs : ∀ k, lo ≤ k → k < w.heap.size → ¬ S k) : Lst w' lo v us ms := by
  obtain ⟨A, c, rfl, hnc, hr⟩ := h.form
  refine ⟨⟨A, c, rfl, hnc, hr.same (c := c) fun k hk => hc.block k (rdk_rd hr k hk) (hs k (h.top k hk) (rdk_rd hr k hk))⟩, h.all.mono fun u m hu _ hb => hb.chg hc fun k hk => hs k (h.low u hu k hk) (hb.block k hk), h.top, h.low⟩
theorem Lst.keep {w w' : World} {lo : Nat} {v : Value} {us : List Value} {ms : List (List Int)} (h : Lst w lo v us ms) (hc : Chg none_ w w') : Lst w' lo v us ms := h.chg hc fun _ _ _ f => f
theorem Lst.lower {w : World} {lo lo' : Nat} {v : Value} {us : List Value} {ms : List (List Int)} (h : Lst w lo v us ms) (hl : lo' ≤ lo) : Lst w lo' v us ms :=
  ⟨h.form, h.all, fun k hk => Nat.le_trans hl (h.top k hk), fun u hu k hk => Nat.le_trans hl (h.low u hu k hk)⟩
theorem Lst.len {w : World} {lo : Nat} {v : Value} {us : List Value} {ms : List (List Int)} (h : Lst w lo v us ms) : us.length = ms.length := h.all.len
theorem Lst.of {w : World} {lo : Nat} {v : Value} {us : List Value} {ms : List (List Int)} (ho : Ob w lo 23 v us.length us) (hm : Mem w lo us ms) : Lst w lo v us ms := by
  obtain ⟨A, c, rfl, hnc, _⟩ := ho.slice
  refine ⟨⟨A, c, rfl, hnc, ho.vals⟩, hm.bs, fun k hk => (ho.block k (ho.rdk k hk)).1, fun u hu k hk => ?_⟩
  obtain ⟨m, _, hob, _⟩ := all2_mem hm.all u hu
  exact (hob.block k (hob.rdk k hk)).1
theorem Lst.nil (w : World) (lo : Nat) : Lst w lo (.slice none 0 0) [] [] := ⟨⟨none, 0, rfl, Nat.le_refl _, Rd.zero _ _ _⟩, .nil, (fun k hk => by simp [rdk] at hk), fun u hu => by simp at hu⟩

theorem take_succ_eq {α : Type} {xs ys : List α} {i : Nat} {x y : α} (h : xs.take i = ys.take i) (hx : xs[i]? = some x) (hy : ys[i]? = some y) (e : x = y) : xs.take (i + 1) = ys.take (i + 1) := by
  have h1 : i < xs.length := (List.getElem?_eq_some_iff.1 hx).1
  have h2 : i < ys.length := (List.getElem?_eq_some_iff.1 hy).1
  rw [List.take_succ_eq_append_getElem h1, List.take_succ_eq_append_getElem h2, h]
  rw [List.getElem?_eq_getElem h1] at hx
  rw [List.getElem?_eq_getElem h2] at hy
  rw [Option.some.inj hx, Option.some.inj hy, e]

set_option maxHeartbeats 1000000 in
theorem msame_any (w : World) {lo lo' : Nat} {u v : Value} {us vs : List Value} {ms ns : List (List Int)} (hu : Lst w lo u us ms) (hv : Lst w lo' v vs ns) (hl : us.length ≤ 1099511627776) :
    Calls Tryd.prog 36 #[u, v] w fun e w' => e = .returned (.bool (decide (ms = ns))) ∧ Chg none_ w w' := by
  obtain ⟨A, c, rfl, hnc, hr⟩ := hu.form
  obtain ⟨B, d, rfl, hmd, hs⟩ := hv.form
  have hu' := Lib.hid hu
  have hv' := Lib.hid hv
  by_cases hne : us.length = vs.length
  · have HR := Lib.hid hr
    have HS := Lib.hid hs
    have HNE := Lib.hid hne
    clear hr hs hu hv
    have hne0 : ((us.length : Int) != (vs.length : Int)) = false := by rw [hne]; simp
    clear hne
    have fin : Hid (ms.take us.length = ns.take us.length → decide (ms = ns) = true) := fun h3 => by
      have e1 := hu'.out.len
      have e2 := hv'.out.len
      have h4 := HNE.out
      rw [List.take_of_length_le (by omega), List.take_of_length_le (by omega)] at h3
      exact decide_eq_true h3
    by_cases h0 : us.length = 0
    · have hd := fin.out (by rw [h0]; simp)
      rw [hd]
      rw [h0] at hne0 ⊢
      clear hnc hmd h0 hl hd
      go_enter Tryd.func36, Tryd.ntmps36
      go_wp2_with fail
      refine wp_loop_rounds 1 ?_
      rw [rounds_succ]
      go_wp2
      go_ret
      exact ⟨rfl, Chg.refl _ _⟩
    · obtain ⟨ad, hA, hcA⟩ := HR.out (by omega)
      obtain ⟨bd, hB, hcB⟩ := HS.out (by have := HNE.out; omega)
      have hA' := Lib.hid hcA
      have hB' := Lib.hid hcB
      subst hA hB
      clear hcA hcB h0
      obtain ⟨n, hn⟩ : ∃ n, n = us.length := ⟨_, rfl⟩
      obtain ⟨n2, hn2⟩ : ∃ n, n = vs.length := ⟨_, rfl⟩
      rw [← hn, ← hn2] at hne0
      rw [← hn] at hnc hl fin ⊢
      rw [← hn2] at hmd ⊢
      have HN : Hid (n = us.length ∧ n2 = vs.length ∧ n = n2) := ⟨hn, hn2, by have := HNE.out; omega⟩
      clear hn hn2
      go_enter Tryd.func36, Tryd.ntmps36
      go_wp2
      go_loopw [5] (fun x wr => ∃ i : Nat, x = .int .i64 (i : Int) ∧ i ≤ n ∧ ms.take i = ns.take i ∧ ∃ q, w.drewN q = wr) (fun x _ => n - (intOf x).toNat)
      case atStart => exact ⟨0, rfl, Nat.zero_le _, rfl, 0, rfl⟩
      case round =>
        obtain ⟨i, rfl, hi, ht, q, rfl⟩ := hrel
        have HT := Lib.hid ht
        clear ht
        by_cases hlt : i < n
        · have hN := HN.out
          have e1 := hu'.out.len
          have e2 := hv'.out.len
          obtain ⟨x, hx⟩ : ∃ x, ms[i]? = some x := ⟨_, List.getElem?_eq_getElem (by omega)⟩
          obtain ⟨y, hy⟩ : ∃ y, ns[i]? = some y := ⟨_, List.getElem?_eq_getElem (by omega)⟩
          obtain ⟨A1, n1, c1, ex, hl1, hb1, hr1, _⟩ := hu'.out.all.get (vals_get (vs := us) (by omega)) hx
          obtain ⟨A2, n2', c2, ey, hl2, hb2, hr2, _⟩ := hv'.out.all.get (vals_get (vs := vs) (by omega)) hy
          have ca := hA'.out i (by omega)
          have cb := hB'.out i (by omega)
          rw [ex] at ca
          rw [ey] at cb
          have k1 : ∀ (Q : Nat) (dst : TypeId), Tryd.prog.underlying dst = some .string → (convert 23 dst (.slice A1 n1 c1)).run Tryd.prog (w.drewN Q) = .ok (.string (strOfNums x)) (w.drewN Q) := fun Q => run_str (P := Tryd.prog) (c := c1) 23 5 Tryd.underlying23 Tryd.underlying5 hl1 (hr1.drewN Q)
          have k2 : ∀ (Q : Nat) (dst : TypeId), Tryd.prog.underlying dst = some .string → (convert 23 dst (.slice A2 n2' c2)).run Tryd.prog (w.drewN Q) = .ok (.string (strOfNums y)) (w.drewN Q) := fun Q => run_str (P := Tryd.prog) (c := c2) 23 5 Tryd.underlying23 Tryd.underlying5 hl2 (hr2.drewN Q)
          have g1 : (0 : Int) ≤ (i : Int) := by omega
          have g2 : (i : Int) < (n : Int) := by omega
          have g3 : (i : Int) < (n2 : Int) := by omega
          have hbq := str_beq hb1 hb2
          have HX := Lib.hid hx
          have HY := Lib.hid hy
          have HI := Lib.hid hi
          clear hx hy hl1 hl2 hb1 hb2 hr1 hr2 ex ey e1 e2 hN hi
          by_cases hxy : x = y
          · have hbe : ((strOfNums x).toList == (strOfNums y).toList) = true := by rw [hbq, decide_eq_true hxy]
            have HXY := Lib.hid hxy
            clear hbq hxy
            go_wp2_with fail
            go_quiet (fail)
            go_wp2
            go_roundw
            case rel => exact ⟨i + 1, by go_num, by omega, take_succ_eq HT.out HX.out HY.out HXY.out, _, rfl⟩
            case measure => simp [intOf]; omega
          · have hbe : ((strOfNums x).toList == (strOfNums y).toList) = false := by rw [hbq, decide_eq_false hxy]
            have hmn : decide (ms = ns) = false := by
              rw [decide_eq_false_iff_not]
              intro e
              subst e
              exact hxy (Option.some.inj (HX.out.symm.trans HY.out))
            have HMN := Lib.hid hmn
            clear hbq hxy hmn
            go_wp2_with fail
            go_quiet (fail)
            go_wp2
            go_ret
            exact ⟨by rw [HMN.out]; rfl, ((Chg.refl none_ w).drewN q).drewN _⟩
        · have hd := fin.out (by rw [show n = i by omega]; exact HT.out)
          have HD := Lib.hid hd
          clear hd
          go_wp2
          go_ret
          exact ⟨by rw [HD.out]; rfl, (Chg.refl none_ w).drewN _⟩
  · have hne1 : ((us.length : Int) != (vs.length : Int)) = true := by simp; omega
    have hmn : decide (ms = ns) = false := by
      rw [decide_eq_false_iff_not]
      intro e
      have e1 := hu.len
      have e2 := hv.len
      rw [e] at e1
      omega
    rw [hmn]
    clear hr hs hmn hne hu hv
    go_enter Tryd.func36, Tryd.ntmps36
    go_wp2
    go_ret
    exact ⟨rfl, Chg.refl _ _⟩

section
variable (w : World) (most : Int) (hm0 : 0 ≤ most) (hm1 : most ≤ 1048576) (F : List Int) (fv : Value) (hb : Bs w fv F) (hlen : F.length ≤ 1099511627776)
include hm0 hm1 hb hlen
theorem rheld_any : Calls Tryd.prog 38 #[.agg #[.int .i64 most, fv]] w fun e w' => e = .returned (.int .i64 (hldS (stS most F) : Int)) ∧ Chg none_ w w' := by
  obtain ⟨A, n, c, rfl, rfl, hby, hr, hnc⟩ := hb
  have HB : Hid (∀ o, Bs (w.alloc o) (.slice A F.length c) F) := fun o => ⟨A, _, c, rfl, rfl, hby, hr.keep ((Below.refl _ _).alloc (Nat.le_refl _) _), hnc⟩
  clear hby hr
  obtain ⟨r, hr⟩ : ∃ r : Int, (hldS (stS most F) : Int) = r := ⟨_, rfl⟩
  have HR := Lib.hid hr
  have HL := Lib.hid hlen
  rw [hr]
  clear hr hlen
  have hfld : ∀ (w : World) (x y z : Value), (Instr.field 144 (.agg #[x, y, z]) 1).run Tryd.prog w = .ok y w := fun _ _ _ _ => by kernel_rfl
  go_enter Tryd.func38, Tryd.ntmps38
  go_wp2_with fail
  refine (say_any _ most hm1 F _ (HB.out _) HL.out).mono ?_
  rintro e w1 ⟨mv, vs, rfl, k1, k2, k3, k4, k5⟩
  have HC := Lib.hid k5
  rw [HR.out]
  obtain ⟨Am, cm, rfl, _, _⟩ := k1.slice
  clear k1 k2 k3 k4 k5
  go_wp2
  go_ret
  exact ⟨rfl, ((Chg.refl none_ w).alloc _).trans HC.out⟩
theorem rdone_any : Calls Tryd.prog 40 #[.agg #[.int .i64 most, fv]] w fun e w' => e = .returned (.int .i64 (dnC (stS most F) : Int)) ∧ Chg none_ w w' := by
  obtain ⟨A, n, c, rfl, rfl, hby, hr, hnc⟩ := hb
  have HB : Hid (∀ o, Bs (w.alloc o) (.slice A F.length c) F) := fun o => ⟨A, _, c, rfl, rfl, hby, hr.keep ((Below.refl _ _).alloc (Nat.le_refl _) _), hnc⟩
  clear hby hr
  rcases hso : stS most F with _ | H
  · have HE : Hid (hldS (stS most F) = 0 ∧ (stS most F).isNone = true) := by show _ ∧ _; rw [hso]; exact ⟨rfl, rfl⟩
    show Calls _ _ _ w fun e w' => e = .returned (.int .i64 34) ∧ Chg none_ w w'
    clear hso
    have HL := Lib.hid hlen
    clear hlen
    go_enter Tryd.func40, Tryd.ntmps40
    go_wp2_with fail
    refine (say_any _ most hm1 F _ (HB.out _) HL.out).mono ?_
    rintro e w1 ⟨mv, vs, rfl, k1, k2, k3, k4, k5⟩
    obtain ⟨Am, cm, rfl, _, _⟩ := k1.slice
    have HC := Lib.hid k5
    rw [HE.out.1, HE.out.2]
    clear k1 k2 k3 k4 k5
    go_wp2
    go_ret
    exact ⟨rfl, (((Chg.refl none_ w).alloc _).trans HC.out).alloc _⟩
  · by_cases h : 0 < H.length
    · obtain ⟨hl, hh⟩ : ∃ hl, H.length = hl := ⟨_, rfl⟩
      have HE : Hid (hldS (stS most F) = hl ∧ (stS most F).isNone = false) := by show _ ∧ _; rw [hso]; exact ⟨hh, rfl⟩
      rw [show ((dnC (some H) : Nat) : Int) = 3 from by show ((if 0 < H.length then 3 else 0 : Nat) : Int) = 3; rw [if_pos h]; rfl]
      rw [hh] at h
      clear hso hh
      have HL := Lib.hid hlen
      clear hlen
      go_enter Tryd.func40, Tryd.ntmps40
      go_wp2_with fail
      refine (say_any _ most hm1 F _ (HB.out _) HL.out).mono ?_
      rintro e w1 ⟨mv, vs, rfl, k1, k2, k3, k4, k5⟩
      obtain ⟨Am, cm, rfl, _, _⟩ := k1.slice
      have HC := Lib.hid k5
      rw [HE.out.1, HE.out.2]
      clear k1 k2 k3 k4 k5
      go_wp2
      go_ret
      exact ⟨rfl, (((Chg.refl none_ w).alloc _).trans HC.out).alloc _⟩
    · have HE : Hid (hldS (stS most F) = 0 ∧ (stS most F).isNone = false) := by show _ ∧ _; rw [hso]; exact ⟨by show H.length = 0; omega, rfl⟩
      rw [show ((dnC (some H) : Nat) : Int) = 0 from by show ((if 0 < H.length then 3 else 0 : Nat) : Int) = 0; rw [if_neg h]; rfl]
      clear hso h
      have HL := Lib.hid hlen
      clear hlen
      go_enter Tryd.func40, Tryd.ntmps40
      go_wp2_with fail
      refine (say_any _ most hm1 F _ (HB.out _) HL.out).mono ?_
      rintro e w1 ⟨mv, vs, rfl, k1, k2, k3, k4, k5⟩
      obtain ⟨Am, cm, rfl, _, _⟩ := k1.slice
      have HC := Lib.hid k5
      rw [HE.out.1, HE.out.2]
      clear k1 k2 k3 k4 k5
      go_wp2
      go_ret
      exact ⟨rfl, (((Chg.refl none_ w).alloc _).trans HC.out).alloc _⟩
end

/-- What the reference's Feed leaves. -/
def RfEnd (w : World) (most : Int) (F xs : List Int) (fv : Value) (e : Ending) (w' : World) : Prop :=
  ∃ fv2 mv us, e = .returned (.tuple #[.agg #[.int .i64 most, fv2], mv, .int .i64 (fdC most (stS most F) xs : Int)]) ∧ Bs w' fv2 (if (stS most F).isNone then F else F ++ xs) ∧ (∀ k, rdk fv2 = some k → rdk fv = some k ∨ w.heap.size ≤ k) ∧
    Lst w' w.heap.size mv us (fdM most (stS most F) xs) ∧ Chg none_ w w'

theorem lst_drop {w : World} {lo : Nat} {A : Option Addr} {c : Nat} {vs : List Value} {ms : List (List Int)} (h : Lst w lo (.slice A vs.length c) vs ms) (k : Nat) (hk : k ≤ vs.length) (hnc : vs.length ≤ c) :
    Lst w lo (.slice (subA A k c) (vs.length - k) (c - k)) (vs.drop k) (ms.drop k) := by
  obtain ⟨A', c', e, _, hr⟩ := h.form
  cases e
  refine ⟨⟨_, _, by rw [List.length_drop], by rw [List.length_drop]; omega, ?_⟩, h.all.drop k, fun q hq => h.top q (sub_rdk hq), fun u hu => h.low u (List.mem_of_mem_drop hu)⟩
  rw [List.length_drop]
  refine (hr.subE hnc hk).congr fun i _ => ?_
  rw [List.getD_eq_getElem?_getD, List.getD_eq_getElem?_getD, List.getElem?_drop]
set_option maxRecDepth 100000 in
set_option maxHeartbeats 2000000 in
theorem rfeed_dead (w : World) (most : Int) (hm0 : 0 ≤ most) (hm1 : most ≤ 1048576) (F xs : List Int) (fv v : Value) (hb : Bs w fv F) (hx : Bs w v xs) (hlen : F.length + xs.length ≤ 1099511627776) (hso : stS most F = none) :
    Calls Tryd.prog 34 #[.agg #[.int .i64 most, fv], v] w fun e w' => RfEnd w most F xs fv e w' := by
  have hb' := Lib.hid hb
  obtain ⟨A, n, c, rfl, rfl, hby, hr, hnc⟩ := hb
  obtain ⟨A2, n2, c2, rfl, rfl, hby2, hr2, hnc2⟩ := hx
  have HB : Hid (∀ w', Chg none_ w w' → Bs w' (.slice A F.length c) F) := fun w' h => ⟨A, _, c, rfl, rfl, hby, hr.keep (h.old (Nat.le_refl _)), hnc⟩
  have HL := Lib.hid hlen
  have HE : Hid (hldS (stS most F) = 0 ∧ (stS most F).isNone = true) := by show _ ∧ _; rw [hso]; exact ⟨rfl, rfl⟩
  have HSO := Lib.hid hso
  clear hr hlen hby hby2 hr2 hso
  go_enter Tryd.func34, Tryd.ntmps34
  go_wp2_with fail
  refine (say_any _ most hm1 F _ (HB.out _ (((Chg.refl none_ w).alloc _).alloc _)) (by have := HL.out; omega)).mono ?_
  rintro e w1 ⟨mv, vs, rfl, k1, k2, k3, k4, k5⟩
  obtain ⟨Am, cm, rfl, _, _⟩ := k1.slice
  have HC := Lib.hid k5
  have i1 : Hid (Is w1 w.heap.size 81 #[.int .i64 most, .slice A F.length c]) := ((Is.new w _ _).alloc _).chg k5 fun f => f
  have i2 : Hid (Is w1 (w.heap.size + 1) 81 #[.int .i64 0, .slice none 0 0]) := by
    have h := (Is.new (w.alloc (.cells #[.int .i64 most, .slice A F.length c] 81)) 81 #[.int .i64 0, .slice none 0 0]).chg k5 fun f => f
    show Is _ _ _ _
    simpa using h
  have a0 : w1.cell? ⟨w.heap.size, 0, none⟩ = some (.int .i64 most) := i1.out.at_ 0 _ rfl
  have a1 : w1.cell? ⟨w.heap.size, 1, none⟩ = some (.slice A F.length c) := i1.out.at_ 1 _ rfl
  have b0 : w1.cell? ⟨w.heap.size + 1, 0, none⟩ = some (.int .i64 0) := i2.out.at_ 0 _ rfl
  have b1 : w1.cell? ⟨w.heap.size + 1, 1, none⟩ = some (.slice none 0 0) := i2.out.at_ 1 _ rfl
  have f0 : w1.frozen? ⟨w.heap.size + 1, 0, none⟩ = false := i2.out.frozen 0
  have f1 : w1.frozen? ⟨w.heap.size + 1, 1, none⟩ = false := i2.out.frozen 1
  have hz : w.heap.size + 1 < w1.heap.size := by have := k5.size; simp at this; omega
  have hz0 : w.heap.size < w1.heap.size := by omega
  have HZ := Lib.hid hz
  rw [HE.out.1, HE.out.2]
  clear k1 k2 k3 k4 k5
  go_wp2
  refine bodyPost_ret (by simp [results, Tryd.results34, go_sem, b0, b1, hz]; try rfl) rfl ?_
  have hc2 := ((((Chg.refl none_ w).alloc _).alloc _).trans HC.out).then (S' := fun k => k = w.heap.size + 1) (((Chg.refl (fun k => k = w.heap.size + 1) w1).setCell (p := ⟨w.heap.size + 1, 0, none⟩) (fun _ => rfl) (.int .i64 most)).setCell (p := ⟨w.heap.size + 1, 1, none⟩) (fun _ => rfl) (.slice A F.length c)) (fun k hk e => by omega) |>.alloc (.cells #[.slice Am vs.length cm, .int .i64 0, .bool true] 144)
  refine ⟨.slice A F.length c, .slice none 0 0, [], by rw [HSO.out]; rfl, ?_, fun k hk => .inl hk, ?_, hc2⟩
  · rw [HE.out.2]
    exact HB.out _ hc2
  · rw [HSO.out]
    exact Lst.nil _ _

set_option maxRecDepth 100000 in
set_option maxHeartbeats 4000000 in
theorem rfeed_live (w : World) (most : Int) (hm0 : 0 ≤ most) (hm1 : most ≤ 1048576) (F xs : List Int) (fv v : Value) (hb : Bs w fv F) (hx : Bs w v xs) (hlen : F.length + xs.length ≤ 1099511627776) (H : List Int) (hso : stS most F = some H) :
    Calls Tryd.prog 34 #[.agg #[.int .i64 most, fv], v] w fun e w' => RfEnd w most F xs fv e w' := by
  obtain ⟨A, n, c, rfl, rfl, hby, hr, hnc⟩ := hb
  obtain ⟨A2, n2, c2, rfl, rfl, hby2, hr2, hnc2⟩ := hx
  have HB : Hid (∀ w', Chg none_ w w' → Bs w' (.slice A F.length c) F) := fun w' h => ⟨A, _, c, rfl, rfl, hby, hr.keep (h.old (Nat.le_refl _)), hnc⟩
  have HR : Hid (∀ w', Chg none_ w w' → Rd w' A F.length fun i => .int .u8 (F.getD i 0)) := fun w' h => hr.keep (h.old (Nat.le_refl _))
  have HR2 : Hid (∀ w', Chg none_ w w' → Rd w' A2 xs.length fun i => .int .u8 (xs.getD i 0)) := fun w' h => hr2.keep (h.old (Nat.le_refl _))
  have HL := Lib.hid hlen
  have HE : Hid ((stS most F).isNone = false) := by show _ = _; rw [hso]; rfl
  have HSO := Lib.hid hso
  have HYB : Hid (Byt (F ++ xs)) := hby.append hby2
  have HYF := Lib.hid hby
  clear hr hlen hby hby2 hr2 hso
  go_enter Tryd.func34, Tryd.ntmps34
  go_wp2_with fail
  refine (say_any _ most hm1 F _ (HB.out _ (((Chg.refl none_ w).alloc _).alloc _)) (by have := HL.out; omega)).mono ?_
  rintro e w1 ⟨mv, vs, rfl, k1, k2, k3, k4, k5⟩
  obtain ⟨Am, cm, rfl, _, _⟩ := k1.slice
  have HC : Hid (Chg none_ w w1) := (((Chg.refl none_ w).alloc _).alloc _).trans k5
  obtain ⟨w2, hw2⟩ : ∃ w2, w2 = (w1.alloc (.cells #[.slice Am vs.length cm, .int .i64 (hldS (stS most F) : Int), .bool false] 144)).alloc (.cells #[] 5) := ⟨_, rfl⟩
  have HC2 : Hid (Chg none_ w w2) := by show Chg _ _ _; rw [hw2]; exact (HC.out.alloc _).alloc _
  have i1 : Hid (Is w2 w.heap.size 81 #[.int .i64 most, .slice A F.length c]) := by
    show Is _ _ _ _
    rw [hw2]
    exact (((((Is.new w _ _).alloc _).chg k5 fun f => f).alloc _).alloc _)
  have i2 : Hid (Is w2 (w.heap.size + 1) 81 #[.int .i64 0, .slice none 0 0]) := by
    have h := (Is.new (w.alloc (.cells #[.int .i64 most, .slice A F.length c] 81)) 81 #[.int .i64 0, .slice none 0 0]).chg k5 fun f => f
    show Is _ _ _ _
    rw [hw2]
    simpa using (h.alloc (.cells #[.slice Am vs.length cm, .int .i64 (hldS (stS most F) : Int), .bool false] 144)).alloc (.cells #[] 5)
  have i3 : Hid (Is w2 w1.heap.size 144 #[.slice Am vs.length cm, .int .i64 (hldS (stS most F) : Int), .bool false]) := by
    show Is _ _ _ _
    rw [hw2]
    exact (Is.new w1 _ _).alloc _
  have hz : w.heap.size + 1 < w1.heap.size := by have := k5.size; simp at this; omega
  have hz0 : w.heap.size < w1.heap.size := by omega
  have hsz2 : Hid (w2.heap.size = w1.heap.size + 2) := by show _ = _; rw [hw2]; simp
  have HVL : Hid (vs.length = (sayB most F).1.length) := k2.len
  have a1 : w1.cell? ⟨w.heap.size, 1, none⟩ = some (.slice A F.length c) := (((Is.new w _ _).alloc _).chg k5 fun f => f).at_ 1 _ rfl
  have HK4 := Lib.hid k4
  rw [HE.out]
  have HW2 := Lib.hid hw2
  clear k1 k2 k3 k4 k5 hw2
  go_wp2_with (at_builtin; refine wpList_append_bytes rfl (.tmp 19) (.tmp 21) rfl rfl (ob_nil _ w1.heap.size _ _) A F.length c F rfl rfl ?hr ?hb ?hs ?_)
  case hr => rw [← HW2.out]; exact HR.out _ HC2.out
  case hb => have := HL.out; omega
  case hs => simp; omega
  intro v3 w3 k1 k2 k3
  rw [← HW2.out] at k2
  have HC3 : Hid (Chg none_ w2 w3) := (grown_chg k2).more fun k _ hk => by simp [obk] at hk
  have H3 := Lib.hid k1
  have K3 : Hid (∀ q, obk v3 = some q → q = w2.heap.size) := fun q hq => by
    rcases k3 with h | h
    · rw [h] at hq; simp [obk] at hq
    · rw [h] at hq; have := hsz2.out; injection hq with e; omega
  obtain ⟨A3, c3, rfl, _, _⟩ := k1.slice
  clear k1 k2 k3
  go_wp2_with (at_builtin; refine wpList_append_bytes rfl (.tmp 23) (.tmp 24) rfl rfl H3.out A2 xs.length c2 xs rfl rfl ?hr2 ?hb2 ?hs2 ?_)
  case hr2 => exact HR2.out _ (HC2.out.trans HC3.out)
  case hb2 => have := HL.out; omega
  case hs2 => have := HC3.out.size; have := hsz2.out; omega
  intro v4 w4 k1 k2 k3
  have HC4 : Hid (Chg none_ w2 w4) := HC3.out.then (grown_chg k2) fun q hq hb => by have := K3.out q hb; omega
  obtain ⟨all, hall⟩ : ∃ all : List Int, all = F ++ xs := ⟨_, rfl⟩
  have k1' : Ob w4 w1.heap.size 5 v4 all.length (all.map (Value.int .u8)) := by
    rw [hall, List.map_append, List.length_append]
    exact k1
  obtain ⟨A4, c4, rfl, h4a, h4b⟩ := k1'.slice
  have H4 := Lib.hid k1'
  have HA := Lib.hid hall
  have HAL : Hid (all.length ≤ 1099511627776) := by show _ ≤ _; rw [hall, List.length_append]; exact HL.out
  have j1 : Hid (Is w4 w.heap.size 81 #[.int .i64 most, .slice A F.length c]) := i1.out.chg HC4.out fun f => f
  have j2 : Hid (Is w4 (w.heap.size + 1) 81 #[.int .i64 0, .slice none 0 0]) := i2.out.chg HC4.out fun f => f
  have j3 : Hid (Is w4 w1.heap.size 144 #[.slice Am vs.length cm, .int .i64 (hldS (stS most F) : Int), .bool false]) := i3.out.chg HC4.out fun f => f
  have d0 : w4.cell? ⟨w.heap.size, 0, none⟩ = some (.int .i64 most) := j1.out.at_ 0 _ rfl
  have d1 : w4.cell? ⟨w.heap.size, 1, none⟩ = some (.slice A F.length c) := j1.out.at_ 1 _ rfl
  have e1 : w4.frozen? ⟨w.heap.size, 1, none⟩ = false := j1.out.frozen 1
  have hz4 : Hid (w1.heap.size + 2 ≤ w4.heap.size) := by show _ ≤ _; have := HC4.out.size; have := hsz2.out; omega
  clear k1 k2 k3 k1' hall
  go_wp2_with fail
  refine (say_any _ most hm1 all _ ?_ HAL.out).mono ?_
  · refine Bs.of_ob (H4.out.keep fun k hk => Below.heap_setCell w4 _ _ k (by have := (H4.out.block k hk).1; simp only; omega)) ?_
    rw [HA.out]
    exact HYB.out
  rintro e w5 ⟨mv, us, rfl, k1, k2, k3, k4, k5⟩
  obtain ⟨A5, c5, rfl, h5a, _⟩ := k1.slice
  have HC5 : Hid (Chg (fun k => k = w.heap.size) w4 w5) := ((Chg.refl (fun k => k = w.heap.size) w4).setCell (fun _ => rfl) _).then0 k5
  have HCw : Hid (Chg none_ w w5) := (HC2.out.trans HC4.out).then HC5.out fun k hk e => by omega
  have l1 : Hid (Is w5 w.heap.size 81 #[.int .i64 most, .slice A4 all.length c4]) := (j1.out.put 1 _).chg k5 fun f => f
  have l2 : Hid (Is w5 (w.heap.size + 1) 81 #[.int .i64 0, .slice none 0 0]) := j2.out.chg HC5.out fun e => by omega
  have l3 : Hid (Is w5 w1.heap.size 144 #[.slice Am vs.length cm, .int .i64 (hldS (stS most F) : Int), .bool false]) := j3.out.chg HC5.out fun e => by omega
  have hz5 : w1.heap.size < w5.heap.size := by have := HC5.out.size; have := hz4.out; omega
  have hz6 : w.heap.size + 1 < w5.heap.size := by omega
  have hz7 : w.heap.size < w5.heap.size := by omega
  have hsc : (w4.setCell ⟨w.heap.size, 1, none⟩ (.slice A4 all.length c4)).heap.size = w4.heap.size := by simp [World.setCell]
  have HLst : Hid (Lst w5 w1.heap.size (.slice A5 us.length c5) us (sayB most all).1) := (Lst.of k1 k2).lower (by have := hz4.out; rw [hsc]; omega)
  have HFD : Hid ((sayB most all).1 = (sayB most F).1 ++ fdM most (some H) xs ∧ fdC most (some H) xs = (if (stS most all).isSome then 0 else 15)) := by
    show _ ∧ _
    have h := fd_live HYF.out (b := xs) (fun z hz => HYB.out z (List.mem_append_right _ hz)) HSO.out
    rw [HA.out]
    exact ⟨h.2.1, h.2.2⟩
  have hlen : vs.length ≤ us.length := by
    have h1 := HLst.out.len
    rw [HFD.out.1, List.length_append, ← HVL.out] at h1
    omega
  have HUL : Hid (us.length ≤ 1099511627776) := Nat.le_trans k4 HAL.out
  have hli : (vs.length : Int) ≤ (us.length : Int) := by omega
  obtain ⟨A6, hA6⟩ : ∃ A6, (if c5 = vs.length then A5 else Option.map (fun x => x.add vs.length) A5) = A6 := ⟨_, rfl⟩
  have HRes : Hid (Lst w5 w1.heap.size (.slice A6 (us.length - vs.length) (c5 - vs.length)) (us.drop vs.length) (fdM most (some H) xs)) := by
    have h := lst_drop HLst.out vs.length hlen h5a
    have e : subA A5 vs.length c5 = A6 := hA6
    rw [e, HFD.out.1, HVL.out, List.drop_left] at h
    rw [HVL.out]
    exact h
  have m0 : w5.cell? ⟨w.heap.size, 0, none⟩ = some (.int .i64 most) := l1.out.at_ 0 _ rfl
  have m1 : w5.cell? ⟨w.heap.size, 1, none⟩ = some (.slice A4 all.length c4) := l1.out.at_ 1 _ rfl
  have n0 : w5.cell? ⟨w.heap.size + 1, 0, none⟩ = some (.int .i64 0) := l2.out.at_ 0 _ rfl
  have n1 : w5.cell? ⟨w.heap.size + 1, 1, none⟩ = some (.slice none 0 0) := l2.out.at_ 1 _ rfl
  have g0 : w5.frozen? ⟨w.heap.size + 1, 0, none⟩ = false := l2.out.frozen 0
  have g1 : w5.frozen? ⟨w.heap.size + 1, 1, none⟩ = false := l2.out.frozen 1
  have o0 : w5.cell? ⟨w1.heap.size, 0, none⟩ = some (.slice Am vs.length cm) := l3.out.at_ 0 _ rfl
  clear k1 k2 k3 k4 k5 hlen hsc d0 d1 e1 a1
  have HBs : Hid (Bs w5 (.slice A4 all.length c4) all) := Bs.of_ob (H4.out.chg HC5.out fun k hk e => by have := (H4.out.block k hk).1; omega) (by rw [HA.out]; exact HYB.out)
  have hb4 : Hid (∀ k, rdk (.slice A4 all.length c4) = some k → w1.heap.size ≤ k) := fun k hk => (H4.out.block k (H4.out.rdk k hk)).1
  have KS : Hid (∀ (b : Bool) (r : Int), ((((w5.setCell ⟨w.heap.size + 1, 0, none⟩ (.int .i64 most)).setCell ⟨w.heap.size + 1, 1, none⟩ (.slice A4 all.length c4)).alloc (.cells #[.slice A5 us.length c5, .int .i64 r, .bool b] 144)).drew.cell? ⟨w.heap.size, 0, none⟩ = some (.int .i64 most) ∧ (((w5.setCell ⟨w.heap.size + 1, 0, none⟩ (.int .i64 most)).setCell ⟨w.heap.size + 1, 1, none⟩ (.slice A4 all.length c4)).alloc (.cells #[.slice A5 us.length c5, .int .i64 r, .bool b] 144)).drew.cell? ⟨w.heap.size, 1, none⟩ = some (.slice A4 all.length c4)) ∧ (((w5.setCell ⟨w.heap.size + 1, 0, none⟩ (.int .i64 most)).setCell ⟨w.heap.size + 1, 1, none⟩ (.slice A4 all.length c4)).alloc (.cells #[.slice A5 us.length c5, .int .i64 r, .bool b] 144)).drew.cell? ⟨w5.heap.size, 0, none⟩ = some (.slice A5 us.length c5) ∧ (((w5.setCell ⟨w.heap.size + 1, 0, none⟩ (.int .i64 most)).setCell ⟨w.heap.size + 1, 1, none⟩ (.slice A4 all.length c4)).alloc (.cells #[.slice A5 us.length c5, .int .i64 r, .bool b] 144)).drew.cell? ⟨w1.heap.size, 0, none⟩ = some (.slice Am vs.length cm)) := by
    intro b r
    have q1 := ((l1.out.far (p := ⟨w.heap.size + 1, 0, none⟩) (by simp) (.int .i64 most)).far (p := ⟨w.heap.size + 1, 1, none⟩) (by simp) (.slice A4 all.length c4)).alloc (.cells #[.slice A5 us.length c5, .int .i64 r, .bool b] 144)
    have q3 := ((l3.out.far (p := ⟨w.heap.size + 1, 0, none⟩) (by simp only; omega) (.int .i64 most)).far (p := ⟨w.heap.size + 1, 1, none⟩) (by simp only; omega) (.slice A4 all.length c4)).alloc (.cells #[.slice A5 us.length c5, .int .i64 r, .bool b] 144)
    have q2 := Is.new ((w5.setCell ⟨w.heap.size + 1, 0, none⟩ (.int .i64 most)).setCell ⟨w.heap.size + 1, 1, none⟩ (.slice A4 all.length c4)) 144 #[.slice A5 us.length c5, .int .i64 r, .bool b]
    have e : ((w5.setCell ⟨w.heap.size + 1, 0, none⟩ (.int .i64 most)).setCell ⟨w.heap.size + 1, 1, none⟩ (.slice A4 all.length c4)).heap.size = w5.heap.size := by simp [World.setCell]
    rw [e] at q2
    exact ⟨⟨q1.at_ 0 _ rfl, q1.at_ 1 _ rfl⟩, q2.at_ 0 _ rfl, q3.at_ 0 _ rfl⟩
  rcases hs2 : stS most all with _ | H2
  · have HS2 := Lib.hid hs2
    simp only [Option.isNone_none]
    clear hs2
    go_wp2
    go_region_held3 (fun u => (u.cell? ⟨w.heap.size, 0, none⟩ = some (.int .i64 most) ∧ u.cell? ⟨w.heap.size, 1, none⟩ = some (.slice A4 all.length c4)) ∧ u.cell? ⟨w5.heap.size, 0, none⟩ = some (.slice A5 us.length c5) ∧ u.cell? ⟨w1.heap.size, 0, none⟩ = some (.slice Am vs.length cm)) (first | exact KS.out _ _ | go_keep) (fail)
    go_wp2
    refine bodyPost_ret (by simp [results, Tryd.results34, go_sem, n0, n1, hz6]; try rfl) rfl ?_
    have hg2 : Chg (fun k => k = w.heap.size + 1) w5 (((((w5.setCell ⟨w.heap.size + 1, 0, none⟩ (.int .i64 most)).setCell ⟨w.heap.size + 1, 1, none⟩ (.slice A4 all.length c4)).alloc (.cells #[.slice A5 us.length c5, .int .i64 ((hldS none : Nat) : Int), .bool true] 144))).drew) :=
      ((((Chg.refl (fun k => k = w.heap.size + 1) w5).setCell (p := ⟨w.heap.size + 1, 0, none⟩) (fun _ => rfl) _).setCell (p := ⟨w.heap.size + 1, 1, none⟩) (fun _ => rfl) _).alloc _).drew
    refine ⟨.slice A4 all.length c4, .slice A6 (us.length - vs.length) (c5 - vs.length), us.drop vs.length, ?_, ?_, fun k hk => .inr (by have := hb4.out k hk; omega), ?_, HCw.out.then hg2 fun k hk e => by omega⟩
    · rw [HSO.out, HFD.out.2, HS2.out]
      rfl
    · rw [HE.out, ← HA.out]
      exact HBs.out.chg hg2 fun k hk e => by have := hb4.out k hk; omega
    · rw [HSO.out]
      exact (HRes.out.chg hg2 fun k hk _ e => by omega).lower (by omega)
  · have HS2 := Lib.hid hs2
    simp only [Option.isNone_some]
    clear hs2
    go_wp2
    go_region_held3 (fun u => (u.cell? ⟨w.heap.size, 0, none⟩ = some (.int .i64 most) ∧ u.cell? ⟨w.heap.size, 1, none⟩ = some (.slice A4 all.length c4)) ∧ u.cell? ⟨w5.heap.size, 0, none⟩ = some (.slice A5 us.length c5) ∧ u.cell? ⟨w1.heap.size, 0, none⟩ = some (.slice Am vs.length cm)) (first | exact KS.out _ _ | go_keep) (fail)
    go_wp2
    refine bodyPost_ret (by simp [results, Tryd.results34, go_sem, n0, n1, hz6]; try rfl) rfl ?_
    have hg2 : Chg (fun k => k = w.heap.size + 1) w5 (((((w5.setCell ⟨w.heap.size + 1, 0, none⟩ (.int .i64 most)).setCell ⟨w.heap.size + 1, 1, none⟩ (.slice A4 all.length c4)).alloc (.cells #[.slice A5 us.length c5, .int .i64 ((hldS (some H2) : Nat) : Int), .bool false] 144))).drew) :=
      ((((Chg.refl (fun k => k = w.heap.size + 1) w5).setCell (p := ⟨w.heap.size + 1, 0, none⟩) (fun _ => rfl) _).setCell (p := ⟨w.heap.size + 1, 1, none⟩) (fun _ => rfl) _).alloc _).drew
    refine ⟨.slice A4 all.length c4, .slice A6 (us.length - vs.length) (c5 - vs.length), us.drop vs.length, ?_, ?_, fun k hk => .inr (by have := hb4.out k hk; omega), ?_, HCw.out.then hg2 fun k hk e => by omega⟩
    · rw [HSO.out, HFD.out.2, HS2.out]
      rfl
    · rw [HE.out, ← HA.out]
      exact HBs.out.chg hg2 fun k hk e => by have := hb4.out k hk; omega
    · rw [HSO.out]
      exact (HRes.out.chg hg2 fun k hk _ e => by omega).lower (by omega)

theorem rfeed_any (w : World) (most : Int) (hm0 : 0 ≤ most) (hm1 : most ≤ 1048576) (F xs : List Int) (fv v : Value) (hb : Bs w fv F) (hx : Bs w v xs) (hlen : F.length + xs.length ≤ 1099511627776) :
    Calls Tryd.prog 34 #[.agg #[.int .i64 most, fv], v] w fun e w' => RfEnd w most F xs fv e w' := by
  cases h : stS most F with
  | none => exact rfeed_dead w most hm0 hm1 F xs fv v hb hx hlen h
  | some H => exact rfeed_live w most hm0 hm1 F xs fv v hb hx hlen H h
end Go.Proofs.YthalmjjbamglgaaDoor
