/-
  culvertlaw10.user and carry by contract, case by case.
  No condition of its own: the facts 'Sen' and 'Tab' on the world; what the memory holds (Pp).
-/
import Derived.Test.YthalmjjbamglgaaDoorPr1
import Derived.Deep.DeepCutAuto
import Derived.Deep.CutBlock
import Derived.Deep.RegionHeld3
import Derived.StillTailTactics
namespace Go.Proofs.YthalmjjbamglgaaDoor
open Go.RowKit
set_option linter.unusedVariables false
set_option linter.unusedSimpArgs false
theorem step_append_by {w : World} {ops : Array Oper} {o : Oper} {a : Act} {Q : Exit → Act → World → Prop} {base : Nat} {v : Value} {n : Nat} {K : Act → World → Prop} {E : Prop} (hgd : o.guard = none) (s x : Operand) (ho : o.op = .call { callee := .builtin .append, args := #[s, x], argTypes := #[23, 23] })
    {olds : List Value} (hs : a.eval s = v) (hown : Ob w base 5 v n olds) (A : Option Addr) (m c : Nat) (xs : List Int) (hx : a.eval x = .slice A m c) (hl : xs.length = m) (hr : Rd w A m fun i => .int .u8 (xs.getD i 0))
    (hb : n + m ≤ 140737488355328) (hbase : base ≤ w.heap.size)
    (h : ∀ v' w', Ob w' base 5 v' (n + m) (olds ++ xs.map (Value.int .u8)) → w.grownBy w' (obk v) → (obk v' = obk v ∨ obk v' = some w.heap.size) → K (a.put o.dst v') w') : if Region.wanted o (yielded ops a.tmps) = true then Oper.wp Tryd.prog o a w K Q else E := by
  obtain ⟨i0, hi, hz0, hz1, hz2⟩ := info_parts Tryd.infoU8
  exact step_append_ob hgd s x _ ho i0 _ 1 Tryd.underlying23 hi hz0 hz1 hz2 rfl hs hown A m c (xs.map (Value.int .u8)) hx (by simpa using hl) (rd_ints hl hr) (ints_one _) (by simp only [maxLen]; omega) (by omega) hbase fun v' w' h1 h2 h3 _ => h v' w' h1 h2 h3
section
variable {B : Nat} {A : Nat → Addr}
/-- 'wpAnyH_take' with the slot given. -/
theorem take_at {P : Program} {md : Region.Mode} {ops : Array Oper} {Q : Exit → Act → World → Prop} {S : World → Prop} {i : Nat} (d : Nat) {oi : Oper} {v : Value} {fuel : Nat} {listed : Array Bool} {a : Act} {w : World} (hi : ops[i]? = some oi) (hd : oi.dst = some d)
    (hs : Region.noSelect ops = true) (hf : Region.free md ops listed i = true) (hr : (Region.ready md ops listed).contains i = true)
    (hQ : ∀ c a w, Q (.panic c) (a.put (some d) v) w → Q (.panic c) a w) (hy : YieldsIf P ops S oi v a) (hS : S w)
    (h : wpAnyH P md ops Q S fuel (listed.setIfInBounds i true) (a.put (some d) v) w) : wpAnyH P md ops Q S (fuel + 1) listed a w :=
  wpAnyH_take hi hs hf hr (by rw [hd]; exact hQ) hy hS (by rw [hd]; exact h)
theorem wrC_up {s : Sm} (h : s.Up) : wrC s = if s.cl then 24 else 0 := by
  unfold wrC barC
  rw [h.1, h.2]
  simp
theorem wrN_cl {s : Sm} {ys : List Int} (h : wrC s = 24) : wrN s ys = 0 := by
  unfold wrN
  rw [if_neg (by rw [h]; decide)]
theorem still_subH_bytes {w : World} {ops : Array Oper} {rest : List Oper} {o : Oper} {a : Act} {Q : Act → Prop} (hw : Region.wanted o (yielded ops a.tmps) = true) (x hi : Operand) (ho : o.op = Op.slice 23 x none (some hi) none)
    (A : Option Addr) (n c : Nat) (hx : a.eval x = .slice A n c) (hI : Int) (hhi : a.eval hi = .int .i64 hI) (h : Nat) (eh : hI = (h : Int)) (hh : h ≤ c)
    (hK : wpStill Tryd.prog ops w Q rest (a.put o.dst (.slice A h c))) : wpStill Tryd.prog ops w Q (o :: rest) a := by
  obtain ⟨i0, hi', hz0, hz1, hz2⟩ := info_parts Tryd.infoU8
  have hrun := run_subH (P := Tryd.prog) (w := w) _ _ Tryd.underlying23 i0 hi' hz1 A n c hI h eh hh
  rw [subA_zero] at hrun
  unfold wpStill
  rw [if_pos hw]
  unfold Oper.still
  simp [execOp, ho, hx, hhi, hrun, Result.andThen]
  exact ⟨rfl, hK⟩
theorem rd_take_ {kd : IntKind} {w : World} {A : Option Addr} {n : Nat} {zs : List Int} (h : Rd w A n fun i => .int kd (zs.getD i 0)) {k : Nat} (hk : k ≤ n) : Rd w A k fun i => .int kd ((zs.take k).getD i 0) := fun hn => by
  obtain ⟨ad, e, h⟩ := h (by omega)
  refine ⟨ad, e, fun i hi => ?_⟩
  have e1 : (zs.take k).getD i 0 = zs.getD i 0 := by rw [List.getD_eq_getElem?_getD, List.getD_eq_getElem?_getD, List.getElem?_take, if_pos hi]
  rw [h i (by omega)]
  show some (Value.int kd (zs.getD i 0)) = some (Value.int kd ((zs.take k).getD i 0))
  rw [e1]
theorem wrN_stage {w : World} {T : Nat → Prop} {g : Nat} {s : Sm} (hst : Pst w T g s) (ys : List Int) : wrN s ys ≤ 1048576 := by
  obtain ⟨S1, S2, g1, g2, g3, g4, hp⟩ := hst
  have := hp.ok.g2
  unfold wrN
  split
  · exact Nat.le_trans (Nat.min_le_right _ _) (by omega)
  · exact Nat.zero_le _
theorem wrN_le (s : Sm) (ys : List Int) : wrN s ys ≤ ys.length := by
  unfold wrN
  split
  · exact Nat.min_le_left _ _
  · exact Nat.zero_le _
theorem Run.more {w wi : World} {T T' : Nat → Prop} {g : Nat} {s : Sm} (h : Run B A w wi T g s) (hT : ∀ k, T k → T' k) (hT' : ∀ k, T' k → B ≤ k) : Run B A w wi T' g s := by
  obtain ⟨Ti, h1, h2⟩ := h.ex
  exact ⟨⟨Ti, h1, fun k hk => ⟨(h2 k hk).1.imp (hT k) id, (h2 k hk).2⟩⟩, h.chg.more fun k _ hk => hT k hk, h.sen, h.tab, h.hB, hT'⟩
/-- A grant of zero is not sent. -/
def addG (gs : List Int) (g : Int) : List Int := if g = 0 then gs else gs ++ [g]
theorem addG_zero (gs : List Int) : addG gs 0 = gs := if_pos rfl
theorem addG_some {gs : List Int} {g : Int} (h : ¬ g = 0) : addG gs g = gs ++ [g] := if_neg h
theorem upd_upd {α : Type} (f : Nat → α) (a : Nat) (u v : α) : upd (upd f a u) a v = upd f a v := funext fun i => by unfold upd; split <;> rfl
theorem Tryd.infoU32 : (Tryd.prog.info? 22).map (fun i => (i.zero, i.size, i.bytes)) = some (some (.int .u32 0), 1, 4) := by kernel_rfl
theorem wpList_append_u32 {w : World} {ops : Array Oper} {rest : List Oper} {o : Oper} {a : Act} {Q : Exit → Act → World → Prop} {base : Nat} {v : Value} {n : Nat} {xs : List Value} (hgd : o.guard = none) (s x : Operand) (ho : o.op = .call { callee := .builtin .append, args := #[s, x], argTypes := #[100, 100] })
    (hs : a.eval s = v) (hown : Fq w base 22 1 v n xs) (g c : Nat) (y : Int) (hx : a.eval x = .slice (some ⟨g, 0, none⟩) 1 c) (hr : w.cell? ⟨g, 0, none⟩ = some (.int .u32 y)) (hb : n ≤ 1073741824) (hbase : base ≤ w.heap.size)
    (h : ∀ v' w', Fq w' base 22 1 v' (n + 1) (xs ++ [.int .u32 y]) → w.grownBy w' (obk v) → (obk v' = obk v ∨ obk v' = some w.heap.size) → wpList Tryd.prog ops Q rest (a.put o.dst v') w') : wpList Tryd.prog ops Q (o :: rest) a w := by
  obtain ⟨i0, hi, hz0, hz1, hz2⟩ := info_parts Tryd.infoU32
  refine wpList_append_fq hgd s x _ ho i0 _ 4 Tryd.underlying100 hi hz0 hz1 hz2 rfl hs hown ⟨g, 0, none⟩ c [.int .u32 y] hx rfl (fun j u hj => ?_) (by simp [Value.oneCell']) (by omega) (by simp only [maxLen]; omega) hbase h
  cases j with
  | zero => rw [addr_off]; cases hj; exact hr
  | succ j => simp at hj
theorem rtC_up {s : Sm} (h : s.Up) {n : Int} (hn : 1 ≤ n) : rtC s n = if s.un = [] then (if s.li then 25 else 0) else 0 := by
  unfold rtC srC
  rw [if_neg (by omega), h.1, if_neg (by simp), if_neg (by omega), h.2]
  simp

theorem rtG_nil {s : Sm} {n : Int} (h : s.un = []) : rtG s n = 0 := by
  unfold rtG srG
  rw [if_pos h]
  split <;> rfl
theorem rtN_le (s : Sm) (n : Int) : rtN s n ≤ s.un.length := by
  unfold rtN
  split
  · exact Nat.zero_le _
  · exact Nat.min_le_right _ _
theorem rtN_leN {s : Sm} {n : Int} (h : 1 ≤ n) : (rtN s n : Int) ≤ n := by
  unfold rtN
  split
  · simp; omega
  · have := Nat.min_le_left n.toNat s.un.length
    have h2 : (Nat.min n.toNat s.un.length : Nat) ≤ n.toNat := this
    omega
theorem rtN_nil {s : Sm} {n : Int} (h : s.un = []) : rtN s n = 0 := by
  unfold rtN
  rw [h]
  split
  · rfl
  · exact Nat.min_zero _
set_option maxRecDepth 100000 in
set_option maxHeartbeats 4000000 in
theorem user_write {E0 : World} {X0 : Nat → Prop} (w : World) {L wb : Nat} {q lab : Nat → Nat} {s : Nat → Sm} {W : Nat → Wr} {c : Nat → Nat → Value} (h : Pp E0 X0 w L wb q lab s W c) (hs : Sen B A w) (ht : Tab B w) (hBL : B ≤ L) (hLw : L ≤ w.heap.size) {e : Nat} (he : e < 2) (o1 o2 : Nat) (ho1 : o1 = 6 * e) (ho2 : o2 = 6 * (1 - e)) (kd nn : Int) (A2 : Option Addr) (len cap : Nat) (hkd : kd / 2 = 0) (zs : List Int) (hz : zs.length = len) (hzb : Byt zs) (hzr : ∀ u, Below B w u → Rd u A2 len fun i => .int .u8 (zs.getD i 0)) (hzm : len ≤ 140737488355328) (hzc : len ≤ cap) (hcl : (W e).closed = (s e).cl) (hup : (s e).Up) (hwl : (W e).wrote.length + 1048576 ≤ 140737488355328) :
    Calls Tryd.prog 43 #[.pointer (some ⟨q e, 0, none⟩), .pointer (some ⟨wb, o1, none⟩), .pointer (some ⟨wb, o2, none⟩), .agg #[.int .i64 kd, .int .i64 nn, .slice A2 len cap]] w fun e' w' => e' = .returned (.bool true) ∧ (∃ lab' c', Pp E0 X0 w' L wb q lab' (upd s e (wrS (s e) zs)) (upd W e { W e with wrote := (W e).wrote ++ zs.take (wrN (s e) zs) }) c') ∧ Chg (fun k => L ≤ k) w w' := by
  have H := Lib.hid h
  have HS := Lib.hid (And.intro hs (And.intro ht (And.intro hBL hLw)))
  have HE := Lib.hid (And.intro he (And.intro ho1 ho2))
  have HZ := Lib.hid (And.intro hz (And.intro hzb (And.intro hzm hzc)))
  have HZr := Lib.hid hzr
  clear hz hzb hzr hzm hzc
  clear h hs ht hBL hLw he ho1 ho2
  obtain ⟨w1, hw1⟩ : ∃ y, w.alloc (.cells #[.int .i64 kd, .int .i64 nn, .slice A2 len cap] 105) = y := ⟨_, rfl⟩
  obtain ⟨mb, hmb⟩ : ∃ y, w.heap.size = y := ⟨_, rfl⟩
  have HIm : Hid (Is w1 mb 105 #[.int .i64 kd, .int .i64 nn, .slice A2 len cap]) := by
    show Is _ _ _ _
    rw [← hw1, ← hmb]
    exact Is.new w _ _
  have HC1 : Hid (Chg none_ w w1) := by
    show Chg _ _ _
    rw [← hw1]
    exact (Chg.refl none_ w).alloc _
  have HMb : Hid (mb = w.heap.size) := hmb.symm
  have H1 := Lib.hid (H.out.keep HC1.out)
  have HBw : Hid (B ≤ w.heap.size) := Nat.le_trans HS.out.2.2.1 HS.out.2.2.2
  have HS1 : Hid (Sen B A w1 ∧ Tab B w1) := ⟨HS.out.1.below (HC1.out.old HBw.out), HS.out.2.1.below (HC1.out.old HBw.out)⟩
  have m0 : w1.cell? ⟨mb, 0, none⟩ = some (.int .i64 kd) := HIm.out.at_ 0 _ rfl
  have m1 : w1.cell? ⟨mb, 1, none⟩ = some (.int .i64 nn) := HIm.out.at_ 1 _ rfl
  have m2 : w1.cell? ⟨mb, 2, none⟩ = some (.slice A2 len cap) := HIm.out.at_ 2 _ rfl
  go_enter Tryd.func43, Tryd.ntmps43
  obtain ⟨wn, hwn⟩ : ∃ y, wrN (s e) zs = y := ⟨_, rfl⟩
  have hle : wn ≤ len := by rw [← hwn, ← HZ.out.1]; exact wrN_le _ _
  have hle2 : wn ≤ cap := Nat.le_trans hle HZ.out.2.2.2
  have HWn := Lib.hid hwn
  have HLe := Lib.hid (And.intro hle hle2)
  have HLm : Hid (wn ≤ 1048576) := by
    show wn ≤ _
    rw [← hwn]
    exact wrN_stage (H.out.st e HE.out.1) zs
  have n1 : ¬ (wn : Int) < 0 := by omega
  have n2 : ¬ (len : Int) < (wn : Int) := by omega
  have n3 : (0 : Int) ≤ (wn : Int) := by omega
  have n4 : (wn : Int) ≤ (cap : Int) := by omega
  have HX := Lib.hid (And.intro hcl (And.intro hup hwl))
  clear hwn hcl hup hwl hle
  go_wp2_with fail
  have HD1 : Hid (Rd w1 A2 len fun i => .int .u8 (zs.getD i 0)) := HZr.out w1 (HC1.out.old HBw.out)
  refine (copied_any w1 A2 len cap zs HZ.out.1 HD1.out HZ.out.2.2.1).mono ?_
  rintro e' w2 ⟨v, rfl, hv, cc⟩
  have HV := Lib.hid hv
  have HC2 := Lib.hid cc
  clear hv cc
  have H2 := Lib.hid (H1.out.keep HC2.out)
  have HIm2 := Lib.hid (HIm.out.chg HC2.out fun f => f)
  have HC02 : Hid (Chg none_ w w2) := HC1.out.trans HC2.out
  have hp2 : Pst w2 (fun k => L ≤ k ∧ k < w.heap.size ∧ lab k = e) (q e) (s e) := (H.out.st e HE.out.1).keep HC02.out
  have HP2 := Lib.hid hp2
  have R1 : Hid (Run B A w2 w2 (fun k => L ≤ k ∧ k < w.heap.size ∧ lab k = e) (q e) (s e)) := Run.init (HS.out.1.below (HC02.out.old HBw.out)) (HS.out.2.1.below (HC02.out.old HBw.out)) (Nat.le_trans HBw.out HC02.out.size) hp2 (fun k hk => Nat.le_trans HS.out.2.2.1 hk.1)
  clear hp2
  go_wp2_with fail
  refine (run_write R1.out v zs (BsO.of_ob HV.out HZ.out.2.1) (z := w1.heap.size) HC2.out.size ⟨_, HP2.out, fun k hk => ⟨.inl hk, Nat.lt_of_lt_of_le hk.2.1 HC1.out.size⟩⟩ (fun k hk => HV.out.block k (HV.out.rdk k hk)) (by rw [HZ.out.1]; exact HZ.out.2.2.1)).mono ?_
  rintro e' w3 ⟨rfl, r3⟩
  rw [HWn.out]
  have HC3 := Lib.hid r3.chg
  have R3 : Hid (Run B A w2 w3 (fun k => L ≤ k ∧ k < w2.heap.size ∧ lab k = e) (q e) (wrS (s e) zs)) := r3.more (fun k hk => ⟨hk.1, Nat.lt_of_lt_of_le hk.2.1 HC02.out.size, hk.2.2⟩) (fun k hk => Nat.le_trans HS.out.2.2.1 hk.1)
  clear r3 m0 m1 m2
  have H3 := Lib.hid (H2.out.ran HE.out.1 (Nat.le_trans HS.out.2.2.2 HC02.out.size) R3.out)
  have HIm3 := Lib.hid (HIm2.out.chg HC3.out fun hk => by have := HMb.out; omega)
  have m2 : w3.cell? ⟨mb, 2, none⟩ = some (.slice A2 len cap) := HIm3.out.at_ 2 _ rfl
  have HQ3 := Lib.hid (H3.out.wq e HE.out.1)
  have c4 : w3.cell? ⟨wb, o1 + 4, none⟩ = some (.bool (s e).cl) := by
    rw [HE.out.2.1, ← HX.out.1, ← HQ3.out.cl]
    exact H3.out.im.at_ _ _ (wcells_at (j := 4) c HE.out.1 (by decide))
  have c0 : w3.cell? ⟨wb, o1, none⟩ = some (c e 0) := by
    rw [HE.out.2.1]
    exact H3.out.im.at_ _ _ (wcells_at (j := 0) c HE.out.1 (by decide))
  obtain ⟨A0, k0, hv0, _, _⟩ := HQ3.out.wr.slice
  rw [hv0] at c0
  have HV0 := Lib.hid hv0
  have HW3 : Hid (Ob w3 L 5 (.slice A0 (W e).wrote.length k0) (W e).wrote.length (u8s (W e).wrote)) := by
    show Ob _ _ _ _ _ _
    rw [← hv0]
    exact HQ3.out.wr
  obtain ⟨wl, hwl⟩ : ∃ y, (W e).wrote.length = y := ⟨_, rfl⟩
  rw [hwl] at c0 HW3 HV0
  have HWl := Lib.hid hwl
  clear hwl
  have HNk : Hid (∀ k, obk (.slice A0 wl k0) = some k → k < w.heap.size) := fun k hk => ((H.out.wq e HE.out.1).wr.block k (by rw [HV0.out]; exact hk)).2
  have HNm : Hid (wb ≠ mb) := by
    show wb ≠ mb
    have := H.out.im.lt
    have := HMb.out
    omega
  clear hv0
  have HC03 : Hid (Chg (fun k => L ≤ k) w w3) := (HC02.out.more fun _ _ f => f.elim).trans (HC3.out.more fun k _ hk => hk.1)
  have HD3 : Hid (Rd w3.drew A2 wn fun i => .int .u8 ((zs.take wn).getD i 0)) := rd_take_ (HZr.out w3.drew ((HC03.out.below (fun k _ hk => Nat.le_trans HS.out.2.2.1 hk) HBw.out).drew)) HLe.out.1
  have hcc := wrC_up HX.out.2.1
  cases hcl : (s e).cl
  · rw [hcl] at c4 hcc
    have hcc : wrC (s e) = 0 := hcc
    rw [hcc]
    have HCl := Lib.hid hcl
    clear hcc hcl
    rw [show errv A 0 = .nilIface from rfl]
    go_wp2_with fail
    have d1 : decide ((wn : Int) < 0) = false := decide_eq_false (by omega)
    have d2 : decide ((len : Int) < (wn : Int)) = false := decide_eq_false (by omega)
    have d3 : decide (len < wn) = false := decide_eq_false (by omega)
    refine wp_region_still_lit (by kernel_rfl) (by kernel_rfl) ?_
    repeat still_step
    refine wpStill_nil ?_
    change Exit.then _ _ _ _ w3.drew
    clear d1 d2 d3
    obtain ⟨wd, hwd⟩ : ∃ y, w3.drew = y := ⟨_, rfl⟩
    have HCd : Hid (Chg none_ w3 wd) := by
      show Chg _ _ _
      rw [← hwd]
      exact (Chg.refl none_ w3).drew
    have HDd : Hid (Rd wd.drew A2 wn fun i => .int .u8 ((zs.take wn).getD i 0)) := by
      show Rd _ _ _ _
      rw [← hwd]
      exact HD3.out
    rw [hwd]
    have m2 : wd.cell? ⟨mb, 2, none⟩ = some (.slice A2 len cap) := (HIm3.out.chg HCd.out fun f => f).at_ 2 _ rfl
    have c0 : wd.cell? ⟨wb, o1, none⟩ = some (.slice A0 wl k0) := by
      rw [HE.out.2.1, ← HV0.out]
      exact (H3.out.im.chg HCd.out fun f => f).at_ _ _ (wcells_at (j := 0) c HE.out.1 (by decide))
    have HWd : Hid (Ob wd L 5 (.slice A0 wl k0) wl (u8s (W e).wrote)) := HW3.out.chg HCd.out fun _ _ f => f
    have HId : Hid (Is wd wb 103 (wcells c)) := H3.out.im.chg HCd.out fun f => f
    clear hwd c4
    go_wp2_with fail
    have hz3 : L ≤ wd.heap.size := Nat.le_trans HS.out.2.2.2 (Nat.le_trans HC03.out.size HCd.out.size)
    refine wp_region_held_drew (S := fun u => u.cell? ⟨mb, 2, none⟩ = some (.slice A2 len cap)) (by kernel_rfl) m2 (fun hS0 => ?_)
    refine take_at 54 (i := 0) (v := .pointer (some ⟨wb, o1, none⟩)) rfl (by kernel_rfl) (by kernel_rfl) (by kernel_rfl) (by kernel_rfl) (fun _ _ _ h => h) (Or.inl ⟨by kernel_rfl, by intro u hSw; (try dsimp only at hSw); go_simp⟩) (by assumption) ?_
    try simp only [Act.put, List.setIfInBounds_toArray, List.set_cons_zero, List.set_cons_succ]
    refine take_at 55 (i := 1) (v := .pointer (some ⟨wb, o1, none⟩)) rfl (by kernel_rfl) (by kernel_rfl) (by kernel_rfl) (by kernel_rfl) (fun _ _ _ h => h) (Or.inl ⟨by kernel_rfl, by intro u hSw; (try dsimp only at hSw); go_simp⟩) (by assumption) ?_
    try simp only [Act.put, List.setIfInBounds_toArray, List.set_cons_zero, List.set_cons_succ]
    refine take_at 56 (i := 2) (v := .pointer (some ⟨wb, o1, none⟩)) rfl (by kernel_rfl) (by kernel_rfl) (by kernel_rfl) (by kernel_rfl) (fun _ _ _ h => h) (Or.inl ⟨by kernel_rfl, by intro u hSw; (try dsimp only at hSw); go_simp⟩) (by assumption) ?_
    try simp only [Act.put, List.setIfInBounds_toArray, List.set_cons_zero, List.set_cons_succ]
    refine take_at 57 (i := 3) (v := .pointer (some ⟨wb, o1, none⟩)) rfl (by kernel_rfl) (by kernel_rfl) (by kernel_rfl) (by kernel_rfl) (fun _ _ _ h => h) (Or.inl ⟨by kernel_rfl, by intro u hSw; (try dsimp only at hSw); go_simp⟩) (by assumption) ?_
    try simp only [Act.put, List.setIfInBounds_toArray, List.set_cons_zero, List.set_cons_succ]
    refine take_at 59 (i := 5) (v := .pointer (some ⟨mb, 2, none⟩)) rfl (by kernel_rfl) (by kernel_rfl) (by kernel_rfl) (by kernel_rfl) (fun _ _ _ h => h) (Or.inl ⟨by kernel_rfl, by intro u hSw; (try dsimp only at hSw); go_simp⟩) (by assumption) ?_
    try simp only [Act.put, List.setIfInBounds_toArray, List.set_cons_zero, List.set_cons_succ]
    refine take_at 60 (i := 6) (v := .slice A2 len cap) rfl (by kernel_rfl) (by kernel_rfl) (by kernel_rfl) (by kernel_rfl) (fun _ _ _ h => h) (Or.inl ⟨by kernel_rfl, by intro u hSw; (try dsimp only at hSw); go_simp⟩) (by assumption) ?_
    try simp only [Act.put, List.setIfInBounds_toArray, List.set_cons_zero, List.set_cons_succ]
    refine take_at 61 (i := 7) (v := .int .i64 wn) rfl (by kernel_rfl) (by kernel_rfl) (by kernel_rfl) (by kernel_rfl) (fun _ _ _ h => h) (Or.inl ⟨by kernel_rfl, by intro u hSw; (try dsimp only at hSw); go_simp⟩) (by assumption) ?_
    try simp only [Act.put, List.setIfInBounds_toArray, List.set_cons_zero, List.set_cons_succ]
    refine take_at 62 (i := 8) (v := .slice A2 wn cap) rfl (by kernel_rfl) (by kernel_rfl) (by kernel_rfl) (by kernel_rfl) (fun _ _ _ h => h) (Or.inl ⟨by kernel_rfl, by intro u hSw; (try dsimp only at hSw); go_simp⟩) (by assumption) ?_
    try simp only [Act.put, List.setIfInBounds_toArray, List.set_cons_zero, List.set_cons_succ]
    refine wpAnyH_ready (rs := [4]) (by kernel_rfl) (by simp) ?_
    refine AllReadyH.cons rfl (fun K hK => ?_) AllReadyH.nil
    go_simp
    refine hK.out _ _ (by assumption) (fun _ => ?_)
    clear hK K
    try simp only [Act.put, List.setIfInBounds_toArray, List.set_cons_zero, List.set_cons_succ]
    refine wpAnyH_ready (rs := [9]) (by kernel_rfl) (by simp) ?_
    refine AllReadyH.cons rfl (fun K hK => ?_) AllReadyH.nil
    refine step_append_by rfl (.tmp 58) (.tmp 62) rfl rfl HWd.out A2 wn cap (zs.take wn) rfl (by rw [List.length_take, HZ.out.1]; have := HLe.out.1; omega) HDd.out (by have := HX.out.2.2; have := HLm.out; have := HWl.out; omega) hz3 ?_
    intro v4 w4 k1 k2 k3
    obtain ⟨A4, k4, rfl, _, _⟩ := k1.slice
    have hfin : Chg (fun k => k < w3.heap.size ∧ L ≤ k ∧ relab lab w2.heap.size e k = 3 + e) w3 w4 := ((HCd.out.more fun _ _ f => f.elim).drew).grown k2 fun k hk _ => ⟨(HW3.out.block k hk).2, (HW3.out.block k hk).1, HQ3.out.wrL k (by rw [HV0.out]; exact hk)⟩
    have HF := Lib.hid hfin
    have HK2 := Lib.hid k2
    have K1 := Lib.hid k1
    have K3 := Lib.hid k3
    clear k1 k2 k3 hfin hz3
    have HI4 : Hid (Is w4 wb 103 (wcells c)) := H3.out.im.chg HF.out fun hk => by have := H3.out.hb.2; have := hk.2.2; have := HE.out.1; omega
    have e0 : w4.cell? ⟨wb, o1, none⟩ = some (.slice A0 wl k0) := by
      rw [HE.out.2.1, ← HV0.out]
      exact HI4.out.at_ _ _ (wcells_at (j := 0) c HE.out.1 (by decide))
    have e1 : w4.frozen? ⟨wb, o1, none⟩ = false := HI4.out.frozen _
    have m4 : w4.cell? ⟨mb, 2, none⟩ = some (.slice A2 len cap) := (HIm3.out.chg ((HCd.out.more fun _ _ f => f.elim).drew.grown HK2.out fun k hk _ => hk) fun hk => by have := HNk.out _ hk; have := HMb.out; omega).at_ 2 _ rfl
    refine hK.out _ _ m4 (fun _ => ?_)
    clear hK K
    try simp only [Act.put, List.setIfInBounds_toArray, List.set_cons_zero, List.set_cons_succ]
    refine take_at 64 (i := 10) (v := .pointer (some ⟨wb, o1, none⟩)) rfl (by kernel_rfl) (by kernel_rfl) (by kernel_rfl) (by kernel_rfl) (fun _ _ _ h => h) (Or.inl ⟨by kernel_rfl, by intro u hSw; (try dsimp only at hSw); go_simp⟩) (by assumption) ?_
    try simp only [Act.put, List.setIfInBounds_toArray, List.set_cons_zero, List.set_cons_succ]
    refine take_at 65 (i := 11) (v := .pointer (some ⟨wb, o1, none⟩)) rfl (by kernel_rfl) (by kernel_rfl) (by kernel_rfl) (by kernel_rfl) (fun _ _ _ h => h) (Or.inl ⟨by kernel_rfl, by intro u hSw; (try dsimp only at hSw); go_simp⟩) (by assumption) ?_
    try simp only [Act.put, List.setIfInBounds_toArray, List.set_cons_zero, List.set_cons_succ]
    refine wpAnyH_ready (rs := [12]) (by kernel_rfl) (by simp) ?_
    refine AllReadyH.cons rfl (fun K hK => ?_) AllReadyH.nil
    go_simp
    refine hK.out _ _ (by rw [World.cell?_setCell_far _ _ _ _ (by show wb ≠ mb; exact HNm.out)]; exact m4) (fun _ => ?_)
    clear hK K
    try simp only [Act.put, List.setIfInBounds_toArray, List.set_cons_zero, List.set_cons_succ]
    refine wpAnyH_done (by kernel_rfl) ?_ _
    go_wp2
    go_ret
    have HW4 := HQ3.out.wrote' (lab' := relab (relab lab w2.heap.size e) w3.heap.size (3 + e)) (v := .slice A4 (wl + wn) k4) (ys := (W e).wrote ++ zs.take wn) HF.out (fun k _ hk => hk.2.2) (fun k hk => relab_old hk) HE.out.1 (by
      have e2 : ((W e).wrote ++ zs.take wn).length = wl + wn := by rw [List.length_append, List.length_take, HWl.out, HZ.out.1]; have := HLe.out.1; omega
      rw [e2]
      simpa [u8s] using K1.out) (fun k hk => by
      rcases K3.out with k3 | k3
      · rw [hk] at k3
        have hb := HW3.out.block k k3.symm
        rw [relab_old hb.2]
        exact HQ3.out.wrL k (by rw [HV0.out]; exact k3.symm)
      · rw [hk] at k3
        exact relab_new (by have := HCd.out.size; have h5 : k = wd.drew.heap.size := Option.some.inj k3; rw [h5]; exact this))
    have HP5 := H3.out.stored (j := 0) HE.out.1 (by decide) (by have := HE.out.1; omega) (by have := HE.out.1; omega) HF.out _ HW4
    have hw5 : Chg (fun k => L ≤ k) w4 (w4.setCell ⟨wb, 6 * e + 0, none⟩ (.slice A4 (wl + wn) k4)) := (Chg.refl (fun k => L ≤ k) w4).setCell (p := ⟨wb, 6 * e + 0, none⟩) (fun _ => H3.out.hb.1) _
    rw [show 6 * e + 0 = o1 by have := HE.out.2.1; omega] at HP5 hw5
    rw [HWn.out]
    exact ⟨rfl, ⟨_, _, HP5⟩, (HC03.out.trans (HF.out.more fun k _ hk => hk.2.1)).trans hw5⟩
  · rw [hcl] at c4 hcc
    have hcc : wrC (s e) = 24 := hcc
    rw [hcc]
    have h0 : wn = 0 := by rw [← HWn.out]; exact wrN_cl hcc
    subst h0
    have HCl := Lib.hid hcl
    clear hcc hcl
    rw [show errv A 24 = .iface 200 (.pointer (some (A 24))) from rfl]
    go_wp2_with fail
    have d1 : decide ((0 : Int) < 0) = false := decide_eq_false (by omega)
    have d2 : decide ((len : Int) < (0 : Int)) = false := decide_eq_false (by omega)
    have d3 : decide (len < 0) = false := decide_eq_false (by omega)
    refine wp_region_still_lit (by kernel_rfl) (by kernel_rfl) ?_
    repeat still_step
    refine wpStill_nil ?_
    change Exit.then _ _ _ _ w3.drew
    clear d1 d2 d3
    obtain ⟨wd, hwd⟩ : ∃ y, w3.drew = y := ⟨_, rfl⟩
    have HCd : Hid (Chg none_ w3 wd) := by
      show Chg _ _ _
      rw [← hwd]
      exact (Chg.refl none_ w3).drew
    have HDd : Hid (Rd wd.drew A2 0 fun i => .int .u8 ((zs.take 0).getD i 0)) := by
      show Rd _ _ _ _
      rw [← hwd]
      exact HD3.out
    rw [hwd]
    have m2 : wd.cell? ⟨mb, 2, none⟩ = some (.slice A2 len cap) := (HIm3.out.chg HCd.out fun f => f).at_ 2 _ rfl
    have c0 : wd.cell? ⟨wb, o1, none⟩ = some (.slice A0 wl k0) := by
      rw [HE.out.2.1, ← HV0.out]
      exact (H3.out.im.chg HCd.out fun f => f).at_ _ _ (wcells_at (j := 0) c HE.out.1 (by decide))
    have HWd : Hid (Ob wd L 5 (.slice A0 wl k0) wl (u8s (W e).wrote)) := HW3.out.chg HCd.out fun _ _ f => f
    have HId : Hid (Is wd wb 103 (wcells c)) := H3.out.im.chg HCd.out fun f => f
    clear hwd c4
    go_wp2_with fail
    have hz3 : L ≤ wd.heap.size := Nat.le_trans HS.out.2.2.2 (Nat.le_trans HC03.out.size HCd.out.size)
    refine wp_region_held_drew (S := fun u => u.cell? ⟨mb, 2, none⟩ = some (.slice A2 len cap)) (by kernel_rfl) m2 (fun hS0 => ?_)
    refine take_at 54 (i := 0) (v := .pointer (some ⟨wb, o1, none⟩)) rfl (by kernel_rfl) (by kernel_rfl) (by kernel_rfl) (by kernel_rfl) (fun _ _ _ h => h) (Or.inl ⟨by kernel_rfl, by intro u hSw; (try dsimp only at hSw); go_simp⟩) (by assumption) ?_
    try simp only [Act.put, List.setIfInBounds_toArray, List.set_cons_zero, List.set_cons_succ]
    refine take_at 55 (i := 1) (v := .pointer (some ⟨wb, o1, none⟩)) rfl (by kernel_rfl) (by kernel_rfl) (by kernel_rfl) (by kernel_rfl) (fun _ _ _ h => h) (Or.inl ⟨by kernel_rfl, by intro u hSw; (try dsimp only at hSw); go_simp⟩) (by assumption) ?_
    try simp only [Act.put, List.setIfInBounds_toArray, List.set_cons_zero, List.set_cons_succ]
    refine take_at 56 (i := 2) (v := .pointer (some ⟨wb, o1, none⟩)) rfl (by kernel_rfl) (by kernel_rfl) (by kernel_rfl) (by kernel_rfl) (fun _ _ _ h => h) (Or.inl ⟨by kernel_rfl, by intro u hSw; (try dsimp only at hSw); go_simp⟩) (by assumption) ?_
    try simp only [Act.put, List.setIfInBounds_toArray, List.set_cons_zero, List.set_cons_succ]
    refine take_at 57 (i := 3) (v := .pointer (some ⟨wb, o1, none⟩)) rfl (by kernel_rfl) (by kernel_rfl) (by kernel_rfl) (by kernel_rfl) (fun _ _ _ h => h) (Or.inl ⟨by kernel_rfl, by intro u hSw; (try dsimp only at hSw); go_simp⟩) (by assumption) ?_
    try simp only [Act.put, List.setIfInBounds_toArray, List.set_cons_zero, List.set_cons_succ]
    refine take_at 59 (i := 5) (v := .pointer (some ⟨mb, 2, none⟩)) rfl (by kernel_rfl) (by kernel_rfl) (by kernel_rfl) (by kernel_rfl) (fun _ _ _ h => h) (Or.inl ⟨by kernel_rfl, by intro u hSw; (try dsimp only at hSw); go_simp⟩) (by assumption) ?_
    try simp only [Act.put, List.setIfInBounds_toArray, List.set_cons_zero, List.set_cons_succ]
    refine take_at 60 (i := 6) (v := .slice A2 len cap) rfl (by kernel_rfl) (by kernel_rfl) (by kernel_rfl) (by kernel_rfl) (fun _ _ _ h => h) (Or.inl ⟨by kernel_rfl, by intro u hSw; (try dsimp only at hSw); go_simp⟩) (by assumption) ?_
    try simp only [Act.put, List.setIfInBounds_toArray, List.set_cons_zero, List.set_cons_succ]
    refine take_at 61 (i := 7) (v := .int .i64 0) rfl (by kernel_rfl) (by kernel_rfl) (by kernel_rfl) (by kernel_rfl) (fun _ _ _ h => h) (Or.inl ⟨by kernel_rfl, by intro u hSw; (try dsimp only at hSw); go_simp⟩) (by assumption) ?_
    try simp only [Act.put, List.setIfInBounds_toArray, List.set_cons_zero, List.set_cons_succ]
    refine take_at 62 (i := 8) (v := .slice A2 0 cap) rfl (by kernel_rfl) (by kernel_rfl) (by kernel_rfl) (by kernel_rfl) (fun _ _ _ h => h) (Or.inl ⟨by kernel_rfl, by intro u hSw; (try dsimp only at hSw); go_simp⟩) (by assumption) ?_
    try simp only [Act.put, List.setIfInBounds_toArray, List.set_cons_zero, List.set_cons_succ]
    refine wpAnyH_ready (rs := [4]) (by kernel_rfl) (by simp) ?_
    refine AllReadyH.cons rfl (fun K hK => ?_) AllReadyH.nil
    go_simp
    refine hK.out _ _ (by assumption) (fun _ => ?_)
    clear hK K
    try simp only [Act.put, List.setIfInBounds_toArray, List.set_cons_zero, List.set_cons_succ]
    refine wpAnyH_ready (rs := [9]) (by kernel_rfl) (by simp) ?_
    refine AllReadyH.cons rfl (fun K hK => ?_) AllReadyH.nil
    refine step_append_by rfl (.tmp 58) (.tmp 62) rfl rfl HWd.out A2 0 cap (zs.take 0) rfl (by rw [List.length_take, HZ.out.1]; have := HLe.out.1; omega) HDd.out (by have := HX.out.2.2; have := HLm.out; have := HWl.out; omega) hz3 ?_
    intro v4 w4 k1 k2 k3
    obtain ⟨A4, k4, rfl, _, _⟩ := k1.slice
    have hfin : Chg (fun k => k < w3.heap.size ∧ L ≤ k ∧ relab lab w2.heap.size e k = 3 + e) w3 w4 := ((HCd.out.more fun _ _ f => f.elim).drew).grown k2 fun k hk _ => ⟨(HW3.out.block k hk).2, (HW3.out.block k hk).1, HQ3.out.wrL k (by rw [HV0.out]; exact hk)⟩
    have HF := Lib.hid hfin
    have HK2 := Lib.hid k2
    have K1 := Lib.hid k1
    have K3 := Lib.hid k3
    clear k1 k2 k3 hfin hz3
    have HI4 : Hid (Is w4 wb 103 (wcells c)) := H3.out.im.chg HF.out fun hk => by have := H3.out.hb.2; have := hk.2.2; have := HE.out.1; omega
    have e0 : w4.cell? ⟨wb, o1, none⟩ = some (.slice A0 wl k0) := by
      rw [HE.out.2.1, ← HV0.out]
      exact HI4.out.at_ _ _ (wcells_at (j := 0) c HE.out.1 (by decide))
    have e1 : w4.frozen? ⟨wb, o1, none⟩ = false := HI4.out.frozen _
    have m4 : w4.cell? ⟨mb, 2, none⟩ = some (.slice A2 len cap) := (HIm3.out.chg ((HCd.out.more fun _ _ f => f.elim).drew.grown HK2.out fun k hk _ => hk) fun hk => by have := HNk.out _ hk; have := HMb.out; omega).at_ 2 _ rfl
    refine hK.out _ _ m4 (fun _ => ?_)
    clear hK K
    try simp only [Act.put, List.setIfInBounds_toArray, List.set_cons_zero, List.set_cons_succ]
    refine take_at 64 (i := 10) (v := .pointer (some ⟨wb, o1, none⟩)) rfl (by kernel_rfl) (by kernel_rfl) (by kernel_rfl) (by kernel_rfl) (fun _ _ _ h => h) (Or.inl ⟨by kernel_rfl, by intro u hSw; (try dsimp only at hSw); go_simp⟩) (by assumption) ?_
    try simp only [Act.put, List.setIfInBounds_toArray, List.set_cons_zero, List.set_cons_succ]
    refine take_at 65 (i := 11) (v := .pointer (some ⟨wb, o1, none⟩)) rfl (by kernel_rfl) (by kernel_rfl) (by kernel_rfl) (by kernel_rfl) (fun _ _ _ h => h) (Or.inl ⟨by kernel_rfl, by intro u hSw; (try dsimp only at hSw); go_simp⟩) (by assumption) ?_
    try simp only [Act.put, List.setIfInBounds_toArray, List.set_cons_zero, List.set_cons_succ]
    refine wpAnyH_ready (rs := [12]) (by kernel_rfl) (by simp) ?_
    refine AllReadyH.cons rfl (fun K hK => ?_) AllReadyH.nil
    go_simp
    refine hK.out _ _ (by rw [World.cell?_setCell_far _ _ _ _ (by show wb ≠ mb; exact HNm.out)]; exact m4) (fun _ => ?_)
    clear hK K
    try simp only [Act.put, List.setIfInBounds_toArray, List.set_cons_zero, List.set_cons_succ]
    refine wpAnyH_done (by kernel_rfl) ?_ _
    go_wp2
    go_ret
    have HW4 := HQ3.out.wrote' (lab' := relab (relab lab w2.heap.size e) w3.heap.size (3 + e)) (v := .slice A4 (wl + 0) k4) (ys := (W e).wrote ++ zs.take 0) HF.out (fun k _ hk => hk.2.2) (fun k hk => relab_old hk) HE.out.1 (by
      have e2 : ((W e).wrote ++ zs.take 0).length = wl + 0 := by rw [List.length_append, List.length_take, HWl.out, HZ.out.1]; have := HLe.out.1; omega
      rw [e2]
      simpa [u8s] using K1.out) (fun k hk => by
      rcases K3.out with k3 | k3
      · rw [hk] at k3
        have hb := HW3.out.block k k3.symm
        rw [relab_old hb.2]
        exact HQ3.out.wrL k (by rw [HV0.out]; exact k3.symm)
      · rw [hk] at k3
        exact relab_new (by have := HCd.out.size; have h5 : k = wd.drew.heap.size := Option.some.inj k3; rw [h5]; exact this))
    have HP5 := H3.out.stored (j := 0) HE.out.1 (by decide) (by have := HE.out.1; omega) (by have := HE.out.1; omega) HF.out _ HW4
    have hw5 : Chg (fun k => L ≤ k) w4 (w4.setCell ⟨wb, 6 * e + 0, none⟩ (.slice A4 (wl + 0) k4)) := (Chg.refl (fun k => L ≤ k) w4).setCell (p := ⟨wb, 6 * e + 0, none⟩) (fun _ => H3.out.hb.1) _
    rw [show 6 * e + 0 = o1 by have := HE.out.2.1; omega] at HP5 hw5
    rw [HWn.out]
    exact ⟨rfl, ⟨_, _, HP5⟩, (HC03.out.trans (HF.out.more fun k _ hk => hk.2.1)).trans hw5⟩
set_option maxRecDepth 100000 in
set_option maxHeartbeats 4000000 in
theorem user_none {E0 : World} {X0 : Nat → Prop} (w : World) {L wb : Nat} {q lab : Nat → Nat} {s : Nat → Sm} {W : Nat → Wr} {c : Nat → Nat → Value} (h : Pp E0 X0 w L wb q lab s W c) (hs : Sen B A w) (ht : Tab B w) (hBL : B ≤ L) (hLw : L ≤ w.heap.size) {e : Nat} (he : e < 2) (o1 o2 : Nat) (ho1 : o1 = 6 * e) (ho2 : o2 = 6 * (1 - e)) (kd nn : Int) (A2 : Option Addr) (len cap : Nat) (hkd : kd / 2 = 1) (hn : nn < 1) :
    Calls Tryd.prog 43 #[.pointer (some ⟨q e, 0, none⟩), .pointer (some ⟨wb, o1, none⟩), .pointer (some ⟨wb, o2, none⟩), .agg #[.int .i64 kd, .int .i64 nn, .slice A2 len cap]] w fun e' w' => e' = .returned (.bool true) ∧ Pp E0 X0 w' L wb q lab s W c ∧ Chg (fun k => L ≤ k) w w' := by
  have H := Lib.hid h
  have HS := Lib.hid (And.intro hs (And.intro ht (And.intro hBL hLw)))
  have HE := Lib.hid (And.intro he (And.intro ho1 ho2))
  clear h hs ht hBL hLw he ho1 ho2
  obtain ⟨w1, hw1⟩ : ∃ y, w.alloc (.cells #[.int .i64 kd, .int .i64 nn, .slice A2 len cap] 105) = y := ⟨_, rfl⟩
  obtain ⟨mb, hmb⟩ : ∃ y, w.heap.size = y := ⟨_, rfl⟩
  have HIm : Hid (Is w1 mb 105 #[.int .i64 kd, .int .i64 nn, .slice A2 len cap]) := by
    show Is _ _ _ _
    rw [← hw1, ← hmb]
    exact Is.new w _ _
  have HC1 : Hid (Chg none_ w w1) := by
    show Chg _ _ _
    rw [← hw1]
    exact (Chg.refl none_ w).alloc _
  have HMb : Hid (mb = w.heap.size) := hmb.symm
  have H1 := Lib.hid (H.out.keep HC1.out)
  have HBw : Hid (B ≤ w.heap.size) := Nat.le_trans HS.out.2.2.1 HS.out.2.2.2
  have HS1 : Hid (Sen B A w1 ∧ Tab B w1) := ⟨HS.out.1.below (HC1.out.old HBw.out), HS.out.2.1.below (HC1.out.old HBw.out)⟩
  have m0 : w1.cell? ⟨mb, 0, none⟩ = some (.int .i64 kd) := HIm.out.at_ 0 _ rfl
  have m1 : w1.cell? ⟨mb, 1, none⟩ = some (.int .i64 nn) := HIm.out.at_ 1 _ rfl
  have m2 : w1.cell? ⟨mb, 2, none⟩ = some (.slice A2 len cap) := HIm.out.at_ 2 _ rfl
  go_enter Tryd.func43, Tryd.ntmps43
  clear m2
  go_wp2
  go_ret
  exact ⟨rfl, H1.out, HC1.out.more fun _ _ f => f.elim⟩
set_option maxRecDepth 100000 in
set_option maxHeartbeats 4000000 in
theorem user_other {E0 : World} {X0 : Nat → Prop} (w : World) {L wb : Nat} {q lab : Nat → Nat} {s : Nat → Sm} {W : Nat → Wr} {c : Nat → Nat → Value} (h : Pp E0 X0 w L wb q lab s W c) (hs : Sen B A w) (ht : Tab B w) (hBL : B ≤ L) (hLw : L ≤ w.heap.size) {e : Nat} (he : e < 2) (o1 o2 : Nat) (ho1 : o1 = 6 * e) (ho2 : o2 = 6 * (1 - e)) (kd nn : Int) (A2 : Option Addr) (len cap : Nat) (h0 : ¬ kd / 2 = 0) (h1 : ¬ kd / 2 = 1) (h5 : ¬ kd / 2 = 5) :
    Calls Tryd.prog 43 #[.pointer (some ⟨q e, 0, none⟩), .pointer (some ⟨wb, o1, none⟩), .pointer (some ⟨wb, o2, none⟩), .agg #[.int .i64 kd, .int .i64 nn, .slice A2 len cap]] w fun e' w' => e' = .returned (.bool true) ∧ Pp E0 X0 w' L wb q lab s W c ∧ Chg (fun k => L ≤ k) w w' := by
  have H := Lib.hid h
  have HS := Lib.hid (And.intro hs (And.intro ht (And.intro hBL hLw)))
  have HE := Lib.hid (And.intro he (And.intro ho1 ho2))
  clear h hs ht hBL hLw he ho1 ho2
  obtain ⟨w1, hw1⟩ : ∃ y, w.alloc (.cells #[.int .i64 kd, .int .i64 nn, .slice A2 len cap] 105) = y := ⟨_, rfl⟩
  obtain ⟨mb, hmb⟩ : ∃ y, w.heap.size = y := ⟨_, rfl⟩
  have HIm : Hid (Is w1 mb 105 #[.int .i64 kd, .int .i64 nn, .slice A2 len cap]) := by
    show Is _ _ _ _
    rw [← hw1, ← hmb]
    exact Is.new w _ _
  have HC1 : Hid (Chg none_ w w1) := by
    show Chg _ _ _
    rw [← hw1]
    exact (Chg.refl none_ w).alloc _
  have HMb : Hid (mb = w.heap.size) := hmb.symm
  have H1 := Lib.hid (H.out.keep HC1.out)
  have HBw : Hid (B ≤ w.heap.size) := Nat.le_trans HS.out.2.2.1 HS.out.2.2.2
  have HS1 : Hid (Sen B A w1 ∧ Tab B w1) := ⟨HS.out.1.below (HC1.out.old HBw.out), HS.out.2.1.below (HC1.out.old HBw.out)⟩
  have m0 : w1.cell? ⟨mb, 0, none⟩ = some (.int .i64 kd) := HIm.out.at_ 0 _ rfl
  have m1 : w1.cell? ⟨mb, 1, none⟩ = some (.int .i64 nn) := HIm.out.at_ 1 _ rfl
  have m2 : w1.cell? ⟨mb, 2, none⟩ = some (.slice A2 len cap) := HIm.out.at_ 2 _ rfl
  go_enter Tryd.func43, Tryd.ntmps43
  clear m2
  have b0 : (kd / 2 == 0) = false := by simp; omega
  have b1 : (kd / 2 == 1) = false := by simp; omega
  have b5 : (kd / 2 == 5) = false := by simp; omega
  have d0 : decide (kd / 2 = 0) = false := by simp; omega
  have d1 : decide (kd / 2 = 1) = false := by simp; omega
  have d5 : decide (kd / 2 = 5) = false := by simp; omega
  go_wp2
  go_ret
  exact ⟨rfl, H1.out, HC1.out.more fun _ _ f => f.elim⟩
set_option maxRecDepth 100000 in
set_option maxHeartbeats 4000000 in
theorem user_eof {E0 : World} {X0 : Nat → Prop} (w : World) {L wb : Nat} {q lab : Nat → Nat} {s : Nat → Sm} {W : Nat → Wr} {c : Nat → Nat → Value} (h : Pp E0 X0 w L wb q lab s W c) (hs : Sen B A w) (ht : Tab B w) (hBL : B ≤ L) (hLw : L ≤ w.heap.size) {e : Nat} (he : e < 2) (o1 o2 : Nat) (ho1 : o1 = 6 * e) (ho2 : o2 = 6 * (1 - e)) (kd nn : Int) (A2 : Option Addr) (len cap : Nat) (hkd : kd / 2 = 1) (hn : 1 ≤ nn) (hn2 : nn ≤ 9223372036854775807) (hup : (s e).Up) (hun : (s e).un = []) (hli : (s e).li = true) :
    Calls Tryd.prog 43 #[.pointer (some ⟨q e, 0, none⟩), .pointer (some ⟨wb, o1, none⟩), .pointer (some ⟨wb, o2, none⟩), .agg #[.int .i64 kd, .int .i64 nn, .slice A2 len cap]] w fun e' w' => e' = .returned (.bool true) ∧ (∃ lab' c', Pp E0 X0 w' L wb q lab' (upd s e (rtS (s e) nn)) (upd W (1 - e) { W (1 - e) with ended := true }) c') ∧ Chg (fun k => L ≤ k) w w' := by
  have H := Lib.hid h
  have HS := Lib.hid (And.intro hs (And.intro ht (And.intro hBL hLw)))
  have HE := Lib.hid (And.intro he (And.intro ho1 ho2))
  clear h hs ht hBL hLw he ho1 ho2
  obtain ⟨w1, hw1⟩ : ∃ y, w.alloc (.cells #[.int .i64 kd, .int .i64 nn, .slice A2 len cap] 105) = y := ⟨_, rfl⟩
  obtain ⟨mb, hmb⟩ : ∃ y, w.heap.size = y := ⟨_, rfl⟩
  have HIm : Hid (Is w1 mb 105 #[.int .i64 kd, .int .i64 nn, .slice A2 len cap]) := by
    show Is _ _ _ _
    rw [← hw1, ← hmb]
    exact Is.new w _ _
  have HC1 : Hid (Chg none_ w w1) := by
    show Chg _ _ _
    rw [← hw1]
    exact (Chg.refl none_ w).alloc _
  have HMb : Hid (mb = w.heap.size) := hmb.symm
  have H1 := Lib.hid (H.out.keep HC1.out)
  have HBw : Hid (B ≤ w.heap.size) := Nat.le_trans HS.out.2.2.1 HS.out.2.2.2
  have HS1 : Hid (Sen B A w1 ∧ Tab B w1) := ⟨HS.out.1.below (HC1.out.old HBw.out), HS.out.2.1.below (HC1.out.old HBw.out)⟩
  have m0 : w1.cell? ⟨mb, 0, none⟩ = some (.int .i64 kd) := HIm.out.at_ 0 _ rfl
  have m1 : w1.cell? ⟨mb, 1, none⟩ = some (.int .i64 nn) := HIm.out.at_ 1 _ rfl
  have m2 : w1.cell? ⟨mb, 2, none⟩ = some (.slice A2 len cap) := HIm.out.at_ 2 _ rfl
  go_enter Tryd.func43, Tryd.ntmps43
  have hN1 : ¬ nn < 1 := by omega
  have HX := Lib.hid (And.intro hup (And.intro hn hn2))
  clear hup hn hn2 m2
  have hp1 : Pst w1 (fun k => L ≤ k ∧ k < w.heap.size ∧ lab k = e) (q e) (s e) := (H.out.st e HE.out.1).keep HC1.out
  have R1 : Hid (Run B A w1 w1 (fun k => L ≤ k ∧ k < w.heap.size ∧ lab k = e) (q e) (s e)) := Run.init HS1.out.1 HS1.out.2 (Nat.le_trans HBw.out HC1.out.size) hp1 (fun k hk => Nat.le_trans HS.out.2.2.1 hk.1)
  clear hp1
  have HFr : Hid (1 - e < 2) := by show _ < _; omega
  go_wp2_with fail
  refine (run_read R1.out nn (by have := HX.out.2.1; omega) HX.out.2.2).mono ?_
  rintro e' w3 ⟨v, rfl, hv, r3⟩
  have HC3 := Lib.hid r3.chg
  have R3 : Hid (Run B A w1 w3 (fun k => L ≤ k ∧ k < w1.heap.size ∧ lab k = e) (q e) (rtS (s e) nn)) := r3.more (fun k hk => ⟨hk.1, Nat.lt_of_lt_of_le hk.2.1 HC1.out.size, hk.2.2⟩) (fun k hk => Nat.le_trans HS.out.2.2.1 hk.1)
  clear r3 m0 m1
  have H3 := Lib.hid (H1.out.ran HE.out.1 (Nat.le_trans HS.out.2.2.2 HC1.out.size) R3.out)
  have HIm3 := Lib.hid (HIm.out.chg HC3.out fun hk => by have := HMb.out; omega)
  have m1 : w3.cell? ⟨mb, 1, none⟩ = some (.int .i64 nn) := HIm3.out.at_ 1 _ rfl
  have HQ3 := Lib.hid (H3.out.wq (1 - e) HFr.out)
  have HC03 : Hid (Chg (fun k => L ≤ k) w w3) := (HC1.out.more fun _ _ f => f.elim).trans (HC3.out.more fun k _ hk => hk.1)
  have HV := Lib.hid hv
  clear hv
  have HNm : Hid (wb ≠ mb) := by
    show wb ≠ mb
    have := H.out.im.lt
    have := HMb.out
    omega
  have HI3 : Hid (Is w3 wb 103 (wcells c)) := H3.out.im
  have hcd : rtC (s e) nn = 25 := by rw [rtC_up HX.out.1 HX.out.2.1, if_pos hun, if_pos hli]
  have hn0 : rtN (s e) nn = 0 := rtN_nil hun
  have hg0 : rtG (s e) nn = 0 := rtG_nil hun
  rw [hcd, hg0]
  rw [hn0] at HV
  obtain ⟨A4, k4, rfl, _, _⟩ := HV.out.slice
  rw [show errv A 25 = .iface 200 (.pointer (some (A 25))) from rfl]
  have c5 : w3.cell? ⟨wb, o2 + 5, none⟩ = some (.bool (W (1 - e)).ended) := by
    rw [HE.out.2.2, ← HQ3.out.en]
    exact HI3.out.at_ _ _ (wcells_at (j := 5) c HFr.out (by decide))
  have f5 : w3.frozen? ⟨wb, o2 + 5, none⟩ = false := HI3.out.frozen _
  clear hcd hn0 hg0 hun hli m1
  go_wp2_with fail
  have HP4 := Lib.hid (H3.out.stored (w' := w3) (j := 5) (l := 99) HFr.out (by decide) (by omega) (by omega) (Chg.refl _ _) _ ((HQ3.out.ended' true).relab_ fun k hk => relab_old hk))
  have hw5 : Chg (fun k => L ≤ k) w3 (w3.setCell ⟨wb, 6 * (1 - e) + 5, none⟩ (.bool true)) := (Chg.refl (fun k => L ≤ k) w3).setCell (p := ⟨wb, 6 * (1 - e) + 5, none⟩) (fun _ => H3.out.hb.1) _
  rw [show 6 * (1 - e) + 5 = o2 + 5 by have := HE.out.2.2; omega] at HP4 hw5
  have HW5 := Lib.hid hw5
  clear hw5
  generalize w3.setCell ⟨wb, o2 + 5, none⟩ (.bool true) = w4 at HP4 HW5 ⊢
  have hs4 : Sen B A w4 := HS.out.1.below ((HC03.out.trans HW5.out).below (fun k _ hk => Nat.le_trans HS.out.2.2.1 hk) HBw.out)
  have hce := code_any w4 hs4 25 (by decide)
  rw [show errv A 25 = .iface 200 (.pointer (some (A 25))) from rfl] at hce
  refine hce.mono ?_
  rintro e' w' ⟨rfl, rfl⟩
  go_wp2
  go_ret
  exact ⟨rfl, ⟨_, _, HP4.out⟩, HC03.out.trans HW5.out⟩
set_option maxRecDepth 100000 in
set_option maxHeartbeats 4000000 in
theorem user_read {E0 : World} {X0 : Nat → Prop} (w : World) {L wb : Nat} {q lab : Nat → Nat} {s : Nat → Sm} {W : Nat → Wr} {c : Nat → Nat → Value} (h : Pp E0 X0 w L wb q lab s W c) (hs : Sen B A w) (ht : Tab B w) (hBL : B ≤ L) (hLw : L ≤ w.heap.size) {e : Nat} (he : e < 2) (o1 o2 : Nat) (ho1 : o1 = 6 * e) (ho2 : o2 = 6 * (1 - e)) (kd nn : Int) (A2 : Option Addr) (len cap : Nat) (hkd : kd / 2 = 1) (hn : 1 ≤ nn) (hn2 : nn ≤ 9223372036854775807) (hup : (s e).Up) (hne : ¬ ((s e).un = [] ∧ (s e).li = true)) (hgb : 0 ≤ rtG (s e) nn ∧ rtG (s e) nn ≤ 4294967295) (hgl : (W (1 - e)).gave.length + (s e).un.length ≤ 140737488355328) (hfl : (W (1 - e)).grants.length ≤ 1073741824) :
    Calls Tryd.prog 43 #[.pointer (some ⟨q e, 0, none⟩), .pointer (some ⟨wb, o1, none⟩), .pointer (some ⟨wb, o2, none⟩), .agg #[.int .i64 kd, .int .i64 nn, .slice A2 len cap]] w fun e' w' => e' = .returned (.bool true) ∧ (∃ lab' c', Pp E0 X0 w' L wb q lab' (upd s e (rtS (s e) nn)) (upd W (1 - e) { W (1 - e) with gave := (W (1 - e)).gave ++ (s e).un.take (rtN (s e) nn), grants := addG (W (1 - e)).grants (rtG (s e) nn) }) c') ∧ Chg (fun k => L ≤ k) w w' := by
  have H := Lib.hid h
  have HS := Lib.hid (And.intro hs (And.intro ht (And.intro hBL hLw)))
  have HE := Lib.hid (And.intro he (And.intro ho1 ho2))
  clear h hs ht hBL hLw he ho1 ho2
  obtain ⟨w1, hw1⟩ : ∃ y, w.alloc (.cells #[.int .i64 kd, .int .i64 nn, .slice A2 len cap] 105) = y := ⟨_, rfl⟩
  obtain ⟨mb, hmb⟩ : ∃ y, w.heap.size = y := ⟨_, rfl⟩
  have HIm : Hid (Is w1 mb 105 #[.int .i64 kd, .int .i64 nn, .slice A2 len cap]) := by
    show Is _ _ _ _
    rw [← hw1, ← hmb]
    exact Is.new w _ _
  have HC1 : Hid (Chg none_ w w1) := by
    show Chg _ _ _
    rw [← hw1]
    exact (Chg.refl none_ w).alloc _
  have HMb : Hid (mb = w.heap.size) := hmb.symm
  have H1 := Lib.hid (H.out.keep HC1.out)
  have HBw : Hid (B ≤ w.heap.size) := Nat.le_trans HS.out.2.2.1 HS.out.2.2.2
  have HS1 : Hid (Sen B A w1 ∧ Tab B w1) := ⟨HS.out.1.below (HC1.out.old HBw.out), HS.out.2.1.below (HC1.out.old HBw.out)⟩
  have m0 : w1.cell? ⟨mb, 0, none⟩ = some (.int .i64 kd) := HIm.out.at_ 0 _ rfl
  have m1 : w1.cell? ⟨mb, 1, none⟩ = some (.int .i64 nn) := HIm.out.at_ 1 _ rfl
  have m2 : w1.cell? ⟨mb, 2, none⟩ = some (.slice A2 len cap) := HIm.out.at_ 2 _ rfl
  go_enter Tryd.func43, Tryd.ntmps43
  have hN1 : ¬ nn < 1 := by omega
  have HX := Lib.hid (And.intro hup (And.intro hn hn2))
  clear hup hn hn2 m2
  have hp1 : Pst w1 (fun k => L ≤ k ∧ k < w.heap.size ∧ lab k = e) (q e) (s e) := (H.out.st e HE.out.1).keep HC1.out
  have R1 : Hid (Run B A w1 w1 (fun k => L ≤ k ∧ k < w.heap.size ∧ lab k = e) (q e) (s e)) := Run.init HS1.out.1 HS1.out.2 (Nat.le_trans HBw.out HC1.out.size) hp1 (fun k hk => Nat.le_trans HS.out.2.2.1 hk.1)
  clear hp1
  have HFr : Hid (1 - e < 2) := by show _ < _; omega
  go_wp2_with fail
  refine (run_read R1.out nn (by have := HX.out.2.1; omega) HX.out.2.2).mono ?_
  rintro e' w3 ⟨v, rfl, hv, r3⟩
  have HC3 := Lib.hid r3.chg
  have R3 : Hid (Run B A w1 w3 (fun k => L ≤ k ∧ k < w1.heap.size ∧ lab k = e) (q e) (rtS (s e) nn)) := r3.more (fun k hk => ⟨hk.1, Nat.lt_of_lt_of_le hk.2.1 HC1.out.size, hk.2.2⟩) (fun k hk => Nat.le_trans HS.out.2.2.1 hk.1)
  clear r3 m0 m1
  have H3 := Lib.hid (H1.out.ran HE.out.1 (Nat.le_trans HS.out.2.2.2 HC1.out.size) R3.out)
  have HIm3 := Lib.hid (HIm.out.chg HC3.out fun hk => by have := HMb.out; omega)
  have m1 : w3.cell? ⟨mb, 1, none⟩ = some (.int .i64 nn) := HIm3.out.at_ 1 _ rfl
  have HQ3 := Lib.hid (H3.out.wq (1 - e) HFr.out)
  have HC03 : Hid (Chg (fun k => L ≤ k) w w3) := (HC1.out.more fun _ _ f => f.elim).trans (HC3.out.more fun k _ hk => hk.1)
  have HV := Lib.hid hv
  clear hv
  have HNm : Hid (wb ≠ mb) := by
    show wb ≠ mb
    have := H.out.im.lt
    have := HMb.out
    omega
  have HI3 : Hid (Is w3 wb 103 (wcells c)) := H3.out.im
  have hcd : rtC (s e) nn = 0 := by
    rw [rtC_up HX.out.1 HX.out.2.1]
    split
    · rename_i hun
      rw [if_neg (fun hli => hne ⟨hun, hli⟩)]
    · rfl
  rw [hcd]
  obtain ⟨n4, hn4⟩ : ∃ y, rtN (s e) nn = y := ⟨_, rfl⟩
  rw [hn4] at HV
  obtain ⟨A4, k4, rfl, hk4, _⟩ := HV.out.slice
  have hln : n4 ≤ (s e).un.length := by rw [← hn4]; exact rtN_le _ _
  have hlN : (n4 : Int) ≤ nn := by rw [← hn4]; exact rtN_leN HX.out.2.1
  have hlt : ((s e).un.take n4).length = n4 := by rw [List.length_take]; omega
  have HL := Lib.hid (And.intro hln (And.intro hlN (And.intro hlt (And.intro hgl hfl))))
  have HN4 := Lib.hid hn4
  rw [show errv A 0 = .nilIface from rfl]
  obtain ⟨A1, k1, hv1, _, _⟩ := HQ3.out.gv.slice
  obtain ⟨gl, hgl'⟩ : ∃ y, (W (1 - e)).gave.length = y := ⟨_, rfl⟩
  have HGv : Hid (c (1 - e) 1 = .slice A1 gl k1) := by
    show _ = _
    rw [← hgl']
    exact hv1
  have HG3 : Hid (Ob w3 L 5 (.slice A1 gl k1) gl (u8s (W (1 - e)).gave)) := by
    show Ob _ _ _ _ _ _
    rw [← HGv.out, ← hgl']
    exact HQ3.out.gv
  have HGl := Lib.hid hgl'
  have c1 : w3.cell? ⟨wb, o2 + 1, none⟩ = some (.slice A1 gl k1) := by
    rw [HE.out.2.2, ← HGv.out]
    exact HI3.out.at_ _ _ (wcells_at (j := 1) c HFr.out (by decide))
  have hz3 : L ≤ w3.heap.size := Nat.le_trans HS.out.2.2.2 HC03.out.size
  have hd3 : Rd w3 A4 n4 fun i => .int .u8 (((s e).un.take n4).getD i 0) := HV.out.rd (fun i hi => by unfold u8s; rw [List.getElem?_map, List.getD_eq_getElem?_getD, List.getElem?_eq_getElem (show i < ((s e).un.take n4).length by omega)]; rfl) rfl
  have HD3 := Lib.hid hd3
  clear hcd hn4 hk4 hln hlN hlt hgl hfl hv1 hgl' hd3 hne
  obtain ⟨gg, hgg⟩ : ∃ y, rtG (s e) nn = y := ⟨_, rfl⟩
  have HGg := Lib.hid hgg
  rw [hgg]
  have hg0 : 0 ≤ gg ∧ gg ≤ 4294967295 := by rw [← hgg]; exact hgb
  have HGb := Lib.hid hg0
  clear hgg hgb
  go_wp2_with (at_builtin; refine wpList_append_bytes rfl (.tmp 100) (.tmp 101) rfl rfl HG3.out A4 n4 k4 ((s e).un.take n4) rfl HL.out.2.2.1 HD3.out (by have := HL.out.1; have := HL.out.2.2.2.1; have := HGl.out; omega) hz3 ?_)
  intro v4 w4 j1 j2 j3
  obtain ⟨A5, k5, rfl, _, _⟩ := j1.slice
  have HF : Hid (Chg (fun k => k < w3.heap.size ∧ L ≤ k ∧ relab lab w1.heap.size e k = 5 + (1 - e)) w3 w4) := (Chg.refl _ w3).grown j2 fun k hk _ => ⟨(HG3.out.block k hk).2, (HG3.out.block k hk).1, HQ3.out.gvL k (by rw [HGv.out]; exact hk)⟩
  have J1 := Lib.hid j1
  have J2 := Lib.hid j2
  have J3 := Lib.hid j3
  clear j1 j2 j3
  have HNk : Hid (∀ k, obk (.slice A1 gl k1) = some k → k < w.heap.size) := fun k hk => ((H.out.wq (1 - e) HFr.out).gv.block k (by rw [HGv.out]; exact hk)).2
  have HI4 : Hid (Is w4 wb 103 (wcells c)) := HI3.out.chg HF.out fun hk => by have h2 := H3.out.hb.2; have := hk.2.2; omega
  have e0 : w4.cell? ⟨wb, o2 + 1, none⟩ = some (.slice A1 gl k1) := by
    rw [HE.out.2.2, ← HGv.out]
    exact HI4.out.at_ _ _ (wcells_at (j := 1) c HFr.out (by decide))
  have e1 : w4.frozen? ⟨wb, o2 + 1, none⟩ = false := HI4.out.frozen _
  clear c1
  have HW4 := Lib.hid (HQ3.out.gave' (lab' := relab (relab lab w1.heap.size e) w3.heap.size (5 + (1 - e))) (v := .slice A5 (gl + n4) k5) (ys := (W (1 - e)).gave ++ (s e).un.take n4) HF.out (fun k _ hk => hk.2.2) (fun k hk => relab_old hk) HFr.out (by
    have e2 : ((W (1 - e)).gave ++ (s e).un.take n4).length = gl + n4 := by rw [List.length_append, HL.out.2.2.1, HGl.out]
    rw [e2]
    simpa [u8s] using J1.out) (fun k hk => by
    rcases J3.out with k3 | k3
    · rw [hk] at k3
      have hb := HG3.out.block k k3.symm
      rw [relab_old hb.2]
      exact HQ3.out.gvL k (by rw [HGv.out]; exact k3.symm)
    · rw [hk] at k3
      exact relab_new (by have h5 : k = w3.heap.size := Option.some.inj k3; rw [h5]; exact Nat.le_refl _)))
  have HP5 := Lib.hid (H3.out.stored (j := 1) HFr.out (by decide) (by omega) (by have := HE.out.1; omega) HF.out _ HW4.out)
  have hw5 : Chg (fun k => L ≤ k) w4 (w4.setCell ⟨wb, 6 * (1 - e) + 1, none⟩ (.slice A5 (gl + n4) k5)) := (Chg.refl (fun k => L ≤ k) w4).setCell (p := ⟨wb, 6 * (1 - e) + 1, none⟩) (fun _ => H3.out.hb.1) _
  rw [show 6 * (1 - e) + 1 = o2 + 1 by have := HE.out.2.2; omega] at HP5 hw5
  have HC05 : Hid (Chg (fun k => L ≤ k) w (w4.setCell ⟨wb, o2 + 1, none⟩ (.slice A5 (gl + n4) k5))) := (HC03.out.trans (HF.out.more fun k _ hk => hk.2.1)).trans hw5
  have HIm5 : Hid (Is (w4.setCell ⟨wb, o2 + 1, none⟩ (.slice A5 (gl + n4) k5)) mb 105 #[.int .i64 kd, .int .i64 nn, .slice A2 len cap]) := (HIm3.out.chg (((Chg.refl (fun k => obk (.slice A1 gl k1) = some k) w3)).grown J2.out fun k hk _ => hk) fun hk => by have := HNk.out _ hk; have := HMb.out; omega).far (p := ⟨wb, o2 + 1, none⟩) (by show mb ≠ wb; exact HNm.out.symm) _
  clear hw5 m1
  obtain ⟨w5, hw5⟩ : ∃ y, w4.setCell ⟨wb, o2 + 1, none⟩ (.slice A5 (gl + n4) k5) = y := ⟨_, rfl⟩
  rw [hw5] at HP5 HC05 HIm5
  have m1 : w5.cell? ⟨mb, 1, none⟩ = some (.int .i64 nn) := HIm5.out.at_ 1 _ rfl
  by_cases hg : gg = 0
  · subst hg
    have hle := HL.out.2.1
    go_wp2
    go_ret
    rw [HN4.out, HGg.out, addG_zero]
    exact ⟨rfl, ⟨_, _, HP5.out⟩, HC05.out⟩
  · have hgp : (0 : Int) < gg := by have := HGb.out; omega
    have HQ5 := Lib.hid (HP5.out.wq (1 - e) HFr.out)
    have HI5 : Hid (Is w5 wb 103 _) := HP5.out.im
    have hq5 := HQ5.out
    rw [upd_at, upd_at] at hq5
    clear HQ5
    have HQ5 := Lib.hid hq5
    have HCc : Hid (upd c (1 - e) (upd (c (1 - e)) 1 (.slice A5 (gl + n4) k5)) (1 - e) = upd (c (1 - e)) 1 (.slice A5 (gl + n4) k5)) := upd_at _ _ _
    obtain ⟨A7, k7, hv7, _, _⟩ := hq5.gr.slice
    clear hq5
    have hv7 : c (1 - e) 3 = .slice A7 (W (1 - e)).grants.length k7 := hv7
    obtain ⟨rl, hrl⟩ : ∃ y, (W (1 - e)).grants.length = y := ⟨_, rfl⟩
    rw [hrl] at hv7
    have HG5 : Hid (Fq w5 L 22 1 (.slice A7 rl k7) rl ((W (1 - e)).grants.map (Value.int .u32))) := by
      show Fq _ _ _ _ _ _ _
      rw [← hv7, ← hrl]
      exact HQ5.out.gr
    have c3 : w5.cell? ⟨wb, o2 + 3, none⟩ = some (.slice A7 rl k7) := by
      rw [HE.out.2.2]
      refine HI5.out.at_ _ _ ((wcells_at (j := 3) _ HFr.out (by decide)).trans ?_)
      rw [HCc.out, ← hv7]
      rfl
    have HV7 := Lib.hid hv7
    have HRl := Lib.hid hrl
    have HM5 := Lib.hid hw5
    have hz5 : Hid (L ≤ w5.heap.size) := Nat.le_trans HS.out.2.2.2 HC05.out.size
    clear hv7 hrl
    go_wp2_with (at_builtin; refine wpList_append_u32 rfl (.tmp 111) (.tmp 113) rfl rfl (HG5.out.keep ((Chg.refl none_ w5).alloc _)) w5.heap.size 1 gg rfl ((Is.new w5 _ _).at_ 0 _ rfl) (by have := HL.out.2.2.2.2; have := HRl.out; omega) (Nat.le_trans hz5.out (by simp)) ?_)
    intro v6 w6 j1 j2 j3
    obtain ⟨A6, k6, rfl, _, _⟩ := j1.slice
    have HF6 : Hid (Chg (fun k => k < w5.heap.size ∧ L ≤ k ∧ relab (relab lab w1.heap.size e) w3.heap.size (5 + (1 - e)) k = 9 + (1 - e)) w5 w6) := ((Chg.refl _ w5).alloc _).grown j2 fun k hk _ => ⟨(HG5.out.block k hk).2, (HG5.out.block k hk).1, HQ5.out.grL k (by
      show obk (c (1 - e) 3) = some k
      rw [HV7.out]
      exact hk)⟩
    have J1 := Lib.hid j1
    have J2 := Lib.hid j2
    have J3 := Lib.hid j3
    clear j1 j2 j3
    have HI6 := Lib.hid (HI5.out.chg HF6.out fun hk => by have h2 := HP5.out.hb.2; have := hk.2.2; omega)
    have f1 : w6.frozen? ⟨wb, o2 + 3, none⟩ = false := HI6.out.frozen _
    have f0 : ∃ y, w6.cell? ⟨wb, o2 + 3, none⟩ = some y := ⟨_, by
      rw [HE.out.2.2]
      exact HI6.out.at_ _ _ (wcells_at (j := 3) _ HFr.out (by decide))⟩
    obtain ⟨y6, f0⟩ := f0
    have HW6 := Lib.hid (HQ5.out.grants' (lab' := relab (relab (relab lab w1.heap.size e) w3.heap.size (5 + (1 - e))) w5.heap.size (9 + (1 - e))) (v := .slice A6 (rl + 1) k6) (gs := (W (1 - e)).grants ++ [gg]) HF6.out (fun k _ hk => hk.2.2) (fun k hk => relab_old hk) HFr.out (by
      have e2 : ((W (1 - e)).grants ++ [gg]).length = rl + 1 := by rw [List.length_append, HRl.out]; rfl
      rw [e2, List.map_append]
      exact J1.out) (fun k hk => by
      rcases J3.out with k3 | k3
      · rw [hk] at k3
        have hb := HG5.out.block k k3.symm
        rw [relab_old hb.2]
        exact HQ5.out.grL k (by
          show obk (c (1 - e) 3) = some k
          rw [HV7.out]
          exact k3.symm)
      · rw [hk] at k3
        refine relab_new ?_
        have h5 := Option.some.inj k3
        rw [h5]
        simp))
    rw [← HCc.out] at HW6
    have HP7 := Lib.hid (HP5.out.stored (j := 3) HFr.out (by decide) (by omega) (by have := HE.out.1; omega) HF6.out _ HW6.out)
    have hw7 : Chg (fun k => L ≤ k) w6 (w6.setCell ⟨wb, 6 * (1 - e) + 3, none⟩ (.slice A6 (rl + 1) k6)) := (Chg.refl (fun k => L ≤ k) w6).setCell (p := ⟨wb, 6 * (1 - e) + 3, none⟩) (fun _ => H3.out.hb.1) _
    rw [show 6 * (1 - e) + 3 = o2 + 3 by have := HE.out.2.2; omega] at HP7 hw7
    have HC07 : Hid (Chg (fun k => L ≤ k) w (w6.setCell ⟨wb, o2 + 3, none⟩ (.slice A6 (rl + 1) k6))) := (HC05.out.trans (HF6.out.more fun k _ hk => hk.2.1)).trans hw7
    have HIm7 : Hid (Is (w6.setCell ⟨wb, o2 + 3, none⟩ (.slice A6 (rl + 1) k6)) mb 105 #[.int .i64 kd, .int .i64 nn, .slice A2 len cap]) := (HIm5.out.chg (((Chg.refl (fun k => obk (.slice A7 rl k7) = some k) w5).alloc _).grown J2.out fun k hk _ => hk) fun hk => by have h2 := ((H.out.wq (1 - e) HFr.out).gr.block mb (by rw [HV7.out]; exact hk)).2; have := HMb.out; omega).far (p := ⟨wb, o2 + 3, none⟩) (by show mb ≠ wb; exact HNm.out.symm) _
    clear hw7 c3
    obtain ⟨w7, hw7⟩ : ∃ y, w6.setCell ⟨wb, o2 + 3, none⟩ (.slice A6 (rl + 1) k6) = y := ⟨_, rfl⟩
    rw [hw7] at HP7 HC07 HIm7
    have m1 : w7.cell? ⟨mb, 1, none⟩ = some (.int .i64 nn) := HIm7.out.at_ 1 _ rfl
    have hle := HL.out.2.1
    go_wp2
    go_ret
    have h1 := HP7.out
    rw [upd_upd] at h1
    rw [HN4.out, HGg.out, addG_some hg]
    exact ⟨rfl, ⟨_, _, h1⟩, HC07.out⟩
set_option maxRecDepth 100000 in
set_option maxHeartbeats 4000000 in
theorem user_close {E0 : World} {X0 : Nat → Prop} (w : World) {L wb : Nat} {q lab : Nat → Nat} {s : Nat → Sm} {W : Nat → Wr} {c : Nat → Nat → Value} (h : Pp E0 X0 w L wb q lab s W c) (hs : Sen B A w) (ht : Tab B w) (hBL : B ≤ L) (hLw : L ≤ w.heap.size) {e : Nat} (he : e < 2) (o1 o2 : Nat) (ho1 : o1 = 6 * e) (ho2 : o2 = 6 * (1 - e)) (kd nn : Int) (A2 : Option Addr) (len cap : Nat) (hkd : kd / 2 = 5) (hup : (s e).Up) (hcl : (W e).closed = (s e).cl) :
    Calls Tryd.prog 43 #[.pointer (some ⟨q e, 0, none⟩), .pointer (some ⟨wb, o1, none⟩), .pointer (some ⟨wb, o2, none⟩), .agg #[.int .i64 kd, .int .i64 nn, .slice A2 len cap]] w fun e' w' => e' = .returned (.bool true) ∧ (∃ lab' c', Pp E0 X0 w' L wb q lab' (upd s e (clS (s e))) (upd W e { W e with closed := true }) c') ∧ Chg (fun k => L ≤ k) w w' := by
  have H := Lib.hid h
  have HS := Lib.hid (And.intro hs (And.intro ht (And.intro hBL hLw)))
  have HE := Lib.hid (And.intro he (And.intro ho1 ho2))
  clear h hs ht hBL hLw he ho1 ho2
  obtain ⟨w1, hw1⟩ : ∃ y, w.alloc (.cells #[.int .i64 kd, .int .i64 nn, .slice A2 len cap] 105) = y := ⟨_, rfl⟩
  obtain ⟨mb, hmb⟩ : ∃ y, w.heap.size = y := ⟨_, rfl⟩
  have HIm : Hid (Is w1 mb 105 #[.int .i64 kd, .int .i64 nn, .slice A2 len cap]) := by
    show Is _ _ _ _
    rw [← hw1, ← hmb]
    exact Is.new w _ _
  have HC1 : Hid (Chg none_ w w1) := by
    show Chg _ _ _
    rw [← hw1]
    exact (Chg.refl none_ w).alloc _
  have HMb : Hid (mb = w.heap.size) := hmb.symm
  have H1 := Lib.hid (H.out.keep HC1.out)
  have HBw : Hid (B ≤ w.heap.size) := Nat.le_trans HS.out.2.2.1 HS.out.2.2.2
  have HS1 : Hid (Sen B A w1 ∧ Tab B w1) := ⟨HS.out.1.below (HC1.out.old HBw.out), HS.out.2.1.below (HC1.out.old HBw.out)⟩
  have m0 : w1.cell? ⟨mb, 0, none⟩ = some (.int .i64 kd) := HIm.out.at_ 0 _ rfl
  have m1 : w1.cell? ⟨mb, 1, none⟩ = some (.int .i64 nn) := HIm.out.at_ 1 _ rfl
  have m2 : w1.cell? ⟨mb, 2, none⟩ = some (.slice A2 len cap) := HIm.out.at_ 2 _ rfl
  go_enter Tryd.func43, Tryd.ntmps43
  clear m1 m2
  have HX := Lib.hid (And.intro hup hcl)
  clear hup hcl
  have R1 : Hid (Run B A w1 w1 (fun k => L ≤ k ∧ k < w.heap.size ∧ lab k = e) (q e) (s e)) := Run.init HS1.out.1 HS1.out.2 (Nat.le_trans HBw.out HC1.out.size) ((H.out.st e HE.out.1).keep HC1.out) (fun k hk => Nat.le_trans HS.out.2.2.1 hk.1)
  go_wp2_with fail
  refine (run_close R1.out).mono ?_
  rintro e' w3 ⟨rfl, r3⟩
  have HC3 := Lib.hid r3.chg
  have R3 : Hid (Run B A w1 w3 (fun k => L ≤ k ∧ k < w1.heap.size ∧ lab k = e) (q e) (clS (s e))) := r3.more (fun k hk => ⟨hk.1, Nat.lt_of_lt_of_le hk.2.1 HC1.out.size, hk.2.2⟩) (fun k hk => Nat.le_trans HS.out.2.2.1 hk.1)
  clear r3 m0
  have H3 := Lib.hid (H1.out.ran HE.out.1 (Nat.le_trans HS.out.2.2.2 HC1.out.size) R3.out)
  have HC03 : Hid (Chg (fun k => L ≤ k) w w3) := (HC1.out.more fun _ _ f => f.elim).trans (HC3.out.more fun k _ hk => hk.1)
  have HQ3 := Lib.hid (H3.out.wq e HE.out.1)
  have HI3 : Hid (Is w3 wb 103 (wcells c)) := H3.out.im
  have hcc := wrC_up HX.out.1
  have c4 : w3.cell? ⟨wb, o1 + 4, none⟩ = some (.bool (s e).cl) := by
    rw [HE.out.2.1, ← HX.out.2, ← HQ3.out.cl]
    exact HI3.out.at_ _ _ (wcells_at (j := 4) c HE.out.1 (by decide))
  have hfin : ∀ wd, Chg none_ w3 wd → (∃ lab' c', Pp E0 X0 (wd.setCell ⟨wb, o1 + 4, none⟩ (.bool true)) L wb q lab' (upd s e (clS (s e))) (upd W e { W e with closed := true }) c') ∧ Chg (fun k => L ≤ k) w (wd.setCell ⟨wb, o1 + 4, none⟩ (.bool true)) ∧ wd.frozen? ⟨wb, o1 + 4, none⟩ = false ∧ ∃ y, wd.cell? ⟨wb, o1 + 4, none⟩ = some y := fun wd hd => by
    have h3 := H3.out.keep hd
    have h4 := h3.stored (w' := wd) (j := 4) (l := 99) HE.out.1 (by decide) (by omega) (by have := HE.out.1; omega) (Chg.refl _ _) _ (((h3.wq e HE.out.1).closed' true).relab_ fun k hk => relab_old hk)
    have h5 : Chg (fun k => L ≤ k) wd (wd.setCell ⟨wb, 6 * e + 4, none⟩ (.bool true)) := (Chg.refl (fun k => L ≤ k) wd).setCell (p := ⟨wb, 6 * e + 4, none⟩) (fun _ => h3.hb.1) _
    rw [← HE.out.2.1] at h4 h5
    exact ⟨⟨_, _, h4⟩, (HC03.out.trans (hd.more fun _ _ f => f.elim)).trans h5, h3.im.frozen _, _, by rw [HE.out.2.1]; exact h3.im.at_ _ _ (wcells_at (j := 4) c HE.out.1 (by decide))⟩
  have HFn := Lib.hid hfin
  clear hfin
  cases hcl : (s e).cl
  · rw [hcl] at c4 hcc
    have hcc : wrC (s e) = 0 := hcc
    rw [hcc]
    clear hcc hcl
    rw [show errv A 0 = .nilIface from rfl]
    go_wp2_with fail
    refine wp_region_still_lit (by kernel_rfl) (by kernel_rfl) ?_
    repeat still_step
    refine wpStill_nil ?_
    change Exit.then _ _ _ _ w3.drew
    obtain ⟨wd, hwd⟩ : ∃ y, w3.drew = y := ⟨_, rfl⟩
    have HCd : Hid (Chg none_ w3 wd) := by
      show Chg _ _ _
      rw [← hwd]
      exact (Chg.refl none_ w3).drew
    rw [hwd]
    clear hwd c4
    obtain ⟨y4, c4⟩ := (HFn.out wd HCd.out).2.2.2
    have f4 := (HFn.out wd HCd.out).2.2.1
    go_wp2
    go_ret
    exact ⟨rfl, (HFn.out wd HCd.out).1, (HFn.out wd HCd.out).2.1⟩
  · rw [hcl] at c4 hcc
    have hcc : wrC (s e) = 24 := hcc
    rw [hcc]
    clear hcc hcl
    rw [show errv A 24 = .iface 200 (.pointer (some (A 24))) from rfl]
    go_wp2_with fail
    refine wp_region_still_lit (by kernel_rfl) (by kernel_rfl) ?_
    repeat still_step
    refine wpStill_nil ?_
    change Exit.then _ _ _ _ w3.drew
    obtain ⟨wd, hwd⟩ : ∃ y, w3.drew = y := ⟨_, rfl⟩
    have HCd : Hid (Chg none_ w3 wd) := by
      show Chg _ _ _
      rw [← hwd]
      exact (Chg.refl none_ w3).drew
    rw [hwd]
    clear hwd c4
    obtain ⟨y4, c4⟩ := (HFn.out wd HCd.out).2.2.2
    have f4 := (HFn.out wd HCd.out).2.2.1
    go_wp2
    go_ret
    exact ⟨rfl, (HFn.out wd HCd.out).1, (HFn.out wd HCd.out).2.1⟩
end
end Go.Proofs.YthalmjjbamglgaaDoor
