/-
  culvertlaw10.carry by contract, case by case.
  No condition of its own: the facts 'Sen' and 'Tab' on the world; what the memory holds (Pp).
-/
import Derived.Test.YthalmjjbamglgaaDoorPr2
import Derived.Deep.DeepCutAuto
import Derived.Deep.CutBlock
import Derived.Deep.RegionHeld3
import Derived.StillTailTactics
namespace Go.Proofs.YthalmjjbamglgaaDoor
open Go.RowKit
set_option linter.unusedVariables false
set_option linter.unusedSimpArgs false
theorem Tryd.infoFm : (Tryd.prog.info? 72).map (fun i => (i.zero, i.size, i.bytes)) = some (some (.agg #[.int .u8 0, .int .u8 0, .int .u16 0, .int .u32 0, .int .u32 0, .slice none 0 0]), 6, 40) := by kernel_rfl
theorem szFm : (Tryd.prog.info? 72).map (·.size) = some 6 := by kernel_rfl
theorem yields_load_part {P : Program} {o : Oper} {a : Act} {u : World} (ty : TypeId) (x : Operand) (ho : o.op = .load ty x) (g off : Nat) (hx : a.eval x = .pointer (some ⟨g, off, none⟩)) {t : TypeId} {cs : Array Value} (vs : List Value) (hi : Is u g t cs) (hv : (cs.toList.drop off).take vs.length = vs)
    {d : TypeDesc} (hu : P.underlying ty = some d) (hd : (match d with | .struct _ | .array _ _ => true | _ => false) = true) (hz : (P.info? ty).map (·.size) = some vs.length) : (execOp a.eval o).run P u = .ok (.value (.agg vs.toArray)) u := by
  have hr := run_load_part (P := P) hi hv hu hd hz
  unfold execOp
  simp only [ho, hx, Instr.loadAt, Instr.sureAddr, Sem.run_bind, Sem.run_pure, Result.andThen_ok, hr]
theorem step_append_frame {w : World} {ops : Array Oper} {o : Oper} {a : Act} {Q : Exit → Act → World → Prop} {base : Nat} {v : Value} {n : Nat} {xs : List Value} {K : Act → World → Prop} {E : Prop} (hgd : o.guard = none) (s x : Operand) (ho : o.op = .call { callee := .builtin .append, args := #[s, x], argTypes := #[99, 99] })
    (hs : a.eval s = v) (hown : Fq w base 72 6 v n xs) (g c : Nat) (news : List Value) (hx : a.eval x = .slice (some ⟨g, 0, none⟩) 1 c) (hl : news.length = 6) {t : TypeId} (hr : Is w g t news.toArray) (h1 : ∀ u ∈ news, u.oneCell' = true) (hb : n ≤ 1073741824) (hbase : base ≤ w.heap.size)
    (h : ∀ v' w', Fq w' base 72 6 v' (n + 1) (xs ++ news) → w.grownBy w' (obk v) → (obk v' = obk v ∨ obk v' = some w.heap.size) → K (a.put o.dst v') w') : if Region.wanted o (yielded ops a.tmps) = true then Oper.wp Tryd.prog o a w K Q else E := by
  obtain ⟨i0, hi, hz0, hz1, hz2⟩ := info_parts Tryd.infoFm
  have hw : Region.wanted o (yielded ops a.tmps) = true := by simp [Region.wanted, hgd]
  rw [if_pos hw]
  obtain ⟨v', w', hrun, h2, h3, h4⟩ := run_append_fq (P := Tryd.prog) (w := w) 99 o.type i0 _ 40 Tryd.underlying99 hi hz0 hz1 hz2 rfl hown ⟨g, 0, none⟩ c news hl (fun j u hj => by rw [addr_off, Nat.zero_add]; exact hr.at_ j u (by rw [List.getElem?_toArray]; exact hj)) h1 (by omega) (by simp only [maxLen]; omega) hbase
  unfold Oper.wp execOp
  simp only [ho, resolve, invoke, builtin, Sem.run_bind, Sem.run_pure, Result.andThen_ok, List.map_toArray, List.map_cons, List.map_nil, hs, hx, hrun]
  exact h v' w' h2 h3 h4
theorem Fq.pop {w : World} {base : Nat} {e : TypeId} {sz : Nat} {v : Value} {n : Nat} {xs : List Value} (h : Fq w base e sz v (n + 1) xs) : ∃ g off c cur, v = .slice (some ⟨g, off, none⟩) (n + 1) c ∧ n + 1 ≤ c ∧ Is w g e cur ∧ (cur.toList.drop off).take sz = xs.take sz ∧
    Fq w base e sz (.slice (if c - 1 = 0 then some ⟨g, off, none⟩ else some (Addr.add ⟨g, off, none⟩ sz)) n (c - 1)) n (xs.drop sz) ∧ (∀ k, obk (.slice (if c - 1 = 0 then some ⟨g, off, none⟩ else some (Addr.add ⟨g, off, none⟩ sz)) n (c - 1)) = some k → obk v = some k) ∧ obk v = some g := by
  obtain ⟨A, c, e1, e2, e3, e4⟩ := h.tail
  rcases h with ⟨h0, _⟩ | ⟨g, off, c', cur, e0, h1, h2, h3, h4, h5, h6, h7, h8⟩
  · cases h0
  · rw [e1] at e0
    cases e0
    refine ⟨g, off, c, cur, e1, e2, h3, ?_, e3, e4, by rw [e1]; simp [obk, Nat.ne_of_gt h1]⟩
    refine List.ext_getElem? fun j => ?_
    rw [List.getElem?_take, List.getElem?_take]
    split
    · rw [List.getElem?_drop, Array.getElem?_toList]
      exact h8 j (by rw [h7, Nat.succ_mul]; omega)
    · rfl
theorem wpList_tail1 {P : Program} {w : World} {ops : Array Oper} {rest : List Oper} {o : Oper} {a : Act} {Q : Exit → Act → World → Prop} (hgd : o.guard = none) (t e : TypeId) (x lo : Operand) (ho : o.op = Op.slice t x (some lo) none none) (ht : P.underlying t = some (.slice e)) {sz : Nat} (hz : (P.info? e).map (·.size) = some sz) (A : Addr) (n c : Nat)
    (hx : a.eval x = .slice (some A) (n + 1) c) (hlo : a.eval lo = .int .i64 1) (hn : n + 1 ≤ c) (A8 : Option Addr) (h8 : (if c - 1 = 0 then some A else some (A.add sz)) = A8) (hK : wpList P ops Q rest (a.put o.dst (.slice A8 n (c - 1))) w) : wpList P ops Q (o :: rest) a w := by
  obtain ⟨i, hi, hs⟩ := Option.map_eq_some_iff.1 hz
  subst hs
  refine wpList_plain hgd fun K hK' => ?_
  have hrun := run_tail1 (P := P) (w := w) t e ht i hi A n c hn
  rw [h8] at hrun
  unfold Oper.wp
  simp [execOp, ho, hx, hlo, hrun, Result.andThen]
  exact hK' _ _ hK
theorem szU32 : (Tryd.prog.info? 22).map (·.size) = some 1 := by kernel_rfl
theorem run_arrive_ {B : Nat} {a : Nat → Addr} {w wi : World} {T : Nat → Prop} {g : Nat} {s : Sm} (h : Run B a w wi T g s) (v : Value) (ys : List Int) (hv : BsO wi v ys) {Tj : Nat → Prop} (j1 : Pst wi Tj g s) (j2 : ∀ k, Tj k → (T k ∨ w.heap.size ≤ k) ∧ k < wi.heap.size) (hvT : ∀ k, rdk v = some k → k < wi.heap.size ∧ ¬ Tj k) (hy : ys.length ≤ 140737488355328) (fin : Bool) :
    Calls Tryd.prog 27 #[.pointer (some ⟨g, 0, none⟩), v, .bool fin] wi fun e wj => e = .returned (errv a (avC s ys.length)) ∧ Run B a w wj T g (avS s ys fin) := by
  have hlo := h.low j2
  have hBi := h.hBi
  exact (sarrive_any wi h.sen h.tab hBi (T := fun k => Tj k ∨ wi.heap.size ≤ k) (j1.wide fun k hk => .inl hk) (fun k hk => hk.elim (fun h' => hlo k h') fun h' => by omega) (fun k hk => .inr hk) v ys hv (fun k hk => ⟨(hvT k hk).1, fun hx => hx.elim (hvT k hk).2 fun h' => by have := hvT k hk; omega⟩) hy fin).mono
    fun e wj ⟨e1, e2, e3⟩ => ⟨e1, h.step (Ti := Tj) j2 (Stp.of_wide e2 e3)⟩
section
variable {E0 : World} {X0 : Nat → Prop} {w w' : World} {L wb : Nat} {q lab lab' : Nat → Nat} {s : Nat → Sm} {W : Nat → Wr} {c : Nat → Nat → Value}
/-- A stream has laid out a frame: the new blocks are the frame's. -/
theorem Pp.framed (h : Pp E0 X0 w L wb q lab s W c) {d : Nat} (hd : d < 2) {s' : Sm} (hp : Pst w' (fun k => L ≤ k ∧ k < w.heap.size ∧ lab k = d) (q d) s') (hc : Chg (fun k => L ≤ k ∧ k < w.heap.size ∧ lab k = d) w w') : Pp E0 X0 w' L wb q (relab lab w.heap.size 11) (upd s d s') W c := by
  have hz := hc.size
  have hwb := h.im.lt
  have hl : ∀ k, k < w.heap.size → relab lab w.heap.size 11 k = lab k := fun k hk => relab_old hk
  refine ⟨h.im.chg hc fun hk => by have := h.hb.2; omega, ⟨h.hb.1, by rw [hl _ hwb]; exact h.hb.2⟩, fun i hi => ?_, fun i hi => (h.wq i hi).chg hc (fun k _ hk => by have := hk.2.2; omega) hl, fun k hk => by
    obtain ⟨x1, x2, x3⟩ := h.ex k hk
    exact ⟨Nat.lt_of_lt_of_le x1 hc.size, (hl k x1).trans x2, (hc.block k x1 fun f => by have := f.2.2; omega).trans x3⟩⟩
  by_cases hid : i = d
  · subst hid
    rw [upd_at]
    exact hp.wide fun k hk => ⟨hk.1, by omega, by rw [hl k hk.2.1]; exact hk.2.2⟩
  · rw [upd_ne s s' hid]
    refine ((h.st i hi).chg hc fun k hk _ hx => hid (by rw [← hk.2.2]; exact hx.2.2)).wide fun k hk => ⟨hk.1, by omega, by rw [hl k hk.2.1]; exact hk.2.2⟩
end
section
variable {B : Nat} {A : Nat → Addr}
set_option maxRecDepth 100000 in
set_option maxHeartbeats 4000000 in
theorem carry_other {E0 : World} {X0 : Nat → Prop} (w : World) {L wb : Nat} {q lab : Nat → Nat} {s : Nat → Sm} {W : Nat → Wr} {c : Nat → Nat → Value} (h : Pp E0 X0 w L wb q lab s W c) (hs : Sen B A w) (ht : Tab B w) (hBL : B ≤ L) (hLw : L ≤ w.heap.size) {e : Nat} (he : e < 2) (o1 : Nat) (ho1 : o1 = 6 * e) (kd nn : Int) (A2 : Option Addr) (len cap : Nat) (h2 : ¬ kd / 2 = 2) (h3 : ¬ kd / 2 = 3) (h4 : ¬ kd / 2 = 4) :
    Calls Tryd.prog 44 #[.pointer (some ⟨q e, 0, none⟩), .pointer (some ⟨q (1 - e), 0, none⟩), .pointer (some ⟨wb, o1, none⟩), .agg #[.int .i64 kd, .int .i64 nn, .slice A2 len cap]] w fun e' w' => e' = .returned (.bool true) ∧ Pp E0 X0 w' L wb q lab s W c ∧ Chg (fun k => L ≤ k) w w' := by
  have H := Lib.hid h
  have HS := Lib.hid (And.intro hs (And.intro ht (And.intro hBL hLw)))
  have HE := Lib.hid (And.intro he ho1)
  clear h hs ht hBL hLw he ho1
  obtain ⟨w1, hw1⟩ : ∃ y, w.alloc (.cells #[.int .i64 kd, .int .i64 nn, .slice A2 len cap] 105) = y := ⟨_, rfl⟩
  obtain ⟨mb, hmb⟩ : ∃ y, w.heap.size = y := ⟨_, rfl⟩
  have HIm : Hid (Is w1 mb 105 #[.int .i64 kd, .int .i64 nn, .slice A2 len cap]) := by
    show Is _ _ _ _
    rw [← hw1, ← hmb]
    exact Is.new w _ _
  have HC1 : Hid (Chg none_ w w1) := by
    show Chg _ _ _
    rw [← hw1]
    exact (Chg.refl none_ w).alloc _
  have HMb : Hid (mb = w.heap.size) := hmb.symm
  have H1 := Lib.hid (H.out.keep HC1.out)
  have HBw : Hid (B ≤ w.heap.size) := Nat.le_trans HS.out.2.2.1 HS.out.2.2.2
  have HS1 : Hid (Sen B A w1 ∧ Tab B w1) := ⟨HS.out.1.below (HC1.out.old HBw.out), HS.out.2.1.below (HC1.out.old HBw.out)⟩
  have m0 : w1.cell? ⟨mb, 0, none⟩ = some (.int .i64 kd) := HIm.out.at_ 0 _ rfl
  have m1 : w1.cell? ⟨mb, 1, none⟩ = some (.int .i64 nn) := HIm.out.at_ 1 _ rfl
  have m2 : w1.cell? ⟨mb, 2, none⟩ = some (.slice A2 len cap) := HIm.out.at_ 2 _ rfl
  go_enter Tryd.func44, Tryd.ntmps44
  clear m1 m2
  have b2 : (kd / 2 == 2) = false := by simp; omega
  have b3 : (kd / 2 == 3) = false := by simp; omega
  have b4 : (kd / 2 == 4) = false := by simp; omega
  have d2 : decide (kd / 2 = 2) = false := by simp; omega
  have d3 : decide (kd / 2 = 3) = false := by simp; omega
  have d4 : decide (kd / 2 = 4) = false := by simp; omega
  go_wp2
  go_ret
  exact ⟨rfl, H1.out, HC1.out.more fun _ _ f => f.elim⟩
set_option maxRecDepth 100000 in
set_option maxHeartbeats 4000000 in
theorem carry_fno {E0 : World} {X0 : Nat → Prop} (w : World) {L wb : Nat} {q lab : Nat → Nat} {s : Nat → Sm} {W : Nat → Wr} {c : Nat → Nat → Value} (h : Pp E0 X0 w L wb q lab s W c) (hs : Sen B A w) (ht : Tab B w) (hBL : B ≤ L) (hLw : L ≤ w.heap.size) {e : Nat} (he : e < 2) (o1 : Nat) (ho1 : o1 = 6 * e) (kd nn : Int) (A2 : Option Addr) (len cap : Nat) (hkd : kd / 2 = 2) (hr : rdyB (s e) = false) :
    Calls Tryd.prog 44 #[.pointer (some ⟨q e, 0, none⟩), .pointer (some ⟨q (1 - e), 0, none⟩), .pointer (some ⟨wb, o1, none⟩), .agg #[.int .i64 kd, .int .i64 nn, .slice A2 len cap]] w fun e' w' => e' = .returned (.bool true) ∧ (∃ lab' c', Pp E0 X0 w' L wb q lab' s W c') ∧ Chg (fun k => L ≤ k) w w' := by
  have H := Lib.hid h
  have HS := Lib.hid (And.intro hs (And.intro ht (And.intro hBL hLw)))
  have HE := Lib.hid (And.intro he ho1)
  clear h hs ht hBL hLw he ho1
  obtain ⟨w1, hw1⟩ : ∃ y, w.alloc (.cells #[.int .i64 kd, .int .i64 nn, .slice A2 len cap] 105) = y := ⟨_, rfl⟩
  obtain ⟨mb, hmb⟩ : ∃ y, w.heap.size = y := ⟨_, rfl⟩
  have HIm : Hid (Is w1 mb 105 #[.int .i64 kd, .int .i64 nn, .slice A2 len cap]) := by
    show Is _ _ _ _
    rw [← hw1, ← hmb]
    exact Is.new w _ _
  have HC1 : Hid (Chg none_ w w1) := by
    show Chg _ _ _
    rw [← hw1]
    exact (Chg.refl none_ w).alloc _
  have HMb : Hid (mb = w.heap.size) := hmb.symm
  have H1 := Lib.hid (H.out.keep HC1.out)
  have HBw : Hid (B ≤ w.heap.size) := Nat.le_trans HS.out.2.2.1 HS.out.2.2.2
  have HS1 : Hid (Sen B A w1 ∧ Tab B w1) := ⟨HS.out.1.below (HC1.out.old HBw.out), HS.out.2.1.below (HC1.out.old HBw.out)⟩
  have m0 : w1.cell? ⟨mb, 0, none⟩ = some (.int .i64 kd) := HIm.out.at_ 0 _ rfl
  have m1 : w1.cell? ⟨mb, 1, none⟩ = some (.int .i64 nn) := HIm.out.at_ 1 _ rfl
  have m2 : w1.cell? ⟨mb, 2, none⟩ = some (.slice A2 len cap) := HIm.out.at_ 2 _ rfl
  go_enter Tryd.func44, Tryd.ntmps44
  clear m1 m2
  have HR := Lib.hid hr
  clear hr
  go_wp2_with fail
  refine (sframe_no w1 HS1.out.1 (Nat.le_trans HBw.out HC1.out.size) (H1.out.st e HE.out.1) HR.out).mono ?_
  rintro e' w3 ⟨rfl, _, hc3⟩
  unfold frZ
  have H3 := Lib.hid (H1.out.keep hc3)
  have HC3 : Hid (Chg none_ w w3) := HC1.out.trans hc3
  clear hc3 m0
  go_wp2_with fail
  go_wp2
  go_ret
  exact ⟨rfl, ⟨_, _, H3.out.keep ((Chg.refl none_ w3).alloc _)⟩, (HC3.out.trans ((Chg.refl none_ w3).alloc _)).more fun _ _ f => f.elim⟩
set_option maxRecDepth 100000 in
set_option maxHeartbeats 4000000 in
theorem carry_fyes {E0 : World} {X0 : Nat → Prop} (w : World) {L wb : Nat} {q lab : Nat → Nat} {s : Nat → Sm} {W : Nat → Wr} {c : Nat → Nat → Value} (h : Pp E0 X0 w L wb q lab s W c) (hs : Sen B A w) (ht : Tab B w) (hBL : B ≤ L) (hLw : L ≤ w.heap.size) {e : Nat} (he : e < 2) (o1 : Nat) (ho1 : o1 = 6 * e) (kd nn : Int) (A2 : Option Addr) (len cap : Nat) (hkd : kd / 2 = 2) (hr : rdyB (s e) = true) (hbs : Byt (s e).sg) (hfl : (W e).frames.length ≤ 1073741824) :
    Calls Tryd.prog 44 #[.pointer (some ⟨q e, 0, none⟩), .pointer (some ⟨q (1 - e), 0, none⟩), .pointer (some ⟨wb, o1, none⟩), .agg #[.int .i64 kd, .int .i64 nn, .slice A2 len cap]] w fun e' w' => e' = .returned (.bool true) ∧ (∃ lab' c', Pp E0 X0 w' L wb q lab' (upd s e (frS (s e))) (upd W e { W e with frames := (W e).frames ++ [⟨(s e).sg.take (frK (s e)), frE (s e)⟩] }) c') ∧ Chg (fun k => L ≤ k) w w' := by
  have H := Lib.hid h
  have HS := Lib.hid (And.intro hs (And.intro ht (And.intro hBL hLw)))
  have HE := Lib.hid (And.intro he ho1)
  clear h hs ht hBL hLw he ho1
  obtain ⟨w1, hw1⟩ : ∃ y, w.alloc (.cells #[.int .i64 kd, .int .i64 nn, .slice A2 len cap] 105) = y := ⟨_, rfl⟩
  obtain ⟨mb, hmb⟩ : ∃ y, w.heap.size = y := ⟨_, rfl⟩
  have HIm : Hid (Is w1 mb 105 #[.int .i64 kd, .int .i64 nn, .slice A2 len cap]) := by
    show Is _ _ _ _
    rw [← hw1, ← hmb]
    exact Is.new w _ _
  have HC1 : Hid (Chg none_ w w1) := by
    show Chg _ _ _
    rw [← hw1]
    exact (Chg.refl none_ w).alloc _
  have HMb : Hid (mb = w.heap.size) := hmb.symm
  have H1 := Lib.hid (H.out.keep HC1.out)
  have HBw : Hid (B ≤ w.heap.size) := Nat.le_trans HS.out.2.2.1 HS.out.2.2.2
  have HS1 : Hid (Sen B A w1 ∧ Tab B w1) := ⟨HS.out.1.below (HC1.out.old HBw.out), HS.out.2.1.below (HC1.out.old HBw.out)⟩
  have m0 : w1.cell? ⟨mb, 0, none⟩ = some (.int .i64 kd) := HIm.out.at_ 0 _ rfl
  have m1 : w1.cell? ⟨mb, 1, none⟩ = some (.int .i64 nn) := HIm.out.at_ 1 _ rfl
  have m2 : w1.cell? ⟨mb, 2, none⟩ = some (.slice A2 len cap) := HIm.out.at_ 2 _ rfl
  go_enter Tryd.func44, Tryd.ntmps44
  clear m1 m2
  have HR := Lib.hid (And.intro hr (And.intro hbs hfl))
  clear hr hbs hfl
  have CF : Hid (∃ (flg fid fk : Int), flg = (if frE (s e) then 4 else 0) ∧ Calls Tryd.prog 29 #[.pointer (some ⟨q e, 0, none⟩)] w1 fun e' w' => ∃ A4 n4 k4, e' = .returned (.tuple #[.agg #[.int .u8 0, .int .u8 0, .int .u16 flg, .int .u32 fid, .int .u32 fk, .slice A4 n4 k4], .bool true]) ∧ n4 = frK (s e) ∧ Ob w' w1.heap.size 5 (.slice A4 n4 k4) n4 (u8s ((s e).sg.take n4)) ∧ Pst w' (fun k => L ≤ k ∧ k < w1.heap.size ∧ lab k = e) (q e) (frS (s e)) ∧ Chg (fun k => L ≤ k ∧ k < w1.heap.size ∧ lab k = e) w1 w') := by
    refine ⟨(if frE (s e) then 4 else 0), (s e).id, ((frK (s e) : Nat) : Int), rfl, (sframe_yes w1 HS1.out.1 HS1.out.2 (Nat.le_trans HBw.out HC1.out.size) (H1.out.st e HE.out.1) (fun k hk => Nat.le_trans HS.out.2.2.1 hk.1) HR.out.1).mono ?_⟩
    rintro e' w' ⟨v, e1, e2, e3, e4⟩
    obtain ⟨A4, k4, rfl, _, _⟩ := e2.slice
    exact ⟨A4, _, k4, e1, rfl, e2, e3, e4⟩
  obtain ⟨flg, fid, fk, hflg, cf⟩ := CF.out
  have HFlg := Lib.hid hflg
  have HCf := Lib.hid cf
  clear CF hflg cf
  go_wp2_with fail
  refine HCf.out.mono ?_
  rintro e' w3 ⟨A4, n4, k4, rfl, hn4, ho, hp3, hc3⟩
  have H3 := Lib.hid (H1.out.framed HE.out.1 hp3 hc3)
  have HC3 : Hid (Chg (fun k => L ≤ k) w w3) := (HC1.out.more fun _ _ f => f.elim).trans (hc3.more fun k _ hk => hk.1)
  have HN4 := Lib.hid hn4
  have HO3 := Lib.hid ho
  have HZ13 : Hid (w1.heap.size ≤ w3.heap.size) := hc3.size
  clear hc3 hp3 hn4 ho m0
  obtain ⟨w4, hw4⟩ : ∃ y, w3.alloc (.cells #[.int .u8 0, .int .u8 0, .int .u16 flg, .int .u32 fid, .int .u32 fk, .slice A4 n4 k4] 72) = y := ⟨_, rfl⟩
  have hc4 : Chg none_ w3 w4 := by rw [← hw4]; exact (Chg.refl none_ w3).alloc _
  have HIf : Hid (Is w4 w3.heap.size 72 #[.int .u8 0, .int .u8 0, .int .u16 flg, .int .u32 fid, .int .u32 fk, .slice A4 n4 k4]) := by
    show Is _ _ _ _
    rw [← hw4]
    exact Is.new w3 _ _
  have HC34 := Lib.hid hc4
  have H4 := Lib.hid (H3.out.keep hc4)
  clear hc4
  have HQ4 := Lib.hid (H4.out.wq e HE.out.1)
  obtain ⟨fvs, hf1, hf2⟩ := HQ4.out.fr
  obtain ⟨A7, k7, hv7, _, _⟩ := hf2.slice
  obtain ⟨rl, hrl⟩ : ∃ y, (W e).frames.length = y := ⟨_, rfl⟩
  rw [hrl] at hv7
  have HG4 : Hid (Fq w4 L 72 6 (.slice A7 rl k7) rl fvs.flatten) := by
    show Fq _ _ _ _ _ _ _
    rw [← hv7, ← hrl]
    exact hf2
  have HF1 := Lib.hid hf1
  have HV7 := Lib.hid hv7
  have HRl := Lib.hid hrl
  clear hf1 hf2 hv7 hrl
  have hwb4 : wb < w3.heap.size := H3.out.im.lt
  have hz4 : L ≤ w4.heap.size := Nat.le_trans HS.out.2.2.2 (Nat.le_trans HC3.out.size HC34.out.size)
  have hqb : ∀ k, obk (.slice A7 rl k7) = some k → k < w3.heap.size := fun k hk => ((H3.out.wq e HE.out.1).fr.elim fun _ h2 => h2.2.block k (by rw [HV7.out]; exact hk)).2
  have HN := Lib.hid (And.intro hwb4 (And.intro hz4 hqb))
  clear hwb4 hz4 hqb
  have HI4 : Hid (Is w4 wb 103 (wcells c)) := H4.out.im
  go_wp2_with fail
  refine wp_region_held_drew (S := fun u => Chg (fun k => k = wb ∨ obk (.slice A7 rl k7) = some k) w4 u) (by kernel_rfl) ((Chg.refl _ w4).drew) (fun hS0 => ?_)
  refine take_at 24 (i := 0) (v := .pointer (some ⟨wb, o1, none⟩)) rfl (by kernel_rfl) (by kernel_rfl) (by kernel_rfl) (by kernel_rfl) (fun _ _ _ h => h) (Or.inl ⟨by kernel_rfl, by intro u hSw; (try dsimp only at hSw); go_simp⟩) (by assumption) ?_
  try simp only [Act.put, List.setIfInBounds_toArray, List.set_cons_zero, List.set_cons_succ]
  refine take_at 25 (i := 1) (v := .pointer (some ⟨wb, o1, none⟩)) rfl (by kernel_rfl) (by kernel_rfl) (by kernel_rfl) (by kernel_rfl) (fun _ _ _ h => h) (Or.inl ⟨by kernel_rfl, by intro u hSw; (try dsimp only at hSw); go_simp⟩) (by assumption) ?_
  try simp only [Act.put, List.setIfInBounds_toArray, List.set_cons_zero, List.set_cons_succ]
  refine take_at 26 (i := 2) (v := .pointer (some ⟨wb, o1, none⟩)) rfl (by kernel_rfl) (by kernel_rfl) (by kernel_rfl) (by kernel_rfl) (fun _ _ _ h => h) (Or.inl ⟨by kernel_rfl, by intro u hSw; (try dsimp only at hSw); go_simp⟩) (by assumption) ?_
  try simp only [Act.put, List.setIfInBounds_toArray, List.set_cons_zero, List.set_cons_succ]
  refine take_at 27 (i := 3) (v := .pointer (some ⟨wb, o1 + 2, none⟩)) rfl (by kernel_rfl) (by kernel_rfl) (by kernel_rfl) (by kernel_rfl) (fun _ _ _ h => h) (Or.inl ⟨by kernel_rfl, by intro u hSw; (try dsimp only at hSw); go_simp⟩) (by assumption) ?_
  try simp only [Act.put, List.setIfInBounds_toArray, List.set_cons_zero, List.set_cons_succ]
  refine take_at 29 (i := 5) (v := .agg #[.int .u8 0, .int .u8 0, .int .u16 flg, .int .u32 fid, .int .u32 fk, .slice A4 n4 k4]) rfl (by kernel_rfl) (by kernel_rfl) (by kernel_rfl) (by kernel_rfl) (fun _ _ _ h => h) (Or.inl ⟨by kernel_rfl, fun u hSw => yields_load_part 72 (.tmp 9) rfl w3.heap.size 0 rfl [.int .u8 0, .int .u8 0, .int .u16 flg, .int .u32 fid, .int .u32 fk, .slice A4 n4 k4] (HIf.out.chg hSw fun hk => by have := HN.out.1; rcases hk with hk | hk; (omega); have := HN.out.2.2 _ hk; omega) rfl Tryd.underlying72 rfl szFm⟩) (by assumption) ?_
  try simp only [Act.put, List.setIfInBounds_toArray, List.set_cons_zero, List.set_cons_succ]
  obtain ⟨u0, hu0⟩ : ∃ y, w4.drew = y := ⟨_, rfl⟩
  have HC0 : Hid (Chg none_ w4 u0) := by
    show Chg _ _ _
    rw [← hu0]
    exact (Chg.refl _ w4).drew
  have c2 : u0.cell? ⟨wb, o1 + 2, none⟩ = some (.slice A7 rl k7) := by
    rw [HE.out.2, ← HV7.out]
    exact (HI4.out.chg HC0.out fun f => f).at_ _ _ (wcells_at (j := 2) c HE.out.1 (by decide))
  rw [hu0] at hS0 ⊢
  clear hu0 hw4
  refine wpAnyH_ready (rs := [4, 6]) (by kernel_rfl) (by simp) ?_
  refine AllReadyH.cons rfl (fun K hK => ?_) (AllReadyH.cons rfl (fun K hK => ?_) AllReadyH.nil)
  · go_simp
    refine hK.out _ _ hS0 (fun _ => ?_)
    clear hK K
    try simp only [Act.put, List.setIfInBounds_toArray, List.set_cons_zero, List.set_cons_succ]
    refine wpAnyH_ready (rs := [6]) (by kernel_rfl) (by simp) ?_
    refine AllReadyH.cons rfl (fun K hK => ?_) AllReadyH.nil
    go_simp
    refine hK.out _ _ (hS0.alloc _) (fun _ => ?_)
    clear hK K
    try simp only [Act.put, List.setIfInBounds_toArray, List.set_cons_zero, List.set_cons_succ]
    refine wpAnyH_ready (rs := [7]) (by kernel_rfl) (by simp) ?_
    refine AllReadyH.cons rfl (fun K hK => ?_) AllReadyH.nil
    refine step_append_frame rfl (.tmp 28) (.tmp 30) rfl rfl ((HG4.out.keep HC0.out).keep ((Chg.refl none_ u0).alloc _)) u0.heap.size 1 [.int .u8 0, .int .u8 0, .int .u16 flg, .int .u32 fid, .int .u32 fk, .slice A4 n4 k4] rfl rfl (Is.new u0 _ _) (by simp [Value.oneCell']) (by have := HR.out.2.2; have := HRl.out; omega) (by have := HN.out.2.1; have := HC0.out.size; simp; omega) ?_
    intro v6 w6 j1 j2 j3
    obtain ⟨A6, k6, rfl, _, _⟩ := j1.slice
    have HF6 : Hid (Chg (fun k => k < w4.heap.size ∧ L ≤ k ∧ relab lab w1.heap.size 11 k = 7 + e) w4 w6) := ((HC0.out.more fun _ _ f => f.elim).alloc _).grown j2 fun k hk _ => ⟨(HG4.out.block k hk).2, (HG4.out.block k hk).1, HQ4.out.frL k (by rw [HV7.out]; exact hk)⟩
    have HS6 := Lib.hid ((hS0.alloc (.cells #[.int .u8 0, .int .u8 0, .int .u16 flg, .int .u32 fid, .int .u32 fk, .slice A4 n4 k4] 72)).grown j2 fun k hk _ => .inr hk)
    have J1 := Lib.hid j1
    have J3 := Lib.hid j3
    clear j1 j2 j3
    refine hK.out _ _ HS6.out (fun _ => ?_)
    clear hK K
    try simp only [Act.put, List.setIfInBounds_toArray, List.set_cons_zero, List.set_cons_succ]
    refine take_at 32 (i := 8) (v := .pointer (some ⟨wb, o1, none⟩)) rfl (by kernel_rfl) (by kernel_rfl) (by kernel_rfl) (by kernel_rfl) (fun _ _ _ h => h) (Or.inl ⟨by kernel_rfl, by intro u hSw; (try dsimp only at hSw); go_simp⟩) (by assumption) ?_
    try simp only [Act.put, List.setIfInBounds_toArray, List.set_cons_zero, List.set_cons_succ]
    refine take_at 33 (i := 9) (v := .pointer (some ⟨wb, o1 + 2, none⟩)) rfl (by kernel_rfl) (by kernel_rfl) (by kernel_rfl) (by kernel_rfl) (fun _ _ _ h => h) (Or.inl ⟨by kernel_rfl, by intro u hSw; (try dsimp only at hSw); go_simp⟩) (by assumption) ?_
    try simp only [Act.put, List.setIfInBounds_toArray, List.set_cons_zero, List.set_cons_succ]
    refine wpAnyH_ready (rs := [10]) (by kernel_rfl) (by simp) ?_
    refine AllReadyH.cons rfl (fun K hK => ?_) AllReadyH.nil
    have HI6 := HI4.out.chg HF6.out fun hk => by have h2 := H4.out.hb.2; have := hk.2.2; omega
    have f1 : w6.frozen? ⟨wb, o1 + 2, none⟩ = false := HI6.frozen _
    have f0 : ∃ y, w6.cell? ⟨wb, o1 + 2, none⟩ = some y := ⟨_, by
      rw [HE.out.2]
      exact HI6.at_ _ _ (wcells_at (j := 2) _ HE.out.1 (by decide))⟩
    obtain ⟨y6, f0⟩ := f0
    go_simp
    refine hK.out _ _ (HS6.out.setCell (p := ⟨wb, o1 + 2, none⟩) (fun _ => .inl rfl) _) (fun _ => ?_)
    clear hK K f0 f1 HI6 c2 hS0
    try simp only [Act.put, List.setIfInBounds_toArray, List.set_cons_zero, List.set_cons_succ]
    refine wpAnyH_done (by kernel_rfl) ?_ _
    go_wp2
    go_ret
    have hz6 : w4.heap.size ≤ w6.heap.size := HF6.out.size
    have e3 : (W e).frames.length + 1 = rl + 1 := by rw [HRl.out]
    have hW6 := HQ4.out.frames' (lab' := relab (relab lab w1.heap.size 11) w4.heap.size (7 + e)) (v := .slice A6 (rl + 1) k6) (fs := (W e).frames ++ [⟨(s e).sg.take (frK (s e)), frE (s e)⟩]) (fvs := fvs ++ [[.int .u8 0, .int .u8 0, .int .u16 flg, .int .u32 fid, .int .u32 fk, .slice A4 n4 k4]]) HF6.out (fun k _ hk => hk.2.2) (fun k hk => relab_old hk) HE.out.1 (by
      refine All2.app (HF1.out.monoR fun a b hab => hab.chg HF6.out (fun k hk hs => by have := hs.2.2; have := HE.out.1; omega) fun k hk => relab_old hk) (.cons ?_ .nil)
      refine ⟨fid, fk, A4, n4, k4, by rw [HFlg.out], ?_, fun b hb => ?_⟩
      · have hb0 := BsO.of_ob HO3.out (HR.out.2.1.take n4)
        rw [← HN4.out]
        refine (hb0.chg HC34.out fun b hb => ⟨(HO3.out.block b (HO3.out.rdk b hb)).2, fun f => f⟩).chg HF6.out fun b hb => ?_
        have hbb := HO3.out.block b (HO3.out.rdk b hb)
        exact ⟨Nat.lt_of_lt_of_le hbb.2 HC34.out.size, fun hs => by have h9 := hs.2.2; rw [relab_new hbb.1] at h9; have := HE.out.1; omega⟩
      · have hbb := HO3.out.block b (HO3.out.rdk b hb)
        have h34 := HC34.out.size
        refine ⟨Nat.le_trans (Nat.le_trans HS.out.2.2.2 HC1.out.size) hbb.1, by omega, ?_⟩
        rw [relab_old (by omega), relab_new hbb.1])
      (by
        rw [List.length_append, List.flatten_append, List.length_singleton, HRl.out]
        simpa using J1.out)
      (fun k hk => by
        rcases J3.out with k3 | k3
        · rw [hk] at k3
          have hb := HG4.out.block k k3.symm
          rw [relab_old hb.2]
          exact HQ4.out.frL k (by rw [HV7.out]; exact k3.symm)
        · rw [hk] at k3
          refine relab_new ?_
          have h5 := Option.some.inj k3
          have := HC0.out.size
          rw [h5]
          simp
          omega)
    have HP7 := H4.out.stored (j := 2) HE.out.1 (by decide) (by have := HE.out.1; omega) (by have := HE.out.1; omega) HF6.out _ hW6
    have hw7 : Chg (fun k => L ≤ k) w6 (w6.setCell ⟨wb, 6 * e + 2, none⟩ (.slice A6 (rl + 1) k6)) := (Chg.refl (fun k => L ≤ k) w6).setCell (p := ⟨wb, 6 * e + 2, none⟩) (fun _ => H3.out.hb.1) _
    rw [show 6 * e + 2 = o1 + 2 by have := HE.out.2; omega] at HP7 hw7
    exact ⟨rfl, ⟨_, _, HP7⟩, ((HC3.out.trans (HC34.out.more fun _ _ f => f.elim)).trans (HF6.out.more fun k _ hk => hk.2.1)).trans hw7⟩
  · go_simp
    refine hK.out _ _ (hS0.alloc _) (fun _ => ?_)
    clear hK K
    try simp only [Act.put, List.setIfInBounds_toArray, List.set_cons_zero, List.set_cons_succ]
    refine wpAnyH_ready (rs := [4]) (by kernel_rfl) (by simp) ?_
    refine AllReadyH.cons rfl (fun K hK => ?_) AllReadyH.nil
    have c2a : (u0.alloc (.cells #[.int .u8 0, .int .u8 0, .int .u16 flg, .int .u32 fid, .int .u32 fk, .slice A4 n4 k4] 72)).cell? ⟨wb, o1 + 2, none⟩ = some (.slice A7 rl k7) := by
      rw [HE.out.2, ← HV7.out]
      exact ((HI4.out.chg HC0.out fun f => f).alloc _).at_ _ _ (wcells_at (j := 2) c HE.out.1 (by decide))
    go_simp
    refine hK.out _ _ (hS0.alloc _) (fun _ => ?_)
    clear hK K c2a
    try simp only [Act.put, List.setIfInBounds_toArray, List.set_cons_zero, List.set_cons_succ]
    refine wpAnyH_ready (rs := [7]) (by kernel_rfl) (by simp) ?_
    refine AllReadyH.cons rfl (fun K hK => ?_) AllReadyH.nil
    refine step_append_frame rfl (.tmp 28) (.tmp 30) rfl rfl ((HG4.out.keep HC0.out).keep ((Chg.refl none_ u0).alloc _)) u0.heap.size 1 [.int .u8 0, .int .u8 0, .int .u16 flg, .int .u32 fid, .int .u32 fk, .slice A4 n4 k4] rfl rfl (Is.new u0 _ _) (by simp [Value.oneCell']) (by have := HR.out.2.2; have := HRl.out; omega) (by have := HN.out.2.1; have := HC0.out.size; simp; omega) ?_
    intro v6 w6 j1 j2 j3
    obtain ⟨A6, k6, rfl, _, _⟩ := j1.slice
    have HF6 : Hid (Chg (fun k => k < w4.heap.size ∧ L ≤ k ∧ relab lab w1.heap.size 11 k = 7 + e) w4 w6) := ((HC0.out.more fun _ _ f => f.elim).alloc _).grown j2 fun k hk _ => ⟨(HG4.out.block k hk).2, (HG4.out.block k hk).1, HQ4.out.frL k (by rw [HV7.out]; exact hk)⟩
    have HS6 := Lib.hid ((hS0.alloc (.cells #[.int .u8 0, .int .u8 0, .int .u16 flg, .int .u32 fid, .int .u32 fk, .slice A4 n4 k4] 72)).grown j2 fun k hk _ => .inr hk)
    have J1 := Lib.hid j1
    have J3 := Lib.hid j3
    clear j1 j2 j3
    refine hK.out _ _ HS6.out (fun _ => ?_)
    clear hK K
    try simp only [Act.put, List.setIfInBounds_toArray, List.set_cons_zero, List.set_cons_succ]
    refine take_at 32 (i := 8) (v := .pointer (some ⟨wb, o1, none⟩)) rfl (by kernel_rfl) (by kernel_rfl) (by kernel_rfl) (by kernel_rfl) (fun _ _ _ h => h) (Or.inl ⟨by kernel_rfl, by intro u hSw; (try dsimp only at hSw); go_simp⟩) (by assumption) ?_
    try simp only [Act.put, List.setIfInBounds_toArray, List.set_cons_zero, List.set_cons_succ]
    refine take_at 33 (i := 9) (v := .pointer (some ⟨wb, o1 + 2, none⟩)) rfl (by kernel_rfl) (by kernel_rfl) (by kernel_rfl) (by kernel_rfl) (fun _ _ _ h => h) (Or.inl ⟨by kernel_rfl, by intro u hSw; (try dsimp only at hSw); go_simp⟩) (by assumption) ?_
    try simp only [Act.put, List.setIfInBounds_toArray, List.set_cons_zero, List.set_cons_succ]
    refine wpAnyH_ready (rs := [10]) (by kernel_rfl) (by simp) ?_
    refine AllReadyH.cons rfl (fun K hK => ?_) AllReadyH.nil
    have HI6 := HI4.out.chg HF6.out fun hk => by have h2 := H4.out.hb.2; have := hk.2.2; omega
    have f1 : w6.frozen? ⟨wb, o1 + 2, none⟩ = false := HI6.frozen _
    have f0 : ∃ y, w6.cell? ⟨wb, o1 + 2, none⟩ = some y := ⟨_, by
      rw [HE.out.2]
      exact HI6.at_ _ _ (wcells_at (j := 2) _ HE.out.1 (by decide))⟩
    obtain ⟨y6, f0⟩ := f0
    go_simp
    refine hK.out _ _ (HS6.out.setCell (p := ⟨wb, o1 + 2, none⟩) (fun _ => .inl rfl) _) (fun _ => ?_)
    clear hK K f0 f1 HI6 c2 hS0
    try simp only [Act.put, List.setIfInBounds_toArray, List.set_cons_zero, List.set_cons_succ]
    refine wpAnyH_done (by kernel_rfl) ?_ _
    go_wp2
    go_ret
    have hz6 : w4.heap.size ≤ w6.heap.size := HF6.out.size
    have e3 : (W e).frames.length + 1 = rl + 1 := by rw [HRl.out]
    have hW6 := HQ4.out.frames' (lab' := relab (relab lab w1.heap.size 11) w4.heap.size (7 + e)) (v := .slice A6 (rl + 1) k6) (fs := (W e).frames ++ [⟨(s e).sg.take (frK (s e)), frE (s e)⟩]) (fvs := fvs ++ [[.int .u8 0, .int .u8 0, .int .u16 flg, .int .u32 fid, .int .u32 fk, .slice A4 n4 k4]]) HF6.out (fun k _ hk => hk.2.2) (fun k hk => relab_old hk) HE.out.1 (by
      refine All2.app (HF1.out.monoR fun a b hab => hab.chg HF6.out (fun k hk hs => by have := hs.2.2; have := HE.out.1; omega) fun k hk => relab_old hk) (.cons ?_ .nil)
      refine ⟨fid, fk, A4, n4, k4, by rw [HFlg.out], ?_, fun b hb => ?_⟩
      · have hb0 := BsO.of_ob HO3.out (HR.out.2.1.take n4)
        rw [← HN4.out]
        refine (hb0.chg HC34.out fun b hb => ⟨(HO3.out.block b (HO3.out.rdk b hb)).2, fun f => f⟩).chg HF6.out fun b hb => ?_
        have hbb := HO3.out.block b (HO3.out.rdk b hb)
        exact ⟨Nat.lt_of_lt_of_le hbb.2 HC34.out.size, fun hs => by have h9 := hs.2.2; rw [relab_new hbb.1] at h9; have := HE.out.1; omega⟩
      · have hbb := HO3.out.block b (HO3.out.rdk b hb)
        have h34 := HC34.out.size
        refine ⟨Nat.le_trans (Nat.le_trans HS.out.2.2.2 HC1.out.size) hbb.1, by omega, ?_⟩
        rw [relab_old (by omega), relab_new hbb.1])
      (by
        rw [List.length_append, List.flatten_append, List.length_singleton, HRl.out]
        simpa using J1.out)
      (fun k hk => by
        rcases J3.out with k3 | k3
        · rw [hk] at k3
          have hb := HG4.out.block k k3.symm
          rw [relab_old hb.2]
          exact HQ4.out.frL k (by rw [HV7.out]; exact k3.symm)
        · rw [hk] at k3
          refine relab_new ?_
          have h5 := Option.some.inj k3
          have := HC0.out.size
          rw [h5]
          simp
          omega)
    have HP7 := H4.out.stored (j := 2) HE.out.1 (by decide) (by have := HE.out.1; omega) (by have := HE.out.1; omega) HF6.out _ hW6
    have hw7 : Chg (fun k => L ≤ k) w6 (w6.setCell ⟨wb, 6 * e + 2, none⟩ (.slice A6 (rl + 1) k6)) := (Chg.refl (fun k => L ≤ k) w6).setCell (p := ⟨wb, 6 * e + 2, none⟩) (fun _ => H3.out.hb.1) _
    rw [show 6 * e + 2 = o1 + 2 by have := HE.out.2; omega] at HP7 hw7
    exact ⟨rfl, ⟨_, _, HP7⟩, ((HC3.out.trans (HC34.out.more fun _ _ f => f.elim)).trans (HF6.out.more fun k _ hk => hk.2.1)).trans hw7⟩
set_option maxRecDepth 100000 in
set_option maxHeartbeats 4000000 in
theorem carry_dl0 {E0 : World} {X0 : Nat → Prop} (w : World) {L wb : Nat} {q lab : Nat → Nat} {s : Nat → Sm} {W : Nat → Wr} {c : Nat → Nat → Value} (h : Pp E0 X0 w L wb q lab s W c) (hs : Sen B A w) (ht : Tab B w) (hBL : B ≤ L) (hLw : L ≤ w.heap.size) {e : Nat} (he : e < 2) (o1 : Nat) (ho1 : o1 = 6 * e) (kd nn : Int) (A2 : Option Addr) (len cap : Nat) (hkd : kd / 2 = 3) (h0 : (W e).frames = []) :
    Calls Tryd.prog 44 #[.pointer (some ⟨q e, 0, none⟩), .pointer (some ⟨q (1 - e), 0, none⟩), .pointer (some ⟨wb, o1, none⟩), .agg #[.int .i64 kd, .int .i64 nn, .slice A2 len cap]] w fun e' w' => e' = .returned (.bool true) ∧ Pp E0 X0 w' L wb q lab s W c ∧ Chg (fun k => L ≤ k) w w' := by
  have H := Lib.hid h
  have HS := Lib.hid (And.intro hs (And.intro ht (And.intro hBL hLw)))
  have HE := Lib.hid (And.intro he ho1)
  clear h hs ht hBL hLw he ho1
  obtain ⟨w1, hw1⟩ : ∃ y, w.alloc (.cells #[.int .i64 kd, .int .i64 nn, .slice A2 len cap] 105) = y := ⟨_, rfl⟩
  obtain ⟨mb, hmb⟩ : ∃ y, w.heap.size = y := ⟨_, rfl⟩
  have HIm : Hid (Is w1 mb 105 #[.int .i64 kd, .int .i64 nn, .slice A2 len cap]) := by
    show Is _ _ _ _
    rw [← hw1, ← hmb]
    exact Is.new w _ _
  have HC1 : Hid (Chg none_ w w1) := by
    show Chg _ _ _
    rw [← hw1]
    exact (Chg.refl none_ w).alloc _
  have HMb : Hid (mb = w.heap.size) := hmb.symm
  have H1 := Lib.hid (H.out.keep HC1.out)
  have HBw : Hid (B ≤ w.heap.size) := Nat.le_trans HS.out.2.2.1 HS.out.2.2.2
  have HS1 : Hid (Sen B A w1 ∧ Tab B w1) := ⟨HS.out.1.below (HC1.out.old HBw.out), HS.out.2.1.below (HC1.out.old HBw.out)⟩
  have m0 : w1.cell? ⟨mb, 0, none⟩ = some (.int .i64 kd) := HIm.out.at_ 0 _ rfl
  have m1 : w1.cell? ⟨mb, 1, none⟩ = some (.int .i64 nn) := HIm.out.at_ 1 _ rfl
  have m2 : w1.cell? ⟨mb, 2, none⟩ = some (.slice A2 len cap) := HIm.out.at_ 2 _ rfl
  go_enter Tryd.func44, Tryd.ntmps44
  clear m1 m2
  have HQ1 := Lib.hid (H1.out.wq e HE.out.1)
  obtain ⟨fvs, hf1, hf2⟩ := HQ1.out.fr
  obtain ⟨A7, k7, hv7, _, _⟩ := hf2.slice
  rw [h0] at hv7
  clear hf1 hf2
  have c2 : w1.cell? ⟨wb, o1 + 2, none⟩ = some (.slice A7 0 k7) := by
    rw [HE.out.2]
    refine (H1.out.im.at_ _ _ (wcells_at (j := 2) c HE.out.1 (by decide))).trans ?_
    rw [hv7]
    rfl
  clear hv7 h0
  go_wp2
  go_ret
  exact ⟨rfl, H1.out, HC1.out.more fun _ _ f => f.elim⟩
set_option maxRecDepth 100000 in
set_option maxHeartbeats 4000000 in
theorem carry_gr0 {E0 : World} {X0 : Nat → Prop} (w : World) {L wb : Nat} {q lab : Nat → Nat} {s : Nat → Sm} {W : Nat → Wr} {c : Nat → Nat → Value} (h : Pp E0 X0 w L wb q lab s W c) (hs : Sen B A w) (ht : Tab B w) (hBL : B ≤ L) (hLw : L ≤ w.heap.size) {e : Nat} (he : e < 2) (o1 : Nat) (ho1 : o1 = 6 * e) (kd nn : Int) (A2 : Option Addr) (len cap : Nat) (hkd : kd / 2 = 4) (h0 : (W e).grants = []) :
    Calls Tryd.prog 44 #[.pointer (some ⟨q e, 0, none⟩), .pointer (some ⟨q (1 - e), 0, none⟩), .pointer (some ⟨wb, o1, none⟩), .agg #[.int .i64 kd, .int .i64 nn, .slice A2 len cap]] w fun e' w' => e' = .returned (.bool true) ∧ Pp E0 X0 w' L wb q lab s W c ∧ Chg (fun k => L ≤ k) w w' := by
  have H := Lib.hid h
  have HS := Lib.hid (And.intro hs (And.intro ht (And.intro hBL hLw)))
  have HE := Lib.hid (And.intro he ho1)
  clear h hs ht hBL hLw he ho1
  obtain ⟨w1, hw1⟩ : ∃ y, w.alloc (.cells #[.int .i64 kd, .int .i64 nn, .slice A2 len cap] 105) = y := ⟨_, rfl⟩
  obtain ⟨mb, hmb⟩ : ∃ y, w.heap.size = y := ⟨_, rfl⟩
  have HIm : Hid (Is w1 mb 105 #[.int .i64 kd, .int .i64 nn, .slice A2 len cap]) := by
    show Is _ _ _ _
    rw [← hw1, ← hmb]
    exact Is.new w _ _
  have HC1 : Hid (Chg none_ w w1) := by
    show Chg _ _ _
    rw [← hw1]
    exact (Chg.refl none_ w).alloc _
  have HMb : Hid (mb = w.heap.size) := hmb.symm
  have H1 := Lib.hid (H.out.keep HC1.out)
  have HBw : Hid (B ≤ w.heap.size) := Nat.le_trans HS.out.2.2.1 HS.out.2.2.2
  have HS1 : Hid (Sen B A w1 ∧ Tab B w1) := ⟨HS.out.1.below (HC1.out.old HBw.out), HS.out.2.1.below (HC1.out.old HBw.out)⟩
  have m0 : w1.cell? ⟨mb, 0, none⟩ = some (.int .i64 kd) := HIm.out.at_ 0 _ rfl
  have m1 : w1.cell? ⟨mb, 1, none⟩ = some (.int .i64 nn) := HIm.out.at_ 1 _ rfl
  have m2 : w1.cell? ⟨mb, 2, none⟩ = some (.slice A2 len cap) := HIm.out.at_ 2 _ rfl
  go_enter Tryd.func44, Tryd.ntmps44
  clear m1 m2
  have HQ1 := Lib.hid (H1.out.wq e HE.out.1)
  obtain ⟨A7, k7, hv7, _, _⟩ := HQ1.out.gr.slice
  rw [h0] at hv7
  have c3 : w1.cell? ⟨wb, o1 + 3, none⟩ = some (.slice A7 0 k7) := by
    rw [HE.out.2]
    refine (H1.out.im.at_ _ _ (wcells_at (j := 3) c HE.out.1 (by decide))).trans ?_
    rw [hv7]
    rfl
  clear hv7 h0
  go_wp2
  go_ret
  exact ⟨rfl, H1.out, HC1.out.more fun _ _ f => f.elim⟩
set_option maxRecDepth 100000 in
set_option maxHeartbeats 4000000 in
theorem carry_gr {E0 : World} {X0 : Nat → Prop} (w : World) {L wb : Nat} {q lab : Nat → Nat} {s : Nat → Sm} {W : Nat → Wr} {c : Nat → Nat → Value} (h : Pp E0 X0 w L wb q lab s W c) (hs : Sen B A w) (ht : Tab B w) (hBL : B ≤ L) (hLw : L ≤ w.heap.size) {e : Nat} (he : e < 2) (o1 : Nat) (ho1 : o1 = 6 * e) (kd nn : Int) (A2 : Option Addr) (len cap : Nat) (hkd : kd / 2 = 4) (d : Int) (gs : List Int) (hgr : (W e).grants = d :: gs) (hd : 0 ≤ d) (hd1 : d ≤ 4294967295) (hgc : gnC (s e) d = 0) :
    Calls Tryd.prog 44 #[.pointer (some ⟨q e, 0, none⟩), .pointer (some ⟨q (1 - e), 0, none⟩), .pointer (some ⟨wb, o1, none⟩), .agg #[.int .i64 kd, .int .i64 nn, .slice A2 len cap]] w fun e' w' => e' = .returned (.bool true) ∧ (∃ lab' c', Pp E0 X0 w' L wb q lab' (upd s e (gnS (s e) d false)) (upd W e { W e with grants := gs }) c') ∧ Chg (fun k => L ≤ k) w w' := by
  have H := Lib.hid h
  have HS := Lib.hid (And.intro hs (And.intro ht (And.intro hBL hLw)))
  have HE := Lib.hid (And.intro he ho1)
  clear h hs ht hBL hLw he ho1
  obtain ⟨w1, hw1⟩ : ∃ y, w.alloc (.cells #[.int .i64 kd, .int .i64 nn, .slice A2 len cap] 105) = y := ⟨_, rfl⟩
  obtain ⟨mb, hmb⟩ : ∃ y, w.heap.size = y := ⟨_, rfl⟩
  have HIm : Hid (Is w1 mb 105 #[.int .i64 kd, .int .i64 nn, .slice A2 len cap]) := by
    show Is _ _ _ _
    rw [← hw1, ← hmb]
    exact Is.new w _ _
  have HC1 : Hid (Chg none_ w w1) := by
    show Chg _ _ _
    rw [← hw1]
    exact (Chg.refl none_ w).alloc _
  have HMb : Hid (mb = w.heap.size) := hmb.symm
  have H1 := Lib.hid (H.out.keep HC1.out)
  have HBw : Hid (B ≤ w.heap.size) := Nat.le_trans HS.out.2.2.1 HS.out.2.2.2
  have HS1 : Hid (Sen B A w1 ∧ Tab B w1) := ⟨HS.out.1.below (HC1.out.old HBw.out), HS.out.2.1.below (HC1.out.old HBw.out)⟩
  have m0 : w1.cell? ⟨mb, 0, none⟩ = some (.int .i64 kd) := HIm.out.at_ 0 _ rfl
  have m1 : w1.cell? ⟨mb, 1, none⟩ = some (.int .i64 nn) := HIm.out.at_ 1 _ rfl
  have m2 : w1.cell? ⟨mb, 2, none⟩ = some (.slice A2 len cap) := HIm.out.at_ 2 _ rfl
  go_enter Tryd.func44, Tryd.ntmps44
  clear m1 m2
  have HX := Lib.hid (And.intro hgr (And.intro hd (And.intro hd1 hgc)))
  have HQ1 := Lib.hid (H1.out.wq e HE.out.1)
  have hG := HQ1.out.gr
  rw [hgr] at hG
  obtain ⟨g, off, k7, cur, hv7, hnk, hI7, hcur, hG8, hob, hog⟩ := Fq.pop (n := gs.length) hG
  clear hG
  obtain ⟨nn_, hnn⟩ : ∃ y, gs.length = y := ⟨_, rfl⟩
  rw [hnn] at hv7 hnk hG8 hob
  have HNn := Lib.hid hnn
  obtain ⟨A8, hA8⟩ : ∃ y, (if k7 - 1 = 0 then some (⟨g, off, none⟩ : Addr) else some (Addr.add ⟨g, off, none⟩ 1)) = y := ⟨_, rfl⟩
  rw [hA8] at hG8 hob
  have HA8 := Lib.hid hA8
  have HV7 := Lib.hid hv7
  have HI7 := Lib.hid hI7
  have HG8 := Lib.hid hG8
  have HOb := Lib.hid (And.intro hob hog)
  have g0 : w1.cell? ⟨g, off, none⟩ = some (.int .u32 d) := by
    refine hI7.at_ off _ ?_
    have h2 := congrArg (fun l => l[0]?) hcur
    simpa [List.getElem?_take, List.getElem?_drop] using h2
  have c3 : w1.cell? ⟨wb, o1 + 3, none⟩ = some (.slice (some ⟨g, off, none⟩) (nn_ + 1) k7) := by
    rw [HE.out.2, ← hv7]
    exact H1.out.im.at_ _ _ (wcells_at (j := 3) c HE.out.1 (by decide))
  have f3 : w1.frozen? ⟨wb, o1 + 3, none⟩ = false := H1.out.im.frozen _
  have HNk := Lib.hid hnk
  have i0 : (0 : Int) < ((nn_ + 1 : Nat) : Int) := by omega
  have i1 : (0 : Nat) < nn_ + 1 := by omega
  clear hnn hv7 hnk hG8 hob hog hA8 hI7 hcur hgr hd hd1 hgc
  go_wp2_with (refine wpList_tail1 rfl 100 22 (.tmp 84) (.const (.int .i64 1)) rfl Tryd.underlying100 szU32 ⟨g, off, none⟩ nn_ k7 rfl rfl HNk.out A8 HA8.out ?_)
  obtain ⟨w3, hw3⟩ : ∃ y, w1.setCell ⟨wb, o1 + 3, none⟩ (.slice A8 nn_ (k7 - 1)) = y := ⟨_, rfl⟩
  have hP3 := H1.out.stored (w' := w1) (j := 3) (l := 99) HE.out.1 (by decide) (by omega) (by have := HE.out.1; omega) (Chg.refl _ _) _ (HQ1.out.grants' (S := none_) (lab' := relab lab w1.heap.size 99) (v := .slice A8 nn_ (k7 - 1)) (gs := gs) (Chg.refl _ _) (fun _ _ f => f.elim) (fun k hk => relab_old hk) HE.out.1 (by rw [HNn.out]; exact HG8.out) (fun k hk => by
    have h3 : obk (c e 3) = some k := HOb.out.1 k hk
    exact (relab_old (HQ1.out.gr.block k h3).2).trans (HQ1.out.grL k h3)))
  have hw3c : Chg (fun k => L ≤ k) w1 (w1.setCell ⟨wb, 6 * e + 3, none⟩ (.slice A8 nn_ (k7 - 1))) := (Chg.refl (fun k => L ≤ k) w1).setCell (p := ⟨wb, 6 * e + 3, none⟩) (fun _ => H1.out.hb.1) _
  rw [show 6 * e + 3 = o1 + 3 by have := HE.out.2; omega, hw3] at hP3 hw3c
  have HP3 := Lib.hid hP3
  have HC3 : Hid (Chg (fun k => L ≤ k) w w3) := (HC1.out.more fun _ _ f => f.elim).trans hw3c
  clear hP3 hw3c
  rw [hw3]
  clear hw3
  have hbel : Below B w w3 := HC3.out.below (fun k _ hk => Nat.le_trans HS.out.2.2.1 hk) HBw.out
  have HR3 : Hid (Run B A w3 w3 _ (q e) (s e)) := Run.init (HS.out.1.below hbel) (HS.out.2.1.below hbel) (Nat.le_trans HBw.out HC3.out.size) (HP3.out.st e HE.out.1) (fun k hk => Nat.le_trans HS.out.2.2.1 hk.1)
  clear hbel
  refine (run_grant HR3.out d HX.out.2.1 HX.out.2.2.1 false).mono ?_
  rintro e' w4 ⟨rfl, r4⟩
  rw [HX.out.2.2.2, show errv A 0 = .nilIface from rfl]
  have HP4 := Lib.hid (HP3.out.ran HE.out.1 (Nat.le_trans HS.out.2.2.2 HC3.out.size) r4)
  have HC4 : Hid (Chg (fun k => L ≤ k) w w4) := HC3.out.trans (r4.chg.more fun k _ hk => hk.1)
  clear r4
  go_wp2
  go_ret
  exact ⟨rfl, ⟨_, _, HP4.out⟩, HC4.out⟩
set_option maxRecDepth 100000 in
set_option maxHeartbeats 4000000 in
theorem carry_dl {E0 : World} {X0 : Nat → Prop} (w : World) {L wb : Nat} {q lab : Nat → Nat} {s : Nat → Sm} {W : Nat → Wr} {c : Nat → Nat → Value} (h : Pp E0 X0 w L wb q lab s W c) (hs : Sen B A w) (ht : Tab B w) (hBL : B ≤ L) (hLw : L ≤ w.heap.size) {e : Nat} (he : e < 2) (o1 : Nat) (ho1 : o1 = 6 * e) (kd nn : Int) (A2 : Option Addr) (len cap : Nat) (hkd : kd / 2 = 3) (f : Fr) (fs : List Fr) (hfr : (W e).frames = f :: fs) (hpl : f.pl.length ≤ 140737488355328) (hav : avC (s (1 - e)) f.pl.length = 0) :
    Calls Tryd.prog 44 #[.pointer (some ⟨q e, 0, none⟩), .pointer (some ⟨q (1 - e), 0, none⟩), .pointer (some ⟨wb, o1, none⟩), .agg #[.int .i64 kd, .int .i64 nn, .slice A2 len cap]] w fun e' w' => e' = .returned (.bool true) ∧ (∃ lab' c', Pp E0 X0 w' L wb q lab' (upd s (1 - e) (avS (s (1 - e)) f.pl f.fin)) (upd W e { W e with frames := fs }) c') ∧ Chg (fun k => L ≤ k) w w' := by
  have H := Lib.hid h
  have HS := Lib.hid (And.intro hs (And.intro ht (And.intro hBL hLw)))
  have HE := Lib.hid (And.intro he ho1)
  clear h hs ht hBL hLw he ho1
  obtain ⟨w1, hw1⟩ : ∃ y, w.alloc (.cells #[.int .i64 kd, .int .i64 nn, .slice A2 len cap] 105) = y := ⟨_, rfl⟩
  obtain ⟨mb, hmb⟩ : ∃ y, w.heap.size = y := ⟨_, rfl⟩
  have HIm : Hid (Is w1 mb 105 #[.int .i64 kd, .int .i64 nn, .slice A2 len cap]) := by
    show Is _ _ _ _
    rw [← hw1, ← hmb]
    exact Is.new w _ _
  have HC1 : Hid (Chg none_ w w1) := by
    show Chg _ _ _
    rw [← hw1]
    exact (Chg.refl none_ w).alloc _
  have HMb : Hid (mb = w.heap.size) := hmb.symm
  have H1 := Lib.hid (H.out.keep HC1.out)
  have HBw : Hid (B ≤ w.heap.size) := Nat.le_trans HS.out.2.2.1 HS.out.2.2.2
  have HS1 : Hid (Sen B A w1 ∧ Tab B w1) := ⟨HS.out.1.below (HC1.out.old HBw.out), HS.out.2.1.below (HC1.out.old HBw.out)⟩
  have m0 : w1.cell? ⟨mb, 0, none⟩ = some (.int .i64 kd) := HIm.out.at_ 0 _ rfl
  have m1 : w1.cell? ⟨mb, 1, none⟩ = some (.int .i64 nn) := HIm.out.at_ 1 _ rfl
  have m2 : w1.cell? ⟨mb, 2, none⟩ = some (.slice A2 len cap) := HIm.out.at_ 2 _ rfl
  go_enter Tryd.func44, Tryd.ntmps44
  clear m1 m2
  have HX := Lib.hid (And.intro hfr (And.intro hpl hav))
  have HQ1 := Lib.hid (H1.out.wq e HE.out.1)
  obtain ⟨fvs, hf1, hf2⟩ := HQ1.out.fr
  rw [hfr] at hf1 hf2
  cases hf1
  rename_i cs rest hfR hrest
  obtain ⟨fid, fk, A4, n4, k4, rfl, hb4, hr4⟩ := hfR
  rw [List.flatten_cons] at hf2
  obtain ⟨g, off, k7, cur, hv7, hnk, hI7, hcur, hG8, hob, hog⟩ := Fq.pop (n := fs.length) hf2
  clear hf2
  obtain ⟨nn_, hnn⟩ : ∃ y, fs.length = y := ⟨_, rfl⟩
  rw [hnn] at hv7 hnk hG8 hob
  have hG9 : ∀ x, Fq w1 L 72 6 x nn_ ((([.int .u8 0, .int .u8 0, .int .u16 (if f.fin = true then 4 else 0), .int .u32 fid, .int .u32 fk, .slice A4 n4 k4] : List Value) ++ rest.flatten).drop 6) → Fq w1 L 72 6 x nn_ rest.flatten := fun _ h => h
  have hG8 := hG9 _ hG8
  clear hG9
  have HNn := Lib.hid hnn
  obtain ⟨A8, hA8⟩ : ∃ y, (if k7 - 1 = 0 then some (⟨g, off, none⟩ : Addr) else some (Addr.add ⟨g, off, none⟩ 6)) = y := ⟨_, rfl⟩
  rw [hA8] at hG8 hob
  have hcur : (cur.toList.drop off).take 6 = [.int .u8 0, .int .u8 0, .int .u16 (if f.fin = true then 4 else 0), .int .u32 fid, .int .u32 fk, .slice A4 n4 k4] := hcur
  obtain ⟨flg, hflg⟩ : ∃ y : Int, (if f.fin = true then 4 else 0) = y := ⟨_, rfl⟩
  rw [hflg] at hcur
  have hbit : (bits BinOp.and IntKind.u16 flg 4 != 0) = f.fin := by
    rw [← hflg]
    cases f.fin <;> rfl
  have HA8 := Lib.hid hA8
  have HV7 := Lib.hid hv7
  have HI7 := Lib.hid hI7
  have HG8 := Lib.hid hG8
  have HB4 := Lib.hid (And.intro hb4 hr4)
  have HRe := Lib.hid hrest
  have HOb := Lib.hid (And.intro hob hog)
  have HCu := Lib.hid hcur
  have HBit := Lib.hid hbit
  have HFl := Lib.hid hflg
  have c2 : w1.cell? ⟨wb, o1 + 2, none⟩ = some (.slice (some ⟨g, off, none⟩) (nn_ + 1) k7) := by
    rw [HE.out.2, ← hv7]
    exact H1.out.im.at_ _ _ (wcells_at (j := 2) c HE.out.1 (by decide))
  have f2 : w1.frozen? ⟨wb, o1 + 2, none⟩ = false := H1.out.im.frozen _
  have HNk := Lib.hid hnk
  have i0 : (0 : Int) < ((nn_ + 1 : Nat) : Int) := by omega
  have i1 : (0 : Nat) < nn_ + 1 := by omega
  have gc : ∀ j u, ([.int .u8 0, .int .u8 0, .int .u16 flg, .int .u32 fid, .int .u32 fk, .slice A4 n4 k4] : List Value)[j]? = some u → w1.cell? ⟨g, off + j, none⟩ = some u := fun j u hj => by
    refine hI7.at_ (off + j) _ ?_
    rw [← hcur, List.getElem?_take] at hj
    split at hj
    · rwa [List.getElem?_drop, Array.getElem?_toList] at hj
    · cases hj
  have g0 : w1.cell? ⟨g, off, none⟩ = some (.int .u8 0) := gc 0 _ rfl
  have g1 : w1.cell? ⟨g, off + 1, none⟩ = some (.int .u8 0) := gc 1 _ rfl
  have g2 : w1.cell? ⟨g, off + 2, none⟩ = some (.int .u16 flg) := gc 2 _ rfl
  have g3 : w1.cell? ⟨g, off + 3, none⟩ = some (.int .u32 fid) := gc 3 _ rfl
  have g4 : w1.cell? ⟨g, off + 4, none⟩ = some (.int .u32 fk) := gc 4 _ rfl
  have g5 : w1.cell? ⟨g, off + 5, none⟩ = some (.slice A4 n4 k4) := gc 5 _ rfl
  obtain ⟨w2, hw2⟩ : ∃ y, w1.alloc (.cells #[.int .u8 0, .int .u8 0, .int .u16 flg, .int .u32 fid, .int .u32 fk, .slice A4 n4 k4] 72) = y := ⟨_, rfl⟩
  have HC2 : Hid (Chg none_ w1 w2) := by
    show Chg _ _ _
    rw [← hw2]
    exact (Chg.refl none_ w1).alloc _
  have HIb : Hid (Is w2 w1.heap.size 72 #[.int .u8 0, .int .u8 0, .int .u16 flg, .int .u32 fid, .int .u32 fk, .slice A4 n4 k4]) := by
    show Is _ _ _ _
    rw [← hw2]
    exact Is.new w1 _ _
  have H2 := Lib.hid (H1.out.keep HC2.out)
  have d2 : w2.cell? ⟨wb, o1 + 2, none⟩ = some (.slice (some ⟨g, off, none⟩) (nn_ + 1) k7) := by
    rw [HE.out.2, ← hv7]
    exact H2.out.im.at_ _ _ (wcells_at (j := 2) c HE.out.1 (by decide))
  have e2 : w2.frozen? ⟨wb, o1 + 2, none⟩ = false := H2.out.im.frozen _
  obtain ⟨w3, hw3⟩ : ∃ y, w2.setCell ⟨wb, o1 + 2, none⟩ (.slice A8 nn_ (k7 - 1)) = y := ⟨_, rfl⟩
  have hwbn : w1.heap.size ≠ wb := Nat.ne_of_gt H1.out.im.lt
  have HIb3 : Hid (Is w3 w1.heap.size 72 #[.int .u8 0, .int .u8 0, .int .u16 flg, .int .u32 fid, .int .u32 fk, .slice A4 n4 k4]) := by
    show Is _ _ _ _
    rw [← hw3]
    exact HIb.out.far (p := ⟨wb, o1 + 2, none⟩) hwbn _
  have p2 : w3.cell? ⟨w1.heap.size, 2, none⟩ = some (.int .u16 flg) := HIb3.out.at_ 2 _ rfl
  have p5 : w3.cell? ⟨w1.heap.size, 5, none⟩ = some (.slice A4 n4 k4) := HIb3.out.at_ 5 _ rfl
  clear hnn hv7 hnk hG8 hob hog hA8 hI7 hcur hfr hpl hav hb4 hr4 hrest hflg hbit gc hwbn
  go_wp2_with (refine wpList_tail1 rfl 99 72 (.tmp 52) (.const (.int .i64 1)) rfl Tryd.underlying99 szFm ⟨g, off, none⟩ nn_ k7 rfl rfl HNk.out A8 HA8.out ?_)
  rw [HBit.out]
  have hq2 := H2.out.wq e HE.out.1
  have hP3 := H2.out.stored (w' := w2) (j := 2) (l := 99) HE.out.1 (by decide) (by omega) (by have := HE.out.1; omega) (Chg.refl _ _) _ (hq2.frames' (S := none_) (lab' := relab lab w2.heap.size 99) (v := .slice A8 nn_ (k7 - 1)) (fs := fs) (fvs := rest) (Chg.refl _ _) (fun _ _ f => f.elim) (fun k hk => relab_old hk) HE.out.1 (HRe.out.monoR fun a b hab => (hab.chg (lab' := lab) HC2.out (fun _ _ f => f.elim) fun _ _ => rfl).chg (Chg.refl none_ w2) (fun _ _ f => f.elim) fun k hk => relab_old hk) (by rw [HNn.out]; exact HG8.out.keep HC2.out) (fun k hk => by
    have h3 : obk (c e 2) = some k := HOb.out.1 k hk
    obtain ⟨_, _, h4⟩ := hq2.fr
    exact (relab_old (h4.block k h3).2).trans (hq2.frL k h3)))
  have hw3c : Chg (fun k => k = wb) w2 (w2.setCell ⟨wb, 6 * e + 2, none⟩ (.slice A8 nn_ (k7 - 1))) := (Chg.refl (fun k => k = wb) w2).setCell (p := ⟨wb, 6 * e + 2, none⟩) (fun _ => rfl) _
  rw [show 6 * e + 2 = o1 + 2 by have := HE.out.2; omega, hw3] at hP3 hw3c
  have HP3 := Lib.hid hP3
  have HC13 : Hid (Chg (fun k => k = wb) w1 w3) := (HC2.out.more fun _ _ f => f.elim).trans hw3c
  have HC3 : Hid (Chg (fun k => L ≤ k) w w3) := (HC1.out.more fun _ _ f => f.elim).trans (HC13.out.more fun k _ hk => by subst hk; exact H.out.hb.1)
  clear hP3 hw3c hw3 hw2 hq2
  have hbel : Below B w w3 := HC3.out.below (fun k _ hk => Nat.le_trans HS.out.2.2.1 hk) HBw.out
  have hst := HP3.out.st (1 - e) (by omega)
  have HR3 : Hid (Run B A w3 w3 _ (q (1 - e)) (s (1 - e))) := Run.init (HS.out.1.below hbel) (HS.out.2.1.below hbel) (Nat.le_trans HBw.out HC3.out.size) hst (fun k hk => Nat.le_trans HS.out.2.2.1 hk.1)
  clear hbel
  have hb3 : BsO w3 (.slice A4 n4 k4) f.pl := HB4.out.1.chg HC13.out fun b hb => ⟨(HB4.out.2 b hb).2.1, fun e5 => by have h1 := (HB4.out.2 b hb).2.2; rw [e5] at h1; have := H.out.hb.2; omega⟩
  refine (run_arrive_ HR3.out _ f.pl hb3 hst (fun k hk => ⟨.inl hk, hk.2.1⟩) (fun k hk => ⟨Nat.lt_of_lt_of_le (HB4.out.2 k hk).2.1 HC13.out.size, fun hx => by
    have h1 := (HB4.out.2 k hk).2
    have h2 := hx.2.2
    rw [relab_old (Nat.lt_of_lt_of_le h1.1 HC2.out.size)] at h2
    omega⟩) HX.out.2.1 f.fin).mono ?_
  rintro e' w4 ⟨rfl, r4⟩
  rw [HX.out.2.2, show errv A 0 = .nilIface from rfl]
  have HP4 := Lib.hid (HP3.out.ran (d := 1 - e) (by omega) (Nat.le_trans HS.out.2.2.2 HC3.out.size) r4)
  have HC4 : Hid (Chg (fun k => L ≤ k) w w4) := HC3.out.trans (r4.chg.more fun k _ hk => hk.1)
  clear r4 hst hb3
  go_wp2
  go_ret
  exact ⟨rfl, ⟨_, _, HP4.out⟩, HC4.out⟩
end
end Go.Proofs.YthalmjjbamglgaaDoor
