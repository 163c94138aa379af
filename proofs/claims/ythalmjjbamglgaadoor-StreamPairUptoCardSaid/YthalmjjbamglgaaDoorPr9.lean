/-
  culvertlaw10.open by contract; a script of moves opened.
  No condition.
-/
import Derived.Test.YthalmjjbamglgaaDoorPr8
import Derived.Test.YthalmjjbamglgaaDoorOps
import Derived.Test.YthalmjjbamglgaaDoorCfg
import Derived.Test.YthalmjjbamglgaaDoorStrK
namespace Go.Proofs.YthalmjjbamglgaaDoor
open Go.RowKit Go.ChangeShapes Go.WideShapes Go.Deep
set_option linter.unusedVariables false
set_option linter.unusedSimpArgs false
section
variable {B : Nat} {a : Nat → Addr}
set_option maxRecDepth 100000 in
theorem open_yes (w : World) (hs : Sen B a w) (ht : Tab B w) (hB : B ≤ w.heap.size) (W stage frame : Nat) (y3 y4 y5 y6 y7 : Int) (w1 : 1 ≤ W) (w2 : W ≤ 2147483647) (s1 : 1 ≤ stage) (s2 : stage ≤ 1048576) (f1 : 1 ≤ frame) (f2 : frame ≤ 65536) :
    Calls Tryd.prog 42 #[.agg #[.int .i64 (W : Int), .int .i64 (stage : Int), .int .i64 (frame : Int), .int .i64 y3, .int .i64 y4, .int .i64 y5, .int .i64 y6, .int .i64 y7]] w fun e w' => ∃ ga gb m, e = .returned (.tuple #[.pointer (some ⟨ga, 0, none⟩), .pointer (some ⟨gb, 0, none⟩)]) ∧ Pst w' (fun k => w.heap.size ≤ k ∧ k < m) ga (Sm.new 7 true W stage frame) ∧ Pst w' (fun k => m ≤ k ∧ k < w'.heap.size) gb (Sm.new 7 false W stage frame) ∧ m ≤ w'.heap.size ∧ w.heap.size ≤ m ∧ Chg none_ w w' := by
  have HS := Lib.hid hs
  have HT := Lib.hid ht
  have HB := Lib.hid hB
  have HN := Lib.hid (And.intro w1 (And.intro w2 (And.intro s1 (And.intro s2 (And.intro f1 f2)))))
  obtain ⟨w0, hw0⟩ : ∃ y, w.alloc (.cells #[.int .i64 (W : Int), .int .i64 (stage : Int), .int .i64 (frame : Int), .int .i64 y3, .int .i64 y4, .int .i64 y5, .int .i64 y6, .int .i64 y7] 43) = y := ⟨_, rfl⟩
  obtain ⟨r0, hr0⟩ : ∃ y, w.heap.size = y := ⟨_, rfl⟩
  have HC0 : Hid (Chg none_ w w0) := by show Chg _ _ _; rw [← hw0]; exact (Chg.refl none_ w).alloc _
  have HI0 : Hid (Is w0 r0 43 #[.int .i64 (W : Int), .int .i64 (stage : Int), .int .i64 (frame : Int), .int .i64 y3, .int .i64 y4, .int .i64 y5, .int .i64 y6, .int .i64 y7]) := by show Is _ _ _ _; rw [← hw0, ← hr0]; exact Is.new w _ _
  have HR0 := Lib.hid hr0
  have k0 : w0.cell? ⟨r0, 0, none⟩ = some (.int .i64 (W : Int)) := HI0.out.at_ 0 _ rfl
  have k1 : w0.cell? ⟨r0, 1, none⟩ = some (.int .i64 (stage : Int)) := HI0.out.at_ 1 _ rfl
  have k2 : w0.cell? ⟨r0, 2, none⟩ = some (.int .i64 (frame : Int)) := HI0.out.at_ 2 _ rfl
  have k3 : w0.cell? ⟨r0, 3, none⟩ = some (.int .i64 y3) := HI0.out.at_ 3 _ rfl
  have k4 : w0.cell? ⟨r0, 4, none⟩ = some (.int .i64 y4) := HI0.out.at_ 4 _ rfl
  have k5 : w0.cell? ⟨r0, 5, none⟩ = some (.int .i64 y5) := HI0.out.at_ 5 _ rfl
  have k6 : w0.cell? ⟨r0, 6, none⟩ = some (.int .i64 y6) := HI0.out.at_ 6 _ rfl
  have k7 : w0.cell? ⟨r0, 7, none⟩ = some (.int .i64 y7) := HI0.out.at_ 7 _ rfl
  have HS0 : Hid (Sen B a w0 ∧ Tab B w0 ∧ B ≤ w0.heap.size) := ⟨HS.out.below (HC0.out.old HB.out), HT.out.below (HC0.out.old HB.out), Nat.le_trans HB.out HC0.out.size⟩
  clear hs ht hB w1 w2 s1 s2 f1 f2
  go_enter Tryd.func42, Tryd.ntmps42
  go_wp2_with fail
  clear hw0
  refine (snew_ok w0 HS0.out.1 HS0.out.2.1 HS0.out.2.2 7 true W stage frame _ _ _ _ _ (by decide) (by decide) HN.out.1 HN.out.2.1 HN.out.2.2.1 HN.out.2.2.2.1 HN.out.2.2.2.2.1 HN.out.2.2.2.2.2).mono ?_
  rintro e w1 ⟨ga, rfl, p1, p2⟩
  have HP1 := Lib.hid p1.cut
  have HC1 := Lib.hid p2
  have hI1 := HI0.out.chg p2 fun f => f
  have k0 : w1.cell? ⟨r0, 0, none⟩ = some (.int .i64 (W : Int)) := hI1.at_ 0 _ rfl
  have k1 : w1.cell? ⟨r0, 1, none⟩ = some (.int .i64 (stage : Int)) := hI1.at_ 1 _ rfl
  have k2 : w1.cell? ⟨r0, 2, none⟩ = some (.int .i64 (frame : Int)) := hI1.at_ 2 _ rfl
  have k3 : w1.cell? ⟨r0, 3, none⟩ = some (.int .i64 y3) := hI1.at_ 3 _ rfl
  have k4 : w1.cell? ⟨r0, 4, none⟩ = some (.int .i64 y4) := hI1.at_ 4 _ rfl
  have k5 : w1.cell? ⟨r0, 5, none⟩ = some (.int .i64 y5) := hI1.at_ 5 _ rfl
  have k6 : w1.cell? ⟨r0, 6, none⟩ = some (.int .i64 y6) := hI1.at_ 6 _ rfl
  have k7 : w1.cell? ⟨r0, 7, none⟩ = some (.int .i64 y7) := hI1.at_ 7 _ rfl
  have HS1 : Hid (Sen B a w1 ∧ Tab B w1 ∧ B ≤ w1.heap.size) := ⟨HS0.out.1.below (p2.old HS0.out.2.2), HS0.out.2.1.below (p2.old HS0.out.2.2), Nat.le_trans HS0.out.2.2 p2.size⟩
  clear p1 p2 hI1
  go_wp2_with fail
  refine (snew_ok w1 HS1.out.1 HS1.out.2.1 HS1.out.2.2 7 false W stage frame _ _ _ _ _ (by decide) (by decide) HN.out.1 HN.out.2.1 HN.out.2.2.1 HN.out.2.2.2.1 HN.out.2.2.2.2.1 HN.out.2.2.2.2.2).mono ?_
  rintro e w2 ⟨gb, rfl, p1, p2⟩
  have HP2 := Lib.hid p1.cut
  have HC2 := Lib.hid p2
  clear p1 p2
  go_wp2
  go_ret2
  have z0 := HC0.out.size
  have z1 := HC1.out.size
  exact ⟨ga, gb, w1.heap.size, rfl, (HP1.out.keep HC2.out).wide fun k hk => ⟨by omega, hk.2⟩, HP2.out, HC2.out.size, by omega, (HC0.out.trans HC1.out).trans HC2.out⟩
set_option maxRecDepth 100000 in
theorem open_no (w : World) (hs : Sen B a w) (hB : B ≤ w.heap.size) (W stage frame y3 y4 y5 y6 y7 : Int) (hk : ¬ (1 ≤ W ∧ W ≤ 2147483647 ∧ 1 ≤ stage ∧ stage ≤ 1048576 ∧ 1 ≤ frame ∧ frame ≤ 65536)) :
    Calls Tryd.prog 42 #[.agg #[.int .i64 W, .int .i64 stage, .int .i64 frame, .int .i64 y3, .int .i64 y4, .int .i64 y5, .int .i64 y6, .int .i64 y7]] w fun e w' => e = .returned (.tuple #[.pointer none, .pointer none]) ∧ Chg none_ w w' := by
  have HS := Lib.hid hs
  have HK := Lib.hid hk
  obtain ⟨w0, hw0⟩ : ∃ y, w.alloc (.cells #[.int .i64 W, .int .i64 stage, .int .i64 frame, .int .i64 y3, .int .i64 y4, .int .i64 y5, .int .i64 y6, .int .i64 y7] 43) = y := ⟨_, rfl⟩
  obtain ⟨r0, hr0⟩ : ∃ y, w.heap.size = y := ⟨_, rfl⟩
  have HC0 : Hid (Chg none_ w w0) := by show Chg _ _ _; rw [← hw0]; exact (Chg.refl none_ w).alloc _
  have HI0 : Hid (Is w0 r0 43 #[.int .i64 W, .int .i64 stage, .int .i64 frame, .int .i64 y3, .int .i64 y4, .int .i64 y5, .int .i64 y6, .int .i64 y7]) := by show Is _ _ _ _; rw [← hw0, ← hr0]; exact Is.new w _ _
  have HB := Lib.hid hB
  have k0 : w0.cell? ⟨r0, 0, none⟩ = some (.int .i64 W) := HI0.out.at_ 0 _ rfl
  have k1 : w0.cell? ⟨r0, 1, none⟩ = some (.int .i64 stage) := HI0.out.at_ 1 _ rfl
  have k2 : w0.cell? ⟨r0, 2, none⟩ = some (.int .i64 frame) := HI0.out.at_ 2 _ rfl
  have k3 : w0.cell? ⟨r0, 3, none⟩ = some (.int .i64 y3) := HI0.out.at_ 3 _ rfl
  have k4 : w0.cell? ⟨r0, 4, none⟩ = some (.int .i64 y4) := HI0.out.at_ 4 _ rfl
  have k5 : w0.cell? ⟨r0, 5, none⟩ = some (.int .i64 y5) := HI0.out.at_ 5 _ rfl
  have k6 : w0.cell? ⟨r0, 6, none⟩ = some (.int .i64 y6) := HI0.out.at_ 6 _ rfl
  have k7 : w0.cell? ⟨r0, 7, none⟩ = some (.int .i64 y7) := HI0.out.at_ 7 _ rfl
  clear hs hB hk
  go_enter Tryd.func42, Tryd.ntmps42
  go_wp2_with fail
  clear hw0
  refine (snew_no w0 (HS.out.below (HC0.out.old HB.out)) (Nat.le_trans HB.out HC0.out.size) 7 true W stage frame _ _ _ _ _ (by decide) HK.out).mono ?_
  rintro e w1 ⟨rfl, p2⟩
  have HC1 : Hid (Chg none_ w w1) := HC0.out.trans p2
  have hI1 := HI0.out.chg p2 fun f => f
  clear k0 k1 k2 k3 k4 k5 k6 k7 p2
  have k0 : w1.cell? ⟨r0, 0, none⟩ = some (.int .i64 W) := hI1.at_ 0 _ rfl
  have k1 : w1.cell? ⟨r0, 1, none⟩ = some (.int .i64 stage) := hI1.at_ 1 _ rfl
  have k2 : w1.cell? ⟨r0, 2, none⟩ = some (.int .i64 frame) := hI1.at_ 2 _ rfl
  have k3 : w1.cell? ⟨r0, 3, none⟩ = some (.int .i64 y3) := hI1.at_ 3 _ rfl
  have k4 : w1.cell? ⟨r0, 4, none⟩ = some (.int .i64 y4) := hI1.at_ 4 _ rfl
  have k5 : w1.cell? ⟨r0, 5, none⟩ = some (.int .i64 y5) := hI1.at_ 5 _ rfl
  have k6 : w1.cell? ⟨r0, 6, none⟩ = some (.int .i64 y6) := hI1.at_ 6 _ rfl
  have k7 : w1.cell? ⟨r0, 7, none⟩ = some (.int .i64 y7) := hI1.at_ 7 _ rfl
  clear hI1
  rw [show errv a 10 = .iface 200 (.pointer (some (a 10))) from rfl]
  go_wp2_with fail
  refine (snew_no w1 (HS.out.below (HC1.out.old HB.out)) (Nat.le_trans HB.out HC1.out.size) 7 false W stage frame _ _ _ _ _ (by decide) HK.out).mono ?_
  rintro e w2 ⟨rfl, p2⟩
  have HC2 : Hid (Chg none_ w w2) := HC1.out.trans p2
  clear p2
  rw [show errv a 10 = .iface 200 (.pointer (some (a 10))) from rfl]
  go_wp2
  go_ret2
  exact ⟨rfl, HC2.out⟩
end
/-- A move. -/
structure Mvv where
  (kind n : Int) (A : Option Addr) (len cap : Nat) (zs : List Int)
def Mvv.cells (o : Mvv) : List Value := [.int .i64 o.kind, .int .i64 o.n, .slice o.A o.len o.cap]
structure Mvv.Ok (w : World) (o : Mvv) : Prop where
  kind : i64B o.kind
  n : i64B o.n
  len : o.zs.length = o.len
  cap : o.len ≤ o.cap
  rd : Rd w o.A o.len fun i => .int .u8 (o.zs.getD i 0)
  byt : Byt o.zs
section
variable {H : Type} {enc : TypeId × Value → H} {W : World}
theorem list3 {α : Type} (l : List α) (h : l.length = 3) : ∃ a0 a1 a2, l = [a0, a1, a2] := by
  match l, h with
  | [a0, a1, a2], _ => exact ⟨a0, a1, a2, rfl⟩
theorem mv_open {m : Nat} {cs : List Value} {y : DataW H × List MemPlace} (h : DataW.trod enc Tryd.prog W 0 (fun _ => true) true m 105 cs = some y) :
    ∃ o : Mvv, cs = o.cells ∧ o.Ok W ∧ ((∀ q ∈ y.1.weights Tryd.prog 105, q ≤ reachBytes) → o.len ≤ 140737488355328) := by
  obtain ⟨xs, n, rfl, rfl, hl, hlen, hf⟩ := DataW.trod_struct Tryd.underlying105 h
  rw [show Tryd.prog.cellsOf 105 = 3 from by kernel_rfl] at hl
  obtain ⟨v0, v1, v2, rfl⟩ := list3 cs hl
  obtain ⟨x0, x1, x2, rfl⟩ := list3 xs hlen
  have h0 : DataW.trod enc Tryd.prog W 0 (fun _ => true) true n 3 [v0] = some x0 := by
    have h := hf 0 _ rfl
    have e : Tryd.prog.cellsOf 3 = 1 := by kernel_rfl
    change DataW.trod enc Tryd.prog W 0 (fun _ => true) true n 3 (List.take (Tryd.prog.cellsOf 3) (List.drop 0 [v0, v1, v2])) = some x0 at h
    rw [e] at h
    exact h
  have h1 : DataW.trod enc Tryd.prog W 0 (fun _ => true) true n 3 [v1] = some x1 := by
    have h := hf 1 _ rfl
    have e : Tryd.prog.cellsOf 3 = 1 := by kernel_rfl
    change DataW.trod enc Tryd.prog W 0 (fun _ => true) true n 3 (List.take (Tryd.prog.cellsOf 3) (List.drop 1 [v0, v1, v2])) = some x1 at h
    rw [e] at h
    exact h
  have h2 : DataW.trod enc Tryd.prog W 0 (fun _ => true) true n 23 [v2] = some x2 := by
    have h := hf 2 _ rfl
    have e : Tryd.prog.cellsOf 23 = 1 := by kernel_rfl
    change DataW.trod enc Tryd.prog W 0 (fun _ => true) true n 23 (List.take (Tryd.prog.cellsOf 23) (List.drop 2 [v0, v1, v2])) = some x2 at h
    rw [e] at h
    exact h
  obtain ⟨k, rfl, wk⟩ := int_one Tryd.underlying3 h0
  obtain ⟨nn, rfl, wn⟩ := int_one Tryd.underlying3 h1
  obtain ⟨A, len, cap, zs, rfl, hz, hnc, hrd, hwz, hbk⟩ := open_ints_dat Tryd.underlying23 Tryd.underlying5 (by kernel_rfl) h2
  refine ⟨⟨k, nn, A, len, cap, zs⟩, rfl, ⟨bounds_i64 wk, bounds_i64 wn, hz, hnc, hrd, fun z h => bounds_u8 (hwz z h)⟩, ?_⟩
  intro hq
  have hq' : ∀ q ∈ DataW.weightsEach Tryd.prog [3, 3, 23] [x0.1, x1.1, x2.1], q ≤ reachBytes := by
    intro q hm
    refine hq q ?_
    simp only [List.map_cons, List.map_nil]
    unfold DataW.weights
    rw [Tryd.underlying105]
    exact hm
  have h := sliceD_le Tryd.underlying23 (b := 1) (by kernel_rfl) hnc hbk (weights_at _ _ 2 23 x2.1 (List.all_eq_true.2 fun q hm => decide_eq_true (hq' q hm)) rfl rfl)
  unfold reachBytes at h
  show len ≤ _
  omega
theorem cells_mv : Tryd.prog.cellsOf 105 = 3 := by kernel_rfl
theorem bytes_mv : Tryd.prog.bytesOf 105 = 40 := by kernel_rfl
set_option maxRecDepth 100000 in
/-- A script of moves opened. -/
theorem open_moves {base : Nat} {v : Value} {d : DataW H} {p : List MemPlace} (hval : Value.okWide Tryd.prog W .any base 98 v) (h : DataW.Trod enc Tryd.prog W 0 (fun _ => true) true 98 v d p)
    (hw : ∀ x ∈ d.weights Tryd.prog 98, x ≤ reachBytes) :
    ∃ (A : Option Addr) (n c : Nat) (O : Nat → Mvv), v = .slice A n c ∧ n ≤ c ∧ c ≤ 140737488355328 ∧ Rds W A n 3 (fun i j => (O i).cells.getD j (.bool false)) ∧ (∀ i, i < n → (O i).Ok W ∧ (O i).len ≤ 140737488355328) := by
  have ht := Tryd.underlying98
  have hC := cells_mv
  obtain ⟨A, n, c, rfl⟩ := okWide_slice ht hval
  obtain ⟨fuel, hf⟩ := h
  rcases open_slice ht hf with ⟨hcs, hx⟩ | ⟨a, len, cap, m, nn, D, Pl, hcs, _, hl, _, hm, hx, hi⟩
  · simp [Value.cells] at hcs
    obtain ⟨rfl, rfl, rfl⟩ := hcs
    exact ⟨none, 0, 0, fun _ => ⟨0, 0, none, 0, 0, []⟩, rfl, Nat.le_refl _, by omega, Rds.zero _ _ _ _, fun i h => by omega⟩
  · simp [Value.cells] at hcs
    obtain ⟨rfl, rfl, rfl⟩ := hcs
    simp only [Prod.mk.injEq] at hx
    simp only [if_true] at hm
    subst hm
    obtain ⟨rfl, _⟩ := hx
    have hw2 : (n + (m - n)) * Tryd.prog.bytesOf 105 ≤ reachBytes := by
      have := hw ((((List.range n).map D).length + ((List.range (m - n)).map fun j => D (n + j)).length) * Tryd.prog.bytesOf 105) (by unfold DataW.weights; rw [ht]; exact List.mem_cons_self ..)
      simpa using this
    rw [bytes_mv] at hw2
    unfold reachBytes at hw2
    have key : ∀ i, ∃ o : Mvv, i < n → (∀ j, j < 3 → W.cell? (a.add (i * 3 + j)) = some (o.cells.getD j (.bool false))) ∧ o.Ok W ∧ o.len ≤ 140737488355328 := by
      intro i
      by_cases hin : i < n
      · obtain ⟨cs', hc, hd⟩ := hi i (by omega)
        rw [hC] at hc
        obtain ⟨o, rfl, ho1, ho2⟩ := mv_open hd
        obtain ⟨_, hcl, hat⟩ := World.cells?_some hc
        refine ⟨o, fun _ => ⟨fun j hj => ?_, ho1, ho2 fun q hq => hw q ?_⟩⟩
        · have := hat j hj
          rw [Go.Deep.add_add] at this
          rw [this, List.getD_eq_getElem?_getD]
          have hl : j < o.cells.length := by simpa [Mvv.cells] using hj
          simp [List.getElem?_eq_getElem hl]
        · unfold DataW.weights
          rw [ht]
          refine List.mem_cons_of_mem _ (List.mem_append_left _ (mem_all _ (D i) (List.mem_map.2 ⟨i, List.mem_range.2 hin, rfl⟩) q hq))
      · exact ⟨⟨0, 0, none, 0, 0, []⟩, fun h => absurd h hin⟩
    obtain ⟨O, hO⟩ := Classical.axiomOfChoice key
    exact ⟨some a, n, m, O, rfl, hl, by omega, fun _ => ⟨a, rfl, fun i hin j hj => (hO i hin).1 j hj⟩, fun i hin => (hO i hin).2⟩
set_option maxRecDepth 100000 in
/-- A script of moves' length is at most its bulk. -/
theorem moves_bulk {v : Value} {d : DataW H} {p : List MemPlace} {A : Option Addr} {n c : Nat} (hv : v = .slice A n c) (h : DataW.Trod enc Tryd.prog W 0 (fun _ => true) true 98 v d p) : n ≤ Rows.uptoBulk d := by
  subst hv
  obtain ⟨fuel, hf⟩ := h
  rcases open_slice Tryd.underlying98 hf with ⟨hcs, hx⟩ | ⟨a, len, cap, m, nn, D, Pl, hcs, _, hl, _, hm, hx, hi⟩
  · simp [Value.cells] at hcs
    obtain ⟨rfl, rfl, rfl⟩ := hcs
    exact Nat.zero_le _
  · simp [Value.cells] at hcs
    obtain ⟨rfl, rfl, rfl⟩ := hcs
    simp only [Prod.mk.injEq] at hx
    simp only [if_true] at hm
    subst hm
    obtain ⟨rfl, _⟩ := hx
    refine Nat.le_trans hl ?_
    exact len_bulk_ (.inr ⟨_, _, rfl, by simp; omega⟩)
end
end Go.Proofs.YthalmjjbamglgaaDoor
