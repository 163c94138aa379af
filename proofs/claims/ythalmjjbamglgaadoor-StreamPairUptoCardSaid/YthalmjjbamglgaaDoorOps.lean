/-
  A script of steps opened: the fourteen cells of a step, the bytes that it bears.
  No condition.
-/
import Derived.Test.YthalmjjbamglgaaDoorG1
namespace Go.Proofs.YthalmjjbamglgaaDoor
open Go.RowKit Go.ChangeShapes Go.WideShapes Go.Deep

/-- A step. -/
structure Opv where
  (kind x n : Int) (A : Option Addr) (len cap : Nat) (zs : List Int) (delta : Int) (flag : Bool) (c0 c1 c2 c3 c4 c5 c6 c7 : Int)
def Opv.cells (o : Opv) : List Value :=
  [.int .i64 o.kind, .int .i64 o.x, .int .i64 o.n, .slice o.A o.len o.cap, .int .u32 o.delta, .bool o.flag, .int .i64 o.c0, .int .i64 o.c1, .int .i64 o.c2, .int .i64 o.c3, .int .i64 o.c4, .int .i64 o.c5, .int .i64 o.c6, .int .i64 o.c7]
def i64B (z : Int) : Prop := -9223372036854775808 ≤ z ∧ z ≤ 9223372036854775807
structure Opv.Ok (w : World) (o : Opv) : Prop where
  kind : i64B o.kind
  x : i64B o.x
  n : i64B o.n
  len : o.zs.length = o.len
  cap : o.len ≤ o.cap
  rd : Rd w o.A o.len fun i => .int .u8 (o.zs.getD i 0)
  byt : Byt o.zs
  d0 : 0 ≤ o.delta
  d1 : o.delta ≤ 4294967295
  c : i64B o.c0 ∧ i64B o.c1 ∧ i64B o.c2 ∧ i64B o.c3 ∧ i64B o.c4 ∧ i64B o.c5 ∧ i64B o.c6 ∧ i64B o.c7

section
variable {H : Type} {enc : TypeId × Value → H} {W : World}
theorem list14 {α : Type} (l : List α) (h : l.length = 14) : ∃ a0 a1 a2 a3 a4 a5 a6 a7 a8 a9 a10 a11 a12 a13, l = [a0, a1, a2, a3, a4, a5, a6, a7, a8, a9, a10, a11, a12, a13] := by
  match l, h with
  | [a0, a1, a2, a3, a4, a5, a6, a7, a8, a9, a10, a11, a12, a13], _ => exact ⟨a0, a1, a2, a3, a4, a5, a6, a7, a8, a9, a10, a11, a12, a13, rfl⟩
theorem list8 {α : Type} (l : List α) (h : l.length = 8) : ∃ a0 a1 a2 a3 a4 a5 a6 a7, l = [a0, a1, a2, a3, a4, a5, a6, a7] := by
  match l, h with
  | [a0, a1, a2, a3, a4, a5, a6, a7], _ => exact ⟨a0, a1, a2, a3, a4, a5, a6, a7, rfl⟩
theorem list7 {α : Type} (l : List α) (h : l.length = 7) : ∃ a0 a1 a2 a3 a4 a5 a6, l = [a0, a1, a2, a3, a4, a5, a6] := by
  match l, h with
  | [a0, a1, a2, a3, a4, a5, a6], _ => exact ⟨a0, a1, a2, a3, a4, a5, a6, rfl⟩
theorem int_one {t : TypeId} {k : IntKind} {v : Value} {m : Nat} {y : DataW H × List MemPlace} (ht : Tryd.prog.underlying t = some (.int k)) (h : DataW.trod enc Tryd.prog W 0 (fun _ => true) true m t [v] = some y) : ∃ z, v = .int k z ∧ (Lit.int k z).wf = true := by
  obtain ⟨z, e, _, hw⟩ := DataW.trod_int ht h
  simp only [List.cons.injEq, and_true] at e
  exact ⟨z, e, hw⟩
theorem open_ints_dat {P : Program} {t e : TypeId} {kd : IntKind} {v : Value} {m : Nat} {y : DataW H × List MemPlace} (ht : P.underlying t = some (.slice e)) (he : P.underlying e = some (.int kd)) (hc : P.cellsOf e = 1)
    (hf : DataW.trod enc P W 0 (fun _ => true) true m t [v] = some y) :
    ∃ (A : Option Addr) (n c : Nat) (zs : List Int), v = .slice A n c ∧ zs.length = n ∧ n ≤ c ∧ (Rd W A n fun i => .int kd (zs.getD i 0)) ∧ (∀ z ∈ zs, (Lit.int kd z).wf = true) ∧ ((y.1 = .nil ∧ c = 0) ∨ ∃ es sp, y.1 = .slice es sp ∧ es.length + sp.length = c) := by
  rcases open_ints ht he hc hf with ⟨hcs, hx⟩ | ⟨a, len, cap, zs, hcs, _, hl, hm, hz, hx, hcell, hwz⟩
  · simp at hcs
    subst hcs
    exact ⟨none, 0, 0, [], rfl, rfl, Nat.le_refl _, Rd.zero _ _ _, (fun z h => by cases h), .inl ⟨by rw [hx], rfl⟩⟩
  · simp at hcs
    subst hcs
    simp only [if_true] at hz
    refine ⟨some a, len, cap, zs.take len, rfl, by rw [List.length_take]; omega, hl, fun _ => ⟨a, rfl, fun i hi => ?_⟩, fun z h => hwz z (List.mem_of_mem_take h), .inr ⟨_, _, by rw [hx], by simp [lits, List.length_take, List.length_drop]; omega⟩⟩
    rw [hcell i (by omega)]
    congr 2
    rw [List.getD_eq_getElem?_getD, List.getD_eq_getElem?_getD, List.getElem?_take, if_pos hi]
theorem op_open {m : Nat} {cs : List Value} {y : DataW H × List MemPlace} (h : DataW.trod enc Tryd.prog W 0 (fun _ => true) true m 45 cs = some y) :
    ∃ o : Opv, cs = o.cells ∧ o.Ok W ∧ ((∀ q ∈ y.1.weights Tryd.prog 45, q ≤ reachBytes) → o.len ≤ 140737488355328) := by
  obtain ⟨xs, n, rfl, rfl, hl, hlen, hf⟩ := DataW.trod_struct Tryd.underlying45 h
  rw [show Tryd.prog.cellsOf 45 = 14 from by kernel_rfl] at hl
  obtain ⟨v0, v1, v2, v3, v4, v5, v6, v7, v8, v9, v10, v11, v12, v13, rfl⟩ := list14 cs hl
  obtain ⟨x0, x1, x2, x3, x4, x5, x6, rfl⟩ := list7 xs hlen
  have h0 : DataW.trod enc Tryd.prog W 0 (fun _ => true) true n 3 [v0] = some x0 := by
    have h := hf 0 _ rfl
    have e : Tryd.prog.cellsOf 3 = 1 := by kernel_rfl
    change DataW.trod enc Tryd.prog W 0 (fun _ => true) true n 3 (List.take (Tryd.prog.cellsOf 3) (List.drop 0 [v0, v1, v2, v3, v4, v5, v6, v7, v8, v9, v10, v11, v12, v13])) = some x0 at h
    rw [e] at h
    exact h
  have h1 : DataW.trod enc Tryd.prog W 0 (fun _ => true) true n 3 [v1] = some x1 := by
    have h := hf 1 _ rfl
    have e : Tryd.prog.cellsOf 3 = 1 := by kernel_rfl
    change DataW.trod enc Tryd.prog W 0 (fun _ => true) true n 3 (List.take (Tryd.prog.cellsOf 3) (List.drop 1 [v0, v1, v2, v3, v4, v5, v6, v7, v8, v9, v10, v11, v12, v13])) = some x1 at h
    rw [e] at h
    exact h
  have h2 : DataW.trod enc Tryd.prog W 0 (fun _ => true) true n 3 [v2] = some x2 := by
    have h := hf 2 _ rfl
    have e : Tryd.prog.cellsOf 3 = 1 := by kernel_rfl
    change DataW.trod enc Tryd.prog W 0 (fun _ => true) true n 3 (List.take (Tryd.prog.cellsOf 3) (List.drop 2 [v0, v1, v2, v3, v4, v5, v6, v7, v8, v9, v10, v11, v12, v13])) = some x2 at h
    rw [e] at h
    exact h
  have h3 : DataW.trod enc Tryd.prog W 0 (fun _ => true) true n 23 [v3] = some x3 := by
    have h := hf 3 _ rfl
    have e : Tryd.prog.cellsOf 23 = 1 := by kernel_rfl
    change DataW.trod enc Tryd.prog W 0 (fun _ => true) true n 23 (List.take (Tryd.prog.cellsOf 23) (List.drop 3 [v0, v1, v2, v3, v4, v5, v6, v7, v8, v9, v10, v11, v12, v13])) = some x3 at h
    rw [e] at h
    exact h
  have h4 : DataW.trod enc Tryd.prog W 0 (fun _ => true) true n 22 [v4] = some x4 := by
    have h := hf 4 _ rfl
    have e : Tryd.prog.cellsOf 22 = 1 := by kernel_rfl
    change DataW.trod enc Tryd.prog W 0 (fun _ => true) true n 22 (List.take (Tryd.prog.cellsOf 22) (List.drop 4 [v0, v1, v2, v3, v4, v5, v6, v7, v8, v9, v10, v11, v12, v13])) = some x4 at h
    rw [e] at h
    exact h
  have h5 : DataW.trod enc Tryd.prog W 0 (fun _ => true) true n 4 [v5] = some x5 := by
    have h := hf 5 _ rfl
    have e : Tryd.prog.cellsOf 4 = 1 := by kernel_rfl
    change DataW.trod enc Tryd.prog W 0 (fun _ => true) true n 4 (List.take (Tryd.prog.cellsOf 4) (List.drop 5 [v0, v1, v2, v3, v4, v5, v6, v7, v8, v9, v10, v11, v12, v13])) = some x5 at h
    rw [e] at h
    exact h
  have h6 : DataW.trod enc Tryd.prog W 0 (fun _ => true) true n 43 [v6, v7, v8, v9, v10, v11, v12, v13] = some x6 := by
    have h := hf 6 _ rfl
    have e : Tryd.prog.cellsOf 43 = 8 := by kernel_rfl
    change DataW.trod enc Tryd.prog W 0 (fun _ => true) true n 43 (List.take (Tryd.prog.cellsOf 43) (List.drop 6 [v0, v1, v2, v3, v4, v5, v6, v7, v8, v9, v10, v11, v12, v13])) = some x6 at h
    rw [e] at h
    exact h
  obtain ⟨k, rfl, wk⟩ := int_one Tryd.underlying3 h0
  obtain ⟨xx, rfl, wx⟩ := int_one Tryd.underlying3 h1
  obtain ⟨nn, rfl, wn⟩ := int_one Tryd.underlying3 h2
  obtain ⟨A, len, cap, zs, rfl, hz, hnc, hrd, hwz, hbk⟩ := open_ints_dat Tryd.underlying23 Tryd.underlying5 (by kernel_rfl) h3
  obtain ⟨d, rfl, wd⟩ := int_one Tryd.underlying22 h4
  obtain ⟨fl, efl, _⟩ := DataW.trod_bool Tryd.underlying4 h5
  simp only [List.cons.injEq, and_true] at efl
  subst efl
  obtain ⟨ys, n', _, _, gl, glen, gf⟩ := DataW.trod_struct Tryd.underlying43 h6
  obtain ⟨y0, y1, y2, y3, y4, y5, y6, y7, rfl⟩ := list8 ys glen
  have g0 : DataW.trod enc Tryd.prog W 0 (fun _ => true) true n' 3 [v6] = some y0 := by
    have h := gf 0 _ rfl
    have e : Tryd.prog.cellsOf 3 = 1 := by kernel_rfl
    change DataW.trod enc Tryd.prog W 0 (fun _ => true) true n' 3 (List.take (Tryd.prog.cellsOf 3) (List.drop 0 [v6, v7, v8, v9, v10, v11, v12, v13])) = some y0 at h
    rw [e] at h
    exact h
  have g1 : DataW.trod enc Tryd.prog W 0 (fun _ => true) true n' 3 [v7] = some y1 := by
    have h := gf 1 _ rfl
    have e : Tryd.prog.cellsOf 3 = 1 := by kernel_rfl
    change DataW.trod enc Tryd.prog W 0 (fun _ => true) true n' 3 (List.take (Tryd.prog.cellsOf 3) (List.drop 1 [v6, v7, v8, v9, v10, v11, v12, v13])) = some y1 at h
    rw [e] at h
    exact h
  have g2 : DataW.trod enc Tryd.prog W 0 (fun _ => true) true n' 3 [v8] = some y2 := by
    have h := gf 2 _ rfl
    have e : Tryd.prog.cellsOf 3 = 1 := by kernel_rfl
    change DataW.trod enc Tryd.prog W 0 (fun _ => true) true n' 3 (List.take (Tryd.prog.cellsOf 3) (List.drop 2 [v6, v7, v8, v9, v10, v11, v12, v13])) = some y2 at h
    rw [e] at h
    exact h
  have g3 : DataW.trod enc Tryd.prog W 0 (fun _ => true) true n' 3 [v9] = some y3 := by
    have h := gf 3 _ rfl
    have e : Tryd.prog.cellsOf 3 = 1 := by kernel_rfl
    change DataW.trod enc Tryd.prog W 0 (fun _ => true) true n' 3 (List.take (Tryd.prog.cellsOf 3) (List.drop 3 [v6, v7, v8, v9, v10, v11, v12, v13])) = some y3 at h
    rw [e] at h
    exact h
  have g4 : DataW.trod enc Tryd.prog W 0 (fun _ => true) true n' 3 [v10] = some y4 := by
    have h := gf 4 _ rfl
    have e : Tryd.prog.cellsOf 3 = 1 := by kernel_rfl
    change DataW.trod enc Tryd.prog W 0 (fun _ => true) true n' 3 (List.take (Tryd.prog.cellsOf 3) (List.drop 4 [v6, v7, v8, v9, v10, v11, v12, v13])) = some y4 at h
    rw [e] at h
    exact h
  have g5 : DataW.trod enc Tryd.prog W 0 (fun _ => true) true n' 3 [v11] = some y5 := by
    have h := gf 5 _ rfl
    have e : Tryd.prog.cellsOf 3 = 1 := by kernel_rfl
    change DataW.trod enc Tryd.prog W 0 (fun _ => true) true n' 3 (List.take (Tryd.prog.cellsOf 3) (List.drop 5 [v6, v7, v8, v9, v10, v11, v12, v13])) = some y5 at h
    rw [e] at h
    exact h
  have g6 : DataW.trod enc Tryd.prog W 0 (fun _ => true) true n' 3 [v12] = some y6 := by
    have h := gf 6 _ rfl
    have e : Tryd.prog.cellsOf 3 = 1 := by kernel_rfl
    change DataW.trod enc Tryd.prog W 0 (fun _ => true) true n' 3 (List.take (Tryd.prog.cellsOf 3) (List.drop 6 [v6, v7, v8, v9, v10, v11, v12, v13])) = some y6 at h
    rw [e] at h
    exact h
  have g7 : DataW.trod enc Tryd.prog W 0 (fun _ => true) true n' 3 [v13] = some y7 := by
    have h := gf 7 _ rfl
    have e : Tryd.prog.cellsOf 3 = 1 := by kernel_rfl
    change DataW.trod enc Tryd.prog W 0 (fun _ => true) true n' 3 (List.take (Tryd.prog.cellsOf 3) (List.drop 7 [v6, v7, v8, v9, v10, v11, v12, v13])) = some y7 at h
    rw [e] at h
    exact h
  obtain ⟨c0, rfl, w0⟩ := int_one Tryd.underlying3 g0
  obtain ⟨c1, rfl, w1⟩ := int_one Tryd.underlying3 g1
  obtain ⟨c2, rfl, w2⟩ := int_one Tryd.underlying3 g2
  obtain ⟨c3, rfl, w3⟩ := int_one Tryd.underlying3 g3
  obtain ⟨c4, rfl, w4⟩ := int_one Tryd.underlying3 g4
  obtain ⟨c5, rfl, w5⟩ := int_one Tryd.underlying3 g5
  obtain ⟨c6, rfl, w6⟩ := int_one Tryd.underlying3 g6
  obtain ⟨c7, rfl, w7⟩ := int_one Tryd.underlying3 g7
  refine ⟨⟨k, xx, nn, A, len, cap, zs, d, fl, c0, c1, c2, c3, c4, c5, c6, c7⟩, rfl, ⟨bounds_i64 wk, bounds_i64 wx, bounds_i64 wn, hz, hnc, hrd, fun z h => bounds_u8 (hwz z h), (bounds_u32 wd).1, (bounds_u32 wd).2, bounds_i64 w0, bounds_i64 w1, bounds_i64 w2, bounds_i64 w3, bounds_i64 w4, bounds_i64 w5, bounds_i64 w6, bounds_i64 w7⟩, ?_⟩
  intro hq
  have hq' : ∀ q ∈ DataW.weightsEach Tryd.prog [3, 3, 3, 23, 22, 4, 43] [x0.1, x1.1, x2.1, x3.1, x4.1, x5.1, x6.1], q ≤ reachBytes := by
    intro q hm
    refine hq q ?_
    simp only [List.map_cons, List.map_nil]
    unfold DataW.weights
    rw [Tryd.underlying45]
    exact hm
  have h := sliceD_le Tryd.underlying23 (b := 1) (by kernel_rfl) hnc hbk (weights_at _ _ 3 23 x3.1 (List.all_eq_true.2 fun q hm => decide_eq_true (hq' q hm)) rfl rfl)
  unfold reachBytes at h
  show len ≤ _
  omega
theorem mem_all {e : TypeId} : ∀ (ds : List (DataW H)) (d : DataW H), d ∈ ds → ∀ q ∈ d.weights Tryd.prog e, q ∈ DataW.weightsAll Tryd.prog e ds
  | [], _, h, _, _ => by cases h
  | d0 :: ds, d, h, q, hq => by
    unfold DataW.weightsAll
    rw [List.mem_append]
    rcases List.mem_cons.1 h with rfl | h
    · exact .inl hq
    · exact .inr (mem_all ds d h q hq)
theorem cells_op : Tryd.prog.cellsOf 45 = 14 := by kernel_rfl
theorem bytes_op : Tryd.prog.bytesOf 45 = 120 := by kernel_rfl
set_option maxRecDepth 100000 in
/-- A script opened. -/
theorem open_script {base : Nat} {v : Value} {d : DataW H} {p : List MemPlace} (hval : Value.okWide Tryd.prog W .any base 37 v) (h : DataW.Trod enc Tryd.prog W 0 (fun _ => true) true 37 v d p)
    (hw : ∀ x ∈ d.weights Tryd.prog 37, x ≤ reachBytes) :
    ∃ (A : Option Addr) (n c : Nat) (O : Nat → Opv), v = .slice A n c ∧ n ≤ c ∧ c ≤ 140737488355328 ∧ Rds W A n 14 (fun i j => (O i).cells.getD j (.bool false)) ∧ (∀ i, i < n → (O i).Ok W ∧ (O i).len ≤ 140737488355328) := by
  have ht := Tryd.underlying37
  have hC := cells_op
  obtain ⟨A, n, c, rfl⟩ := okWide_slice ht hval
  obtain ⟨fuel, hf⟩ := h
  rcases open_slice ht hf with ⟨hcs, hx⟩ | ⟨a, len, cap, m, nn, D, Pl, hcs, _, hl, _, hm, hx, hi⟩
  · simp [Value.cells] at hcs
    obtain ⟨rfl, rfl, rfl⟩ := hcs
    exact ⟨none, 0, 0, fun _ => ⟨0, 0, 0, none, 0, 0, [], 0, false, 0, 0, 0, 0, 0, 0, 0, 0⟩, rfl, Nat.le_refl _, by omega, Rds.zero _ _ _ _, fun i h => by omega⟩
  · simp [Value.cells] at hcs
    obtain ⟨rfl, rfl, rfl⟩ := hcs
    simp only [Prod.mk.injEq] at hx
    simp only [if_true] at hm
    subst hm
    obtain ⟨rfl, _⟩ := hx
    have hw2 : (n + (m - n)) * Tryd.prog.bytesOf 45 ≤ reachBytes := by
      have := hw ((((List.range n).map D).length + ((List.range (m - n)).map fun j => D (n + j)).length) * Tryd.prog.bytesOf 45) (by unfold DataW.weights; rw [ht]; exact List.mem_cons_self ..)
      simpa using this
    rw [bytes_op] at hw2
    unfold reachBytes at hw2
    have key : ∀ i, ∃ o : Opv, i < n → (∀ j, j < 14 → W.cell? (a.add (i * 14 + j)) = some (o.cells.getD j (.bool false))) ∧ o.Ok W ∧ o.len ≤ 140737488355328 := by
      intro i
      by_cases hin : i < n
      · obtain ⟨cs', hc, hd⟩ := hi i (by omega)
        rw [hC] at hc
        obtain ⟨o, rfl, ho1, ho2⟩ := op_open hd
        obtain ⟨_, hcl, hat⟩ := World.cells?_some hc
        refine ⟨o, fun _ => ⟨fun j hj => ?_, ho1, ho2 fun q hq => hw q ?_⟩⟩
        · have := hat j hj
          rw [Go.Deep.add_add] at this
          rw [this, List.getD_eq_getElem?_getD]
          have hl : j < o.cells.length := by simpa [Opv.cells] using hj
          simp [List.getElem?_eq_getElem hl]
        · unfold DataW.weights
          rw [ht]
          refine List.mem_cons_of_mem _ (List.mem_append_left _ (mem_all _ (D i) (List.mem_map.2 ⟨i, List.mem_range.2 hin, rfl⟩) q hq))
      · exact ⟨⟨0, 0, 0, none, 0, 0, [], 0, false, 0, 0, 0, 0, 0, 0, 0, 0⟩, fun h => absurd h hin⟩
    obtain ⟨O, hO⟩ := Classical.axiomOfChoice key
    exact ⟨some a, n, m, O, rfl, hl, by omega, fun _ => ⟨a, rfl, fun i hin j hj => (hO i hin).1 j hj⟩, fun i hin => (hO i hin).2⟩
end
end Go.Proofs.YthalmjjbamglgaaDoor
