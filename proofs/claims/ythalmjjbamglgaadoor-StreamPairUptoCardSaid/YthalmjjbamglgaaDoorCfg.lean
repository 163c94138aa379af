/-
  A Config by value opened: eight numbers. A script's length by its bulk.
  No condition.
-/
import Derived.Test.YthalmjjbamglgaaDoorOps
namespace Go.Proofs.YthalmjjbamglgaaDoor
open Go.RowKit Go.ChangeShapes Go.WideShapes Go.Deep

section
variable {H : Type} {enc : TypeId × Value → H} {W : World}
set_option maxRecDepth 100000 in
theorem cfg_open {base : Nat} {v : Value} {d : DataW H} {p : List MemPlace} (hval : Value.okWide Tryd.prog W .any base 43 v) (h : DataW.Trod enc Tryd.prog W 0 (fun _ => true) true 43 v d p) :
    ∃ c0 c1 c2 c3 c4 c5 c6 c7 : Int, v = .agg #[.int .i64 c0, .int .i64 c1, .int .i64 c2, .int .i64 c3, .int .i64 c4, .int .i64 c5, .int .i64 c6, .int .i64 c7] ∧ i64B c0 ∧ i64B c1 ∧ i64B c2 ∧ i64B c3 ∧ i64B c4 ∧ i64B c5 ∧ i64B c6 ∧ i64B c7 := by
  obtain ⟨cs, rfl, hsz⟩ := okWide_struct Tryd.underlying43 hval
  rw [show Tryd.prog.cellsOf 43 = 8 from by kernel_rfl] at hsz
  obtain ⟨v0, v1, v2, v3, v4, v5, v6, v7, he⟩ := list8 cs.toList (by simpa using hsz)
  obtain rfl : cs = #[v0, v1, v2, v3, v4, v5, v6, v7] := by cases cs; simp_all
  obtain ⟨fuel, h6⟩ := h
  obtain ⟨ys, n', _, _, gl, glen, gf⟩ := DataW.trod_struct Tryd.underlying43 h6
  obtain ⟨y0, y1, y2, y3, y4, y5, y6, y7, rfl⟩ := list8 ys glen
  have g0 : DataW.trod enc Tryd.prog W 0 (fun _ => true) true n' 3 [v0] = some y0 := by
    have h := gf 0 _ rfl
    have e : Tryd.prog.cellsOf 3 = 1 := by kernel_rfl
    change DataW.trod enc Tryd.prog W 0 (fun _ => true) true n' 3 (List.take (Tryd.prog.cellsOf 3) (List.drop 0 [v0, v1, v2, v3, v4, v5, v6, v7])) = some y0 at h
    rw [e] at h
    exact h
  have g1 : DataW.trod enc Tryd.prog W 0 (fun _ => true) true n' 3 [v1] = some y1 := by
    have h := gf 1 _ rfl
    have e : Tryd.prog.cellsOf 3 = 1 := by kernel_rfl
    change DataW.trod enc Tryd.prog W 0 (fun _ => true) true n' 3 (List.take (Tryd.prog.cellsOf 3) (List.drop 1 [v0, v1, v2, v3, v4, v5, v6, v7])) = some y1 at h
    rw [e] at h
    exact h
  have g2 : DataW.trod enc Tryd.prog W 0 (fun _ => true) true n' 3 [v2] = some y2 := by
    have h := gf 2 _ rfl
    have e : Tryd.prog.cellsOf 3 = 1 := by kernel_rfl
    change DataW.trod enc Tryd.prog W 0 (fun _ => true) true n' 3 (List.take (Tryd.prog.cellsOf 3) (List.drop 2 [v0, v1, v2, v3, v4, v5, v6, v7])) = some y2 at h
    rw [e] at h
    exact h
  have g3 : DataW.trod enc Tryd.prog W 0 (fun _ => true) true n' 3 [v3] = some y3 := by
    have h := gf 3 _ rfl
    have e : Tryd.prog.cellsOf 3 = 1 := by kernel_rfl
    change DataW.trod enc Tryd.prog W 0 (fun _ => true) true n' 3 (List.take (Tryd.prog.cellsOf 3) (List.drop 3 [v0, v1, v2, v3, v4, v5, v6, v7])) = some y3 at h
    rw [e] at h
    exact h
  have g4 : DataW.trod enc Tryd.prog W 0 (fun _ => true) true n' 3 [v4] = some y4 := by
    have h := gf 4 _ rfl
    have e : Tryd.prog.cellsOf 3 = 1 := by kernel_rfl
    change DataW.trod enc Tryd.prog W 0 (fun _ => true) true n' 3 (List.take (Tryd.prog.cellsOf 3) (List.drop 4 [v0, v1, v2, v3, v4, v5, v6, v7])) = some y4 at h
    rw [e] at h
    exact h
  have g5 : DataW.trod enc Tryd.prog W 0 (fun _ => true) true n' 3 [v5] = some y5 := by
    have h := gf 5 _ rfl
    have e : Tryd.prog.cellsOf 3 = 1 := by kernel_rfl
    change DataW.trod enc Tryd.prog W 0 (fun _ => true) true n' 3 (List.take (Tryd.prog.cellsOf 3) (List.drop 5 [v0, v1, v2, v3, v4, v5, v6, v7])) = some y5 at h
    rw [e] at h
    exact h
  have g6 : DataW.trod enc Tryd.prog W 0 (fun _ => true) true n' 3 [v6] = some y6 := by
    have h := gf 6 _ rfl
    have e : Tryd.prog.cellsOf 3 = 1 := by kernel_rfl
    change DataW.trod enc Tryd.prog W 0 (fun _ => true) true n' 3 (List.take (Tryd.prog.cellsOf 3) (List.drop 6 [v0, v1, v2, v3, v4, v5, v6, v7])) = some y6 at h
    rw [e] at h
    exact h
  have g7 : DataW.trod enc Tryd.prog W 0 (fun _ => true) true n' 3 [v7] = some y7 := by
    have h := gf 7 _ rfl
    have e : Tryd.prog.cellsOf 3 = 1 := by kernel_rfl
    change DataW.trod enc Tryd.prog W 0 (fun _ => true) true n' 3 (List.take (Tryd.prog.cellsOf 3) (List.drop 7 [v0, v1, v2, v3, v4, v5, v6, v7])) = some y7 at h
    rw [e] at h
    exact h
  obtain ⟨c0, rfl, w0⟩ := int_one Tryd.underlying3 g0
  obtain ⟨c1, rfl, w1⟩ := int_one Tryd.underlying3 g1
  obtain ⟨c2, rfl, w2⟩ := int_one Tryd.underlying3 g2
  obtain ⟨c3, rfl, w3⟩ := int_one Tryd.underlying3 g3
  obtain ⟨c4, rfl, w4⟩ := int_one Tryd.underlying3 g4
  obtain ⟨c5, rfl, w5⟩ := int_one Tryd.underlying3 g5
  obtain ⟨c6, rfl, w6⟩ := int_one Tryd.underlying3 g6
  obtain ⟨c7, rfl, w7⟩ := int_one Tryd.underlying3 g7
  exact ⟨c0, c1, c2, c3, c4, c5, c6, c7, rfl, bounds_i64 w0, bounds_i64 w1, bounds_i64 w2, bounds_i64 w3, bounds_i64 w4, bounds_i64 w5, bounds_i64 w6, bounds_i64 w7⟩
theorem bulk_one_ : ∀ (ds : List (DataW H)) (j : Nat) (d : DataW H), ds[j]? = some d → Rows.uptoBulk d ≤ Rows.uptoBulkAll ds
  | [], _, _, h => by simp at h
  | d0 :: r, 0, d, h => by
    simp only [List.getElem?_cons_zero, Option.some.injEq] at h
    subst h
    simp only [Rows.uptoBulkAll]
    omega
  | d0 :: r, j + 1, d, h => by
    have := bulk_one_ r j d (by simpa using h)
    simp only [Rows.uptoBulkAll]
    omega
theorem bulk_len2_ (ds : List (DataW H)) (h : ∀ d ∈ ds, 1 ≤ Rows.uptoBulk d) : ds.length ≤ Rows.uptoBulkAll ds := by
  induction ds with
  | nil => simp
  | cons d ds ih =>
    simp only [List.length_cons, Rows.uptoBulkAll]
    have := h d (List.mem_cons_self ..)
    have := ih fun x hx => h x (List.mem_cons_of_mem _ hx)
    omega
theorem bulk_pos_ (d : DataW H) : 1 ≤ Rows.uptoBulk d := by
  cases d with
  | lit l => cases l <;> simp [Rows.uptoBulk]
  | _ => simp [Rows.uptoBulk]
theorem small_one_ {ds : List (DataW H)} (h : Rows.uptoSmall H ds = true) (j : Nat) {d : DataW H} (hj : ds[j]? = some d) : Rows.uptoBulk d ≤ 1048576 := Nat.le_trans (bulk_one_ ds j d hj) (of_decide_eq_true h)
theorem len_bulk_ {d : DataW H} {c : Nat} (hd : (d = .nil ∧ c = 0) ∨ ∃ es sp, d = .slice es sp ∧ es.length + sp.length = c) : c ≤ Rows.uptoBulk d := by
  rcases hd with ⟨_, rfl⟩ | ⟨es, sp, rfl, rfl⟩
  · exact Nat.zero_le _
  · have h3 := bulk_len2_ es fun d _ => bulk_pos_ d
    have h4 := bulk_len2_ sp fun d _ => bulk_pos_ d
    simp only [Rows.uptoBulk]
    omega
theorem agg_bulk_ (ys : List (DataW H)) (j : Nat) {d : DataW H} (hj : ys[j]? = some d) : Rows.uptoBulk d ≤ Rows.uptoBulk (.agg ys) := by
  have := bulk_one_ ys j d hj
  simp only [Rows.uptoBulk]
  omega
set_option maxRecDepth 100000 in
/-- A script's length is at most its bulk. -/
theorem script_bulk {v : Value} {d : DataW H} {p : List MemPlace} {A : Option Addr} {n c : Nat} (hv : v = .slice A n c) (h : DataW.Trod enc Tryd.prog W 0 (fun _ => true) true 37 v d p) : n ≤ Rows.uptoBulk d := by
  subst hv
  obtain ⟨fuel, hf⟩ := h
  rcases open_slice Tryd.underlying37 hf with ⟨hcs, hx⟩ | ⟨a, len, cap, m, nn, D, Pl, hcs, _, hl, _, hm, hx, hi⟩
  · simp [Value.cells] at hcs
    obtain ⟨rfl, rfl, rfl⟩ := hcs
    exact Nat.zero_le _
  · simp [Value.cells] at hcs
    obtain ⟨rfl, rfl, rfl⟩ := hcs
    simp only [Prod.mk.injEq] at hx
    simp only [if_true] at hm
    subst hm
    obtain ⟨rfl, _⟩ := hx
    refine Nat.le_trans hl ?_
    exact len_bulk_ (.inr ⟨_, _, rfl, by simp; omega⟩)
end
end Go.Proofs.YthalmjjbamglgaaDoor
