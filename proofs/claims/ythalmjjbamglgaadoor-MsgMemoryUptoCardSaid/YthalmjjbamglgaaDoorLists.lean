/-
  Arguments opened: a slice of slices of bytes as a list of byte lists; bulks.
  No condition.
-/
import Derived.Test.YthalmjjbamglgaaDoorMsg5
import Derived.Deep.Matrix
namespace Go.Proofs.YthalmjjbamglgaaDoor
open Go.RowKit Go.ChangeShapes Go.WideShapes Go.Deep

section
variable {H : Type} {enc : TypeId × Value → H} {P : Program} {W : World}
theorem bulk_map {α : Type} (f : α → DataW H) (g : α → Nat) (l : List α) (h : ∀ x ∈ l, g x ≤ Rows.uptoBulk (f x)) : (l.map g).sum ≤ Rows.uptoBulkAll (l.map f) := by
  induction l with
  | nil => simp
  | cons x l ih =>
    simp only [List.map_cons, List.sum_cons, Rows.uptoBulkAll]
    have := h x (List.mem_cons_self ..)
    have := ih fun y hy => h y (List.mem_cons_of_mem _ hy)
    omega
theorem bulk_ints (k : IntKind) (zs : List Int) : Rows.uptoBulkAll (lits (H := H) k zs) = zs.length := by
  induction zs with
  | nil => rfl
  | cons z zs ih =>
    simp only [lits, List.map_cons, Rows.uptoBulkAll, Rows.uptoBulk, List.length_cons] at ih ⊢
    omega
theorem bulk_one : ∀ (ds : List (DataW H)) (j : Nat) (d : DataW H), ds[j]? = some d → Rows.uptoBulk d ≤ Rows.uptoBulkAll ds
  | [], _, _, h => by simp at h
  | d0 :: r, 0, d, h => by
    simp only [List.getElem?_cons_zero, Option.some.injEq] at h
    subst h
    simp only [Rows.uptoBulkAll]
    omega
  | d0 :: r, j + 1, d, h => by
    have := bulk_one r j d (by simpa using h)
    simp only [Rows.uptoBulkAll]
    omega
theorem bulk_row (A : Option Addr) (L : Nat) (zs : List Int) (hA : A = none → L = 0) (hL : L ≤ zs.length) : L + 1 ≤ Rows.uptoBulk (intRow (H := H) .u8 A L zs) := by
  cases A with
  | none =>
    obtain rfl := hA rfl
    simp [intRow, Rows.uptoBulk]
  | some a =>
    simp only [intRow, Rows.uptoBulk, bulk_ints, List.length_take, List.length_drop]
    omega

/-- A slice of slices of bytes, nil or not, opened. -/
theorem open_lists {base : Nat} {t e q : TypeId} {v : Value} {d : DataW H} {p : List MemPlace} (ht : P.underlying t = some (.slice e)) (he : P.underlying e = some (.slice q)) (hq : P.underlying q = some (.int .u8)) (ce : P.cellsOf e = 1) (cq : P.cellsOf q = 1)
    (hval : Value.okWide P W .any base t v) (h : DataW.Trod enc P W 0 (fun _ => true) true t v d p) :
    ∃ (us : List Value) (ms : List (List Int)), Lst W 0 v us ms ∧ us.length + (ms.map List.length).sum ≤ Rows.uptoBulk d ∧ (∀ A n c, v = .slice A n c → n = us.length) := by
  obtain ⟨A, n, c, rfl⟩ := okWide_slice ht hval
  obtain ⟨fuel, hf⟩ := h
  rcases open_int_rows ht he hq ce cq hf with ⟨hcs, hx⟩ | ⟨a, len, cap, Ar, L, C, Z, hcs, _, hl, hm, hx, hr⟩
  · simp [Value.cells] at hcs
    obtain ⟨rfl, rfl, rfl⟩ := hcs
    exact ⟨[], [], Lst.nil _ _, by simp, fun A n c e => by cases e; rfl⟩
  · simp [Value.cells] at hcs
    obtain ⟨rfl, rfl, rfl⟩ := hcs
    simp only [Prod.mk.injEq] at hx
    refine ⟨(List.range n).map fun r => .slice (Ar r) (L r) (C r), (List.range n).map fun r => (Z r).take (L r), ⟨⟨some a, c, by simp, by simpa using hl, ?_⟩, ?_, fun _ _ => Nat.zero_le _, fun _ _ _ _ => Nat.zero_le _⟩, ?_, fun A n' c' e => by cases e; simp⟩
    · intro _
      refine ⟨a, rfl, fun i hi => ?_⟩
      simp only [List.length_map, List.length_range] at hi
      rw [(hr i (by omega)).1]
      simp [List.getD_eq_getElem?_getD, List.getElem?_map, List.getElem?_range hi]
    · refine All2.of (by simp) fun i u m hu hm => ?_
      have hi : i < n := by
        have := (List.getElem?_eq_some_iff.1 hu).1
        simpa using this
      simp only [List.getElem?_map, List.getElem?_range hi, Option.map_some, Option.some.injEq] at hu hm
      subst hu hm
      obtain ⟨_, h1, _, h3, h4, h5, h6⟩ := hr i (by omega)
      refine ⟨_, _, _, rfl, by rw [List.length_take]; omega, (fun z hz => bounds_u8 (h4 z (List.mem_of_mem_take hz))), fun hp => ?_, h1⟩
      cases hA : Ar i with
      | none =>
        have := h5 hA
        omega
      | some a' =>
        refine ⟨a', rfl, fun j hj => ?_⟩
        rw [(h6 a' hA).2 j (by omega)]
        show some (Value.int .u8 _) = some (Value.int .u8 (((Z i).take (L i)).getD j 0))
        rw [List.getD_eq_getElem?_getD, List.getD_eq_getElem?_getD, List.getElem?_take, if_pos hj]
    · rw [hx.1]
      simp only [Rows.uptoBulk, List.length_map, List.length_range, List.map_map]
      have h1 := bulk_map (fun r => intRow (H := H) .u8 (Ar r) (L r) (Z r)) (fun r => L r + 1) (List.range n) (fun r hrr => by
        rw [List.mem_range] at hrr
        obtain ⟨_, k1, _, k3, k4, k5, _⟩ := hr r (by omega)
        exact bulk_row _ _ _ (fun e => by have := k5 e; omega) (by omega))
      have h2 : ∀ l : List Nat, (l.map fun r => L r + 1).sum = l.length + (l.map L).sum := fun l => by
        induction l with
        | nil => rfl
        | cons x l ih => simp only [List.map_cons, List.sum_cons, List.length_cons, ih]; omega
      rw [h2, List.length_range] at h1
      have h3 : ((List.range n).map (List.length ∘ fun r => (Z r).take (L r))).sum = ((List.range n).map L).sum := by
        congr 1
        refine List.map_congr_left fun r hrr => ?_
        rw [List.mem_range] at hrr
        obtain ⟨_, k1, _, k3, _⟩ := hr r (by omega)
        simp only [Function.comp, List.length_take]
        omega
      rw [h3]
      omega
theorem bulk_len2 (ds : List (DataW H)) (h : ∀ d ∈ ds, 1 ≤ Rows.uptoBulk d) : ds.length ≤ Rows.uptoBulkAll ds := by
  induction ds with
  | nil => simp
  | cons d ds ih =>
    simp only [List.length_cons, Rows.uptoBulkAll]
    have := h d (List.mem_cons_self ..)
    have := ih fun x hx => h x (List.mem_cons_of_mem _ hx)
    omega
theorem bulk_pos (d : DataW H) : 1 ≤ Rows.uptoBulk d := by
  cases d with
  | lit l => cases l <;> simp [Rows.uptoBulk]
  | _ => simp [Rows.uptoBulk]
theorem small_len {ds : List (DataW H)} (h : Rows.uptoSmall H ds = true) (j : Nat) {d : DataW H} (hj : ds[j]? = some d) {c : Nat} (hd : (d = .nil ∧ c = 0) ∨ ∃ es sp, d = .slice es sp ∧ es.length + sp.length = c) : c ≤ 1048576 := by
  have h1 : Rows.uptoBulkAll ds ≤ 1048576 := of_decide_eq_true h
  have h2 := bulk_one ds j d hj
  rcases hd with ⟨_, rfl⟩ | ⟨es, sp, rfl, rfl⟩
  · omega
  · have h3 := bulk_len2 es fun d _ => bulk_pos d
    have h4 := bulk_len2 sp fun d _ => bulk_pos d
    simp only [Rows.uptoBulk] at h2
    omega
theorem small_one {ds : List (DataW H)} (h : Rows.uptoSmall H ds = true) (j : Nat) {d : DataW H} (hj : ds[j]? = some d) : Rows.uptoBulk d ≤ 1048576 := Nat.le_trans (bulk_one ds j d hj) (of_decide_eq_true h)
theorem len_bulk {d : DataW H} {c : Nat} (hd : (d = .nil ∧ c = 0) ∨ ∃ es sp, d = .slice es sp ∧ es.length + sp.length = c) : c ≤ Rows.uptoBulk d := by
  rcases hd with ⟨_, rfl⟩ | ⟨es, sp, rfl, rfl⟩
  · exact Nat.zero_le _
  · have h3 := bulk_len2 es fun d _ => bulk_pos d
    have h4 := bulk_len2 sp fun d _ => bulk_pos d
    simp only [Rows.uptoBulk]
    omega
theorem agg_bulk (ys : List (DataW H)) (j : Nat) {d : DataW H} (hj : ys[j]? = some d) : Rows.uptoBulk d ≤ Rows.uptoBulk (.agg ys) := by
  have := bulk_one ys j d hj
  simp only [Rows.uptoBulk]
  omega
/-- A slice of whole numbers in one cell, nil or not, opened. -/
theorem open_ints_one {t e : TypeId} {kd : IntKind} {v : Value} {m : Nat} {y : DataW H × List MemPlace} (ht : P.underlying t = some (.slice e)) (he : P.underlying e = some (.int kd)) (hc : P.cellsOf e = 1)
    (hf : DataW.trod enc P W 0 (fun _ => true) true m t [v] = some y) :
    ∃ (A : Option Addr) (n c : Nat) (zs : List Int), v = .slice A n c ∧ zs.length = n ∧ n ≤ c ∧ (Rd W A n fun i => .int kd (zs.getD i 0)) ∧ (∀ z ∈ zs, (Lit.int kd z).wf = true) ∧ n ≤ Rows.uptoBulk y.1 := by
  rcases open_ints ht he hc hf with ⟨hcs, hx⟩ | ⟨a, len, cap, zs, hcs, _, hl, hm, hz, hx, hcell, hwz⟩
  · simp at hcs
    subst hcs
    exact ⟨none, 0, 0, [], rfl, rfl, Nat.le_refl _, Rd.zero _ _ _, (fun z h => by cases h), Nat.zero_le _⟩
  · simp at hcs
    subst hcs
    simp only [if_true] at hz
    refine ⟨some a, len, cap, zs.take len, rfl, by rw [List.length_take]; omega, hl, fun _ => ⟨a, rfl, fun i hi => ?_⟩, fun z h => hwz z (List.mem_of_mem_take h), ?_⟩
    · rw [hcell i (by omega)]
      congr 2
      rw [List.getD_eq_getElem?_getD, List.getD_eq_getElem?_getD, List.getElem?_take, if_pos hi]
    · have := len_bulk (H := H) (d := y.1) (c := cap) (.inr ⟨_, _, by rw [hx], by simp [lits, List.length_take, List.length_drop]; omega⟩)
      omega
end
end Go.Proofs.YthalmjjbamglgaaDoor
