/-
  Plain lemmas, more: slices that read as lists, arguments opened, sizes out of the row's own bound.
  No condition.
-/
import Derived.Test.YthalmjjbamglgaaDoorBase
import Derived.Maps.AppendAt
import Derived.Deep.Slices
namespace Go.Proofs.YthalmjjbamglgaaDoor
open Go.RowKit Go.ChangeShapes Go.WideShapes

theorem below_drewN {B : Nat} {w w' : World} (h : Below B w w') (n : Nat) : Below B w (w'.drewN n) := ⟨h.os, h.tape, h.output, h.size, h.block⟩
theorem Rd.drewN {w : World} {A : Option Addr} {n : Nat} {f : Nat → Value} (h : Rd w A n f) (k : Nat) : Rd (w.drewN k) A n f := h
theorem Rd.keep {w w' : World} {A : Option Addr} {n : Nat} {f : Nat → Value} (h : Rd w A n f) (hb : Below w.heap.size w w') : Rd w' A n f := h.below hb fun ad hn e => h.lt ad hn e
theorem Rd.congr {w : World} {A : Option Addr} {n : Nat} {f g : Nat → Value} (h : Rd w A n f) (e : ∀ i, i < n → f i = g i) : Rd w A n g := fun hn => by
  obtain ⟨ad, ea, hc⟩ := h hn
  exact ⟨ad, ea, fun i hi => by rw [← e i hi]; exact hc i hi⟩
theorem Rd.own {w : World} {base : Nat} {e : TypeId} {A : Option Addr} {n c : Nat} {xs : List Value} {f : Nat → Value} (h : w.ownsRow base e 1 (.slice A n c) n xs) (hx : ∀ i, i < n → xs[i]? = some (f i)) : Rd w A n f := fun hn => by
  have h0 := h
  rcases h0.2 with ⟨h1, h2⟩ | ⟨g, cap, cur, hv, _, _, _⟩
  · omega
  · injection hv with hA _ _
    subst hA
    exact ⟨_, rfl, fun i hi => h.cells (g := g) rfl i _ (hx i hi)⟩
theorem own_slice {w : World} {base : Nat} {e : TypeId} {s n : Nat} {v : Value} {xs : List Value} (h : w.ownsRow base e s v n xs) : ∃ A c, v = .slice A n c := by
  rcases h.2 with ⟨rfl, rfl⟩ | ⟨g, cap, cur, rfl, _⟩
  · exact ⟨_, _, rfl⟩
  · exact ⟨_, _, rfl⟩

theorem drop_get {zs : List Int} {k : Nat} (h : k < zs.length) : zs.drop k = zs.getD k 0 :: zs.drop (k + 1) := by
  rw [List.drop_eq_getElem_cons h, List.getD_eq_getElem?_getD, List.getElem?_eq_getElem h]
  rfl
theorem ints_get {kd : IntKind} {zs : List Int} {i : Nat} (h : i < zs.length) : (zs.map (Value.int kd))[i]? = some (.int kd (zs.getD i 0)) := by
  rw [List.getElem?_map, List.getD_eq_getElem?_getD, List.getElem?_eq_getElem h]
  rfl
theorem take_get {kd : IntKind} {zs : List Int} {k : Nat} (h : k < zs.length) : (zs.map (Value.int kd)).take (k + 1) = (zs.map (Value.int kd)).take k ++ [.int kd (zs.getD k 0)] := by
  rw [List.take_succ_eq_append_getElem (by simpa using h), List.getElem_map, List.getD_eq_getElem?_getD, List.getElem?_eq_getElem h]
  rfl
theorem getD_mem {zs : List Int} {i : Nat} (h : i < zs.length) : zs.getD i 0 ∈ zs := by
  rw [List.getD_eq_getElem?_getD, List.getElem?_eq_getElem h]
  exact List.getElem_mem h

section
variable {H : Type} {enc : TypeId × Value → H} {P : Program} {W : World}

/-- Each argument's weights are within the row's own bound. -/
theorem weights_at : ∀ (ts : List TypeId) (ds : List (DataW H)) (j : Nat) (t : TypeId) (d : DataW H), (DataW.weightsEach P ts ds).all (· ≤ reachBytes) = true → ts[j]? = some t → ds[j]? = some d → ∀ x ∈ d.weights P t, x ≤ reachBytes
  | [], _, _, _, _, _, h, _ => by simp at h
  | _ :: _, [], _, _, _, _, _, h => by simp at h
  | t0 :: ts, d0 :: ds, j, t, d, hall, ht, hd => by
    simp only [DataW.weightsEach, List.all_append, Bool.and_eq_true] at hall
    cases j with
    | zero =>
      simp only [List.getElem?_cons_zero, Option.some.injEq] at ht hd
      subst ht hd
      intro x hx
      have := List.all_eq_true.1 hall.1 x hx
      simpa using this
    | succ j => exact weights_at ts ds j t d hall.2 (by simpa using ht) (by simpa using hd)

theorem slice_weight {t e : TypeId} {es sp : List (DataW H)} {b : Nat} (ht : P.underlying t = some (.slice e)) (hb : P.bytesOf e = b) (h : ∀ x ∈ (DataW.slice es sp).weights P t, x ≤ reachBytes) : (es.length + sp.length) * b ≤ reachBytes := by
  have := h ((es.length + sp.length) * P.bytesOf e) (by simp [DataW.weights, ht])
  rwa [hb] at this

/-- A slice of whole numbers, nil or not, opened. -/
theorem open_ints_rd {base : Nat} {t e : TypeId} {kd : IntKind} {v : Value} {d : DataW H} {p : List MemPlace} (ht : P.underlying t = some (.slice e)) (he : P.underlying e = some (.int kd)) (hc : P.cellsOf e = 1)
    (hval : Value.okWide P W .any base t v) (h : DataW.Trod enc P W 0 (fun _ => true) true t v d p) :
    ∃ (A : Option Addr) (n c : Nat) (zs : List Int), v = .slice A n c ∧ zs.length = n ∧ n ≤ c ∧ (Rd W A n fun i => .int kd (zs.getD i 0)) ∧ (∀ z ∈ zs, (Lit.int kd z).wf = true) ∧
      ((d = .nil ∧ c = 0) ∨ ∃ es sp, d = .slice es sp ∧ es.length + sp.length = c) := by
  obtain ⟨A, n, c, rfl⟩ := okWide_slice ht hval
  obtain ⟨fuel, hf⟩ := h
  rcases open_ints ht he hc hf with ⟨hcs, hx⟩ | ⟨a, len, cap, zs, hcs, _, hl, hm, hz, hx, hcell, hwz⟩
  · simp [Value.cells] at hcs
    obtain ⟨rfl, rfl, rfl⟩ := hcs
    simp only [Prod.mk.injEq] at hx
    exact ⟨none, 0, 0, [], rfl, rfl, Nat.le_refl _, Rd.zero _ _ _, (fun z h => by cases h), .inl ⟨hx.1, rfl⟩⟩
  · simp [Value.cells] at hcs
    obtain ⟨rfl, rfl, rfl⟩ := hcs
    simp only [Prod.mk.injEq] at hx
    simp only [if_true] at hz
    refine ⟨some a, n, c, zs.take n, rfl, by rw [List.length_take]; omega, hl, fun _ => ⟨a, rfl, fun i hi => ?_⟩, fun z h => hwz z (List.mem_of_mem_take h), .inr ⟨_, _, hx.1, ?_⟩⟩
    · rw [hcell i (by omega)]
      congr 2
      rw [List.getD_eq_getElem?_getD, List.getD_eq_getElem?_getD, List.getElem?_take, if_pos hi]
    · simp [lits, List.length_take, List.length_drop]
      omega

theorem sliceD_le {t e : TypeId} {b n c : Nat} {d : DataW H} (ht : P.underlying t = some (.slice e)) (hb : P.bytesOf e = b) (hnc : n ≤ c) (hd : (d = .nil ∧ c = 0) ∨ ∃ es sp, d = .slice es sp ∧ es.length + sp.length = c)
    (h : ∀ x ∈ d.weights P t, x ≤ reachBytes) : n * b ≤ reachBytes := by
  rcases hd with ⟨_, rfl⟩ | ⟨es, sp, rfl, rfl⟩
  · have : n = 0 := by omega
    subst this
    simp
  · exact Nat.le_trans (Nat.mul_le_mul_right _ hnc) (slice_weight ht hb h)
end
end Go.Proofs.YthalmjjbamglgaaDoor
