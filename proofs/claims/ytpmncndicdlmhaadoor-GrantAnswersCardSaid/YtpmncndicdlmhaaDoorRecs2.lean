/-
  Slices of structs opened, with one word more: a nil one has no room.
  No condition.
-/
import Derived.Test.YtpmncndicdlmhaaDoorShapes
namespace Go.Proofs.YtpmncndicdlmhaaDoor
open Go.RowKit Go.ChangeShapes Go.WideShapes Go.Deep

section
variable {H : Type} {enc : TypeId × Value → H} {P : Program} {W : World}
/-- A slice of structs of one-cell fields, nil or not, opened. -/
theorem open_recs_rd2 {base : Nat} {t e : TypeId} {fs : Array Field} {v : Value} {d : DataW H} {p : List MemPlace} (ht : P.underlying t = some (.slice e)) (he : P.underlying e = some (.struct fs)) (hone : oneCellFields P fs = true) (hC : P.cellsOf e = fs.size)
    (hval : Value.okWide P W .any base t v) (h : DataW.Trod enc P W 0 (fun _ => true) true t v d p) :
    ∃ (A : Option Addr) (n c : Nat) (F : Nat → Nat → Value), v = .slice A n c ∧ n ≤ c ∧ Rds W A n fs.size F ∧ (∀ i, i < n → ∀ (j : Nat) (f : Field), fs[j]? = some f → FldOk P f.type (F i j)) ∧
      ((d = .nil ∧ c = 0) ∨ ∃ es sp, d = .slice es sp ∧ es.length + sp.length = c) ∧ (A = none → c = 0) := by
  obtain ⟨A, n, c, rfl⟩ := okWide_slice ht hval
  obtain ⟨fuel, hf⟩ := h
  rcases open_slice ht hf with ⟨hcs, hx⟩ | ⟨a, len, cap, m, nn, D, Pl, hcs, _, hl, _, hm, hx, hi⟩
  · simp [Value.cells] at hcs
    obtain ⟨rfl, rfl, rfl⟩ := hcs
    simp only [Prod.mk.injEq] at hx
    exact ⟨none, 0, 0, fun _ _ => .bool false, rfl, Nat.le_refl _, Rds.zero _ _ _ _, (fun i h => by omega), .inl ⟨hx.1, rfl⟩, fun _ => rfl⟩
  · simp [Value.cells] at hcs
    obtain ⟨rfl, rfl, rfl⟩ := hcs
    simp only [Prod.mk.injEq] at hx
    simp only [if_true] at hm
    subst hm
    have key : ∀ i, i < n → ∀ (j : Nat) (f : Field), fs[j]? = some f → ∃ v, W.cell? (a.add (i * fs.size + j)) = some v ∧ FldOk P f.type v := by
      intro i hin j f hj
      obtain ⟨cs', hc, hd⟩ := hi i (by omega)
      rw [hC] at hc
      obtain ⟨xs, n', _, _, _, _, hg⟩ := DataW.trod_struct he hd
      obtain ⟨_, hcl, hat⟩ := World.cells?_some hc
      obtain ⟨ho, hk⟩ := hone_of hone j f hj
      have hjl : j < fs.size := (Array.getElem?_eq_some_iff.1 hj).1
      have hv : cs'[j]? = some (cs'[j]'(by omega)) := List.getElem?_eq_getElem (by omega)
      have h1 := hg j f hj
      rw [ho, hk] at h1
      have hone1 : (cs'.drop j).take 1 = [cs'[j]'(by omega)] := by
        rw [List.drop_eq_getElem_cons (by omega)]
        rfl
      rw [hone1] at h1
      cases hx1 : xs[j]? with
      | none =>
        rw [hx1] at h1
        have hlen : xs.length = fs.size := by assumption
        rw [List.getElem?_eq_none_iff] at hx1
        omega
      | some y =>
        rw [hx1] at h1
        refine ⟨_, ?_, fldOk_of h1⟩
        rw [← Go.Deep.add_add, hat j hjl, hv]
    refine ⟨some a, n, m, fun i j => (W.cell? (a.add (i * fs.size + j))).getD (.bool false), rfl, hl, fun _ => ⟨a, rfl, fun i hin j hj => ?_⟩, fun i hin j f hj => ?_, .inr ⟨_, _, hx.1, ?_⟩, fun h => by cases h⟩
    · obtain ⟨v, hv, _⟩ := key i hin j fs[j] (Array.getElem?_eq_getElem hj)
      simp [hv]
    · obtain ⟨v, hv, ho⟩ := key i hin j f hj
      simpa [hv] using ho
    · simp
      omega

end
end Go.Proofs.YtpmncndicdlmhaaDoor
