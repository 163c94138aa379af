/-
  Arguments opened, more: slices of structs of numbers and truth values, read as rows; truth values; structs by value.
  No condition.
-/
import Derived.Test.YthalmjjbamglgaaDoorMore
import Derived.Deep.Slices
import Derived.Deep.Fields
import Derived.Deep.Grids
import Derived.ChangeSame
import Derived.Lib.SmallJoins
namespace Go.Proofs.YthalmjjbamglgaaDoor
open Go.RowKit Go.ChangeShapes Go.WideShapes Go.Deep

/-- A slice value that reads as n rows of m one-cell fields. -/
def Rds (w : World) (A : Option Addr) (n m : Nat) (f : Nat → Nat → Value) : Prop := 0 < n → ∃ ad, A = some ad ∧ ∀ i, i < n → ∀ j, j < m → w.cell? (ad.add (i * m + j)) = some (f i j)

theorem Rds.zero (w : World) (A : Option Addr) (m : Nat) (f : Nat → Nat → Value) : Rds w A 0 m f := fun h => absurd h (Nat.lt_irrefl 0)
theorem Rds.lt {w : World} {A : Option Addr} {n m : Nat} {f : Nat → Nat → Value} (h : Rds w A n m f) (hm : 0 < m) (ad : Addr) (hn : 0 < n) (e : A = some ad) : ad.block < w.heap.size := by
  obtain ⟨ad', e', hc⟩ := h hn
  obtain rfl := Option.some.inj (e.symm.trans e')
  have := World.block_lt_of_cell? w _ (hc 0 hn 0 hm)
  rwa [block_add] at this
theorem Rds.below {B : Nat} {w w' : World} {A : Option Addr} {n m : Nat} {f : Nat → Nat → Value} (h : Rds w A n m f) (hb : Below B w w') (hB : ∀ ad, 0 < n → A = some ad → ad.block < B) : Rds w' A n m f := fun hn => by
  obtain ⟨ad, e, hc⟩ := h hn
  exact ⟨ad, e, fun i hi j hj => (hb.cell (by rw [block_add]; exact hB ad hn e)).trans (hc i hi j hj)⟩
theorem Rds.keep {w w' : World} {A : Option Addr} {n m : Nat} {f : Nat → Nat → Value} (h : Rds w A n m f) (hm : 0 < m) (hb : Below w.heap.size w w') : Rds w' A n m f := h.below hb fun ad hn e => h.lt hm ad hn e

def boolV : Value → Bool
  | .bool b => b
  | _ => false

/-- What a field of one cell may hold, by its type. -/
def FldOk (P : Program) (t : TypeId) (v : Value) : Prop := (P.underlying t = some .bool → ∃ b, v = .bool b) ∧ ∀ k, P.underlying t = some (.int k) → ∃ z, v = .int k z ∧ (Lit.int k z).wf = true

section
variable {H : Type} {enc : TypeId × Value → H} {P : Program} {W : World}

theorem fldOk_of {base : Nat} {sp : Nat → Bool} {held : Bool} {n : Nat} {t : TypeId} {v : Value} {y : DataW H × List MemPlace} (h : DataW.trod enc P W base sp held n t [v] = some y) : FldOk P t v :=
  ⟨fun ht => by
     obtain ⟨b, hv, _⟩ := DataW.trod_bool ht h
     exact ⟨b, by simpa using hv⟩,
   fun k ht => by
     obtain ⟨z, hv, _, hw⟩ := DataW.trod_int ht h
     exact ⟨z, by simpa using hv, hw⟩⟩

/-- A slice of structs of one-cell fields, nil or not, opened. -/
theorem open_recs_rd {base : Nat} {t e : TypeId} {fs : Array Field} {v : Value} {d : DataW H} {p : List MemPlace} (ht : P.underlying t = some (.slice e)) (he : P.underlying e = some (.struct fs)) (hone : oneCellFields P fs = true) (hC : P.cellsOf e = fs.size)
    (hval : Value.okWide P W .any base t v) (h : DataW.Trod enc P W 0 (fun _ => true) true t v d p) :
    ∃ (A : Option Addr) (n c : Nat) (F : Nat → Nat → Value), v = .slice A n c ∧ n ≤ c ∧ Rds W A n fs.size F ∧ (∀ i, i < n → ∀ (j : Nat) (f : Field), fs[j]? = some f → FldOk P f.type (F i j)) ∧
      ((d = .nil ∧ c = 0) ∨ ∃ es sp, d = .slice es sp ∧ es.length + sp.length = c) := by
  obtain ⟨A, n, c, rfl⟩ := okWide_slice ht hval
  obtain ⟨fuel, hf⟩ := h
  rcases open_slice ht hf with ⟨hcs, hx⟩ | ⟨a, len, cap, m, nn, D, Pl, hcs, _, hl, _, hm, hx, hi⟩
  · simp [Value.cells] at hcs
    obtain ⟨rfl, rfl, rfl⟩ := hcs
    simp only [Prod.mk.injEq] at hx
    exact ⟨none, 0, 0, fun _ _ => .bool false, rfl, Nat.le_refl _, Rds.zero _ _ _ _, (fun i h => by omega), .inl ⟨hx.1, rfl⟩⟩
  · simp [Value.cells] at hcs
    obtain ⟨rfl, rfl, rfl⟩ := hcs
    simp only [Prod.mk.injEq] at hx
    simp only [if_true] at hm
    subst hm
    have key : ∀ i, i < n → ∀ (j : Nat) (f : Field), fs[j]? = some f → ∃ v, W.cell? (a.add (i * fs.size + j)) = some v ∧ FldOk P f.type v := by
      intro i hin j f hj
      obtain ⟨cs', hc, hd⟩ := hi i (by omega)
      rw [hC] at hc
      obtain ⟨xs, n', _, _, _, _, hg⟩ := DataW.trod_struct he hd
      obtain ⟨_, hcl, hat⟩ := World.cells?_some hc
      obtain ⟨ho, hk⟩ := hone_of hone j f hj
      have hjl : j < fs.size := (Array.getElem?_eq_some_iff.1 hj).1
      have hv : cs'[j]? = some (cs'[j]'(by omega)) := List.getElem?_eq_getElem (by omega)
      have h1 := hg j f hj
      rw [ho, hk] at h1
      have hone1 : (cs'.drop j).take 1 = [cs'[j]'(by omega)] := by
        rw [List.drop_eq_getElem_cons (by omega)]
        rfl
      rw [hone1] at h1
      cases hx1 : xs[j]? with
      | none =>
        rw [hx1] at h1
        have hlen : xs.length = fs.size := by assumption
        rw [List.getElem?_eq_none_iff] at hx1
        omega
      | some y =>
        rw [hx1] at h1
        refine ⟨_, ?_, fldOk_of h1⟩
        rw [← Go.Deep.add_add, hat j hjl, hv]
    refine ⟨some a, n, m, fun i j => (W.cell? (a.add (i * fs.size + j))).getD (.bool false), rfl, hl, fun _ => ⟨a, rfl, fun i hin j hj => ?_⟩, fun i hin j f hj => ?_, .inr ⟨_, _, hx.1, ?_⟩⟩
    · obtain ⟨v, hv, _⟩ := key i hin j fs[j] (Array.getElem?_eq_getElem hj)
      simp [hv]
    · obtain ⟨v, hv, ho⟩ := key i hin j f hj
      simpa [hv] using ho
    · simp
      omega

/-- A slice of truth values, nil or not, opened. -/
theorem open_bools_rd {base : Nat} {t e : TypeId} {v : Value} {d : DataW H} {p : List MemPlace} (ht : P.underlying t = some (.slice e)) (he : P.underlying e = some .bool) (hc : P.cellsOf e = 1)
    (hval : Value.okWide P W .any base t v) (h : DataW.Trod enc P W 0 (fun _ => true) true t v d p) :
    ∃ (A : Option Addr) (n c : Nat) (F : Nat → Bool), v = .slice A n c ∧ n ≤ c ∧ (Rd W A n fun i => .bool (F i)) ∧ ((d = .nil ∧ c = 0) ∨ ∃ es sp, d = .slice es sp ∧ es.length + sp.length = c) := by
  obtain ⟨A, n, c, rfl⟩ := okWide_slice ht hval
  obtain ⟨fuel, hf⟩ := h
  rcases open_bools ht he hc hf with ⟨hcs, hx⟩ | ⟨a, len, cap, B, hcs, _, hl, _, hx, hcell⟩
  · simp [Value.cells] at hcs
    obtain ⟨rfl, rfl, rfl⟩ := hcs
    simp only [Prod.mk.injEq] at hx
    exact ⟨none, 0, 0, fun _ => false, rfl, Nat.le_refl _, Rd.zero _ _ _, .inl ⟨hx.1, rfl⟩⟩
  · simp [Value.cells] at hcs
    obtain ⟨rfl, rfl, rfl⟩ := hcs
    simp only [Prod.mk.injEq, boolRow] at hx
    exact ⟨some a, n, c, B, rfl, hl, fun _ => ⟨a, rfl, fun i hi => hcell i (by omega)⟩, .inr ⟨_, _, hx.1, by simp; omega⟩⟩
end
end Go.Proofs.YthalmjjbamglgaaDoor
