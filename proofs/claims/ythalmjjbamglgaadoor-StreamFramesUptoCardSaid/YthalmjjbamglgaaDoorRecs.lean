/-
  The cells of one element of a slice of structs, at the addresses that a walk asks for.
  No condition.
-/
import Derived.Test.YthalmjjbamglgaaDoorShapes
namespace Go.Proofs.YthalmjjbamglgaaDoor
open Go.RowKit

theorem rec_off {w : World} {ad : Addr} {x j : Nat} {v : Value} (h : w.cell? (ad.add (x + j)) = some v) (hj : 0 < j) : w.cell? ⟨(ad.add x).block, (ad.add x).off + j, none⟩ = some v := by
  have e : (ad.add x).add j = ⟨(ad.add x).block, (ad.add x).off + j, none⟩ := by
    show (if j = 0 then _ else _) = _
    rw [if_neg (by omega)]
  rw [← e, Go.Deep.add_add]
  exact h
/-- Element k's field 0, and another field j. -/
theorem Rds.f0 {w wr : World} {A : Option Addr} {n m : Nat} {F : Nat → Nat → Value} {ad : Addr} (h : Rds w A n m F) (e : A = some ad) (hb : Below w.heap.size w wr) (hm : 0 < m) {k : Nat} (hk : k < n) : wr.cell? (ad.add (k * m)) = some (F k 0) := by
  have hl := h.lt hm ad (by omega) e
  obtain ⟨ad', e', hc⟩ := h (by omega)
  obtain rfl := Option.some.inj (e.symm.trans e')
  exact (hb.cell (by rw [block_add]; exact hl)).trans (hc k hk 0 hm)
theorem Rds.fj {w wr : World} {A : Option Addr} {n m : Nat} {F : Nat → Nat → Value} {ad : Addr} (h : Rds w A n m F) (e : A = some ad) (hb : Below w.heap.size w wr) {k j : Nat} (hk : k < n) (hj : 0 < j) (hm : j < m) : wr.cell? ⟨(ad.add (k * m)).block, (ad.add (k * m)).off + j, none⟩ = some (F k j) := by
  have hl := h.lt (by omega) ad (by omega) e
  obtain ⟨ad', e', hc⟩ := h (by omega)
  obtain rfl := Option.some.inj (e.symm.trans e')
  exact rec_off ((hb.cell (by rw [block_add]; exact hl)).trans (hc k hk j hm)) hj
end Go.Proofs.YthalmjjbamglgaaDoor
