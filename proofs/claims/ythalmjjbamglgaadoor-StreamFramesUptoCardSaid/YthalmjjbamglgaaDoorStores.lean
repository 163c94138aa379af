/-
  Several cells stored one behind the other.
  No condition.
-/
import Derived.Test.YthalmjjbamglgaaDoorBase
namespace Go.Proofs.YthalmjjbamglgaaDoor
open Go.RowKit

/-- vs stored from cell i of block p on. -/
def stores (w : World) (p i : Nat) : List Value → World
  | [] => w
  | v :: r => stores (w.setCell ⟨p, i, none⟩ v) p (i + 1) r
def puts (cs : Array Value) (i : Nat) : List Value → Array Value
  | [] => cs
  | v :: r => puts (cs.setIfInBounds i v) (i + 1) r
theorem Is.stores {w : World} {p : Nat} {t : TypeId} {cs : Array Value} (h : Is w p t cs) (i : Nat) (vs : List Value) : Is (stores w p i vs) p t (puts cs i vs) := by
  induction vs generalizing w cs i with
  | nil => exact h
  | cons v r ih => exact ih (h.put i v) (i + 1)
theorem Chg.stores {w w' : World} {S : Nat → Prop} (h : Chg S w w') {p : Nat} (hp : p < w.heap.size → S p) (i : Nat) (vs : List Value) : Chg S w (stores w' p i vs) := by
  induction vs generalizing w' i with
  | nil => exact h
  | cons v r ih => exact ih (h.setCell (p := ⟨p, i, none⟩) hp v) (i + 1)
end Go.Proofs.YthalmjjbamglgaaDoor
