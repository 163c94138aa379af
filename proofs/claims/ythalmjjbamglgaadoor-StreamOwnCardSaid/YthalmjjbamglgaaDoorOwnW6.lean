/-
  The walk of StreamOwn, its arms joined.
  No condition of its own: the facts 'Sen6' and 'Tab' on the world.
-/
import Derived.Test.YthalmjjbamglgaaDoorOwnS6
import Derived.Test.YthalmjjbamglgaaDoorOwnB6
namespace Go.Proofs.YthalmjjbamglgaaDoor
open Go.RowKit

theorem streamown_walk {a : Nat → Addr} (w : World) (hs : Sen6 w.heap.size a w) (ht : Tab w.heap.size w) (A : Option Addr) (d c : Nat) (ys : List Int) (hb : Bs w (.slice A d c) ys) (nI : Int) :
    Calls Tryd.prog 8 #[.slice A d c, .int .i64 nI] w fun e w' => e = .returned (.bool true) ∧ Below w.heap.size w w' := by
  by_cases h : d ≤ 400
  · by_cases h1 : nI < 1
    · exact own_Slo w hs ht A d c ys hb h nI h1
    · by_cases h2 : 400 < nI
      · exact own_Shi w hs ht A d c ys hb h nI h2
      · exact own_Sin w hs ht A d c ys hb h nI ⟨by omega, by omega⟩
  · by_cases h1 : nI < 1
    · exact own_Llo w hs ht A d c ys hb (by omega) nI h1
    · by_cases h2 : 400 < nI
      · exact own_Lhi w hs ht A d c ys hb (by omega) nI h2
      · exact own_Lin w hs ht A d c ys hb (by omega) nI ⟨by omega, by omega⟩
end Go.Proofs.YthalmjjbamglgaaDoor
