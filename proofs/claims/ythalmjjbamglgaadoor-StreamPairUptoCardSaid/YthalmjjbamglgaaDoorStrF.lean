/-
  StreamOwn's parts: a frame's answer in one contract; strings of bytes put together.
  No condition of its own: the facts 'Sen' and 'Tab' on the world.
-/
import Derived.Test.YthalmjjbamglgaaDoorStr9
import Derived.Test.YthalmjjbamglgaaDoorNumAp
namespace Go.Proofs.YthalmjjbamglgaaDoor
open Go.RowKit

theorem str_app (xs ys : List Int) : strOfNums (xs ++ ys) = strOfNums xs ++ strOfNums ys := by
  apply ByteArray.ext
  unfold strOfNums
  simp [ByteArray.data_append]
theorem str_take (xs : List Int) (k : Nat) : (strOfNums xs).extract 0 k = strOfNums (xs.take k) := by
  apply ByteArray.ext
  unfold strOfNums
  simp [ByteArray.data_extract]
theorem str_drop (xs : List Int) (k n : Nat) (hn : xs.length = n) : (strOfNums xs).extract k n = strOfNums (xs.drop k) := by
  apply ByteArray.ext
  unfold strOfNums
  subst hn
  simp [ByteArray.data_extract]
  exact List.take_of_length_le (by simp)
section
variable {B : Nat} {a : Nat → Addr}
def fxK (s : Sm) : Nat := if rdyB s then frK s else 0
def fxS (s : Sm) : Sm := if rdyB s then frS s else s
theorem sframe_any (w : World) (hs : Sen B a w) (ht : Tab B w) (hB : B ≤ w.heap.size) {T : Nat → Prop} {g : Nat} {s : Sm} (h : Pst w T g s) (hTB : ∀ k, T k → B ≤ k) :
    Calls Tryd.prog 29 #[.pointer (some ⟨g, 0, none⟩)] w fun e w' => ∃ (x2 x3 x4 : Int) (v : Value) (ok : Bool), e = .returned (.tuple #[.agg #[.int .u8 0, .int .u8 0, .int .u16 x2, .int .u32 x3, .int .u32 x4, v], .bool ok]) ∧ Ob w' w.heap.size 5 v (fxK s) (u8s (s.sg.take (fxK s))) ∧ Pst w' T g (fxS s) ∧ Chg T w w' := by
  unfold fxK fxS
  cases hr : rdyB s with
  | true =>
    rw [if_pos rfl, if_pos rfl]
    refine (sframe_yes w hs ht hB h hTB hr).mono ?_
    rintro e w' ⟨v, rfl, h1, h2, h3⟩
    exact ⟨_, _, _, v, true, rfl, h1, h2, h3⟩
  | false =>
    rw [if_neg (by decide), if_neg (by decide), List.take_zero]
    refine (sframe_no w hs hB h hr).mono ?_
    rintro e w' ⟨rfl, h1, h2⟩
    exact ⟨_, _, _, _, false, rfl, ob_nil _ _ _ _, h1, h2.more fun _ _ f => f.elim⟩
end
end Go.Proofs.YthalmjjbamglgaaDoor
