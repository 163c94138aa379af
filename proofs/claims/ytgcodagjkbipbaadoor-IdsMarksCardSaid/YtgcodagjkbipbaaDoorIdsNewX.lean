/-
  ids.New by contract, whatever number.
  No condition of its own.
-/
import Derived.Test.YtgcodagjkbipbaaDoorIdsFix
namespace Go.Proofs.YtgcodagjkbipbaaDoor
open Go.RowKit

theorem Obj.lt {w : World} {g : Nat} {s : St} (h : Obj w (some ⟨g, 0, none⟩) s) : g < w.heap.size := by
  rcases h with ⟨_, h⟩ | ⟨_, g', e, hi⟩
  · cases h
  · injection e with e
    injection e with e _
    subst e
    exact Is.lt hi
theorem Obj.keep {w w' : World} {p : Option Addr} {s : St} (h : Obj w p s) (hc : Chg none_ w w') : Obj w' p s := h.chg hc fun _ _ hf => hf
theorem Obj.off {w w' : World} {g g' : Nat} {s : St} (h : Obj w (some ⟨g, 0, none⟩) s) (hn : g ≠ g') (hc : Chg (at_ (some ⟨g', 0, none⟩)) w w') : Obj w' (some ⟨g, 0, none⟩) s := h.chg hc fun b hb hf => by
  obtain ⟨x, e, rfl⟩ := hb
  obtain ⟨y, e', rfl⟩ := hf
  injection e with e
  injection e with e _
  injection e' with e'
  injection e' with e' _
  omega

theorem new_x (w : World) {B : Nat} {a : Nat → Addr} (hs : Sen B a w) (hp : Par B w) (c : Bool) (k : Int) :
    Calls Tryd.prog 48 #[.bool c, .int .i64 k] w fun e w' => ∃ p er, e = .returned (.tuple #[.pointer p, er]) ∧ Chg none_ w w' := by
  by_cases hk : k < 0 ∨ 2147483647 < k
  · exact (new_no w hs c k hk).mono fun e w' h => ⟨_, _, h.1, h.2⟩
  · exact (new_o w hp c k (by omega) (by omega)).mono fun e w' h => by
      obtain ⟨g, h1, _, _, h4⟩ := h
      exact ⟨_, _, h1, h4⟩
end Go.Proofs.YtgcodagjkbipbaaDoor
