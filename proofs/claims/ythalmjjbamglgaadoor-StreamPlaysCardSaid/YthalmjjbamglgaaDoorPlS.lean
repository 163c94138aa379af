/-
  The document's Same of two frames that are alike, and its New's refusals, by contracts.
  No condition of its own.
-/
import Derived.Test.YthalmjjbamglgaaDoorStrK
import Derived.Test.YthalmjjbamglgaaDoorStrG
namespace Go.Proofs.YthalmjjbamglgaaDoor
open Go.RowKit

def rfZ : Value := .agg #[.int .u32 0, .int .i64 0, .int .i64 0, .int .i64 0, .bool false, .bool false, .slice none 0 0, .bool false, .bool false, .int .i64 0, .slice none 0 0, .int .i64 0, .int .i64 0, .bool false, .bool false, .bool false, .bool false]
set_option maxRecDepth 100000 in
theorem fsame_eq (w : World) (fl id k : Int) (A B : Option Addr) (n c d : Nat) (xs : List Int) (hx : xs.length = n) (ha : Rd w A n fun i => .int .u8 (xs.getD i 0)) (hb : Rd w B n fun i => .int .u8 (xs.getD i 0)) :
    Calls Tryd.prog 93 #[.agg #[.int .u8 0, .int .u8 0, .int .u16 fl, .int .u32 id, .int .u32 k, .slice A n c], .agg #[.int .u8 0, .int .u8 0, .int .u16 fl, .int .u32 id, .int .u32 k, .slice B n d]] w fun e w' => e = .returned (.bool true) ∧ Chg none_ w w' := by
  have kA : ∀ o o2 dst, Tryd.prog.underlying dst = some .string → (convert 23 dst (.slice A n c)).run Tryd.prog ((w.alloc o).alloc o2) = .ok (.string (strOfNums xs)) ((w.alloc o).alloc o2) := fun o o2 => by
    exact run_str (P := Tryd.prog) (w := (w.alloc o).alloc o2) (c := c) (n := n) (A := A) (xs := xs) 23 5 Tryd.underlying23 Tryd.underlying5 hx (ha.keep ((((Chg.refl none_ w).alloc o).alloc o2).old (Nat.le_refl _)))
  have kB : ∀ o o2 dst, Tryd.prog.underlying dst = some .string → (convert 23 dst (.slice B n d)).run Tryd.prog ((w.alloc o).alloc o2) = .ok (.string (strOfNums xs)) ((w.alloc o).alloc o2) := fun o o2 => by
    exact run_str (P := Tryd.prog) (w := (w.alloc o).alloc o2) (c := d) (n := n) (A := B) (xs := xs) 23 5 Tryd.underlying23 Tryd.underlying5 hx (hb.keep ((((Chg.refl none_ w).alloc o).alloc o2).old (Nat.le_refl _)))
  have hse : ((strOfNums xs).toList == (strOfNums xs).toList) = true := by simp
  clear hx ha hb
  go_enter Tryd.func93, Tryd.ntmps93
  go_wp2
  go_ret
  exact ⟨by first | rfl | simp, ((Chg.refl none_ w).alloc _).alloc _⟩
set_option maxRecDepth 100000 in
theorem qnew_zero (w : World) (mine : Bool) (x0 x1 x2 x3 x4 x5 x6 x7 : Value) :
    Calls Tryd.prog 50 #[.int .u32 0, .agg #[x0, x1, x2, x3, x4, x5, x6, x7], .bool mine] w fun e w' => e = .returned (.tuple #[rfZ, .int .i64 2]) ∧ Chg none_ w w' := by
  go_enter Tryd.func50, Tryd.ntmps50
  go_wp2
  refine bodyPost_ret (by simp [results, Tryd.results50, go_sem]; try rfl) rfl ?_
  exact ⟨rfl, ((Chg.refl none_ w).alloc _).alloc _⟩
end Go.Proofs.YthalmjjbamglgaaDoor
