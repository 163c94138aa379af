/-
  culvertlaw10.copied and the reference's New by contracts.
  No condition of its own.
-/
import Derived.Test.YthalmjjbamglgaaDoorStr9
import Derived.Test.YthalmjjbamglgaaDoorG2
import Derived.Handy
namespace Go.Proofs.YthalmjjbamglgaaDoor
open Go.RowKit

theorem copied_any (w : World) (A : Option Addr) (n c : Nat) (xs : List Int) (hl : xs.length = n) (hr : Rd w A n fun i => .int .u8 (xs.getD i 0)) (hn : n ≤ 140737488355328) :
    Calls Tryd.prog 23 #[.slice A n c] w fun e w' => ∃ v, e = .returned v ∧ Ob w' w.heap.size 5 v n (u8s xs) ∧ Chg none_ w w' := by
  have HR := Lib.hid hr
  have HN := Lib.hid (And.intro hl hn)
  clear hr hl hn
  go_enter Tryd.func23, Tryd.ntmps23
  go_wp2_with (at_builtin; refine wpList_append_bytes rfl (.tmp 3) (.tmp 4) rfl rfl (ob_nil _ w.heap.size _ _) A n c xs rfl HN.out.1 ?hr ?hb ?hz ?_)
  case hr => exact HR.out.keep ((Below.refl _ _).alloc (Nat.le_refl _) _)
  case hb => have := HN.out; omega
  case hz => simp
  intro v' w' h1 h2 h3
  have HC : Hid (Chg none_ w w') := ((Chg.refl none_ w).alloc _).grown h2 fun k hk _ => by simp [obk] at hk
  have H1 := Lib.hid h1
  clear h1 h2 h3
  go_wp2
  go_ret
  exact ⟨_, rfl, by simpa [u8s] using H1.out, HC.out⟩

def rfNew (id : Int) (mine : Bool) (W stage frame : Nat) : Value :=
  .agg #[.int .u32 id, .int .i64 (W : Int), .int .i64 (stage : Int), .int .i64 (frame : Int), .bool mine, .bool false, .slice none 0 0, .bool false, .bool false, .int .i64 (W : Int), .slice none 0 0, .int .i64 (W : Int), .int .i64 0, .bool false, .bool false, .bool false, .bool false]
set_option maxRecDepth 100000 in
theorem qnew_ok (w : World) (id : Int) (mine : Bool) (W stage frame : Nat) (x3 x4 x5 x6 x7 : Value) (h1 : 1 ≤ id) (w1 : 1 ≤ W) (w2 : W ≤ 2147483647) (s1 : 1 ≤ stage) (s2 : stage ≤ 1048576) (f1 : 1 ≤ frame) (f2 : frame ≤ 65536) :
    Calls Tryd.prog 50 #[.int .u32 id, .agg #[.int .i64 (W : Int), .int .i64 (stage : Int), .int .i64 (frame : Int), x3, x4, x5, x6, x7], .bool mine] w fun e w' => e = .returned (.tuple #[rfNew id mine W stage frame, .int .i64 0]) ∧ Chg none_ w w' := by
  have a1 : ¬ id = 0 := by omega
  have a2 : ¬ (W : Int) < 1 := by omega
  have a3 : ¬ (2147483647 : Int) < (W : Int) := by omega
  have a4 : ¬ (stage : Int) < 1 := by omega
  have a5 : ¬ (1048576 : Int) < (stage : Int) := by omega
  have a6 : ¬ (frame : Int) < 1 := by omega
  have a7 : ¬ (65536 : Int) < (frame : Int) := by omega
  clear h1 w1 w2 s1 s2 f1 f2
  go_enter Tryd.func50, Tryd.ntmps50
  go_wp2
  refine bodyPost_ret (by simp [results, Tryd.results50, go_sem]; try rfl) rfl ?_
  exact ⟨rfl, ((Chg.refl none_ w).alloc _).alloc _⟩
end Go.Proofs.YthalmjjbamglgaaDoor
