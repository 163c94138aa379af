/-
  The walk of MsgNil.
  No condition of its own: the fact 'Sen' on the world.
-/
import Derived.Test.YtpmncndicdlmhaaDoorMsgFix
namespace Go.Proofs.YtpmncndicdlmhaaDoor
open Go.RowKit

set_option maxRecDepth 100000 in
set_option maxHeartbeats 2000000 in
theorem msgnil_walk {a : Nat → Addr} (w : World) (hs : Sen w.heap.size a w) (A : Option Addr) (n c : Nat) :
    Calls Tryd.prog 13 #[.slice A n c] w fun e w' => e = .returned (.bool true) ∧ Below w.heap.size w w' := by
  have HS := Lib.hid hs
  clear hs
  have e1 : errv a 1 = .iface 123 (.pointer (some (a 1))) := rfl
  have E1 := Lib.hid e1
  clear e1
  go_enter Tryd.func13, Tryd.ntmps13
  go_wp2_with fail
  refine (fixed_any w HS.out (Nat.le_refl _)).mono ?_
  rintro e w1 ⟨rfl, c1⟩
  have HC1 := Lib.hid c1
  clear c1
  go_wp2_with fail
  refine (feed_nil w1 (HS.out.below (HC1.out.old (Nat.le_refl _))) _).mono ?_
  rintro e w2 ⟨rfl, c2⟩
  have HC2 : Hid (Chg none_ w w2) := HC1.out.trans c2
  have HS2 : Hid (Sen w.heap.size a w2) := HS.out.below (HC2.out.old (Nat.le_refl _))
  clear c2
  go_wp2_with fail
  refine (code_any w2 HS2.out 1 (by decide)).mono ?_
  rintro e w' ⟨rfl, rfl⟩
  go_wp2_with fail
  refine (mdone_nil w2 HS2.out).mono ?_
  rintro e w' ⟨rfl, rfl⟩
  go_wp2_with fail
  refine (code_any w2 HS2.out 1 (by decide)).mono ?_
  rintro e w' ⟨rfl, rfl⟩
  go_wp2_with fail
  refine (mheld_nil w2).mono ?_
  rintro e w' ⟨rfl, rfl⟩
  go_wp2
  go_ret
  exact ⟨rfl, HC2.out.old (Nat.le_refl _)⟩
end Go.Proofs.YtpmncndicdlmhaaDoor
