/-
  culvertlaw27.MsgNil returns true for every list of bytes: a nil reader takes nothing and holds nothing.
  The conditions: those of the given row alone (the listed variables read as listed; each argument within the form's reach).
-/
import Derived.Test.YtpmncndicdlmhaaDoorCards
import Derived.Test.YtpmncndicdlmhaaDoorTie
import Derived.Test.YtpmncndicdlmhaaDoorMsgNil
import Derived.Test.YtpmncndicdlmhaaDoorMore
import Derived.Test.YtpmncndicdlmhaaDoorSen
import Derived.LaidMore
import Derived.Deep.DeepHandedRow
import Derived.Deep.DeepWitnessRowRef
namespace Go.Proofs.YtpmncndicdlmhaaDoor.lawMsgNil
open Go.ChangeShapes Go.WideShapes Go.ChangeAt Go.RowKit

theorem own : ownKnob Tryd.prog.godebug = none := by kernel_rfl
theorem laidOut : laidOutB Tryd.prog = true := by kernel_rfl

set_option maxRecDepth 100000 in
theorem contract (H : Type) (enc : TypeId × Value → H) (W : World) (base : Nat) (args : Array Value) (ds gs : List (DataW H)) (before : List MemPlace)
    (hval : ∀ (j : Nat) t v, Tryd.f13.params[j]? = some t → args[j]? = some v → Value.okWide Tryd.prog W .any base t v)
    (hW : DataW.Whole enc Tryd.prog Tryd.f13.params.toList Rows.msgNilSpec.vars false W args.toList ds gs before)
    (hsz : (DataW.weightsEach Tryd.prog (Tryd.f13.params.toList ++ (OpenSpec.ofChange Rows.msgNilSpec).bare.plain.varTypes Tryd.prog) (ds ++ gs)).all (· ≤ reachBytes) = true) (hL : laidMetH Tryd.prog Rows.msgNilRow.laid W) :
    Calls Tryd.prog 13 args W fun e W' => ∃ v, e = .returned v ∧ Rows.msgNilSpec.post enc Tryd.prog Tryd.f13 false true false false W args v W' := by
  have hM : laidMet Tryd.prog Rows.msgNilRow.laid W := by
    have h := hL
    rwa [MakeChecks.laidMetH_plain _ _ _ (by kernel_rfl)] at h
  obtain ⟨a, hs⟩ := sen_of_laid hM (by kernel_rfl) (by kernel_rfl)
  have hW0 := hW
  obtain ⟨p, q, hA, hV, rfl, hfz, hnd⟩ := hW0
  rw [Tryd.params13] at hA hval hsz
  obtain ⟨v0, vs0, d0, ds0, p0, q0, hargs, rfl, rfl, h0, r0⟩ := trodAll_cons hA
  obtain ⟨rfl, rfl, rfl⟩ := trodAll_nil r0
  obtain rfl : args = #[v0] := by cases args; simp_all
  obtain ⟨rfl, rfl⟩ := trodVars_none hV
  obtain ⟨A0, n0, c0, zs0, rfl, hz0, hnc0, hr0, hw0, hd0⟩ := open_ints_rd Tryd.underlying38 Tryd.underlying5 (by kernel_rfl) (hval 0 38 v0 rfl rfl) h0
  have hm0 : n0 * 1 ≤ reachBytes := sliceD_le Tryd.underlying38 (by kernel_rfl) hnc0 hd0 (weights_at _ _ 0 38 d0 hsz rfl rfl)
  unfold reachBytes at hm0
  refine law_calls laidOut (by kernel_rfl) rfl Tryd.underlying4 rfl hW rfl ?_
  exact msgnil_walk W hs A0 n0 c0

theorem laid_met (os : Os) : laidMet Tryd.prog Rows.msgNilRow.laid ((World.doorLaid Tryd.prog 807 os).forCall (fun _ _ => 0) ⟨#[], #[.slice none 0 0], []⟩).memory :=
  laidMet_of_run' 8 (by kernel_rfl) (by kernel_rfl)
theorem reads (os : Os) {H : Type} (enc : TypeId × Value → H) : ∃ places, DataW.whole enc Tryd.prog ((World.doorLaid Tryd.prog 807 os).forCall (fun _ _ => 0) ⟨#[], #[.slice none 0 0], []⟩).memory Tryd.f13.params.toList Rows.msgNilSpec.vars false (#[.slice none 0 0] : Array Value).toList 8 = some ([.nil], [], places) :=
  ⟨[], by kernel_rfl⟩

set_option maxRecDepth 100000 in
theorem lifted (os : Os) (started : os.Started) (H : Type) (enc : TypeId × Value → H) (F : Stop.Interp) :
    ReturnsInHanded {} Tryd.checked os 13 .any ((OpenSpec.ofChange Rows.msgNilSpec).preRow enc Tryd.prog Tryd.f13 Rows.msgNilRow.domain false Rows.msgNilRow.laid) (((OpenSpec.ofChange Rows.msgNilSpec).at F).post enc Tryd.prog Tryd.f13 false true false false) := by
  obtain ⟨places, hx⟩ := reads os enc
  refine returnsInHanded_of_row (C := Tryd.checked) (s := OpenSpec.ofChange Rows.msgNilSpec) own started (by kernel_rfl) Tryd.func13
    (witness_row_atRef (enc := enc) (C := Tryd.checked) false (World.doorLaid Tryd.prog 807 os) #[.slice none 0 0] rfl (by kernel_rfl) (by kernel_rfl) (by kernel_rfl)
      (OpenSpec.preRow_of_cond 8 hx (by kernel_rfl) (fun k hk => by cases hk) (by kernel_rfl) (laid_met os))) ?_
  intro W base args ds gs before hval hW _ _ hsz hL _ _
  exact contract H enc W base args ds gs before hval hW hsz hL

theorem said : Rows.MsgNilSaid :=
  OpenClaim.holds_of_cond 13 Tryd.f13 rfl rfl rfl rfl rfl rfl rfl ⟨rfl, rfl, rfl, rfl, rfl⟩ rfl rfl rfl rfl rfl (by kernel_rfl) Tryd.func13 (by kernel_rfl)
    (of_decide_eq_true (by kernel_rfl)) (by unfold Func.isWrapper; rw [if_neg (of_decide_eq_false (by kernel_rfl))]; exact ⟨rfl, rfl⟩)
    (fun os started H enc _ F => by rw [OpenClaim.pre_eq_preRow]; exact lifted os started H enc F)

theorem plain (f : FuncId) (fn : Func) (hf : Tryd.pinned.checked.prog.funcNamed "culvert/culvertlaw27.MsgNil" = some f) (hfn : Tryd.pinned.checked.prog.funcs[f]? = some fn) :
    true = Tryd.pinned.checked.prog.looks [] ∧ ∀ (j : Nat) t, fn.params[j]? = some t → Tryd.pinned.checked.prog.wantsStandIn t = false := by
  obtain rfl : f = 13 := Option.some.inj ((show Tryd.prog.funcNamed "culvert/culvertlaw27.MsgNil" = some 13 by kernel_rfl).symm.trans hf) |>.symm
  obtain rfl : fn = Tryd.f13 := (Option.some.inj (Tryd.func13.symm.trans hfn)).symm
  refine ⟨by kernel_rfl, fun j t ht => ?_⟩
  rw [Tryd.params13] at ht
  have hall : (Tryd.f13.params.toList.all fun t => !Tryd.prog.wantsStandIn t) = true := by kernel_rfl
  rw [Tryd.params13] at hall
  have h1 := List.all_eq_true.1 hall t (by simpa using Array.mem_of_getElem? ht)
  have h2 : Tryd.prog.wantsStandIn t = false := by simpa using h1
  exact h2

/-- The tied card. -/
theorem card : Rows.MsgNilCardSaid :=
  Claim7.holds_tied_plain_at .later [] _ _ _ _ said (fun _ h => by cases h) (by kernel_rfl) (fun _ h => by cases h) msgNil_row_tie rfl ⟨rfl, rfl⟩ (by kernel_rfl) rfl plain (by kernel_rfl)
end Go.Proofs.YtpmncndicdlmhaaDoor.lawMsgNil
namespace Go.Proofs.YtpmncndicdlmhaaDoor
/-- culvertlaw27.MsgNil returns true for every list of bytes: a nil reader takes nothing and holds nothing. -/
theorem msgNil_holds : Rows.MsgNilCardSaid := lawMsgNil.card
#print axioms msgNil_holds
end Go.Proofs.YtpmncndicdlmhaaDoor
