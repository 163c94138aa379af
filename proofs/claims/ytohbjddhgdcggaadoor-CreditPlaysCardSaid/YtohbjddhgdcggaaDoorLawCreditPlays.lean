/-
  culvertlaw07.CreditPlays returns true for every script: every answer of credit.Send, in every order, is the document's.
  The conditions: those of the given row alone (the listed variables read as listed; each argument within the form's reach).
-/
import Derived.Test.YtohbjddhgdcggaaDoorCards
import Derived.Test.YtohbjddhgdcggaaDoorTie
import Derived.Test.YtohbjddhgdcggaaDoorCrPlays
import Derived.Test.YtohbjddhgdcggaaDoorMore
import Derived.Test.YtohbjddhgdcggaaDoorSen
import Derived.Test.YtohbjddhgdcggaaDoorShapes
import Derived.Test.YtohbjddhgdcggaaDoorRecs2
import Derived.LaidMore
import Derived.Deep.DeepHandedRow
import Derived.Deep.DeepWitnessRowRef
namespace Go.Proofs.YtohbjddhgdcggaaDoor.lawCreditPlays
open Go.ChangeShapes Go.WideShapes Go.ChangeAt Go.RowKit Go.Joins Go.Deep

theorem own : ownKnob Tryd.prog.godebug = none := by kernel_rfl
theorem laidOut : laidOutB Tryd.prog = true := by kernel_rfl

set_option maxRecDepth 100000 in
theorem contract (H : Type) (enc : TypeId × Value → H) (W : World) (base : Nat) (args : Array Value) (ds gs : List (DataW H)) (before : List MemPlace)
    (hval : ∀ (j : Nat) t v, Tryd.f3.params[j]? = some t → args[j]? = some v → Value.okWide Tryd.prog W .any base t v)
    (hW : DataW.Whole enc Tryd.prog Tryd.f3.params.toList Rows.creditPlaysSpec.vars false W args.toList ds gs before)
    (hsz : (DataW.weightsEach Tryd.prog (Tryd.f3.params.toList ++ (OpenSpec.ofChange Rows.creditPlaysSpec).bare.plain.varTypes Tryd.prog) (ds ++ gs)).all (· ≤ reachBytes) = true) (hL : laidMetH Tryd.prog Rows.creditPlaysRow.laid W) :
    Calls Tryd.prog 3 args W fun e W' => ∃ v, e = .returned v ∧ Rows.creditPlaysSpec.post enc Tryd.prog Tryd.f3 false true false false W args v W' := by
  have hM : laidMet Tryd.prog Rows.creditPlaysRow.laid W := by
    have h := hL
    rwa [MakeChecks.laidMetH_plain _ _ _ (by kernel_rfl)] at h
  obtain ⟨a, hs⟩ := sen_of_laid hM (by kernel_rfl) (by kernel_rfl)
  have hW0 := hW
  obtain ⟨p, q, hA, hV, rfl, hfz, hnd⟩ := hW0
  rw [Tryd.params3] at hA hval hsz
  obtain ⟨v0, vs0, d0, ds0, p0, q0, hargs, rfl, rfl, h0, r0⟩ := trodAll_cons hA
  obtain ⟨rfl, rfl, rfl⟩ := trodAll_nil r0
  obtain rfl : args = #[v0] := by cases args; simp_all
  obtain ⟨rfl, rfl⟩ := trodVars_none hV
  obtain ⟨A0, n0, c0, F0, rfl, hnc0, hr0, hF0, hd0, hnil0⟩ := open_recs_rd2 Tryd.underlying22 Tryd.underlying36 (by kernel_rfl) (by kernel_rfl) (hval 0 22 v0 rfl rfl) h0
  have hm0 : n0 * 24 ≤ reachBytes := sliceD_le Tryd.underlying22 (by kernel_rfl) hnc0 hd0 (weights_at _ _ 0 22 d0 hsz rfl rfl)
  unfold reachBytes at hm0
  obtain ⟨K0_0, hK0_0⟩ : ∃ K : Nat → Int, ∀ i, i < n0 → F0 i 0 = .int .i64 (K i) ∧ (Lit.int .i64 (K i)).wf = true := ⟨fun i => intOf (F0 i 0), fun i hi => by obtain ⟨z, e, hw⟩ := (hF0 i hi 0 _ rfl).2 .i64 Tryd.underlying3; show F0 i 0 = .int .i64 (intOf (F0 i 0)) ∧ (Lit.int .i64 (intOf (F0 i 0))).wf = true; rw [e]; exact ⟨rfl, hw⟩⟩
  obtain ⟨K0_1, hK0_1⟩ : ∃ K : Nat → Int, ∀ i, i < n0 → F0 i 1 = .int .i64 (K i) ∧ (Lit.int .i64 (K i)).wf = true := ⟨fun i => intOf (F0 i 1), fun i hi => by obtain ⟨z, e, hw⟩ := (hF0 i hi 1 _ rfl).2 .i64 Tryd.underlying3; show F0 i 1 = .int .i64 (intOf (F0 i 1)) ∧ (Lit.int .i64 (intOf (F0 i 1))).wf = true; rw [e]; exact ⟨rfl, hw⟩⟩
  obtain ⟨K0_2, hK0_2⟩ : ∃ K : Nat → Int, ∀ i, i < n0 → F0 i 2 = .int .u32 (K i) ∧ (Lit.int .u32 (K i)).wf = true := ⟨fun i => intOf (F0 i 2), fun i hi => by obtain ⟨z, e, hw⟩ := (hF0 i hi 2 _ rfl).2 .u32 Tryd.underlying34; show F0 i 2 = .int .u32 (intOf (F0 i 2)) ∧ (Lit.int .u32 (intOf (F0 i 2))).wf = true; rw [e]; exact ⟨rfl, hw⟩⟩
  refine law_calls laidOut (by kernel_rfl) rfl Tryd.underlying4 rfl hW rfl ?_
  exact plays_walk W hs A0 n0 c0 F0 K0_0 K0_1 K0_2 hr0 (fun i hi => (hK0_0 i hi).1) (fun i hi => (hK0_1 i hi).1) (fun i hi => (hK0_2 i hi).1) (fun i hi => bounds_u32 (hK0_2 i hi).2) (by omega)

theorem laid_met (os : Os) : laidMet Tryd.prog Rows.creditPlaysRow.laid ((World.doorLaid Tryd.prog 807 os).forCall (fun _ _ => 0) ⟨#[], #[.slice none 0 0], []⟩).memory :=
  laidMet_of_run' 8 (by kernel_rfl) (by kernel_rfl)
theorem reads (os : Os) {H : Type} (enc : TypeId × Value → H) : ∃ places, DataW.whole enc Tryd.prog ((World.doorLaid Tryd.prog 807 os).forCall (fun _ _ => 0) ⟨#[], #[.slice none 0 0], []⟩).memory Tryd.f3.params.toList Rows.creditPlaysSpec.vars false (#[.slice none 0 0] : Array Value).toList 8 = some ([.nil], [], places) :=
  ⟨[], by kernel_rfl⟩

set_option maxRecDepth 100000 in
theorem lifted (os : Os) (started : os.Started) (H : Type) (enc : TypeId × Value → H) (F : Stop.Interp) :
    ReturnsInHanded {} Tryd.checked os 3 .any ((OpenSpec.ofChange Rows.creditPlaysSpec).preRow enc Tryd.prog Tryd.f3 Rows.creditPlaysRow.domain false Rows.creditPlaysRow.laid) (((OpenSpec.ofChange Rows.creditPlaysSpec).at F).post enc Tryd.prog Tryd.f3 false true false false) := by
  obtain ⟨places, hx⟩ := reads os enc
  refine returnsInHanded_of_row (C := Tryd.checked) (s := OpenSpec.ofChange Rows.creditPlaysSpec) own started (by kernel_rfl) Tryd.func3
    (witness_row_atRef (enc := enc) (C := Tryd.checked) false (World.doorLaid Tryd.prog 807 os) #[.slice none 0 0] rfl (by kernel_rfl) (by kernel_rfl) (by kernel_rfl)
      (OpenSpec.preRow_of_cond 8 hx (by kernel_rfl) (fun k hk => by cases hk) (by kernel_rfl) (laid_met os))) ?_
  intro W base args ds gs before hval hW _ _ hsz hL _ _
  exact contract H enc W base args ds gs before hval hW hsz hL

theorem said : Rows.CreditPlaysSaid :=
  OpenClaim.holds_of_cond 3 Tryd.f3 rfl rfl rfl rfl rfl rfl rfl ⟨rfl, rfl, rfl, rfl, rfl⟩ rfl rfl rfl rfl rfl (by kernel_rfl) Tryd.func3 (by kernel_rfl)
    (of_decide_eq_true (by kernel_rfl)) (by unfold Func.isWrapper; rw [if_neg (of_decide_eq_false (by kernel_rfl))]; exact ⟨rfl, rfl⟩)
    (fun os started H enc _ F => by rw [OpenClaim.pre_eq_preRow]; exact lifted os started H enc F)

theorem plain (f : FuncId) (fn : Func) (hf : Tryd.pinned.checked.prog.funcNamed "culvert/culvertlaw07.CreditPlays" = some f) (hfn : Tryd.pinned.checked.prog.funcs[f]? = some fn) :
    true = Tryd.pinned.checked.prog.looks [] ∧ ∀ (j : Nat) t, fn.params[j]? = some t → Tryd.pinned.checked.prog.wantsStandIn t = false := by
  obtain rfl : f = 3 := Option.some.inj ((show Tryd.prog.funcNamed "culvert/culvertlaw07.CreditPlays" = some 3 by kernel_rfl).symm.trans hf) |>.symm
  obtain rfl : fn = Tryd.f3 := (Option.some.inj (Tryd.func3.symm.trans hfn)).symm
  refine ⟨by kernel_rfl, fun j t ht => ?_⟩
  rw [Tryd.params3] at ht
  have hall : (Tryd.f3.params.toList.all fun t => !Tryd.prog.wantsStandIn t) = true := by kernel_rfl
  rw [Tryd.params3] at hall
  have h1 := List.all_eq_true.1 hall t (by simpa using Array.mem_of_getElem? ht)
  have h2 : Tryd.prog.wantsStandIn t = false := by simpa using h1
  exact h2

/-- The tied card. -/
theorem card : Rows.CreditPlaysCardSaid :=
  Claim7.holds_tied_plain_at .later [] _ _ _ _ said (fun _ h => by cases h) (by kernel_rfl) (fun _ h => by cases h) creditPlays_row_tie rfl ⟨rfl, rfl⟩ (by kernel_rfl) rfl plain (by kernel_rfl)
end Go.Proofs.YtohbjddhgdcggaaDoor.lawCreditPlays
namespace Go.Proofs.YtohbjddhgdcggaaDoor
/-- culvertlaw07.CreditPlays returns true for every script: every answer of credit.Send, in every order, is the document's. -/
theorem creditPlays_holds : Rows.CreditPlaysCardSaid := lawCreditPlays.card
#print axioms creditPlays_holds
end Go.Proofs.YtohbjddhgdcggaaDoor
