/-
  culvertlaw08.GrantAnswers returns true for every window and script: every answer of grant.Recv is the document's.
  The conditions: those of the given row alone (the listed variables read as listed; each argument within the form's reach).
-/
import Derived.Test.YtpmncndicdlmhaaDoorCards
import Derived.Test.YtpmncndicdlmhaaDoorTie
import Derived.Test.YtpmncndicdlmhaaDoorGrAns2
import Derived.Test.YtpmncndicdlmhaaDoorMore
import Derived.Test.YtpmncndicdlmhaaDoorSen
import Derived.Test.YtpmncndicdlmhaaDoorShapes
import Derived.Test.YtpmncndicdlmhaaDoorRecs2
import Derived.LaidMore
import Derived.Deep.DeepHandedRow
import Derived.Deep.DeepWitnessRowRef
namespace Go.Proofs.YtpmncndicdlmhaaDoor.lawGrantAnswers
open Go.ChangeShapes Go.WideShapes Go.ChangeAt Go.RowKit Go.Joins Go.Deep

theorem own : ownKnob Tryd.prog.godebug = none := by kernel_rfl
theorem laidOut : laidOutB Tryd.prog = true := by kernel_rfl

set_option maxRecDepth 100000 in
theorem contract (H : Type) (enc : TypeId × Value → H) (W : World) (base : Nat) (args : Array Value) (ds gs : List (DataW H)) (before : List MemPlace)
    (hval : ∀ (j : Nat) t v, Tryd.f6.params[j]? = some t → args[j]? = some v → Value.okWide Tryd.prog W .any base t v)
    (hW : DataW.Whole enc Tryd.prog Tryd.f6.params.toList Rows.grantAnswersSpec.vars false W args.toList ds gs before)
    (hsz : (DataW.weightsEach Tryd.prog (Tryd.f6.params.toList ++ (OpenSpec.ofChange Rows.grantAnswersSpec).bare.plain.varTypes Tryd.prog) (ds ++ gs)).all (· ≤ reachBytes) = true) (hL : laidMetH Tryd.prog Rows.grantAnswersRow.laid W) :
    Calls Tryd.prog 6 args W fun e W' => ∃ v, e = .returned v ∧ Rows.grantAnswersSpec.post enc Tryd.prog Tryd.f6 false true false false W args v W' := by
  have hM : laidMet Tryd.prog Rows.grantAnswersRow.laid W := by
    have h := hL
    rwa [MakeChecks.laidMetH_plain _ _ _ (by kernel_rfl)] at h
  obtain ⟨a, hs⟩ := sen_of_laid hM (by kernel_rfl) (by kernel_rfl)
  have hW0 := hW
  obtain ⟨p, q, hA, hV, rfl, hfz, hnd⟩ := hW0
  rw [Tryd.params6] at hA hval hsz
  obtain ⟨v0, vs0, d0, ds0, p0, q0, hargs, rfl, rfl, h0, r0⟩ := trodAll_cons hA
  obtain ⟨v1, vs1, d1, ds1, p1, q1, rfl, rfl, rfl, h1, r1⟩ := trodAll_cons r0
  obtain ⟨rfl, rfl, rfl⟩ := trodAll_nil r1
  obtain rfl : args = #[v0, v1] := by cases args; simp_all
  obtain ⟨rfl, rfl⟩ := trodVars_none hV
  obtain ⟨x0, rfl, rfl, rfl, w0⟩ := open_int Tryd.underlying3 (hval 0 3 v0 rfl rfl) h0
  have b0 := bounds_i64 w0
  obtain ⟨A1, n1, c1, F1, rfl, hnc1, hr1, hF1, hd1, hnil1⟩ := open_recs_rd2 Tryd.underlying22 Tryd.underlying30 (by kernel_rfl) (by kernel_rfl) (hval 1 22 v1 rfl rfl) h1
  have hm1 : n1 * 16 ≤ reachBytes := sliceD_le Tryd.underlying22 (by kernel_rfl) hnc1 hd1 (weights_at _ _ 1 22 d1 hsz rfl rfl)
  unfold reachBytes at hm1
  obtain ⟨K1_0, hK1_0⟩ : ∃ K : Nat → Bool, ∀ i, i < n1 → F1 i 0 = .bool (K i) := ⟨fun i => boolV (F1 i 0), fun i hi => by obtain ⟨z, e⟩ := (hF1 i hi 0 _ rfl).1 Tryd.underlying4; show F1 i 0 = .bool (boolV (F1 i 0)); rw [e]; rfl⟩
  obtain ⟨K1_1, hK1_1⟩ : ∃ K : Nat → Int, ∀ i, i < n1 → F1 i 1 = .int .i64 (K i) ∧ (Lit.int .i64 (K i)).wf = true := ⟨fun i => intOf (F1 i 1), fun i hi => by obtain ⟨z, e, hw⟩ := (hF1 i hi 1 _ rfl).2 .i64 Tryd.underlying3; show F1 i 1 = .int .i64 (intOf (F1 i 1)) ∧ (Lit.int .i64 (intOf (F1 i 1))).wf = true; rw [e]; exact ⟨rfl, hw⟩⟩
  refine law_calls laidOut (by kernel_rfl) rfl Tryd.underlying4 rfl hW rfl ?_
  exact ganswers_walk W hs x0 A1 n1 c1 F1 K1_0 K1_1 (by omega) hr1 hK1_0 (fun i hi => (hK1_1 i hi).1) (fun i hi => bounds_i64 (hK1_1 i hi).2)

theorem laid_met (os : Os) : laidMet Tryd.prog Rows.grantAnswersRow.laid ((World.doorLaid Tryd.prog 807 os).forCall (fun _ _ => 0) ⟨#[], #[.int .i64 0, .slice none 0 0], []⟩).memory :=
  laidMet_of_run' 8 (by kernel_rfl) (by kernel_rfl)
theorem reads (os : Os) {H : Type} (enc : TypeId × Value → H) : ∃ places, DataW.whole enc Tryd.prog ((World.doorLaid Tryd.prog 807 os).forCall (fun _ _ => 0) ⟨#[], #[.int .i64 0, .slice none 0 0], []⟩).memory Tryd.f6.params.toList Rows.grantAnswersSpec.vars false (#[.int .i64 0, .slice none 0 0] : Array Value).toList 8 = some ([.lit (.int .i64 0), .nil], [], places) :=
  ⟨[], by kernel_rfl⟩

set_option maxRecDepth 100000 in
theorem lifted (os : Os) (started : os.Started) (H : Type) (enc : TypeId × Value → H) (F : Stop.Interp) :
    ReturnsInHanded {} Tryd.checked os 6 .any ((OpenSpec.ofChange Rows.grantAnswersSpec).preRow enc Tryd.prog Tryd.f6 Rows.grantAnswersRow.domain false Rows.grantAnswersRow.laid) (((OpenSpec.ofChange Rows.grantAnswersSpec).at F).post enc Tryd.prog Tryd.f6 false true false false) := by
  obtain ⟨places, hx⟩ := reads os enc
  refine returnsInHanded_of_row (C := Tryd.checked) (s := OpenSpec.ofChange Rows.grantAnswersSpec) own started (by kernel_rfl) Tryd.func6
    (witness_row_atRef (enc := enc) (C := Tryd.checked) false (World.doorLaid Tryd.prog 807 os) #[.int .i64 0, .slice none 0 0] rfl (by kernel_rfl) (by kernel_rfl) (by kernel_rfl)
      (OpenSpec.preRow_of_cond 8 hx (by kernel_rfl) (fun k hk => by cases hk) (by kernel_rfl) (laid_met os))) ?_
  intro W base args ds gs before hval hW _ _ hsz hL _ _
  exact contract H enc W base args ds gs before hval hW hsz hL

theorem said : Rows.GrantAnswersSaid :=
  OpenClaim.holds_of_cond 6 Tryd.f6 rfl rfl rfl rfl rfl rfl rfl ⟨rfl, rfl, rfl, rfl, rfl⟩ rfl rfl rfl rfl rfl (by kernel_rfl) Tryd.func6 (by kernel_rfl)
    (of_decide_eq_true (by kernel_rfl)) (by unfold Func.isWrapper; rw [if_neg (of_decide_eq_false (by kernel_rfl))]; exact ⟨rfl, rfl⟩)
    (fun os started H enc _ F => by rw [OpenClaim.pre_eq_preRow]; exact lifted os started H enc F)

theorem plain (f : FuncId) (fn : Func) (hf : Tryd.pinned.checked.prog.funcNamed "culvert/culvertlaw08.GrantAnswers" = some f) (hfn : Tryd.pinned.checked.prog.funcs[f]? = some fn) :
    true = Tryd.pinned.checked.prog.looks [] ∧ ∀ (j : Nat) t, fn.params[j]? = some t → Tryd.pinned.checked.prog.wantsStandIn t = false := by
  obtain rfl : f = 6 := Option.some.inj ((show Tryd.prog.funcNamed "culvert/culvertlaw08.GrantAnswers" = some 6 by kernel_rfl).symm.trans hf) |>.symm
  obtain rfl : fn = Tryd.f6 := (Option.some.inj (Tryd.func6.symm.trans hfn)).symm
  refine ⟨by kernel_rfl, fun j t ht => ?_⟩
  rw [Tryd.params6] at ht
  have hall : (Tryd.f6.params.toList.all fun t => !Tryd.prog.wantsStandIn t) = true := by kernel_rfl
  rw [Tryd.params6] at hall
  have h1 := List.all_eq_true.1 hall t (by simpa using Array.mem_of_getElem? ht)
  have h2 : Tryd.prog.wantsStandIn t = false := by simpa using h1
  exact h2

/-- The tied card. -/
theorem card : Rows.GrantAnswersCardSaid :=
  Claim7.holds_tied_plain_at .later [] _ _ _ _ said (fun _ h => by cases h) (by kernel_rfl) (fun _ h => by cases h) grantAnswers_row_tie rfl ⟨rfl, rfl⟩ (by kernel_rfl) rfl plain (by kernel_rfl)
end Go.Proofs.YtpmncndicdlmhaaDoor.lawGrantAnswers
namespace Go.Proofs.YtpmncndicdlmhaaDoor
/-- culvertlaw08.GrantAnswers returns true for every window and script: every answer of grant.Recv is the document's. -/
theorem grantAnswers_holds : Rows.GrantAnswersCardSaid := lawGrantAnswers.card
#print axioms grantAnswers_holds
end Go.Proofs.YtpmncndicdlmhaaDoor
