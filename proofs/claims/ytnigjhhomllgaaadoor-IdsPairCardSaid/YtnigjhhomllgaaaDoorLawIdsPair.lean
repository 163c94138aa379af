/-
  culvertlaw14.IdsPair returns true for every end, skips and list of truth values: what the one end sends the other hears; then both know it.
  The conditions: those of the given row alone (the listed variables read as listed; each argument within the form's reach).
-/
import Derived.Test.YtnigjhhomllgaaaDoorCards
import Derived.Test.YtnigjhhomllgaaaDoorTie
import Derived.Test.YtnigjhhomllgaaaDoorIdsPair
import Derived.Test.YtnigjhhomllgaaaDoorMore
import Derived.Test.YtnigjhhomllgaaaDoorSen
import Derived.Test.YtnigjhhomllgaaaDoorShapes
import Derived.LaidMore
import Derived.Deep.DeepHandedRow
import Derived.Deep.DeepWitnessRowRef
namespace Go.Proofs.YtnigjhhomllgaaaDoor.lawIdsPair
open Go.ChangeShapes Go.WideShapes Go.ChangeAt Go.RowKit Go.Joins Go.Deep

theorem own : ownKnob Tryd.prog.godebug = none := by kernel_rfl
theorem laidOut : laidOutB Tryd.prog = true := by kernel_rfl

theorem contract (H : Type) (enc : TypeId × Value → H) (W : World) (base : Nat) (args : Array Value) (ds gs : List (DataW H)) (before : List MemPlace)
    (hval : ∀ (j : Nat) t v, Tryd.f6.params[j]? = some t → args[j]? = some v → Value.okWide Tryd.prog W .any base t v)
    (hW : DataW.Whole enc Tryd.prog Tryd.f6.params.toList Rows.idsPairSpec.vars false W args.toList ds gs before)
    (hsz : (DataW.weightsEach Tryd.prog (Tryd.f6.params.toList ++ (OpenSpec.ofChange Rows.idsPairSpec).bare.plain.varTypes Tryd.prog) (ds ++ gs)).all (· ≤ reachBytes) = true) (hL : laidMetH Tryd.prog Rows.idsPairRow.laid W) :
    Calls Tryd.prog 6 args W fun e W' => ∃ v, e = .returned v ∧ Rows.idsPairSpec.post enc Tryd.prog Tryd.f6 false true false false W args v W' := by
  have hM : laidMet Tryd.prog Rows.idsPairRow.laid W := by
    have h := hL
    rwa [MakeChecks.laidMetH_plain _ _ _ (by kernel_rfl)] at h
  obtain ⟨a, hs⟩ := sen_of_laid hM (by kernel_rfl) (by kernel_rfl)
  have hW0 := hW
  obtain ⟨p, q, hA, hV, rfl, hfz, hnd⟩ := hW0
  rw [Tryd.params6] at hA hval hsz
  obtain ⟨v0, vs0, d0, ds0, p0, q0, hargs, rfl, rfl, h0, r0⟩ := trodAll_cons hA
  obtain ⟨v1, vs1, d1, ds1, p1, q1, rfl, rfl, rfl, h1, r1⟩ := trodAll_cons r0
  obtain ⟨v2, vs2, d2, ds2, p2, q2, rfl, rfl, rfl, h2, r2⟩ := trodAll_cons r1
  obtain ⟨rfl, rfl, rfl⟩ := trodAll_nil r2
  obtain rfl : args = #[v0, v1, v2] := by cases args; simp_all
  obtain ⟨rfl, rfl⟩ := trodVars_none hV
  obtain ⟨x0, rfl, rfl, rfl⟩ := open_bool Tryd.underlying4 (hval 0 4 v0 rfl rfl) h0
  obtain ⟨u1_0, u1_1, y1_0, y1_1, nn1, rfl, rfl, rfl, t1_0, t1_1⟩ := open_agg2 Tryd.underlying55 (by kernel_rfl) (by kernel_rfl) (hval 1 55 v1 rfl rfl) h1
  obtain ⟨x1_0, e1_0, _, w1_0⟩ := DataW.trod_int Tryd.underlying3 t1_0
  simp only [List.cons.injEq, and_true] at e1_0
  subst e1_0
  have b1_0 := bounds_i64 w1_0
  obtain ⟨x1_1, e1_1, _, w1_1⟩ := DataW.trod_int Tryd.underlying3 t1_1
  simp only [List.cons.injEq, and_true] at e1_1
  subst e1_1
  have b1_1 := bounds_i64 w1_1
  obtain ⟨A2, n2, c2, f2, rfl, hnc2, hr2, hd2⟩ := open_bools_rd Tryd.underlying56 Tryd.underlying4 (by kernel_rfl) (hval 2 56 v2 rfl rfl) h2
  have hm2 : n2 * 1 ≤ reachBytes := sliceD_le Tryd.underlying56 (by kernel_rfl) hnc2 hd2 (weights_at _ _ 2 56 d2 hsz rfl rfl)
  unfold reachBytes at hm2
  have hp := par_of_laid hM (by kernel_rfl)
  refine law_calls laidOut (by kernel_rfl) rfl Tryd.underlying4 rfl hW rfl ?_
  exact pair_walk W hs hp x0 x1_0 x1_1 A2 n2 c2 f2 (by omega) hr2

theorem laid_met (os : Os) : laidMet Tryd.prog Rows.idsPairRow.laid ((World.doorLaid Tryd.prog 814 os).forCall (fun _ _ => 0) ⟨#[], #[.bool false, .agg #[.int .i64 0, .int .i64 0], .slice none 0 0], []⟩).memory :=
  laidMet_of_run' 8 (by kernel_rfl) (by kernel_rfl)
theorem reads (os : Os) {H : Type} (enc : TypeId × Value → H) : ∃ places, DataW.whole enc Tryd.prog ((World.doorLaid Tryd.prog 814 os).forCall (fun _ _ => 0) ⟨#[], #[.bool false, .agg #[.int .i64 0, .int .i64 0], .slice none 0 0], []⟩).memory Tryd.f6.params.toList Rows.idsPairSpec.vars false (#[.bool false, .agg #[.int .i64 0, .int .i64 0], .slice none 0 0] : Array Value).toList 8 = some ([.lit (.bool false), .agg [.lit (.int .i64 0), .lit (.int .i64 0)], .nil], [], places) :=
  ⟨[], by kernel_rfl⟩

set_option maxRecDepth 100000 in
theorem lifted (os : Os) (started : os.Started) (H : Type) (enc : TypeId × Value → H) (F : Stop.Interp) :
    ReturnsInHanded {} Tryd.checked os 6 .any ((OpenSpec.ofChange Rows.idsPairSpec).preRow enc Tryd.prog Tryd.f6 Rows.idsPairRow.domain false Rows.idsPairRow.laid) (((OpenSpec.ofChange Rows.idsPairSpec).at F).post enc Tryd.prog Tryd.f6 false true false false) := by
  obtain ⟨places, hx⟩ := reads os enc
  refine returnsInHanded_of_row (C := Tryd.checked) (s := OpenSpec.ofChange Rows.idsPairSpec) own started (by kernel_rfl) Tryd.func6
    (witness_row_atRef (enc := enc) (C := Tryd.checked) false (World.doorLaid Tryd.prog 814 os) #[.bool false, .agg #[.int .i64 0, .int .i64 0], .slice none 0 0] rfl (by kernel_rfl) (by kernel_rfl) (by kernel_rfl)
      (OpenSpec.preRow_of_cond 8 hx (by kernel_rfl) (fun k hk => by cases hk) (by kernel_rfl) (laid_met os))) ?_
  intro W base args ds gs before hval hW _ _ hsz hL _ _
  exact contract H enc W base args ds gs before hval hW hsz hL

theorem said : Rows.IdsPairSaid :=
  OpenClaim.holds_of_cond 6 Tryd.f6 rfl rfl rfl rfl rfl rfl rfl ⟨rfl, rfl, rfl, rfl, rfl⟩ rfl rfl rfl rfl rfl (by kernel_rfl) Tryd.func6 (by kernel_rfl)
    (of_decide_eq_true (by kernel_rfl)) (by unfold Func.isWrapper; rw [if_neg (of_decide_eq_false (by kernel_rfl))]; exact ⟨rfl, rfl⟩)
    (fun os started H enc _ F => by rw [OpenClaim.pre_eq_preRow]; exact lifted os started H enc F)

theorem plain (f : FuncId) (fn : Func) (hf : Tryd.pinned.checked.prog.funcNamed "culvert/culvertlaw14.IdsPair" = some f) (hfn : Tryd.pinned.checked.prog.funcs[f]? = some fn) :
    true = Tryd.pinned.checked.prog.looks [] ∧ ∀ (j : Nat) t, fn.params[j]? = some t → Tryd.pinned.checked.prog.wantsStandIn t = false := by
  obtain rfl : f = 6 := Option.some.inj ((show Tryd.prog.funcNamed "culvert/culvertlaw14.IdsPair" = some 6 by kernel_rfl).symm.trans hf) |>.symm
  obtain rfl : fn = Tryd.f6 := (Option.some.inj (Tryd.func6.symm.trans hfn)).symm
  refine ⟨by kernel_rfl, fun j t ht => ?_⟩
  rw [Tryd.params6] at ht
  have hall : (Tryd.f6.params.toList.all fun t => !Tryd.prog.wantsStandIn t) = true := by kernel_rfl
  rw [Tryd.params6] at hall
  have h1 := List.all_eq_true.1 hall t (by simpa using Array.mem_of_getElem? ht)
  have h2 : Tryd.prog.wantsStandIn t = false := by simpa using h1
  exact h2

/-- The tied card. -/
theorem card : Rows.IdsPairCardSaid :=
  Claim7.holds_tied_plain_at .later [] _ _ _ _ said (fun _ h => by cases h) (by kernel_rfl) (fun _ h => by cases h) idsPair_row_tie rfl ⟨rfl, rfl⟩ (by kernel_rfl) rfl plain (by kernel_rfl)
end Go.Proofs.YtnigjhhomllgaaaDoor.lawIdsPair
namespace Go.Proofs.YtnigjhhomllgaaaDoor
/-- culvertlaw14.IdsPair returns true for every end, skips and list of truth values: what the one end sends the other hears; then both know it. -/
theorem idsPair_holds : Rows.IdsPairCardSaid := lawIdsPair.card
#print axioms idsPair_holds
end Go.Proofs.YtnigjhhomllgaaaDoor
