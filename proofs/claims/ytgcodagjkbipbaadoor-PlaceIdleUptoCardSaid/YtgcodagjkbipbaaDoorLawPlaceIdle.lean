/-
  culvertlaw21.PlaceIdle, where what it reads is of bulk at most 1048576, returns true: connections that may not take a stream, put in anywhere, move places alone; other numbers left change nothing.
  The conditions: those of the given row alone (the listed variables read as listed; each argument within the form's reach).
-/
import Derived.Test.YtgcodagjkbipbaaDoorCards
import Derived.Test.YtgcodagjkbipbaaDoorTie
import Derived.Test.YtgcodagjkbipbaaDoorPlIdle
import Derived.Test.YtgcodagjkbipbaaDoorMore
import Derived.Test.YtgcodagjkbipbaaDoorSen
import Derived.Test.YtgcodagjkbipbaaDoorShapes
import Derived.Test.YtgcodagjkbipbaaDoorRecs2
import Derived.LaidMore
import Derived.Deep.DeepHandedRow
import Derived.Deep.DeepWitnessRowRef
namespace Go.Proofs.YtgcodagjkbipbaaDoor.lawPlaceIdle
open Go.ChangeShapes Go.WideShapes Go.ChangeAt Go.RowKit Go.Joins Go.Deep

theorem own : ownKnob Tryd.prog.godebug = none := by kernel_rfl
theorem laidOut : laidOutB Tryd.prog = true := by kernel_rfl

set_option maxRecDepth 100000 in
theorem contract (H : Type) (enc : TypeId × Value → H) (W : World) (base : Nat) (args : Array Value) (ds gs : List (DataW H)) (before : List MemPlace)
    (hval : ∀ (j : Nat) t v, Tryd.f10.params[j]? = some t → args[j]? = some v → Value.okWide Tryd.prog W .any base t v)
    (hW : DataW.Whole enc Tryd.prog Tryd.f10.params.toList Rows.placeIdleSpec.vars false W args.toList ds gs before)
    (hsz : (DataW.weightsEach Tryd.prog (Tryd.f10.params.toList ++ (OpenSpec.ofChange Rows.placeIdleSpec).bare.plain.varTypes Tryd.prog) (ds ++ gs)).all (· ≤ reachBytes) = true) (hcond : Rows.uptoSmall H (ds ++ gs) = true) (hL : laidMetH Tryd.prog Rows.placeIdleRow.laid W) :
    Calls Tryd.prog 10 args W fun e W' => ∃ v, e = .returned v ∧ Rows.placeIdleSpec.post enc Tryd.prog Tryd.f10 false true false false W args v W' := by
  have hM : laidMet Tryd.prog Rows.placeIdleRow.laid W := by
    have h := hL
    rwa [MakeChecks.laidMetH_plain _ _ _ (by kernel_rfl)] at h
  obtain ⟨a, hs⟩ := sen_of_laid hM (by kernel_rfl) (by kernel_rfl)
  have hW0 := hW
  obtain ⟨p, q, hA, hV, rfl, hfz, hnd⟩ := hW0
  rw [Tryd.params10] at hA hval hsz
  obtain ⟨v0, vs0, d0, ds0, p0, q0, hargs, rfl, rfl, h0, r0⟩ := trodAll_cons hA
  obtain ⟨v1, vs1, d1, ds1, p1, q1, rfl, rfl, rfl, h1, r1⟩ := trodAll_cons r0
  obtain ⟨v2, vs2, d2, ds2, p2, q2, rfl, rfl, rfl, h2, r2⟩ := trodAll_cons r1
  obtain ⟨rfl, rfl, rfl⟩ := trodAll_nil r2
  obtain rfl : args = #[v0, v1, v2] := by cases args; simp_all
  obtain ⟨rfl, rfl⟩ := trodVars_none hV
  obtain ⟨x2, rfl, rfl, rfl, w2⟩ := open_int Tryd.underlying3 (hval 2 3 v2 rfl rfl) h2
  have b2 := bounds_i64 w2
  obtain ⟨A0, n0, c0, F0, rfl, hnc0, hr0, hF0, hd0, hnil0⟩ := open_recs_rd2 Tryd.underlying76 Tryd.underlying72 (by kernel_rfl) (by kernel_rfl) (hval 0 76 v0 rfl rfl) h0
  have hm0 : n0 * 24 ≤ reachBytes := sliceD_le Tryd.underlying76 (by kernel_rfl) hnc0 hd0 (weights_at _ _ 0 76 d0 hsz rfl rfl)
  unfold reachBytes at hm0
  obtain ⟨K0_0, hK0_0⟩ : ∃ K : Nat → Bool, ∀ i, i < n0 → F0 i 0 = .bool (K i) := ⟨fun i => boolV (F0 i 0), fun i hi => by obtain ⟨z, e⟩ := (hF0 i hi 0 _ rfl).1 Tryd.underlying4; show F0 i 0 = .bool (boolV (F0 i 0)); rw [e]; rfl⟩
  obtain ⟨K0_1, hK0_1⟩ : ∃ K : Nat → Bool, ∀ i, i < n0 → F0 i 1 = .bool (K i) := ⟨fun i => boolV (F0 i 1), fun i hi => by obtain ⟨z, e⟩ := (hF0 i hi 1 _ rfl).1 Tryd.underlying4; show F0 i 1 = .bool (boolV (F0 i 1)); rw [e]; rfl⟩
  obtain ⟨K0_2, hK0_2⟩ : ∃ K : Nat → Int, ∀ i, i < n0 → F0 i 2 = .int .i64 (K i) ∧ (Lit.int .i64 (K i)).wf = true := ⟨fun i => intOf (F0 i 2), fun i hi => by obtain ⟨z, e, hw⟩ := (hF0 i hi 2 _ rfl).2 .i64 Tryd.underlying3; show F0 i 2 = .int .i64 (intOf (F0 i 2)) ∧ (Lit.int .i64 (intOf (F0 i 2))).wf = true; rw [e]; exact ⟨rfl, hw⟩⟩
  obtain ⟨K0_3, hK0_3⟩ : ∃ K : Nat → Int, ∀ i, i < n0 → F0 i 3 = .int .i64 (K i) ∧ (Lit.int .i64 (K i)).wf = true := ⟨fun i => intOf (F0 i 3), fun i hi => by obtain ⟨z, e, hw⟩ := (hF0 i hi 3 _ rfl).2 .i64 Tryd.underlying3; show F0 i 3 = .int .i64 (intOf (F0 i 3)) ∧ (Lit.int .i64 (intOf (F0 i 3))).wf = true; rw [e]; exact ⟨rfl, hw⟩⟩
  obtain ⟨A1, n1, c1, F1, rfl, hnc1, hr1, hF1, hd1, hnil1⟩ := open_recs_rd2 Tryd.underlying76 Tryd.underlying72 (by kernel_rfl) (by kernel_rfl) (hval 1 76 v1 rfl rfl) h1
  have hm1 : n1 * 24 ≤ reachBytes := sliceD_le Tryd.underlying76 (by kernel_rfl) hnc1 hd1 (weights_at _ _ 1 76 d1 hsz rfl rfl)
  unfold reachBytes at hm1
  obtain ⟨K1_0, hK1_0⟩ : ∃ K : Nat → Bool, ∀ i, i < n1 → F1 i 0 = .bool (K i) := ⟨fun i => boolV (F1 i 0), fun i hi => by obtain ⟨z, e⟩ := (hF1 i hi 0 _ rfl).1 Tryd.underlying4; show F1 i 0 = .bool (boolV (F1 i 0)); rw [e]; rfl⟩
  obtain ⟨K1_1, hK1_1⟩ : ∃ K : Nat → Bool, ∀ i, i < n1 → F1 i 1 = .bool (K i) := ⟨fun i => boolV (F1 i 1), fun i hi => by obtain ⟨z, e⟩ := (hF1 i hi 1 _ rfl).1 Tryd.underlying4; show F1 i 1 = .bool (boolV (F1 i 1)); rw [e]; rfl⟩
  obtain ⟨K1_2, hK1_2⟩ : ∃ K : Nat → Int, ∀ i, i < n1 → F1 i 2 = .int .i64 (K i) ∧ (Lit.int .i64 (K i)).wf = true := ⟨fun i => intOf (F1 i 2), fun i hi => by obtain ⟨z, e, hw⟩ := (hF1 i hi 2 _ rfl).2 .i64 Tryd.underlying3; show F1 i 2 = .int .i64 (intOf (F1 i 2)) ∧ (Lit.int .i64 (intOf (F1 i 2))).wf = true; rw [e]; exact ⟨rfl, hw⟩⟩
  obtain ⟨K1_3, hK1_3⟩ : ∃ K : Nat → Int, ∀ i, i < n1 → F1 i 3 = .int .i64 (K i) ∧ (Lit.int .i64 (K i)).wf = true := ⟨fun i => intOf (F1 i 3), fun i hi => by obtain ⟨z, e, hw⟩ := (hF1 i hi 3 _ rfl).2 .i64 Tryd.underlying3; show F1 i 3 = .int .i64 (intOf (F1 i 3)) ∧ (Lit.int .i64 (intOf (F1 i 3))).wf = true; rw [e]; exact ⟨rfl, hw⟩⟩
  refine law_calls laidOut (by kernel_rfl) rfl Tryd.underlying4 rfl hW rfl ?_
  exact idle_walk W hs A0 A1 n0 c0 n1 c1 _ _ x2 (lds_rds hr0 hK0_0 hK0_1 hK0_2 hK0_3) (lds_rds hr1 hK1_0 hK1_1 hK1_2 hK1_3) hnil0 (Nat.le_trans hnc0 (upto_len hcond 0 rfl hd0))

theorem laid_met (os : Os) : laidMet Tryd.prog Rows.placeIdleRow.laid ((World.doorLaid Tryd.prog 827 os).forCall (fun _ _ => 0) ⟨#[], #[.slice none 0 0, .slice none 0 0, .int .i64 0], []⟩).memory :=
  laidMet_of_run' 8 (by kernel_rfl) (by kernel_rfl)
theorem reads (os : Os) {H : Type} (enc : TypeId × Value → H) : ∃ places, DataW.whole enc Tryd.prog ((World.doorLaid Tryd.prog 827 os).forCall (fun _ _ => 0) ⟨#[], #[.slice none 0 0, .slice none 0 0, .int .i64 0], []⟩).memory Tryd.f10.params.toList Rows.placeIdleSpec.vars false (#[.slice none 0 0, .slice none 0 0, .int .i64 0] : Array Value).toList 8 = some ([.nil, .nil, .lit (.int .i64 0)], [], places) :=
  ⟨[], by kernel_rfl⟩

set_option maxRecDepth 100000 in
theorem lifted (os : Os) (started : os.Started) (H : Type) (enc : TypeId × Value → H) (F : Stop.Interp) :
    ReturnsInHanded {} Tryd.checked os 10 .any ((Rows.OpenSpec.upto Rows.placeIdleSpec).preRow enc Tryd.prog Tryd.f10 Rows.placeIdleUptoRow.domain false Rows.placeIdleUptoRow.laid) (((Rows.OpenSpec.upto Rows.placeIdleSpec).at F).post enc Tryd.prog Tryd.f10 false true false false) := by
  obtain ⟨places, hx⟩ := reads os enc
  refine returnsInHanded_of_row (C := Tryd.checked) (s := Rows.OpenSpec.upto Rows.placeIdleSpec) own started (by kernel_rfl) Tryd.func10
    (witness_row_atRef (enc := enc) (C := Tryd.checked) false (World.doorLaid Tryd.prog 827 os) #[.slice none 0 0, .slice none 0 0, .int .i64 0] rfl (by kernel_rfl) (by kernel_rfl) (by kernel_rfl)
      (OpenSpec.preRow_of_cond 8 hx (by kernel_rfl) (fun k hk => by cases hk; kernel_rfl) (by kernel_rfl) (laid_met os))) ?_
  intro W base args ds gs before hval hW _ hcond hsz hL _ _
  exact contract H enc W base args ds gs before hval hW hsz (hcond _ rfl) hL

theorem said : Rows.PlaceIdleUptoSaid :=
  OpenClaim.holds_of_cond 10 Tryd.f10 rfl rfl rfl rfl rfl rfl rfl ⟨rfl, rfl, rfl, rfl, rfl⟩ rfl rfl rfl rfl rfl (by kernel_rfl) Tryd.func10 (by kernel_rfl)
    (of_decide_eq_true (by kernel_rfl)) (by unfold Func.isWrapper; rw [if_neg (of_decide_eq_false (by kernel_rfl))]; exact ⟨rfl, rfl⟩)
    (fun os started H enc _ F => by rw [OpenClaim.pre_eq_preRow]; exact lifted os started H enc F)

theorem plain (f : FuncId) (fn : Func) (hf : Tryd.pinned.checked.prog.funcNamed "culvert/culvertlaw21.PlaceIdle" = some f) (hfn : Tryd.pinned.checked.prog.funcs[f]? = some fn) :
    true = Tryd.pinned.checked.prog.looks [] ∧ ∀ (j : Nat) t, fn.params[j]? = some t → Tryd.pinned.checked.prog.wantsStandIn t = false := by
  obtain rfl : f = 10 := Option.some.inj ((show Tryd.prog.funcNamed "culvert/culvertlaw21.PlaceIdle" = some 10 by kernel_rfl).symm.trans hf) |>.symm
  obtain rfl : fn = Tryd.f10 := (Option.some.inj (Tryd.func10.symm.trans hfn)).symm
  refine ⟨by kernel_rfl, fun j t ht => ?_⟩
  rw [Tryd.params10] at ht
  have hall : (Tryd.f10.params.toList.all fun t => !Tryd.prog.wantsStandIn t) = true := by kernel_rfl
  rw [Tryd.params10] at hall
  have h1 := List.all_eq_true.1 hall t (by simpa using Array.mem_of_getElem? ht)
  have h2 : Tryd.prog.wantsStandIn t = false := by simpa using h1
  exact h2

/-- The tied card. -/
theorem card : Rows.PlaceIdleUptoCardSaid :=
  Claim7.holds_tied_plain_at .later [] _ _ _ _ said (fun _ h => by cases h) (by kernel_rfl) (fun _ h => by cases h) placeIdleUpto_row_tie rfl ⟨rfl, rfl⟩ (by kernel_rfl) rfl plain (by kernel_rfl)
end Go.Proofs.YtgcodagjkbipbaaDoor.lawPlaceIdle
namespace Go.Proofs.YtgcodagjkbipbaaDoor
/-- culvertlaw21.PlaceIdle, where what it reads is of bulk at most 1048576, returns true: connections that may not take a stream, put in anywhere, move places alone; other numbers left change nothing. -/
theorem placeIdle_holds : Rows.PlaceIdleUptoCardSaid := lawPlaceIdle.card
#print axioms placeIdle_holds
end Go.Proofs.YtgcodagjkbipbaaDoor
