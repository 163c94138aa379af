/-
  culvertlaw08.GrantSplit returns true for every window, number and two lists: the same bytes, read in pieces of other sizes: the sums of the grants differ by less than the threshold.
  The conditions: those of the given row alone (the listed variables read as listed; each argument within the form's reach).
-/
import Derived.Test.YtohbjddhgdcggaaDoorCards
import Derived.Test.YtohbjddhgdcggaaDoorTie
import Derived.Test.YtohbjddhgdcggaaDoorGrSplit2
import Derived.Test.YtohbjddhgdcggaaDoorMore
import Derived.Test.YtohbjddhgdcggaaDoorSen
import Derived.Test.YtohbjddhgdcggaaDoorShapes
import Derived.LaidMore
import Derived.Deep.DeepHandedRow
import Derived.Deep.DeepWitnessRowRef
namespace Go.Proofs.YtohbjddhgdcggaaDoor.lawGrantSplit
open Go.ChangeShapes Go.WideShapes Go.ChangeAt Go.RowKit Go.Joins Go.Deep

theorem own : ownKnob Tryd.prog.godebug = none := by kernel_rfl
theorem laidOut : laidOutB Tryd.prog = true := by kernel_rfl

set_option maxRecDepth 100000 in
theorem contract (H : Type) (enc : TypeId × Value → H) (W : World) (base : Nat) (args : Array Value) (ds gs : List (DataW H)) (before : List MemPlace)
    (hval : ∀ (j : Nat) t v, Tryd.f6.params[j]? = some t → args[j]? = some v → Value.okWide Tryd.prog W .any base t v)
    (hW : DataW.Whole enc Tryd.prog Tryd.f6.params.toList Rows.grantSplitSpec.vars false W args.toList ds gs before)
    (hsz : (DataW.weightsEach Tryd.prog (Tryd.f6.params.toList ++ (OpenSpec.ofChange Rows.grantSplitSpec).bare.plain.varTypes Tryd.prog) (ds ++ gs)).all (· ≤ reachBytes) = true) (hL : laidMetH Tryd.prog Rows.grantSplitRow.laid W) :
    Calls Tryd.prog 6 args W fun e W' => ∃ v, e = .returned v ∧ Rows.grantSplitSpec.post enc Tryd.prog Tryd.f6 false true false false W args v W' := by
  have hM : laidMet Tryd.prog Rows.grantSplitRow.laid W := by
    have h := hL
    rwa [MakeChecks.laidMetH_plain _ _ _ (by kernel_rfl)] at h
  obtain ⟨a, hs⟩ := sen_of_laid hM (by kernel_rfl) (by kernel_rfl)
  have hW0 := hW
  obtain ⟨p, q, hA, hV, rfl, hfz, hnd⟩ := hW0
  rw [Tryd.params6] at hA hval hsz
  obtain ⟨v0, vs0, d0, ds0, p0, q0, hargs, rfl, rfl, h0, r0⟩ := trodAll_cons hA
  obtain ⟨v1, vs1, d1, ds1, p1, q1, rfl, rfl, rfl, h1, r1⟩ := trodAll_cons r0
  obtain ⟨v2, vs2, d2, ds2, p2, q2, rfl, rfl, rfl, h2, r2⟩ := trodAll_cons r1
  obtain ⟨rfl, rfl, rfl⟩ := trodAll_nil r2
  obtain rfl : args = #[v0, v1, v2] := by cases args; simp_all
  obtain ⟨rfl, rfl⟩ := trodVars_none hV
  obtain ⟨A1, n1, c1, zs1, rfl, hz1, hnc1, hr1, hw1, hd1⟩ := open_ints_rd Tryd.underlying50 Tryd.underlying3 (by kernel_rfl) (hval 1 50 v1 rfl rfl) h1
  have hm1 : n1 * 8 ≤ reachBytes := sliceD_le Tryd.underlying50 (by kernel_rfl) hnc1 hd1 (weights_at _ _ 1 50 d1 hsz rfl rfl)
  unfold reachBytes at hm1
  obtain ⟨A2, n2, c2, zs2, rfl, hz2, hnc2, hr2, hw2, hd2⟩ := open_ints_rd Tryd.underlying50 Tryd.underlying3 (by kernel_rfl) (hval 2 50 v2 rfl rfl) h2
  have hm2 : n2 * 8 ≤ reachBytes := sliceD_le Tryd.underlying50 (by kernel_rfl) hnc2 hd2 (weights_at _ _ 2 50 d2 hsz rfl rfl)
  unfold reachBytes at hm2
  obtain ⟨u0_0, u0_1, y0_0, y0_1, nn0, rfl, rfl, rfl, t0_0, t0_1⟩ := open_agg2 Tryd.underlying49 (by kernel_rfl) (by kernel_rfl) (hval 0 49 v0 rfl rfl) h0
  obtain ⟨x0_0, e0_0, _, w0_0⟩ := DataW.trod_int Tryd.underlying3 t0_0
  simp only [List.cons.injEq, and_true] at e0_0
  subst e0_0
  have b0_0 := bounds_i64 w0_0
  obtain ⟨x0_1, e0_1, _, w0_1⟩ := DataW.trod_int Tryd.underlying3 t0_1
  simp only [List.cons.injEq, and_true] at e0_1
  subst e0_1
  have b0_1 := bounds_i64 w0_1
  refine law_calls laidOut (by kernel_rfl) rfl Tryd.underlying4 rfl hW rfl ?_
  exact split_walk W hs x0_0 x0_1 b0_1.1 b0_1.2 A1 A2 n1 c1 n2 c2 zs1 zs2 hz1 hz2 (by omega) (by omega) hr1 hr2

theorem laid_met (os : Os) : laidMet Tryd.prog Rows.grantSplitRow.laid ((World.doorLaid Tryd.prog 807 os).forCall (fun _ _ => 0) ⟨#[], #[.agg #[.int .i64 0, .int .i64 0], .slice none 0 0, .slice none 0 0], []⟩).memory :=
  laidMet_of_run' 8 (by kernel_rfl) (by kernel_rfl)
theorem reads (os : Os) {H : Type} (enc : TypeId × Value → H) : ∃ places, DataW.whole enc Tryd.prog ((World.doorLaid Tryd.prog 807 os).forCall (fun _ _ => 0) ⟨#[], #[.agg #[.int .i64 0, .int .i64 0], .slice none 0 0, .slice none 0 0], []⟩).memory Tryd.f6.params.toList Rows.grantSplitSpec.vars false (#[.agg #[.int .i64 0, .int .i64 0], .slice none 0 0, .slice none 0 0] : Array Value).toList 8 = some ([.agg [.lit (.int .i64 0), .lit (.int .i64 0)], .nil, .nil], [], places) :=
  ⟨[], by kernel_rfl⟩

set_option maxRecDepth 100000 in
theorem lifted (os : Os) (started : os.Started) (H : Type) (enc : TypeId × Value → H) (F : Stop.Interp) :
    ReturnsInHanded {} Tryd.checked os 6 .any ((OpenSpec.ofChange Rows.grantSplitSpec).preRow enc Tryd.prog Tryd.f6 Rows.grantSplitRow.domain false Rows.grantSplitRow.laid) (((OpenSpec.ofChange Rows.grantSplitSpec).at F).post enc Tryd.prog Tryd.f6 false true false false) := by
  obtain ⟨places, hx⟩ := reads os enc
  refine returnsInHanded_of_row (C := Tryd.checked) (s := OpenSpec.ofChange Rows.grantSplitSpec) own started (by kernel_rfl) Tryd.func6
    (witness_row_atRef (enc := enc) (C := Tryd.checked) false (World.doorLaid Tryd.prog 807 os) #[.agg #[.int .i64 0, .int .i64 0], .slice none 0 0, .slice none 0 0] rfl (by kernel_rfl) (by kernel_rfl) (by kernel_rfl)
      (OpenSpec.preRow_of_cond 8 hx (by kernel_rfl) (fun k hk => by cases hk) (by kernel_rfl) (laid_met os))) ?_
  intro W base args ds gs before hval hW _ _ hsz hL _ _
  exact contract H enc W base args ds gs before hval hW hsz hL

theorem said : Rows.GrantSplitSaid :=
  OpenClaim.holds_of_cond 6 Tryd.f6 rfl rfl rfl rfl rfl rfl rfl ⟨rfl, rfl, rfl, rfl, rfl⟩ rfl rfl rfl rfl rfl (by kernel_rfl) Tryd.func6 (by kernel_rfl)
    (of_decide_eq_true (by kernel_rfl)) (by unfold Func.isWrapper; rw [if_neg (of_decide_eq_false (by kernel_rfl))]; exact ⟨rfl, rfl⟩)
    (fun os started H enc _ F => by rw [OpenClaim.pre_eq_preRow]; exact lifted os started H enc F)

theorem plain (f : FuncId) (fn : Func) (hf : Tryd.pinned.checked.prog.funcNamed "culvert/culvertlaw08.GrantSplit" = some f) (hfn : Tryd.pinned.checked.prog.funcs[f]? = some fn) :
    true = Tryd.pinned.checked.prog.looks [] ∧ ∀ (j : Nat) t, fn.params[j]? = some t → Tryd.pinned.checked.prog.wantsStandIn t = false := by
  obtain rfl : f = 6 := Option.some.inj ((show Tryd.prog.funcNamed "culvert/culvertlaw08.GrantSplit" = some 6 by kernel_rfl).symm.trans hf) |>.symm
  obtain rfl : fn = Tryd.f6 := (Option.some.inj (Tryd.func6.symm.trans hfn)).symm
  refine ⟨by kernel_rfl, fun j t ht => ?_⟩
  rw [Tryd.params6] at ht
  have hall : (Tryd.f6.params.toList.all fun t => !Tryd.prog.wantsStandIn t) = true := by kernel_rfl
  rw [Tryd.params6] at hall
  have h1 := List.all_eq_true.1 hall t (by simpa using Array.mem_of_getElem? ht)
  have h2 : Tryd.prog.wantsStandIn t = false := by simpa using h1
  exact h2

/-- The tied card. -/
theorem card : Rows.GrantSplitCardSaid :=
  Claim7.holds_tied_plain_at .later [] _ _ _ _ said (fun _ h => by cases h) (by kernel_rfl) (fun _ h => by cases h) grantSplit_row_tie rfl ⟨rfl, rfl⟩ (by kernel_rfl) rfl plain (by kernel_rfl)
end Go.Proofs.YtohbjddhgdcggaaDoor.lawGrantSplit
namespace Go.Proofs.YtohbjddhgdcggaaDoor
/-- culvertlaw08.GrantSplit returns true for every window, number and two lists: the same bytes, read in pieces of other sizes: the sums of the grants differ by less than the threshold. -/
theorem grantSplit_holds : Rows.GrantSplitCardSaid := lawGrantSplit.card
#print axioms grantSplit_holds
end Go.Proofs.YtohbjddhgdcggaaDoor
