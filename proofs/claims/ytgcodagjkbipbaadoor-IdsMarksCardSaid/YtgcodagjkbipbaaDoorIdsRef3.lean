/-
  The document's numbers (culvertref14): Sent and Hear by contracts.
  No condition of its own.
-/
import Derived.Test.YtgcodagjkbipbaaDoorIdsRef2
namespace Go.Proofs.YtgcodagjkbipbaaDoor
open Go.RowKit

theorem rsent_o (w : World) (s : St) (hs : Sok s) (id : Int) (i0 : 0 ≤ id) (i1 : id ≤ 4294967295) :
    Calls Tryd.prog 33 #[aggS s, .int .i64 id] w fun e w' => e = .returned (.tuple #[aggS (seS s id), .int .i64 (seC s id)]) ∧ Chg none_ w w' := by
  obtain ⟨b0, b1, _⟩ := hs.bd
  have ht0 : ∀ k : Nat, seC s id = k → k ≠ 0 → seS s id = s := fun k h hk => by unfold seS; rw [h, if_neg hk]
  have ht1 : seC s id = 0 → seS s id = { s with M := id } := fun h => by unfold seS; rw [if_pos h]
  obtain ⟨F, R, X, M, T⟩ := s
  simp only at b0 b1
  clear hs
  by_cases hF : F = 0
  · have hF' : (F == 0) = true := by simp [hF]
    have hcode : seC ⟨F, R, X, M, T⟩ id = 1 := by unfold seC; rw [if_pos hF]
    rw [ht0 1 hcode (by decide), hcode]
    clear ht0 ht1 hcode
    subst hF
    unfold aggS
    go_enter Tryd.func33, Tryd.ntmps33
    go_wp2
    refine bodyPost_ret (v := .tuple #[.agg #[.int .i64 0, .int .i64 R, .int .i64 X, .int .i64 M, .int .i64 T], .int .i64 1]) (by simp [results, Tryd.results33, go_sem]) rfl ⟨rfl, ?_⟩
    first | exact (((Chg.refl none_ w).alloc _).alloc _).alloc _ | exact ((Chg.refl none_ w).alloc _).alloc _ | exact (Chg.refl none_ w).alloc _
  · have hF' : (F == 0) = false := by simp [hF]
    have hFp : 0 < F := by omega
    have hFd : decide (0 < F) = true := by simp [hFp]
    by_cases ho : owB ⟨F, R, X, M, T⟩ id = false
    · have hcode : seC ⟨F, R, X, M, T⟩ id = 18 := by unfold seC; rw [if_neg hF, if_pos ho]
      rw [ht0 18 hcode (by decide), hcode]
      clear ht0 ht1 hcode
      clear hF
      have hoc := ho
      clear ho
      by_cases hid : 0 < id
      · have hq : (id % 2 == F % 2) = false := by unfold owB at hoc; rw [show decide (0 < id) = true by simp [hid], hFd] at hoc; exact hoc
        clear hoc
        unfold aggS
        go_enter Tryd.func33, Tryd.ntmps33
        go_wp2
        refine bodyPost_ret (v := .tuple #[.agg #[.int .i64 F, .int .i64 R, .int .i64 X, .int .i64 M, .int .i64 T], .int .i64 18]) (by simp [results, Tryd.results33, go_sem]) rfl ⟨rfl, ?_⟩
        first | exact (((Chg.refl none_ w).alloc _).alloc _).alloc _ | exact ((Chg.refl none_ w).alloc _).alloc _ | exact (Chg.refl none_ w).alloc _
      · have hid2 : id ≤ 0 := by omega
        clear hoc hid
        unfold aggS
        go_enter Tryd.func33, Tryd.ntmps33
        go_wp2
        refine bodyPost_ret (v := .tuple #[.agg #[.int .i64 F, .int .i64 R, .int .i64 X, .int .i64 M, .int .i64 T], .int .i64 18]) (by simp [results, Tryd.results33, go_sem]) rfl ⟨rfl, ?_⟩
        first | exact (((Chg.refl none_ w).alloc _).alloc _).alloc _ | exact ((Chg.refl none_ w).alloc _).alloc _ | exact (Chg.refl none_ w).alloc _
    · have hoc : owB ⟨F, R, X, M, T⟩ id = true := by simpa using ho
      by_cases hr : id < R ∨ X ≤ id
      · have hcode : seC ⟨F, R, X, M, T⟩ id = 9 := by unfold seC; rw [if_neg hF, if_neg ho, if_pos hr]
        rw [ht0 9 hcode (by decide), hcode]
        clear ht0 ht1 hcode
        clear hF ho
        by_cases hr1 : id < R
        · clear hr
          have hid : 0 < id := by unfold owB at hoc; simp only [Bool.and_eq_true, decide_eq_true_eq] at hoc; exact hoc.2.1
          have hq : (id % 2 == F % 2) = true := by unfold owB at hoc; simp only [Bool.and_eq_true, decide_eq_true_eq] at hoc; exact hoc.2.2
          clear hoc
          unfold aggS
          go_enter Tryd.func33, Tryd.ntmps33
          go_wp2
          refine bodyPost_ret (v := .tuple #[.agg #[.int .i64 F, .int .i64 R, .int .i64 X, .int .i64 M, .int .i64 T], .int .i64 9]) (by simp [results, Tryd.results33, go_sem]) rfl ⟨rfl, ?_⟩
          first | exact (((Chg.refl none_ w).alloc _).alloc _).alloc _ | exact ((Chg.refl none_ w).alloc _).alloc _ | exact (Chg.refl none_ w).alloc _
        · have hr2 : X ≤ id := by omega
          have hr3 : R ≤ id := by omega
          clear hr hr1
          have hid : 0 < id := by unfold owB at hoc; simp only [Bool.and_eq_true, decide_eq_true_eq] at hoc; exact hoc.2.1
          have hq : (id % 2 == F % 2) = true := by unfold owB at hoc; simp only [Bool.and_eq_true, decide_eq_true_eq] at hoc; exact hoc.2.2
          clear hoc
          unfold aggS
          go_enter Tryd.func33, Tryd.ntmps33
          go_wp2
          refine bodyPost_ret (v := .tuple #[.agg #[.int .i64 F, .int .i64 R, .int .i64 X, .int .i64 M, .int .i64 T], .int .i64 9]) (by simp [results, Tryd.results33, go_sem]) rfl ⟨rfl, ?_⟩
          first | exact (((Chg.refl none_ w).alloc _).alloc _).alloc _ | exact ((Chg.refl none_ w).alloc _).alloc _ | exact (Chg.refl none_ w).alloc _
      · by_cases hm : id ≤ M
        · have hcode : seC ⟨F, R, X, M, T⟩ id = 19 := by unfold seC; rw [if_neg hF, if_neg ho, if_neg hr, if_pos hm]
          rw [ht0 19 hcode (by decide), hcode]
          clear ht0 ht1 hcode
          have hr2 : id < X := by omega
          have hr3 : R ≤ id := by omega
          clear hF ho hr
          have hid : 0 < id := by unfold owB at hoc; simp only [Bool.and_eq_true, decide_eq_true_eq] at hoc; exact hoc.2.1
          have hq : (id % 2 == F % 2) = true := by unfold owB at hoc; simp only [Bool.and_eq_true, decide_eq_true_eq] at hoc; exact hoc.2.2
          clear hoc
          unfold aggS
          go_enter Tryd.func33, Tryd.ntmps33
          go_wp2
          refine bodyPost_ret (v := .tuple #[.agg #[.int .i64 F, .int .i64 R, .int .i64 X, .int .i64 M, .int .i64 T], .int .i64 19]) (by simp [results, Tryd.results33, go_sem]) rfl ⟨rfl, ?_⟩
          first | exact (((Chg.refl none_ w).alloc _).alloc _).alloc _ | exact ((Chg.refl none_ w).alloc _).alloc _ | exact (Chg.refl none_ w).alloc _
        · have hcode : seC ⟨F, R, X, M, T⟩ id = 0 := by unfold seC; rw [if_neg hF, if_neg ho, if_neg hr, if_neg hm]
          rw [ht1 hcode, hcode]
          clear ht0 ht1 hcode
          have hr2 : id < X := by omega
          have hr3 : R ≤ id := by omega
          have hm2 : M < id := by omega
          clear hF ho hr hm
          have hid : 0 < id := by unfold owB at hoc; simp only [Bool.and_eq_true, decide_eq_true_eq] at hoc; exact hoc.2.1
          have hq : (id % 2 == F % 2) = true := by unfold owB at hoc; simp only [Bool.and_eq_true, decide_eq_true_eq] at hoc; exact hoc.2.2
          clear hoc
          unfold aggS
          go_enter Tryd.func33, Tryd.ntmps33
          go_wp2
          refine bodyPost_ret (v := .tuple #[.agg #[.int .i64 F, .int .i64 R, .int .i64 X, .int .i64 id, .int .i64 T], .int .i64 0]) (by simp [results, Tryd.results33, go_sem]) rfl ⟨rfl, ?_⟩
          first | exact (((Chg.refl none_ w).alloc _).alloc _).alloc _ | exact ((Chg.refl none_ w).alloc _).alloc _ | exact (Chg.refl none_ w).alloc _

theorem rhear_o (w : World) (s : St) (hs : Sok s) (id : Int) (i0 : 0 ≤ id) (i1 : id ≤ 4294967295) :
    Calls Tryd.prog 34 #[aggS s, .int .i64 id] w fun e w' => e = .returned (.tuple #[aggS (heS s id), .int .i64 (heC s id)]) ∧ Chg none_ w w' := by
  obtain ⟨b0, b1, _⟩ := hs.bd
  have ht0 : ∀ k : Nat, heC s id = k → k ≠ 0 → heS s id = s := fun k h hk => by unfold heS; rw [h, if_neg hk]
  have ht1 : heC s id = 0 → heS s id = { s with T := id } := fun h => by unfold heS; rw [if_pos h]
  obtain ⟨F, R, X, M, T⟩ := s
  simp only at b0 b1
  clear hs
  by_cases hF : F = 0
  · have hF' : (F == 0) = true := by simp [hF]
    have hcode : heC ⟨F, R, X, M, T⟩ id = 1 := by unfold heC; rw [if_pos hF]
    rw [ht0 1 hcode (by decide), hcode]
    clear ht0 ht1 hcode
    subst hF
    unfold aggS
    go_enter Tryd.func34, Tryd.ntmps34
    go_wp2
    refine bodyPost_ret (v := .tuple #[.agg #[.int .i64 0, .int .i64 R, .int .i64 X, .int .i64 M, .int .i64 T], .int .i64 1]) (by simp [results, Tryd.results34, go_sem]) rfl ⟨rfl, ?_⟩
    first | exact (((Chg.refl none_ w).alloc _).alloc _).alloc _ | exact ((Chg.refl none_ w).alloc _).alloc _ | exact (Chg.refl none_ w).alloc _
  · have hF' : (F == 0) = false := by simp [hF]
    have hFp : 0 < F := by omega
    have hFd : decide (0 < F) = true := by simp [hFp]
    by_cases h0 : id = 0
    · have h0' : (id == 0) = true := by simp [h0]
      have hcode : heC ⟨F, R, X, M, T⟩ id = 14 := by unfold heC; rw [if_neg hF, if_pos h0]
      rw [ht0 14 hcode (by decide), hcode]
      clear ht0 ht1 hcode
      clear hF h0
      unfold aggS
      go_enter Tryd.func34, Tryd.ntmps34
      go_wp2
      refine bodyPost_ret (v := .tuple #[.agg #[.int .i64 F, .int .i64 R, .int .i64 X, .int .i64 M, .int .i64 T], .int .i64 14]) (by simp [results, Tryd.results34, go_sem]) rfl ⟨rfl, ?_⟩
      first | exact (((Chg.refl none_ w).alloc _).alloc _).alloc _ | exact ((Chg.refl none_ w).alloc _).alloc _ | exact (Chg.refl none_ w).alloc _
    · have h0' : (id == 0) = false := by simp [h0]
      by_cases ho : owB ⟨F, R, X, M, T⟩ id = true
      · have hcode : heC ⟨F, R, X, M, T⟩ id = 18 := by unfold heC; rw [if_neg hF, if_neg h0, if_pos ho]
        rw [ht0 18 hcode (by decide), hcode]
        clear ht0 ht1 hcode
        clear hF h0
        have hoc := ho
        clear ho
        have hid : 0 < id := by unfold owB at hoc; simp only [Bool.and_eq_true, decide_eq_true_eq] at hoc; exact hoc.2.1
        have hq : (id % 2 == F % 2) = true := by unfold owB at hoc; simp only [Bool.and_eq_true, decide_eq_true_eq] at hoc; exact hoc.2.2
        clear hoc
        unfold aggS
        go_enter Tryd.func34, Tryd.ntmps34
        go_wp2
        refine bodyPost_ret (v := .tuple #[.agg #[.int .i64 F, .int .i64 R, .int .i64 X, .int .i64 M, .int .i64 T], .int .i64 18]) (by simp [results, Tryd.results34, go_sem]) rfl ⟨rfl, ?_⟩
        first | exact (((Chg.refl none_ w).alloc _).alloc _).alloc _ | exact ((Chg.refl none_ w).alloc _).alloc _ | exact (Chg.refl none_ w).alloc _
      · have hoc : owB ⟨F, R, X, M, T⟩ id = false := by simpa using ho
        by_cases hm : id ≤ T
        · have hcode : heC ⟨F, R, X, M, T⟩ id = 19 := by unfold heC; rw [if_neg hF, if_neg h0, if_neg ho, if_pos hm]
          rw [ht0 19 hcode (by decide), hcode]
          clear ht0 ht1 hcode
          clear hF h0 ho
          by_cases hid : 0 < id
          · have hq : (id % 2 == F % 2) = false := by unfold owB at hoc; rw [show decide (0 < id) = true by simp [hid], hFd] at hoc; exact hoc
            clear hoc
            unfold aggS
            go_enter Tryd.func34, Tryd.ntmps34
            go_wp2
            refine bodyPost_ret (v := .tuple #[.agg #[.int .i64 F, .int .i64 R, .int .i64 X, .int .i64 M, .int .i64 T], .int .i64 19]) (by simp [results, Tryd.results34, go_sem]) rfl ⟨rfl, ?_⟩
            first | exact (((Chg.refl none_ w).alloc _).alloc _).alloc _ | exact ((Chg.refl none_ w).alloc _).alloc _ | exact (Chg.refl none_ w).alloc _
          · have hid2 : id ≤ 0 := by omega
            clear hoc hid
            unfold aggS
            go_enter Tryd.func34, Tryd.ntmps34
            go_wp2
            refine bodyPost_ret (v := .tuple #[.agg #[.int .i64 F, .int .i64 R, .int .i64 X, .int .i64 M, .int .i64 T], .int .i64 19]) (by simp [results, Tryd.results34, go_sem]) rfl ⟨rfl, ?_⟩
            first | exact (((Chg.refl none_ w).alloc _).alloc _).alloc _ | exact ((Chg.refl none_ w).alloc _).alloc _ | exact (Chg.refl none_ w).alloc _
        · have hcode : heC ⟨F, R, X, M, T⟩ id = 0 := by unfold heC; rw [if_neg hF, if_neg h0, if_neg ho, if_neg hm]
          rw [ht1 hcode, hcode]
          clear ht0 ht1 hcode
          have hm2 : T < id := by omega
          clear hF h0 ho hm
          by_cases hid : 0 < id
          · have hq : (id % 2 == F % 2) = false := by unfold owB at hoc; rw [show decide (0 < id) = true by simp [hid], hFd] at hoc; exact hoc
            clear hoc
            unfold aggS
            go_enter Tryd.func34, Tryd.ntmps34
            go_wp2
            refine bodyPost_ret (v := .tuple #[.agg #[.int .i64 F, .int .i64 R, .int .i64 X, .int .i64 M, .int .i64 id], .int .i64 0]) (by simp [results, Tryd.results34, go_sem]) rfl ⟨rfl, ?_⟩
            first | exact (((Chg.refl none_ w).alloc _).alloc _).alloc _ | exact ((Chg.refl none_ w).alloc _).alloc _ | exact (Chg.refl none_ w).alloc _
          · have hid2 : id ≤ 0 := by omega
            clear hoc hid
            unfold aggS
            go_enter Tryd.func34, Tryd.ntmps34
            go_wp2
            refine bodyPost_ret (v := .tuple #[.agg #[.int .i64 F, .int .i64 R, .int .i64 X, .int .i64 M, .int .i64 id], .int .i64 0]) (by simp [results, Tryd.results34, go_sem]) rfl ⟨rfl, ?_⟩
            first | exact (((Chg.refl none_ w).alloc _).alloc _).alloc _ | exact ((Chg.refl none_ w).alloc _).alloc _ | exact (Chg.refl none_ w).alloc _

end Go.Proofs.YtgcodagjkbipbaaDoor
