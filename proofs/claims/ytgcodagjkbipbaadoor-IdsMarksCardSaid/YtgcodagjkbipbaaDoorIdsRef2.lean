/-
  The document's numbers (culvertref14): Take, Left, Sent, Hear, Known by contracts.
  No condition of its own.
-/
import Derived.Test.YtgcodagjkbipbaaDoorIdsRef
namespace Go.Proofs.YtgcodagjkbipbaaDoor
open Go.RowKit

theorem rtake_o (w : World) (s : St) (hs : Sok s) :
    Calls Tryd.prog 32 #[aggS s] w fun e w' => e = .returned (.tuple #[aggS (nxS s), .int .i64 (nxV s), .int .i64 (nxC s)]) ∧ Chg none_ w w' := by
  obtain ⟨b0, b1, b2, b3, _⟩ := hs.bd
  obtain ⟨F, R, X, M, T⟩ := s
  simp only at b0 b1 b2 b3
  have w1 : IntKind.i64.wrap (X + 2) = X + 2 := IntWalk.i64_in _ (by omega)
  unfold nxS nxV nxC aggS
  simp only
  clear hs
  by_cases hF : F = 0
  · simp only [if_pos hF]
    have hF' : (F == 0) = true := by simp [hF]
    subst hF
    go_enter Tryd.func32, Tryd.ntmps32
    go_wp2
    refine bodyPost_ret (v := .tuple #[.agg #[.int .i64 0, .int .i64 R, .int .i64 X, .int .i64 M, .int .i64 T], .int .i64 0, .int .i64 1]) (by simp [results, Tryd.results32, go_sem]) rfl ⟨rfl, ?_⟩
    first | exact (Chg.refl none_ w).alloc _ | exact ((Chg.refl none_ w).alloc _).alloc _
  · simp only [if_neg hF]
    have hF' : (F == 0) = false := by simp [hF]
    clear hF
    by_cases hX : 4294967295 < X
    · simp only [if_pos hX]
      go_enter Tryd.func32, Tryd.ntmps32
      go_wp2
      refine bodyPost_ret (v := .tuple #[.agg #[.int .i64 F, .int .i64 R, .int .i64 X, .int .i64 M, .int .i64 T], .int .i64 0, .int .i64 32]) (by simp [results, Tryd.results32, go_sem]) rfl ⟨rfl, ?_⟩
      first | exact (Chg.refl none_ w).alloc _ | exact ((Chg.refl none_ w).alloc _).alloc _
    · simp only [if_neg hX]
      have hX' : X ≤ 4294967295 := by omega
      clear hX
      go_enter Tryd.func32, Tryd.ntmps32
      go_wp2
      refine bodyPost_ret (v := .tuple #[.agg #[.int .i64 F, .int .i64 R, .int .i64 (X + 2), .int .i64 M, .int .i64 T], .int .i64 X, .int .i64 0]) (by simp [results, Tryd.results32, go_sem]) rfl ⟨rfl, ?_⟩
      first | exact (Chg.refl none_ w).alloc _ | exact ((Chg.refl none_ w).alloc _).alloc _

theorem rleft_o (w : World) (s : St) (hs : Sok s) :
    Calls Tryd.prog 37 #[aggS s] w fun e w' => e = .returned (.int .i64 (lfV s)) ∧ Chg none_ w w' := by
  obtain ⟨b0, b1, b2, b3, _⟩ := hs.bd
  obtain ⟨F, R, X, M, T⟩ := s
  simp only at b0 b1 b2 b3
  unfold lfV aggS
  simp only
  clear hs
  by_cases hF : F = 0
  · simp only [if_pos hF]
    have hF' : (F == 0) = true := by simp [hF]
    subst hF
    go_enter Tryd.func37, Tryd.ntmps37
    go_wp2
    go_ret
    exact ⟨rfl, (Chg.refl none_ w).alloc _⟩
  · simp only [if_neg hF]
    have hF' : (F == 0) = false := by simp [hF]
    clear hF
    by_cases hX : 4294967295 < X
    · simp only [if_pos hX]
      go_enter Tryd.func37, Tryd.ntmps37
      go_wp2
      go_ret
      exact ⟨rfl, (Chg.refl none_ w).alloc _⟩
    · simp only [if_neg hX]
      have hX' : X ≤ 4294967295 := by omega
      have e5 : (4294967295 - X).tdiv 2 = (4294967295 - X) / 2 := Int.tdiv_eq_ediv_of_nonneg (by omega)
      clear hX
      go_enter Tryd.func37, Tryd.ntmps37
      go_wp2
      go_ret
      exact ⟨rfl, (Chg.refl none_ w).alloc _⟩

theorem rknown_o (w : World) (s : St) (hs : Sok s) (id : Int) (i0 : 0 ≤ id) (i1 : id ≤ 4294967295) :
    Calls Tryd.prog 35 #[aggS s, .int .i64 id] w fun e w' => e = .returned (.bool (knB s id)) ∧ Chg none_ w w' := by
  obtain ⟨b0, b1, _⟩ := hs.bd
  have hown := Lib.hid fun u => rown_o u s hs id i0 i1
  obtain ⟨F, R, X, M, T⟩ := s
  simp only at b0 b1
  clear hs
  unfold knB
  simp only
  by_cases hF : F = 0
  · simp only [if_pos hF]
    subst hF
    unfold aggS
    go_enter Tryd.func35, Tryd.ntmps35
    go_wp2
    go_ret
    exact ⟨rfl, (Chg.refl none_ w).alloc _⟩
  · simp only [if_neg hF]
    have hF' : (F == 0) = false := by simp [hF]
    clear hF
    by_cases h0 : id = 0
    · simp only [if_pos h0]
      have h0' : (id == 0) = true := by simp [h0]
      clear h0
      unfold aggS
      go_enter Tryd.func35, Tryd.ntmps35
      go_wp2
      go_ret
      exact ⟨rfl, (Chg.refl none_ w).alloc _⟩
    · simp only [if_neg h0]
      have h0' : (id == 0) = false := by simp [h0]
      clear h0
      by_cases ho : owB ⟨F, R, X, M, T⟩ id = true
      · simp only [if_pos ho]
        unfold aggS
        go_enter Tryd.func35, Tryd.ntmps35
        go_wp2_with (go_at_call 36; refine (hown.out _).mono ?_; rintro e w1 ⟨rfl, hc⟩; have hb : Is w1 w.heap.size 53 _ := Is.chg (Is.new w _ _) hc (fun h => h); have q3 := hb.at_ 3 _ rfl; have q4 := hb.at_ 4 _ rfl; clear hb; have HC := Lib.hid hc; clear hc)
        go_ret
        exact ⟨rfl, ((Chg.refl none_ w).alloc _).trans HC.out⟩
      · simp only [if_neg ho]
        have ho' : owB ⟨F, R, X, M, T⟩ id = false := by simpa using ho
        clear ho
        unfold aggS
        go_enter Tryd.func35, Tryd.ntmps35
        go_wp2_with (go_at_call 36; refine (hown.out _).mono ?_; rintro e w1 ⟨rfl, hc⟩; have hb : Is w1 w.heap.size 53 _ := Is.chg (Is.new w _ _) hc (fun h => h); have q3 := hb.at_ 3 _ rfl; have q4 := hb.at_ 4 _ rfl; clear hb; have HC := Lib.hid hc; clear hc)
        go_ret
        exact ⟨rfl, ((Chg.refl none_ w).alloc _).trans HC.out⟩
end Go.Proofs.YtgcodagjkbipbaaDoor
