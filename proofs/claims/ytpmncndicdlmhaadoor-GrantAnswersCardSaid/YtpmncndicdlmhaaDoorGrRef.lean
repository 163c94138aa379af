/-
  The document's grant (culvertref08) by contracts: the counts are differences modulo 2^64.
  No condition of its own.
-/
import Derived.Test.YtpmncndicdlmhaaDoorGrOnly
namespace Go.Proofs.YtpmncndicdlmhaaDoor
open Go.RowKit
set_option linter.unusedSimpArgs false

theorem is_new2 (w : World) (x : Obj) (t : TypeId) (cs : Array Value) : Is ((w.alloc x).alloc (.cells cs t)) (w.heap.size + 1) t cs := by
  have h := Is.new (w.alloc x) t cs
  have e : (w.alloc x).heap.size = w.heap.size + 1 := Array.size_push _
  rwa [e] at h
theorem rb0 {u : World} {g : Nat} {v : Value} (h : u.cell? ⟨g, 0, none⟩ = some v) (a0 : Value) : (u.setCell ⟨g, 0, none⟩ a0).cell? ⟨g, 0, none⟩ = some a0 := World.cell?_setCell_same _ _ _ (h)
theorem rc0 {u : World} {g k : Nat} {v : Value} (h : u.cell? ⟨g + 1, 0, none⟩ = some v) (x a0 : Value) : ((u.setCell ⟨g, k, none⟩ x).setCell ⟨g + 1, 0, none⟩ a0).cell? ⟨g + 1, 0, none⟩ = some a0 := rb0 ((World.cell?_setCell_other _ _ _ _ (by intro e; injection e with e _ _; omega)).trans h) a0
theorem rb1 {u : World} {g : Nat} {v : Value} (h : u.cell? ⟨g, 1, none⟩ = some v) (a0 a1 : Value) : ((u.setCell ⟨g, 0, none⟩ a0).setCell ⟨g, 1, none⟩ a1).cell? ⟨g, 1, none⟩ = some a1 := World.cell?_setCell_same _ _ _ (((World.cell?_setCell_other _ _ _ _ (by intro e; injection e with _ e _; omega)).trans (h)))
theorem rc1 {u : World} {g k : Nat} {v : Value} (h : u.cell? ⟨g + 1, 1, none⟩ = some v) (x a0 a1 : Value) : (((u.setCell ⟨g, k, none⟩ x).setCell ⟨g + 1, 0, none⟩ a0).setCell ⟨g + 1, 1, none⟩ a1).cell? ⟨g + 1, 1, none⟩ = some a1 := rb1 ((World.cell?_setCell_other _ _ _ _ (by intro e; injection e with e _ _; omega)).trans h) a0 a1
theorem rb2 {u : World} {g : Nat} {v : Value} (h : u.cell? ⟨g, 2, none⟩ = some v) (a0 a1 a2 : Value) : (((u.setCell ⟨g, 0, none⟩ a0).setCell ⟨g, 1, none⟩ a1).setCell ⟨g, 2, none⟩ a2).cell? ⟨g, 2, none⟩ = some a2 := World.cell?_setCell_same _ _ _ (((World.cell?_setCell_other _ _ _ _ (by intro e; injection e with _ e _; omega)).trans (((World.cell?_setCell_other _ _ _ _ (by intro e; injection e with _ e _; omega)).trans (h)))))
theorem rc2 {u : World} {g k : Nat} {v : Value} (h : u.cell? ⟨g + 1, 2, none⟩ = some v) (x a0 a1 a2 : Value) : ((((u.setCell ⟨g, k, none⟩ x).setCell ⟨g + 1, 0, none⟩ a0).setCell ⟨g + 1, 1, none⟩ a1).setCell ⟨g + 1, 2, none⟩ a2).cell? ⟨g + 1, 2, none⟩ = some a2 := rb2 ((World.cell?_setCell_other _ _ _ _ (by intro e; injection e with e _ _; omega)).trans h) a0 a1 a2
theorem rb3 {u : World} {g : Nat} {v : Value} (h : u.cell? ⟨g, 3, none⟩ = some v) (a0 a1 a2 a3 : Value) : ((((u.setCell ⟨g, 0, none⟩ a0).setCell ⟨g, 1, none⟩ a1).setCell ⟨g, 2, none⟩ a2).setCell ⟨g, 3, none⟩ a3).cell? ⟨g, 3, none⟩ = some a3 := World.cell?_setCell_same _ _ _ (((World.cell?_setCell_other _ _ _ _ (by intro e; injection e with _ e _; omega)).trans (((World.cell?_setCell_other _ _ _ _ (by intro e; injection e with _ e _; omega)).trans (((World.cell?_setCell_other _ _ _ _ (by intro e; injection e with _ e _; omega)).trans (h)))))))
theorem rc3 {u : World} {g k : Nat} {v : Value} (h : u.cell? ⟨g + 1, 3, none⟩ = some v) (x a0 a1 a2 a3 : Value) : (((((u.setCell ⟨g, k, none⟩ x).setCell ⟨g + 1, 0, none⟩ a0).setCell ⟨g + 1, 1, none⟩ a1).setCell ⟨g + 1, 2, none⟩ a2).setCell ⟨g + 1, 3, none⟩ a3).cell? ⟨g + 1, 3, none⟩ = some a3 := rb3 ((World.cell?_setCell_other _ _ _ _ (by intro e; injection e with e _ _; omega)).trans h) a0 a1 a2 a3
theorem chg_res4 {w u : World} (h : Chg none_ w u) (a b c d : Value) :
    Chg none_ w ((((u.setCell ⟨w.heap.size + 1, 0, none⟩ a).setCell ⟨w.heap.size + 1, 1, none⟩ b).setCell ⟨w.heap.size + 1, 2, none⟩ c).setCell ⟨w.heap.size + 1, 3, none⟩ d) :=
  (((h.setCell (p := ⟨w.heap.size + 1, 0, none⟩) (fun h => absurd h (Nat.not_lt.2 (Nat.le_succ _))) _).setCell (p := ⟨w.heap.size + 1, 1, none⟩) (fun h => absurd h (Nat.not_lt.2 (Nat.le_succ _))) _).setCell (p := ⟨w.heap.size + 1, 2, none⟩) (fun h => absurd h (Nat.not_lt.2 (Nat.le_succ _))) _).setCell (p := ⟨w.heap.size + 1, 3, none⟩) (fun h => absurd h (Nat.not_lt.2 (Nat.le_succ _))) _

theorem rleft_v (w : World) (W C S T v : Int) (hv : IntKind.i64.wrap (IntKind.i64.wrap (W - C) + T) = v) :
    Calls Tryd.prog 57 #[.agg #[.int .i64 W, .int .i64 C, .int .i64 S, .int .i64 T]] w fun e w' => e = .returned (.int .i64 v) ∧ Chg none_ w w' := by
  simp only [IntWalk.i64_left] at hv
  subst hv
  go_enter Tryd.func57, Tryd.ntmps57
  go_wp2
  go_ret
  exact ⟨rfl, (Chg.refl none_ w).alloc _⟩
theorem runread_v (w : World) (W C S T v : Int) (hv : IntKind.i64.wrap (C - S) = v) :
    Calls Tryd.prog 58 #[.agg #[.int .i64 W, .int .i64 C, .int .i64 S, .int .i64 T]] w fun e w' => e = .returned (.int .i64 v) ∧ Chg none_ w w' := by
  simp only [IntWalk.i64_left] at hv
  subst hv
  go_enter Tryd.func58, Tryd.ntmps58
  go_wp2
  go_ret
  exact ⟨rfl, (Chg.refl none_ w).alloc _⟩
theorem rowed_v (w : World) (W C S T v : Int) (hv : IntKind.i64.wrap (S - T) = v) :
    Calls Tryd.prog 59 #[.agg #[.int .i64 W, .int .i64 C, .int .i64 S, .int .i64 T]] w fun e w' => e = .returned (.int .i64 v) ∧ Chg none_ w w' := by
  simp only [IntWalk.i64_left] at hv
  subst hv
  go_enter Tryd.func59, Tryd.ntmps59
  go_wp2
  go_ret
  exact ⟨rfl, (Chg.refl none_ w).alloc _⟩
theorem rgthr_v (w : World) (W v : Int) (hv : thr W = v) :
    Calls Tryd.prog 34 #[.int .i64 W] w fun e w' => e = .returned (.int .i64 v) ∧ w = w' := by
  subst hv
  unfold thr
  by_cases h1 : W < 1
  · rw [if_pos h1]
    go_enter Tryd.func34, Tryd.ntmps34
    go_wp2
    go_ret
    exact ⟨rfl, rfl⟩
  · rw [if_neg h1]
    by_cases h2 : 2147483647 < W
    · rw [if_pos h2]
      go_enter Tryd.func34, Tryd.ntmps34
      go_wp2
      go_ret
      exact ⟨rfl, rfl⟩
    · rw [if_neg h2]
      have h1' : 1 ≤ W := by omega
      have h2' : W ≤ 2147483647 := by omega
      have e5 : W.tdiv 2 = W / 2 := Int.tdiv_eq_ediv_of_nonneg (by omega)
      have e6 : (W + 1) / 2 = W - W / 2 := by omega
      rw [e6]
      clear h1 h2 e6
      go_enter Tryd.func34, Tryd.ntmps34
      go_wp2
      go_ret
      exact ⟨rfl, rfl⟩

theorem rgnew_ok (w : World) (W : Int) (h1 : 1 ≤ W) (h2 : W ≤ 2147483647) :
    Calls Tryd.prog 33 #[.int .i64 W] w fun e w' => e = .returned (.tuple #[.agg #[.int .i64 W, .int .i64 0, .int .i64 0, .int .i64 0], .int .i64 0]) ∧ Chg none_ w w' := by
  go_enter Tryd.func33, Tryd.ntmps33
  go_wp2
  refine bodyPost_ret (v := .tuple #[.agg #[.int .i64 W, .int .i64 0, .int .i64 0, .int .i64 0], .int .i64 0]) (by simp [results, Tryd.results33, go_sem]) rfl ⟨rfl, ?_⟩
  first | exact (Chg.refl none_ w).alloc _ | exact ((Chg.refl none_ w).alloc _).alloc _
theorem rgnew_no (w : World) (W : Int) (hk : W < 1 ∨ 2147483647 < W) :
    Calls Tryd.prog 33 #[.int .i64 W] w fun e w' => e = .returned (.tuple #[.agg #[.int .i64 0, .int .i64 0, .int .i64 0, .int .i64 0], .int .i64 2]) ∧ Chg none_ w w' := by
  by_cases h1 : W < 1
  · clear hk
    go_enter Tryd.func33, Tryd.ntmps33
    go_wp2
    refine bodyPost_ret (v := .tuple #[.agg #[.int .i64 0, .int .i64 0, .int .i64 0, .int .i64 0], .int .i64 2]) (by simp [results, Tryd.results33, go_sem]) rfl ⟨rfl, ?_⟩
    first | exact (Chg.refl none_ w).alloc _ | exact ((Chg.refl none_ w).alloc _).alloc _
  · have h2 : 2147483647 < W := by omega
    clear hk
    go_enter Tryd.func33, Tryd.ntmps33
    go_wp2
    refine bodyPost_ret (v := .tuple #[.agg #[.int .i64 0, .int .i64 0, .int .i64 0, .int .i64 0], .int .i64 2]) (by simp [results, Tryd.results33, go_sem]) rfl ⟨rfl, ?_⟩
    first | exact (Chg.refl none_ w).alloc _ | exact ((Chg.refl none_ w).alloc _).alloc _

theorem rarrive_nil (w : World) (C S T n : Int) : Calls Tryd.prog 35 #[.agg #[.int .i64 0, .int .i64 C, .int .i64 S, .int .i64 T], .int .i64 n] w fun e w' => e = .returned (.tuple #[.agg #[.int .i64 0, .int .i64 C, .int .i64 S, .int .i64 T], .int .i64 1]) ∧ Chg none_ w w' := by
  go_enter Tryd.func35, Tryd.ntmps35
  go_wp2
  refine bodyPost_ret (v := .tuple #[.agg #[.int .i64 0, .int .i64 C, .int .i64 S, .int .i64 T], .int .i64 1]) (by simp [results, Tryd.results35, go_sem, IntWalk.i64_left]) rfl ⟨rfl, ?_⟩
  first | exact (Chg.refl none_ w).alloc _ | exact ((Chg.refl none_ w).alloc _).alloc _
/-- Arrive: the count that is left is given. -/
theorem rarrive_v (w : World) (W C S T l n : Int) (hW : 1 ≤ W) (hl : IntKind.i64.wrap (IntKind.i64.wrap (W - C) + T) = l) (q : Nat) (C2 : Int)
    (h : (n < 0 ∧ q = 2 ∧ C2 = C) ∨ (0 ≤ n ∧ l < n ∧ q = 16 ∧ C2 = C) ∨ (0 ≤ n ∧ n ≤ l ∧ q = 0 ∧ C2 = IntKind.i64.wrap (C + n))) :
    Calls Tryd.prog 35 #[.agg #[.int .i64 W, .int .i64 C, .int .i64 S, .int .i64 T], .int .i64 n] w fun e w' => e = .returned (.tuple #[.agg #[.int .i64 W, .int .i64 C2, .int .i64 S, .int .i64 T], .int .i64 q]) ∧ Chg none_ w w' := by
  rcases h with ⟨h1, rfl, rfl⟩ | ⟨h1, h2, rfl, rfl⟩ | ⟨h1, h2, rfl, rfl⟩
  ·
    go_enter Tryd.func35, Tryd.ntmps35
    go_wp2
    refine bodyPost_ret (v := .tuple #[.agg #[.int .i64 W, .int .i64 C2, .int .i64 S, .int .i64 T], .int .i64 2]) (by simp [results, Tryd.results35, go_sem, IntWalk.i64_left]) rfl ⟨rfl, ?_⟩
    first | exact (Chg.refl none_ w).alloc _ | exact ((Chg.refl none_ w).alloc _).alloc _
  ·
    go_enter Tryd.func35, Tryd.ntmps35
    go_wp2_with fail
    refine (rleft_v _ W C2 S T l hl).mono ?_
    rintro e w1 ⟨rfl, k1⟩
    have k0 : Chg none_ w w1 := (((Chg.refl none_ w).alloc _).alloc _).trans k1
    have b1 : Is w1 w.heap.size 57 #[.int .i64 W, .int .i64 C2, .int .i64 S, .int .i64 T] := ((Is.new w 57 #[.int .i64 W, .int .i64 C2, .int .i64 S, .int .i64 T]).alloc _).chg k1 (fun f => f)
    have r1 : Is w1 (w.heap.size + 1) 57 #[.int .i64 0, .int .i64 0, .int .i64 0, .int .i64 0] := (is_new2 w _ 57 #[.int .i64 0, .int .i64 0, .int .i64 0, .int .i64 0]).chg k1 (fun f => f)
    have r0a := r1.at_ 0 (.int .i64 0) rfl
    have r1a := r1.at_ 1 (.int .i64 0) rfl
    have r2a := r1.at_ 2 (.int .i64 0) rfl
    have r3a := r1.at_ 3 (.int .i64 0) rfl
    have rf0 := r1.frozen 0
    have rf1 := r1.frozen 1
    have rf2 := r1.frozen 2
    have rf3 := r1.frozen 3
    have hlr := r1.lt
    have y0 := b1.at_ 0 (.int .i64 W) rfl
    have y1 := b1.at_ 1 (.int .i64 C2) rfl
    have y2 := b1.at_ 2 (.int .i64 S) rfl
    have y3 := b1.at_ 3 (.int .i64 T) rfl
    have f1 := b1.frozen 1
    have hlt := b1.lt
    clear b1 k1 r1
    go_wp2
    refine bodyPost_ret (v := .tuple #[.agg #[.int .i64 W, .int .i64 C2, .int .i64 S, .int .i64 T], .int .i64 16]) (by simp [results, Tryd.results35, go_sem, IntWalk.i64_left, rb0 r0a, fun x => rc0 (k := 1) r0a x, rb1 r1a, fun x => rc1 (k := 1) r1a x, rb2 r2a, fun x => rc2 (k := 1) r2a x, rb3 r3a, fun x => rc3 (k := 1) r3a x]) rfl ⟨rfl, ?_⟩
    exact chg_res4 k0 _ _ _ _
  ·
    go_enter Tryd.func35, Tryd.ntmps35
    go_wp2_with fail
    refine (rleft_v _ W C S T l hl).mono ?_
    rintro e w1 ⟨rfl, k1⟩
    have k0 : Chg none_ w w1 := (((Chg.refl none_ w).alloc _).alloc _).trans k1
    have b1 : Is w1 w.heap.size 57 #[.int .i64 W, .int .i64 C, .int .i64 S, .int .i64 T] := ((Is.new w 57 #[.int .i64 W, .int .i64 C, .int .i64 S, .int .i64 T]).alloc _).chg k1 (fun f => f)
    have r1 : Is w1 (w.heap.size + 1) 57 #[.int .i64 0, .int .i64 0, .int .i64 0, .int .i64 0] := (is_new2 w _ 57 #[.int .i64 0, .int .i64 0, .int .i64 0, .int .i64 0]).chg k1 (fun f => f)
    have r0a := r1.at_ 0 (.int .i64 0) rfl
    have r1a := r1.at_ 1 (.int .i64 0) rfl
    have r2a := r1.at_ 2 (.int .i64 0) rfl
    have r3a := r1.at_ 3 (.int .i64 0) rfl
    have rf0 := r1.frozen 0
    have rf1 := r1.frozen 1
    have rf2 := r1.frozen 2
    have rf3 := r1.frozen 3
    have hlr := r1.lt
    have y0 := b1.at_ 0 (.int .i64 W) rfl
    have y1 := b1.at_ 1 (.int .i64 C) rfl
    have y2 := b1.at_ 2 (.int .i64 S) rfl
    have y3 := b1.at_ 3 (.int .i64 T) rfl
    have f1 := b1.frozen 1
    have hlt := b1.lt
    clear b1 k1 r1
    go_wp2
    refine bodyPost_ret (v := .tuple #[.agg #[.int .i64 W, .int .i64 (IntKind.i64.wrap (C + n)), .int .i64 S, .int .i64 T], .int .i64 0]) (by simp [results, Tryd.results35, go_sem, IntWalk.i64_left, rb0 r0a, fun x => rc0 (k := 1) r0a x, rb1 r1a, fun x => rc1 (k := 1) r1a x, rb2 r2a, fun x => rc2 (k := 1) r2a x, rb3 r3a, fun x => rc3 (k := 1) r3a x]) rfl ⟨rfl, ?_⟩
    exact chg_res4 (k0.setCell (p := ⟨w.heap.size, 1, none⟩) (fun h => absurd h (Nat.lt_irrefl _)) _) _ _ _ _

theorem rread_nil (w : World) (C S T n : Int) : Calls Tryd.prog 36 #[.agg #[.int .i64 0, .int .i64 C, .int .i64 S, .int .i64 T], .int .i64 n] w fun e w' => e = .returned (.tuple #[.agg #[.int .i64 0, .int .i64 C, .int .i64 S, .int .i64 T], .int .i64 0, .int .i64 1]) ∧ Chg none_ w w' := by
  go_enter Tryd.func36, Tryd.ntmps36
  go_wp2
  refine bodyPost_ret (v := .tuple #[.agg #[.int .i64 0, .int .i64 C, .int .i64 S, .int .i64 T], .int .i64 0, .int .i64 1]) (by simp [results, Tryd.results36, go_sem, IntWalk.i64_left]) rfl ⟨rfl, ?_⟩
  first | exact (Chg.refl none_ w).alloc _ | exact ((Chg.refl none_ w).alloc _).alloc _
theorem rread_2 (w : World) (W C S T n : Int) (hW : 1 ≤ W) (h1 : n < 0) : Calls Tryd.prog 36 #[.agg #[.int .i64 W, .int .i64 C, .int .i64 S, .int .i64 T], .int .i64 n] w fun e w' => e = .returned (.tuple #[.agg #[.int .i64 W, .int .i64 C, .int .i64 S, .int .i64 T], .int .i64 0, .int .i64 2]) ∧ Chg none_ w w' := by
  go_enter Tryd.func36, Tryd.ntmps36
  go_wp2
  refine bodyPost_ret (v := .tuple #[.agg #[.int .i64 W, .int .i64 C, .int .i64 S, .int .i64 T], .int .i64 0, .int .i64 2]) (by simp [results, Tryd.results36, go_sem, IntWalk.i64_left]) rfl ⟨rfl, ?_⟩
  first | exact (Chg.refl none_ w).alloc _ | exact ((Chg.refl none_ w).alloc _).alloc _
theorem rread_5 (w : World) (W C S T n u : Int) (hW : 1 ≤ W) (hu : IntKind.i64.wrap (C - S) = u) (h1 : 0 ≤ n) (h2 : u < n) : Calls Tryd.prog 36 #[.agg #[.int .i64 W, .int .i64 C, .int .i64 S, .int .i64 T], .int .i64 n] w fun e w' => e = .returned (.tuple #[.agg #[.int .i64 W, .int .i64 C, .int .i64 S, .int .i64 T], .int .i64 0, .int .i64 5]) ∧ Chg none_ w w' := by
  go_enter Tryd.func36, Tryd.ntmps36
  go_wp2_with fail
  refine (runread_v _ W C S T u hu).mono ?_
  rintro e w1 ⟨rfl, k1⟩
  have k0 : Chg none_ w w1 := (((Chg.refl none_ w).alloc _).alloc _).trans k1
  have b1 : Is w1 w.heap.size 57 #[.int .i64 W, .int .i64 C, .int .i64 S, .int .i64 T] := ((Is.new w 57 #[.int .i64 W, .int .i64 C, .int .i64 S, .int .i64 T]).alloc _).chg k1 (fun f => f)
  have r1 : Is w1 (w.heap.size + 1) 57 #[.int .i64 0, .int .i64 0, .int .i64 0, .int .i64 0] := (is_new2 w _ 57 #[.int .i64 0, .int .i64 0, .int .i64 0, .int .i64 0]).chg k1 (fun f => f)
  have r0a := r1.at_ 0 (.int .i64 0) rfl
  have r1a := r1.at_ 1 (.int .i64 0) rfl
  have r2a := r1.at_ 2 (.int .i64 0) rfl
  have r3a := r1.at_ 3 (.int .i64 0) rfl
  have rf0 := r1.frozen 0
  have rf1 := r1.frozen 1
  have rf2 := r1.frozen 2
  have rf3 := r1.frozen 3
  have hlr := r1.lt
  have y0 := b1.at_ 0 (.int .i64 W) rfl
  have y1 := b1.at_ 1 (.int .i64 C) rfl
  have y2 := b1.at_ 2 (.int .i64 S) rfl
  have y3 := b1.at_ 3 (.int .i64 T) rfl
  have f2 := b1.frozen 2
  have hlt := b1.lt
  clear k1
  go_wp2
  refine bodyPost_ret (v := .tuple #[.agg #[.int .i64 W, .int .i64 C, .int .i64 S, .int .i64 T], .int .i64 0, .int .i64 5]) (by simp [results, Tryd.results36, go_sem, IntWalk.i64_left, rb0 r0a, fun x => rc0 (k := 3) r0a x, rb1 r1a, fun x => rc1 (k := 3) r1a x, rb2 r2a, fun x => rc2 (k := 3) r2a x, rb3 r3a, fun x => rc3 (k := 3) r3a x]) rfl ⟨rfl, ?_⟩
  exact chg_res4 k0 _ _ _ _
theorem rread_less (w : World) (W C S T n u v t : Int) (hW : 1 ≤ W) (hu : IntKind.i64.wrap (C - S) = u) (h1 : 0 ≤ n) (h2 : n ≤ u) (hv : IntKind.i64.wrap (IntKind.i64.wrap (S + n) - T) = v) (ht : thr W = t) (h3 : v < t) :
    Calls Tryd.prog 36 #[.agg #[.int .i64 W, .int .i64 C, .int .i64 S, .int .i64 T], .int .i64 n] w fun e w' => e = .returned (.tuple #[.agg #[.int .i64 W, .int .i64 C, .int .i64 (IntKind.i64.wrap (S + n)), .int .i64 T], .int .i64 0, .int .i64 0]) ∧ Chg none_ w w' := by
  go_enter Tryd.func36, Tryd.ntmps36
  go_wp2_with fail
  refine (runread_v _ W C S T u hu).mono ?_
  rintro e w1 ⟨rfl, k1⟩
  have k0 : Chg none_ w w1 := (((Chg.refl none_ w).alloc _).alloc _).trans k1
  have b1 : Is w1 w.heap.size 57 #[.int .i64 W, .int .i64 C, .int .i64 S, .int .i64 T] := ((Is.new w 57 #[.int .i64 W, .int .i64 C, .int .i64 S, .int .i64 T]).alloc _).chg k1 (fun f => f)
  have r1 : Is w1 (w.heap.size + 1) 57 #[.int .i64 0, .int .i64 0, .int .i64 0, .int .i64 0] := (is_new2 w _ 57 #[.int .i64 0, .int .i64 0, .int .i64 0, .int .i64 0]).chg k1 (fun f => f)
  have r0a := r1.at_ 0 (.int .i64 0) rfl
  have r1a := r1.at_ 1 (.int .i64 0) rfl
  have r2a := r1.at_ 2 (.int .i64 0) rfl
  have r3a := r1.at_ 3 (.int .i64 0) rfl
  have rf0 := r1.frozen 0
  have rf1 := r1.frozen 1
  have rf2 := r1.frozen 2
  have rf3 := r1.frozen 3
  have hlr := r1.lt
  have y0 := b1.at_ 0 (.int .i64 W) rfl
  have y1 := b1.at_ 1 (.int .i64 C) rfl
  have y2 := b1.at_ 2 (.int .i64 S) rfl
  have y3 := b1.at_ 3 (.int .i64 T) rfl
  have f2 := b1.frozen 2
  have hlt := b1.lt
  clear k1
  have hv2 : IntKind.i64.wrap (wrap64 (S + n) - T) = v := by rw [← IntWalk.i64_left (S + n)]; exact hv
  go_wp2_with fail
  refine (rowed_v _ W C (wrap64 (S + n)) T v hv2).mono ?_
  rintro e w2 ⟨rfl, k2⟩
  have b2 : Is w2 w.heap.size 57 #[.int .i64 W, .int .i64 C, .int .i64 (wrap64 (S + n)), .int .i64 T] := (b1.put 2 _).chg k2 (fun f => f)
  have kk : Chg none_ w w2 := (k0.setCell (p := ⟨w.heap.size, 2, none⟩) (fun h => absurd h (Nat.lt_irrefl _)) _).trans k2
  have r2 : Is w2 (w.heap.size + 1) 57 #[.int .i64 0, .int .i64 0, .int .i64 0, .int .i64 0] := (r1.far (p := ⟨w.heap.size, 2, none⟩) (by simp) _).chg k2 (fun f => f)
  clear r0a r1a r2a r3a rf0 rf1 rf2 rf3 hlr r1
  have r0a := r2.at_ 0 (.int .i64 0) rfl
  have r1a := r2.at_ 1 (.int .i64 0) rfl
  have r2a := r2.at_ 2 (.int .i64 0) rfl
  have r3a := r2.at_ 3 (.int .i64 0) rfl
  have rf0 := r2.frozen 0
  have rf1 := r2.frozen 1
  have rf2 := r2.frozen 2
  have rf3 := r2.frozen 3
  have hlr := r2.lt
  clear k2 k0 y0 y1 y2 y3 f2 b1 hlt r2
  have z0 := b2.at_ 0 (.int .i64 W) rfl
  have z1 := b2.at_ 1 (.int .i64 C) rfl
  have z2 := b2.at_ 2 (.int .i64 (wrap64 (S + n))) rfl
  have z3 := b2.at_ 3 (.int .i64 T) rfl
  have g3 := b2.frozen 3
  have hlt2 := b2.lt
  go_wp2_with fail
  refine (rgthr_v _ W t ht).mono ?_
  rintro e w' ⟨rfl, rfl⟩
  go_wp2
  refine bodyPost_ret (v := .tuple #[.agg #[.int .i64 W, .int .i64 C, .int .i64 (IntKind.i64.wrap (S + n)), .int .i64 T], .int .i64 0, .int .i64 0]) (by simp [results, Tryd.results36, go_sem, IntWalk.i64_left, rb0 r0a, fun x => rc0 (k := 3) r0a x, rb1 r1a, fun x => rc1 (k := 3) r1a x, rb2 r2a, fun x => rc2 (k := 3) r2a x, rb3 r3a, fun x => rc3 (k := 3) r3a x]) rfl ⟨rfl, ?_⟩
  exact chg_res4 kk _ _ _ _
theorem rread_all (w : World) (W C S T n u v t : Int) (hW : 1 ≤ W) (hu : IntKind.i64.wrap (C - S) = u) (h1 : 0 ≤ n) (h2 : n ≤ u) (hv : IntKind.i64.wrap (IntKind.i64.wrap (S + n) - T) = v) (ht : thr W = t) (h3 : t ≤ v) :
    Calls Tryd.prog 36 #[.agg #[.int .i64 W, .int .i64 C, .int .i64 S, .int .i64 T], .int .i64 n] w fun e w' => e = .returned (.tuple #[.agg #[.int .i64 W, .int .i64 C, .int .i64 (IntKind.i64.wrap (S + n)), .int .i64 (IntKind.i64.wrap (S + n))], .int .i64 v, .int .i64 0]) ∧ Chg none_ w w' := by
  go_enter Tryd.func36, Tryd.ntmps36
  go_wp2_with fail
  refine (runread_v _ W C S T u hu).mono ?_
  rintro e w1 ⟨rfl, k1⟩
  have k0 : Chg none_ w w1 := (((Chg.refl none_ w).alloc _).alloc _).trans k1
  have b1 : Is w1 w.heap.size 57 #[.int .i64 W, .int .i64 C, .int .i64 S, .int .i64 T] := ((Is.new w 57 #[.int .i64 W, .int .i64 C, .int .i64 S, .int .i64 T]).alloc _).chg k1 (fun f => f)
  have r1 : Is w1 (w.heap.size + 1) 57 #[.int .i64 0, .int .i64 0, .int .i64 0, .int .i64 0] := (is_new2 w _ 57 #[.int .i64 0, .int .i64 0, .int .i64 0, .int .i64 0]).chg k1 (fun f => f)
  have r0a := r1.at_ 0 (.int .i64 0) rfl
  have r1a := r1.at_ 1 (.int .i64 0) rfl
  have r2a := r1.at_ 2 (.int .i64 0) rfl
  have r3a := r1.at_ 3 (.int .i64 0) rfl
  have rf0 := r1.frozen 0
  have rf1 := r1.frozen 1
  have rf2 := r1.frozen 2
  have rf3 := r1.frozen 3
  have hlr := r1.lt
  have y0 := b1.at_ 0 (.int .i64 W) rfl
  have y1 := b1.at_ 1 (.int .i64 C) rfl
  have y2 := b1.at_ 2 (.int .i64 S) rfl
  have y3 := b1.at_ 3 (.int .i64 T) rfl
  have f2 := b1.frozen 2
  have hlt := b1.lt
  clear k1
  have hv2 : IntKind.i64.wrap (wrap64 (S + n) - T) = v := by rw [← IntWalk.i64_left (S + n)]; exact hv
  go_wp2_with fail
  refine (rowed_v _ W C (wrap64 (S + n)) T v hv2).mono ?_
  rintro e w2 ⟨rfl, k2⟩
  have b2 : Is w2 w.heap.size 57 #[.int .i64 W, .int .i64 C, .int .i64 (wrap64 (S + n)), .int .i64 T] := (b1.put 2 _).chg k2 (fun f => f)
  have kk : Chg none_ w w2 := (k0.setCell (p := ⟨w.heap.size, 2, none⟩) (fun h => absurd h (Nat.lt_irrefl _)) _).trans k2
  have r2 : Is w2 (w.heap.size + 1) 57 #[.int .i64 0, .int .i64 0, .int .i64 0, .int .i64 0] := (r1.far (p := ⟨w.heap.size, 2, none⟩) (by simp) _).chg k2 (fun f => f)
  clear r0a r1a r2a r3a rf0 rf1 rf2 rf3 hlr r1
  have r0a := r2.at_ 0 (.int .i64 0) rfl
  have r1a := r2.at_ 1 (.int .i64 0) rfl
  have r2a := r2.at_ 2 (.int .i64 0) rfl
  have r3a := r2.at_ 3 (.int .i64 0) rfl
  have rf0 := r2.frozen 0
  have rf1 := r2.frozen 1
  have rf2 := r2.frozen 2
  have rf3 := r2.frozen 3
  have hlr := r2.lt
  clear k2 k0 y0 y1 y2 y3 f2 b1 hlt r2
  have z0 := b2.at_ 0 (.int .i64 W) rfl
  have z1 := b2.at_ 1 (.int .i64 C) rfl
  have z2 := b2.at_ 2 (.int .i64 (wrap64 (S + n))) rfl
  have z3 := b2.at_ 3 (.int .i64 T) rfl
  have g3 := b2.frozen 3
  have hlt2 := b2.lt
  go_wp2_with fail
  refine (rgthr_v _ W t ht).mono ?_
  rintro e w' ⟨rfl, rfl⟩
  go_wp2
  refine bodyPost_ret (v := .tuple #[.agg #[.int .i64 W, .int .i64 C, .int .i64 (IntKind.i64.wrap (S + n)), .int .i64 (IntKind.i64.wrap (S + n))], .int .i64 v, .int .i64 0]) (by simp [results, Tryd.results36, go_sem, IntWalk.i64_left, rb0 r0a, fun x => rc0 (k := 3) r0a x, rb1 r1a, fun x => rc1 (k := 3) r1a x, rb2 r2a, fun x => rc2 (k := 3) r2a x, rb3 r3a, fun x => rc3 (k := 3) r3a x]) rfl ⟨rfl, ?_⟩
  exact chg_res4 (kk.setCell (p := ⟨w.heap.size, 3, none⟩) (fun h => absurd h (Nat.lt_irrefl _)) _) _ _ _ _
end Go.Proofs.YtpmncndicdlmhaaDoor
