/-
  culvertlaw14.begin by contract: the nil one asked for; and whole.
  No condition of its own.
-/
import Derived.Test.YtgcodagjkbipbaaDoorIdsBegin2
import Derived.Test.YtgcodagjkbipbaaDoorIdsNewX
import Derived.Handy
namespace Go.Proofs.YtgcodagjkbipbaaDoor
open Go.RowKit

theorem rnew_x (w : World) (c : Bool) (k : Int) :
    Calls Tryd.prog 49 #[.bool c, .int .i64 k] w fun e w' => ∃ s er, e = .returned (.tuple #[aggS s, .int .i64 er]) ∧ Chg none_ w w' := by
  by_cases hk : k < 0 ∨ 2147483647 < k
  · exact (rnew_no w c k hk).mono fun e w' h => ⟨_, _, h.1, h.2⟩
  · exact (rnew_o w c k (by omega) (by omega)).mono fun e w' h => ⟨_, _, h.1, h.2⟩

set_option maxRecDepth 100000 in
set_option maxHeartbeats 4000000 in
theorem begin_nil {B : Nat} {a : Nat → Addr} (w : World) (hs : Sen B a w) (hp : Par B w) (hB : B ≤ w.heap.size) (cl : Bool) (k : Int) :
    Calls Tryd.prog 24 #[whV cl true k] w fun e w' => ∃ p s, e = .returned (.tuple #[.pointer p, aggS s, .bool true]) ∧ Obj w' p s ∧ Far w.heap.size p ∧ Chg none_ w w' := by
  unfold whV
  have c0 : Chg none_ w ((w.alloc (.cells #[.bool cl, .bool true, .int .i64 k] 49)).alloc (.cells #[.int .i64 0, .int .i64 0, .int .i64 0, .int .i64 0, .int .i64 0] 53)) := ((Chg.refl none_ w).alloc _).alloc _
  have b0 : Is ((w.alloc (.cells #[.bool cl, .bool true, .int .i64 k] 49)).alloc (.cells #[.int .i64 0, .int .i64 0, .int .i64 0, .int .i64 0, .int .i64 0] 53)) w.heap.size 49 #[.bool cl, .bool true, .int .i64 k] := (Is.new w _ _).alloc _
  have z0 : Is ((w.alloc (.cells #[.bool cl, .bool true, .int .i64 k] 49)).alloc (.cells #[.int .i64 0, .int .i64 0, .int .i64 0, .int .i64 0, .int .i64 0] 53)) (w.heap.size + 1) 53 #[.int .i64 0, .int .i64 0, .int .i64 0, .int .i64 0, .int .i64 0] := is_new2 w _ _ _
  go_enter Tryd.func24, Tryd.ntmps24
  go_wp2_with fail
  refine (new_x _ (hs.below (c0.old hB)) (hp.below (c0.old hB)) cl k).mono ?_
  rintro e w1 ⟨p1, er1, rfl, k1'⟩
  have b1 := b0.chg k1' (fun h => h)
  have z1 := z0.chg k1' (fun h => h)
  have c1 := c0.trans k1'
  clear c0 b0 z0 k1'
  have q0 := b1.at_ 0 _ rfl
  have q2 := b1.at_ 2 _ rfl
  have hl := b1.lt
  go_wp2_with fail
  refine (rnew_x w1 cl k).mono ?_
  rintro e w2 ⟨⟨F, R, X, M, T⟩, er2, rfl, k2'⟩
  have b2 := b1.chg k2' (fun h => h)
  have z2 := z1.chg k2' (fun h => h)
  have c2 := c1.trans k2'
  clear c1 b1 z1 k2' hl q0 q2
  have q1 := b2.at_ 1 _ rfl
  have hl := b2.lt
  have hl2 := z2.lt
  have hne : w.heap.size + 1 ≠ w2.heap.size := by omega
  have f0 := z2.frozen 0
  have f1 := z2.frozen 1
  have f2 := z2.frozen 2
  have f3 := z2.frozen 3
  have f4 := z2.frozen 4
  have y0 := z2.at_ 0 _ rfl
  have y1 := z2.at_ 1 _ rfl
  have y2 := z2.at_ 2 _ rfl
  have y3 := z2.at_ 3 _ rfl
  have y4 := z2.at_ 4 _ rfl
  have HZ := Lib.hid z2
  have HC := Lib.hid c2
  clear z2 b2 c2
  unfold aggS
  go_wp2_with fail
  have hW := ((((((HZ.out.put 0 (.int .i64 0)).put 1 (.int .i64 0)).put 2 (.int .i64 0)).put 3 (.int .i64 0)).put 4 (.int .i64 0)).alloc (.cells #[.int .i64 F, .int .i64 R, .int .i64 X, .int .i64 M, .int .i64 T] 53))
  have r0 := hW.at_ 0 (.int .i64 0) rfl
  have r1 := hW.at_ 1 (.int .i64 0) rfl
  have r2 := hW.at_ 2 (.int .i64 0) rfl
  have r3 := hW.at_ 3 (.int .i64 0) rfl
  have r4 := hW.at_ 4 (.int .i64 0) rfl
  clear hW
  refine bodyPost_ret (v := .tuple #[.pointer none, aggS St.none_, .bool true]) ?_ rfl ⟨none, St.none_, rfl, .inl ⟨rfl, rfl⟩, (fun g e => by cases e), ?_⟩
  · simp [results, Tryd.results24, go_sem, r0, r1, r2, r3, r4, aggS, St.none_]
  · exact ((((((HC.out.setCell (p := ⟨w.heap.size + 1, 0, none⟩) (fun h => absurd h (Nat.not_lt.2 (Nat.le_succ _))) _).setCell (p := ⟨w.heap.size + 1, 1, none⟩) (fun h => absurd h (Nat.not_lt.2 (Nat.le_succ _))) _).setCell (p := ⟨w.heap.size + 1, 2, none⟩) (fun h => absurd h (Nat.not_lt.2 (Nat.le_succ _))) _).setCell (p := ⟨w.heap.size + 1, 3, none⟩) (fun h => absurd h (Nat.not_lt.2 (Nat.le_succ _))) _).setCell (p := ⟨w.heap.size + 1, 4, none⟩) (fun h => absurd h (Nat.not_lt.2 (Nat.le_succ _))) _).alloc _)

theorem begin_any {B : Nat} {a : Nat → Addr} (w : World) (hs : Sen B a w) (hp : Par B w) (hB : B ≤ w.heap.size) (cl no : Bool) (k : Int) :
    Calls Tryd.prog 24 #[whV cl no k] w fun e w' => ∃ p s, e = .returned (.tuple #[.pointer p, aggS s, .bool true]) ∧ Obj w' p s ∧ Far w.heap.size p ∧ Chg none_ w w' := by
  cases no
  · by_cases hk : k < 0 ∨ 2147483647 < k
    · exact begin_no w hs hB cl k hk
    · exact begin_ok w hs hp hB cl k (by omega) (by omega)
  · exact begin_nil w hs hp hB cl k
end Go.Proofs.YtgcodagjkbipbaaDoor
