/-
  culvertlaw14.begin by contract.
  No condition of its own.
-/
import Derived.Test.YtgcodagjkbipbaaDoorIdsNewX
import Derived.Deep.RegionWith
namespace Go.Proofs.YtgcodagjkbipbaaDoor
open Go.RowKit

def whV (cl no : Bool) (k : Int) : Value := .agg #[.bool cl, .bool no, .int .i64 k]
/-- A pointer that lies at n or behind, or nil. -/
def Far (n : Nat) (p : Option Addr) : Prop := ∀ g, p = some ⟨g, 0, none⟩ → n ≤ g
theorem Obj.put {w : World} {p : Option Addr} {s : St} (h : Obj w p s) {b i : Nat} (hb : ∀ g, p = some ⟨g, 0, none⟩ → g ≠ b) (u : Value) : Obj (w.setCell ⟨b, i, none⟩ u) p s :=
  h.chg (chg_cell w b i u) fun c hc hs => by
    obtain ⟨g, e, rfl⟩ := hc
    exact hb _ e hs
theorem Obj.alloc {w : World} {p : Option Addr} {s : St} (h : Obj w p s) (o : Go.Obj) : Obj (w.alloc o) p s := h.keep ((Chg.refl none_ w).alloc o)

set_option maxRecDepth 100000 in
set_option maxHeartbeats 20000000 in
theorem begin_ok {B : Nat} {a : Nat → Addr} (w : World) (hs : Sen B a w) (hp : Par B w) (hB : B ≤ w.heap.size) (cl : Bool) (k : Int) (k0 : 0 ≤ k) (k1 : k ≤ 2147483647) :
    Calls Tryd.prog 24 #[whV cl false k] w fun e w' => ∃ p s, e = .returned (.tuple #[.pointer p, aggS s, .bool true]) ∧ Obj w' p s ∧ Far w.heap.size p ∧ Chg none_ w w' := by
  have e0 : errv a 0 = .nilIface := rfl
  have e2 : errv a 2 = .iface 123 (.pointer (some (a 2))) := rfl
  unfold whV
  have c0 : Chg none_ w ((w.alloc (.cells #[.bool cl, .bool false, .int .i64 k] 49)).alloc (.cells #[.int .i64 0, .int .i64 0, .int .i64 0, .int .i64 0, .int .i64 0] 53)) := ((Chg.refl none_ w).alloc _).alloc _
  have b0 : Is ((w.alloc (.cells #[.bool cl, .bool false, .int .i64 k] 49)).alloc (.cells #[.int .i64 0, .int .i64 0, .int .i64 0, .int .i64 0, .int .i64 0] 53)) w.heap.size 49 #[.bool cl, .bool false, .int .i64 k] := (Is.new w _ _).alloc _
  have z0 : Is ((w.alloc (.cells #[.bool cl, .bool false, .int .i64 k] 49)).alloc (.cells #[.int .i64 0, .int .i64 0, .int .i64 0, .int .i64 0, .int .i64 0] 53)) (w.heap.size + 1) 53 #[.int .i64 0, .int .i64 0, .int .i64 0, .int .i64 0, .int .i64 0] := is_new2 w _ _ _
  go_enter Tryd.func24, Tryd.ntmps24
  go_wp2_with fail
  refine (new_o _ (hp.below (c0.old hB)) cl k k0 k1).mono ?_
  rintro e w1 ⟨g, rfl, hg, o1, k1'⟩
  have hG : w.heap.size + 2 ≤ g := by simpa using hg
  clear hg
  have b1 := b0.chg k1' (fun h => h)
  have z1 := z0.chg k1' (fun h => h)
  have c1 := c0.trans k1'
  clear c0 b0 z0 k1'
  have q0 := b1.at_ 0 _ rfl
  have q2 := b1.at_ 2 _ rfl
  have hl := b1.lt
  go_wp2_with fail
  refine (rnew_o w1 cl k k0 k1).mono ?_
  rintro e w2 ⟨rfl, k2'⟩
  replace o1 := o1.keep k2'
  have b2 := b1.chg k2' (fun h => h)
  have z2 := z1.chg k2' (fun h => h)
  have c2 := c1.trans k2'
  clear c1 b1 z1 k2' hl q0 q2
  have q1 := b2.at_ 1 _ rfl
  have hl := b2.lt
  have hl2 := z2.lt
  have hne : w.heap.size + 1 ≠ w2.heap.size := by omega
  have f0 := z2.frozen 0
  have f1 := z2.frozen 1
  have f2 := z2.frozen 2
  have f3 := z2.frozen 3
  have f4 := z2.frozen 4
  have y0 := z2.at_ 0 _ rfl
  have y1 := z2.at_ 1 _ rfl
  have y2 := z2.at_ 2 _ rfl
  have y3 := z2.at_ 3 _ rfl
  have y4 := z2.at_ 4 _ rfl
  have HZ := Lib.hid z2
  have HC := Lib.hid c2
  have HO := Lib.hid o1
  have HS := Lib.hid (hs.below (c2.old hB))
  clear z2 b2 c2 o1 hs
  have HX : ∀ p s : Int, True := fun _ _ => trivial
  clear HX
  unfold aggS
  generalize hF : (St.new cl k).F = F
  generalize hR : (St.new cl k).R = R
  generalize hX : (St.new cl k).X = X
  generalize hM : (St.new cl k).M = M
  generalize hT : (St.new cl k).T = T
  have HA := Lib.hid (show aggS (St.new cl k) = .agg #[.int .i64 F, .int .i64 R, .int .i64 X, .int .i64 M, .int .i64 T] by unfold aggS; rw [hF, hR, hX, hM, hT])
  clear hF hR hX hM hT
  go_wp2_with fail
  go_region_with (first | (go_at_call 16; refine (code_nil _).mono ?_; rintro e w' ⟨rfl, rfl⟩))
  all_goals (go_wp2_with fail)
  all_goals
    first
      | (have hW := ((((((HZ.out.put 0 (.int .i64 F)).put 1 (.int .i64 R)).put 2 (.int .i64 X)).put 3 (.int .i64 M)).put 4 (.int .i64 T)).alloc (.cells #[.int .i64 F, .int .i64 R, .int .i64 X, .int .i64 M, .int .i64 T] 53))
         have r0 := hW.at_ 0 (.int .i64 F) rfl
         have r1 := hW.at_ 1 (.int .i64 R) rfl
         have r2 := hW.at_ 2 (.int .i64 X) rfl
         have r3 := hW.at_ 3 (.int .i64 M) rfl
         have r4 := hW.at_ 4 (.int .i64 T) rfl
         clear hW
         refine bodyPost_ret (v := .tuple #[.pointer (some ⟨g, 0, none⟩), .agg #[.int .i64 F, .int .i64 R, .int .i64 X, .int .i64 M, .int .i64 T], .bool true]) ?_ rfl ⟨(some ⟨g, 0, none⟩), (St.new cl k), by rw [HA.out], ?_, (fun g' e => by injection e with e; injection e with e _; omega), ?_⟩
         · simp [results, Tryd.results24, go_sem, r0, r1, r2, r3, r4]
         · exact ((((((HO.out.put (fun g' e => by injection e with e; injection e with e _; omega) _).put (fun g' e => by injection e with e; injection e with e _; omega) _).put (fun g' e => by injection e with e; injection e with e _; omega) _).put (fun g' e => by injection e with e; injection e with e _; omega) _).put (fun g' e => by injection e with e; injection e with e _; omega) _).alloc _).drewN 1
         · exact ((((((HC.out.setCell (p := ⟨w.heap.size + 1, 0, none⟩) (fun h => absurd h (Nat.not_lt.2 (Nat.le_succ _))) _).setCell (p := ⟨w.heap.size + 1, 1, none⟩) (fun h => absurd h (Nat.not_lt.2 (Nat.le_succ _))) _).setCell (p := ⟨w.heap.size + 1, 2, none⟩) (fun h => absurd h (Nat.not_lt.2 (Nat.le_succ _))) _).setCell (p := ⟨w.heap.size + 1, 3, none⟩) (fun h => absurd h (Nat.not_lt.2 (Nat.le_succ _))) _).setCell (p := ⟨w.heap.size + 1, 4, none⟩) (fun h => absurd h (Nat.not_lt.2 (Nat.le_succ _))) _).alloc _).drewN 1)
      | (have hW := (((((((HZ.out.alloc (.cells #[.int .i64 F, .int .i64 R, .int .i64 X, .int .i64 M, .int .i64 T] 53)).drewN 1).put 0 (.int .i64 F)).put 1 (.int .i64 R)).put 2 (.int .i64 X)).put 3 (.int .i64 M)).put 4 (.int .i64 T))
         have r0 := hW.at_ 0 (.int .i64 F) rfl
         have r1 := hW.at_ 1 (.int .i64 R) rfl
         have r2 := hW.at_ 2 (.int .i64 X) rfl
         have r3 := hW.at_ 3 (.int .i64 M) rfl
         have r4 := hW.at_ 4 (.int .i64 T) rfl
         clear hW
         refine bodyPost_ret (v := .tuple #[.pointer (some ⟨g, 0, none⟩), .agg #[.int .i64 F, .int .i64 R, .int .i64 X, .int .i64 M, .int .i64 T], .bool true]) ?_ rfl ⟨(some ⟨g, 0, none⟩), (St.new cl k), by rw [HA.out], ?_, (fun g' e => by injection e with e; injection e with e _; omega), ?_⟩
         · simp [results, Tryd.results24, go_sem, r0, r1, r2, r3, r4]
         · exact ((((((HO.out.alloc _).drewN 1).put (fun g' e => by injection e with e; injection e with e _; omega) _).put (fun g' e => by injection e with e; injection e with e _; omega) _).put (fun g' e => by injection e with e; injection e with e _; omega) _).put (fun g' e => by injection e with e; injection e with e _; omega) _).put (fun g' e => by injection e with e; injection e with e _; omega) _
         · exact (((((((HC.out.alloc _).drewN 1).setCell (p := ⟨w.heap.size + 1, 0, none⟩) (fun h => absurd h (Nat.not_lt.2 (Nat.le_succ _))) _).setCell (p := ⟨w.heap.size + 1, 1, none⟩) (fun h => absurd h (Nat.not_lt.2 (Nat.le_succ _))) _).setCell (p := ⟨w.heap.size + 1, 2, none⟩) (fun h => absurd h (Nat.not_lt.2 (Nat.le_succ _))) _).setCell (p := ⟨w.heap.size + 1, 3, none⟩) (fun h => absurd h (Nat.not_lt.2 (Nat.le_succ _))) _).setCell (p := ⟨w.heap.size + 1, 4, none⟩) (fun h => absurd h (Nat.not_lt.2 (Nat.le_succ _))) _))
end Go.Proofs.YtgcodagjkbipbaaDoor
