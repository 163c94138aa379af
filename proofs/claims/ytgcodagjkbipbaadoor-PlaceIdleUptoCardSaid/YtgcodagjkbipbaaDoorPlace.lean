/-
  place.Pick by contracts: its two closures, least, Pick; culvertlaw21.may, load and culvertref21.May.
  No condition of its own: the fact 'Sen' on the world; a slice of loads that reads as rows.
-/
import Derived.Test.YtgcodagjkbipbaaDoorCode
import Derived.Test.YtgcodagjkbipbaaDoorRecs
import Derived.Test.YtgcodagjkbipbaaDoorPlPure
import Derived.Deep.QuietTactic
import Derived.BigQuiet
import Derived.Handy
import Derived.Lib.Hide
namespace Go.Proofs.YtgcodagjkbipbaaDoor
open Go.RowKit

def ldV (l : Ld) : Value := .agg #[.bool l.live, .bool l.dr, .int .i64 l.op, .int .i64 l.lf]
def ldC (l : Ld) : Array Value := #[.bool l.live, .bool l.dr, .int .i64 l.op, .int .i64 l.lf]
/-- Field j of load i. -/
def ldF (L : Nat → Ld) (i : Nat) : Nat → Value
  | 0 => .bool (L i).live
  | 1 => .bool (L i).dr
  | 2 => .int .i64 (L i).op
  | _ => .int .i64 (L i).lf
/-- A slice of n loads. -/
abbrev Lds (w : World) (A : Option Addr) (n : Nat) (L : Nat → Ld) : Prop := Rds w A n 4 (ldF L)

theorem Dr.chg {S : Nat → Prop} {w w' : World} (h : Dr w w') : Chg S w w' := by
  obtain ⟨n, rfl⟩ := h
  exact (Chg.refl S w).drewN n

theorem may_eq (lv dr : Bool) (op lf m : Int) : (⟨lv, dr, op, lf⟩ : Ld).may m = (lv && !dr && decide (op < m) && decide (1 ≤ lf)) := rfl

theorem may_any (w : World) (l : Ld) (m : Int) :
    Calls Tryd.prog 42 #[ldV l, .int .i64 m] w fun e w' => e = .returned (.bool (l.may m)) ∧ Chg none_ w w' := by
  obtain ⟨lv, dr, op, lf⟩ := l
  rw [may_eq]
  unfold ldV
  simp only
  cases lv
  · go_enter Tryd.func42, Tryd.ntmps42
    go_wp2
    go_ret
    exact ⟨rfl, (Chg.refl none_ w).alloc _⟩
  · cases dr
    · by_cases h1 : op < m
      · have h1' : decide (op < m) = true := by simp [h1]
        rw [h1']
        clear h1'
        go_enter Tryd.func42, Tryd.ntmps42
        go_wp2
        go_ret
        exact ⟨rfl, (Chg.refl none_ w).alloc _⟩
      · have h1' : decide (op < m) = false := by simp; omega
        have h1'' : m ≤ op := by omega
        rw [h1']
        clear h1' h1
        go_enter Tryd.func42, Tryd.ntmps42
        go_wp2
        go_ret
        exact ⟨rfl, (Chg.refl none_ w).alloc _⟩
    · go_enter Tryd.func42, Tryd.ntmps42
      go_wp2
      go_ret
      exact ⟨rfl, (Chg.refl none_ w).alloc _⟩

theorem rmay_any (w : World) (l : Ld) (m : Int) :
    Calls Tryd.prog 53 #[ldV l, .int .i64 m] w fun e w' => e = .returned (.bool (l.may m)) ∧ Chg none_ w w' := by
  obtain ⟨lv, dr, op, lf⟩ := l
  rw [may_eq]
  unfold ldV
  simp only
  cases lv
  · go_enter Tryd.func53, Tryd.ntmps53
    go_wp2
    go_ret
    exact ⟨rfl, (Chg.refl none_ w).alloc _⟩
  · cases dr
    · by_cases h1 : op < m
      · have h1' : decide (op < m) = true := by simp [h1]
        rw [h1']
        clear h1'
        go_enter Tryd.func53, Tryd.ntmps53
        go_wp2
        go_ret
        exact ⟨rfl, (Chg.refl none_ w).alloc _⟩
      · have h1' : decide (op < m) = false := by simp; omega
        have h1'' : m ≤ op := by omega
        rw [h1']
        clear h1' h1
        go_enter Tryd.func53, Tryd.ntmps53
        go_wp2
        go_ret
        exact ⟨rfl, (Chg.refl none_ w).alloc _⟩
    · go_enter Tryd.func53, Tryd.ntmps53
      go_wp2
      go_ret
      exact ⟨rfl, (Chg.refl none_ w).alloc _⟩

/-- The closure 'less'. -/
theorem less_any (w : World) (x y : Ld) :
    Calls Tryd.prog 52 #[ldV x, ldV y] w fun e w' => e = .returned (.bool (decide (x.op < y.op))) ∧ Chg none_ w w' := by
  unfold ldV
  go_enter Tryd.func52, Tryd.ntmps52
  go_wp2
  go_ret
  exact ⟨rfl, ((Chg.refl none_ w).alloc _).alloc _⟩
theorem load_any (w : World) (x y : Int) :
    Calls Tryd.prog 39 #[.int .i64 x, .int .i64 y] w fun e w' => e = .returned (ldV ⟨true, false, x, y⟩) ∧ Chg none_ w w' := by
  go_enter Tryd.func39, Tryd.ntmps39
  go_wp2
  refine bodyPost_ret (v := ldV ⟨true, false, x, y⟩) (by simp [results, Tryd.results39, go_sem, ldV]) rfl ⟨rfl, ?_⟩
  first | exact Chg.refl none_ w | exact (Chg.refl none_ w).alloc _ | exact ((Chg.refl none_ w).alloc _).alloc _
end Go.Proofs.YtgcodagjkbipbaaDoor
