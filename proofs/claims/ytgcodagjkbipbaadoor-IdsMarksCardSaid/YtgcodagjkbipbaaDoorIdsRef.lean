/-
  ids.New and the document's numbers (culvertref14) by contracts.
  No condition of its own.
-/
import Derived.Test.YtgcodagjkbipbaaDoorIdsObj
namespace Go.Proofs.YtgcodagjkbipbaaDoor
open Go.RowKit

/-- The document's numbers as a value. -/
def aggS (s : St) : Value := .agg #[.int .i64 s.F, .int .i64 s.R, .int .i64 s.X, .int .i64 s.M, .int .i64 s.T]
def Sok (s : St) : Prop := s = St.none_ ∨ s.Ok

theorem tops : lowOf true = 1 ∧ lowOf false = 2 ∧ top 1 = 4294967295 ∧ top 2 = 4294967294 := by decide
theorem is_new2 (w : World) (o : Go.Obj) (t : TypeId) (cs : Array Value) : Is ((w.alloc o).alloc (.cells cs t)) (w.heap.size + 1) t cs := by
  have h := Is.new (w.alloc o) t cs
  rwa [show (w.alloc o).heap.size = w.heap.size + 1 by simp] at h

theorem new_o (w : World) {B : Nat} (hp : Par B w) (c : Bool) (k : Int) (k0 : 0 ≤ k) (k1 : k ≤ 2147483647) :
    Calls Tryd.prog 48 #[.bool c, .int .i64 k] w fun e w' => ∃ g, e = .returned (.tuple #[.pointer (some ⟨g, 0, none⟩), .nilIface]) ∧ w.heap.size ≤ g ∧ Obj w' (some ⟨g, 0, none⟩) (St.new c k) ∧ Chg none_ w w' := by
  have p0 := hp.p0
  have p1 := hp.p1
  have p2 := hp.p2
  have p3 := hp.p3
  have hl : 43 < w.heap.size := World.block_lt_of_cell? w _ p0
  clear hp
  have hok := Lib.hid (St.new_ok c k k0 k1)
  cases c
  · go_enter Tryd.func48, Tryd.ntmps48
    go_wp2
    go_ret2
    exact ⟨w.heap.size + 1, rfl, by omega, .inr ⟨hok.out, w.heap.size + 1, rfl, is_new2 w _ _ _⟩, ((Chg.refl none_ w).alloc _).alloc _⟩
  · go_enter Tryd.func48, Tryd.ntmps48
    go_wp2
    go_ret2
    exact ⟨w.heap.size + 1, rfl, by omega, .inr ⟨hok.out, w.heap.size + 1, rfl, is_new2 w _ _ _⟩, ((Chg.refl none_ w).alloc _).alloc _⟩

theorem new_no (w : World) {B : Nat} {a : Nat → Addr} (hs : Sen B a w) (c : Bool) (k : Int) (hk : k < 0 ∨ 2147483647 < k) :
    Calls Tryd.prog 48 #[.bool c, .int .i64 k] w fun e w' => e = .returned (.tuple #[.pointer none, errv a 2]) ∧ Chg none_ w w' := by
  have hc : w.cell? ⟨10, 0, none⟩ = some (.iface 123 (.pointer (some (a 2)))) := hs.cell 2 (by decide) (by decide)
  clear hs
  by_cases h1 : k < 0
  · clear hk
    go_enter Tryd.func48, Tryd.ntmps48
    go_wp2
    go_quiet (fail)
    go_wp2
    go_ret2
    exact ⟨rfl, (Chg.refl none_ w).drewN _⟩
  · have h2 : 2147483647 < k := by omega
    clear hk
    go_enter Tryd.func48, Tryd.ntmps48
    go_wp2
    go_quiet (fail)
    go_wp2
    go_ret2
    exact ⟨rfl, (Chg.refl none_ w).drewN _⟩

theorem rnew_o (w : World) (c : Bool) (k : Int) (k0 : 0 ≤ k) (k1 : k ≤ 2147483647) :
    Calls Tryd.prog 49 #[.bool c, .int .i64 k] w fun e w' => e = .returned (.tuple #[aggS (St.new c k), .int .i64 0]) ∧ Chg none_ w w' := by
  cases c
  · go_enter Tryd.func49, Tryd.ntmps49
    go_wp2
    refine bodyPost_ret (v := .tuple #[aggS (St.new false k), .int .i64 0]) (by simp [results, Tryd.results49, go_sem, aggS, St.new, lowOf]) rfl ⟨rfl, (Chg.refl none_ w).alloc _⟩
  · go_enter Tryd.func49, Tryd.ntmps49
    go_wp2
    refine bodyPost_ret (v := .tuple #[aggS (St.new true k), .int .i64 0]) (by simp [results, Tryd.results49, go_sem, aggS, St.new, lowOf]) rfl ⟨rfl, (Chg.refl none_ w).alloc _⟩

theorem rnew_no (w : World) (c : Bool) (k : Int) (hk : k < 0 ∨ 2147483647 < k) :
    Calls Tryd.prog 49 #[.bool c, .int .i64 k] w fun e w' => e = .returned (.tuple #[aggS St.none_, .int .i64 2]) ∧ Chg none_ w w' := by
  by_cases h1 : k < 0
  · clear hk
    go_enter Tryd.func49, Tryd.ntmps49
    go_wp2
    refine bodyPost_ret (v := .tuple #[aggS St.none_, .int .i64 2]) (by simp [results, Tryd.results49, go_sem, aggS, St.none_]) rfl ⟨rfl, (Chg.refl none_ w).alloc _⟩
  · have h2 : 2147483647 < k := by omega
    clear hk
    go_enter Tryd.func49, Tryd.ntmps49
    go_wp2
    refine bodyPost_ret (v := .tuple #[aggS St.none_, .int .i64 2]) (by simp [results, Tryd.results49, go_sem, aggS, St.none_]) rfl ⟨rfl, (Chg.refl none_ w).alloc _⟩

/-- The numbers' bounds, nil ones too. -/
theorem Sok.bd {s : St} (h : Sok s) : 0 ≤ s.F ∧ s.F ≤ 2 ∧ 0 ≤ s.X ∧ s.X ≤ 4294967297 ∧ 0 ≤ s.R ∧ s.R ≤ 4294967297 ∧ 0 ≤ s.M ∧ s.M ≤ 4294967295 ∧ 0 ≤ s.T ∧ s.T ≤ 4294967295 := by
  rcases h with rfl | h
  · decide
  · have h1 := h.XG
    have h2 := h.R1
    have h3 := h.RX
    have ht : top s.F ≤ 4294967295 := by unfold top; split <;> omega
    refine ⟨?_, ?_, ?_, ?_, ?_, ?_, h.M0, h.M1, h.T0, h.T1⟩ <;> rcases h.F with hF | hF <;> omega

theorem rown_o (w : World) (s : St) (hs : Sok s) (id : Int) (i0 : 0 ≤ id) (i1 : id ≤ 4294967295) :
    Calls Tryd.prog 36 #[aggS s, .int .i64 id] w fun e w' => e = .returned (.bool (owB s id)) ∧ Chg none_ w w' := by
  have hb := hs.bd
  obtain ⟨F, R, X, M, T⟩ := s
  obtain ⟨F0, F1, _, _, _, _, _, _, _, _⟩ := hb
  simp only at F0 F1
  unfold aggS
  by_cases hF : 0 < F
  · have hF' : decide (0 < F) = true := by simp [hF]
    by_cases hi : 0 < id
    · have hi' : decide (0 < id) = true := by simp [hi]
      have e1 : id.tmod 2 = id % 2 := Int.tmod_eq_emod_of_nonneg i0
      have e2 : F.tmod 2 = F % 2 := Int.tmod_eq_emod_of_nonneg F0
      have HF := Lib.hid hF'
      have HI := Lib.hid hi'
      go_enter Tryd.func36, Tryd.ntmps36
      go_wp2
      go_ret
      exact ⟨by unfold owB; rw [HF.out, HI.out]; rfl, (Chg.refl none_ w).alloc _⟩
    · have hi' : decide (0 < id) = false := by simp; omega
      have HF := Lib.hid hF'
      have HI := Lib.hid hi'
      go_enter Tryd.func36, Tryd.ntmps36
      go_wp2
      go_ret
      exact ⟨by unfold owB; rw [HF.out, HI.out]; rfl, (Chg.refl none_ w).alloc _⟩
  · have hF' : decide (0 < F) = false := by simp; omega
    have HF := Lib.hid hF'
    go_enter Tryd.func36, Tryd.ntmps36
    go_wp2
    go_ret
    exact ⟨by unfold owB; rw [HF.out]; rfl, (Chg.refl none_ w).alloc _⟩
end Go.Proofs.YtgcodagjkbipbaaDoor
