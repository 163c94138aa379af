/-
  stream.View and Held by contracts.
  No condition of its own.
-/
import Derived.Test.YthalmjjbamglgaaDoorStrC
import Derived.Deep.RegionHeld3
import Derived.Handy
import Derived.Deep.DeepCutAuto
import Derived.Deep.CutBlock
namespace Go.Proofs.YthalmjjbamglgaaDoor
open Go.RowKit

def vwV (s : Sm) : Value := .agg #[.int .u32 s.id, .int .i64 s.st, .bool s.mine, .bool s.acc, .int .i64 (s.sg.length : Int), .int .u32 (if s.rs || s.ct || s.lo then 0 else s.cr.h), .int .i64 (if s.rs || s.ct || s.li then 0 else s.gr.l), .int .i64 (s.un.length : Int), .int .i64 (if s.rs || s.ct || s.li then 0 else s.gr.o), .bool s.cl, .bool s.td]
/-- The object, in a world that has grown. -/
structure VwS (u : World) (T S1 S2 : Nat → Prop) (g g1 g2 g3 g4 z : Nat) (s : Sm) : Prop where
  po : Pso u T S1 S2 g g1 g2 g3 g4 s
  hz : z ≤ u.heap.size
  hg : g < z
  ht : ∀ k, T k → k < z
/-- What View reads. -/
def VwC (u : World) (g g1 g2 : Nat) (s : Sm) : Prop := u.cell? ⟨g, 0, none⟩ = some (.int .u32 s.id) ∧ u.cell? ⟨g, 1, none⟩ = some (.bool s.mine) ∧ u.cell? ⟨g, 2, none⟩ = some (.bool s.acc) ∧ u.cell? ⟨g, 4, none⟩ = some (.int .i64 s.st) ∧ u.cell? ⟨g, 5, none⟩ = some (.pointer (some ⟨g1, 0, none⟩)) ∧ u.cell? ⟨g, 6, none⟩ = some (.bool s.cl) ∧ u.cell? ⟨g, 9, none⟩ = some (.pointer (some ⟨g2, 0, none⟩)) ∧ u.cell? ⟨g, 11, none⟩ = some (.bool s.td)
section
variable {u u' : World} {T S1 S2 : Nat → Prop} {g g1 g2 g3 g4 z : Nat} {s : Sm}
theorem VwS.cells (h : VwS u T S1 S2 g g1 g2 g3 g4 z s) : VwC u g g1 g2 s := ⟨h.po.im.at_ 0 _ rfl, h.po.im.at_ 1 _ rfl, h.po.im.at_ 2 _ rfl, h.po.im.at_ 4 _ rfl, h.po.im.at_ 5 _ rfl, h.po.im.at_ 6 _ rfl, h.po.im.at_ 9 _ rfl, h.po.im.at_ 11 _ rfl⟩
theorem VwS.both (h : VwS u T S1 S2 g g1 g2 g3 g4 z s) : VwS u T S1 S2 g g1 g2 g3 g4 z s ∧ VwC u g g1 g2 s := ⟨h, h.cells⟩
theorem VwS.r1 (h : VwS u T S1 S2 g g1 g2 g3 g4 z s) : Rgo u S1 g1 s.stage s.sg := h.po.r1
theorem VwS.r2 (h : VwS u T S1 S2 g g1 g2 g3 g4 z s) : Rgo u S2 g2 s.win s.un := h.po.r2
theorem VwS.chg (hc : Chg none_ u u') (h : VwS u T S1 S2 g g1 g2 g3 g4 z s) : VwS u' T S1 S2 g g1 g2 g3 g4 z s := ⟨h.po.keep hc, Nat.le_trans h.hz hc.size, h.hg, h.ht⟩
theorem VwS.alc (h : VwS u T S1 S2 g g1 g2 g3 g4 z s ∧ VwC u g g1 g2 s) (o : Obj) : VwS (u.alloc o) T S1 S2 g g1 g2 g3 g4 z s ∧ VwC (u.alloc o) g g1 g2 s := by
  have h' := VwS.chg ((Chg.refl none_ u).alloc o) h.1
  exact ⟨h', h'.cells⟩
theorem VwS.put (h : VwS u T S1 S2 g g1 g2 g3 g4 z s) {r : Nat} (hr : z ≤ r) (j : Nat) (v : Value) : VwS (u.setCell ⟨r, j, none⟩ v) T S1 S2 g g1 g2 g3 g4 z s := by
  have hc : Chg (fun k => k = r) u (u.setCell ⟨r, j, none⟩ v) := (Chg.refl (fun k => k = r) u).setCell (p := ⟨r, j, none⟩) (fun _ => rfl) _
  exact ⟨h.po.chg hc fun k hk _ e => by have := h.ht k hk; omega, Nat.le_trans h.hz hc.size, h.hg, h.ht⟩
theorem VwS.rc (h : VwS u T S1 S2 g g1 g2 g3 g4 z s) : Rc u (some ⟨g4, 0, none⟩) s.gr := h.po.rc
theorem VwS.both12 (h : VwS u T S1 S2 g g1 g2 g3 g4 z s) : VwS u T S1 S2 g g1 g2 g3 g4 z s ∧ u.cell? ⟨g, 12, none⟩ = some (.pointer (some ⟨g4, 0, none⟩)) := ⟨h, h.po.im.at_ 12 _ rfl⟩
theorem VwS.put12 (h : VwS u T S1 S2 g g1 g2 g3 g4 z s ∧ u.cell? ⟨g, 12, none⟩ = some (.pointer (some ⟨g4, 0, none⟩))) {r : Nat} (hr : z ≤ r) (j : Nat) (v : Value) : VwS (u.setCell ⟨r, j, none⟩ v) T S1 S2 g g1 g2 g3 g4 z s ∧ (u.setCell ⟨r, j, none⟩ v).cell? ⟨g, 12, none⟩ = some (.pointer (some ⟨g4, 0, none⟩)) := (h.1.put hr j v).both12
end
def vwA (s : Sm) (m n : Nat) (c l o : Int) : Array Value := #[.int .u32 s.id, .int .i64 s.st, .bool s.mine, .bool s.acc, .int .i64 (m : Int), .int .u32 c, .int .i64 l, .int .i64 (n : Int), .int .i64 o, .bool s.cl, .bool s.td]
/-- View's two blocks, the object beside them. -/
structure VwR (w u : World) (T S1 S2 : Nat → Prop) (g g1 g2 g3 g4 : Nat) (s : Sm) (r0 r2 m n : Nat) (c l o : Int) : Prop where
  chg : Chg none_ w u
  vs : VwS u T S1 S2 g g1 g2 g3 g4 r0 s
  i2 : Is u r2 58 (vwA s m n c l o)
  i0 : Is u r0 58 #[.int .u32 0, .int .i64 0, .bool false, .bool false, .int .i64 0, .int .u32 0, .int .i64 0, .int .i64 0, .int .i64 0, .bool false, .bool false]
  lt : r0 < r2
  le : w.heap.size ≤ r0
section
variable {w u : World} {T S1 S2 : Nat → Prop} {g g1 g2 g3 g4 r0 r2 m n : Nat} {s : Sm} {c l o : Int}
theorem VwR.dr (h : VwR w u T S1 S2 g g1 g2 g3 g4 s r0 r2 m n c l o) (q : Nat) : VwR w (u.drewN q) T S1 S2 g g1 g2 g3 g4 s r0 r2 m n c l o := ⟨h.chg.drewN q, h.vs.chg ((Chg.refl none_ u).drewN q), h.i2.drewN q, h.i0.drewN q, h.lt, h.le⟩
theorem VwR.put5 (h : VwR w u T S1 S2 g g1 g2 g3 g4 s r0 r2 m n c l o) (x : Int) : VwR w (u.setCell ⟨r2, 5, none⟩ (.int .u32 x)) T S1 S2 g g1 g2 g3 g4 s r0 r2 m n x l o :=
  ⟨h.chg.setCell (p := ⟨r2, 5, none⟩) (fun e => absurd e (by have := h.lt; have := h.le; show ¬ (r2 < w.heap.size); omega)) _, h.vs.put (Nat.le_of_lt h.lt) _ _, h.i2.put 5 _, h.i0.far (p := ⟨r2, 5, none⟩) (Nat.ne_of_lt h.lt) _, h.lt, h.le⟩
theorem VwR.put6 (h : VwR w u T S1 S2 g g1 g2 g3 g4 s r0 r2 m n c l o) (x : Int) : VwR w (u.setCell ⟨r2, 6, none⟩ (.int .i64 x)) T S1 S2 g g1 g2 g3 g4 s r0 r2 m n c x o :=
  ⟨h.chg.setCell (p := ⟨r2, 6, none⟩) (fun e => absurd e (by have := h.lt; have := h.le; show ¬ (r2 < w.heap.size); omega)) _, h.vs.put (Nat.le_of_lt h.lt) _ _, h.i2.put 6 _, h.i0.far (p := ⟨r2, 6, none⟩) (Nat.ne_of_lt h.lt) _, h.lt, h.le⟩
theorem VwR.put8 (h : VwR w u T S1 S2 g g1 g2 g3 g4 s r0 r2 m n c l o) (x : Int) : VwR w (u.setCell ⟨r2, 8, none⟩ (.int .i64 x)) T S1 S2 g g1 g2 g3 g4 s r0 r2 m n c l x :=
  ⟨h.chg.setCell (p := ⟨r2, 8, none⟩) (fun e => absurd e (by have := h.lt; have := h.le; show ¬ (r2 < w.heap.size); omega)) _, h.vs.put (Nat.le_of_lt h.lt) _ _, h.i2.put 8 _, h.i0.far (p := ⟨r2, 8, none⟩) (Nat.ne_of_lt h.lt) _, h.lt, h.le⟩
end
section
set_option maxRecDepth 100000 in
set_option maxHeartbeats 1000000 in
theorem sview_any (w : World) {T : Nat → Prop} {g : Nat} {s : Sm} (h : Pst w T g s) :
    Calls Tryd.prog 20 #[.pointer (some ⟨g, 0, none⟩)] w fun e w' => e = .returned (vwV s) ∧ Chg none_ w w' := by
  obtain ⟨S1, S2, g1, g2, g3, g4, hp⟩ := h.cut
  have hgl := hp.d3.2.2.2.2.2.2.1
  obtain ⟨m, hm⟩ : ∃ m, s.sg.length = m := ⟨_, rfl⟩
  obtain ⟨n, hn⟩ : ∃ n, s.un.length = n := ⟨_, rfl⟩
  have HM := Lib.hid hm
  have HN := Lib.hid hn
  have HV : Hid (∀ u, Chg none_ w u → VwS u (fun k => T k ∧ k < w.heap.size) S1 S2 g g1 g2 g3 g4 w.heap.size s) := fun u hc => ⟨hp.keep hc, hc.size, hgl, fun _ hk => hk.2⟩
  obtain ⟨w1, hw1⟩ : ∃ y, w.alloc (.cells #[.int .u32 0, .int .i64 0, .bool false, .bool false, .int .i64 0, .int .u32 0, .int .i64 0, .int .i64 0, .int .i64 0, .bool false, .bool false] 58) = y := ⟨_, rfl⟩
  have HC1 : Hid (Chg none_ w w1) := by show Chg _ _ _; rw [← hw1]; exact (Chg.refl none_ w).alloc _
  have HI1 : Hid (Is w1 w.heap.size 58 #[.int .u32 0, .int .i64 0, .bool false, .bool false, .int .i64 0, .int .u32 0, .int .i64 0, .int .i64 0, .int .i64 0, .bool false, .bool false]) := by show Is _ _ _ _; rw [← hw1]; exact Is.new w _ _
  have HR2 : Hid (VwR w (w1.alloc (.cells #[.int .u32 s.id, .int .i64 s.st, .bool s.mine, .bool s.acc, .int .i64 (m : Int), .int .u32 0, .int .i64 0, .int .i64 (n : Int), .int .i64 0, .bool s.cl, .bool s.td] 58)).drew (fun k => T k ∧ k < w.heap.size) S1 S2 g g1 g2 g3 g4 s w.heap.size w1.heap.size m n 0 0 0) :=
    ⟨(HC1.out.alloc _).drew, HV.out _ (HC1.out.alloc _).drew, (Is.new w1 _ _).drewN 1, (HI1.out.alloc _).drewN 1, HI1.out.lt, Nat.le_refl _⟩
  clear hp hm hn hgl h
  go_enter Tryd.func20, Tryd.ntmps20
  go_upto_region 3 with fail
  clear hw1
  go_cut [3] (fun v wx => ∃ r2, v = .pointer (some ⟨r2, 0, none⟩) ∧ VwR w wx (fun k => T k ∧ k < w.heap.size) S1 S2 g g1 g2 g3 g4 s w.heap.size r2 m n 0 0 0)
  case first =>
    go_region_held3 (fun u => VwS u (fun k => T k ∧ k < w.heap.size) S1 S2 g g1 g2 g3 g4 w.heap.size s ∧ u.cell? ⟨g, 0, none⟩ = some (.int .u32 s.id) ∧ u.cell? ⟨g, 1, none⟩ = some (.bool s.mine) ∧ u.cell? ⟨g, 2, none⟩ = some (.bool s.acc) ∧ u.cell? ⟨g, 4, none⟩ = some (.int .i64 s.st) ∧ u.cell? ⟨g, 5, none⟩ = some (.pointer (some ⟨g1, 0, none⟩)) ∧ u.cell? ⟨g, 6, none⟩ = some (.bool s.cl) ∧ u.cell? ⟨g, 9, none⟩ = some (.pointer (some ⟨g2, 0, none⟩)) ∧ u.cell? ⟨g, 11, none⟩ = some (.bool s.td))
      (first | assumption | exact VwS.both (HV.out _ HC1.out.drew) | exact VwS.alc (by assumption) _ | exact VwS.both (HV.out _ (HC1.out.alloc _).drew) | exact VwS.both (HV.out _ (HC1.out.drew.alloc _)))
      (first
        | (go_at_call 63; refine (rlen_any _ (VwS.r1 (And.left (by assumption)))).mono ?_; rintro e w' ⟨rfl, rfl⟩; rw [HM.out])
        | (go_at_call 63; refine (rlen_any _ (VwS.r2 (And.left (by assumption)))).mono ?_; rintro e w' ⟨rfl, rfl⟩; rw [HN.out]))
    all_goals
      go_wp2_with fail
      go_meet
      exact ⟨_, rfl, HR2.out⟩
  case rest =>
    obtain ⟨r2, rfl, hR⟩ := hcut
    obtain ⟨w2, rfl⟩ : ∃ y, y = wc := ⟨_, rfl⟩
    have HR := Lib.hid hR
    clear HR2 hR HC1 HI1
    have c7 : w2.cell? ⟨g, 7, none⟩ = some (.bool s.lo) := HR.out.vs.po.im.at_ 7 _ rfl
    have c8 : w2.cell? ⟨g, 8, none⟩ = some (.pointer (some ⟨g3, 0, none⟩)) := HR.out.vs.po.im.at_ 8 _ rfl
    have c13 : w2.cell? ⟨g, 13, none⟩ = some (.bool s.rs) := HR.out.vs.po.im.at_ 13 _ rfl
    have c14 : w2.cell? ⟨g, 14, none⟩ = some (.bool s.ct) := HR.out.vs.po.im.at_ 14 _ rfl
    have k0 : w2.cell? ⟨r2, 0, none⟩ = some (.int .u32 s.id) := HR.out.i2.at_ 0 _ rfl
    have k1 : w2.cell? ⟨r2, 1, none⟩ = some (.int .i64 s.st) := HR.out.i2.at_ 1 _ rfl
    have k2 : w2.cell? ⟨r2, 2, none⟩ = some (.bool s.mine) := HR.out.i2.at_ 2 _ rfl
    have k3 : w2.cell? ⟨r2, 3, none⟩ = some (.bool s.acc) := HR.out.i2.at_ 3 _ rfl
    have k4 : w2.cell? ⟨r2, 4, none⟩ = some (.int .i64 (m : Int)) := HR.out.i2.at_ 4 _ rfl
    have k5 : w2.cell? ⟨r2, 5, none⟩ = some (.int .u32 0) := HR.out.i2.at_ 5 _ rfl
    have k6 : w2.cell? ⟨r2, 6, none⟩ = some (.int .i64 0) := HR.out.i2.at_ 6 _ rfl
    have k7 : w2.cell? ⟨r2, 7, none⟩ = some (.int .i64 (n : Int)) := HR.out.i2.at_ 7 _ rfl
    have k8 : w2.cell? ⟨r2, 8, none⟩ = some (.int .i64 0) := HR.out.i2.at_ 8 _ rfl
    have k9 : w2.cell? ⟨r2, 9, none⟩ = some (.bool s.cl) := HR.out.i2.at_ 9 _ rfl
    have k10 : w2.cell? ⟨r2, 10, none⟩ = some (.bool s.td) := HR.out.i2.at_ 10 _ rfl
    have q0 : w2.cell? ⟨w.heap.size, 0, none⟩ = some (.int .u32 0) := HR.out.i0.at_ 0 _ rfl
    have q1 : w2.cell? ⟨w.heap.size, 1, none⟩ = some (.int .i64 0) := HR.out.i0.at_ 1 _ rfl
    have q2 : w2.cell? ⟨w.heap.size, 2, none⟩ = some (.bool false) := HR.out.i0.at_ 2 _ rfl
    have q3 : w2.cell? ⟨w.heap.size, 3, none⟩ = some (.bool false) := HR.out.i0.at_ 3 _ rfl
    have q4 : w2.cell? ⟨w.heap.size, 4, none⟩ = some (.int .i64 0) := HR.out.i0.at_ 4 _ rfl
    have q5 : w2.cell? ⟨w.heap.size, 5, none⟩ = some (.int .u32 0) := HR.out.i0.at_ 5 _ rfl
    have q6 : w2.cell? ⟨w.heap.size, 6, none⟩ = some (.int .i64 0) := HR.out.i0.at_ 6 _ rfl
    have q7 : w2.cell? ⟨w.heap.size, 7, none⟩ = some (.int .i64 0) := HR.out.i0.at_ 7 _ rfl
    have q8 : w2.cell? ⟨w.heap.size, 8, none⟩ = some (.int .i64 0) := HR.out.i0.at_ 8 _ rfl
    have q9 : w2.cell? ⟨w.heap.size, 9, none⟩ = some (.bool false) := HR.out.i0.at_ 9 _ rfl
    have q10 : w2.cell? ⟨w.heap.size, 10, none⟩ = some (.bool false) := HR.out.i0.at_ 10 _ rfl
    have fz0 : ∀ j, w2.frozen? ⟨w.heap.size, j, none⟩ = false := fun j => HR.out.i0.frozen j
    have fz2 : ∀ j, w2.frozen? ⟨r2, j, none⟩ = false := fun j => HR.out.i2.frozen j
    cases hr : s.rs with
    | true =>
      rw [hr] at c13
      have HVw : Hid (vwV s = .agg #[.int .u32 s.id, .int .i64 s.st, .bool s.mine, .bool s.acc, .int .i64 (m : Int), .int .u32 0, .int .i64 0, .int .i64 (n : Int), .int .i64 0, .bool s.cl, .bool s.td]) := by show _ = _; unfold vwV; rw [hr, HM.out, HN.out]; rfl
      go_wp2_with fail
      refine bodyPost_ret (by simp [results, Tryd.results20, go_sem, q0, q1, q2, q3, q4, q5, q6, q7, q8, q9, q10]; try rfl) rfl ?_
      exact ⟨congrArg Ending.returned HVw.out.symm, (((((((((((HR.out.chg).setCell (p := ⟨w.heap.size, 0, none⟩) (fun h => absurd h (Nat.lt_irrefl _)) _).setCell (p := ⟨w.heap.size, 1, none⟩) (fun h => absurd h (Nat.lt_irrefl _)) _).setCell (p := ⟨w.heap.size, 2, none⟩) (fun h => absurd h (Nat.lt_irrefl _)) _).setCell (p := ⟨w.heap.size, 3, none⟩) (fun h => absurd h (Nat.lt_irrefl _)) _).setCell (p := ⟨w.heap.size, 4, none⟩) (fun h => absurd h (Nat.lt_irrefl _)) _).setCell (p := ⟨w.heap.size, 5, none⟩) (fun h => absurd h (Nat.lt_irrefl _)) _).setCell (p := ⟨w.heap.size, 6, none⟩) (fun h => absurd h (Nat.lt_irrefl _)) _).setCell (p := ⟨w.heap.size, 7, none⟩) (fun h => absurd h (Nat.lt_irrefl _)) _).setCell (p := ⟨w.heap.size, 8, none⟩) (fun h => absurd h (Nat.lt_irrefl _)) _).setCell (p := ⟨w.heap.size, 9, none⟩) (fun h => absurd h (Nat.lt_irrefl _)) _).setCell (p := ⟨w.heap.size, 10, none⟩) (fun h => absurd h (Nat.lt_irrefl _)) _⟩
    | false =>
      rw [hr] at c13
      cases hct : s.ct with
      | true =>
        rw [hct] at c14
        have HVw : Hid (vwV s = .agg #[.int .u32 s.id, .int .i64 s.st, .bool s.mine, .bool s.acc, .int .i64 (m : Int), .int .u32 0, .int .i64 0, .int .i64 (n : Int), .int .i64 0, .bool s.cl, .bool s.td]) := by show _ = _; unfold vwV; rw [hr, hct, HM.out, HN.out]; rfl
        go_wp2_with fail
        refine bodyPost_ret (by simp [results, Tryd.results20, go_sem, q0, q1, q2, q3, q4, q5, q6, q7, q8, q9, q10]; try rfl) rfl ?_
        exact ⟨congrArg Ending.returned HVw.out.symm, (((((((((((HR.out.chg).setCell (p := ⟨w.heap.size, 0, none⟩) (fun h => absurd h (Nat.lt_irrefl _)) _).setCell (p := ⟨w.heap.size, 1, none⟩) (fun h => absurd h (Nat.lt_irrefl _)) _).setCell (p := ⟨w.heap.size, 2, none⟩) (fun h => absurd h (Nat.lt_irrefl _)) _).setCell (p := ⟨w.heap.size, 3, none⟩) (fun h => absurd h (Nat.lt_irrefl _)) _).setCell (p := ⟨w.heap.size, 4, none⟩) (fun h => absurd h (Nat.lt_irrefl _)) _).setCell (p := ⟨w.heap.size, 5, none⟩) (fun h => absurd h (Nat.lt_irrefl _)) _).setCell (p := ⟨w.heap.size, 6, none⟩) (fun h => absurd h (Nat.lt_irrefl _)) _).setCell (p := ⟨w.heap.size, 7, none⟩) (fun h => absurd h (Nat.lt_irrefl _)) _).setCell (p := ⟨w.heap.size, 8, none⟩) (fun h => absurd h (Nat.lt_irrefl _)) _).setCell (p := ⟨w.heap.size, 9, none⟩) (fun h => absurd h (Nat.lt_irrefl _)) _).setCell (p := ⟨w.heap.size, 10, none⟩) (fun h => absurd h (Nat.lt_irrefl _)) _⟩
      | false =>
        rw [hct] at c14
        go_upto_if 57 with fail
        go_cut [] (fun wx => VwR w wx (fun k => T k ∧ k < w.heap.size) S1 S2 g g1 g2 g3 g4 s w.heap.size r2 m n (if s.lo then 0 else s.cr.h) 0 0)
        case first =>
          cases hlo : s.lo with
          | true =>
            rw [hlo] at c7
            go_wp2_with fail
            go_meet
            rw [show (if s.lo = true then (0 : Int) else s.cr.h) = 0 by rw [hlo]; rfl]
            exact HR.out
          | false =>
            rw [hlo] at c7
            go_wp2_with fail
            refine (crhave_any w2 _ _ HR.out.vs.po.cd).mono ?_
            rintro e w' ⟨rfl, rfl⟩
            go_wp2_with fail
            go_meet
            rw [show (if s.lo = true then (0 : Int) else s.cr.h) = s.cr.h by rw [hlo]; rfl]
            exact HR.out.put5 s.cr.h
        case rest =>
          obtain ⟨w3, rfl⟩ : ∃ y, y = wc := ⟨_, rfl⟩
          have HR3 := Lib.hid hcut
          clear hcut c7 c8 c13 c14 k0 q0 k1 q1 k2 q2 k3 q3 k4 q4 k5 q5 k6 q6 k7 q7 k8 q8 k9 q9 k10 q10 fz0 fz2
          have c10 : w3.cell? ⟨g, 10, none⟩ = some (.bool s.li) := HR3.out.vs.po.im.at_ 10 _ rfl
          have k6 : w3.cell? ⟨r2, 6, none⟩ = some (.int .i64 0) := HR3.out.i2.at_ 6 _ rfl
          have k8 : w3.cell? ⟨r2, 8, none⟩ = some (.int .i64 0) := HR3.out.i2.at_ 8 _ rfl
          have fz2 : ∀ j, w3.frozen? ⟨r2, j, none⟩ = false := fun j => HR3.out.i2.frozen j
          go_upto_if 68 with fail
          go_cut [] (fun wx => VwR w wx (fun k => T k ∧ k < w.heap.size) S1 S2 g g1 g2 g3 g4 s w.heap.size r2 m n (if s.lo then 0 else s.cr.h) (if s.li then 0 else s.gr.l) (if s.li then 0 else s.gr.o))
          case first =>
            cases hli : s.li with
            | true =>
              rw [hli] at c10
              go_wp2_with fail
              go_meet
              rw [show (if s.li = true then (0 : Int) else s.gr.l) = 0 by rw [hli]; rfl, show (if s.li = true then (0 : Int) else s.gr.o) = 0 by rw [hli]; rfl]
              exact HR3.out
            | false =>
              rw [hli] at c10
              go_wp2_with fail
              go_region_held3 (fun u => VwS u (fun k => T k ∧ k < w.heap.size) S1 S2 g g1 g2 g3 g4 w.heap.size s ∧ u.cell? ⟨g, 12, none⟩ = some (.pointer (some ⟨g4, 0, none⟩)))
                (first | assumption | exact VwS.both12 (VwS.chg ((Chg.refl none_ _).drew) HR3.out.vs) | exact VwS.put12 (by assumption) (Nat.le_of_lt HR3.out.lt) _ _)
                (first
                  | (go_at_call 65; refine (gleft_any _ _ _ (VwS.rc (And.left (by assumption)))).mono ?_; rintro e w' ⟨rfl, rfl⟩)
                  | (go_at_call 66; refine (gowed_any _ _ _ (VwS.rc (And.left (by assumption)))).mono ?_; rintro e w' ⟨rfl, rfl⟩))
              all_goals
                go_wp2_with fail
                go_meet
                rw [show (if s.li = true then (0 : Int) else s.gr.l) = s.gr.l by rw [hli]; rfl, show (if s.li = true then (0 : Int) else s.gr.o) = s.gr.o by rw [hli]; rfl]
                first
                  | exact ((HR3.out.dr 1).put6 _).put8 _
                  | exact ((HR3.out.dr 1).put8 _).put6 _
                  | exact ((HR3.out.put6 _).put8 _).dr 1
                  | exact ((HR3.out.put8 _).put6 _).dr 1
          case rest =>
            obtain ⟨w4, rfl⟩ : ∃ y, y = wc := ⟨_, rfl⟩
            have HR4 := Lib.hid hcut
            clear hcut c10 k6 k8 fz2
            clear HR3
            have HVw : Hid (vwV s = .agg #[.int .u32 s.id, .int .i64 s.st, .bool s.mine, .bool s.acc, .int .i64 (m : Int), .int .u32 (if s.lo then 0 else s.cr.h), .int .i64 (if s.li then 0 else s.gr.l), .int .i64 (n : Int), .int .i64 (if s.li then 0 else s.gr.o), .bool s.cl, .bool s.td]) := by show _ = _; unfold vwV; rw [hr, hct, HM.out, HN.out]; rfl
            obtain ⟨cc, hcc⟩ : ∃ y, (if s.lo then 0 else s.cr.h) = y := ⟨_, rfl⟩
            obtain ⟨cl, hcl⟩ : ∃ y, (if s.li then 0 else s.gr.l) = y := ⟨_, rfl⟩
            obtain ⟨co, hco⟩ : ∃ y, (if s.li then 0 else s.gr.o) = y := ⟨_, rfl⟩
            rw [hcc, hcl, hco] at HR4 HVw
            clear hcc hcl hco
            have k0 : w4.cell? ⟨r2, 0, none⟩ = some (.int .u32 s.id) := HR4.out.i2.at_ 0 _ rfl
            have k1 : w4.cell? ⟨r2, 1, none⟩ = some (.int .i64 s.st) := HR4.out.i2.at_ 1 _ rfl
            have k2 : w4.cell? ⟨r2, 2, none⟩ = some (.bool s.mine) := HR4.out.i2.at_ 2 _ rfl
            have k3 : w4.cell? ⟨r2, 3, none⟩ = some (.bool s.acc) := HR4.out.i2.at_ 3 _ rfl
            have k4 : w4.cell? ⟨r2, 4, none⟩ = some (.int .i64 (m : Int)) := HR4.out.i2.at_ 4 _ rfl
            have k5 : w4.cell? ⟨r2, 5, none⟩ = some (.int .u32 cc) := HR4.out.i2.at_ 5 _ rfl
            have k6 : w4.cell? ⟨r2, 6, none⟩ = some (.int .i64 cl) := HR4.out.i2.at_ 6 _ rfl
            have k7 : w4.cell? ⟨r2, 7, none⟩ = some (.int .i64 (n : Int)) := HR4.out.i2.at_ 7 _ rfl
            have k8 : w4.cell? ⟨r2, 8, none⟩ = some (.int .i64 co) := HR4.out.i2.at_ 8 _ rfl
            have k9 : w4.cell? ⟨r2, 9, none⟩ = some (.bool s.cl) := HR4.out.i2.at_ 9 _ rfl
            have k10 : w4.cell? ⟨r2, 10, none⟩ = some (.bool s.td) := HR4.out.i2.at_ 10 _ rfl
            have q0 : w4.cell? ⟨w.heap.size, 0, none⟩ = some (.int .u32 0) := HR4.out.i0.at_ 0 _ rfl
            have q1 : w4.cell? ⟨w.heap.size, 1, none⟩ = some (.int .i64 0) := HR4.out.i0.at_ 1 _ rfl
            have q2 : w4.cell? ⟨w.heap.size, 2, none⟩ = some (.bool false) := HR4.out.i0.at_ 2 _ rfl
            have q3 : w4.cell? ⟨w.heap.size, 3, none⟩ = some (.bool false) := HR4.out.i0.at_ 3 _ rfl
            have q4 : w4.cell? ⟨w.heap.size, 4, none⟩ = some (.int .i64 0) := HR4.out.i0.at_ 4 _ rfl
            have q5 : w4.cell? ⟨w.heap.size, 5, none⟩ = some (.int .u32 0) := HR4.out.i0.at_ 5 _ rfl
            have q6 : w4.cell? ⟨w.heap.size, 6, none⟩ = some (.int .i64 0) := HR4.out.i0.at_ 6 _ rfl
            have q7 : w4.cell? ⟨w.heap.size, 7, none⟩ = some (.int .i64 0) := HR4.out.i0.at_ 7 _ rfl
            have q8 : w4.cell? ⟨w.heap.size, 8, none⟩ = some (.int .i64 0) := HR4.out.i0.at_ 8 _ rfl
            have q9 : w4.cell? ⟨w.heap.size, 9, none⟩ = some (.bool false) := HR4.out.i0.at_ 9 _ rfl
            have q10 : w4.cell? ⟨w.heap.size, 10, none⟩ = some (.bool false) := HR4.out.i0.at_ 10 _ rfl
            have fz0 : ∀ j, w4.frozen? ⟨w.heap.size, j, none⟩ = false := fun j => HR4.out.i0.frozen j
            go_wp2_with fail
            refine bodyPost_ret (by simp [results, Tryd.results20, go_sem, q0, q1, q2, q3, q4, q5, q6, q7, q8, q9, q10]; try rfl) rfl ?_
            exact ⟨congrArg Ending.returned HVw.out.symm, (((((((((((HR4.out.chg).setCell (p := ⟨w.heap.size, 0, none⟩) (fun h => absurd h (Nat.lt_irrefl _)) _).setCell (p := ⟨w.heap.size, 1, none⟩) (fun h => absurd h (Nat.lt_irrefl _)) _).setCell (p := ⟨w.heap.size, 2, none⟩) (fun h => absurd h (Nat.lt_irrefl _)) _).setCell (p := ⟨w.heap.size, 3, none⟩) (fun h => absurd h (Nat.lt_irrefl _)) _).setCell (p := ⟨w.heap.size, 4, none⟩) (fun h => absurd h (Nat.lt_irrefl _)) _).setCell (p := ⟨w.heap.size, 5, none⟩) (fun h => absurd h (Nat.lt_irrefl _)) _).setCell (p := ⟨w.heap.size, 6, none⟩) (fun h => absurd h (Nat.lt_irrefl _)) _).setCell (p := ⟨w.heap.size, 7, none⟩) (fun h => absurd h (Nat.lt_irrefl _)) _).setCell (p := ⟨w.heap.size, 8, none⟩) (fun h => absurd h (Nat.lt_irrefl _)) _).setCell (p := ⟨w.heap.size, 9, none⟩) (fun h => absurd h (Nat.lt_irrefl _)) _).setCell (p := ⟨w.heap.size, 10, none⟩) (fun h => absurd h (Nat.lt_irrefl _)) _⟩
end
end Go.Proofs.YthalmjjbamglgaaDoor
