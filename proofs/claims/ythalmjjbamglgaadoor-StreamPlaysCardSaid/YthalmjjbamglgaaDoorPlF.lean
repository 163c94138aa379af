/-
  culvertlaw10.cfg by contract; the pair behind a new stream, behind a nil one.
  No condition.
-/
import Derived.Test.YthalmjjbamglgaaDoorPlP
import Derived.Test.YthalmjjbamglgaaDoorPlT
namespace Go.Proofs.YthalmjjbamglgaaDoor
open Go.RowKit
set_option linter.unusedSimpArgs false
set_option linter.unusedVariables false

theorem szCf : (Tryd.prog.info? 43).map (·.size) = some 8 := by kernel_rfl
theorem isn2X (w : World) (x : Obj) (t : TypeId) (cs : Array Value) : Is ((w.alloc x).alloc (.cells cs t)) (w.heap.size + 1) t cs := by
  have h := Is.new (w.alloc x) t cs
  rwa [show (w.alloc x).heap.size = w.heap.size + 1 by simp] at h
set_option maxRecDepth 100000 in
set_option maxHeartbeats 2000000 in
theorem cfg_any (kd xx nn : Int) (A2 : Option Addr) (len cap : Nat) (dl : Int) (fl : Bool) (c0 c1 c2 c3 c4 c5 c6 c7 : Int) :
    ∃ d0 d1 d2 d3 d4 d5 d6 d7 : Int, ∀ w, Calls Tryd.prog 51 #[.agg #[.int .i64 kd, .int .i64 xx, .int .i64 nn, .slice A2 len cap, .int .u32 dl, .bool fl, .int .i64 c0, .int .i64 c1, .int .i64 c2, .int .i64 c3, .int .i64 c4, .int .i64 c5, .int .i64 c6, .int .i64 c7]] w fun e w' => e = .returned (.agg #[.int .i64 d0, .int .i64 d1, .int .i64 d2, .int .i64 d3, .int .i64 d4, .int .i64 d5, .int .i64 d6, .int .i64 d7]) ∧ Chg none_ w w' := by
  by_cases hz : c0 = 0 ∧ c1 = 0 ∧ c2 = 0 ∧ c3 = 0 ∧ c4 = 0 ∧ c5 = 0 ∧ c6 = 0 ∧ c7 = 0
  · obtain ⟨rfl, rfl, rfl, rfl, rfl, rfl, rfl, rfl⟩ := hz
    refine ⟨4, 6, 3, 0, 0, 0, 0, 0, fun w => ?_⟩
    go_enter Tryd.func51, Tryd.ntmps51
    go_wp2_with fail
    refine (small_any _).mono ?_
    rintro e w1 ⟨rfl, k1⟩
    have i1 : Is w1 (w.heap.size + 1) 43 _ := (isn2X w _ 43 _).chg k1 fun f => f
    have K1 := Lib.hid k1
    have I1 := Lib.hid i1
    clear k1 i1
    rw [show cfgV 4 6 3 = .agg #[.int .i64 4, .int .i64 6, .int .i64 3, .int .i64 0, .int .i64 0, .int .i64 0, .int .i64 0, .int .i64 0] from rfl]
    go_wp2_with (refine wpList_store_part rfl 43 _ _ rfl (w.heap.size + 1) 0 rfl (.agg #[.int .i64 4, .int .i64 6, .int .i64 3, .int .i64 0, .int .i64 0, .int .i64 0, .int .i64 0, .int .i64 0]) rfl [.int .i64 4, .int .i64 6, .int .i64 3, .int .i64 0, .int .i64 0, .int .i64 0, .int .i64 0, .int .i64 0] I1.out rfl (Nat.le_refl 8) rfl szCf _ rfl ?_)
    intro w2 hi2 hc2
    go_wp2
    refine bodyPost_ret (results_c1 rfl _ rfl hi2 Tryd.underlying43 rfl szCf) rfl ?_
    exact ⟨rfl, (((Chg.refl none_ w).alloc _).alloc _ |>.trans K1.out).then hc2 fun k hk e => by omega⟩
  · refine ⟨c0, c1, c2, c3, c4, c5, c6, c7, fun w => ?_⟩
    have HZ := Lib.hid hz
    clear hz
    go_enter Tryd.func51, Tryd.ntmps51
    go_wp2_with fail
    all_goals subst_vars
    all_goals first
      | exact absurd ⟨rfl, rfl, rfl, rfl, rfl, rfl, rfl, rfl⟩ HZ.out
      | (refine bodyPost_ret (by simp [results, Tryd.results51, go_sem]; try rfl) rfl ?_
         exact ⟨rfl, ((Chg.refl none_ w).alloc _).alloc _⟩)

theorem put_one (cs : Array Value) (i : Nat) (v : Value) (h : i < cs.size) : (cs.toList.take i ++ [v] ++ cs.toList.drop (i + [v].length)).toArray = cs.setIfInBounds i v := by
  apply Array.toList_inj.1
  rw [Array.toList_setIfInBounds, List.set_eq_take_append_cons_drop, if_pos (by simpa using h)]
  simp
section
variable {w : World} {L g : Nat} {T : Nat → Nat → Prop} {p x : Nat → Value} {n : Nat → Bool} {s : Nat → Sm} {a : Nat}
/-- A new stream in slot a. -/
theorem Pri.fresh (h : Pri w L g T p x n s) (ha : a < 2) {w1 w2 : World} {q : Nat} {s' : Sm} {y : Value} (hp : Pst w1 (fun k => w.heap.size ≤ k) q s') (c1 : Chg none_ w w1) (hg : Chg (fun k => k = g) w1 w2) (hy : ∀ u U, Rf u U s' y)
    (hi : Is w2 g 55 (prV (upd p a (.pointer (some ⟨q, 0, none⟩))) (upd x a y) (upd n a false))) : Inv w2 L g ∧ Chg (fun k => L ≤ k) w w2 := by
  have hgl := h.im.lt
  have hL := h.hL
  have z1 := c1.size
  have z2 := hg.size
  refine ⟨⟨upd T a (fun k => w.heap.size ≤ k ∧ k < w1.heap.size), _, _, _, upd s a s', hi, hL, fun i hi' e => ?_, fun i hi' e => ?_, fun i hi' => ?_, fun k h0 h1 => ?_, fun i hi' k hk => ?_⟩, (c1.more fun _ _ f => f.elim).trans (hg.more fun k _ e => by subst e; exact hL)⟩
  · by_cases hia : i = a
    · subst hia
      rw [upd_at] at e
      cases e
    · rw [upd_ne n false hia] at e
      rw [upd_ne p _ hia]
      exact h.nil i hi' e
  · by_cases hia : i = a
    · subst hia
      rw [upd_at, upd_at, upd_at]
      exact ⟨q, rfl, hp.cut.chg hg fun k hk _ e => by omega⟩
    · rw [upd_ne n false hia] at e
      rw [upd_ne p _ hia, upd_ne T _ hia, upd_ne s s' hia]
      obtain ⟨r, e1, e2⟩ := h.sl i hi' e
      exact ⟨r, e1, (e2.keep c1).chg hg fun k hk _ e => (h.t i hi' k hk).2.1 e⟩
  · have hU : ∀ k, k < w.heap.size → (L ≤ k ∧ k ≠ g ∧ ¬ T 0 k ∧ ¬ T 1 k) → L ≤ k ∧ k ≠ g ∧ ¬ upd T a (fun k => w.heap.size ≤ k ∧ k < w1.heap.size) 0 k ∧ ¬ upd T a (fun k => w.heap.size ≤ k ∧ k < w1.heap.size) 1 k := fun k hk hu => by
      refine ⟨hu.1, hu.2.1, ?_, ?_⟩
      · by_cases h0 : (0 : Nat) = a
        · subst h0; rw [upd_at]; omega
        · rw [upd_ne T _ h0]; exact hu.2.2.1
      · by_cases h0 : (1 : Nat) = a
        · subst h0; rw [upd_at]; omega
        · rw [upd_ne T _ h0]; exact hu.2.2.2
    by_cases hia : i = a
    · subst hia
      rw [upd_at, upd_at]
      exact hy _ _
    · rw [upd_ne x y hia, upd_ne s s' hia]
      exact (((h.rf i hi').more hU).keep c1).chg hg fun k _ hu e => hu.2.1 e
  · rcases lt2 ha with rfl | rfl
    · rw [upd_at] at h0
      rw [upd_ne T _ (by decide)] at h1
      have := (h.t 1 (by omega) k h1).2.2
      omega
    · rw [upd_ne T _ (by decide)] at h0
      rw [upd_at] at h1
      have := (h.t 0 (by omega) k h0).2.2
      omega
  · by_cases hia : i = a
    · subst hia
      rw [upd_at] at hk
      exact ⟨by omega, by omega, by omega⟩
    · rw [upd_ne T _ hia] at hk
      have := h.t i hi' k hk
      exact ⟨this.1, this.2.1, by omega⟩
/-- Slot a becomes none. -/
theorem Pri.tonil (h : Pri w L g T p x n s) (ha : a < 2) {w2 : World} (hg : Chg (fun k => k = g) w w2) (hi : Is w2 g 55 (prV (upd p a (.pointer none)) x (upd n a true))) : Inv w2 L g ∧ Chg (fun k => L ≤ k) w w2 := by
  have z2 := hg.size
  refine ⟨⟨T, _, _, _, s, hi, h.hL, fun i hi' e => ?_, fun i hi' e => ?_, fun i hi' => ?_, h.d, fun i hi' k hk => ?_⟩, hg.more fun k _ e => by subst e; exact h.hL⟩
  · by_cases hia : i = a
    · subst hia
      rw [upd_at]
    · rw [upd_ne n true hia] at e
      rw [upd_ne p _ hia]
      exact h.nil i hi' e
  · by_cases hia : i = a
    · subst hia
      rw [upd_at] at e
      cases e
    · rw [upd_ne n true hia] at e
      rw [upd_ne p _ hia]
      obtain ⟨r, e1, e2⟩ := h.sl i hi' e
      exact ⟨r, e1, e2.chg hg fun k hk _ e => (h.t i hi' k hk).2.1 e⟩
  · exact (h.rf i hi').chg hg fun k _ hu e => hu.2.1 e
  · have := h.t i hi' k hk
    exact ⟨this.1, this.2.1, by omega⟩
end
end Go.Proofs.YthalmjjbamglgaaDoor
