/-
  culvertlaw10.Pair: two streams of the program, two of the document, which are none.
  No condition.
-/
import Derived.Test.YthalmjjbamglgaaDoorPlG
import Derived.Test.YthalmjjbamglgaaDoorPlB
import Derived.Test.YthalmjjbamglgaaDoorPlQ
namespace Go.Proofs.YthalmjjbamglgaaDoor
open Go.RowKit

theorem rf17 {w : World} {U : Nat → Prop} {s : Sm} {x : Value} (h : Rf w U s x) : ∃ u : List Value, u.length = 17 ∧ x.cells.toList = u ∧ x = .agg u.toArray ∧ u.all (·.oneCell') = true := by
  obtain ⟨c, l, o, A1, n1, k1, A2, n2, k2, rfl, _⟩ := h
  exact ⟨_, rfl, rfl, rfl, rfl⟩

/-- Everything lawful. -/
structure Pri (w : World) (L g : Nat) (T : Nat → Nat → Prop) (p x : Nat → Value) (n : Nat → Bool) (s : Nat → Sm) : Prop where
  im : Is w g 55 (prV p x n)
  hL : L ≤ g
  nil : ∀ i, i < 2 → n i = true → p i = .pointer none
  sl : ∀ i, i < 2 → n i = false → ∃ h, p i = .pointer (some ⟨h, 0, none⟩) ∧ Pst w (T i) h (s i)
  rf : ∀ i, i < 2 → Rf w (fun k => L ≤ k ∧ k ≠ g ∧ ¬ T 0 k ∧ ¬ T 1 k) (s i) (x i)
  d : ∀ k, T 0 k → ¬ T 1 k
  t : ∀ i, i < 2 → ∀ k, T i k → L ≤ k ∧ k ≠ g ∧ k < w.heap.size
def Inv (w : World) (L g : Nat) : Prop := ∃ T p x n s, Pri w L g T p x n s
section
variable {w w' : World} {L g : Nat} {T : Nat → Nat → Prop} {p x : Nat → Value} {n : Nat → Bool} {s : Nat → Sm} {a : Nat}
theorem Pri.x17 (h : Pri w L g T p x n s) : X17 x := fun i hi => rf17 (h.rf i hi)
theorem Pri.keep (h : Pri w L g T p x n s) (hc : Chg none_ w w') : Pri w' L g T p x n s :=
  ⟨h.im.chg hc fun f => f, h.hL, h.nil, fun i hi e => by
    obtain ⟨q, e1, e2⟩ := h.sl i hi e
    exact ⟨q, e1, e2.keep hc⟩, fun i hi => (h.rf i hi).keep hc, h.d, fun i hi k hk => by
    have := h.t i hi k hk
    have := hc.size
    omega⟩
/-- What a call may look at of the document's stream while the program's has gone on. -/
def Us (w w2 : World) (L g : Nat) (T : Nat → Nat → Prop) (k : Nat) : Prop := L ≤ k ∧ k ≠ g ∧ ¬ T 0 k ∧ ¬ T 1 k ∧ (k < w.heap.size ∨ w2.heap.size ≤ k)
theorem Pri.us (h : Pri w L g T p x n s) {w2 : World} (hc : Chg (T a) w w2) (ha : a < 2) : Rf w2 (Us w w2 L g T) (s a) (x a) := by
  refine ((h.rf a ha).more (U' := Us w w2 L g T) fun q hq hu => ⟨hu.1, hu.2.1, hu.2.2.1, hu.2.2.2, .inl hq⟩).chg hc fun q hq hu => ?_
  rcases lt2 ha with rfl | rfl
  · exact hu.2.2.1
  · exact hu.2.2.2.1
theorem Pri.usN (h : Pri w L g T p x n s) {w2 : World} (hc : Chg (T a) w w2) (hg : g < w.heap.size) : ∀ q, w2.heap.size ≤ q → Us w w2 L g T q := fun q hq => by
  have hz := hc.size
  have hL := h.hL
  exact ⟨by omega, by omega, (fun hk => by have := (h.t 0 (by omega) q hk).2.2; omega), (fun hk => by have := (h.t 1 (by omega) q hk).2.2; omega), .inr hq⟩
/-- A step on slot a: the program's stream has run, the document's has followed, the pair was stored. -/
theorem Pri.step {B : Nat} {A : Nat → Addr} (h : Pri w L g T p x n s) (ha : a < 2) {w2 w3 w4 : World} {s' : Sm} {y : Value} (hr : Rn B A w w2 (T a) (n a) (p a) s') (hc : Chg none_ w2 w3) (hg : Chg (fun k => k = g) w3 w4)
    (hx : n a = true → s' = s a ∧ Is w4 g 55 (prV p x n)) (hy : n a = false → Is w4 g 55 (prV p (upd x a y) n) ∧ Rf w3 (Us w w2 L g T) s' y) : Inv w4 L g ∧ Chg (fun k => L ≤ k) w w4 := by
  refine ⟨?_, ((hr.chg.more fun k _ hk => (h.t a ha k hk).1).trans (hc.more fun _ _ f => f.elim)).trans (hg.more fun k _ e => by subst e; exact h.hL)⟩
  have hgl := h.im.lt
  have z2 := hr.chg.size
  have z3 := hc.size
  have z4 := hg.size
  have hTa : ∀ i, i < 2 → i ≠ a → ∀ k, T i k → ¬ T a k := fun i hi hne k h1 h2 => by
    rcases lt2 ha with rfl | rfl
    · rcases lt2 hi with rfl | rfl
      · exact hne rfl
      · exact h.d k h2 h1
    · rcases lt2 hi with rfl | rfl
      · exact h.d k h1 h2
      · exact hne rfl
  have hgT : ∀ i, i < 2 → ¬ T i g := fun i hi hk => (h.t i hi g hk).2.1 rfl
  have hold : ∀ i, i < 2 → i ≠ a → n i = false → ∃ q, p i = .pointer (some ⟨q, 0, none⟩) ∧ Pst w4 (T i) q (s i) := fun i hi hne e => by
    obtain ⟨q, e1, e2⟩ := h.sl i hi e
    exact ⟨q, e1, ((e2.chg hr.chg fun k hk _ => hTa i hi hne k hk).keep hc).chg hg fun k hk _ e => hgT i hi (e ▸ hk)⟩
  cases hn : n a
  · obtain ⟨hi4, hrf⟩ := hy hn
    obtain ⟨q, ep, r⟩ := hr.run hn
    obtain ⟨Tj, r1, r2⟩ := r.ex
    have hj : ∀ k, Tj k → L ≤ k ∧ k ≠ g ∧ k < w2.heap.size := fun k hk => by
      obtain ⟨r3, r4⟩ := r2 k hk
      rcases r3 with r3 | r3
      · have := h.t a ha k r3; exact ⟨this.1, this.2.1, r4⟩
      · have := h.hL; exact ⟨by omega, by omega, r4⟩
    have hju : ∀ k, Us w w2 L g T k → ¬ Tj k := fun k hu hk => by
      obtain ⟨r3, r4⟩ := r2 k hk
      rcases r3 with r3 | r3
      · rcases lt2 ha with rfl | rfl
        · exact hu.2.2.1 r3
        · exact hu.2.2.2.1 r3
      · rcases hu.2.2.2.2 with h5 | h5 <;> omega
    have hjo : ∀ i, i < 2 → i ≠ a → ∀ k, T i k → ¬ Tj k := fun i hi hne k h1 h2 => by
      rcases (r2 k h2).1 with r3 | r3
      · exact hTa i hi hne k h1 r3
      · have := (h.t i hi k h1).2.2; omega
    have hst : Pst w4 Tj q s' := (r1.keep hc).chg hg fun k hk _ e => (hj k hk).2.1 e
    have hU : ∀ k, Us w w2 L g T k → L ≤ k ∧ k ≠ g ∧ ¬ upd T a Tj 0 k ∧ ¬ upd T a Tj 1 k := fun k hu => by
      refine ⟨hu.1, hu.2.1, ?_, ?_⟩
      · rcases lt2 ha with rfl | rfl
        · rw [upd_at]; exact hju k hu
        · rw [upd_ne T Tj (by decide)]; exact hu.2.2.1
      · rcases lt2 ha with rfl | rfl
        · rw [upd_ne T Tj (by decide)]; exact hu.2.2.2.1
        · rw [upd_at]; exact hju k hu
    refine ⟨upd T a Tj, p, upd x a y, n, upd s a s', hi4, h.hL, h.nil, fun i hi e => ?_, fun i hi => ?_, fun k h0 h1 => ?_, fun i hi k hk => ?_⟩
    · by_cases hia : i = a
      · subst hia
        rw [upd_at, upd_at]
        exact ⟨q, ep, hst⟩
      · rw [upd_ne T Tj hia, upd_ne s s' hia]
        exact hold i hi hia e
    · by_cases hia : i = a
      · subst hia
        rw [upd_at, upd_at]
        exact (hrf.chg hg fun k _ hu e => hu.2.1 e).more fun k _ hu => hU k hu
      · rw [upd_ne x y hia, upd_ne s s' hia]
        have h1 : Rf w2 (Us w w2 L g T) (s i) (x i) := ((h.rf i hi).more (U' := Us w w2 L g T) fun q hq hu => ⟨hu.1, hu.2.1, hu.2.2.1, hu.2.2.2, .inl hq⟩).chg hr.chg fun k hk hu => by
          rcases lt2 ha with rfl | rfl
          · exact hu.2.2.1
          · exact hu.2.2.2.1
        exact ((h1.keep hc).chg hg fun k _ hu e => hu.2.1 e).more fun k _ hu => hU k hu
    · rcases lt2 ha with rfl | rfl
      · rw [upd_at] at h0
        rw [upd_ne T Tj (by decide)] at h1
        exact hjo 1 (by omega) (by decide) k h1 h0
      · rw [upd_ne T Tj (by decide)] at h0
        rw [upd_at] at h1
        exact hjo 0 (by omega) (by decide) k h0 h1
    · by_cases hia : i = a
      · subst hia
        rw [upd_at] at hk
        have := hj k hk
        exact ⟨this.1, this.2.1, by omega⟩
      · rw [upd_ne T Tj hia] at hk
        have := h.t i hi k hk
        exact ⟨this.1, this.2.1, by omega⟩
  · obtain ⟨es, hi4⟩ := hx hn
    refine ⟨T, p, x, n, s, hi4, h.hL, h.nil, fun i hi e => ?_, fun i hi => ?_, h.d, fun i hi k hk => ?_⟩
    · by_cases hia : i = a
      · subst hia
        rw [hn] at e
        cases e
      · exact hold i hi hia e
    · have h1 : Rf w2 (fun k => L ≤ k ∧ k ≠ g ∧ ¬ T 0 k ∧ ¬ T 1 k) (s i) (x i) := (h.rf i hi).chg hr.chg fun k hk hu => by
        rcases lt2 ha with rfl | rfl
        · exact hu.2.2.1
        · exact hu.2.2.2
      exact (h1.keep hc).chg hg fun k _ hu e => hu.2.1 e
    · have := h.t i hi k hk
      exact ⟨this.1, this.2.1, by omega⟩
/-- The same where the document's stream is stored in any case. -/
theorem Pri.stepR {B : Nat} {A : Nat → Addr} (h : Pri w L g T p x n s) (ha : a < 2) {w2 w3 w4 : World} {t : Sm} {y : Value} (hr : Rn B A w w2 (T a) (n a) (p a) (nS (n a) (s a) t)) (hc : Chg none_ w2 w3) (hg : Chg (fun k => k = g) w3 w4)
    (hi : Is w4 g 55 (prV p (upd x a y) n)) (hy : Rf w3 (Us w w2 L g T) t y) : Inv w4 L g ∧ Chg (fun k => L ≤ k) w w4 := by
  cases hn : n a
  · have e : nS (n a) (s a) t = t := by rw [hn]; rfl
    rw [e] at hr
    exact h.step ha hr hc hg (fun e => by rw [hn] at e; cases e) (fun _ => ⟨hi, hy⟩)
  · refine ⟨?_, ((hr.chg.more fun k _ hk => (h.t a ha k hk).1).trans (hc.more fun _ _ f => f.elim)).trans (hg.more fun k _ e => by subst e; exact h.hL)⟩
    have z2 := hr.chg.size
    have z3 := hc.size
    have z4 := hg.size
    refine ⟨T, p, upd x a y, n, upd s a t, hi, h.hL, h.nil, fun i hi' e => ?_, fun i hi' => ?_, h.d, fun i hi' k hk => ?_⟩
    · by_cases hia : i = a
      · subst hia
        rw [hn] at e
        cases e
      · obtain ⟨q, e1, e2⟩ := h.sl i hi' e
        rw [upd_ne s t hia]
        refine ⟨q, e1, ((e2.chg hr.chg fun k hk _ hk' => ?_).keep hc).chg hg fun k hk _ e => (h.t i hi' k hk).2.1 e⟩
        rcases lt2 ha with rfl | rfl
        · rcases lt2 hi' with rfl | rfl
          · exact hia rfl
          · exact h.d k hk' hk
        · rcases lt2 hi' with rfl | rfl
          · exact h.d k hk hk'
          · exact hia rfl
    · by_cases hia : i = a
      · subst hia
        rw [upd_at, upd_at]
        exact (hy.chg hg fun k _ hu e => hu.2.1 e).more fun k _ hu => ⟨hu.1, hu.2.1, hu.2.2.1, hu.2.2.2.1⟩
      · rw [upd_ne x y hia, upd_ne s t hia]
        have h1 : Rf w2 (fun k => L ≤ k ∧ k ≠ g ∧ ¬ T 0 k ∧ ¬ T 1 k) (s i) (x i) := (h.rf i hi').chg hr.chg fun k hk hu => by
          rcases lt2 ha with rfl | rfl
          · exact hu.2.2.1
          · exact hu.2.2.2
        exact (h1.keep hc).chg hg fun k _ hu e => hu.2.1 e
    · have := h.t i hi' k hk
      exact ⟨this.1, this.2.1, by omega⟩
end
end Go.Proofs.YthalmjjbamglgaaDoor
