/-
  A stream as a model, and the object that holds it.
  No condition.
-/
import Derived.Test.YthalmjjbamglgaaDoorG3
import Derived.Test.YthalmjjbamglgaaDoorG4
import Derived.Test.YthalmjjbamglgaaDoorStNext
namespace Go.Proofs.YthalmjjbamglgaaDoor
open Go.RowKit

structure Sm where
  (id : Int) (mine acc : Bool) (frame : Nat) (sg : List Int) (stage : Nat) (cl lo : Bool) (cr : Cr) (un : List Int) (li td : Bool) (gr : Gr) (rs ct : Bool)
def Sm.win (s : Sm) : Nat := s.gr.W.toNat
def stOf (mine acc lo li rs : Bool) : Int := if rs then 7 else if lo then (if li then 6 else 4) else if li then 5 else if acc then 3 else if mine then 1 else 2
def Sm.st (s : Sm) : Int := stOf s.mine s.acc s.lo s.li s.rs
structure Sm.Ok (s : Sm) : Prop where
  id1 : 1 ≤ s.id
  id2 : s.id ≤ 4294967295
  f1 : 1 ≤ s.frame
  f2 : s.frame ≤ 65536
  g2 : s.stage ≤ 1048576
  cr : s.cr.Ok
  gr : s.gr.Ok
  W : s.cr.W = s.gr.W
  un : s.li = false → s.ct = false → s.rs = false → s.gr.u = s.un.length
def smC (s : Sm) (g1 g2 g3 g4 : Nat) : Array Value :=
  #[.int .u32 s.id, .bool s.mine, .bool s.acc, .int .i64 (s.frame : Int), .int .i64 s.st, .pointer (some ⟨g1, 0, none⟩), .bool s.cl, .bool s.lo, .pointer (some ⟨g3, 0, none⟩), .pointer (some ⟨g2, 0, none⟩), .bool s.li, .bool s.td, .pointer (some ⟨g4, 0, none⟩), .bool s.rs, .bool s.ct]
structure Pso (w : World) (T S1 S2 : Nat → Prop) (g g1 g2 g3 g4 : Nat) (s : Sm) : Prop where
  im : Is w g 129 (smC s g1 g2 g3 g4)
  r1 : Rgo w S1 g1 s.stage s.sg
  r2 : Rgo w S2 g2 s.win s.un
  cd : Cd w (some ⟨g3, 0, none⟩) s.cr
  rc : Rc w (some ⟨g4, 0, none⟩) s.gr
  d1 : ∀ k, S1 k → ¬ S2 k ∧ k ≠ g ∧ k ≠ g3 ∧ k ≠ g4 ∧ T k ∧ k < w.heap.size
  d2 : ∀ k, S2 k → k ≠ g ∧ k ≠ g3 ∧ k ≠ g4 ∧ T k ∧ k < w.heap.size
  d3 : g ≠ g3 ∧ g ≠ g4 ∧ g3 ≠ g4 ∧ T g ∧ T g3 ∧ T g4 ∧ g < w.heap.size ∧ g3 < w.heap.size ∧ g4 < w.heap.size
  ok : s.Ok
/-- The stream behind block g, all of it within T. -/
def Pst (w : World) (T : Nat → Prop) (g : Nat) (s : Sm) : Prop := ∃ S1 S2 g1 g2 g3 g4, Pso w T S1 S2 g g1 g2 g3 g4 s

section
variable {w w' : World} {T S1 S2 X : Nat → Prop} {g g1 g2 g3 g4 : Nat} {s : Sm}
theorem Pso.chg (h : Pso w T S1 S2 g g1 g2 g3 g4 s) (hc : Chg X w w') (hX : ∀ k, T k → k < w.heap.size → ¬ X k) : Pso w' T S1 S2 g g1 g2 g3 g4 s := by
  have hz := hc.size
  have hc' : Chg (fun k => X k ∧ k < w.heap.size) w w' := hc.more fun k hk hk' => ⟨hk', hk⟩
  have hn : ∀ k, T k → ¬ (X k ∧ k < w.heap.size) := fun k ht hx => hX k ht hx.2 hx.1
  obtain ⟨e1, e2, e3, t0, t3, t4, l0, l3, l4⟩ := h.d3
  exact ⟨h.im.chg hc' (hn g t0), h.r1.chg hc' fun k hk => hn k (h.d1 k hk).2.2.2.2.1, h.r2.chg hc' fun k hk => hn k (h.d2 k hk).2.2.2.1,
    h.cd.chg hc' fun b ⟨q, hq, hb⟩ => by cases hq; subst hb; exact hn _ t3, h.rc.chg hc' fun b ⟨q, hq, hb⟩ => by cases hq; subst hb; exact hn _ t4,
    fun k hk => by have := h.d1 k hk; exact ⟨this.1, this.2.1, this.2.2.1, this.2.2.2.1, this.2.2.2.2.1, by omega⟩, fun k hk => by have := h.d2 k hk; exact ⟨this.1, this.2.1, this.2.2.1, this.2.2.2.1, by omega⟩, ⟨e1, e2, e3, t0, t3, t4, by omega, by omega, by omega⟩, h.ok⟩
theorem Pso.keep (h : Pso w T S1 S2 g g1 g2 g3 g4 s) (hc : Chg none_ w w') : Pso w' T S1 S2 g g1 g2 g3 g4 s := h.chg hc fun _ _ _ f => f
/-- A store into the object. -/
theorem Pso.set (h : Pso w T S1 S2 g g1 g2 g3 g4 s) (i : Nat) (v : Value) (s' : Sm) (hs : smC s' g1 g2 g3 g4 = (smC s g1 g2 g3 g4).setIfInBounds i v) (e1 : s'.sg = s.sg) (e2 : s'.un = s.un) (e3 : s'.cr = s.cr) (e4 : s'.gr = s.gr) (e5 : s'.stage = s.stage) (ok : s'.Ok) :
    Pso (w.setCell ⟨g, i, none⟩ v) T S1 S2 g g1 g2 g3 g4 s' := by
  have hc : Chg (fun k => k = g) w (w.setCell ⟨g, i, none⟩ v) := (Chg.refl (fun k => k = g) w).setCell (p := ⟨g, i, none⟩) (fun _ => rfl) _
  have hz := hc.size
  obtain ⟨n1, n2, n3, t0, t3, t4, l0, l3, l4⟩ := h.d3
  have ew : s'.win = s.win := by unfold Sm.win; rw [e4]
  refine ⟨by rw [hs]; exact h.im.put i v, by rw [e1, e5]; exact h.r1.chg hc fun k hk => (h.d1 k hk).2.1, by rw [e2, ew]; exact h.r2.chg hc fun k hk => (h.d2 k hk).1,
    by rw [e3]; exact h.cd.chg hc fun b ⟨q, hq, hb⟩ => by cases hq; subst hb; exact fun e => n1 e.symm, by rw [e4]; exact h.rc.chg hc fun b ⟨q, hq, hb⟩ => by cases hq; subst hb; exact fun e => n2 e.symm,
    fun k hk => by have := h.d1 k hk; exact ⟨this.1, this.2.1, this.2.2.1, this.2.2.2.1, this.2.2.2.2.1, by omega⟩, fun k hk => by have := h.d2 k hk; exact ⟨this.1, this.2.1, this.2.2.1, this.2.2.2.1, by omega⟩, ⟨n1, n2, n3, t0, t3, t4, by omega, by omega, by omega⟩, ok⟩
theorem smC_st (s s' : Sm) (h1 : s'.id = s.id) (h2 : s'.mine = s.mine) (h3 : s'.acc = s.acc) (h4 : s'.frame = s.frame) (h5 : s'.st = s.st) (h6 : s'.cl = s.cl) (h7 : s'.lo = s.lo) (h8 : s'.li = s.li) (h9 : s'.td = s.td) (h10 : s'.rs = s.rs) (h11 : s'.ct = s.ct) : smC s' g1 g2 g3 g4 = smC s g1 g2 g3 g4 := by
  unfold smC
  rw [h1, h2, h3, h4, h5, h6, h7, h8, h9, h10, h11]
/-- The first ring anew. -/
theorem Pso.ring1 {S1' : Nat → Prop} {sg' : List Int} (h : Pso w T S1 S2 g g1 g2 g3 g4 s) (hT : ∀ k, w.heap.size ≤ k → T k) (hr : Rgo w' S1' g1 s.stage sg') (hc : Chg S1 w w') (hS : ∀ k, S1' k → S1 k ∨ w.heap.size ≤ k ∧ k < w'.heap.size) :
    Pso w' T S1' S2 g g1 g2 g3 g4 { s with sg := sg' } := by
  have hz := hc.size
  obtain ⟨n1, n2, n3, t0, t3, t4, l0, l3, l4⟩ := h.d3
  refine ⟨h.im.chg hc fun e => (h.d1 g e).2.1 rfl, hr, h.r2.chg hc fun k hk e => (h.d1 k e).1 hk, h.cd.chg hc fun b ⟨q, hq, hb⟩ => by cases hq; subst hb; exact fun e => (h.d1 _ e).2.2.1 rfl, h.rc.chg hc fun b ⟨q, hq, hb⟩ => by cases hq; subst hb; exact fun e => (h.d1 _ e).2.2.2.1 rfl,
    fun k hk => ?_, fun k hk => by have := h.d2 k hk; exact ⟨this.1, this.2.1, this.2.2.1, this.2.2.2.1, by omega⟩, ⟨n1, n2, n3, t0, t3, t4, by omega, by omega, by omega⟩, ⟨h.ok.id1, h.ok.id2, h.ok.f1, h.ok.f2, h.ok.g2, h.ok.cr, h.ok.gr, h.ok.W, h.ok.un⟩⟩
  rcases hS k hk with h' | h'
  · have := h.d1 k h'
    exact ⟨this.1, this.2.1, this.2.2.1, this.2.2.2.1, this.2.2.2.2.1, by omega⟩
  · exact ⟨fun e => by have := (h.d2 k e).2.2.2.2; omega, by omega, by omega, by omega, hT k h'.1, h'.2⟩
/-- The second ring and the receiver's counts anew. -/
theorem Pso.ring2 {S2' : Nat → Prop} {un' : List Int} (h : Pso w T S1 S2 g g1 g2 g3 g4 s) (hT : ∀ k, w.heap.size ≤ k → T k) (hr : Rgo w' S2' g2 s.win un') (hc : Chg (fun k => S2 k ∨ k = g4) w w') (hS : ∀ k, S2' k → S2 k ∨ w.heap.size ≤ k ∧ k < w'.heap.size) (gr' : Gr) (hg : Rc w' (some ⟨g4, 0, none⟩) gr') (hW : gr'.W = s.gr.W) (ok : ({ s with un := un', gr := gr' } : Sm).Ok) :
    Pso w' T S1 S2' g g1 g2 g3 g4 { s with un := un', gr := gr' } := by
  have hz := hc.size
  obtain ⟨n1, n2, n3, t0, t3, t4, l0, l3, l4⟩ := h.d3
  have hn : ∀ k, (S2 k ∨ k = g4) → ¬ S1 k ∧ k ≠ g ∧ k ≠ g3 := fun k hk => by
    rcases hk with hk | hk
    · exact ⟨fun e => (h.d1 k e).1 hk, (h.d2 k hk).1, (h.d2 k hk).2.1⟩
    · subst hk; exact ⟨fun e => (h.d1 _ e).2.2.2.1 rfl, fun e => n2 e.symm, fun e => n3 e.symm⟩
  refine ⟨h.im.chg hc fun e => (hn g e).2.1 rfl, h.r1.chg hc fun k hk e => (hn k e).1 hk, by unfold Sm.win; rw [hW]; exact hr, h.cd.chg hc fun b ⟨q, hq, hb⟩ => by cases hq; subst hb; exact fun e => (hn _ e).2.2 rfl, hg,
    fun k hk => ?_, fun k hk => ?_, ⟨n1, n2, n3, t0, t3, t4, by omega, by omega, by omega⟩, ok⟩
  · have := h.d1 k hk
    refine ⟨fun e => ?_, this.2.1, this.2.2.1, this.2.2.2.1, this.2.2.2.2.1, by omega⟩
    rcases hS k e with h' | h'
    · exact this.1 h'
    · omega
  · rcases hS k hk with h' | h'
    · have := h.d2 k h'
      exact ⟨this.1, this.2.1, this.2.2.1, this.2.2.2.1, by omega⟩
    · exact ⟨by omega, by omega, by omega, hT k h'.1, h'.2⟩
theorem Pso.credit (h : Pso w T S1 S2 g g1 g2 g3 g4 s) (cr' : Cr) (hr : Cd w' (some ⟨g3, 0, none⟩) cr') (hc : Chg (at_ (some ⟨g3, 0, none⟩)) w w') (ok : ({ s with cr := cr' } : Sm).Ok) : Pso w' T S1 S2 g g1 g2 g3 g4 { s with cr := cr' } := by
  have hz := hc.size
  obtain ⟨n1, n2, n3, t0, t3, t4, l0, l3, l4⟩ := h.d3
  have ha : ∀ k, at_ (some ⟨g3, 0, none⟩) k → k = g3 := fun k ⟨q, hq, hb⟩ => by cases hq; exact hb
  refine ⟨h.im.chg hc fun e => n1 (ha g e), h.r1.chg hc fun k hk e => (h.d1 k hk).2.2.1 (ha k e), h.r2.chg hc fun k hk e => (h.d2 k hk).2.1 (ha k e), hr, h.rc.chg hc fun b ⟨q, hq, hb⟩ e => by cases hq; subst hb; exact n3 (ha _ e).symm,
    fun k hk => by have := h.d1 k hk; exact ⟨this.1, this.2.1, this.2.2.1, this.2.2.2.1, this.2.2.2.2.1, by omega⟩, fun k hk => by have := h.d2 k hk; exact ⟨this.1, this.2.1, this.2.2.1, this.2.2.2.1, by omega⟩, ⟨n1, n2, n3, t0, t3, t4, by omega, by omega, by omega⟩, ok⟩
theorem Pso.recv (h : Pso w T S1 S2 g g1 g2 g3 g4 s) (gr' : Gr) (_hr : Rc w' (some ⟨g4, 0, none⟩) gr') (hc : Chg (at_ (some ⟨g4, 0, none⟩)) w w') (_hW : gr'.W = s.gr.W) :
    Is w' g 129 (smC s g1 g2 g3 g4) ∧ Rgo w' S1 g1 s.stage s.sg ∧ Rgo w' S2 g2 s.win s.un ∧ Cd w' (some ⟨g3, 0, none⟩) s.cr := by
  obtain ⟨n1, n2, n3, t0, t3, t4, l0, l3, l4⟩ := h.d3
  have ha : ∀ k, at_ (some ⟨g4, 0, none⟩) k → k = g4 := fun k ⟨q, hq, hb⟩ => by cases hq; exact hb
  exact ⟨h.im.chg hc fun e => n2 (ha g e), h.r1.chg hc fun k hk e => (h.d1 k hk).2.2.2.1 (ha k e), h.r2.chg hc fun k hk e => (h.d2 k hk).2.2.1 (ha k e), h.cd.chg hc fun b ⟨q, hq, hb⟩ e => by cases hq; subst hb; exact n3 (ha _ e)⟩
end
end Go.Proofs.YthalmjjbamglgaaDoor
