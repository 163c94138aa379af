/-
  Lemmas for the walk of StreamRefused: what a call leaves of View, of two streams, of the walk's own blocks.
  No condition.
-/
import Derived.Test.YthalmjjbamglgaaDoorStrJ
namespace Go.Proofs.YthalmjjbamglgaaDoor
open Go.RowKit
theorem vw_td {s : Sm} {x0 x1 x2 x3 x4 x5 x6 x7 x8 x9 x10 : Value} (h : vwV s = .agg #[x0, x1, x2, x3, x4, x5, x6, x7, x8, x9, x10]) (b : Bool) : vwV { s with td := b } = .agg #[x0, x1, x2, x3, x4, x5, x6, x7, x8, x9, .bool b] := by
  unfold vwV at h ⊢
  simp only [Value.agg.injEq, Array.mk.injEq, List.cons.injEq] at h
  obtain ⟨h0, h1, h2, h3, h4, h5, h6, h7, h8, h9, h10, _⟩ := h
  subst h0 h1 h2 h3 h4 h5 h6 h7 h8 h9
  rfl
theorem fxS_up {s : Sm} (h : s.Up) : (fxS s).Up := by
  unfold fxS
  split
  · exact h
  · exact h
theorem Run.stp {B : Nat} {a : Nat → Addr} {w wi : World} {T : Nat → Prop} {g : Nat} {s : Sm} (h : Run B a w wi T g s) : Stp w wi T g s := by
  obtain ⟨Ti, h1, h2⟩ := h.ex
  exact ⟨Ti, h1, h2, h.chg⟩
theorem fin_step {B L ro rv : Nat} {a : Nat → Addr} {w w4 w5 : World} {T U : Nat → Prop} {G G' : Nat} {s2 t1 : Sm} {t : TypeId} {cs : Array Value} (r : Run B a w4 w5 T G s2) (hp4 : Pst w4 U G' t1) (h3 : ∀ k, T k → ¬ U k) (h4 : ∀ k, T k → L ≤ k ∧ k < ro) (h5 : ∀ k, U k → L ≤ k ∧ k < ro) (hLr : L ≤ ro) (hro : ro ≤ rv ∧ rv < w4.heap.size) (hg : Chg none_ w w4) (hw : w.heap.size ≤ L) (hv : Is w4 rv t cs) :
    Two w5 L G G' s2 t1 ∧ Chg none_ w w5 ∧ Is w5 rv t cs :=
  ⟨(Two.step (_s := s2) hp4 h3 (fun k hk => by have := h4 k hk; omega) (fun k hk => by have := h5 k hk; omega) (by omega) r.stp).1, hg.then r.chg fun k hk ht => by have := (h4 k ht).1; omega, hv.chg r.chg fun ht => by have := (h4 _ ht).2; omega⟩
theorem fin_store {B L ro rv : Nat} {a : Nat → Addr} {w w4 w5 : World} {T U : Nat → Prop} {G G' : Nat} {s2 t1 : Sm} {t : TypeId} {cs : Array Value} (r : Run B a w4 w5 T G s2) (hp4 : Pst w4 U G' t1) (h3 : ∀ k, T k → ¬ U k) (h4 : ∀ k, T k → L ≤ k ∧ k < ro) (h5 : ∀ k, U k → L ≤ k ∧ k < ro) (hLr : L ≤ ro) (hro : ro ≤ rv ∧ rv < w4.heap.size) (hg : Chg none_ w w4) (hw : w.heap.size ≤ L) (hv : Is w4 rv t cs) (v : Value) :
    Two (w5.setCell ⟨rv, 10, none⟩ v) L G G' s2 t1 ∧ Chg none_ w (w5.setCell ⟨rv, 10, none⟩ v) ∧ Is (w5.setCell ⟨rv, 10, none⟩ v) rv t (cs.setIfInBounds 10 v) := by
  obtain ⟨Ti, q1, q2⟩ := r.ex
  have hz := r.chg.size
  have hs : Chg (fun k => k = rv) w5 (w5.setCell ⟨rv, 10, none⟩ v) := (Chg.refl (fun k => k = rv) w5).setCell (p := ⟨rv, 10, none⟩) (fun _ => rfl) v
  have hz2 := hs.size
  have hT : ∀ k, Ti k → k ≠ rv := fun k hk e => by
    subst e
    rcases (q2 k hk).1 with h' | h'
    · have := h4 k h'; omega
    · omega
  have hu : Pst w5 U G' t1 := hp4.chg r.chg fun k hk _ hx => h3 k hx hk
  have f1 := fin_step r hp4 h3 h4 h5 hLr hro hg hw hv
  refine ⟨⟨by omega, Ti, U, q1.chg hs fun k hk _ e => hT k hk e, hu.chg hs fun k hk _ e => by have := h5 k hk; omega, fun k hk hx => ?_, fun k hk => ?_, fun k hk => by have := h5 k hk; omega⟩, f1.2.1.then hs fun k hk e => by omega, f1.2.2.put 10 v⟩
  · rcases (q2 k hk).1 with h' | h'
    · exact h3 k h' hx
    · have := h5 k hx; omega
  · have := (q2 k hk).2
    rcases (q2 k hk).1 with h' | h'
    · have := h4 k h'; omega
    · omega
theorem bits_one (x : Int) : bits .and .i64 x 1 = x % 2 := by
  show IntKind.i64.wrap ((BitVec.ofInt 64 x &&& BitVec.ofInt 64 1).toNat : Nat) = x % 2
  have h1 : (BitVec.ofInt 64 x &&& BitVec.ofInt 64 1).toNat = (BitVec.ofInt 64 x).toNat % 2 := by
    rw [BitVec.toNat_and]
    exact Nat.and_one_is_mod _
  rw [h1, BitVec.toNat_ofInt]
  rw [IntWalk.i64_in _ (by omega)]
  omega
/-- Two streams side by side, between the blocks L and z. -/
def Twz (w : World) (L z g h : Nat) (s t : Sm) : Prop := L ≤ z ∧ z ≤ w.heap.size ∧ ∃ T U, Pst w T g s ∧ Pst w U h t ∧ (∀ k, T k → ¬ U k) ∧ (∀ k, T k → L ≤ k ∧ k < z) ∧ (∀ k, U k → L ≤ k ∧ k < z)
theorem Two.twz {w w' : World} {L g h : Nat} {s t : Sm} (H : Two w L g h s t) (hc : Chg none_ w w') : Twz w' L w.heap.size g h s t := by
  obtain ⟨hL, T, U, h1, h2, h3, h4, h5⟩ := H
  exact ⟨hL, hc.size, T, U, h1.keep hc, h2.keep hc, h3, h4, h5⟩
theorem Twz.swap {w : World} {L z g h : Nat} {s t : Sm} (H : Twz w L z g h s t) : Twz w L z h g t s := by
  obtain ⟨hL, hz, T, U, h1, h2, h3, h4, h5⟩ := H
  exact ⟨hL, hz, U, T, h2, h1, fun k hk hk' => h3 k hk' hk, h5, h4⟩
theorem Twz.keep {w w' : World} {L z g h : Nat} {s t : Sm} (H : Twz w L z g h s t) (hc : Chg none_ w w') : Twz w' L z g h s t := by
  obtain ⟨hL, hz, T, U, h1, h2, h3, h4, h5⟩ := H
  exact ⟨hL, Nat.le_trans hz hc.size, T, U, h1.keep hc, h2.keep hc, h3, h4, h5⟩
end Go.Proofs.YthalmjjbamglgaaDoor
