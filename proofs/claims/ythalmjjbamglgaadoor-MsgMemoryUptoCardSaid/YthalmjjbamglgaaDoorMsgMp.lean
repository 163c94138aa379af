/-
  MsgMemory's later loops: own slices, apart from one another, are written, grown and looked at.
  No condition.
-/
import Derived.Test.YthalmjjbamglgaaDoorOb4
import Derived.Test.YthalmjjbamglgaaDoorNumAp
namespace Go.Proofs.YthalmjjbamglgaaDoor
open Go.RowKit

structure Mp1 (w : World) (B n : Nat) (U : Nat → Value) (N : Nat → Nat) (LL : Nat → List Value) (i : Nat) (wr : World) : Prop where
  ob : ∀ j, j < n → ∃ xs, Ob wr B 5 (U j) (N j) xs ∧ (j < i → xs = LL j)
  chg : Chg (fun k => ∃ j, j < n ∧ obk (U j) = some k) w wr
structure Mp4 (wr : World) (B : Nat) (u : Value) (m : Nat) (L : List Value) (k : Nat) (W : World) (v : Value) : Prop where
  ob : ∃ xs, xs.length = k ∧ Ob W B 5 v (m + k) (L ++ xs)
  us : Ob W B 5 u m L
  bl : (obk v = obk u ∧ capV v = capV u) ∨ ∃ q, obk v = some q ∧ wr.heap.size ≤ q
  chg : Chg (fun q => obk u = some q) wr W
theorem Mp4.step {wr W W1 W2 : World} {B : Nat} {u v v' : Value} {m k : Nat} {L xs : List Value} {z : Value} (h : Mp4 wr B u m L k W v) (hlt : ∀ q, obk u = some q → q < wr.heap.size) (h1 : Chg none_ W W1) (hL : L.length = m) (hx : xs.length = k)
    (h2 : Ob W2 B 5 v' (m + k + 1) (L ++ xs ++ [z])) (h3 : W1.grownBy W2 (obk v)) (h4 : (obk v' = obk v ∧ capV v' = capV v) ∨ obk v' = some W1.heap.size ∧ W1.grownBy W2 none) :
    Mp4 wr B u m L (k + 1) W2 v' := by
  have hz := h.chg.size
  have hz1 := h1.size
  have u1 : Ob W1 B 5 u m L := h.us.chg h1 fun _ _ f => f
  have h2' : Ob W2 B 5 v' (m + k + 1) (L ++ (xs ++ [z])) := by rw [← List.append_assoc]; exact h2
  refine ⟨⟨xs ++ [z], by simp [hx], h2'⟩, ?_, ?_, ?_⟩
  · rcases h4 with ⟨h4, h5⟩ | ⟨_, h4⟩
    · rcases h.bl with ⟨hb, hc⟩ | ⟨q, hb, hq⟩
      · exact ob_pre h2' hL (by omega) u1 (h4.trans hb) (h5.trans hc)
      · refine u1.chg (grow_chg h3) fun q' hq' e => ?_
        rw [hb] at e
        injection e with e
        have := hlt q' hq'
        omega
    · exact u1.chg (grow_chg h4) fun q' hq' e => by cases e
  · rcases h4 with ⟨h4, h5⟩ | ⟨h4, _⟩
    · rcases h.bl with ⟨hb, hc⟩ | ⟨q, hb, hq⟩
      · exact .inl ⟨h4.trans hb, h5.trans hc⟩
      · exact .inr ⟨q, h4.trans hb, hq⟩
    · exact .inr ⟨_, h4, by omega⟩
  · refine (h.chg.trans (h1.more fun _ _ f => f.elim)).then (grow_chg h3) fun q hq e => ?_
    rcases h.bl with ⟨hb, _⟩ | ⟨q', hb, hq'⟩
    · rw [← hb]; exact e
    · rw [hb] at e
      injection e with e
      omega
structure Mp3 (w : World) (B n : Nat) (U : Nat → Value) (N : Nat → Nat) (LL : Nat → List Value) (MM : Nat → Value) (i : Nat) (wr : World) (vg : Value) (gsl : List Value) (Gb Gc : Nat → Nat) : Prop where
  all : Ob wr w.heap.size 23 vg i gsl
  at_ : ∀ j, j < i → gsl[j]? = some (.slice (some ⟨Gb j, 0, none⟩) (N j + 1) (Gc j))
  gs : ∀ j, j < i → Ob wr B 5 (.slice (some ⟨Gb j, 0, none⟩) (N j + 1) (Gc j)) (N j + 1) (LL j ++ [MM j])
  us : ∀ j, j < i → Rg wr (U j) (N j) (LL j)
  todo : ∀ j, i ≤ j → j < n → Ob wr B 5 (U j) (N j) (LL j)
  bl : ∀ j, j < i → obk (U j) = some (Gb j) ∨ w.heap.size ≤ Gb j
  gl : ∀ j, j < i → obk vg ≠ some (Gb j)
  chg : Chg (fun k => ∃ j, j < n ∧ obk (U j) = some k) w wr
theorem Mp3.step {w wr W W1 W2 W3 W4 : World} {B n : Nat} {U : Nat → Value} {N : Nat → Nat} {LL : Nat → List Value} {MM : Nat → Value} {i : Nat} {vg vg' v : Value} {gsl : List Value} {Gb Gc : Nat → Nat} {g c : Nat} {kk : Nat}
    (h : Mp3 w B n U N LL MM i wr vg gsl Gb Gc) (hi : i < n) (hL : (LL i).length = N i)
    (hlt : ∀ j, j < n → ∀ q, obk (U j) = some q → q < w.heap.size) (hrd : ∀ j, j < n → ∀ q, rdk (U j) = some q → obk (U j) = some q) (hdis : ∀ j j' q, j < n → j' < n → j ≠ j' → obk (U j) = some q → obk (U j') ≠ some q)
    (h4 : Mp4 wr B (U i) (N i) (LL i) kk W v) (h1 : Chg none_ W W1)
    (k1 : Ob W2 B 5 (.slice (some ⟨g, 0, none⟩) (N i + 1) c) (N i + 1) (LL i ++ [MM i])) (k2 : W1.grownBy W2 (obk (U i)))
    (k3 : obk (.slice (some ⟨g, 0, none⟩) (N i + 1) c) = obk (U i) ∨ obk (.slice (some ⟨g, 0, none⟩) (N i + 1) c) = some W1.heap.size ∧ W1.grownBy W2 none) (h3 : Chg none_ W2 W3)
    (j1 : Ob W4 w.heap.size 23 vg' (i + 1) (gsl ++ [.slice (some ⟨g, 0, none⟩) (N i + 1) c])) (j2 : W3.grownBy W4 (obk vg)) (j3 : obk vg' = obk vg ∨ obk vg' = some W3.heap.size) :
    Mp3 w B n U N LL MM (i + 1) W4 vg' (gsl ++ [.slice (some ⟨g, 0, none⟩) (N i + 1) c]) (fun j => if j = i then g else Gb j) (fun j => if j = i then c else Gc j) := by
  have hg : obk (.slice (some ⟨g, 0, none⟩) (N i + 1) c) = some g := k1.rdk g (by simp [rdk])
  rw [hg] at k3
  have z0 := h.chg.size
  have z4 := h4.chg.size
  have z1 := h1.size
  have z2 : W1.heap.size ≤ W2.heap.size := k2.size
  have z3 := h3.size
  have hvg : ∀ q, obk vg = some q → w.heap.size ≤ q ∧ q < wr.heap.size := h.all.block
  have hgl : gsl.length = i := h.all.len
  have hGlt : ∀ j, j < i → Gb j < wr.heap.size ∧ obk (.slice (some ⟨Gb j, 0, none⟩) (N j + 1) (Gc j)) = some (Gb j) := fun j hj => by
    have := (h.gs j hj).rdk (Gb j) (by simp [rdk])
    exact ⟨((h.gs j hj).block _ this).2, this⟩
  have hUG : ∀ j, j < i → obk (U i) ≠ some (Gb j) := fun j hj e => by
    rcases h.bl j hj with e' | e'
    · exact hdis i j _ hi (by omega) (by omega) e e'
    · have := hlt i hi _ e; omega
  have hgv : obk vg ≠ some g := fun e => by
    have := hvg g e
    rcases k3 with e' | ⟨e', _⟩
    · have := hlt i hi g e'.symm; omega
    · injection e' with e'; omega
  have c02 : Chg (fun q => obk (U i) = some q) wr W2 := (h4.chg.trans (h1.more fun _ _ f => f.elim)).then (grow_chg k2) fun q _ e => e
  have c24 : Chg (fun q => obk vg = some q) W2 W4 := (h3.more fun _ _ f => f.elim).then (grow_chg j2) fun q _ e => e
  have hui : Rg W2 (U i) (N i) (LL i) := by
    rcases k3 with e | ⟨_, e⟩
    · exact rg_pre k1 hL (by omega) (hg.trans e) (hrd i hi)
    · have u1 : Ob W1 B 5 (U i) (N i) (LL i) := h4.us.chg h1 fun _ _ f => f
      exact u1.rg.keep fun q hq => e.block q (u1.block q (hrd i hi q hq)).2 (by simp)
  have hnv : ∀ j, j < n → ∀ q, obk (U j) = some q → obk vg ≠ some q := fun j hj q hq e => by have := hlt j hj q hq; have := (hvg q e).1; omega
  refine ⟨j1, fun j hj => ?_, fun j hj => ?_, fun j hj => ?_, fun j hj hj' => ?_, fun j hj => ?_, fun j hj => ?_, ?_⟩
  · by_cases e : j = i
    · subst e
      rw [if_pos rfl, if_pos rfl, List.getElem?_append_right (by omega), hgl, Nat.sub_self]
      rfl
    · rw [if_neg e, if_neg e, List.getElem?_append_left (by omega)]
      exact h.at_ j (by omega)
  · by_cases e : j = i
    · subst e
      rw [if_pos rfl, if_pos rfl]
      exact k1.chg c24 fun q hq e => by rw [hg] at hq; injection hq with hq; subst hq; exact hgv e
    · rw [if_neg e, if_neg e]
      have hj' : j < i := by omega
      refine ((h.gs j hj').chg c02 fun q hq e => ?_).chg c24 fun q hq e => ?_
      · rw [(hGlt j hj').2] at hq; injection hq with hq; subst hq; exact hUG j hj' e
      · rw [(hGlt j hj').2] at hq; injection hq with hq; subst hq; exact h.gl j hj' e
  · by_cases e : j = i
    · subst e
      exact hui.chg c24 fun q hq => ⟨by have := hlt j hi q (hrd j hi q hq); omega, hnv j hi q (hrd j hi q hq)⟩
    · have hj' : j < i := by omega
      have hjn : j < n := by omega
      refine ((h.us j hj').chg c02 fun q hq => ?_).chg c24 fun q hq => ?_
      · have hq' := hrd j hjn q hq
        exact ⟨by have := hlt j hjn q hq'; omega, fun e => hdis j i q hjn hi (by omega) hq' e⟩
      · have hq' := hrd j hjn q hq
        exact ⟨by have := hlt j hjn q hq'; omega, hnv j hjn q hq'⟩
  · refine ((h.todo j (by omega) hj').chg c02 fun q hq e => ?_).chg c24 fun q hq e => hnv j hj' q hq e
    exact hdis i j q hi hj' (by omega) e hq
  · by_cases e : j = i
    · subst e
      rw [if_pos rfl]
      rcases k3 with e' | ⟨e', _⟩
      · exact .inl e'.symm
      · injection e' with e'; exact .inr (by omega)
    · rw [if_neg e]
      exact h.bl j (by omega)
  · have hG : (if j = i then g else Gb j) < W3.heap.size ∧ obk vg ≠ some (if j = i then g else Gb j) := by
      by_cases e : j = i
      · rw [if_pos e]
        exact ⟨by have := (k1.block g hg).2; omega, hgv⟩
      · rw [if_neg e]
        exact ⟨by have := (hGlt j (by omega)).1; omega, h.gl j (by omega)⟩
    rcases j3 with e | e
    · rw [e]; exact hG.2
    · rw [e]; intro e'; injection e' with e'; omega
  · refine (h.chg.then c02 fun q hq e => ⟨i, hi, e⟩).then c24 fun q hq e => ?_
    have := (hvg q e).1
    omega
end Go.Proofs.YthalmjjbamglgaaDoor
