/-
  append of loads onto loads of the call's own; slices cut.
  No condition of its own.
-/
import Derived.Test.YtgcodagjkbipbaaDoorPlLst
namespace Go.Proofs.YtgcodagjkbipbaaDoor
open Go.RowKit

def catL (L : Nat → Ld) (k : Nat) (L' : Nat → Ld) : Nat → Ld := fun i => if i < k then L i else L' (i - k)
theorem rowL_cat (L L' : Nat → Ld) (k m : Nat) : rowL L k ++ rowL L' m = rowL (catL L k L') (k + m) := by
  have hF : ∀ i j, ldF (catL L k L') i j = if i < k then ldF L i j else ldF L' (i - k) j := fun i j => by
    unfold ldF catL
    by_cases h : i < k
    · simp only [if_pos h]
    · simp only [if_neg h]
  refine List.ext_getElem? fun q => ?_
  by_cases h1 : q < k * 4
  · rw [List.getElem?_append_left (by rw [rowL_len]; exact h1)]
    have e1 : q / 4 * 4 + q % 4 = q := by omega
    have a1 := rowL_get (L := L) (n := k) (i := q / 4) (j := q % 4) (by omega) (by omega)
    have a2 := rowL_get (L := catL L k L') (n := k + m) (i := q / 4) (j := q % 4) (by omega) (by omega)
    rw [e1] at a1 a2
    rw [a1, a2, hF, if_pos (by omega)]
  · rw [List.getElem?_append_right (by rw [rowL_len]; omega), rowL_len]
    by_cases h2 : q < (k + m) * 4
    · have e1 : q / 4 * 4 + q % 4 = q := by omega
      have e2 : (q / 4 - k) * 4 + q % 4 = q - k * 4 := by omega
      have a1 := rowL_get (L := L') (n := m) (i := q / 4 - k) (j := q % 4) (by omega) (by omega)
      have a2 := rowL_get (L := catL L k L') (n := k + m) (i := q / 4) (j := q % 4) (by omega) (by omega)
      rw [e1] at a2
      rw [e2] at a1
      rw [a1, a2, hF, if_neg (by omega)]
    · rw [List.getElem?_eq_none (by rw [rowL_len]; omega), List.getElem?_eq_none (by rw [rowL_len]; omega)]
theorem lds_own2 {w : World} {base : Nat} {v : Value} {n : Nat} {L : Nat → Ld} (h : w.ownsRow base 72 4 v n (rowL L n)) (hn : 0 < n) : ∃ g c, v = .slice (some ⟨g, 0, none⟩) n c ∧ n ≤ c ∧ base ≤ g ∧ Lds w (some ⟨g, 0, none⟩) n L := by
  have h0 := h
  rcases h0.2 with ⟨hv, hn'⟩ | ⟨g, cap, cur, hv, hb, _, hc, _⟩
  · omega
  · subst hv
    exact ⟨g, cap, rfl, hc, hb, fun _ => ⟨_, rfl, fun i hi j hj => h.cells (g := g) rfl _ _ (rowL_get hi hj)⟩⟩
theorem Lds.take {w : World} {A : Option Addr} {n k : Nat} {L : Nat → Ld} (h : Lds w A n L) (hk : k ≤ n) : Lds w A k L := fun hp => by
  obtain ⟨ad, e, hc⟩ := h (by omega)
  exact ⟨ad, e, fun i hi j hj => hc i (by omega) j hj⟩
theorem ldF_congr {L L' : Nat → Ld} {i : Nat} (h : L i = L' i) (j : Nat) : ldF L i j = ldF L' i j := by
  unfold ldF
  rw [h]
theorem Lds.congr {w : World} {A : Option Addr} {n : Nat} {L L' : Nat → Ld} (h : Lds w A n L) (e : ∀ i, i < n → L i = L' i) : Lds w A n L' := fun hp => by
  obtain ⟨ad, ea, hc⟩ := h hp
  exact ⟨ad, ea, fun i hi j hj => by rw [hc i hi j hj, ldF_congr (e i hi)]⟩

/-- append(v, loads...), v of the call's own. -/
theorem wpList_append_cat {w : World} {ops : Array Oper} {rest : List Oper} {o : Oper} {a : Act} {Q : Exit → Act → World → Prop} (hgd : o.guard = none) (s x : Operand)
    (ho : o.op = .call { callee := .builtin .append, args := #[s, x], argTypes := #[76, 76] })
    (base : Nat) (hbase : base ≤ w.heap.size) (v : Value) (k : Nat) (L : Nat → Ld) (hs : a.eval s = v) (hown : w.ownsRow base 72 4 v k (rowL L k))
    (ad : Addr) (n c : Nat) (L' : Nat → Ld) (hx : a.eval x = .slice (some ad) n c) (hr : Lds w (some ad) n L') (hb : (k + n) * 24 ≤ 140737488355328)
    (h : ∀ v' w', w'.ownsRow base 72 4 v' (k + n) (rowL (catL L k L') (k + n)) → w.grownBy w' v.ownBlock → wpList Tryd.prog ops Q rest (a.put o.dst v') w') : wpList Tryd.prog ops Q (o :: rest) a w := by
  obtain ⟨i0, hi, hz0, hz1, hz2⟩ := info_parts Tryd.infoLd
  have h63 : k + n ≤ maxLen := by simp only [maxLen]; omega
  refine wpList_append_own _ hgd s x _ ho base 72 i0 _ 4 24 Tryd.underlying76 hi hz0 hz1 hz2 rfl (by decide) v k (rowL L k) hs hown ad n c (rowL L' n) hx (rowL_len L' n) (rowL_cells hr) rowL_one h63 (by omega) hbase ?_
  intro v' w' h1 h2 _
  refine h v' w' ?_ h2
  rwa [rowL_cat] at h1
end Go.Proofs.YtgcodagjkbipbaaDoor
