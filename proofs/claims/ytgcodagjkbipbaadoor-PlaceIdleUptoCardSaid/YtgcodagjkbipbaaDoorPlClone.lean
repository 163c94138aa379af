/-
  append(own, loads...): a copy of a slice of loads.
  No condition of its own.
-/
import Derived.Test.YtgcodagjkbipbaaDoorPlFix
import Derived.Laws.AppendOwnNone
namespace Go.Proofs.YtgcodagjkbipbaaDoor
open Go.RowKit

def rowL (L : Nat → Ld) (n : Nat) : List Value := (List.range (n * 4)).map fun q => ldF L (q / 4) (q % 4)
theorem rowL_len (L : Nat → Ld) (n : Nat) : (rowL L n).length = n * 4 := by simp [rowL]
theorem rowL_get {L : Nat → Ld} {n i j : Nat} (hi : i < n) (hj : j < 4) : (rowL L n)[i * 4 + j]? = some (ldF L i j) := by
  have h1 : i * 4 + j < n * 4 := by omega
  have e1 : (i * 4 + j) / 4 = i := by omega
  have e2 : (i * 4 + j) % 4 = j := by omega
  simp only [rowL, List.getElem?_map, List.getElem?_range h1, Option.map_some, e1, e2]
theorem rowL_at {L : Nat → Ld} {n q : Nat} {u : Value} (h : (rowL L n)[q]? = some u) : q < n * 4 ∧ u = ldF L (q / 4) (q % 4) := by
  have hq : q < n * 4 := by
    have := (List.getElem?_eq_some_iff.1 h).1
    rwa [rowL_len] at this
  refine ⟨hq, ?_⟩
  simp only [rowL, List.getElem?_map, List.getElem?_range hq, Option.map_some, Option.some.injEq] at h
  exact h.symm
theorem ldF_one (L : Nat → Ld) (i j : Nat) : (ldF L i j).oneCell' = true := by
  unfold ldF
  split <;> rfl
theorem rowL_one {L : Nat → Ld} {n : Nat} : ∀ u ∈ rowL L n, u.oneCell' = true := fun u hu => by
  obtain ⟨q, hq⟩ := List.getElem?_of_mem hu
  rw [(rowL_at hq).2]
  exact ldF_one _ _ _
theorem rowL_cells {w : World} {ad : Addr} {n : Nat} {L : Nat → Ld} (h : Lds w (some ad) n L) : ∀ j u, (rowL L n)[j]? = some u → w.cell? (ad.add j) = some u := fun j u hj => by
  obtain ⟨hq, rfl⟩ := rowL_at hj
  obtain ⟨ad', e, hc⟩ := h (by omega)
  injection e with e
  subst e
  have := hc (j / 4) (by omega) (j % 4) (by omega)
  rwa [show j / 4 * 4 + j % 4 = j by omega] at this
theorem rowL_congr {L L' : Nat → Ld} {n : Nat} (h : ∀ i, i < n → L i = L' i) : rowL L n = rowL L' n := by
  unfold rowL
  refine List.map_congr_left fun q hq => ?_
  rw [List.mem_range] at hq
  have := h (q / 4) (by omega)
  unfold ldF
  rw [this]

/-- A slice of the call's own that reads as loads. -/
theorem lds_own {w : World} {base : Nat} {v : Value} {n : Nat} {L : Nat → Ld} (h : w.ownsRow base 72 4 v n (rowL L n)) : ∃ A c, v = .slice A n c ∧ Lds w A n L := by
  have h0 := h
  rcases h0.2 with ⟨hv, hn⟩ | ⟨g, cap, cur, hv, _, _, _⟩
  · subst hv hn
    exact ⟨none, 0, rfl, Rds.zero _ _ _ _⟩
  · subst hv
    exact ⟨some ⟨g, 0, none⟩, cap, rfl, fun _ => ⟨_, rfl, fun i hi j hj => h.cells (g := g) rfl _ _ (rowL_get hi hj)⟩⟩

theorem Tryd.infoLd : (Tryd.prog.info? 72).map (fun i => (i.zero, i.size, i.bytes)) = some (some (.agg #[.bool false, .bool false, .int .i64 0, .int .i64 0]), 4, 24) := by kernel_rfl

/-- append(v, loads...), v of the call's own and empty. -/
theorem wpList_append_lds {w : World} {ops : Array Oper} {rest : List Oper} {o : Oper} {a : Act} {Q : Exit → Act → World → Prop} (hgd : o.guard = none) (s x : Operand)
    (ho : o.op = .call { callee := .builtin .append, args := #[s, x], argTypes := #[76, 76] })
    (base : Nat) (hbase : base ≤ w.heap.size) (v : Value) (hs : a.eval s = v) (hown : w.ownsRow base 72 4 v 0 [])
    (A : Option Addr) (n c : Nat) (L : Nat → Ld) (hx : a.eval x = .slice A n c) (hr : Lds w A n L) (hnil : A = none → c = 0) (hb : n * 24 ≤ 140737488351232)
    (h : ∀ v' w', w'.ownsRow base 72 4 v' n (rowL L n) → w.grownBy w' v.ownBlock → wpList Tryd.prog ops Q rest (a.put o.dst v') w') : wpList Tryd.prog ops Q (o :: rest) a w := by
  obtain ⟨i0, hi, hz0, hz1, hz2⟩ := info_parts Tryd.infoLd
  cases A with
  | none =>
    have hn : n = 0 := by
      cases n with
      | zero => rfl
      | succ n =>
        obtain ⟨ad, e, _⟩ := hr (by omega)
        cases e
    subst hn
    obtain rfl := hnil rfl
    exact wpList_append_own_none hgd s x _ ho base 72 i0 4 Tryd.underlying76 hi v 0 [] hs hown hx
      (h v w hown ⟨rfl, rfl, rfl, Nat.le_refl _, fun _ _ _ => rfl⟩)
  | some ad =>
    have h63 : 0 + n ≤ maxLen := by simp only [maxLen]; omega
    refine wpList_append_own _ hgd s x _ ho base 72 i0 _ 4 24 Tryd.underlying76 hi hz0 hz1 hz2 rfl (by decide) v 0 [] hs hown ad n c (rowL L n) hx (rowL_len L n) (rowL_cells hr) rowL_one h63 (by omega) hbase ?_
    intro v' w' h1 h2 _
    refine h v' w' ?_ h2
    simpa using h1
end Go.Proofs.YtgcodagjkbipbaaDoor
