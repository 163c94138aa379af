/-
  Own slices: a cell written, a prefix, and append that tells whether the slice moved.
  No condition.
-/
import Derived.Test.YthalmjjbamglgaaDoorOb2
import Derived.Laws.OwnMore
import Derived.Laws.MakeOwn
namespace Go.Proofs.YthalmjjbamglgaaDoor
open Go.RowKit

section
variable {w : World} {base : Nat} {e : TypeId} {n c g : Nat} {A : Option Addr} {xs : List Value}
theorem Ob.own (h : Ob w base e (.slice (some ⟨g, 0, none⟩) n c) n xs) (hn : 0 < n) : w.ownsRow base e 1 (.slice (some ⟨g, 0, none⟩) n c) n xs ∧ 0 < c := by
  rcases h with ⟨h0, _⟩ | ⟨h, g', c', e, hc⟩
  · omega
  · cases e
    exact ⟨h, hc⟩
theorem Ob.set (h : Ob w base e (.slice (some ⟨g, 0, none⟩) n c) n xs) (hn : 0 < n) (j : Nat) (u : Value) : Ob (w.setCell ⟨g, j, none⟩ u) base e (.slice (some ⟨g, 0, none⟩) n c) n (xs.set j u) :=
  .inr ⟨((h.own hn).1.stored j u).1, _, _, rfl, (h.own hn).2⟩
theorem Ob.cellAt (h : Ob w base e (.slice (some ⟨g, 0, none⟩) n c) n xs) (j : Nat) (hj : j < n) : w.cell? ⟨g, j, none⟩ = xs[j]? := (h.own (by omega)).1.cellAt j (by omega)
theorem Ob.frozenAt (h : Ob w base e (.slice (some ⟨g, 0, none⟩) n c) n xs) (hn : 0 < n) (j : Nat) : w.frozen? ⟨g, j, none⟩ = false := (h.own hn).1.frozenAt j
theorem Ob.addr (h : Ob w base e (.slice A n c) n xs) (hn : 0 < n) : ∃ g, A = some ⟨g, 0, none⟩ := by
  rcases h with ⟨h0, _⟩ | ⟨h, g', c', e, hc⟩
  · omega
  · cases e
    exact ⟨g', rfl⟩
theorem Ob.front (h : Ob w base e (.slice A n c) n xs) {m : Nat} (hm : m ≤ n) : Ob w base e (.slice A m c) m (xs.take m) := by
  rcases h with ⟨rfl, rfl, A', e⟩ | ⟨h, g', c', e, hc⟩
  · cases e
    obtain rfl : m = 0 := by omega
    exact .inl ⟨rfl, by simp, _, rfl⟩
  · cases e
    refine .inr ⟨⟨?_, ?_⟩, _, _, rfl, hc⟩
    · rw [List.length_take, h.1]; omega
    · rcases h.2 with ⟨e, _⟩ | ⟨g, cap, cur, e, h1, h2, h3, h4, h5, h6⟩
      · cases e
      · cases e
        refine .inr ⟨_, _, cur, rfl, h1, h2, by omega, h4, h5, ?_⟩
        rw [← h6, List.take_take, Nat.mul_one, Nat.mul_one, Nat.min_eq_left hm]
end
theorem grow_chg {w w' : World} {r : Option Nat} (h : w.grownBy w' r) : Chg (fun k => r = some k) w w' := ⟨h.os, h.tape, h.output, h.size, fun k hk hs => h.block k hk (fun e => hs e.symm)⟩
theorem set_mid {α : Type} {pre xs : List α} {k : Nat} (hp : pre.length = k) (hk : k < xs.length) (u : α) : (pre ++ xs.drop k).set k u = (pre ++ [u]) ++ xs.drop (k + 1) := by
  rw [List.set_append_right _ _ (by omega), hp, Nat.sub_self, List.drop_eq_getElem_cons hk, List.set_cons_zero]
  simp

section
variable {P : Program} {w : World} {base : Nat} {e : TypeId} {v : Value} {n : Nat} {xs : List Value}
theorem run_append_ob2 (t ty : TypeId) (i : TypeInfo) (z : Value) (bytes : Nat) (ht : P.underlying t = some (.slice e)) (hi : P.info? e = some i) (hz : i.zero = some z) (hsize : i.size = 1) (hby : i.bytes = bytes) (hzs : z.cells.size = 1)
    (hown : Ob w base e v n xs) (A : Option Addr) (m c : Nat) (news : List Value) (hl : news.length = m) (hr : 0 < m → ∃ ad, A = some ad ∧ ∀ j u, news[j]? = some u → w.cell? (ad.add j) = some u) (h1 : ∀ u ∈ news, u.oneCell' = true)
    (h63 : n + m ≤ maxLen) (hbytes : (n + m) * bytes ≤ 140737488355328) (hbase : base ≤ w.heap.size) :
    ∃ v' w', (Builtin.append_ #[t, t] ty #[v, .slice A m c]).run P w = .ok v' w' ∧ Ob w' base e v' (n + m) (xs ++ news) ∧ w.grownBy w' (obk v) ∧ (obk v' = obk v ∨ obk v' = some w.heap.size ∧ w.grownBy w' none) ∧ (m = 0 → v' = v) := by
  subst hl
  subst hby
  rcases Nat.eq_zero_or_pos news.length with h0 | hm
  · have hn : news = [] := List.eq_nil_of_length_eq_zero h0
    subst hn
    obtain ⟨A', c', rfl, hnc, _⟩ := hown.slice
    refine ⟨_, w, run_append_none t ty i ht hi A' A n c' c hnc, by simpa using hown, ⟨rfl, rfl, rfl, Nat.le_refl _, fun _ _ _ => rfl⟩, .inl rfl, fun _ => rfl⟩
  · obtain ⟨ad, rfl, hnews⟩ := hr hm
    have h63' : ((n + news.length : Nat) : Int) ≤ 9223372036854775807 := by simp only [maxLen] at h63; omega
    have hg : ∀ old row, w.grownBy (w.drew.alloc (.cells (xs.toArray ++ news.toArray ++ Builtin.zeroCells z.cells (grownCap w (n + news.length) old e - (n + news.length))) e)) row := fun old row =>
      ⟨rfl, rfl, rfl, by simp, fun k hk _ => Below.heap_alloc w.drew _ k hk⟩
    have hlen := hown.len
    have hob := hown
    rcases hown with ⟨rfl, rfl, A', rfl⟩ | ⟨hown, g, cap, rfl, hc⟩
    · have hgr := ob_grown (w := w) (base := base) (e := e) (xs := []) (n := 0) z hzs news 0 rfl (by omega) h63 hbase
      have hgc : 0 < grownCap w (0 + news.length) 0 e := Nat.lt_of_lt_of_le (by omega) (grownCap_ge w (0 + news.length) 0 e)
      cases A' with
      | none =>
        have hrun := run_append_nil (P := P) w t ty e i z ht hi hz ad news.length c news (by rw [hsize]; omega) hnews hm (by omega) (by simp only [Nat.zero_add] at hbytes; omega)
        have hg0 := hg 0
        simp only [Nat.zero_add, List.nil_append, Array.empty_append] at hgr hg0 hgc ⊢
        exact ⟨_, _, hrun, hgr, hg0 _, .inr ⟨by simp [obk, Nat.ne_of_gt hgc], hg0 _⟩, fun h => by omega⟩
      | some a' =>
        have hrun := run_append_grow (P := P) w t ty e i z ht hi hz a' 0 0 [] (by simp) (fun j u hj => by simp at hj) ad news.length c news (by rw [hsize]; omega) hnews (by omega) h63' (growslice_fits (by omega) hbytes)
        simp only [Nat.zero_add] at hgc hrun hgr hg ⊢
        exact ⟨_, _, hrun, hgr, hg 0 _, .inr ⟨by simp [obk, Nat.ne_of_gt hgc], hg 0 _⟩, fun h => by omega⟩
    · by_cases hroom : n + news.length ≤ cap
      · rcases hown.2 with ⟨he, _⟩ | ⟨g', cap', cur, he, hb1, hb2, hb3, hb4, hb5, hb6⟩
        · cases he
        · cases he
          have hrun := run_append_room (P := P) w t ty e i ht hi g n cap cur hb2 ad news.length c news (by rw [hsize]; omega) hnews h1 hroom (by rw [hsize]; omega)
          refine ⟨_, _, hrun, .inr ⟨⟨?_, .inr ⟨g, cap, _, rfl, hb1, setRow_heap w g cur _ e _ hb2, hroom, hb4, ?_, ?_⟩⟩, _, _, rfl, hc⟩, ⟨rfl, rfl, rfl, by simp, fun k _ hk => setRow_other w g k _ (fun e => hk (by simp [obk, e, Nat.ne_of_gt hc]))⟩, .inl ?_, fun h => by omega⟩
          · rw [List.length_append, hlen, Nat.mul_one]
          · simp only [List.size_toArray, List.length_append, List.length_take, List.length_drop, Array.length_toList, hsize]
            omega
          · simp only [hsize, Nat.mul_one] at hb6 ⊢
            rw [hb6]
            exact List.take_left' (by rw [List.length_append, hlen])
          · simp [obk]
      · have holds : ∀ j u, xs[j]? = some u → w.cell? ((⟨g, 0, none⟩ : Addr).add j) = some u := hown.cells (g := g) rfl
        have hrun := run_append_grow (P := P) w t ty e i z ht hi hz ⟨g, 0, none⟩ n cap xs (by rw [hsize, hlen, Nat.mul_one]) holds ad news.length c news (by rw [hsize]; omega) hnews (by omega) h63' (growslice_fits (by omega) hbytes)
        have hgr := ob_grown (w := w) (base := base) (e := e) (xs := xs) (n := n) z hzs news cap hlen (by omega) h63 hbase
        have hgc : 0 < grownCap w (n + news.length) cap e := Nat.lt_of_lt_of_le (by omega) (grownCap_ge w (n + news.length) cap e)
        exact ⟨_, _, hrun, hgr, hg cap _, .inr ⟨by simp [obk, Nat.ne_of_gt hgc], hg cap _⟩, fun h => by omega⟩

theorem wpList_append_ob2 {ops : Array Oper} {rest : List Oper} {o : Oper} {a : Act} {Q : Exit → Act → World → Prop} (hgd : o.guard = none) (s x : Operand) (t : TypeId)
    (ho : o.op = .call { callee := .builtin .append, args := #[s, x], argTypes := #[t, t] })
    (i : TypeInfo) (z : Value) (bytes : Nat) (ht : P.underlying t = some (.slice e)) (hi : P.info? e = some i) (hz : i.zero = some z) (hsize : i.size = 1) (hby : i.bytes = bytes) (hzs : z.cells.size = 1)
    (hs : a.eval s = v) (hown : Ob w base e v n xs) (A : Option Addr) (m c : Nat) (news : List Value) (hx : a.eval x = .slice A m c) (hl : news.length = m)
    (hr : 0 < m → ∃ ad, A = some ad ∧ ∀ j u, news[j]? = some u → w.cell? (ad.add j) = some u) (h1 : ∀ u ∈ news, u.oneCell' = true)
    (h63 : n + m ≤ maxLen) (hbytes : (n + m) * bytes ≤ 140737488355328) (hbase : base ≤ w.heap.size)
    (h : ∀ v' w', Ob w' base e v' (n + m) (xs ++ news) → w.grownBy w' (obk v) → (obk v' = obk v ∨ obk v' = some w.heap.size ∧ w.grownBy w' none) → (m = 0 → v' = v) → wpList P ops Q rest (a.put o.dst v') w') : wpList P ops Q (o :: rest) a w := by
  refine wpList_plain hgd fun K hK => ?_
  obtain ⟨v', w', hrun, h2, h3, h4, h5⟩ := run_append_ob2 (P := P) (w := w) t o.type i z bytes ht hi hz hsize hby hzs hown A m c news hl hr h1 h63 hbytes hbase
  unfold Oper.wp execOp
  simp only [ho, resolve, invoke, builtin, Sem.run_bind, Sem.run_pure, Result.andThen_ok, List.map_toArray, List.map_cons, List.map_nil, hs, hx, hrun]
  exact hK _ _ (h v' w' h2 h3 h4 h5)
end
section
variable {w : World} {ops : Array Oper} {rest : List Oper} {o : Oper} {a : Act} {Q : Exit → Act → World → Prop} {base : Nat} {v : Value} {n : Nat}
theorem wpList_append_bytes2 (hgd : o.guard = none) (s x : Operand) (ho : o.op = .call { callee := .builtin .append, args := #[s, x], argTypes := #[23, 23] })
    {olds : List Value} (hs : a.eval s = v) (hown : Ob w base 5 v n olds) (A : Option Addr) (m c : Nat) (xs : List Int) (hx : a.eval x = .slice A m c) (hl : xs.length = m) (hr : Rd w A m fun i => .int .u8 (xs.getD i 0))
    (hb : n + m ≤ 140737488355328) (hbase : base ≤ w.heap.size)
    (h : ∀ v' w', Ob w' base 5 v' (n + m) (olds ++ xs.map (Value.int .u8)) → w.grownBy w' (obk v) → (obk v' = obk v ∨ obk v' = some w.heap.size ∧ w.grownBy w' none) → wpList Tryd.prog ops Q rest (a.put o.dst v') w') : wpList Tryd.prog ops Q (o :: rest) a w := by
  obtain ⟨i0, hi, hz0, hz1, hz2⟩ := info_parts Tryd.infoU8
  exact wpList_append_ob2 hgd s x _ ho i0 _ 1 Tryd.underlying23 hi hz0 hz1 hz2 rfl hs hown A m c (xs.map (Value.int .u8)) hx (by simpa using hl) (rd_ints hl hr) (ints_one _) (by simp only [maxLen]; omega) (by omega) hbase fun v' w' h1 h2 h3 _ => h v' w' h1 h2 h3

/-- make([][]byte, n). -/
theorem wpList_make_lists (hgd : o.guard = none) (x y : Operand) (ho : o.op = Op.makeSlice 28 x y) (N : Int) (hx : a.eval x = .int .i64 N) (hy : a.eval y = .int .i64 N) (n : Nat) (hN : N = (n : Int)) (hn : n ≤ 1099511627776)
    (h : ∀ w' cur, Is w' w.heap.size 23 cur → cur.size = n → Chg none_ w w' → wpList Tryd.prog ops Q rest (a.put o.dst (.slice (some ⟨w.heap.size, 0, none⟩) n n)) w') : wpList Tryd.prog ops Q (o :: rest) a w := by
  subst hN
  obtain ⟨i, hi, hz0, hz1, hz2⟩ := info_parts Tryd.infoBS
  refine wpList_plain hgd fun K hK' => ?_
  have hrun := run_make (P := Tryd.prog) w 28 23 i (.slice none 0 0) Tryd.underlying28 hi hz0 .i64 .i64 n n (by omega) (by omega) (by rw [hz2]; omega) (by omega)
  simp only [Int.toNat_natCast, hz1, Nat.mul_one] at hrun
  unfold Oper.wp
  simp [execOp, ho, hx, hy, hrun, Result.andThen]
  exact hK' _ _ (h _ _ (Is.new w _ _) (by simp [size_madeCells, Value.cells]) ((Chg.refl none_ w).alloc _))
end
end Go.Proofs.YthalmjjbamglgaaDoor
