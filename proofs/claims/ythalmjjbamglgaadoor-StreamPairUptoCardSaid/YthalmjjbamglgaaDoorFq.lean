/-
  Slices of the call's own that begin anywhere in their block: one element appended, the first taken off.
  No condition.
-/
import Derived.Test.YthalmjjbamglgaaDoorG2
import Derived.Test.YthalmjjbamglgaaDoorG1
import Derived.ArgAppend
import Derived.Laws.AppendOwn
namespace Go.Proofs.YthalmjjbamglgaaDoor
open Go.RowKit

theorem setCells_is {g : Nat} {t : TypeId} : ∀ (vs : List Value) (o : Nat) (w : World) (cur : Array Value), Is w g t cur → o + vs.length ≤ cur.size →
    ∃ cur', Is (w.setCells g o vs) g t cur' ∧ cur'.size = cur.size ∧ (∀ j, j < o → cur'[j]? = cur[j]?) ∧ (∀ j, j < vs.length → cur'[o + j]? = vs[j]?) ∧ Chg (fun k => k = g) w (w.setCells g o vs)
  | [], o, w, cur, h, _ => ⟨cur, h, rfl, fun _ _ => rfl, (fun j hj => by cases hj), Chg.refl _ _⟩
  | v :: vs, o, w, cur, h, hs => by
    have hs' : o + 1 + vs.length ≤ cur.size := by simp only [List.length_cons] at hs; omega
    obtain ⟨cur', h1, h2, h3, h4, h5⟩ := setCells_is vs (o + 1) (w.setCell ⟨g, o, none⟩ v) (cur.setIfInBounds o v) (h.put o v) (by rw [Array.size_setIfInBounds]; exact hs')
    rw [Array.size_setIfInBounds] at h2
    refine ⟨cur', h1, h2, fun j hj => ?_, fun j hj => ?_, ((Chg.refl (fun k => k = g) w).setCell (p := ⟨g, o, none⟩) (fun _ => rfl) v).trans h5⟩
    · rw [h3 j (by omega), Array.getElem?_setIfInBounds_ne (by omega)]
    · cases j with
      | zero =>
        rw [Nat.add_zero, h3 o (by omega), Array.getElem?_setIfInBounds_self_of_lt (by omega)]
        rfl
      | succ j =>
        have := h4 j (by simpa using hj)
        rw [show o + (j + 1) = o + 1 + j by omega, this]
        rfl

/-- A queue: n elements of sz cells. -/
def Fq (w : World) (base : Nat) (e : TypeId) (sz : Nat) (v : Value) (n : Nat) (xs : List Value) : Prop :=
  (n = 0 ∧ xs = [] ∧ ∃ A, v = .slice A 0 0) ∨ ∃ g off c cur, v = .slice (some ⟨g, off, none⟩) n c ∧ 0 < c ∧ base ≤ g ∧ Is w g e cur ∧ off + c * sz ≤ cur.size ∧ n ≤ c ∧ c ≤ maxLen ∧ xs.length = n * sz ∧ ∀ j, j < xs.length → cur[off + j]? = xs[j]?
section
variable {P : Program} {w w' : World} {base : Nat} {e : TypeId} {sz : Nat} {v : Value} {n : Nat} {xs : List Value}
theorem fq_nil (w : World) (base : Nat) (e : TypeId) (sz : Nat) (A : Option Addr) : Fq w base e sz (.slice A 0 0) 0 [] := .inl ⟨rfl, rfl, A, rfl⟩
theorem Fq.len (h : Fq w base e sz v n xs) : xs.length = n * sz := by
  rcases h with ⟨rfl, rfl, _⟩ | ⟨g, off, c, cur, _, _, _, _, _, _, _, hl, _⟩
  · simp
  · exact hl
theorem Fq.slice (h : Fq w base e sz v n xs) : ∃ A c, v = .slice A n c ∧ n ≤ c ∧ c ≤ maxLen := by
  rcases h with ⟨rfl, rfl, A, rfl⟩ | ⟨g, off, c, cur, rfl, _, _, _, _, h6, h7, _, _⟩
  · exact ⟨A, 0, rfl, Nat.le_refl _, Nat.zero_le _⟩
  · exact ⟨_, _, rfl, h6, h7⟩
theorem Fq.block (h : Fq w base e sz v n xs) : ∀ k, obk v = some k → base ≤ k ∧ k < w.heap.size := by
  intro k hk
  rcases h with ⟨rfl, rfl, A, rfl⟩ | ⟨g, off, c, cur, rfl, hc, hb, hi, _⟩
  · cases A <;> simp [obk] at hk
  · have : g = k := by simpa [obk, Nat.ne_of_gt hc] using hk
    subst this
    exact ⟨hb, hi.lt⟩
theorem Fq.chg {S : Nat → Prop} (h : Fq w base e sz v n xs) (hc : Chg S w w') (hs : ∀ k, obk v = some k → ¬ S k) : Fq w' base e sz v n xs := by
  rcases h with h | ⟨g, off, c, cur, rfl, h0, h1, h2, h3⟩
  · exact .inl h
  · exact .inr ⟨g, off, c, cur, rfl, h0, h1, h2.chg hc (hs g (by simp [obk, Nat.ne_of_gt h0])), h3⟩
theorem Fq.keep (h : Fq w base e sz v n xs) (hc : Chg none_ w w') : Fq w' base e sz v n xs := h.chg hc fun _ _ f => f
/-- The cells. -/
theorem Fq.at_ (h : Fq w base e sz v n xs) (hn : 0 < n) : ∃ g off c, v = .slice (some ⟨g, off, none⟩) n c ∧ n ≤ c ∧ ∀ j u, xs[j]? = some u → w.cell? ⟨g, off + j, none⟩ = some u := by
  rcases h with ⟨rfl, _⟩ | ⟨g, off, c, cur, rfl, _, _, h2, _, h4, _, _, h7⟩
  · exact absurd hn (Nat.lt_irrefl 0)
  · refine ⟨g, off, c, rfl, h4, fun j u hj => ?_⟩
    have hlt := (List.getElem?_eq_some_iff.1 hj).1
    rw [h2.cell, h7 j hlt, hj]
/-- The first taken off. -/
theorem Fq.tail (h : Fq w base e sz v (n + 1) xs) : ∃ A c, v = .slice (some A) (n + 1) c ∧ n + 1 ≤ c ∧ Fq w base e sz (.slice (if c - 1 = 0 then some A else some (A.add sz)) n (c - 1)) n (xs.drop sz) ∧ ∀ k, obk (.slice (if c - 1 = 0 then some A else some (A.add sz)) n (c - 1)) = some k → obk v = some k := by
  rcases h with ⟨h, _⟩ | ⟨g, off, c, cur, rfl, h0, h1, h2, h3, h4, h5, h6, h7⟩
  · cases h
  · refine ⟨⟨g, off, none⟩, c, rfl, h4, ?_, fun k hk => ?_⟩
    · by_cases hc : c - 1 = 0
      · obtain rfl : n = 0 := by omega
        rw [if_pos hc, hc]
        exact .inl ⟨rfl, List.drop_of_length_le (by omega), _, rfl⟩
      · rw [if_neg hc, addr_off]
        refine .inr ⟨g, off + sz, c - 1, cur, rfl, by omega, h1, h2, ?_, by omega, by omega, ?_, fun j hj => ?_⟩
        · have : c * sz = (c - 1) * sz + sz := by rw [← Nat.succ_mul]; congr 1; omega
          omega
        · rw [List.length_drop, h6, Nat.succ_mul]; omega
        · rw [List.length_drop] at hj
          rw [List.getElem?_drop, Nat.add_assoc, h7 (sz + j) (by omega)]
    · by_cases hc : c - 1 = 0
      · rw [if_pos hc, hc] at hk
        simp [obk] at hk
      · rw [if_neg hc, addr_off] at hk
        simp only [obk, hc, if_false] at hk
        simp only [obk, Nat.ne_of_gt h0, if_false]
        exact hk
/-- One element appended. -/
theorem run_append_fq (t ty : TypeId) (i : TypeInfo) (z : Value) (bytes : Nat) (ht : P.underlying t = some (.slice e)) (hi : P.info? e = some i) (hz : i.zero = some z) (hsize : i.size = sz) (hby : i.bytes = bytes) (hzs : z.cells.size = sz)
    (hown : Fq w base e sz v n xs) (a : Addr) (c : Nat) (news : List Value) (hl : news.length = sz) (hnews : ∀ j u, news[j]? = some u → w.cell? (a.add j) = some u) (h1 : ∀ u ∈ news, u.oneCell' = true)
    (hb : (n + 1) * bytes ≤ 140737488355328) (h63 : n + 1 ≤ maxLen) (hbase : base ≤ w.heap.size) :
    ∃ v' w', (Builtin.append_ #[t, t] ty #[v, .slice (some a) 1 c]).run P w = .ok v' w' ∧ Fq w' base e sz v' (n + 1) (xs ++ news) ∧ w.grownBy w' (obk v) ∧ (obk v' = obk v ∨ obk v' = some w.heap.size) := by
  subst hsize
  subst hby
  have h63' : ((n + 1 : Nat) : Int) ≤ 9223372036854775807 := by simp only [maxLen] at h63; omega
  have hlen := hown.len
  -- a new block
  have hnew : ∀ old, Fq (w.drew.alloc (.cells (xs.toArray ++ news.toArray ++ Builtin.zeroCells z.cells (grownCap w (n + 1) old e - (n + 1))) e)) base e i.size (.slice (some ⟨w.heap.size, 0, none⟩) (n + 1) (grownCap w (n + 1) old e)) (n + 1) (xs ++ news) := fun old => by
    have hge := grownCap_ge w (n + 1) old e
    have hcm := grownCap_le_maxLen w (n + 1) old e h63
    refine .inr ⟨w.heap.size, 0, _, _, rfl, by omega, hbase, heap_alloc_new w.drew _, ?_, hge, hcm, ?_, fun j hj => ?_⟩
    · simp only [Array.size_append, List.size_toArray, size_zeroCells, hzs, hlen, hl]
      have : grownCap w (n + 1) old e * i.size = n * i.size + i.size + (grownCap w (n + 1) old e - (n + 1)) * i.size := by
        rw [← Nat.succ_mul, ← Nat.add_mul]; congr 1; omega
      omega
    · rw [List.length_append, hlen, hl, Nat.succ_mul]
    · rw [Nat.zero_add, Array.getElem?_append_left (by simpa using hj)]
      simp
  have hg : ∀ old, w.grownBy (w.drew.alloc (.cells (xs.toArray ++ news.toArray ++ Builtin.zeroCells z.cells (grownCap w (n + 1) old e - (n + 1))) e)) (obk v) := fun old =>
    ⟨rfl, rfl, rfl, by simp, fun k hk _ => Below.heap_alloc w.drew _ k hk⟩
  rcases hown with ⟨rfl, rfl, A', rfl⟩ | ⟨g, off, cap, cur, rfl, h0, h2, h3, h4, h5, h6, h7, h8⟩
  · have hgc : 0 < grownCap w (0 + 1) 0 e := Nat.lt_of_lt_of_le (by omega) (grownCap_ge w (0 + 1) 0 e)
    have hn := hnew 0
    have hg0 := hg 0
    cases A' with
    | none =>
      have hrun := run_append_nil (P := P) w t ty e i z ht hi hz a 1 c news (by rw [hl, Nat.one_mul]) hnews (by omega) (by omega) (by simp only [Nat.zero_add] at hb; omega)
      simp only [Nat.zero_add, List.nil_append, Array.empty_append] at hn hg0 hgc hrun ⊢
      exact ⟨_, _, hrun, hn, hg0, .inr (by simp [obk, Nat.ne_of_gt hgc])⟩
    | some a' =>
      have hrun := run_append_grow (P := P) w t ty e i z ht hi hz a' 0 0 [] (by simp) (fun j u hj => by simp at hj) a 1 c news (by rw [hl, Nat.one_mul]) hnews (by omega) h63' (growslice_fits (by omega) hb)
      simp only [Nat.zero_add] at hgc hrun hn hg0 ⊢
      exact ⟨_, _, hrun, hn, hg0, .inr (by simp [obk, Nat.ne_of_gt hgc])⟩
  · by_cases hroom : n + 1 ≤ cap
    · have hfit : off + n * i.size + news.length ≤ cur.size := by
        have : (n + 1) * i.size ≤ cap * i.size := Nat.mul_le_mul_right _ hroom
        rw [Nat.succ_mul] at this
        omega
      have hrun := run_append_room_cells (P := P) w t ty e i ht hi g off n cap a 1 c news (by rw [hl, Nat.one_mul]) hnews h1 hroom (fun j hj => by rw [h3.cell, Array.getElem?_eq_getElem (show off + n * i.size + j < cur.size by omega)]; rfl) (fun j _ => h3.frozen _)
      obtain ⟨cur', k1, k2, k3, k4, k5⟩ := setCells_is news (off + n * i.size) w cur h3 hfit
      refine ⟨_, _, hrun, .inr ⟨g, off, cap, cur', rfl, h0, h2, k1, by rw [k2]; exact h4, hroom, h6, ?_, fun j hj => ?_⟩, ⟨k5.os, k5.tape, k5.output, k5.size, fun k hk hne => k5.block k hk fun e => hne (by simp [obk, e, Nat.ne_of_gt h0])⟩, .inl (by simp [obk])⟩
      · rw [List.length_append, hlen, hl, Nat.succ_mul]
      · by_cases hj' : j < xs.length
        · rw [k3 (off + j) (by omega), h8 j hj', List.getElem?_append_left hj']
        · rw [List.length_append] at hj
          rw [List.getElem?_append_right (by omega), ← k4 (j - xs.length) (by omega)]
          congr 1
          omega
    · have holds : ∀ j u, xs[j]? = some u → w.cell? ((⟨g, off, none⟩ : Addr).add j) = some u := fun j u hj => by
        rw [addr_off, h3.cell, h8 j (List.getElem?_eq_some_iff.1 hj).1, hj]
      have hrun := run_append_grow (P := P) w t ty e i z ht hi hz ⟨g, off, none⟩ n cap xs hlen holds a 1 c news (by rw [hl, Nat.one_mul]) hnews (by omega) h63' (growslice_fits (by omega) hb)
      have hgc : 0 < grownCap w (n + 1) cap e := Nat.lt_of_lt_of_le (by omega) (grownCap_ge w (n + 1) cap e)
      exact ⟨_, _, hrun, hnew cap, hg cap, .inr (by simp [obk, Nat.ne_of_gt hgc])⟩
theorem wpList_append_fq {ops : Array Oper} {rest : List Oper} {o : Oper} {a : Act} {Q : Exit → Act → World → Prop} (hgd : o.guard = none) (s x : Operand) (t : TypeId)
    (ho : o.op = .call { callee := .builtin .append, args := #[s, x], argTypes := #[t, t] })
    (i : TypeInfo) (z : Value) (bytes : Nat) (ht : P.underlying t = some (.slice e)) (hi : P.info? e = some i) (hz : i.zero = some z) (hsize : i.size = sz) (hby : i.bytes = bytes) (hzs : z.cells.size = sz)
    (hs : a.eval s = v) (hown : Fq w base e sz v n xs) (A : Addr) (c : Nat) (news : List Value) (hx : a.eval x = .slice (some A) 1 c) (hl : news.length = sz)
    (hnews : ∀ j u, news[j]? = some u → w.cell? (A.add j) = some u) (h1 : ∀ u ∈ news, u.oneCell' = true) (hb : (n + 1) * bytes ≤ 140737488355328) (h63 : n + 1 ≤ maxLen) (hbase : base ≤ w.heap.size)
    (h : ∀ v' w', Fq w' base e sz v' (n + 1) (xs ++ news) → w.grownBy w' (obk v) → (obk v' = obk v ∨ obk v' = some w.heap.size) → wpList P ops Q rest (a.put o.dst v') w') : wpList P ops Q (o :: rest) a w := by
  refine wpList_plain hgd fun K hK => ?_
  obtain ⟨v', w', hrun, h2, h3, h4⟩ := run_append_fq (P := P) (w := w) t o.type i z bytes ht hi hz hsize hby hzs hown A c news hl hnews h1 hb h63 hbase
  unfold Oper.wp execOp
  simp only [ho, resolve, invoke, builtin, Sem.run_bind, Sem.run_pure, Result.andThen_ok, List.map_toArray, List.map_cons, List.map_nil, hs, hx, hrun]
  exact hK _ _ (h v' w' h2 h3 h4)
/-- x[1:]. -/
theorem run_tail1 (t e : TypeId) (ht : P.underlying t = some (.slice e)) (i : TypeInfo) (hi : P.info? e = some i) (A : Addr) (n c : Nat) (hn : n + 1 ≤ c) :
    (Instr.sliceAt t (.slice (some A) (n + 1) c) (some (.int .i64 1)) none none).run P w = .ok (.slice (if c - 1 = 0 then some A else some (A.add i.size)) n (c - 1)) w := by
  have hE : P.elem t = e := by simp [Program.elem, ht]
  have ht' : P.underlying t = some (.slice (P.elem t)) := by rw [hE]; exact ht
  have h := run_slice_l w t (some A) (n + 1) c ht' .i64 1 (by omega) (by omega)
  rw [run_sliceAt_slice w t _ _ _ _ ht']
  rw [h]
  have hc : (c = 1) = (c - 1 = 0) := by apply propext; omega
  simp [sizeOf, typeInfo, hE, hi, sliced, Result.andThen, hc]
end
end Go.Proofs.YthalmjjbamglgaaDoor
