/-
  Slices of one-cell elements of the call's own, an empty one without room among them; append to them as one law. Lists of byte lists.
  No condition.
-/
import Derived.Test.YthalmjjbamglgaaDoorBytes
import Derived.Laws.AppendOwn
import Derived.Laws.AppendOwnNone
namespace Go.Proofs.YthalmjjbamglgaaDoor
open Go.RowKit

/-- The block that an append may write: none where there is no room. -/
def obk : Value → Option Nat
  | .slice (some a) _ c => if c = 0 then none else some a.block
  | _ => none
/-- The block that a reading looks at: none where there is nothing. -/
def rdk : Value → Option Nat
  | .slice (some a) n _ => if n = 0 then none else some a.block
  | _ => none

/-- A slice of the call's own that reads as xs; or an empty one without room, wherever it points. -/
def Ob (w : World) (base : Nat) (e : TypeId) (v : Value) (n : Nat) (xs : List Value) : Prop :=
  (n = 0 ∧ xs = [] ∧ ∃ A, v = .slice A 0 0) ∨ (w.ownsRow base e 1 v n xs ∧ ∃ g c, v = .slice (some ⟨g, 0, none⟩) n c ∧ 0 < c)

theorem ob_nil (w : World) (base : Nat) (e : TypeId) (A : Option Addr) : Ob w base e (.slice A 0 0) 0 [] := .inl ⟨rfl, rfl, A, rfl⟩
theorem ob_own {w : World} {base : Nat} {e : TypeId} {v : Value} {n : Nat} {xs : List Value} (h : w.ownsRow base e 1 v n xs) : Ob w base e v n xs := by
  rcases h.2 with ⟨rfl, rfl⟩ | ⟨g, cap, cur, rfl, h1, h2, h3, h4, h5, h6⟩
  · have hx : xs = [] := List.eq_nil_of_length_eq_zero (by have := h.1; omega)
    subst hx
    exact ob_nil _ _ _ _
  · rcases Nat.eq_zero_or_pos cap with rfl | hc
    · have hn : n = 0 := by omega
      subst hn
      have hx : xs = [] := List.eq_nil_of_length_eq_zero (by have := h.1; omega)
      subst hx
      exact ob_nil _ _ _ _
    · exact .inr ⟨h, g, cap, rfl, hc⟩

section
variable {P : Program} {w w' : World} {base : Nat} {e : TypeId} {v : Value} {n : Nat} {xs : List Value}
theorem Ob.len (h : Ob w base e v n xs) : xs.length = n := by
  rcases h with ⟨rfl, rfl, _⟩ | ⟨h, _⟩
  · rfl
  · have := h.1; omega
theorem Ob.slice (h : Ob w base e v n xs) : ∃ A c, v = .slice A n c ∧ n ≤ c ∧ c ≤ maxLen := by
  rcases h with ⟨rfl, rfl, A, rfl⟩ | ⟨h, g, c, rfl, hc⟩
  · exact ⟨A, 0, rfl, Nat.le_refl _, Nat.zero_le _⟩
  · rcases h.2 with ⟨he, _⟩ | ⟨g', cap, cur, he, h1, h2, h3, h4, h5, h6⟩
    · cases he
    · cases he
      exact ⟨_, _, rfl, h3, h4⟩
theorem Ob.block (h : Ob w base e v n xs) : ∀ k, obk v = some k → base ≤ k ∧ k < w.heap.size := by
  intro k hk
  rcases h with ⟨rfl, rfl, A, rfl⟩ | ⟨h, g, c, rfl, hc⟩
  · cases A <;> simp [obk] at hk
  · have : g = k := by simpa [obk, Nat.ne_of_gt hc] using hk
    subst this
    exact h.lt g rfl
theorem Ob.rdk (h : Ob w base e v n xs) : ∀ k, rdk v = some k → obk v = some k := by
  intro k hk
  rcases h with ⟨rfl, rfl, A, rfl⟩ | ⟨h, g, c, rfl, hc⟩
  · cases A <;> simp [Proofs.YthalmjjbamglgaaDoor.rdk] at hk
  · simp only [Proofs.YthalmjjbamglgaaDoor.rdk] at hk
    split at hk
    · cases hk
    · simpa [obk, Nat.ne_of_gt hc] using hk
/-- It reads as its list. -/
theorem Ob.rd (h : Ob w base e v n xs) {f : Nat → Value} (hx : ∀ i, i < n → xs[i]? = some (f i)) {A : Option Addr} {c : Nat} (hv : v = .slice A n c) : Rd w A n f := by
  subst hv
  rcases h with ⟨rfl, rfl, _⟩ | ⟨h, _⟩
  · exact Rd.zero _ _ _
  · exact Rd.own h hx
theorem Ob.keep (h : Ob w base e v n xs) (hb : ∀ k, obk v = some k → w'.heap[k]? = w.heap[k]?) : Ob w' base e v n xs := by
  rcases h with h | ⟨h, g, c, rfl, hc⟩
  · exact .inl h
  · refine .inr ⟨⟨h.1, ?_⟩, g, c, rfl, hc⟩
    rcases h.2 with he | ⟨g', cap, cur, he, h1, h2, h3, h4, h5, h6⟩
    · exact .inl he
    · cases he
      exact .inr ⟨g, c, cur, rfl, h1, (hb g (by simp [obk, Nat.ne_of_gt hc])).trans h2, h3, h4, h5, h6⟩
theorem Ob.chg {S : Nat → Prop} (h : Ob w base e v n xs) (hc : Chg S w w') (hs : ∀ k, obk v = some k → ¬ S k) : Ob w' base e v n xs :=
  h.keep fun k hk => hc.block k (h.block k hk).2 (hs k hk)
theorem Ob.low {base' : Nat} (h : Ob w base e v n xs) (hb : ∀ k, obk v = some k → base' ≤ k) : Ob w base' e v n xs := by
  rcases h with h | ⟨h, g, c, rfl, hc⟩
  · exact .inl h
  · refine .inr ⟨⟨h.1, ?_⟩, g, c, rfl, hc⟩
    rcases h.2 with he | ⟨g', cap, cur, he, h1, h2, h3, h4, h5, h6⟩
    · exact .inl he
    · cases he
      exact .inr ⟨g, c, cur, rfl, hb g (by simp [obk, Nat.ne_of_gt hc]), h2, h3, h4, h5, h6⟩

theorem rd_list {A : Option Addr} {m : Nat} {f : Nat → Value} (news : List Value) (hl : news.length = m) (hf : ∀ i, i < m → news[i]? = some (f i)) (hr : Rd w A m f) (hm : 0 < m) :
    ∃ ad, A = some ad ∧ ∀ j u, news[j]? = some u → w.cell? (ad.add j) = some u := by
  obtain ⟨ad, e, hc⟩ := hr hm
  refine ⟨ad, e, fun j u hj => ?_⟩
  have hjl : j < m := by
    rw [← hl]
    exact (List.getElem?_eq_some_iff.1 hj).1
  rw [hc j hjl, ← hf j hjl, hj]

theorem run_append_none (t ty : TypeId) (i : TypeInfo) (ht : P.underlying t = some (.slice e)) (hi : P.info? e = some i) (A B : Option Addr) (n c d : Nat) (hnc : n ≤ c) :
    (Builtin.append_ #[t, t] ty #[.slice A n c, .slice B 0 d]).run P w = .ok (.slice A n c) w := by
  cases A <;> cases B <;> simp [Builtin.append_, run_underlying ht, sizeOf, typeInfo, hi, Builtin.lenOf, Builtin.firstCells, loadCells, loadCellsFrom, hnc, storeCells]

theorem ob_grown (z : Value) (hzs : z.cells.size = 1) (news : List Value) (old : Nat) (hx : xs.length = n) (hn : 0 < n + news.length) (h63 : n + news.length ≤ maxLen) (hbase : base ≤ w.heap.size) :
    Ob (w.drew.alloc (.cells (xs.toArray ++ news.toArray ++ Builtin.zeroCells z.cells (grownCap w (n + news.length) old e - (n + news.length))) e)) base e
      (.slice (some ⟨w.heap.size, 0, none⟩) (n + news.length) (grownCap w (n + news.length) old e)) (n + news.length) (xs ++ news) := by
  have hge := grownCap_ge w (n + news.length) old e
  have hcm := grownCap_le_maxLen w (n + news.length) old e h63
  refine .inr ⟨⟨?_, .inr ⟨w.heap.size, _, _, rfl, hbase, heap_alloc_new w.drew _, hge, hcm, ?_, ?_⟩⟩, _, _, rfl, by omega⟩
  · rw [List.length_append, hx, Nat.mul_one]
  · simp only [Array.size_append, List.size_toArray, size_zeroCells, hzs, hx]
    omega
  · simp only [Array.toList_append, Nat.mul_one]
    exact List.take_left' (by rw [List.length_append, hx])

/-- append to an owned slice, or to an empty one without room. -/
theorem run_append_ob (t ty : TypeId) (i : TypeInfo) (z : Value) (bytes : Nat) (ht : P.underlying t = some (.slice e)) (hi : P.info? e = some i) (hz : i.zero = some z) (hsize : i.size = 1) (hby : i.bytes = bytes) (hzs : z.cells.size = 1)
    (hown : Ob w base e v n xs) (A : Option Addr) (m c : Nat) (news : List Value) (hl : news.length = m) (hr : 0 < m → ∃ ad, A = some ad ∧ ∀ j u, news[j]? = some u → w.cell? (ad.add j) = some u) (h1 : ∀ u ∈ news, u.oneCell' = true)
    (h63 : n + m ≤ maxLen) (hbytes : (n + m) * bytes ≤ 140737488355328) (hbase : base ≤ w.heap.size) :
    ∃ v' w', (Builtin.append_ #[t, t] ty #[v, .slice A m c]).run P w = .ok v' w' ∧ Ob w' base e v' (n + m) (xs ++ news) ∧ w.grownBy w' (obk v) ∧ (obk v' = obk v ∨ obk v' = some w.heap.size) ∧ (m = 0 → v' = v) := by
  subst hl
  subst hby
  rcases Nat.eq_zero_or_pos news.length with h0 | hm
  · have hn : news = [] := List.eq_nil_of_length_eq_zero h0
    subst hn
    obtain ⟨A', c', rfl, hnc, _⟩ := hown.slice
    refine ⟨_, w, run_append_none t ty i ht hi A' A n c' c hnc, by simpa using hown, ⟨rfl, rfl, rfl, Nat.le_refl _, fun _ _ _ => rfl⟩, .inl rfl, fun _ => rfl⟩
  · obtain ⟨ad, rfl, hnews⟩ := hr hm
    have h63' : ((n + news.length : Nat) : Int) ≤ 9223372036854775807 := by simp only [maxLen] at h63; omega
    have hg : ∀ old, w.grownBy (w.drew.alloc (.cells (xs.toArray ++ news.toArray ++ Builtin.zeroCells z.cells (grownCap w (n + news.length) old e - (n + news.length))) e)) (obk v) := fun old =>
      ⟨rfl, rfl, rfl, by simp, fun k hk _ => Below.heap_alloc w.drew _ k hk⟩
    have hlen := hown.len
    have hob := hown
    rcases hown with ⟨rfl, rfl, A', rfl⟩ | ⟨hown, g, cap, rfl, hc⟩
    · have hgr := ob_grown (w := w) (base := base) (e := e) (xs := []) (n := 0) z hzs news 0 rfl (by omega) h63 hbase
      have hgc : 0 < grownCap w (0 + news.length) 0 e := Nat.lt_of_lt_of_le (by omega) (grownCap_ge w (0 + news.length) 0 e)
      cases A' with
      | none =>
        have hrun := run_append_nil (P := P) w t ty e i z ht hi hz ad news.length c news (by rw [hsize]; omega) hnews hm (by omega) (by simp only [Nat.zero_add] at hbytes; omega)
        have hg0 := hg 0
        simp only [Nat.zero_add, List.nil_append, Array.empty_append] at hgr hg0 hgc ⊢
        exact ⟨_, _, hrun, hgr, hg0, .inr (by simp [obk, Nat.ne_of_gt hgc]), fun h => by omega⟩
      | some a' =>
        have hrun := run_append_grow (P := P) w t ty e i z ht hi hz a' 0 0 [] (by simp) (fun j u hj => by simp at hj) ad news.length c news (by rw [hsize]; omega) hnews (by omega) h63' (growslice_fits (by omega) hbytes)
        simp only [Nat.zero_add] at hgc hrun hgr hg ⊢
        exact ⟨_, _, hrun, hgr, hg 0, .inr (by simp [obk, Nat.ne_of_gt hgc]), fun h => by omega⟩
    · by_cases hroom : n + news.length ≤ cap
      · rcases hown.2 with ⟨he, _⟩ | ⟨g', cap', cur, he, hb1, hb2, hb3, hb4, hb5, hb6⟩
        · cases he
        · cases he
          have hrun := run_append_room (P := P) w t ty e i ht hi g n cap cur hb2 ad news.length c news (by rw [hsize]; omega) hnews h1 hroom (by rw [hsize]; omega)
          refine ⟨_, _, hrun, .inr ⟨⟨?_, .inr ⟨g, cap, _, rfl, hb1, setRow_heap w g cur _ e _ hb2, hroom, hb4, ?_, ?_⟩⟩, _, _, rfl, hc⟩, ⟨rfl, rfl, rfl, by simp, fun k _ hk => setRow_other w g k _ (fun e => hk (by simp [obk, e, Nat.ne_of_gt hc]))⟩, .inl ?_, fun h => by omega⟩
          · rw [List.length_append, hlen, Nat.mul_one]
          · simp only [List.size_toArray, List.length_append, List.length_take, List.length_drop, Array.length_toList, hsize]
            omega
          · simp only [hsize, Nat.mul_one] at hb6 ⊢
            rw [hb6]
            exact List.take_left' (by rw [List.length_append, hlen])
          · simp [obk]
      · have holds : ∀ j u, xs[j]? = some u → w.cell? ((⟨g, 0, none⟩ : Addr).add j) = some u := hown.cells (g := g) rfl
        have hrun := run_append_grow (P := P) w t ty e i z ht hi hz ⟨g, 0, none⟩ n cap xs (by rw [hsize, hlen, Nat.mul_one]) holds ad news.length c news (by rw [hsize]; omega) hnews (by omega) h63' (growslice_fits (by omega) hbytes)
        have hgr := ob_grown (w := w) (base := base) (e := e) (xs := xs) (n := n) z hzs news cap hlen (by omega) h63 hbase
        have hgc : 0 < grownCap w (n + news.length) cap e := Nat.lt_of_lt_of_le (by omega) (grownCap_ge w (n + news.length) cap e)
        exact ⟨_, _, hrun, hgr, hg cap, .inr (by simp [obk, Nat.ne_of_gt hgc]), fun h => by omega⟩

theorem wpList_append_ob {ops : Array Oper} {rest : List Oper} {o : Oper} {a : Act} {Q : Exit → Act → World → Prop} (hgd : o.guard = none) (s x : Operand) (t : TypeId)
    (ho : o.op = .call { callee := .builtin .append, args := #[s, x], argTypes := #[t, t] })
    (i : TypeInfo) (z : Value) (bytes : Nat) (ht : P.underlying t = some (.slice e)) (hi : P.info? e = some i) (hz : i.zero = some z) (hsize : i.size = 1) (hby : i.bytes = bytes) (hzs : z.cells.size = 1)
    (hs : a.eval s = v) (hown : Ob w base e v n xs) (A : Option Addr) (m c : Nat) (news : List Value) (hx : a.eval x = .slice A m c) (hl : news.length = m)
    (hr : 0 < m → ∃ ad, A = some ad ∧ ∀ j u, news[j]? = some u → w.cell? (ad.add j) = some u) (h1 : ∀ u ∈ news, u.oneCell' = true)
    (h63 : n + m ≤ maxLen) (hbytes : (n + m) * bytes ≤ 140737488355328) (hbase : base ≤ w.heap.size)
    (h : ∀ v' w', Ob w' base e v' (n + m) (xs ++ news) → w.grownBy w' (obk v) → (obk v' = obk v ∨ obk v' = some w.heap.size) → (m = 0 → v' = v) → wpList P ops Q rest (a.put o.dst v') w') : wpList P ops Q (o :: rest) a w := by
  refine wpList_plain hgd fun K hK => ?_
  obtain ⟨v', w', hrun, h2, h3, h4, h5⟩ := run_append_ob (P := P) (w := w) t o.type i z bytes ht hi hz hsize hby hzs hown A m c news hl hr h1 h63 hbytes hbase
  unfold Oper.wp execOp
  simp only [ho, resolve, invoke, builtin, Sem.run_bind, Sem.run_pure, Result.andThen_ok, List.map_toArray, List.map_cons, List.map_nil, hs, hx, hrun]
  exact hK _ _ (h v' w' h2 h3 h4 h5)
end

/-! ### Lists of bytes, lists of lists -/
inductive All2 {α β : Type} (R : α → β → Prop) : List α → List β → Prop
  | nil : All2 R [] []
  | cons {a b us bs} : R a b → All2 R us bs → All2 R (a :: us) (b :: bs)
section
variable {α β : Type} {R R' : α → β → Prop}
theorem All2.len : ∀ {us : List α} {bs : List β}, All2 R us bs → us.length = bs.length
  | _, _, .nil => rfl
  | _, _, .cons _ h => by simp [h.len]
theorem All2.app : ∀ {us : List α} {bs : List β} {cs : List α} {ds : List β}, All2 R us bs → All2 R cs ds → All2 R (us ++ cs) (bs ++ ds)
  | _, _, _, _, .nil, h => h
  | _, _, _, _, .cons h h', k => .cons h (h'.app k)
theorem All2.mono : ∀ {us : List α} {bs : List β}, All2 R us bs → (∀ a b, a ∈ us → b ∈ bs → R a b → R' a b) → All2 R' us bs
  | _, _, .nil, _ => .nil
  | _, _, .cons h h', k => .cons (k _ _ (List.mem_cons_self ..) (List.mem_cons_self ..) h) (h'.mono fun a b ha hb => k a b (List.mem_cons_of_mem _ ha) (List.mem_cons_of_mem _ hb))
theorem All2.get : ∀ {us : List α} {bs : List β}, All2 R us bs → ∀ {i : Nat} {a : α} {b : β}, us[i]? = some a → bs[i]? = some b → R a b
  | _, _, .cons h _, 0, _, _, e, e' => by
    simp only [List.getElem?_cons_zero, Option.some.injEq] at e e'
    subst e e'
    exact h
  | _, _, .cons _ h', i + 1, _, _, e, e' => h'.get (i := i) (by simpa using e) (by simpa using e')
theorem All2.of : ∀ {us : List α} {bs : List β}, us.length = bs.length → (∀ (i : Nat) (a : α) (b : β), us[i]? = some a → bs[i]? = some b → R a b) → All2 R us bs
  | [], [], _, _ => .nil
  | [], _ :: _, h, _ => by simp at h
  | _ :: _, [], h, _ => by simp at h
  | a :: us, b :: bs, h, k => .cons (k 0 a b rfl rfl) (All2.of (by simpa using h) fun i a b e e' => k (i + 1) a b (by simpa using e) (by simpa using e'))
theorem All2.take : ∀ {us : List α} {bs : List β}, All2 R us bs → ∀ k, All2 R (us.take k) (bs.take k)
  | _, _, .nil, k => by simp; exact .nil
  | _, _, .cons h h', 0 => by simp; exact .nil
  | _, _, .cons h h', k + 1 => by simp only [List.take_succ_cons]; exact .cons h (h'.take k)
theorem All2.drop : ∀ {us : List α} {bs : List β}, All2 R us bs → ∀ k, All2 R (us.drop k) (bs.drop k)
  | _, _, .nil, k => by simp; exact .nil
  | _, _, .cons h h', 0 => .cons h h'
  | _, _, .cons h h', k + 1 => by simp only [List.drop_succ_cons]; exact h'.drop k
end

/-- A slice value that reads as bytes. -/
def Bs (w : World) (v : Value) (xs : List Int) : Prop := ∃ A n c, v = .slice A n c ∧ xs.length = n ∧ Byt xs ∧ (Rd w A n fun i => .int .u8 (xs.getD i 0)) ∧ n ≤ c
theorem rdk_rd {w : World} {A : Option Addr} {n c : Nat} {f : Nat → Value} (h : Rd w A n f) : ∀ k, rdk (.slice A n c) = some k → k < w.heap.size := by
  intro k hk
  cases A with
  | none => simp [rdk] at hk
  | some a =>
    simp only [rdk] at hk
    split at hk
    · cases hk
    · obtain rfl := Option.some.inj hk
      exact h.lt a (by omega) rfl
theorem Rd.same {w w' : World} {A : Option Addr} {n c : Nat} {f : Nat → Value} (h : Rd w A n f) (hb : ∀ k, rdk (.slice A n c) = some k → w'.heap[k]? = w.heap[k]?) : Rd w' A n f := fun hn => by
  obtain ⟨ad, e, hc⟩ := h hn
  subst e
  refine ⟨ad, rfl, fun i hi => (World.cell?_of_block ?_).trans (hc i hi)⟩
  rw [block_add]
  exact hb _ (by simp [rdk, Nat.ne_of_gt hn])
section
variable {w w' : World} {v : Value} {xs : List Int}
theorem Bs.block (h : Bs w v xs) : ∀ k, rdk v = some k → k < w.heap.size := by
  obtain ⟨A, n, c, rfl, _, _, hr, _⟩ := h
  exact rdk_rd hr
theorem Bs.same (h : Bs w v xs) (hb : ∀ k, rdk v = some k → w'.heap[k]? = w.heap[k]?) : Bs w' v xs := by
  obtain ⟨A, n, c, rfl, hl, hby, hr, hnc⟩ := h
  exact ⟨A, n, c, rfl, hl, hby, hr.same hb, hnc⟩
theorem Bs.chg {S : Nat → Prop} (h : Bs w v xs) (hc : Chg S w w') (hs : ∀ k, rdk v = some k → ¬ S k) : Bs w' v xs := h.same fun k hk => hc.block k (h.block k hk) (hs k hk)
theorem Bs.byt (h : Bs w v xs) : Byt xs := by
  obtain ⟨_, _, _, _, _, hb, _, _⟩ := h
  exact hb
theorem Bs.of_ob {base : Nat} {e : TypeId} {n : Nat} (h : Ob w base e v n (xs.map (Value.int .u8))) (hb : Byt xs) : Bs w v xs := by
  have hl : xs.length = n := by simpa using h.len
  obtain ⟨A, c, rfl, hnc, _⟩ := h.slice
  exact ⟨A, n, c, rfl, hl, hb, h.rd (fun i hi => ints_get (by omega)) rfl, hnc⟩
/-- The source's cells as an append asks them. -/
theorem rd_ints {A : Option Addr} {n : Nat} (hl : xs.length = n) (hr : Rd w A n fun i => .int .u8 (xs.getD i 0)) : 0 < n → ∃ ad, A = some ad ∧ ∀ j u, (xs.map (Value.int .u8))[j]? = some u → w.cell? (ad.add j) = some u :=
  rd_list _ (by simpa using hl) (fun i hi => ints_get (by omega)) hr
theorem ints_one (kd : IntKind) : ∀ u ∈ xs.map (Value.int kd), u.oneCell' = true := by
  intro u hu
  obtain ⟨z, _, rfl⟩ := List.mem_map.1 hu
  rfl
end
end Go.Proofs.YthalmjjbamglgaaDoor
