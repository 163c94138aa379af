/-
  Slices of one-cell elements of the call's own, an empty one without room among them; append to them as one law. Lists of byte lists.
  Slice expressions on slices of one-cell elements as one law; append of bytes and of byte lists as laws with the program's own numbers, in a row and in a region that draws its order.
  Own slices: a cell written, a prefix, and append that tells whether the slice moved.
  append to an empty slice without room, the new world written out.
  No condition of its own.
-/
import Derived.Test.YthalmjjbamglgaaDoorG1
import Derived.Laws.AppendOwn
import Derived.Laws.AppendOwnNone
import Derived.OwnWalk
import Derived.Deep.RegionLaw
import Derived.Lib.Hide
import Derived.Laws.OwnMore
import Derived.Laws.MakeOwn
namespace Go.Proofs.YthalmjjbamglgaaDoor
open Go.RowKit

/-- The block that an append may write: none where there is no room. -/
def obk : Value → Option Nat
  | .slice (some a) _ c => if c = 0 then none else some a.block
  | _ => none
/-- The block that a reading looks at: none where there is nothing. -/
def rdk : Value → Option Nat
  | .slice (some a) n _ => if n = 0 then none else some a.block
  | _ => none

/-- A slice of the call's own that reads as xs; or an empty one without room, wherever it points. -/
def Ob (w : World) (base : Nat) (e : TypeId) (v : Value) (n : Nat) (xs : List Value) : Prop :=
  (n = 0 ∧ xs = [] ∧ ∃ A, v = .slice A 0 0) ∨ (w.ownsRow base e 1 v n xs ∧ ∃ g c, v = .slice (some ⟨g, 0, none⟩) n c ∧ 0 < c)

theorem ob_nil (w : World) (base : Nat) (e : TypeId) (A : Option Addr) : Ob w base e (.slice A 0 0) 0 [] := .inl ⟨rfl, rfl, A, rfl⟩
theorem ob_own {w : World} {base : Nat} {e : TypeId} {v : Value} {n : Nat} {xs : List Value} (h : w.ownsRow base e 1 v n xs) : Ob w base e v n xs := by
  rcases h.2 with ⟨rfl, rfl⟩ | ⟨g, cap, cur, rfl, h1, h2, h3, h4, h5, h6⟩
  · have hx : xs = [] := List.eq_nil_of_length_eq_zero (by have := h.1; omega)
    subst hx
    exact ob_nil _ _ _ _
  · rcases Nat.eq_zero_or_pos cap with rfl | hc
    · have hn : n = 0 := by omega
      subst hn
      have hx : xs = [] := List.eq_nil_of_length_eq_zero (by have := h.1; omega)
      subst hx
      exact ob_nil _ _ _ _
    · exact .inr ⟨h, g, cap, rfl, hc⟩

section
variable {P : Program} {w w' : World} {base : Nat} {e : TypeId} {v : Value} {n : Nat} {xs : List Value}
theorem Ob.len (h : Ob w base e v n xs) : xs.length = n := by
  rcases h with ⟨rfl, rfl, _⟩ | ⟨h, _⟩
  · rfl
  · have := h.1; omega
theorem Ob.slice (h : Ob w base e v n xs) : ∃ A c, v = .slice A n c ∧ n ≤ c ∧ c ≤ maxLen := by
  rcases h with ⟨rfl, rfl, A, rfl⟩ | ⟨h, g, c, rfl, hc⟩
  · exact ⟨A, 0, rfl, Nat.le_refl _, Nat.zero_le _⟩
  · rcases h.2 with ⟨he, _⟩ | ⟨g', cap, cur, he, h1, h2, h3, h4, h5, h6⟩
    · cases he
    · cases he
      exact ⟨_, _, rfl, h3, h4⟩
theorem Ob.block (h : Ob w base e v n xs) : ∀ k, obk v = some k → base ≤ k ∧ k < w.heap.size := by
  intro k hk
  rcases h with ⟨rfl, rfl, A, rfl⟩ | ⟨h, g, c, rfl, hc⟩
  · cases A <;> simp [obk] at hk
  · have : g = k := by simpa [obk, Nat.ne_of_gt hc] using hk
    subst this
    exact h.lt g rfl
theorem Ob.rdk (h : Ob w base e v n xs) : ∀ k, rdk v = some k → obk v = some k := by
  intro k hk
  rcases h with ⟨rfl, rfl, A, rfl⟩ | ⟨h, g, c, rfl, hc⟩
  · cases A <;> simp [Proofs.YthalmjjbamglgaaDoor.rdk] at hk
  · simp only [Proofs.YthalmjjbamglgaaDoor.rdk] at hk
    split at hk
    · cases hk
    · simpa [obk, Nat.ne_of_gt hc] using hk
/-- It reads as its list. -/
theorem Ob.rd (h : Ob w base e v n xs) {f : Nat → Value} (hx : ∀ i, i < n → xs[i]? = some (f i)) {A : Option Addr} {c : Nat} (hv : v = .slice A n c) : Rd w A n f := by
  subst hv
  rcases h with ⟨rfl, rfl, _⟩ | ⟨h, _⟩
  · exact Rd.zero _ _ _
  · exact Rd.own h hx
theorem Ob.keep (h : Ob w base e v n xs) (hb : ∀ k, obk v = some k → w'.heap[k]? = w.heap[k]?) : Ob w' base e v n xs := by
  rcases h with h | ⟨h, g, c, rfl, hc⟩
  · exact .inl h
  · refine .inr ⟨⟨h.1, ?_⟩, g, c, rfl, hc⟩
    rcases h.2 with he | ⟨g', cap, cur, he, h1, h2, h3, h4, h5, h6⟩
    · exact .inl he
    · cases he
      exact .inr ⟨g, c, cur, rfl, h1, (hb g (by simp [obk, Nat.ne_of_gt hc])).trans h2, h3, h4, h5, h6⟩
theorem Ob.chg {S : Nat → Prop} (h : Ob w base e v n xs) (hc : Chg S w w') (hs : ∀ k, obk v = some k → ¬ S k) : Ob w' base e v n xs :=
  h.keep fun k hk => hc.block k (h.block k hk).2 (hs k hk)
theorem Ob.low {base' : Nat} (h : Ob w base e v n xs) (hb : ∀ k, obk v = some k → base' ≤ k) : Ob w base' e v n xs := by
  rcases h with h | ⟨h, g, c, rfl, hc⟩
  · exact .inl h
  · refine .inr ⟨⟨h.1, ?_⟩, g, c, rfl, hc⟩
    rcases h.2 with he | ⟨g', cap, cur, he, h1, h2, h3, h4, h5, h6⟩
    · exact .inl he
    · cases he
      exact .inr ⟨g, c, cur, rfl, hb g (by simp [obk, Nat.ne_of_gt hc]), h2, h3, h4, h5, h6⟩

theorem rd_list {A : Option Addr} {m : Nat} {f : Nat → Value} (news : List Value) (hl : news.length = m) (hf : ∀ i, i < m → news[i]? = some (f i)) (hr : Rd w A m f) (hm : 0 < m) :
    ∃ ad, A = some ad ∧ ∀ j u, news[j]? = some u → w.cell? (ad.add j) = some u := by
  obtain ⟨ad, e, hc⟩ := hr hm
  refine ⟨ad, e, fun j u hj => ?_⟩
  have hjl : j < m := by
    rw [← hl]
    exact (List.getElem?_eq_some_iff.1 hj).1
  rw [hc j hjl, ← hf j hjl, hj]

theorem run_append_none (t ty : TypeId) (i : TypeInfo) (ht : P.underlying t = some (.slice e)) (hi : P.info? e = some i) (A B : Option Addr) (n c d : Nat) (hnc : n ≤ c) :
    (Builtin.append_ #[t, t] ty #[.slice A n c, .slice B 0 d]).run P w = .ok (.slice A n c) w := by
  cases A <;> cases B <;> simp [Builtin.append_, run_underlying ht, sizeOf, typeInfo, hi, Builtin.lenOf, Builtin.firstCells, loadCells, loadCellsFrom, hnc, storeCells]

theorem ob_grown (z : Value) (hzs : z.cells.size = 1) (news : List Value) (old : Nat) (hx : xs.length = n) (hn : 0 < n + news.length) (h63 : n + news.length ≤ maxLen) (hbase : base ≤ w.heap.size) :
    Ob (w.drew.alloc (.cells (xs.toArray ++ news.toArray ++ Builtin.zeroCells z.cells (grownCap w (n + news.length) old e - (n + news.length))) e)) base e
      (.slice (some ⟨w.heap.size, 0, none⟩) (n + news.length) (grownCap w (n + news.length) old e)) (n + news.length) (xs ++ news) := by
  have hge := grownCap_ge w (n + news.length) old e
  have hcm := grownCap_le_maxLen w (n + news.length) old e h63
  refine .inr ⟨⟨?_, .inr ⟨w.heap.size, _, _, rfl, hbase, heap_alloc_new w.drew _, hge, hcm, ?_, ?_⟩⟩, _, _, rfl, by omega⟩
  · rw [List.length_append, hx, Nat.mul_one]
  · simp only [Array.size_append, List.size_toArray, size_zeroCells, hzs, hx]
    omega
  · simp only [Array.toList_append, Nat.mul_one]
    exact List.take_left' (by rw [List.length_append, hx])

/-- append to an owned slice, or to an empty one without room. -/
theorem run_append_ob (t ty : TypeId) (i : TypeInfo) (z : Value) (bytes : Nat) (ht : P.underlying t = some (.slice e)) (hi : P.info? e = some i) (hz : i.zero = some z) (hsize : i.size = 1) (hby : i.bytes = bytes) (hzs : z.cells.size = 1)
    (hown : Ob w base e v n xs) (A : Option Addr) (m c : Nat) (news : List Value) (hl : news.length = m) (hr : 0 < m → ∃ ad, A = some ad ∧ ∀ j u, news[j]? = some u → w.cell? (ad.add j) = some u) (h1 : ∀ u ∈ news, u.oneCell' = true)
    (h63 : n + m ≤ maxLen) (hbytes : (n + m) * bytes ≤ 140737488355328) (hbase : base ≤ w.heap.size) :
    ∃ v' w', (Builtin.append_ #[t, t] ty #[v, .slice A m c]).run P w = .ok v' w' ∧ Ob w' base e v' (n + m) (xs ++ news) ∧ w.grownBy w' (obk v) ∧ (obk v' = obk v ∨ obk v' = some w.heap.size) ∧ (m = 0 → v' = v) := by
  subst hl
  subst hby
  rcases Nat.eq_zero_or_pos news.length with h0 | hm
  · have hn : news = [] := List.eq_nil_of_length_eq_zero h0
    subst hn
    obtain ⟨A', c', rfl, hnc, _⟩ := hown.slice
    refine ⟨_, w, run_append_none t ty i ht hi A' A n c' c hnc, by simpa using hown, ⟨rfl, rfl, rfl, Nat.le_refl _, fun _ _ _ => rfl⟩, .inl rfl, fun _ => rfl⟩
  · obtain ⟨ad, rfl, hnews⟩ := hr hm
    have h63' : ((n + news.length : Nat) : Int) ≤ 9223372036854775807 := by simp only [maxLen] at h63; omega
    have hg : ∀ old, w.grownBy (w.drew.alloc (.cells (xs.toArray ++ news.toArray ++ Builtin.zeroCells z.cells (grownCap w (n + news.length) old e - (n + news.length))) e)) (obk v) := fun old =>
      ⟨rfl, rfl, rfl, by simp, fun k hk _ => Below.heap_alloc w.drew _ k hk⟩
    have hlen := hown.len
    have hob := hown
    rcases hown with ⟨rfl, rfl, A', rfl⟩ | ⟨hown, g, cap, rfl, hc⟩
    · have hgr := ob_grown (w := w) (base := base) (e := e) (xs := []) (n := 0) z hzs news 0 rfl (by omega) h63 hbase
      have hgc : 0 < grownCap w (0 + news.length) 0 e := Nat.lt_of_lt_of_le (by omega) (grownCap_ge w (0 + news.length) 0 e)
      cases A' with
      | none =>
        have hrun := run_append_nil (P := P) w t ty e i z ht hi hz ad news.length c news (by rw [hsize]; omega) hnews hm (by omega) (by simp only [Nat.zero_add] at hbytes; omega)
        have hg0 := hg 0
        simp only [Nat.zero_add, List.nil_append, Array.empty_append] at hgr hg0 hgc ⊢
        exact ⟨_, _, hrun, hgr, hg0, .inr (by simp [obk, Nat.ne_of_gt hgc]), fun h => by omega⟩
      | some a' =>
        have hrun := run_append_grow (P := P) w t ty e i z ht hi hz a' 0 0 [] (by simp) (fun j u hj => by simp at hj) ad news.length c news (by rw [hsize]; omega) hnews (by omega) h63' (growslice_fits (by omega) hbytes)
        simp only [Nat.zero_add] at hgc hrun hgr hg ⊢
        exact ⟨_, _, hrun, hgr, hg 0, .inr (by simp [obk, Nat.ne_of_gt hgc]), fun h => by omega⟩
    · by_cases hroom : n + news.length ≤ cap
      · rcases hown.2 with ⟨he, _⟩ | ⟨g', cap', cur, he, hb1, hb2, hb3, hb4, hb5, hb6⟩
        · cases he
        · cases he
          have hrun := run_append_room (P := P) w t ty e i ht hi g n cap cur hb2 ad news.length c news (by rw [hsize]; omega) hnews h1 hroom (by rw [hsize]; omega)
          refine ⟨_, _, hrun, .inr ⟨⟨?_, .inr ⟨g, cap, _, rfl, hb1, setRow_heap w g cur _ e _ hb2, hroom, hb4, ?_, ?_⟩⟩, _, _, rfl, hc⟩, ⟨rfl, rfl, rfl, by simp, fun k _ hk => setRow_other w g k _ (fun e => hk (by simp [obk, e, Nat.ne_of_gt hc]))⟩, .inl ?_, fun h => by omega⟩
          · rw [List.length_append, hlen, Nat.mul_one]
          · simp only [List.size_toArray, List.length_append, List.length_take, List.length_drop, Array.length_toList, hsize]
            omega
          · simp only [hsize, Nat.mul_one] at hb6 ⊢
            rw [hb6]
            exact List.take_left' (by rw [List.length_append, hlen])
          · simp [obk]
      · have holds : ∀ j u, xs[j]? = some u → w.cell? ((⟨g, 0, none⟩ : Addr).add j) = some u := hown.cells (g := g) rfl
        have hrun := run_append_grow (P := P) w t ty e i z ht hi hz ⟨g, 0, none⟩ n cap xs (by rw [hsize, hlen, Nat.mul_one]) holds ad news.length c news (by rw [hsize]; omega) hnews (by omega) h63' (growslice_fits (by omega) hbytes)
        have hgr := ob_grown (w := w) (base := base) (e := e) (xs := xs) (n := n) z hzs news cap hlen (by omega) h63 hbase
        have hgc : 0 < grownCap w (n + news.length) cap e := Nat.lt_of_lt_of_le (by omega) (grownCap_ge w (n + news.length) cap e)
        exact ⟨_, _, hrun, hgr, hg cap, .inr (by simp [obk, Nat.ne_of_gt hgc]), fun h => by omega⟩

theorem wpList_append_ob {ops : Array Oper} {rest : List Oper} {o : Oper} {a : Act} {Q : Exit → Act → World → Prop} (hgd : o.guard = none) (s x : Operand) (t : TypeId)
    (ho : o.op = .call { callee := .builtin .append, args := #[s, x], argTypes := #[t, t] })
    (i : TypeInfo) (z : Value) (bytes : Nat) (ht : P.underlying t = some (.slice e)) (hi : P.info? e = some i) (hz : i.zero = some z) (hsize : i.size = 1) (hby : i.bytes = bytes) (hzs : z.cells.size = 1)
    (hs : a.eval s = v) (hown : Ob w base e v n xs) (A : Option Addr) (m c : Nat) (news : List Value) (hx : a.eval x = .slice A m c) (hl : news.length = m)
    (hr : 0 < m → ∃ ad, A = some ad ∧ ∀ j u, news[j]? = some u → w.cell? (ad.add j) = some u) (h1 : ∀ u ∈ news, u.oneCell' = true)
    (h63 : n + m ≤ maxLen) (hbytes : (n + m) * bytes ≤ 140737488355328) (hbase : base ≤ w.heap.size)
    (h : ∀ v' w', Ob w' base e v' (n + m) (xs ++ news) → w.grownBy w' (obk v) → (obk v' = obk v ∨ obk v' = some w.heap.size) → (m = 0 → v' = v) → wpList P ops Q rest (a.put o.dst v') w') : wpList P ops Q (o :: rest) a w := by
  refine wpList_plain hgd fun K hK => ?_
  obtain ⟨v', w', hrun, h2, h3, h4, h5⟩ := run_append_ob (P := P) (w := w) t o.type i z bytes ht hi hz hsize hby hzs hown A m c news hl hr h1 h63 hbytes hbase
  unfold Oper.wp execOp
  simp only [ho, resolve, invoke, builtin, Sem.run_bind, Sem.run_pure, Result.andThen_ok, List.map_toArray, List.map_cons, List.map_nil, hs, hx, hrun]
  exact hK _ _ (h v' w' h2 h3 h4 h5)
end

/-! ### Lists of bytes, lists of lists -/
inductive All2 {α β : Type} (R : α → β → Prop) : List α → List β → Prop
  | nil : All2 R [] []
  | cons {a b us bs} : R a b → All2 R us bs → All2 R (a :: us) (b :: bs)
section
variable {α β : Type} {R R' : α → β → Prop}
theorem All2.len : ∀ {us : List α} {bs : List β}, All2 R us bs → us.length = bs.length
  | _, _, .nil => rfl
  | _, _, .cons _ h => by simp [h.len]
theorem All2.app : ∀ {us : List α} {bs : List β} {cs : List α} {ds : List β}, All2 R us bs → All2 R cs ds → All2 R (us ++ cs) (bs ++ ds)
  | _, _, _, _, .nil, h => h
  | _, _, _, _, .cons h h', k => .cons h (h'.app k)
theorem All2.mono : ∀ {us : List α} {bs : List β}, All2 R us bs → (∀ a b, a ∈ us → b ∈ bs → R a b → R' a b) → All2 R' us bs
  | _, _, .nil, _ => .nil
  | _, _, .cons h h', k => .cons (k _ _ (List.mem_cons_self ..) (List.mem_cons_self ..) h) (h'.mono fun a b ha hb => k a b (List.mem_cons_of_mem _ ha) (List.mem_cons_of_mem _ hb))
theorem All2.get : ∀ {us : List α} {bs : List β}, All2 R us bs → ∀ {i : Nat} {a : α} {b : β}, us[i]? = some a → bs[i]? = some b → R a b
  | _, _, .cons h _, 0, _, _, e, e' => by
    simp only [List.getElem?_cons_zero, Option.some.injEq] at e e'
    subst e e'
    exact h
  | _, _, .cons _ h', i + 1, _, _, e, e' => h'.get (i := i) (by simpa using e) (by simpa using e')
theorem All2.of : ∀ {us : List α} {bs : List β}, us.length = bs.length → (∀ (i : Nat) (a : α) (b : β), us[i]? = some a → bs[i]? = some b → R a b) → All2 R us bs
  | [], [], _, _ => .nil
  | [], _ :: _, h, _ => by simp at h
  | _ :: _, [], h, _ => by simp at h
  | a :: us, b :: bs, h, k => .cons (k 0 a b rfl rfl) (All2.of (by simpa using h) fun i a b e e' => k (i + 1) a b (by simpa using e) (by simpa using e'))
theorem All2.take : ∀ {us : List α} {bs : List β}, All2 R us bs → ∀ k, All2 R (us.take k) (bs.take k)
  | _, _, .nil, k => by simp; exact .nil
  | _, _, .cons h h', 0 => by simp; exact .nil
  | _, _, .cons h h', k + 1 => by simp only [List.take_succ_cons]; exact .cons h (h'.take k)
theorem All2.drop : ∀ {us : List α} {bs : List β}, All2 R us bs → ∀ k, All2 R (us.drop k) (bs.drop k)
  | _, _, .nil, k => by simp; exact .nil
  | _, _, .cons h h', 0 => .cons h h'
  | _, _, .cons h h', k + 1 => by simp only [List.drop_succ_cons]; exact h'.drop k
end

/-- A slice value that reads as bytes. -/
def Bs (w : World) (v : Value) (xs : List Int) : Prop := ∃ A n c, v = .slice A n c ∧ xs.length = n ∧ Byt xs ∧ (Rd w A n fun i => .int .u8 (xs.getD i 0)) ∧ n ≤ c
theorem rdk_rd {w : World} {A : Option Addr} {n c : Nat} {f : Nat → Value} (h : Rd w A n f) : ∀ k, rdk (.slice A n c) = some k → k < w.heap.size := by
  intro k hk
  cases A with
  | none => simp [rdk] at hk
  | some a =>
    simp only [rdk] at hk
    split at hk
    · cases hk
    · obtain rfl := Option.some.inj hk
      exact h.lt a (by omega) rfl
theorem Rd.same {w w' : World} {A : Option Addr} {n c : Nat} {f : Nat → Value} (h : Rd w A n f) (hb : ∀ k, rdk (.slice A n c) = some k → w'.heap[k]? = w.heap[k]?) : Rd w' A n f := fun hn => by
  obtain ⟨ad, e, hc⟩ := h hn
  subst e
  refine ⟨ad, rfl, fun i hi => (World.cell?_of_block ?_).trans (hc i hi)⟩
  rw [block_add]
  exact hb _ (by simp [rdk, Nat.ne_of_gt hn])
section
variable {w w' : World} {v : Value} {xs : List Int}
theorem Bs.block (h : Bs w v xs) : ∀ k, rdk v = some k → k < w.heap.size := by
  obtain ⟨A, n, c, rfl, _, _, hr, _⟩ := h
  exact rdk_rd hr
theorem Bs.same (h : Bs w v xs) (hb : ∀ k, rdk v = some k → w'.heap[k]? = w.heap[k]?) : Bs w' v xs := by
  obtain ⟨A, n, c, rfl, hl, hby, hr, hnc⟩ := h
  exact ⟨A, n, c, rfl, hl, hby, hr.same hb, hnc⟩
theorem Bs.chg {S : Nat → Prop} (h : Bs w v xs) (hc : Chg S w w') (hs : ∀ k, rdk v = some k → ¬ S k) : Bs w' v xs := h.same fun k hk => hc.block k (h.block k hk) (hs k hk)
theorem Bs.byt (h : Bs w v xs) : Byt xs := by
  obtain ⟨_, _, _, _, _, hb, _, _⟩ := h
  exact hb
theorem Bs.of_ob {base : Nat} {e : TypeId} {n : Nat} (h : Ob w base e v n (xs.map (Value.int .u8))) (hb : Byt xs) : Bs w v xs := by
  have hl : xs.length = n := by simpa using h.len
  obtain ⟨A, c, rfl, hnc, _⟩ := h.slice
  exact ⟨A, n, c, rfl, hl, hb, h.rd (fun i hi => ints_get (by omega)) rfl, hnc⟩
/-- The source's cells as an append asks them. -/
theorem rd_ints {A : Option Addr} {n : Nat} (hl : xs.length = n) (hr : Rd w A n fun i => .int .u8 (xs.getD i 0)) : 0 < n → ∃ ad, A = some ad ∧ ∀ j u, (xs.map (Value.int .u8))[j]? = some u → w.cell? (ad.add j) = some u :=
  rd_list _ (by simpa using hl) (fun i hi => ints_get (by omega)) hr
theorem ints_one (kd : IntKind) : ∀ u ∈ xs.map (Value.int kd), u.oneCell' = true := by
  intro u hu
  obtain ⟨z, _, rfl⟩ := List.mem_map.1 hu
  rfl
end
end Go.Proofs.YthalmjjbamglgaaDoor
namespace Go.Proofs.YthalmjjbamglgaaDoor
open Go.RowKit

/-- The address of x[l:], c the capacity. -/
def subA (A : Option Addr) (l c : Nat) : Option Addr := if c = l then A else A.map (·.add l)
theorem Rd.sub {w : World} {A : Option Addr} {n c : Nat} {f : Nat → Value} (h : Rd w A n f) (hnc : n ≤ c) {l m : Nat} (hl : l ≤ m) (hm : m ≤ n) : Rd w (subA A l c) (m - l) fun i => f (l + i) := fun hp => by
  obtain ⟨ad, e, hc⟩ := h (by omega)
  subst e
  refine ⟨ad.add l, ?_, fun i hi => ?_⟩
  · unfold subA
    rw [if_neg (by omega)]
    rfl
  · rw [Go.Deep.add_add]
    exact hc (l + i) (by omega)
theorem Rd.subE {w : World} {A : Option Addr} {n c : Nat} {f : Nat → Value} (h : Rd w A n f) (hnc : n ≤ c) {l : Nat} (hl : l ≤ n) : Rd w (subA A l c) (n - l) fun i => f (l + i) := h.sub hnc hl (Nat.le_refl _)
theorem subA_block {A : Option Addr} {l c _n m d : Nat} : ∀ k, rdk (.slice (subA A l c) m d) = some k → ∃ a, A = some a ∧ a.block = k := by
  intro k hk
  unfold subA at hk
  split at hk
  · cases A with
    | none => simp [rdk] at hk
    | some a =>
      simp only [rdk] at hk
      split at hk
      · cases hk
      · exact ⟨a, rfl, Option.some.inj hk⟩
  · cases A with
    | none => simp [rdk] at hk
    | some a =>
      simp only [Option.map_some, rdk] at hk
      split at hk
      · cases hk
      · exact ⟨a, rfl, by rw [← Option.some.inj hk, block_add]⟩

section
variable {P : Program} {w : World}
theorem run_sub (t e : TypeId) (ht : P.underlying t = some (.slice e)) (i : TypeInfo) (hi : P.info? e = some i) (hs : i.size = 1) (A : Option Addr) (n c : Nat) (lI hI : Int) (l h : Nat) (el : lI = (l : Int)) (eh : hI = (h : Int)) (hl : l ≤ h) (hh : h ≤ c) :
    (Instr.sliceAt t (.slice A n c) (some (.int .i64 lI)) (some (.int .i64 hI)) none).run P w = .ok (.slice (subA A l c) (h - l) (c - l)) w := by
  subst el eh
  have hE : P.elem t = e := by simp [Program.elem, ht]
  have ht' : P.underlying t = some (.slice (P.elem t)) := by rw [hE]; exact ht
  rw [run_sliceAt_slice w t _ _ _ _ ht', run_slice_lh w t A n c ht' .i64 .i64 l h (by omega) (by omega) (by omega)]
  simp [sizeOf, typeInfo, hE, hi, hs, sliced, subA, Result.andThen]
theorem run_subL (t e : TypeId) (ht : P.underlying t = some (.slice e)) (i : TypeInfo) (hi : P.info? e = some i) (hs : i.size = 1) (A : Option Addr) (n c : Nat) (lI : Int) (l : Nat) (el : lI = (l : Int)) (hl : l ≤ n) (_hn : n ≤ c) :
    (Instr.sliceAt t (.slice A n c) (some (.int .i64 lI)) none none).run P w = .ok (.slice (subA A l c) (n - l) (c - l)) w := by
  subst el
  have hE : P.elem t = e := by simp [Program.elem, ht]
  have ht' : P.underlying t = some (.slice (P.elem t)) := by rw [hE]; exact ht
  rw [run_sliceAt_slice w t _ _ _ _ ht', run_slice_l w t A n c ht' .i64 l (by omega) (by omega)]
  simp [sizeOf, typeInfo, hE, hi, hs, sliced, subA, Result.andThen]
theorem run_subH (t e : TypeId) (ht : P.underlying t = some (.slice e)) (i : TypeInfo) (hi : P.info? e = some i) (hs : i.size = 1) (A : Option Addr) (n c : Nat) (hI : Int) (h : Nat) (eh : hI = (h : Int)) (hh : h ≤ c) :
    (Instr.sliceAt t (.slice A n c) none (some (.int .i64 hI)) none).run P w = .ok (.slice (subA A 0 c) h c) w := by
  subst eh
  have hE : P.elem t = e := by simp [Program.elem, ht]
  have ht' : P.underlying t = some (.slice (P.elem t)) := by rw [hE]; exact ht
  rw [run_sliceAt_slice w t _ _ _ _ ht', run_slice_h w t A n c ht' .i64 h (by omega) (by omega)]
  simp [sizeOf, typeInfo, hE, hi, hs, sliced, subA, Result.andThen]
theorem subA_zero (A : Option Addr) (c : Nat) : subA A 0 c = A := by
  unfold subA
  split
  · rfl
  · cases A <;> simp [Addr.add]

variable {ops : Array Oper} {rest : List Oper} {o : Oper} {a : Act} {Q : Exit → Act → World → Prop}
theorem wpList_sub (hgd : o.guard = none) (t e : TypeId) (x lo hi : Operand) (ho : o.op = Op.slice t x (some lo) (some hi) none) (ht : P.underlying t = some (.slice e)) (i : TypeInfo) (hinfo : P.info? e = some i) (hs : i.size = 1)
    (A : Option Addr) (n c : Nat) (hx : a.eval x = .slice A n c) (lI hI : Int) (hlo : a.eval lo = .int .i64 lI) (hhi : a.eval hi = .int .i64 hI) (l h : Nat) (el : lI = (l : Int)) (eh : hI = (h : Int)) (hl : l ≤ h) (hh : h ≤ c)
    (hK : wpList P ops Q rest (a.put o.dst (.slice (subA A l c) (h - l) (c - l))) w) : wpList P ops Q (o :: rest) a w := by
  refine wpList_plain hgd fun K hK' => ?_
  have hrun := run_sub (P := P) (w := w) t e ht i hinfo hs A n c lI hI l h el eh hl hh
  unfold Oper.wp
  simp [execOp, ho, hx, hlo, hhi, hrun, Result.andThen]
  exact hK' _ _ hK
theorem wpList_subL (hgd : o.guard = none) (t e : TypeId) (x lo : Operand) (ho : o.op = Op.slice t x (some lo) none none) (ht : P.underlying t = some (.slice e)) (i : TypeInfo) (hinfo : P.info? e = some i) (hs : i.size = 1)
    (A : Option Addr) (n c : Nat) (hx : a.eval x = .slice A n c) (lI : Int) (hlo : a.eval lo = .int .i64 lI) (l : Nat) (el : lI = (l : Int)) (hl : l ≤ n) (hn : n ≤ c)
    (hK : wpList P ops Q rest (a.put o.dst (.slice (subA A l c) (n - l) (c - l))) w) : wpList P ops Q (o :: rest) a w := by
  refine wpList_plain hgd fun K hK' => ?_
  have hrun := run_subL (P := P) (w := w) t e ht i hinfo hs A n c lI l el hl hn
  unfold Oper.wp
  simp [execOp, ho, hx, hlo, hrun, Result.andThen]
  exact hK' _ _ hK
theorem wpList_subH (hgd : o.guard = none) (t e : TypeId) (x hi : Operand) (ho : o.op = Op.slice t x none (some hi) none) (ht : P.underlying t = some (.slice e)) (i : TypeInfo) (hinfo : P.info? e = some i) (hs : i.size = 1)
    (A : Option Addr) (n c : Nat) (hx : a.eval x = .slice A n c) (hI : Int) (hhi : a.eval hi = .int .i64 hI) (h : Nat) (eh : hI = (h : Int)) (hh : h ≤ c)
    (hK : wpList P ops Q rest (a.put o.dst (.slice A h c)) w) : wpList P ops Q (o :: rest) a w := by
  refine wpList_plain hgd fun K hK' => ?_
  have hrun := run_subH (P := P) (w := w) t e ht i hinfo hs A n c hI h eh hh
  rw [subA_zero] at hrun
  unfold Oper.wp
  simp [execOp, ho, hx, hhi, hrun, Result.andThen]
  exact hK' _ _ hK

theorem step_append_ob {base : Nat} {e : TypeId} {v : Value} {n : Nat} {xs : List Value} {K : Act → World → Prop} {E : Prop} (hgd : o.guard = none) (s x : Operand) (t : TypeId)
    (ho : o.op = .call { callee := .builtin .append, args := #[s, x], argTypes := #[t, t] })
    (i : TypeInfo) (z : Value) (bytes : Nat) (ht : P.underlying t = some (.slice e)) (hi : P.info? e = some i) (hz : i.zero = some z) (hsize : i.size = 1) (hby : i.bytes = bytes) (hzs : z.cells.size = 1)
    (hs : a.eval s = v) (hown : Ob w base e v n xs) (A : Option Addr) (m c : Nat) (news : List Value) (hx : a.eval x = .slice A m c) (hl : news.length = m)
    (hr : 0 < m → ∃ ad, A = some ad ∧ ∀ j u, news[j]? = some u → w.cell? (ad.add j) = some u) (h1 : ∀ u ∈ news, u.oneCell' = true)
    (h63 : n + m ≤ maxLen) (hbytes : (n + m) * bytes ≤ 140737488355328) (hbase : base ≤ w.heap.size)
    (h : ∀ v' w', Ob w' base e v' (n + m) (xs ++ news) → w.grownBy w' (obk v) → (obk v' = obk v ∨ obk v' = some w.heap.size) → (m = 0 → v' = v) → K (a.put o.dst v') w') :
    if Region.wanted o (yielded ops a.tmps) = true then Oper.wp P o a w K Q else E := by
  have hw : Region.wanted o (yielded ops a.tmps) = true := by simp [Region.wanted, hgd]
  rw [if_pos hw]
  obtain ⟨v', w', hrun, h2, h3, h4, h5⟩ := run_append_ob (P := P) (w := w) t o.type i z bytes ht hi hz hsize hby hzs hown A m c news hl hr h1 h63 hbytes hbase
  unfold Oper.wp execOp
  simp only [ho, resolve, invoke, builtin, Sem.run_bind, Sem.run_pure, Result.andThen_ok, List.map_toArray, List.map_cons, List.map_nil, hs, hx, hrun]
  exact h v' w' h2 h3 h4 h5
end

theorem Tryd.infoU8 : (Tryd.prog.info? 5).map (fun i => (i.zero, i.size, i.bytes)) = some (some (.int .u8 0), 1, 1) := by kernel_rfl
theorem Tryd.infoBS : (Tryd.prog.info? 23).map (fun i => (i.zero, i.size, i.bytes)) = some (some (.slice none 0 0), 1, 24) := by kernel_rfl

section
variable {w : World} {ops : Array Oper} {rest : List Oper} {o : Oper} {a : Act} {Q : Exit → Act → World → Prop} {base : Nat} {v : Value} {n : Nat}
/-- append of bytes that read as xs. -/
theorem wpList_append_bytes (hgd : o.guard = none) (s x : Operand) (ho : o.op = .call { callee := .builtin .append, args := #[s, x], argTypes := #[23, 23] })
    {olds : List Value} (hs : a.eval s = v) (hown : Ob w base 5 v n olds) (A : Option Addr) (m c : Nat) (xs : List Int) (hx : a.eval x = .slice A m c) (hl : xs.length = m) (hr : Rd w A m fun i => .int .u8 (xs.getD i 0))
    (hb : n + m ≤ 140737488355328) (hbase : base ≤ w.heap.size)
    (h : ∀ v' w', Ob w' base 5 v' (n + m) (olds ++ xs.map (Value.int .u8)) → w.grownBy w' (obk v) → (obk v' = obk v ∨ obk v' = some w.heap.size) → wpList Tryd.prog ops Q rest (a.put o.dst v') w') : wpList Tryd.prog ops Q (o :: rest) a w := by
  obtain ⟨i0, hi, hz0, hz1, hz2⟩ := info_parts Tryd.infoU8
  exact wpList_append_ob hgd s x _ ho i0 _ 1 Tryd.underlying23 hi hz0 hz1 hz2 rfl hs hown A m c (xs.map (Value.int .u8)) hx (by simpa using hl) (rd_ints hl hr) (ints_one _) (by simp only [maxLen]; omega) (by omega) hbase fun v' w' h1 h2 h3 _ => h v' w' h1 h2 h3
theorem wpList_sub_bytes (hgd : o.guard = none) (x lo hi : Operand) (ho : o.op = Op.slice 23 x (some lo) (some hi) none)
    (A : Option Addr) (n c : Nat) (hx : a.eval x = .slice A n c) (lI hI : Int) (hlo : a.eval lo = .int .i64 lI) (hhi : a.eval hi = .int .i64 hI) (l h : Nat) (el : lI = (l : Int)) (eh : hI = (h : Int)) (hl : l ≤ h) (hh : h ≤ c)
    (hK : wpList Tryd.prog ops Q rest (a.put o.dst (.slice (subA A l c) (h - l) (c - l))) w) : wpList Tryd.prog ops Q (o :: rest) a w := by
  obtain ⟨i0, hi', hz0, hz1, hz2⟩ := info_parts Tryd.infoU8
  exact wpList_sub hgd _ _ x lo hi ho Tryd.underlying23 i0 hi' hz1 A n c hx lI hI hlo hhi l h el eh hl hh hK
theorem wpList_subL_bytes (hgd : o.guard = none) (x lo : Operand) (ho : o.op = Op.slice 23 x (some lo) none none)
    (A : Option Addr) (n c : Nat) (hx : a.eval x = .slice A n c) (lI : Int) (hlo : a.eval lo = .int .i64 lI) (l : Nat) (el : lI = (l : Int)) (hl : l ≤ n) (hn : n ≤ c)
    (hK : wpList Tryd.prog ops Q rest (a.put o.dst (.slice (subA A l c) (n - l) (c - l))) w) : wpList Tryd.prog ops Q (o :: rest) a w := by
  obtain ⟨i0, hi', hz0, hz1, hz2⟩ := info_parts Tryd.infoU8
  exact wpList_subL hgd _ _ x lo ho Tryd.underlying23 i0 hi' hz1 A n c hx lI hlo l el hl hn hK
theorem wpList_subH_bytes (hgd : o.guard = none) (x hi : Operand) (ho : o.op = Op.slice 23 x none (some hi) none)
    (A : Option Addr) (n c : Nat) (hx : a.eval x = .slice A n c) (hI : Int) (hhi : a.eval hi = .int .i64 hI) (h : Nat) (eh : hI = (h : Int)) (hh : h ≤ c)
    (hK : wpList Tryd.prog ops Q rest (a.put o.dst (.slice A h c)) w) : wpList Tryd.prog ops Q (o :: rest) a w := by
  obtain ⟨i0, hi', hz0, hz1, hz2⟩ := info_parts Tryd.infoU8
  exact wpList_subH hgd _ _ x hi ho Tryd.underlying23 i0 hi' hz1 A n c hx hI hhi h eh hh hK
end
theorem Is.rdI {kd : IntKind} {w : World} {g : Nat} {t : TypeId} (xs : List Int) (h : Is w g t (xs.map (Value.int kd)).toArray) : Rd w (some ⟨g, 0, none⟩) xs.length fun i => .int kd (xs.getD i 0) := fun _ => by
  refine ⟨_, rfl, fun i hi => ?_⟩
  rw [show (⟨g, 0, none⟩ : Addr).add i = ⟨g, i, none⟩ from by unfold Addr.add; split <;> simp_all]
  refine h.at_ i _ ?_
  rw [List.getElem?_toArray]
  exact ints_get hi
theorem vals_get {vs : List Value} {i : Nat} (h : i < vs.length) : vs[i]? = some (vs.getD i .nilIface) := by
  rw [List.getD_eq_getElem?_getD, List.getElem?_eq_getElem h]
  rfl
theorem Is.rdV {w : World} {g : Nat} {t : TypeId} (vs : List Value) (h : Is w g t vs.toArray) : Rd w (some ⟨g, 0, none⟩) vs.length fun i => vs.getD i .nilIface := fun _ => by
  refine ⟨_, rfl, fun i hi => ?_⟩
  rw [show (⟨g, 0, none⟩ : Addr).add i = ⟨g, i, none⟩ from by unfold Addr.add; split <;> simp_all]
  refine h.at_ i _ ?_
  rw [List.getElem?_toArray]
  exact vals_get hi
/-- A block of bytes just made. -/
theorem ob_made (w : World) (xs : List Int) (hl : xs.length ≤ maxLen) : Ob (w.alloc (.cells (xs.map (Value.int .u8)).toArray 5)) w.heap.size 5 (.slice (some ⟨w.heap.size, 0, none⟩) xs.length xs.length) xs.length (xs.map (Value.int .u8)) := by
  refine ob_own ⟨by simp, .inr ⟨w.heap.size, xs.length, _, rfl, Nat.le_refl _, heap_alloc_new w _, Nat.le_refl _, hl, by simp, by rw [Nat.mul_one]; exact List.take_of_length_le (by simp)⟩⟩
/-- A list of slice values, read. -/
theorem vals_list {w : World} {A : Option Addr} {m : Nat} (vs : List Value) (hl : vs.length = m) (hr : Rd w A m fun i => vs.getD i .nilIface) : 0 < m → ∃ ad, A = some ad ∧ ∀ j u, vs[j]? = some u → w.cell? (ad.add j) = some u :=
  rd_list vs hl (fun i hi => by rw [List.getD_eq_getElem?_getD, List.getElem?_eq_getElem (by omega)]; rfl) hr
theorem Ob.vals {w : World} {base : Nat} {e : TypeId} {A : Option Addr} {n c : Nat} {vs : List Value} (h : Ob w base e (.slice A n c) n vs) : Rd w A n fun i => vs.getD i .nilIface :=
  h.rd (fun i hi => vals_get (by rw [h.len]; exact hi)) rfl
end Go.Proofs.YthalmjjbamglgaaDoor
namespace Go.Proofs.YthalmjjbamglgaaDoor
open Go.RowKit

section
variable {w : World} {base : Nat} {e : TypeId} {n c g : Nat} {A : Option Addr} {xs : List Value}
theorem Ob.own (h : Ob w base e (.slice (some ⟨g, 0, none⟩) n c) n xs) (hn : 0 < n) : w.ownsRow base e 1 (.slice (some ⟨g, 0, none⟩) n c) n xs ∧ 0 < c := by
  rcases h with ⟨h0, _⟩ | ⟨h, g', c', e, hc⟩
  · omega
  · cases e
    exact ⟨h, hc⟩
theorem Ob.set (h : Ob w base e (.slice (some ⟨g, 0, none⟩) n c) n xs) (hn : 0 < n) (j : Nat) (u : Value) : Ob (w.setCell ⟨g, j, none⟩ u) base e (.slice (some ⟨g, 0, none⟩) n c) n (xs.set j u) :=
  .inr ⟨((h.own hn).1.stored j u).1, _, _, rfl, (h.own hn).2⟩
theorem Ob.cellAt (h : Ob w base e (.slice (some ⟨g, 0, none⟩) n c) n xs) (j : Nat) (hj : j < n) : w.cell? ⟨g, j, none⟩ = xs[j]? := (h.own (by omega)).1.cellAt j (by omega)
theorem Ob.frozenAt (h : Ob w base e (.slice (some ⟨g, 0, none⟩) n c) n xs) (hn : 0 < n) (j : Nat) : w.frozen? ⟨g, j, none⟩ = false := (h.own hn).1.frozenAt j
theorem Ob.addr (h : Ob w base e (.slice A n c) n xs) (hn : 0 < n) : ∃ g, A = some ⟨g, 0, none⟩ := by
  rcases h with ⟨h0, _⟩ | ⟨h, g', c', e, hc⟩
  · omega
  · cases e
    exact ⟨g', rfl⟩
theorem Ob.front (h : Ob w base e (.slice A n c) n xs) {m : Nat} (hm : m ≤ n) : Ob w base e (.slice A m c) m (xs.take m) := by
  rcases h with ⟨rfl, rfl, A', e⟩ | ⟨h, g', c', e, hc⟩
  · cases e
    obtain rfl : m = 0 := by omega
    exact .inl ⟨rfl, by simp, _, rfl⟩
  · cases e
    refine .inr ⟨⟨?_, ?_⟩, _, _, rfl, hc⟩
    · rw [List.length_take, h.1]; omega
    · rcases h.2 with ⟨e, _⟩ | ⟨g, cap, cur, e, h1, h2, h3, h4, h5, h6⟩
      · cases e
      · cases e
        refine .inr ⟨_, _, cur, rfl, h1, h2, by omega, h4, h5, ?_⟩
        rw [← h6, List.take_take, Nat.mul_one, Nat.mul_one, Nat.min_eq_left hm]
end
theorem grow_chg {w w' : World} {r : Option Nat} (h : w.grownBy w' r) : Chg (fun k => r = some k) w w' := ⟨h.os, h.tape, h.output, h.size, fun k hk hs => h.block k hk (fun e => hs e.symm)⟩
theorem set_mid {α : Type} {pre xs : List α} {k : Nat} (hp : pre.length = k) (hk : k < xs.length) (u : α) : (pre ++ xs.drop k).set k u = (pre ++ [u]) ++ xs.drop (k + 1) := by
  rw [List.set_append_right _ _ (by omega), hp, Nat.sub_self, List.drop_eq_getElem_cons hk, List.set_cons_zero]
  simp

section
variable {P : Program} {w : World} {base : Nat} {e : TypeId} {v : Value} {n : Nat} {xs : List Value}
theorem run_append_ob2 (t ty : TypeId) (i : TypeInfo) (z : Value) (bytes : Nat) (ht : P.underlying t = some (.slice e)) (hi : P.info? e = some i) (hz : i.zero = some z) (hsize : i.size = 1) (hby : i.bytes = bytes) (hzs : z.cells.size = 1)
    (hown : Ob w base e v n xs) (A : Option Addr) (m c : Nat) (news : List Value) (hl : news.length = m) (hr : 0 < m → ∃ ad, A = some ad ∧ ∀ j u, news[j]? = some u → w.cell? (ad.add j) = some u) (h1 : ∀ u ∈ news, u.oneCell' = true)
    (h63 : n + m ≤ maxLen) (hbytes : (n + m) * bytes ≤ 140737488355328) (hbase : base ≤ w.heap.size) :
    ∃ v' w', (Builtin.append_ #[t, t] ty #[v, .slice A m c]).run P w = .ok v' w' ∧ Ob w' base e v' (n + m) (xs ++ news) ∧ w.grownBy w' (obk v) ∧ (obk v' = obk v ∨ obk v' = some w.heap.size ∧ w.grownBy w' none) ∧ (m = 0 → v' = v) := by
  subst hl
  subst hby
  rcases Nat.eq_zero_or_pos news.length with h0 | hm
  · have hn : news = [] := List.eq_nil_of_length_eq_zero h0
    subst hn
    obtain ⟨A', c', rfl, hnc, _⟩ := hown.slice
    refine ⟨_, w, run_append_none t ty i ht hi A' A n c' c hnc, by simpa using hown, ⟨rfl, rfl, rfl, Nat.le_refl _, fun _ _ _ => rfl⟩, .inl rfl, fun _ => rfl⟩
  · obtain ⟨ad, rfl, hnews⟩ := hr hm
    have h63' : ((n + news.length : Nat) : Int) ≤ 9223372036854775807 := by simp only [maxLen] at h63; omega
    have hg : ∀ old row, w.grownBy (w.drew.alloc (.cells (xs.toArray ++ news.toArray ++ Builtin.zeroCells z.cells (grownCap w (n + news.length) old e - (n + news.length))) e)) row := fun old row =>
      ⟨rfl, rfl, rfl, by simp, fun k hk _ => Below.heap_alloc w.drew _ k hk⟩
    have hlen := hown.len
    have hob := hown
    rcases hown with ⟨rfl, rfl, A', rfl⟩ | ⟨hown, g, cap, rfl, hc⟩
    · have hgr := ob_grown (w := w) (base := base) (e := e) (xs := []) (n := 0) z hzs news 0 rfl (by omega) h63 hbase
      have hgc : 0 < grownCap w (0 + news.length) 0 e := Nat.lt_of_lt_of_le (by omega) (grownCap_ge w (0 + news.length) 0 e)
      cases A' with
      | none =>
        have hrun := run_append_nil (P := P) w t ty e i z ht hi hz ad news.length c news (by rw [hsize]; omega) hnews hm (by omega) (by simp only [Nat.zero_add] at hbytes; omega)
        have hg0 := hg 0
        simp only [Nat.zero_add, List.nil_append, Array.empty_append] at hgr hg0 hgc ⊢
        exact ⟨_, _, hrun, hgr, hg0 _, .inr ⟨by simp [obk, Nat.ne_of_gt hgc], hg0 _⟩, fun h => by omega⟩
      | some a' =>
        have hrun := run_append_grow (P := P) w t ty e i z ht hi hz a' 0 0 [] (by simp) (fun j u hj => by simp at hj) ad news.length c news (by rw [hsize]; omega) hnews (by omega) h63' (growslice_fits (by omega) hbytes)
        simp only [Nat.zero_add] at hgc hrun hgr hg ⊢
        exact ⟨_, _, hrun, hgr, hg 0 _, .inr ⟨by simp [obk, Nat.ne_of_gt hgc], hg 0 _⟩, fun h => by omega⟩
    · by_cases hroom : n + news.length ≤ cap
      · rcases hown.2 with ⟨he, _⟩ | ⟨g', cap', cur, he, hb1, hb2, hb3, hb4, hb5, hb6⟩
        · cases he
        · cases he
          have hrun := run_append_room (P := P) w t ty e i ht hi g n cap cur hb2 ad news.length c news (by rw [hsize]; omega) hnews h1 hroom (by rw [hsize]; omega)
          refine ⟨_, _, hrun, .inr ⟨⟨?_, .inr ⟨g, cap, _, rfl, hb1, setRow_heap w g cur _ e _ hb2, hroom, hb4, ?_, ?_⟩⟩, _, _, rfl, hc⟩, ⟨rfl, rfl, rfl, by simp, fun k _ hk => setRow_other w g k _ (fun e => hk (by simp [obk, e, Nat.ne_of_gt hc]))⟩, .inl ?_, fun h => by omega⟩
          · rw [List.length_append, hlen, Nat.mul_one]
          · simp only [List.size_toArray, List.length_append, List.length_take, List.length_drop, Array.length_toList, hsize]
            omega
          · simp only [hsize, Nat.mul_one] at hb6 ⊢
            rw [hb6]
            exact List.take_left' (by rw [List.length_append, hlen])
          · simp [obk]
      · have holds : ∀ j u, xs[j]? = some u → w.cell? ((⟨g, 0, none⟩ : Addr).add j) = some u := hown.cells (g := g) rfl
        have hrun := run_append_grow (P := P) w t ty e i z ht hi hz ⟨g, 0, none⟩ n cap xs (by rw [hsize, hlen, Nat.mul_one]) holds ad news.length c news (by rw [hsize]; omega) hnews (by omega) h63' (growslice_fits (by omega) hbytes)
        have hgr := ob_grown (w := w) (base := base) (e := e) (xs := xs) (n := n) z hzs news cap hlen (by omega) h63 hbase
        have hgc : 0 < grownCap w (n + news.length) cap e := Nat.lt_of_lt_of_le (by omega) (grownCap_ge w (n + news.length) cap e)
        exact ⟨_, _, hrun, hgr, hg cap _, .inr ⟨by simp [obk, Nat.ne_of_gt hgc], hg cap _⟩, fun h => by omega⟩

theorem wpList_append_ob2 {ops : Array Oper} {rest : List Oper} {o : Oper} {a : Act} {Q : Exit → Act → World → Prop} (hgd : o.guard = none) (s x : Operand) (t : TypeId)
    (ho : o.op = .call { callee := .builtin .append, args := #[s, x], argTypes := #[t, t] })
    (i : TypeInfo) (z : Value) (bytes : Nat) (ht : P.underlying t = some (.slice e)) (hi : P.info? e = some i) (hz : i.zero = some z) (hsize : i.size = 1) (hby : i.bytes = bytes) (hzs : z.cells.size = 1)
    (hs : a.eval s = v) (hown : Ob w base e v n xs) (A : Option Addr) (m c : Nat) (news : List Value) (hx : a.eval x = .slice A m c) (hl : news.length = m)
    (hr : 0 < m → ∃ ad, A = some ad ∧ ∀ j u, news[j]? = some u → w.cell? (ad.add j) = some u) (h1 : ∀ u ∈ news, u.oneCell' = true)
    (h63 : n + m ≤ maxLen) (hbytes : (n + m) * bytes ≤ 140737488355328) (hbase : base ≤ w.heap.size)
    (h : ∀ v' w', Ob w' base e v' (n + m) (xs ++ news) → w.grownBy w' (obk v) → (obk v' = obk v ∨ obk v' = some w.heap.size ∧ w.grownBy w' none) → (m = 0 → v' = v) → wpList P ops Q rest (a.put o.dst v') w') : wpList P ops Q (o :: rest) a w := by
  refine wpList_plain hgd fun K hK => ?_
  obtain ⟨v', w', hrun, h2, h3, h4, h5⟩ := run_append_ob2 (P := P) (w := w) t o.type i z bytes ht hi hz hsize hby hzs hown A m c news hl hr h1 h63 hbytes hbase
  unfold Oper.wp execOp
  simp only [ho, resolve, invoke, builtin, Sem.run_bind, Sem.run_pure, Result.andThen_ok, List.map_toArray, List.map_cons, List.map_nil, hs, hx, hrun]
  exact hK _ _ (h v' w' h2 h3 h4 h5)
end
section
variable {w : World} {ops : Array Oper} {rest : List Oper} {o : Oper} {a : Act} {Q : Exit → Act → World → Prop} {base : Nat} {v : Value} {n : Nat}
theorem wpList_append_bytes2 (hgd : o.guard = none) (s x : Operand) (ho : o.op = .call { callee := .builtin .append, args := #[s, x], argTypes := #[23, 23] })
    {olds : List Value} (hs : a.eval s = v) (hown : Ob w base 5 v n olds) (A : Option Addr) (m c : Nat) (xs : List Int) (hx : a.eval x = .slice A m c) (hl : xs.length = m) (hr : Rd w A m fun i => .int .u8 (xs.getD i 0))
    (hb : n + m ≤ 140737488355328) (hbase : base ≤ w.heap.size)
    (h : ∀ v' w', Ob w' base 5 v' (n + m) (olds ++ xs.map (Value.int .u8)) → w.grownBy w' (obk v) → (obk v' = obk v ∨ obk v' = some w.heap.size ∧ w.grownBy w' none) → wpList Tryd.prog ops Q rest (a.put o.dst v') w') : wpList Tryd.prog ops Q (o :: rest) a w := by
  obtain ⟨i0, hi, hz0, hz1, hz2⟩ := info_parts Tryd.infoU8
  exact wpList_append_ob2 hgd s x _ ho i0 _ 1 Tryd.underlying23 hi hz0 hz1 hz2 rfl hs hown A m c (xs.map (Value.int .u8)) hx (by simpa using hl) (rd_ints hl hr) (ints_one _) (by simp only [maxLen]; omega) (by omega) hbase fun v' w' h1 h2 h3 _ => h v' w' h1 h2 h3

/-- make([][]byte, n). -/
theorem wpList_make_lists (hgd : o.guard = none) (x y : Operand) (ho : o.op = Op.makeSlice 28 x y) (N : Int) (hx : a.eval x = .int .i64 N) (hy : a.eval y = .int .i64 N) (n : Nat) (hN : N = (n : Int)) (hn : n ≤ 1099511627776)
    (h : ∀ w' cur, Is w' w.heap.size 23 cur → cur.size = n → Chg none_ w w' → wpList Tryd.prog ops Q rest (a.put o.dst (.slice (some ⟨w.heap.size, 0, none⟩) n n)) w') : wpList Tryd.prog ops Q (o :: rest) a w := by
  subst hN
  obtain ⟨i, hi, hz0, hz1, hz2⟩ := info_parts Tryd.infoBS
  refine wpList_plain hgd fun K hK' => ?_
  have hrun := run_make (P := Tryd.prog) w 28 23 i (.slice none 0 0) Tryd.underlying28 hi hz0 .i64 .i64 n n (by omega) (by omega) (by rw [hz2]; omega) (by omega)
  simp only [Int.toNat_natCast, hz1, Nat.mul_one] at hrun
  unfold Oper.wp
  simp [execOp, ho, hx, hy, hrun, Result.andThen]
  exact hK' _ _ (h _ _ (Is.new w _ _) (by simp [size_madeCells, Value.cells]) ((Chg.refl none_ w).alloc _))
end
end Go.Proofs.YthalmjjbamglgaaDoor
namespace Go.Proofs.YthalmjjbamglgaaDoor
open Go.RowKit

section
variable {P : Program} {w : World} {base : Nat} {e : TypeId}
theorem run_append_pos (t ty : TypeId) (i : TypeInfo) (z : Value) (bytes : Nat) (ht : P.underlying t = some (.slice e)) (hi : P.info? e = some i) (hz : i.zero = some z) (hsize : i.size = 1) (hby : i.bytes = bytes) (hzs : z.cells.size = 1)
    (A0 : Option Addr) (A : Option Addr) (m c : Nat) (news : List Value) (hl : news.length = m) (hm : 0 < m) (hr : 0 < m → ∃ ad, A = some ad ∧ ∀ j u, news[j]? = some u → w.cell? (ad.add j) = some u)
    (h63 : m ≤ maxLen) (hbytes : m * bytes ≤ 140737488355328) (hbase : base ≤ w.heap.size) :
    ∃ (row : Array Value) (cap : Nat), (Builtin.append_ #[t, t] ty #[.slice A0 0 0, .slice A m c]).run P w = .ok (.slice (some ⟨w.heap.size, 0, none⟩) m cap) (w.drew.alloc (.cells row e)) ∧
      Ob (w.drew.alloc (.cells row e)) base e (.slice (some ⟨w.heap.size, 0, none⟩) m cap) m news := by
  subst hl
  subst hby
  obtain ⟨ad, rfl, hnews⟩ := hr hm
  have h63' : ((0 + news.length : Nat) : Int) ≤ 9223372036854775807 := by simp only [maxLen] at h63; omega
  have hgr := ob_grown (w := w) (base := base) (e := e) (xs := []) (n := 0) z hzs news 0 rfl (by omega) (by omega) hbase
  cases A0 with
  | none =>
    have hrun := run_append_nil (P := P) w t ty e i z ht hi hz ad news.length c news (by rw [hsize]; omega) hnews hm (by omega) (Nat.le_trans hbytes (by decide))
    simp only [Nat.zero_add, List.nil_append, Array.empty_append] at hgr ⊢
    exact ⟨_, _, hrun, hgr⟩
  | some a' =>
    have hrun := run_append_grow (P := P) w t ty e i z ht hi hz a' 0 0 [] (by simp) (fun j u hj => by simp at hj) ad news.length c news (by rw [hsize]; omega) hnews (by omega) h63' (growslice_fits (by omega) (by simpa using hbytes))
    simp only [Nat.zero_add] at hrun hgr ⊢
    exact ⟨_, _, hrun, hgr⟩
end
section
variable {w : World} {ops : Array Oper} {o : Oper} {a : Act} {Q : Exit → Act → World → Prop} {K : Act → World → Prop} {E : Prop}
theorem step_append_pos (hgd : o.guard = none) (s x : Operand) (ho : o.op = .call { callee := .builtin .append, args := #[s, x], argTypes := #[23, 23] })
    {A0 : Option Addr} (hs : a.eval s = .slice A0 0 0) (A : Option Addr) (m c : Nat) (xs : List Int) (hx : a.eval x = .slice A m c) (hl : xs.length = m) (hr : Rd w A m fun i => .int .u8 (xs.getD i 0)) (hm : 0 < m) (hb : m ≤ 140737488355328) (base sz : Nat) (hbase : base ≤ sz) (hsz : w.heap.size = sz)
    (h : ∀ (row : Array Value) (cap : Nat), Ob (w.drew.alloc (.cells row 5)) base 5 (.slice (some ⟨sz, 0, none⟩) m cap) m (xs.map (Value.int .u8)) → K (a.put o.dst (.slice (some ⟨sz, 0, none⟩) m cap)) (w.drew.alloc (.cells row 5))) :
    if Region.wanted o (yielded ops a.tmps) = true then Oper.wp Tryd.prog o a w K Q else E := by
  obtain ⟨i0, hi, hz0, hz1, hz2⟩ := info_parts Tryd.infoU8
  have hw : Region.wanted o (yielded ops a.tmps) = true := by simp [Region.wanted, hgd]
  rw [if_pos hw]
  subst hsz
  obtain ⟨row, cap, hrun, h2⟩ := run_append_pos (P := Tryd.prog) (w := w) (base := base) 23 o.type i0 _ 1 Tryd.underlying23 hi hz0 hz1 hz2 rfl A0 A m c (xs.map (Value.int .u8)) (by simpa using hl) hm (rd_ints hl hr) (by simp only [maxLen]; omega) (by omega) hbase
  unfold Oper.wp execOp
  simp only [ho, resolve, invoke, builtin, Sem.run_bind, Sem.run_pure, Result.andThen_ok, List.map_toArray, List.map_cons, List.map_nil, hs, hx, hrun]
  exact h row cap h2
theorem step_append_zero (hgd : o.guard = none) (s x : Operand) (ho : o.op = .call { callee := .builtin .append, args := #[s, x], argTypes := #[23, 23] })
    {A0 : Option Addr} (hs : a.eval s = .slice A0 0 0) (A : Option Addr) (c : Nat) (hx : a.eval x = .slice A 0 c) (h : K (a.put o.dst (.slice A0 0 0)) w) :
    if Region.wanted o (yielded ops a.tmps) = true then Oper.wp Tryd.prog o a w K Q else E := by
  obtain ⟨i0, hi, hz0, hz1, hz2⟩ := info_parts Tryd.infoU8
  have hw : Region.wanted o (yielded ops a.tmps) = true := by simp [Region.wanted, hgd]
  rw [if_pos hw]
  have hrun := run_append_none (P := Tryd.prog) (w := w) 23 o.type i0 Tryd.underlying23 hi A0 A 0 0 c (Nat.le_refl _)
  unfold Oper.wp execOp
  simp only [ho, resolve, invoke, builtin, Sem.run_bind, Sem.run_pure, Result.andThen_ok, List.map_toArray, List.map_cons, List.map_nil, hs, hx, hrun]
  exact h
/-- The heap alone counts. -/
theorem Ob.hp {w w' : World} {base : Nat} {e : TypeId} {v : Value} {n : Nat} {xs : List Value} (h : Ob w base e v n xs) (hh : w'.heap = w.heap) : Ob w' base e v n xs := h.keep fun k _ => by rw [hh]
theorem obk_at {g : Nat} {m cap k : Nat} (h : obk (.slice (some ⟨g, 0, none⟩) m cap) = some k) : k = g := by
  unfold obk at h
  simp only at h
  split at h
  · cases h
  · exact (Option.some.inj h).symm
end
end Go.Proofs.YthalmjjbamglgaaDoor
