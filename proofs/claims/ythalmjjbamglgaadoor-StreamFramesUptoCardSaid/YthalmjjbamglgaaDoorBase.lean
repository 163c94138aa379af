/-
  Plain lemmas for this seat's laws: from a walk that returns true and leaves old memory as it was, to the row's post-condition; what a call may have changed.
  No condition.
-/
import Derived.Test.YthalmjjbamglgaaDoorRows
import Derived.WalkKit
import Derived.ProofKit
import Derived.OpenShut
import Derived.Carry
import Derived.Deep.Draws
namespace Go.Proofs.YthalmjjbamglgaaDoor
open Go.RowKit Go.ChangeShapes Go.WideShapes

section
variable {H : Type} {enc : TypeId × Value → H} {P : Program}

/-- Arguments read behind a call that changed nothing old as they did before. -/
theorem trodAll_below (hl : laidOutB P = true) {W W' : World} (hb : Below W.heap.size W W') :
    ∀ (ts : List TypeId) (vs : List Value) (ds : List (DataW H)) (ps : List MemPlace), (∀ t ∈ ts, P.readableRec t = true ∧ t < P.types.size) →
      DataW.TrodAll enc P W 0 (fun _ => true) true ts vs ds ps → (∀ x ∈ ps, x.block < W.heap.size) → DataW.TrodAll enc P W' 0 (fun b => decide (b < W.heap.size)) true ts vs ds ps
  | [], vs, ds, ps, _, h, _ => by
    obtain ⟨rfl, rfl, rfl⟩ := trodAll_nil h
    exact trodAll_mk0
  | t :: ts, vs, ds, ps, hr, h, hlt => by
    obtain ⟨v, vs, d, ds, p, q, rfl, rfl, rfl, h1, h2⟩ := trodAll_cons h
    exact trodAll_cons_mk (Below.trod hl (hr t (List.mem_cons_self ..)).1 (hr t (List.mem_cons_self ..)).2 h1 hb (fun x hx => hlt x (List.mem_append_left _ hx)))
      (trodAll_below hl hb ts vs ds q (fun u hu => hr u (List.mem_cons_of_mem _ hu)) h2 (fun x hx => hlt x (List.mem_append_right _ hx)))

/-- The row's post-condition out of a walk. -/
theorem law_calls {f : FuncId} {fn : Func} {s : ChangeSpec} {tb : TypeId} {W : World} {args : Array Value} {ds gs : List (DataW H)} {before : List MemPlace}
    (hl : laidOutB P = true) (hp : (fn.params.toList.all fun t => P.readableRec t && decide (t < P.types.size)) = true) (hr : fn.resultTypes = #[tb]) (htb : P.underlying tb = some .bool) (hv : s.vars = [])
    (hW : DataW.Whole enc P fn.params.toList s.vars false W args.toList ds gs before) (hs : s.fn H (ds ++ gs) = { results := [.lit (.bool true)], args := ds })
    (walk : Calls P f args W fun e w' => e = .returned (.bool true) ∧ Below W.heap.size W w') :
    Calls P f args W fun e W' => ∃ v, e = .returned v ∧ s.post enc P fn false true false false W args v W' := by
  refine walk.mono fun e W' ⟨he, hb⟩ => ?_
  subst he
  refine ⟨_, rfl, ?_⟩
  have hlt := hW.lt
  have hW0 := hW
  obtain ⟨p, q, hA, hV, rfl, _, _⟩ := hW0
  rw [hv] at hV
  obtain ⟨rfl, rfl⟩ := trodVars_none hV
  refine ⟨ds, [], p ++ [], [], p, [], hW, ?_, ?_, ?_, ?_, fun h => by cases h⟩
  · rw [hs, hr]
    exact trodAll_mk1 (shut_bool htb true)
  · rw [hs]
    refine trodAll_below hl hb _ _ _ _ (fun t ht => ?_) hA (fun x hx => hlt x (List.mem_append_left _ hx))
    have := List.all_eq_true.1 hp t ht
    simpa using this
  · rw [hs, hv]
    rfl
  · exact hb.frame _
end

/-! ### What a call may have changed: the blocks in S, and new ones -/
structure Chg (S : Nat → Prop) (w w' : World) : Prop where
  os : w'.os = w.os
  tape : w'.tape = w.tape
  output : w'.output = w.output
  size : w.heap.size ≤ w'.heap.size
  block : ∀ k, k < w.heap.size → ¬ S k → w'.heap[k]? = w.heap[k]?

section
variable {S S' : Nat → Prop} {w w' w'' : World} {B : Nat}
theorem Chg.refl (S : Nat → Prop) (w : World) : Chg S w w := ⟨rfl, rfl, rfl, Nat.le_refl _, fun _ _ _ => rfl⟩
theorem Chg.trans (h : Chg S w w') (k : Chg S w' w'') : Chg S w w'' :=
  ⟨k.os.trans h.os, k.tape.trans h.tape, k.output.trans h.output, Nat.le_trans h.size k.size, fun i hi hs => (k.block i (Nat.lt_of_lt_of_le hi h.size) hs).trans (h.block i hi hs)⟩
theorem Chg.more (h : Chg S w w') (hS : ∀ k, k < w.heap.size → S k → S' k) : Chg S' w w' := ⟨h.os, h.tape, h.output, h.size, fun i hi hs => h.block i hi (fun h => hs (hS i hi h))⟩
/-- Two calls behind one another: the second may have changed what the first made new. -/
theorem Chg.then (h : Chg S w w') (k : Chg S' w' w'') (hS : ∀ k, k < w.heap.size → S' k → S k) : Chg S w w'' :=
  ⟨k.os.trans h.os, k.tape.trans h.tape, k.output.trans h.output, Nat.le_trans h.size k.size, fun i hi hs => (k.block i (Nat.lt_of_lt_of_le hi h.size) (fun h => hs (hS i hi h))).trans (h.block i hi hs)⟩
theorem Chg.drewN (h : Chg S w w') (n : Nat) : Chg S w (w'.drewN n) := ⟨h.os, h.tape, h.output, h.size, h.block⟩
theorem Chg.drew (h : Chg S w w') : Chg S w w'.drew := ⟨h.os, h.tape, h.output, h.size, h.block⟩
theorem Chg.alloc (h : Chg S w w') (o : Obj) : Chg S w (w'.alloc o) :=
  ⟨h.os, h.tape, h.output, Nat.le_trans h.size (by simp), fun i hi hs => (Below.heap_alloc w' o i (Nat.lt_of_lt_of_le hi h.size)).trans (h.block i hi hs)⟩
theorem Chg.setCell (h : Chg S w w') {p : Addr} (hp : p.block < w.heap.size → S p.block) (u : Value) : Chg S w (w'.setCell p u) :=
  ⟨h.os, h.tape, h.output, by simpa [World.setCell] using h.size, fun i hi hs => (Below.heap_setCell w' p u i (by rintro rfl; exact hs (hp hi))).trans (h.block i hi hs)⟩
theorem Chg.grown (h : Chg S w w') {row : Option Nat} (hg : w'.grownBy w'' row) (hr : ∀ k, row = some k → k < w.heap.size → S k) : Chg S w w'' :=
  ⟨hg.os.trans h.os, hg.tape.trans h.tape, hg.output.trans h.output, Nat.le_trans h.size hg.size,
   fun i hi hs => (hg.block i (Nat.lt_of_lt_of_le hi h.size) (fun e => hs (hr i e.symm hi))).trans (h.block i hi hs)⟩
theorem Chg.below (h : Chg S w w') (hS : ∀ k, k < w.heap.size → S k → B ≤ k) (hB : B ≤ w.heap.size) : Below B w w' :=
  ⟨h.os, h.tape, h.output, h.size, fun k hk => h.block k (by omega) (fun hs => by have := hS k (by omega) hs; omega)⟩
theorem Chg.cell (h : Chg S w w') {p : Addr} (hp : p.block < w.heap.size) (hs : ¬ S p.block) : w'.cell? p = w.cell? p := World.cell?_of_block (h.block p.block hp hs)
theorem Chg.of_below (h : Below w.heap.size w w') : Chg S w w' := ⟨h.os, h.tape, h.output, h.size, fun k hk _ => h.block k hk⟩
end

/-- Some answers were drawn, nothing else. -/
def Dr (w w' : World) : Prop := ∃ n, w.drewN n = w'
theorem Dr.refl (w : World) : Dr w w := ⟨0, rfl⟩

/-- Nothing old. -/
abbrev none_ : Nat → Prop := fun _ => False
theorem Chg.old {w w' : World} (h : Chg none_ w w') {B : Nat} (hB : B ≤ w.heap.size) : Below B w w' := h.below (fun _ _ hf => hf.elim) hB

/-- A block known whole: its cells, none frozen. -/
def Is (w : World) (g : Nat) (t : TypeId) (cs : Array Value) : Prop := w.heap[g]? = some (.cells cs t (0, 0))

section
variable {S : Nat → Prop} {w w' : World} {g : Nat} {t : TypeId} {cs : Array Value}
theorem Is.lt (h : Is w g t cs) : g < w.heap.size := (Array.getElem?_eq_some_iff.1 h).1
theorem Is.cell (h : Is w g t cs) (i : Nat) : w.cell? ⟨g, i, none⟩ = cs[i]? := cell_of_row w g i cs t (0, 0) h
theorem Is.at_ (h : Is w g t cs) (i : Nat) (v : Value) (hv : cs[i]? = some v) : w.cell? ⟨g, i, none⟩ = some v := (h.cell i).trans hv
theorem Is.frozen (h : Is w g t cs) (i : Nat) : w.frozen? ⟨g, i, none⟩ = false := by
  have h' : w.heap[g]? = some (.cells cs t (0, 0)) := h
  simp [World.frozen?, h']
theorem Is.new (w : World) (t : TypeId) (cs : Array Value) : Is (w.alloc (.cells cs t)) w.heap.size t cs := heap_alloc_new w _
theorem Is.chg (h : Is w g t cs) (hc : Chg S w w') (hs : ¬ S g) : Is w' g t cs := (hc.block g h.lt hs).trans h
theorem Is.below {B : Nat} (h : Is w g t cs) (hb : Below B w w') (hg : g < B) : Is w' g t cs := (hb.block g hg).trans h
theorem Is.alloc (h : Is w g t cs) (o : Obj) : Is (w.alloc o) g t cs := (Below.heap_alloc w o g h.lt).trans h
theorem Is.drewN (h : Is w g t cs) (n : Nat) : Is (w.drewN n) g t cs := h
theorem Is.put (h : Is w g t cs) (i : Nat) (u : Value) : Is (w.setCell ⟨g, i, none⟩ u) g t (cs.setIfInBounds i u) := by
  have h' : w.heap[g]? = some (.cells cs t (0, 0)) := h
  show (w.setCell ⟨g, i, none⟩ u).heap[g]? = _
  simp [World.setCell, Array.getElem?_modify, h']
theorem Is.far (h : Is w g t cs) {p : Addr} (hp : g ≠ p.block) (u : Value) : Is (w.setCell p u) g t cs := (Below.heap_setCell w p u g hp).trans h
end

/-- A slice value (its address, its length) that reads as the list f 0, f 1, .. of one-cell elements. -/
def Rd (w : World) (A : Option Addr) (n : Nat) (f : Nat → Value) : Prop := 0 < n → ∃ ad, A = some ad ∧ ∀ i, i < n → w.cell? (ad.add i) = some (f i)

theorem block_add (a : Addr) (n : Nat) : (a.add n).block = a.block := by unfold Addr.add; split <;> rfl

theorem Rd.zero (w : World) (A : Option Addr) (f : Nat → Value) : Rd w A 0 f := fun h => absurd h (Nat.lt_irrefl 0)
theorem Rd.below {B : Nat} {w w' : World} {A : Option Addr} {n : Nat} {f : Nat → Value} (h : Rd w A n f) (hb : Below B w w') (hB : ∀ ad, 0 < n → A = some ad → ad.block < B) : Rd w' A n f := fun hn => by
  obtain ⟨ad, e, hc⟩ := h hn
  exact ⟨ad, e, fun i hi => (hb.cell (by rw [block_add]; exact hB ad hn e)).trans (hc i hi)⟩
theorem Rd.lt {w : World} {A : Option Addr} {n : Nat} {f : Nat → Value} (h : Rd w A n f) (ad : Addr) (hn : 0 < n) (e : A = some ad) : ad.block < w.heap.size := by
  obtain ⟨ad', e', hc⟩ := h hn
  obtain rfl := Option.some.inj (e.symm.trans e')
  have := World.block_lt_of_cell? w _ (hc 0 hn)
  rwa [block_add] at this
end Go.Proofs.YthalmjjbamglgaaDoor
