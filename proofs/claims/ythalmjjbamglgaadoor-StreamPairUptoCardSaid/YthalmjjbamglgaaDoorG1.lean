/-
  Plain lemmas for this seat's laws: from a walk that returns true and leaves old memory as it was, to the row's post-condition; what a call may have changed.
  Plain lemmas, more: slices that read as lists, arguments opened, sizes out of the row's own bound.
  Bytes: slices of bytes as strings, bits put together.
  A struct by value, loaded and stored whole in one step; a field stored; results through cells.
  Several cells stored one behind the other.
  Arguments opened, more: slices of structs of numbers and truth values, read as rows; truth values; structs by value.
  The cells of one element of a slice of structs, at the addresses that a walk asks for.
  No condition of its own.
-/
import Derived.Test.YthalmjjbamglgaaDoorRows
import Derived.WalkKit
import Derived.ProofKit
import Derived.OpenShut
import Derived.Carry
import Derived.Deep.Draws
import Derived.Maps.AppendAt
import Derived.Deep.Slices
import Derived.Laws.BytesArg
import Derived.Laws.BitsAllLaws
import Derived.Laws.CopyRow
import Derived.Deep.Fields
import Derived.Deep.Grids
import Derived.ChangeSame
import Derived.Lib.SmallJoins
namespace Go.Proofs.YthalmjjbamglgaaDoor
open Go.RowKit Go.ChangeShapes Go.WideShapes

section
variable {H : Type} {enc : TypeId × Value → H} {P : Program}

/-- Arguments read behind a call that changed nothing old as they did before. -/
theorem trodAll_below (hl : laidOutB P = true) {W W' : World} (hb : Below W.heap.size W W') :
    ∀ (ts : List TypeId) (vs : List Value) (ds : List (DataW H)) (ps : List MemPlace), (∀ t ∈ ts, P.readableRec t = true ∧ t < P.types.size) →
      DataW.TrodAll enc P W 0 (fun _ => true) true ts vs ds ps → (∀ x ∈ ps, x.block < W.heap.size) → DataW.TrodAll enc P W' 0 (fun b => decide (b < W.heap.size)) true ts vs ds ps
  | [], vs, ds, ps, _, h, _ => by
    obtain ⟨rfl, rfl, rfl⟩ := trodAll_nil h
    exact trodAll_mk0
  | t :: ts, vs, ds, ps, hr, h, hlt => by
    obtain ⟨v, vs, d, ds, p, q, rfl, rfl, rfl, h1, h2⟩ := trodAll_cons h
    exact trodAll_cons_mk (Below.trod hl (hr t (List.mem_cons_self ..)).1 (hr t (List.mem_cons_self ..)).2 h1 hb (fun x hx => hlt x (List.mem_append_left _ hx)))
      (trodAll_below hl hb ts vs ds q (fun u hu => hr u (List.mem_cons_of_mem _ hu)) h2 (fun x hx => hlt x (List.mem_append_right _ hx)))

/-- The row's post-condition out of a walk. -/
theorem law_calls {f : FuncId} {fn : Func} {s : ChangeSpec} {tb : TypeId} {W : World} {args : Array Value} {ds gs : List (DataW H)} {before : List MemPlace}
    (hl : laidOutB P = true) (hp : (fn.params.toList.all fun t => P.readableRec t && decide (t < P.types.size)) = true) (hr : fn.resultTypes = #[tb]) (htb : P.underlying tb = some .bool) (hv : s.vars = [])
    (hW : DataW.Whole enc P fn.params.toList s.vars false W args.toList ds gs before) (hs : s.fn H (ds ++ gs) = { results := [.lit (.bool true)], args := ds })
    (walk : Calls P f args W fun e w' => e = .returned (.bool true) ∧ Below W.heap.size W w') :
    Calls P f args W fun e W' => ∃ v, e = .returned v ∧ s.post enc P fn false true false false W args v W' := by
  refine walk.mono fun e W' ⟨he, hb⟩ => ?_
  subst he
  refine ⟨_, rfl, ?_⟩
  have hlt := hW.lt
  have hW0 := hW
  obtain ⟨p, q, hA, hV, rfl, _, _⟩ := hW0
  rw [hv] at hV
  obtain ⟨rfl, rfl⟩ := trodVars_none hV
  refine ⟨ds, [], p ++ [], [], p, [], hW, ?_, ?_, ?_, ?_, fun h => by cases h⟩
  · rw [hs, hr]
    exact trodAll_mk1 (shut_bool htb true)
  · rw [hs]
    refine trodAll_below hl hb _ _ _ _ (fun t ht => ?_) hA (fun x hx => hlt x (List.mem_append_left _ hx))
    have := List.all_eq_true.1 hp t ht
    simpa using this
  · rw [hs, hv]
    rfl
  · exact hb.frame _
end

/-! ### What a call may have changed: the blocks in S, and new ones -/
structure Chg (S : Nat → Prop) (w w' : World) : Prop where
  os : w'.os = w.os
  tape : w'.tape = w.tape
  output : w'.output = w.output
  size : w.heap.size ≤ w'.heap.size
  block : ∀ k, k < w.heap.size → ¬ S k → w'.heap[k]? = w.heap[k]?

section
variable {S S' : Nat → Prop} {w w' w'' : World} {B : Nat}
theorem Chg.refl (S : Nat → Prop) (w : World) : Chg S w w := ⟨rfl, rfl, rfl, Nat.le_refl _, fun _ _ _ => rfl⟩
theorem Chg.trans (h : Chg S w w') (k : Chg S w' w'') : Chg S w w'' :=
  ⟨k.os.trans h.os, k.tape.trans h.tape, k.output.trans h.output, Nat.le_trans h.size k.size, fun i hi hs => (k.block i (Nat.lt_of_lt_of_le hi h.size) hs).trans (h.block i hi hs)⟩
theorem Chg.more (h : Chg S w w') (hS : ∀ k, k < w.heap.size → S k → S' k) : Chg S' w w' := ⟨h.os, h.tape, h.output, h.size, fun i hi hs => h.block i hi (fun h => hs (hS i hi h))⟩
/-- Two calls behind one another: the second may have changed what the first made new. -/
theorem Chg.then (h : Chg S w w') (k : Chg S' w' w'') (hS : ∀ k, k < w.heap.size → S' k → S k) : Chg S w w'' :=
  ⟨k.os.trans h.os, k.tape.trans h.tape, k.output.trans h.output, Nat.le_trans h.size k.size, fun i hi hs => (k.block i (Nat.lt_of_lt_of_le hi h.size) (fun h => hs (hS i hi h))).trans (h.block i hi hs)⟩
theorem Chg.drewN (h : Chg S w w') (n : Nat) : Chg S w (w'.drewN n) := ⟨h.os, h.tape, h.output, h.size, h.block⟩
theorem Chg.drew (h : Chg S w w') : Chg S w w'.drew := ⟨h.os, h.tape, h.output, h.size, h.block⟩
theorem Chg.alloc (h : Chg S w w') (o : Obj) : Chg S w (w'.alloc o) :=
  ⟨h.os, h.tape, h.output, Nat.le_trans h.size (by simp), fun i hi hs => (Below.heap_alloc w' o i (Nat.lt_of_lt_of_le hi h.size)).trans (h.block i hi hs)⟩
theorem Chg.setCell (h : Chg S w w') {p : Addr} (hp : p.block < w.heap.size → S p.block) (u : Value) : Chg S w (w'.setCell p u) :=
  ⟨h.os, h.tape, h.output, by simpa [World.setCell] using h.size, fun i hi hs => (Below.heap_setCell w' p u i (by rintro rfl; exact hs (hp hi))).trans (h.block i hi hs)⟩
theorem Chg.grown (h : Chg S w w') {row : Option Nat} (hg : w'.grownBy w'' row) (hr : ∀ k, row = some k → k < w.heap.size → S k) : Chg S w w'' :=
  ⟨hg.os.trans h.os, hg.tape.trans h.tape, hg.output.trans h.output, Nat.le_trans h.size hg.size,
   fun i hi hs => (hg.block i (Nat.lt_of_lt_of_le hi h.size) (fun e => hs (hr i e.symm hi))).trans (h.block i hi hs)⟩
theorem Chg.below (h : Chg S w w') (hS : ∀ k, k < w.heap.size → S k → B ≤ k) (hB : B ≤ w.heap.size) : Below B w w' :=
  ⟨h.os, h.tape, h.output, h.size, fun k hk => h.block k (by omega) (fun hs => by have := hS k (by omega) hs; omega)⟩
theorem Chg.cell (h : Chg S w w') {p : Addr} (hp : p.block < w.heap.size) (hs : ¬ S p.block) : w'.cell? p = w.cell? p := World.cell?_of_block (h.block p.block hp hs)
theorem Chg.of_below (h : Below w.heap.size w w') : Chg S w w' := ⟨h.os, h.tape, h.output, h.size, fun k hk _ => h.block k hk⟩
end

/-- Some answers were drawn, nothing else. -/
def Dr (w w' : World) : Prop := ∃ n, w.drewN n = w'
theorem Dr.refl (w : World) : Dr w w := ⟨0, rfl⟩

/-- Nothing old. -/
abbrev none_ : Nat → Prop := fun _ => False
theorem Chg.old {w w' : World} (h : Chg none_ w w') {B : Nat} (hB : B ≤ w.heap.size) : Below B w w' := h.below (fun _ _ hf => hf.elim) hB

/-- A block known whole: its cells, none frozen. -/
def Is (w : World) (g : Nat) (t : TypeId) (cs : Array Value) : Prop := w.heap[g]? = some (.cells cs t (0, 0))

section
variable {S : Nat → Prop} {w w' : World} {g : Nat} {t : TypeId} {cs : Array Value}
theorem Is.lt (h : Is w g t cs) : g < w.heap.size := (Array.getElem?_eq_some_iff.1 h).1
theorem Is.cell (h : Is w g t cs) (i : Nat) : w.cell? ⟨g, i, none⟩ = cs[i]? := cell_of_row w g i cs t (0, 0) h
theorem Is.at_ (h : Is w g t cs) (i : Nat) (v : Value) (hv : cs[i]? = some v) : w.cell? ⟨g, i, none⟩ = some v := (h.cell i).trans hv
theorem Is.frozen (h : Is w g t cs) (i : Nat) : w.frozen? ⟨g, i, none⟩ = false := by
  have h' : w.heap[g]? = some (.cells cs t (0, 0)) := h
  simp [World.frozen?, h']
theorem Is.new (w : World) (t : TypeId) (cs : Array Value) : Is (w.alloc (.cells cs t)) w.heap.size t cs := heap_alloc_new w _
theorem Is.chg (h : Is w g t cs) (hc : Chg S w w') (hs : ¬ S g) : Is w' g t cs := (hc.block g h.lt hs).trans h
theorem Is.below {B : Nat} (h : Is w g t cs) (hb : Below B w w') (hg : g < B) : Is w' g t cs := (hb.block g hg).trans h
theorem Is.alloc (h : Is w g t cs) (o : Obj) : Is (w.alloc o) g t cs := (Below.heap_alloc w o g h.lt).trans h
theorem Is.drewN (h : Is w g t cs) (n : Nat) : Is (w.drewN n) g t cs := h
theorem Is.put (h : Is w g t cs) (i : Nat) (u : Value) : Is (w.setCell ⟨g, i, none⟩ u) g t (cs.setIfInBounds i u) := by
  have h' : w.heap[g]? = some (.cells cs t (0, 0)) := h
  show (w.setCell ⟨g, i, none⟩ u).heap[g]? = _
  simp [World.setCell, Array.getElem?_modify, h']
theorem Is.far (h : Is w g t cs) {p : Addr} (hp : g ≠ p.block) (u : Value) : Is (w.setCell p u) g t cs := (Below.heap_setCell w p u g hp).trans h
end

/-- A slice value (its address, its length) that reads as the list f 0, f 1, .. of one-cell elements. -/
def Rd (w : World) (A : Option Addr) (n : Nat) (f : Nat → Value) : Prop := 0 < n → ∃ ad, A = some ad ∧ ∀ i, i < n → w.cell? (ad.add i) = some (f i)

theorem block_add (a : Addr) (n : Nat) : (a.add n).block = a.block := by unfold Addr.add; split <;> rfl

theorem Rd.zero (w : World) (A : Option Addr) (f : Nat → Value) : Rd w A 0 f := fun h => absurd h (Nat.lt_irrefl 0)
theorem Rd.below {B : Nat} {w w' : World} {A : Option Addr} {n : Nat} {f : Nat → Value} (h : Rd w A n f) (hb : Below B w w') (hB : ∀ ad, 0 < n → A = some ad → ad.block < B) : Rd w' A n f := fun hn => by
  obtain ⟨ad, e, hc⟩ := h hn
  exact ⟨ad, e, fun i hi => (hb.cell (by rw [block_add]; exact hB ad hn e)).trans (hc i hi)⟩
theorem Rd.lt {w : World} {A : Option Addr} {n : Nat} {f : Nat → Value} (h : Rd w A n f) (ad : Addr) (hn : 0 < n) (e : A = some ad) : ad.block < w.heap.size := by
  obtain ⟨ad', e', hc⟩ := h hn
  obtain rfl := Option.some.inj (e.symm.trans e')
  have := World.block_lt_of_cell? w _ (hc 0 hn)
  rwa [block_add] at this
end Go.Proofs.YthalmjjbamglgaaDoor
namespace Go.Proofs.YthalmjjbamglgaaDoor
open Go.RowKit Go.ChangeShapes Go.WideShapes

theorem below_drewN {B : Nat} {w w' : World} (h : Below B w w') (n : Nat) : Below B w (w'.drewN n) := ⟨h.os, h.tape, h.output, h.size, h.block⟩
theorem Rd.drewN {w : World} {A : Option Addr} {n : Nat} {f : Nat → Value} (h : Rd w A n f) (k : Nat) : Rd (w.drewN k) A n f := h
theorem Rd.keep {w w' : World} {A : Option Addr} {n : Nat} {f : Nat → Value} (h : Rd w A n f) (hb : Below w.heap.size w w') : Rd w' A n f := h.below hb fun ad hn e => h.lt ad hn e
theorem Rd.congr {w : World} {A : Option Addr} {n : Nat} {f g : Nat → Value} (h : Rd w A n f) (e : ∀ i, i < n → f i = g i) : Rd w A n g := fun hn => by
  obtain ⟨ad, ea, hc⟩ := h hn
  exact ⟨ad, ea, fun i hi => by rw [← e i hi]; exact hc i hi⟩
theorem Rd.own {w : World} {base : Nat} {e : TypeId} {A : Option Addr} {n c : Nat} {xs : List Value} {f : Nat → Value} (h : w.ownsRow base e 1 (.slice A n c) n xs) (hx : ∀ i, i < n → xs[i]? = some (f i)) : Rd w A n f := fun hn => by
  have h0 := h
  rcases h0.2 with ⟨h1, h2⟩ | ⟨g, cap, cur, hv, _, _, _⟩
  · omega
  · injection hv with hA _ _
    subst hA
    exact ⟨_, rfl, fun i hi => h.cells (g := g) rfl i _ (hx i hi)⟩
theorem own_slice {w : World} {base : Nat} {e : TypeId} {s n : Nat} {v : Value} {xs : List Value} (h : w.ownsRow base e s v n xs) : ∃ A c, v = .slice A n c := by
  rcases h.2 with ⟨rfl, rfl⟩ | ⟨g, cap, cur, rfl, _⟩
  · exact ⟨_, _, rfl⟩
  · exact ⟨_, _, rfl⟩

theorem drop_get {zs : List Int} {k : Nat} (h : k < zs.length) : zs.drop k = zs.getD k 0 :: zs.drop (k + 1) := by
  rw [List.drop_eq_getElem_cons h, List.getD_eq_getElem?_getD, List.getElem?_eq_getElem h]
  rfl
theorem ints_get {kd : IntKind} {zs : List Int} {i : Nat} (h : i < zs.length) : (zs.map (Value.int kd))[i]? = some (.int kd (zs.getD i 0)) := by
  rw [List.getElem?_map, List.getD_eq_getElem?_getD, List.getElem?_eq_getElem h]
  rfl
theorem take_get {kd : IntKind} {zs : List Int} {k : Nat} (h : k < zs.length) : (zs.map (Value.int kd)).take (k + 1) = (zs.map (Value.int kd)).take k ++ [.int kd (zs.getD k 0)] := by
  rw [List.take_succ_eq_append_getElem (by simpa using h), List.getElem_map, List.getD_eq_getElem?_getD, List.getElem?_eq_getElem h]
  rfl
theorem getD_mem {zs : List Int} {i : Nat} (h : i < zs.length) : zs.getD i 0 ∈ zs := by
  rw [List.getD_eq_getElem?_getD, List.getElem?_eq_getElem h]
  exact List.getElem_mem h

section
variable {H : Type} {enc : TypeId × Value → H} {P : Program} {W : World}

/-- Each argument's weights are within the row's own bound. -/
theorem weights_at : ∀ (ts : List TypeId) (ds : List (DataW H)) (j : Nat) (t : TypeId) (d : DataW H), (DataW.weightsEach P ts ds).all (· ≤ reachBytes) = true → ts[j]? = some t → ds[j]? = some d → ∀ x ∈ d.weights P t, x ≤ reachBytes
  | [], _, _, _, _, _, h, _ => by simp at h
  | _ :: _, [], _, _, _, _, _, h => by simp at h
  | t0 :: ts, d0 :: ds, j, t, d, hall, ht, hd => by
    simp only [DataW.weightsEach, List.all_append, Bool.and_eq_true] at hall
    cases j with
    | zero =>
      simp only [List.getElem?_cons_zero, Option.some.injEq] at ht hd
      subst ht hd
      intro x hx
      have := List.all_eq_true.1 hall.1 x hx
      simpa using this
    | succ j => exact weights_at ts ds j t d hall.2 (by simpa using ht) (by simpa using hd)

theorem slice_weight {t e : TypeId} {es sp : List (DataW H)} {b : Nat} (ht : P.underlying t = some (.slice e)) (hb : P.bytesOf e = b) (h : ∀ x ∈ (DataW.slice es sp).weights P t, x ≤ reachBytes) : (es.length + sp.length) * b ≤ reachBytes := by
  have := h ((es.length + sp.length) * P.bytesOf e) (by simp [DataW.weights, ht])
  rwa [hb] at this

/-- A slice of whole numbers, nil or not, opened. -/
theorem open_ints_rd {base : Nat} {t e : TypeId} {kd : IntKind} {v : Value} {d : DataW H} {p : List MemPlace} (ht : P.underlying t = some (.slice e)) (he : P.underlying e = some (.int kd)) (hc : P.cellsOf e = 1)
    (hval : Value.okWide P W .any base t v) (h : DataW.Trod enc P W 0 (fun _ => true) true t v d p) :
    ∃ (A : Option Addr) (n c : Nat) (zs : List Int), v = .slice A n c ∧ zs.length = n ∧ n ≤ c ∧ (Rd W A n fun i => .int kd (zs.getD i 0)) ∧ (∀ z ∈ zs, (Lit.int kd z).wf = true) ∧
      ((d = .nil ∧ c = 0) ∨ ∃ es sp, d = .slice es sp ∧ es.length + sp.length = c) := by
  obtain ⟨A, n, c, rfl⟩ := okWide_slice ht hval
  obtain ⟨fuel, hf⟩ := h
  rcases open_ints ht he hc hf with ⟨hcs, hx⟩ | ⟨a, len, cap, zs, hcs, _, hl, hm, hz, hx, hcell, hwz⟩
  · simp [Value.cells] at hcs
    obtain ⟨rfl, rfl, rfl⟩ := hcs
    simp only [Prod.mk.injEq] at hx
    exact ⟨none, 0, 0, [], rfl, rfl, Nat.le_refl _, Rd.zero _ _ _, (fun z h => by cases h), .inl ⟨hx.1, rfl⟩⟩
  · simp [Value.cells] at hcs
    obtain ⟨rfl, rfl, rfl⟩ := hcs
    simp only [Prod.mk.injEq] at hx
    simp only [if_true] at hz
    refine ⟨some a, n, c, zs.take n, rfl, by rw [List.length_take]; omega, hl, fun _ => ⟨a, rfl, fun i hi => ?_⟩, fun z h => hwz z (List.mem_of_mem_take h), .inr ⟨_, _, hx.1, ?_⟩⟩
    · rw [hcell i (by omega)]
      congr 2
      rw [List.getD_eq_getElem?_getD, List.getD_eq_getElem?_getD, List.getElem?_take, if_pos hi]
    · simp [lits, List.length_take, List.length_drop]
      omega

theorem sliceD_le {t e : TypeId} {b n c : Nat} {d : DataW H} (ht : P.underlying t = some (.slice e)) (hb : P.bytesOf e = b) (hnc : n ≤ c) (hd : (d = .nil ∧ c = 0) ∨ ∃ es sp, d = .slice es sp ∧ es.length + sp.length = c)
    (h : ∀ x ∈ d.weights P t, x ≤ reachBytes) : n * b ≤ reachBytes := by
  rcases hd with ⟨_, rfl⟩ | ⟨es, sp, rfl, rfl⟩
  · have : n = 0 := by omega
    subst this
    simp
  · exact Nat.le_trans (Nat.mul_le_mul_right _ hnc) (slice_weight ht hb h)
end
end Go.Proofs.YthalmjjbamglgaaDoor
namespace Go.Proofs.YthalmjjbamglgaaDoor
open Go.RowKit

theorem nat_or (a b i : Nat) (h : b < 2 ^ i) : a * 2 ^ i ||| b = a * 2 ^ i + b := by
  rw [Nat.mul_comm]
  exact (Nat.two_pow_add_eq_or_of_lt h a).symm
theorem or16 (x y : Int) (h1 : 0 ≤ x) (h2 : x ≤ 255) (h3 : 0 ≤ y) (h4 : y ≤ 255) : bits .or .u16 (x * 256) y = x * 256 + y := by
  obtain ⟨a, rfl⟩ := Int.eq_ofNat_of_zero_le h1
  obtain ⟨b, rfl⟩ := Int.eq_ofNat_of_zero_le h3
  have := u16_or_nat (a * 256) b (by omega) (by omega)
  rw [nat_or a b 8 (by omega)] at this
  simpa using this
theorem or32 (i : Nat) (hi : i ≤ 32) (x y : Int) (h1 : 0 ≤ x) (h2 : x * 2 ^ i ≤ 4294967295) (h3 : 0 ≤ y) (h4 : y < 2 ^ i) : bits .or .u32 (x * 2 ^ i) y = x * 2 ^ i + y := by
  obtain ⟨a, rfl⟩ := Int.eq_ofNat_of_zero_le h1
  obtain ⟨b, rfl⟩ := Int.eq_ofNat_of_zero_le h3
  have e1 : ((a : Int) * 2 ^ i) = ((a * 2 ^ i : Nat) : Int) := by simp
  have hb : b < 2 ^ i := by
    have : ((b : Int)) < ((2 ^ i : Nat) : Int) := by simpa using h4
    omega
  have h32 : 2 ^ i ≤ 2 ^ 32 := Nat.pow_le_pow_right (by decide) hi
  rw [e1] at h2 ⊢
  have := u32_or_nat (a * 2 ^ i) b (by omega) (by omega)
  rw [nat_or a b i hb] at this
  rw [this]
  simp

/-- string(b), b a slice of bytes that reads as a list, nil or not. -/
theorem run_str {P : Program} {w : World} (src e : TypeId) (hs : P.underlying src = some (.slice e)) (he : P.underlying e = some (.int .u8)) {A : Option Addr} {n c : Nat} {xs : List Int} (hl : xs.length = n)
    (hr : Rd w A n fun i => .int .u8 (xs.getD i 0)) : ∀ dst, P.underlying dst = some .string → (convert src dst (.slice A n c)).run P w = .ok (.string (strOfNums xs)) w := by
  intro dst hd
  cases A with
  | none =>
    have h0 : n = 0 := by
      rcases Nat.eq_zero_or_pos n with h | h
      · exact h
      · obtain ⟨ad, e, _⟩ := hr h
        cases e
    subst h0
    have hx : xs = [] := List.eq_nil_of_length_eq_zero hl
    subst hx
    exact run_convert_bytes_nil w src e hs he 0 c dst hd
  | some ad =>
    have hlo : (loadCells ad n).run P w = .ok (xs.map (Value.int .u8)).toArray w := by
      have h := run_loadCells_list (P := P) w ad (xs.map (Value.int .u8)) (fun j v hj => by
        have hjl : j < xs.length := by
          rcases Nat.lt_or_ge j xs.length with h | h
          · exact h
          · rw [List.getElem?_eq_none (by simpa using h)] at hj; cases hj
        rw [ints_get hjl] at hj
        obtain ⟨ad', e', hc⟩ := hr (by omega)
        obtain rfl := Option.some.inj e'
        rw [hc j (by omega)]
        exact hj)
      rwa [List.length_map, hl] at h
    rw [run_convert_bytes_string w src dst e _ n c hs he hd, run_bytesToString w _ n c xs hlo, foldl_push_bytes]
    simp [strOfNums, ByteArray.empty, ByteArray.emptyWithCapacity]
    rfl

def Byt (xs : List Int) : Prop := ∀ z ∈ xs, 0 ≤ z ∧ z ≤ 255

theorem ofNat_inj {x y : Int} (hx : 0 ≤ x ∧ x ≤ 255) (hy : 0 ≤ y ∧ y ≤ 255) (h : UInt8.ofNat x.toNat = UInt8.ofNat y.toNat) : x = y := by
  have h' := congrArg UInt8.toNat h
  rw [UInt8.toNat_ofNat', UInt8.toNat_ofNat'] at h'
  omega

theorem map_bytes_inj : ∀ (xs ys : List Int), Byt xs → Byt ys → (xs.map fun n => UInt8.ofNat n.toNat) = (ys.map fun n => UInt8.ofNat n.toNat) → xs = ys
  | [], [], _, _, _ => rfl
  | [], y :: ys, _, _, h => by simp at h
  | x :: xs, [], _, _, h => by simp at h
  | x :: xs, y :: ys, hx, hy, h => by
    simp only [List.map_cons, List.cons.injEq] at h
    rw [ofNat_inj (hx x (List.mem_cons_self ..)) (hy y (List.mem_cons_self ..)) h.1,
      map_bytes_inj xs ys (fun z hz => hx z (List.mem_cons_of_mem _ hz)) (fun z hz => hy z (List.mem_cons_of_mem _ hz)) h.2]

theorem str_inj {xs ys : List Int} (hx : Byt xs) (hy : Byt ys) (h : strOfNums xs = strOfNums ys) : xs = ys := by
  apply map_bytes_inj xs ys hx hy
  have := congrArg (fun s : ByteArray => s.data.toList) h
  simpa [strOfNums_data] using this

theorem str_list (xs : List Int) : (strOfNums xs).toList = xs.map fun n => UInt8.ofNat n.toNat := by
  rw [ByteArray.toList_eq, strOfNums_data]
/-- '==' of two such strings, in the walk's own form. -/
theorem str_beq {xs ys : List Int} (hx : Byt xs) (hy : Byt ys) : ((strOfNums xs).toList == (strOfNums ys).toList) = decide (xs = ys) := by
  rw [str_list, str_list]
  by_cases h : xs = ys
  · subst h; simp
  · rw [decide_eq_false h]
    exact beq_eq_false_iff_ne.2 fun e => h (map_bytes_inj xs ys hx hy e)
theorem byt_wf {xs : List Int} (h : ∀ z ∈ xs, (Lit.int .u8 z).wf = true) : Byt xs := fun z hz => bounds_u8 (h z hz)
theorem Byt.take {xs : List Int} (h : Byt xs) (k : Nat) : Byt (xs.take k) := fun z hz => h z (List.mem_of_mem_take hz)
theorem Byt.drop {xs : List Int} (h : Byt xs) (k : Nat) : Byt (xs.drop k) := fun z hz => h z (List.mem_of_mem_drop hz)
theorem Byt.append {xs ys : List Int} (h : Byt xs) (h' : Byt ys) : Byt (xs ++ ys) := fun z hz => (List.mem_append.1 hz).elim (h z) (h' z)
theorem Byt.at_ {xs : List Int} (h : Byt xs) {i : Nat} (hi : i < xs.length) : 0 ≤ xs.getD i 0 ∧ xs.getD i 0 ≤ 255 := h _ (getD_mem hi)
end Go.Proofs.YthalmjjbamglgaaDoor
namespace Go.Proofs.YthalmjjbamglgaaDoor
open Go.RowKit

section
variable {P : Program} {w : World}
theorem addr_off (g o j : Nat) : (⟨g, o, none⟩ : Addr).add j = ⟨g, o + j, none⟩ := by unfold Addr.add; split <;> simp_all
/-- Part of a block, loaded whole. -/
theorem run_load_part {g o : Nat} {t ty : TypeId} {cs : Array Value} {vs : List Value} {d : TypeDesc} (hi : Is w g t cs) (hv : (cs.toList.drop o).take vs.length = vs)
    (hu : P.underlying ty = some d) (hd : (match d with | .struct _ | .array _ _ => true | _ => false) = true) (hz : (P.info? ty).map (·.size) = some vs.length) :
    (loadVar ty ⟨g, o, none⟩).run P w = .ok (.agg vs.toArray) w := by
  have hl : (loadCells ⟨g, o, none⟩ vs.length).run P w = .ok vs.toArray w :=
    run_loadCells_list (P := P) w ⟨g, o, none⟩ vs (fun j v hj => by
      rw [addr_off, hi.cell, ← Array.getElem?_toList]
      have hlt : j < vs.length := (List.getElem?_eq_some_iff.1 hj).1
      rw [← hv, List.getElem?_take, if_pos hlt, List.getElem?_drop] at hj
      exact hj)
  cases hq : P.info? ty with
  | none => simp [hq] at hz
  | some i =>
    have hs : i.size = vs.length := by simpa [hq] using hz
    have hagg : (isAgg ty).run P w = .ok true w := by
      unfold isAgg
      rw [Sem.run_bind, run_underlying hu w]
      cases d <;> simp_all
    simp [loadVar, Sem.run_bind, hagg, sizeOf, typeInfo, hq, hs, hl]
theorem setRow_is {g : Nat} {t : TypeId} {cs : Array Value} (hi : Is w g t cs) (cs' : Array Value) : Is (w.setRow g cs') g t cs' := setRow_heap w g cs cs' t (0, 0) hi
theorem setRow_chg (g : Nat) (cs' : Array Value) : Chg (fun k => k = g) w (w.setRow g cs') := by
  refine ⟨rfl, rfl, rfl, by simp [World.setRow], fun k _ hk => ?_⟩
  simp only [World.setRow, Array.getElem?_modify]
  rw [if_neg fun e => hk e.symm]
/-- Part of a block, stored whole. -/
theorem run_store_part {g o : Nat} {t ty : TypeId} {cs : Array Value} {v : Value} {vs : List Value} (hi : Is w g t cs) (hv : v.cells.toList = vs) (hl : o + vs.length ≤ cs.size) (h1 : ∀ u ∈ vs, u.oneCell' = true) (hz : (P.info? ty).map (·.size) = some vs.length) :
    (storeVar ty ⟨g, o, none⟩ v).run P w = .ok () (w.setRow g (cs.toList.take o ++ vs ++ cs.toList.drop (o + vs.length)).toArray) := by
  have h := run_storeCells_at P g o t vs 0 cs w hi (by simpa using hl) h1
  cases hq : P.info? ty with
  | none => simp [hq] at hz
  | some i =>
    have hs : i.size = vs.length := by simpa [hq] using hz
    have hc : v.cells.size = vs.length := by rw [← hv]; simp
    simp only [Nat.add_zero] at h
    simp [storeVar, sizeOf, typeInfo, hq, hc, hs, hv, h]

variable {ops : Array Oper} {rest : List Oper} {o : Oper} {a : Act} {Q : Exit → Act → World → Prop} {K : Act → World → Prop} {E : Prop}
theorem wpList_load_part (hgd : o.guard = none) (ty : TypeId) (x : Operand) (ho : o.op = .load ty x) (g off : Nat) (hx : a.eval x = .pointer (some ⟨g, off, none⟩)) {t : TypeId} {cs : Array Value} (vs : List Value) (hi : Is w g t cs) (hv : (cs.toList.drop off).take vs.length = vs)
    {d : TypeDesc} (hu : P.underlying ty = some d) (hd : (match d with | .struct _ | .array _ _ => true | _ => false) = true) (hz : (P.info? ty).map (·.size) = some vs.length)
    (h : wpList P ops Q rest (a.put o.dst (.agg vs.toArray)) w) : wpList P ops Q (o :: rest) a w := by
  refine wpList_plain hgd fun K hK => ?_
  have hr := run_load_part (P := P) hi hv hu hd hz
  unfold Oper.wp execOp
  simp only [ho, hx, Instr.loadAt, Instr.sureAddr, Sem.run_bind, Sem.run_pure, Result.andThen_ok, hr]
  exact hK _ _ h
theorem step_load_part (hgd : o.guard = none) (ty : TypeId) (x : Operand) (ho : o.op = .load ty x) (g off : Nat) (hx : a.eval x = .pointer (some ⟨g, off, none⟩)) {t : TypeId} {cs : Array Value} (vs : List Value) (hi : Is w g t cs) (hv : (cs.toList.drop off).take vs.length = vs)
    {d : TypeDesc} (hu : P.underlying ty = some d) (hd : (match d with | .struct _ | .array _ _ => true | _ => false) = true) (hz : (P.info? ty).map (·.size) = some vs.length)
    (h : K (a.put o.dst (.agg vs.toArray)) w) : if Region.wanted o (yielded ops a.tmps) = true then Oper.wp P o a w K Q else E := by
  have hw : Region.wanted o (yielded ops a.tmps) = true := by simp [Region.wanted, hgd]
  rw [if_pos hw]
  have hr := run_load_part (P := P) hi hv hu hd hz
  unfold Oper.wp execOp
  simp only [ho, hx, Instr.loadAt, Instr.sureAddr, Sem.run_bind, Sem.run_pure, Result.andThen_ok, hr]
  exact h
theorem wpList_store_part (hgd : o.guard = none) (ty : TypeId) (x y : Operand) (ho : o.op = .store ty x y) (g off : Nat) (hx : a.eval x = .pointer (some ⟨g, off, none⟩)) {t : TypeId} {cs : Array Value} (v : Value) (hy : a.eval y = v) (vs : List Value) (hi : Is w g t cs) (hv : v.cells.toList = vs) (hl : off + vs.length ≤ cs.size) (h1 : vs.all (·.oneCell') = true)
    (hz : (P.info? ty).map (·.size) = some vs.length) (cs' : Array Value) (hcs : (cs.toList.take off ++ vs ++ cs.toList.drop (off + vs.length)).toArray = cs')
    (h : ∀ w', Is w' g t cs' → Chg (fun k => k = g) w w' → wpList P ops Q rest (a.put o.dst undef) w') : wpList P ops Q (o :: rest) a w := by
  subst hcs
  refine wpList_plain hgd fun K hK => ?_
  have hr := run_store_part (P := P) (ty := ty) hi hv hl (fun u hu => List.all_eq_true.1 h1 u hu) hz
  unfold Oper.wp execOp
  simp only [ho, hx, hy, Instr.storeAt, Instr.sureAddr, Sem.run_bind, Sem.run_pure, Result.andThen_ok, hr]
  exact hK _ _ (h _ (setRow_is hi _) (setRow_chg g _))
theorem step_store_part (hgd : o.guard = none) (ty : TypeId) (x y : Operand) (ho : o.op = .store ty x y) (g off : Nat) (hx : a.eval x = .pointer (some ⟨g, off, none⟩)) {t : TypeId} {cs : Array Value} (v : Value) (hy : a.eval y = v) (vs : List Value) (hi : Is w g t cs) (hv : v.cells.toList = vs) (hl : off + vs.length ≤ cs.size) (h1 : vs.all (·.oneCell') = true)
    (hz : (P.info? ty).map (·.size) = some vs.length) (cs' : Array Value) (hcs : (cs.toList.take off ++ vs ++ cs.toList.drop (off + vs.length)).toArray = cs')
    (h : ∀ w', Is w' g t cs' → Chg (fun k => k = g) w w' → K (a.put o.dst undef) w') : if Region.wanted o (yielded ops a.tmps) = true then Oper.wp P o a w K Q else E := by
  subst hcs
  have hw : Region.wanted o (yielded ops a.tmps) = true := by simp [Region.wanted, hgd]
  rw [if_pos hw]
  have hr := run_store_part (P := P) (ty := ty) hi hv hl (fun u hu => List.all_eq_true.1 h1 u hu) hz
  unfold Oper.wp execOp
  simp only [ho, hx, hy, Instr.storeAt, Instr.sureAddr, Sem.run_bind, Sem.run_pure, Result.andThen_ok, hr]
  exact h _ (setRow_is hi _) (setRow_chg g _)

/-- Results through a cell, and slots. -/
theorem results_c1 {fn : Func} {p : Tmp} {ty : TypeId} (h : fn.results = #[.cell p ty]) (tmps : Array Value) {g : Nat} {t : TypeId} {cs : Array Value} {d : TypeDesc} (hp : tmps.getD p undef = .pointer (some ⟨g, 0, none⟩)) (hi : Is w g t cs)
    (hu : P.underlying ty = some d) (hd : (match d with | .struct _ | .array _ _ => true | _ => false) = true) (hz : (P.info? ty).map (·.size) = some cs.size) : (results fn tmps).run P w = .ok (.agg cs) w :=
  results_cell_row h tmps w g t cs (0, 0) d hp hi hu hd hz
theorem results_c2 {fn : Func} {p u : Tmp} {ty : TypeId} (h : fn.results = #[.cell p ty, .tmp u]) (tmps : Array Value) {g : Nat} {t : TypeId} {cs : Array Value} {d : TypeDesc} (hp : tmps.getD p undef = .pointer (some ⟨g, 0, none⟩)) (hi : Is w g t cs)
    (hu : P.underlying ty = some d) (hd : (match d with | .struct _ | .array _ _ => true | _ => false) = true) (hz : (P.info? ty).map (·.size) = some cs.size) {x : Value} (hx : tmps.getD u undef = x) : (results fn tmps).run P w = .ok (.tuple #[.agg cs, x]) w := by
  subst hx
  have hp' : tmps[p]?.getD undef = .pointer (some ⟨g, 0, none⟩) := by simpa using hp
  simp [results, h, hp', asAddr, run_loadVar_row w g t ty cs (0, 0) d hi hu hd hz]
theorem results_c3 {fn : Func} {p u v : Tmp} {ty : TypeId} (h : fn.results = #[.cell p ty, .tmp u, .tmp v]) (tmps : Array Value) {g : Nat} {t : TypeId} {cs : Array Value} {d : TypeDesc} (hp : tmps.getD p undef = .pointer (some ⟨g, 0, none⟩)) (hi : Is w g t cs)
    (hu : P.underlying ty = some d) (hd : (match d with | .struct _ | .array _ _ => true | _ => false) = true) (hz : (P.info? ty).map (·.size) = some cs.size) {x y : Value} (hx : tmps.getD u undef = x) (hy : tmps.getD v undef = y) : (results fn tmps).run P w = .ok (.tuple #[.agg cs, x, y]) w := by
  subst hx hy
  have hp' : tmps[p]?.getD undef = .pointer (some ⟨g, 0, none⟩) := by simpa using hp
  simp [results, h, hp', asAddr, run_loadVar_row w g t ty cs (0, 0) d hi hu hd hz]
theorem results_c4 {fn : Func} {p u v q : Tmp} {ty : TypeId} (h : fn.results = #[.cell p ty, .tmp u, .tmp v, .tmp q]) (tmps : Array Value) {g : Nat} {t : TypeId} {cs : Array Value} {d : TypeDesc} (hp : tmps.getD p undef = .pointer (some ⟨g, 0, none⟩)) (hi : Is w g t cs)
    (hu : P.underlying ty = some d) (hd : (match d with | .struct _ | .array _ _ => true | _ => false) = true) (hz : (P.info? ty).map (·.size) = some cs.size) {x y z : Value} (hx : tmps.getD u undef = x) (hy : tmps.getD v undef = y) (hq : tmps.getD q undef = z) : (results fn tmps).run P w = .ok (.tuple #[.agg cs, x, y, z]) w := by
  subst hx hy hq
  have hp' : tmps[p]?.getD undef = .pointer (some ⟨g, 0, none⟩) := by simpa using hp
  simp [results, h, hp', asAddr, run_loadVar_row w g t ty cs (0, 0) d hi hu hd hz]
theorem results_cc1 {fn : Func} {p p2 u : Tmp} {ty ty2 : TypeId} (h : fn.results = #[.cell p ty, .cell p2 ty2, .tmp u]) (tmps : Array Value) {g g2 : Nat} {t t2 : TypeId} {cs cs2 : Array Value} {d d2 : TypeDesc} (hp : tmps.getD p undef = .pointer (some ⟨g, 0, none⟩)) (hi : Is w g t cs) (hp2 : tmps.getD p2 undef = .pointer (some ⟨g2, 0, none⟩)) (hi2 : Is w g2 t2 cs2)
    (hu : P.underlying ty = some d) (hd : (match d with | .struct _ | .array _ _ => true | _ => false) = true) (hz : (P.info? ty).map (·.size) = some cs.size) (hu2 : P.underlying ty2 = some d2) (hd2 : (match d2 with | .struct _ | .array _ _ => true | _ => false) = true) (hz2 : (P.info? ty2).map (·.size) = some cs2.size) {x : Value} (hx : tmps.getD u undef = x) : (results fn tmps).run P w = .ok (.tuple #[.agg cs, .agg cs2, x]) w := by
  subst hx
  have hp' : tmps[p]?.getD undef = .pointer (some ⟨g, 0, none⟩) := by simpa using hp
  have hp2' : tmps[p2]?.getD undef = .pointer (some ⟨g2, 0, none⟩) := by simpa using hp2
  simp [results, h, hp', hp2', asAddr, run_loadVar_row w g t ty cs (0, 0) d hi hu hd hz, run_loadVar_row w g2 t2 ty2 cs2 (0, 0) d2 hi2 hu2 hd2 hz2]
end
end Go.Proofs.YthalmjjbamglgaaDoor
namespace Go.Proofs.YthalmjjbamglgaaDoor
open Go.RowKit

/-- vs stored from cell i of block p on. -/
def stores (w : World) (p i : Nat) : List Value → World
  | [] => w
  | v :: r => stores (w.setCell ⟨p, i, none⟩ v) p (i + 1) r
def puts (cs : Array Value) (i : Nat) : List Value → Array Value
  | [] => cs
  | v :: r => puts (cs.setIfInBounds i v) (i + 1) r
theorem Is.stores {w : World} {p : Nat} {t : TypeId} {cs : Array Value} (h : Is w p t cs) (i : Nat) (vs : List Value) : Is (stores w p i vs) p t (puts cs i vs) := by
  induction vs generalizing w cs i with
  | nil => exact h
  | cons v r ih => exact ih (h.put i v) (i + 1)
theorem Chg.stores {w w' : World} {S : Nat → Prop} (h : Chg S w w') {p : Nat} (hp : p < w.heap.size → S p) (i : Nat) (vs : List Value) : Chg S w (stores w' p i vs) := by
  induction vs generalizing w' i with
  | nil => exact h
  | cons v r ih => exact ih (h.setCell (p := ⟨p, i, none⟩) hp v) (i + 1)
end Go.Proofs.YthalmjjbamglgaaDoor
namespace Go.Proofs.YthalmjjbamglgaaDoor
open Go.RowKit Go.ChangeShapes Go.WideShapes Go.Deep

/-- A slice value that reads as n rows of m one-cell fields. -/
def Rds (w : World) (A : Option Addr) (n m : Nat) (f : Nat → Nat → Value) : Prop := 0 < n → ∃ ad, A = some ad ∧ ∀ i, i < n → ∀ j, j < m → w.cell? (ad.add (i * m + j)) = some (f i j)

theorem Rds.zero (w : World) (A : Option Addr) (m : Nat) (f : Nat → Nat → Value) : Rds w A 0 m f := fun h => absurd h (Nat.lt_irrefl 0)
theorem Rds.lt {w : World} {A : Option Addr} {n m : Nat} {f : Nat → Nat → Value} (h : Rds w A n m f) (hm : 0 < m) (ad : Addr) (hn : 0 < n) (e : A = some ad) : ad.block < w.heap.size := by
  obtain ⟨ad', e', hc⟩ := h hn
  obtain rfl := Option.some.inj (e.symm.trans e')
  have := World.block_lt_of_cell? w _ (hc 0 hn 0 hm)
  rwa [block_add] at this
theorem Rds.below {B : Nat} {w w' : World} {A : Option Addr} {n m : Nat} {f : Nat → Nat → Value} (h : Rds w A n m f) (hb : Below B w w') (hB : ∀ ad, 0 < n → A = some ad → ad.block < B) : Rds w' A n m f := fun hn => by
  obtain ⟨ad, e, hc⟩ := h hn
  exact ⟨ad, e, fun i hi j hj => (hb.cell (by rw [block_add]; exact hB ad hn e)).trans (hc i hi j hj)⟩
theorem Rds.keep {w w' : World} {A : Option Addr} {n m : Nat} {f : Nat → Nat → Value} (h : Rds w A n m f) (hm : 0 < m) (hb : Below w.heap.size w w') : Rds w' A n m f := h.below hb fun ad hn e => h.lt hm ad hn e

def boolV : Value → Bool
  | .bool b => b
  | _ => false

/-- What a field of one cell may hold, by its type. -/
def FldOk (P : Program) (t : TypeId) (v : Value) : Prop := (P.underlying t = some .bool → ∃ b, v = .bool b) ∧ ∀ k, P.underlying t = some (.int k) → ∃ z, v = .int k z ∧ (Lit.int k z).wf = true

section
variable {H : Type} {enc : TypeId × Value → H} {P : Program} {W : World}

theorem fldOk_of {base : Nat} {sp : Nat → Bool} {held : Bool} {n : Nat} {t : TypeId} {v : Value} {y : DataW H × List MemPlace} (h : DataW.trod enc P W base sp held n t [v] = some y) : FldOk P t v :=
  ⟨fun ht => by
     obtain ⟨b, hv, _⟩ := DataW.trod_bool ht h
     exact ⟨b, by simpa using hv⟩,
   fun k ht => by
     obtain ⟨z, hv, _, hw⟩ := DataW.trod_int ht h
     exact ⟨z, by simpa using hv, hw⟩⟩

/-- A slice of structs of one-cell fields, nil or not, opened. -/
theorem open_recs_rd {base : Nat} {t e : TypeId} {fs : Array Field} {v : Value} {d : DataW H} {p : List MemPlace} (ht : P.underlying t = some (.slice e)) (he : P.underlying e = some (.struct fs)) (hone : oneCellFields P fs = true) (hC : P.cellsOf e = fs.size)
    (hval : Value.okWide P W .any base t v) (h : DataW.Trod enc P W 0 (fun _ => true) true t v d p) :
    ∃ (A : Option Addr) (n c : Nat) (F : Nat → Nat → Value), v = .slice A n c ∧ n ≤ c ∧ Rds W A n fs.size F ∧ (∀ i, i < n → ∀ (j : Nat) (f : Field), fs[j]? = some f → FldOk P f.type (F i j)) ∧
      ((d = .nil ∧ c = 0) ∨ ∃ es sp, d = .slice es sp ∧ es.length + sp.length = c) := by
  obtain ⟨A, n, c, rfl⟩ := okWide_slice ht hval
  obtain ⟨fuel, hf⟩ := h
  rcases open_slice ht hf with ⟨hcs, hx⟩ | ⟨a, len, cap, m, nn, D, Pl, hcs, _, hl, _, hm, hx, hi⟩
  · simp [Value.cells] at hcs
    obtain ⟨rfl, rfl, rfl⟩ := hcs
    simp only [Prod.mk.injEq] at hx
    exact ⟨none, 0, 0, fun _ _ => .bool false, rfl, Nat.le_refl _, Rds.zero _ _ _ _, (fun i h => by omega), .inl ⟨hx.1, rfl⟩⟩
  · simp [Value.cells] at hcs
    obtain ⟨rfl, rfl, rfl⟩ := hcs
    simp only [Prod.mk.injEq] at hx
    simp only [if_true] at hm
    subst hm
    have key : ∀ i, i < n → ∀ (j : Nat) (f : Field), fs[j]? = some f → ∃ v, W.cell? (a.add (i * fs.size + j)) = some v ∧ FldOk P f.type v := by
      intro i hin j f hj
      obtain ⟨cs', hc, hd⟩ := hi i (by omega)
      rw [hC] at hc
      obtain ⟨xs, n', _, _, _, _, hg⟩ := DataW.trod_struct he hd
      obtain ⟨_, hcl, hat⟩ := World.cells?_some hc
      obtain ⟨ho, hk⟩ := hone_of hone j f hj
      have hjl : j < fs.size := (Array.getElem?_eq_some_iff.1 hj).1
      have hv : cs'[j]? = some (cs'[j]'(by omega)) := List.getElem?_eq_getElem (by omega)
      have h1 := hg j f hj
      rw [ho, hk] at h1
      have hone1 : (cs'.drop j).take 1 = [cs'[j]'(by omega)] := by
        rw [List.drop_eq_getElem_cons (by omega)]
        rfl
      rw [hone1] at h1
      cases hx1 : xs[j]? with
      | none =>
        rw [hx1] at h1
        have hlen : xs.length = fs.size := by assumption
        rw [List.getElem?_eq_none_iff] at hx1
        omega
      | some y =>
        rw [hx1] at h1
        refine ⟨_, ?_, fldOk_of h1⟩
        rw [← Go.Deep.add_add, hat j hjl, hv]
    refine ⟨some a, n, m, fun i j => (W.cell? (a.add (i * fs.size + j))).getD (.bool false), rfl, hl, fun _ => ⟨a, rfl, fun i hin j hj => ?_⟩, fun i hin j f hj => ?_, .inr ⟨_, _, hx.1, ?_⟩⟩
    · obtain ⟨v, hv, _⟩ := key i hin j fs[j] (Array.getElem?_eq_getElem hj)
      simp [hv]
    · obtain ⟨v, hv, ho⟩ := key i hin j f hj
      simpa [hv] using ho
    · simp
      omega

/-- A slice of truth values, nil or not, opened. -/
theorem open_bools_rd {base : Nat} {t e : TypeId} {v : Value} {d : DataW H} {p : List MemPlace} (ht : P.underlying t = some (.slice e)) (he : P.underlying e = some .bool) (hc : P.cellsOf e = 1)
    (hval : Value.okWide P W .any base t v) (h : DataW.Trod enc P W 0 (fun _ => true) true t v d p) :
    ∃ (A : Option Addr) (n c : Nat) (F : Nat → Bool), v = .slice A n c ∧ n ≤ c ∧ (Rd W A n fun i => .bool (F i)) ∧ ((d = .nil ∧ c = 0) ∨ ∃ es sp, d = .slice es sp ∧ es.length + sp.length = c) := by
  obtain ⟨A, n, c, rfl⟩ := okWide_slice ht hval
  obtain ⟨fuel, hf⟩ := h
  rcases open_bools ht he hc hf with ⟨hcs, hx⟩ | ⟨a, len, cap, B, hcs, _, hl, _, hx, hcell⟩
  · simp [Value.cells] at hcs
    obtain ⟨rfl, rfl, rfl⟩ := hcs
    simp only [Prod.mk.injEq] at hx
    exact ⟨none, 0, 0, fun _ => false, rfl, Nat.le_refl _, Rd.zero _ _ _, .inl ⟨hx.1, rfl⟩⟩
  · simp [Value.cells] at hcs
    obtain ⟨rfl, rfl, rfl⟩ := hcs
    simp only [Prod.mk.injEq, boolRow] at hx
    exact ⟨some a, n, c, B, rfl, hl, fun _ => ⟨a, rfl, fun i hi => hcell i (by omega)⟩, .inr ⟨_, _, hx.1, by simp; omega⟩⟩
end
end Go.Proofs.YthalmjjbamglgaaDoor
namespace Go.Proofs.YthalmjjbamglgaaDoor
open Go.RowKit

theorem rec_off {w : World} {ad : Addr} {x j : Nat} {v : Value} (h : w.cell? (ad.add (x + j)) = some v) (hj : 0 < j) : w.cell? ⟨(ad.add x).block, (ad.add x).off + j, none⟩ = some v := by
  have e : (ad.add x).add j = ⟨(ad.add x).block, (ad.add x).off + j, none⟩ := by
    show (if j = 0 then _ else _) = _
    rw [if_neg (by omega)]
  rw [← e, Go.Deep.add_add]
  exact h
/-- Element k's field 0, and another field j. -/
theorem Rds.f0 {w wr : World} {A : Option Addr} {n m : Nat} {F : Nat → Nat → Value} {ad : Addr} (h : Rds w A n m F) (e : A = some ad) (hb : Below w.heap.size w wr) (hm : 0 < m) {k : Nat} (hk : k < n) : wr.cell? (ad.add (k * m)) = some (F k 0) := by
  have hl := h.lt hm ad (by omega) e
  obtain ⟨ad', e', hc⟩ := h (by omega)
  obtain rfl := Option.some.inj (e.symm.trans e')
  exact (hb.cell (by rw [block_add]; exact hl)).trans (hc k hk 0 hm)
theorem Rds.fj {w wr : World} {A : Option Addr} {n m : Nat} {F : Nat → Nat → Value} {ad : Addr} (h : Rds w A n m F) (e : A = some ad) (hb : Below w.heap.size w wr) {k j : Nat} (hk : k < n) (hj : 0 < j) (hm : j < m) : wr.cell? ⟨(ad.add (k * m)).block, (ad.add (k * m)).off + j, none⟩ = some (F k j) := by
  have hl := h.lt (by omega) ad (by omega) e
  obtain ⟨ad', e', hc⟩ := h (by omega)
  obtain rfl := Option.some.inj (e.symm.trans e')
  exact rec_off ((hb.cell (by rw [block_add]; exact hl)).trans (hc k hk j hm)) hj
end Go.Proofs.YthalmjjbamglgaaDoor
