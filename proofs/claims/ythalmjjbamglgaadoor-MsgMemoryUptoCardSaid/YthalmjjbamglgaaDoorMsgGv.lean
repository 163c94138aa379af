/-
  culvertlaw27.gives by a contract (printed by gen_gives.py): what a reader gives for bytes cut anywhere is what the bytes say.
  No condition of its own: the fact 'Sen' on the world; sizes within the bulk.
-/
import Derived.Test.YthalmjjbamglgaaDoorMsg6
namespace Go.Proofs.YthalmjjbamglgaaDoor
open Go.RowKit

theorem st_next {most : Int} {F xs : List Int} (hF : Byt F) (hx : Byt xs) (hm : 0 ≤ most) : stS most (nF most F xs) = stS most (F ++ xs) ∧ (sayB most (F ++ xs)).1 = (sayB most F).1 ++ fM most F xs := by
  have h00 : ¬ most < 0 := by omega
  simp only [nF, fM, if_neg h00]
  cases h : stS most F with
  | none =>
    have := fd_dead hF hx h
    simp only [Option.isNone_none, if_true]
    exact ⟨by rw [h, this.1], by rw [this.2]; simp [fdM]⟩
  | some H =>
    simp only [Option.isNone_some, Bool.false_eq_true, if_false]
    exact ⟨by first | rfl | trivial, (fd_live hF hx h).2.1⟩
theorem Pr.next {w : World} {base : Nat} {p : Option Addr} {most : Int} {F xs : List Int} {hv : Value} (h : Pr w base p most (nF most F xs) hv) (hF : Byt F) (hx : Byt xs) (hm : 0 ≤ most) : Pr w base p most (F ++ xs) hv := by
  rcases h with ⟨rfl, _⟩ | ⟨h0, h1, g, rfl, h2, h3⟩
  · omega
  · exact .inr ⟨h0, h1, g, rfl, by rw [← (st_next hF hx hm).1]; exact h2, h3⟩
theorem Bs.rdG {w : World} {A : Option Addr} {n c : Nat} {xs : List Int} (h : Bs w (.slice A n c) xs) : Rd w A n fun i => .int .u8 (xs.getD i 0) := by
  obtain ⟨_, _, _, e, _, _, hr, _⟩ := h
  cases e
  exact hr
/-- The first error. -/
def ffC (most : Int) (F : List Int) : Nat := if (stS most F).isNone then 15 else 0
theorem ff_next {most : Int} {F xs : List Int} (hF : Byt F) (hx : Byt xs) (hm : 0 ≤ most) :
    (ffC most F = 0 ∧ fC most F xs = 0 ∧ ffC most (F ++ xs) = 0) ∨ (ffC most F = 0 ∧ fC most F xs = 15 ∧ ffC most (F ++ xs) = 15) ∨ (ffC most F = 15 ∧ fC most F xs = 34 ∧ ffC most (F ++ xs) = 15) := by
  unfold ffC fC
  rw [if_neg (show ¬ most < 0 by omega)]
  cases h : stS most F with
  | none =>
    have := fd_dead hF hx h
    rw [this.1]
    exact .inr (.inr ⟨rfl, rfl, rfl⟩)
  | some H =>
    have := (fd_live hF hx h).2.2
    rw [this]
    cases stS most (F ++ xs) with
    | none => exact .inr (.inl ⟨rfl, rfl, rfl⟩)
    | some H' => exact .inl ⟨rfl, rfl, rfl⟩

/-- What holds at the head of gives' loop. -/
structure GvL (w wr : World) (p : Option Addr) (most : Int) (C : List Int) (va : Value) (us : List Value) (hv : Value) : Prop where
  chg : Chg none_ w wr
  pr : Pr wr w.heap.size p most C hv
  all : Ob wr w.heap.size 23 va us.length us
  mem : Mem wr w.heap.size us (sayB most C).1
  off : ∀ u ∈ us, ∀ k, obk u = some k → obk va ≠ some k ∧ ¬ fW p hv k
  off2 : ∀ k, obk va = some k → ¬ fW p hv k
/-- What gives leaves. -/
def GvEnd (a : Nat → Addr) (w : World) (most : Int) (xs : List Int) (e : Ending) (w' : World) : Prop :=
  ∃ (p : Option Addr) (va : Value) (us : List Value) (hv : Value), e = .returned (.tuple #[va, errv a (ffC most xs), .pointer p]) ∧ p ≠ none ∧ GvL w w' p most xs va us hv

/-- Behind a Feed of a round: the relation anew. -/
theorem GvL.step {w wr w5 w6 w7 : World} {p : Option Addr} {most : Int} {C x : List Int} {va out va2 hv hv2 : Value} {us vs : List Value} (hL : GvL w wr p most C va us hv) (hm : 0 ≤ most) (hC : Byt C) (hx : Byt x)
    (h5 : Chg none_ wr w5) (r1 : Pr w6 w.heap.size p most (nF most C x) hv2) (r2 : ∀ k, fW p hv2 k → fW p hv k ∨ w5.heap.size ≤ k) (_r3 : Ob w6 w5.heap.size 23 out vs.length vs) (r4 : Mem w6 w5.heap.size vs (fM most C x))
    (r5 : ∀ v ∈ vs, ∀ k, obk v = some k → obk out ≠ some k ∧ ¬ fW p hv2 k) (r7 : Chg (fW p hv) w5 w6)
    (k1 : Ob w7 w.heap.size 23 va2 (us.length + vs.length) (us ++ vs)) (k2 : Chg (fun k => obk va = some k) w6 w7) (k3 : obk va2 = obk va ∨ obk va2 = some w6.heap.size) :
    GvL w w7 p most (C ++ x) va2 (us ++ vs) hv2 := by
  have ho := hL.pr.own
  have hsz := h5.size
  have hsz6 := r7.size
  have hsz7 := k2.size
  have hall : ∀ q, obk va = some q → w.heap.size ≤ q ∧ q < wr.heap.size := hL.all.block
  have c6 : Chg none_ w w6 := (hL.chg.trans h5).then r7 fun k hk h => by have := (ho k h).1; omega
  have hmem6 : Mem w6 w.heap.size us (sayB most C).1 := (hL.mem.keep h5).chg r7 fun u hu k hk => (hL.off u hu k hk).2
  have hvs : ∀ v ∈ vs, ∀ q, obk v = some q → w5.heap.size ≤ q ∧ q < w6.heap.size := r4.block
  have hus : ∀ u ∈ us, ∀ q, obk u = some q → w.heap.size ≤ q ∧ q < wr.heap.size := hL.mem.block
  have hw2 : ∀ k, fW p hv2 k → obk va2 ≠ some k := fun k hk e => by
    have hk6 := (r1.own k hk).2
    rcases k3 with h | h
    · rw [h] at e
      rcases r2 k hk with h' | h'
      · exact hL.off2 k e h'
      · have := (hall k e).2; omega
    · rw [h] at e; injection e with e; omega
  refine ⟨c6.then k2 fun k hk h => by have := (hall k h).1; omega, (r1.next hC hx hm).chg k2 fun k hk e => ?_, by rw [List.length_append]; exact k1, ?_, fun u hu k hk => ?_, fun k hk h => hw2 k h hk⟩
  · rcases r2 k hk with h' | h'
    · exact hL.off2 k e h'
    · have := (hall k e).2; omega
  · rw [(st_next hC hx hm).2]
    refine ((hmem6.app (r4.low (by have := hL.chg.size; omega)) fun u hu v hv q hq hq' => by have := (hus u hu q hq).2; have := (hvs v hv q hq').1; omega)).chg k2 fun u hu k hk e => ?_
    rcases List.mem_append.1 hu with hu | hu
    · exact (hL.off u hu k hk).1 e
    · have := (hvs u hu k hk).1; have := (hall k e).2; omega
  · rcases List.mem_append.1 hu with hu | hu
    · refine ⟨fun e => ?_, fun h => ?_⟩
      · rcases k3 with h | h
        · exact (hL.off u hu k hk).1 (by rw [← h]; exact e)
        · rw [h] at e; injection e with e; have := (hus u hu k hk).2; omega
      · rcases r2 k h with h' | h'
        · exact (hL.off u hu k hk).2 h'
        · have := (hus u hu k hk).2; omega
    · refine ⟨fun e => ?_, (r5 u hu k hk).2⟩
      rcases k3 with h | h
      · rw [h] at e; have := (hall k e).2; have := (hvs u hu k hk).1; omega
      · rw [h] at e; injection e with e; have := (hvs u hu k hk).2; omega

section
variable {B : Nat} {a : Nat → Addr}

end
end Go.Proofs.YthalmjjbamglgaaDoor
