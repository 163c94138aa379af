/-
  Two readers side by side: what each holds, apart.
  No condition of its own.
-/
import Derived.Test.YthalmjjbamglgaaDoorMsgPc
namespace Go.Proofs.YthalmjjbamglgaaDoor
open Go.RowKit

/-- A reader with the list of what it gave, all within the blocks S. -/
structure SdL (w wr : World) (p : Option Addr) (most : Int) (C : List Int) (va : Value) (us : List Value) (hv : Value) (S : Nat → Prop) : Prop where
  g : GvL w wr p most C va us hv
  sz : ∀ k, S k → w.heap.size ≤ k ∧ k < wr.heap.size
  s1 : ∀ k, fW p hv k → S k
  s2 : ∀ k, obk va = some k → S k
  s3 : ∀ u ∈ us, ∀ k, obk u = some k → S k
theorem SdL.keep {w wr w' : World} {p : Option Addr} {most : Int} {C : List Int} {va : Value} {us : List Value} {hv : Value} {S T : Nat → Prop} (h : SdL w wr p most C va us hv S) (hc : Chg T wr w') (hT : ∀ k, k < wr.heap.size → T k → ¬ S k ∧ w.heap.size ≤ k) : SdL w w' p most C va us hv S := by
  have hs := hc.size
  have h0 := h.g.chg.size
  have hc' : Chg (fun k => T k ∧ k < wr.heap.size) wr w' := hc.more fun k hk hk' => ⟨hk', hk⟩
  refine ⟨⟨h.g.chg.then hc fun k hk hk' => ?_, h.g.pr.chg hc' fun k hk hk' => (hT k hk'.2 hk'.1).1 (h.s1 k hk), h.g.all.chg hc' fun k hk hk' => (hT k hk'.2 hk'.1).1 (h.s2 k hk), h.g.mem.chg hc' fun u hu k hk hk' => (hT k hk'.2 hk'.1).1 (h.s3 u hu k hk), h.g.off, h.g.off2⟩, fun k hk => ?_, h.s1, h.s2, h.s3⟩
  · have := (hT k (by omega) hk').2
    omega
  · have := h.sz k hk
    omega

/-- The same behind a Feed, what it gave not yet appended. -/
structure HfL (w : World) (lo : Nat) (wr : World) (p : Option Addr) (most : Int) (C x : List Int) (va : Value) (us : List Value) (out : Value) (vs : List Value) (hv : Value) (S : Nat → Prop) : Prop where
  chg : Chg none_ w wr
  pr : Pr wr w.heap.size p most (C ++ x) hv
  all : Ob wr w.heap.size 23 va us.length us
  mem : Mem wr w.heap.size us (sayB most C).1
  outO : Ob wr lo 23 out vs.length vs
  new : Mem wr lo vs (fM most C x)
  off : ∀ u ∈ us, ∀ k, obk u = some k → obk va ≠ some k ∧ ¬ fW p hv k ∧ k < lo
  offn : ∀ u ∈ vs, ∀ k, obk u = some k → obk out ≠ some k ∧ ¬ fW p hv k
  off2 : ∀ k, obk va = some k → ¬ fW p hv k ∧ k < lo
  off3 : ∀ k, obk out = some k → ¬ fW p hv k
  hlo : w.heap.size ≤ lo
  sz : ∀ k, S k → w.heap.size ≤ k ∧ k < wr.heap.size
  s1 : ∀ k, fW p hv k → S k
  s2 : ∀ k, obk va = some k → S k
  s3 : ∀ u ∈ us, ∀ k, obk u = some k → S k
  s4 : ∀ k, obk out = some k → S k
  s5 : ∀ u ∈ vs, ∀ k, obk u = some k → S k
theorem HfL.keep {w wr w' : World} {lo : Nat} {p : Option Addr} {most : Int} {C x : List Int} {va out : Value} {us vs : List Value} {hv : Value} {S T : Nat → Prop} (h : HfL w lo wr p most C x va us out vs hv S) (hc : Chg T wr w') (hT : ∀ k, k < wr.heap.size → T k → ¬ S k ∧ w.heap.size ≤ k) : HfL w lo w' p most C x va us out vs hv S := by
  have hs := hc.size
  have h0 := h.chg.size
  have hc' : Chg (fun k => T k ∧ k < wr.heap.size) wr w' := hc.more fun k hk hk' => ⟨hk', hk⟩
  refine ⟨h.chg.then hc fun k hk hk' => ?_, h.pr.chg hc' fun k hk hk' => (hT k hk'.2 hk'.1).1 (h.s1 k hk), h.all.chg hc' fun k hk hk' => (hT k hk'.2 hk'.1).1 (h.s2 k hk), h.mem.chg hc' fun u hu k hk hk' => (hT k hk'.2 hk'.1).1 (h.s3 u hu k hk),
    h.outO.chg hc' fun k hk hk' => (hT k hk'.2 hk'.1).1 (h.s4 k hk), h.new.chg hc' fun u hu k hk hk' => (hT k hk'.2 hk'.1).1 (h.s5 u hu k hk), h.off, h.offn, h.off2, h.off3, h.hlo, fun k hk => ?_, h.s1, h.s2, h.s3, h.s4, h.s5⟩
  · have := (hT k (by omega) hk').2
    omega
  · have := h.sz k hk
    omega
theorem SdL.feed {w w5 w6 : World} {p : Option Addr} {most : Int} {C x : List Int} {va out : Value} {us vs : List Value} {hv hv2 : Value} {S : Nat → Prop} (h : SdL w w5 p most C va us hv S) (hm : 0 ≤ most) (hC : Byt C) (hx : Byt x)
    (r1 : Pr w6 w.heap.size p most (nF most C x) hv2) (r2 : ∀ k, fW p hv2 k → fW p hv k ∨ w5.heap.size ≤ k) (r3 : Ob w6 w5.heap.size 23 out vs.length vs) (r4 : Mem w6 w5.heap.size vs (fM most C x))
    (r5 : ∀ v ∈ vs, ∀ k, obk v = some k → obk out ≠ some k ∧ ¬ fW p hv2 k) (r6 : ∀ k, obk out = some k → ¬ fW p hv2 k) (r7 : Chg (fW p hv) w5 w6) :
    HfL w w5.heap.size w6 p most C x va us out vs hv2 (fun k => S k ∨ w5.heap.size ≤ k ∧ k < w6.heap.size) := by
  have ho := h.g.pr.own
  have hsz := h.g.chg.size
  have hsz6 := r7.size
  have ho2 := r1.own
  have hall := h.g.all.block
  have hus := h.g.mem.block
  refine ⟨h.g.chg.then r7 fun k hk hf => by have := (ho k hf).1; omega, r1.next hC hx hm, h.g.all.chg r7 fun q hq hf => h.g.off2 q hq hf, h.g.mem.chg r7 fun u hu k hk => (h.g.off u hu k hk).2, r3, r4, fun u hu k hk => ⟨(h.g.off u hu k hk).1, fun hf => ?_, (hus u hu k hk).2⟩, r5, fun k hk => ⟨fun hf => ?_, (hall k hk).2⟩, r6, hsz,
    fun k hk => ?_, fun k hk => ?_, fun k hk => .inl (h.s2 k hk), fun u hu k hk => .inl (h.s3 u hu k hk), fun k hk => .inr (r3.block k hk), fun u hu k hk => .inr (r4.block u hu k hk)⟩
  · rcases r2 k hf with h' | h'
    · exact (h.g.off u hu k hk).2 h'
    · have := (hus u hu k hk).2; omega
  · rcases r2 k hf with h' | h'
    · exact h.g.off2 k hk h'
    · have := (hall k hk).2; omega
  · rcases hk with hk | hk
    · have := h.sz k hk; omega
    · omega
  · rcases r2 k hk with h' | h'
    · exact .inl (h.s1 k h')
    · exact .inr ⟨h', (ho2 k hk).2⟩
theorem HfL.app {w w6 w7 : World} {lo : Nat} {p : Option Addr} {most : Int} {C x : List Int} {va out va2 : Value} {us vs : List Value} {hv : Value} {S : Nat → Prop} (h : HfL w lo w6 p most C x va us out vs hv S) (hm : 0 ≤ most) (hC : Byt C) (hx : Byt x)
    (k1 : Ob w7 w.heap.size 23 va2 (us.length + vs.length) (us ++ vs)) (k2 : Chg (fun k => obk va = some k) w6 w7) (k3 : obk va2 = obk va ∨ obk va2 = some w6.heap.size) :
    SdL w w7 p most (C ++ x) va2 (us ++ vs) hv (fun k => S k ∨ w6.heap.size ≤ k ∧ k < w7.heap.size) := by
  have hsz := h.chg.size
  have hsz7 := k2.size
  have hlo := h.hlo
  have hall : ∀ q, obk va = some q → w.heap.size ≤ q ∧ q < w6.heap.size := h.all.block
  have hus : ∀ u ∈ us, ∀ q, obk u = some q → w.heap.size ≤ q ∧ q < w6.heap.size := h.mem.block
  have hvs : ∀ v ∈ vs, ∀ q, obk v = some q → lo ≤ q ∧ q < w6.heap.size := h.new.block
  have hk1 := k1.block
  refine ⟨⟨h.chg.then k2 fun k hk e => by have := (hall k e).1; omega, h.pr.chg k2 fun k hk e => (h.off2 k e).1 hk, by rw [List.length_append]; exact k1, ?_, fun u hu k hk => ?_, fun k hk hf => ?_⟩, fun k hk => ?_, fun k hk => .inl (h.s1 k hk), fun k hk => ?_, fun u hu k hk => ?_⟩
  · rw [(st_next hC hx hm).2]
    refine ((h.mem.app (h.new.low hlo) fun u hu v hv q hq hq' => by have := (h.off u hu q hq).2.2; have := (hvs v hv q hq').1; omega)).chg k2 fun u hu k hk e => ?_
    rcases List.mem_append.1 hu with hu | hu
    · exact (h.off u hu k hk).1 e
    · have := (hvs u hu k hk).1; have := (h.off2 k e).2; omega
  · rcases List.mem_append.1 hu with hu | hu
    · refine ⟨fun e => ?_, (h.off u hu k hk).2.1⟩
      rcases k3 with h' | h'
      · exact (h.off u hu k hk).1 (by rw [← h']; exact e)
      · rw [h'] at e; injection e with e; have := (hus u hu k hk).2; omega
    · refine ⟨fun e => ?_, (h.offn u hu k hk).2⟩
      rcases k3 with h' | h'
      · rw [h'] at e; have := (h.off2 k e).2; have := (hvs u hu k hk).1; omega
      · rw [h'] at e; injection e with e; have := (hvs u hu k hk).2; omega
  · rcases k3 with h' | h'
    · rw [h'] at hk; exact (h.off2 k hk).1 hf
    · rw [h'] at hk; injection hk with e; have := (h.sz k (h.s1 k hf)).2; omega
  · rcases hk with hk | hk
    · have := h.sz k hk; omega
    · omega
  · rcases k3 with h' | h'
    · rw [h'] at hk; exact .inl (h.s2 k hk)
    · have := (hk1 k hk).2
      rw [h'] at hk; injection hk with e; exact .inr ⟨by omega, by omega⟩
  · rcases List.mem_append.1 hu with hu | hu
    · exact .inl (h.s3 u hu k hk)
    · exact .inl (h.s5 u hu k hk)
theorem dis_l {P Q : Nat → Prop} {lo hi : Nat} (h : ∀ k, P k → ¬ Q k) (hQ : ∀ k, Q k → k < lo) : ∀ k, (P k ∨ lo ≤ k ∧ k < hi) → ¬ Q k := fun k hk hq => by
  rcases hk with hk | hk
  · exact h k hk hq
  · have := hQ k hq; omega
theorem dis_r {P Q : Nat → Prop} {lo hi : Nat} (h : ∀ k, P k → ¬ Q k) (hP : ∀ k, P k → k < lo) : ∀ k, P k → ¬ (Q k ∨ lo ≤ k ∧ k < hi) := fun k hp hk => by
  rcases hk with hk | hk
  · exact h k hp hk
  · have := hP k hp; omega
end Go.Proofs.YthalmjjbamglgaaDoor
