/-
  The document's stream as a value that agrees with a model.
  No condition.
-/
import Derived.Test.YthalmjjbamglgaaDoorStrI
namespace Go.Proofs.YthalmjjbamglgaaDoor
open Go.RowKit

/-- The document's numbers agree with the model where they are looked at. -/
structure RfN (s : Sm) (c l o : Int) : Prop where
  c0 : 0 ≤ c
  c1 : c ≤ 4294967295
  l0 : 0 ≤ l
  l1 : l ≤ 4294967295
  o0 : 0 ≤ o
  o1 : o ≤ 4294967295
  c : s.rs = false → s.ct = false → s.lo = false → c = s.cr.h
  g : s.rs = false → s.ct = false → s.li = false → l = s.gr.l ∧ o = s.gr.o
  sgc : s.ct = true → s.sg = []
  ok : s.Ok
  sg : s.sg.length ≤ s.stage
  un : (s.un.length : Int) ≤ s.gr.W
def rfA (s : Sm) (c l o : Int) (A1 : Option Addr) (n1 k1 : Nat) (A2 : Option Addr) (n2 k2 : Nat) : Array Value :=
  #[.int .u32 s.id, .int .i64 s.gr.W, .int .i64 (s.stage : Int), .int .i64 (s.frame : Int), .bool s.mine, .bool s.acc, .slice A1 n1 k1, .bool s.cl, .bool s.lo, .int .i64 c, .slice A2 n2 k2, .int .i64 l, .int .i64 o, .bool s.li, .bool s.td, .bool s.rs, .bool s.ct]
/-- A slice of bytes within U. -/
structure Rfb (w : World) (U : Nat → Prop) (A : Option Addr) (n k : Nat) (xs : List Int) : Prop where
  bs : BsO w (.slice A n k) xs
  u : ∀ q, rdk (.slice A n k) = some q → q < w.heap.size ∧ U q
def Rf (w : World) (U : Nat → Prop) (s : Sm) (x : Value) : Prop :=
  ∃ c l o A1 n1 k1 A2 n2 k2, x = .agg (rfA s c l o A1 n1 k1 A2 n2 k2) ∧ RfN s c l o ∧ Rfb w U A1 n1 k1 s.sg ∧ Rfb w U A2 n2 k2 s.un

section
variable {w w' : World} {U U' S : Nat → Prop} {s : Sm} {x : Value} {c l o : Int} {A A1 A2 : Option Addr} {n k n1 k1 n2 k2 : Nat} {xs : List Int}
theorem Rfb.keep (h : Rfb w U A n k xs) (hc : Chg none_ w w') : Rfb w' U A n k xs := ⟨h.bs.chg hc fun q hq => ⟨(h.u q hq).1, fun f => f⟩, fun q hq => ⟨Nat.lt_of_lt_of_le (h.u q hq).1 hc.size, (h.u q hq).2⟩⟩
theorem Rfb.chg (h : Rfb w U A n k xs) (hc : Chg S w w') (hS : ∀ q, q < w.heap.size → U q → ¬ S q) : Rfb w' U A n k xs := ⟨h.bs.chg hc fun q hq => ⟨(h.u q hq).1, hS q (h.u q hq).1 (h.u q hq).2⟩, fun q hq => ⟨Nat.lt_of_lt_of_le (h.u q hq).1 hc.size, (h.u q hq).2⟩⟩
theorem Rfb.more (h : Rfb w U A n k xs) (hU : ∀ q, q < w.heap.size → U q → U' q) : Rfb w U' A n k xs := ⟨h.bs, fun q hq => ⟨(h.u q hq).1, hU q (h.u q hq).1 (h.u q hq).2⟩⟩
theorem Rfb.new (hb : BsO w' (.slice A n k) xs) (hr : ∀ q, rdk (.slice A n k) = some q → w.heap.size ≤ q ∧ q < w'.heap.size) (hU : ∀ q, w.heap.size ≤ q → U q) : Rfb w' U A n k xs := ⟨hb, fun q hq => ⟨(hr q hq).2, hU q (hr q hq).1⟩⟩
theorem Rfb.nil (w : World) (U : Nat → Prop) : Rfb w U none 0 0 [] := ⟨⟨none, 0, 0, rfl, rfl, (fun _ h => by cases h), Nat.le_refl _, fun h => absurd h (Nat.lt_irrefl 0)⟩, fun q hq => by simp [rdk] at hq⟩
theorem Rfb.fact (h : Rfb w U A n k xs) : xs.length = n ∧ n ≤ k ∧ Byt xs ∧ Rd w A n fun i => .int .u8 (xs.getD i 0) := by
  obtain ⟨A', n', c', e, hl, hb, hnc, h0⟩ := h.bs
  cases e
  refine ⟨hl, hnc, hb, fun hp => ?_⟩
  obtain ⟨g, rfl, h1⟩ := h0 hp
  refine ⟨_, rfl, fun i hi => ?_⟩
  rw [add_off, Nat.zero_add, h1 i hi]
  simp [u8s, List.getElem?_map, List.getD_eq_getElem?_getD, List.getElem?_eq_getElem (show i < xs.length by omega)]
theorem Rf.mk' (hn : RfN s c l o) (b1 : Rfb w U A1 n1 k1 s.sg) (b2 : Rfb w U A2 n2 k2 s.un) : Rf w U s (.agg (rfA s c l o A1 n1 k1 A2 n2 k2)) := ⟨c, l, o, A1, n1, k1, A2, n2, k2, rfl, hn, b1, b2⟩
theorem Rf.chg (h : Rf w U s x) (hc : Chg S w w') (hS : ∀ q, q < w.heap.size → U q → ¬ S q) : Rf w' U s x := by
  obtain ⟨c, l, o, A1, n1, k1, A2, n2, k2, rfl, hn, b1, b2⟩ := h
  exact Rf.mk' hn (b1.chg hc hS) (b2.chg hc hS)
theorem Rf.keep (h : Rf w U s x) (hc : Chg none_ w w') : Rf w' U s x := h.chg hc fun _ _ _ f => f
theorem Rf.more (h : Rf w U s x) (hU : ∀ q, q < w.heap.size → U q → U' q) : Rf w U' s x := by
  obtain ⟨c, l, o, A1, n1, k1, A2, n2, k2, rfl, hn, b1, b2⟩ := h
  exact Rf.mk' hn (b1.more hU) (b2.more hU)
theorem RfN.b1 (h : RfN s c l o) : s.sg.length ≤ 4294967296 := by have := h.sg; have := h.ok.g2; omega
theorem RfN.b2 (h : RfN s c l o) : s.un.length ≤ 4294967296 := by have := h.un; have := h.ok.gr.W2; omega

end
end Go.Proofs.YthalmjjbamglgaaDoor
