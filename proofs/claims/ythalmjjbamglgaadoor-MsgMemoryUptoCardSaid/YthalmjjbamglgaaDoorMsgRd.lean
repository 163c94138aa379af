/-
  The walk of MsgReads (printed by gen_msgrd.py).
  No condition of its own: the fact 'Sen' on the world; the pieces are within the bulk.
-/
import Derived.Test.YthalmjjbamglgaaDoorMsg6
namespace Go.Proofs.YthalmjjbamglgaaDoor
open Go.RowKit

theorem rd_at {w : World} {ad : Addr} {n : Nat} {f : Nat → Value} (h : Rd w (some ad) n f) (i : Nat) (hi : i < n) : w.cell? (ad.add i) = some (f i) := by
  obtain ⟨ad', e, hc⟩ := h (by omega)
  obtain rfl := Option.some.inj e
  exact hc i hi
theorem take_sum {ps : List (List Int)} {k : Nat} {b : List Int} (h : ps[k]? = some b) : ((ps.take (k + 1)).map List.length).sum = ((ps.take k).map List.length).sum + b.length := by
  obtain ⟨hk, e⟩ := List.getElem?_eq_some_iff.1 h
  rw [List.take_succ_eq_append_getElem hk, List.map_append, List.sum_append, e]
  simp
theorem take_sum_le (ps : List (List Int)) (k : Nat) : ((ps.take k).map List.length).sum ≤ (ps.map List.length).sum := by
  have h := congrArg (fun l => (l.map List.length).sum) (List.take_append_drop k ps)
  simp only [List.map_append, List.sum_append] at h
  omega

theorem Bs.rdOf {w : World} {A : Option Addr} {n c : Nat} {xs : List Int} (h : Bs w (.slice A n c) xs) : Rd w A n fun i => .int .u8 (xs.getD i 0) := by
  obtain ⟨_, _, _, e, _, _, hr, _⟩ := h
  cases e
  exact hr
/-- What holds at the head of MsgReads' loop. -/
structure RdL (w wr : World) (gm : Nat) (p : Option Addr) (most : Int) (F : List Int) (fv hv : Value) : Prop where
  chg : Chg none_ w wr
  pr : Pr wr w.heap.size p most F hv
  im : Is wr gm 81 #[.int .i64 most, fv]
  bs : Bs wr fv F
  gm1 : w.heap.size ≤ gm
  gm2 : ¬ fW p hv gm
  off : ∀ k, rdk fv = some k → ¬ fW p hv k
  new : ∀ k, rdk fv = some k → w.heap.size ≤ k ∧ k ≠ gm

/-- What is known behind the Feeds of a round. -/
structure RdS (w W : World) (B : Nat) (a : Nat → Addr) (gm : Nat) (p : Option Addr) (most : Int) (F2 : List Int) (fv2 hv2 : Value) : Prop where
  chg : Chg none_ w W
  pr : Pr W w.heap.size p most F2 hv2
  im : Is W gm 81 #[.int .i64 most, fv2]
  bs : Bs W fv2 F2
  sen : Sen B a W
theorem RdS.to {w W W' : World} {B : Nat} {a : Nat → Addr} {gm : Nat} {p : Option Addr} {most : Int} {F2 : List Int} {fv2 hv2 : Value} (h : RdS w W B a gm p most F2 fv2 hv2) (hc : Chg none_ W W') (hB : B ≤ W.heap.size) : RdS w W' B a gm p most F2 fv2 hv2 :=
  ⟨h.chg.trans hc, h.pr.keep hc, h.im.chg hc (fun f => f), h.bs.chg hc (fun _ _ f => f), h.sen.below (hc.old hB)⟩

theorem RdS.keep2 {w W W' : World} {a : Nat → Addr} {gm : Nat} {p : Option Addr} {most : Int} {F2 : List Int} {fv2 hv2 : Value} (hc : Chg none_ W W')
    (h : RdS w W w.heap.size a gm p most F2 fv2 hv2 ∧ W.cell? ⟨gm, 0, none⟩ = some (.int .i64 most) ∧ W.cell? ⟨gm, 1, none⟩ = some fv2) :
    RdS w W' w.heap.size a gm p most F2 fv2 hv2 ∧ W'.cell? ⟨gm, 0, none⟩ = some (.int .i64 most) ∧ W'.cell? ⟨gm, 1, none⟩ = some fv2 :=
  ⟨h.1.to hc h.1.chg.size, (h.1.to hc h.1.chg.size).im.at_ 0 _ rfl, (h.1.to hc h.1.chg.size).im.at_ 1 _ rfl⟩

end Go.Proofs.YthalmjjbamglgaaDoor
