/-
  The walk of MsgPieces.
  No condition of its own: the fact 'Sen' on the world; sizes within the bulk.
-/
import Derived.Test.YthalmjjbamglgaaDoorMsgGv
namespace Go.Proofs.YthalmjjbamglgaaDoor
open Go.RowKit

theorem GvL.keep {w wr w' : World} {p : Option Addr} {most : Int} {C : List Int} {va : Value} {us : List Value} {hv : Value} (h : GvL w wr p most C va us hv) (hc : Chg none_ wr w') : GvL w w' p most C va us hv :=
  ⟨h.chg.trans hc, h.pr.keep hc, h.all.chg hc (fun _ _ f => f), h.mem.keep hc, h.off, h.off2⟩
theorem GvL.lst {w wr : World} {p : Option Addr} {most : Int} {C : List Int} {va : Value} {us : List Value} {hv : Value} (h : GvL w wr p most C va us hv) : Lst wr w.heap.size va us (sayB most C).1 := Lst.of h.all h.mem
theorem ffC_le (most : Int) (F : List Int) : ffC most F ≤ 42 := by
  unfold ffC
  split <;> omega
theorem GvL.cnt {w wr : World} {p : Option Addr} {most : Int} {C : List Int} {va : Value} {us : List Value} {hv : Value} (h : GvL w wr p most C va us hv) (hC : Byt C) : us.length ≤ C.length := by
  rw [h.mem.len]
  exact say_cnt C hC

end Go.Proofs.YthalmjjbamglgaaDoor
