/-
  The walk of MsgNames; make of bytes as one law.
  No condition of its own: the fact 'Sen' on the world.
-/
import Derived.Test.YthalmjjbamglgaaDoorMsgGv
import Derived.Laws.MakeOwn
import Derived.Laws.OwnMore
namespace Go.Proofs.YthalmjjbamglgaaDoor
open Go.RowKit

theorem byt_zeros (n : Nat) : Byt (List.replicate n 0) := fun z hz => by
  obtain rfl := List.eq_of_mem_replicate hz
  decide
section
variable {w : World} {ops : Array Oper} {rest : List Oper} {o : Oper} {a : Act} {Q : Exit → Act → World → Prop}
/-- make([]byte, n, n). -/
theorem wpList_make_bytes (hgd : o.guard = none) (x y : Operand) (ho : o.op = Op.makeSlice 23 x y) (N : Int) (hx : a.eval x = .int .i64 N) (hy : a.eval y = .int .i64 N) (n : Nat) (hN : N = (n : Int)) (hn : n ≤ 140737488355328)
    (h : ∀ w', Bs w' (.slice (some ⟨w.heap.size, 0, none⟩) n n) (List.replicate n 0) → Chg none_ w w' → wpList Tryd.prog ops Q rest (a.put o.dst (.slice (some ⟨w.heap.size, 0, none⟩) n n)) w') : wpList Tryd.prog ops Q (o :: rest) a w := by
  subst hN
  obtain ⟨i, hi, hz0, hz1, hz2⟩ := info_parts Tryd.infoU8
  refine wpList_plain hgd fun K hK' => ?_
  have hrun := run_make (P := Tryd.prog) w 23 5 i (.int .u8 0) Tryd.underlying23 hi hz0 .i64 .i64 n n (by omega) (by omega) (by rw [hz2]; omega) (by omega)
  simp only [Int.toNat_natCast, hz1, Nat.mul_one] at hrun
  have hm : madeCells (Value.int .u8 0).cells n = ((List.replicate n (0 : Int)).map (Value.int .u8)).toArray := by
    apply Array.toList_inj.1
    rw [show (Value.int .u8 0).cells = #[Value.int .u8 0] from rfl, toList_madeCells_one]
    simp
  rw [hm] at hrun
  have hb := bs_const w (List.replicate n 0) (byt_zeros n) default
  rw [List.length_replicate] at hb
  have hc := (Chg.refl none_ w).alloc (.cells ((List.replicate n (0 : Int)).map (Value.int .u8)).toArray 5)
  obtain ⟨w', hw'⟩ : ∃ w', w.alloc (.cells ((List.replicate n (0 : Int)).map (Value.int .u8)).toArray 5) = w' := ⟨_, rfl⟩
  have hb' : Bs w' (.slice (some ⟨w.heap.size, 0, none⟩) n n) (List.replicate n 0) := by rw [← hw']; exact hb
  rw [hw'] at hrun hc
  unfold Oper.wp
  simp [execOp, ho, hx, hy, hrun, Result.andThen]
  exact hK' _ _ (h w' hb' hc)
end
theorem say_nm1 : sayB 0 [0, 0] = ([[], []], some []) := by
  have b : ∀ l : List Int, (∀ z ∈ l, z = 0) → Byt l := fun l h z hz => by obtain rfl := h z hz; decide
  rw [say_one (k := 1) (n := 0) (b _ (by simp)) rfl (by decide)]
  show ([] :: (sayB 0 [0]).1, (sayB 0 [0]).2) = _
  rw [say_one (k := 1) (n := 0) (b _ (by simp)) rfl (by decide)]
  show ([] :: [] :: (sayB 0 []).1, (sayB 0 []).2) = _
  rw [say_few rfl]
theorem say_nm2 : sayB 0 [1] = ([], none) := say_no rfl
theorem Bs.front {w : World} {A : Option Addr} {n c : Nat} {xs : List Int} (h : Bs w (.slice A n c) xs) {m : Nat} (hm : m ≤ n) : Bs w (.slice A m c) (xs.take m) := by
  obtain ⟨_, _, _, e, hl, hb, hr, hc⟩ := h
  cases e
  refine ⟨_, _, _, rfl, by rw [List.length_take]; omega, hb.take m, fun hp => ?_, by omega⟩
  obtain ⟨ad, e, hh⟩ := hr (by omega)
  refine ⟨ad, e, fun i hi => ?_⟩
  rw [hh i (by omega)]
  show some (Value.int .u8 (xs.getD i 0)) = some (Value.int .u8 ((xs.take m).getD i 0))
  rw [List.getD_eq_getElem?_getD, List.getD_eq_getElem?_getD, List.getElem?_take, if_pos hi]
theorem enc_zeros {n k : Nat} {l : List Int} (h : lenB n = l) (hk : l.length = k) : (encB (List.replicate n 0)).length = k + n ∧ (encB (List.replicate n 0)).take k = l := by
  unfold encB
  rw [List.length_replicate, h, List.length_append, List.length_replicate, hk]
  exact ⟨rfl, by rw [← hk, List.take_left]⟩

end Go.Proofs.YthalmjjbamglgaaDoor
