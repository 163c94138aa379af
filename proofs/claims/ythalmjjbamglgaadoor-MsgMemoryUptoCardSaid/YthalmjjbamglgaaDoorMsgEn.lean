/-
  The walk of MsgEncodes.
  No condition of its own: the fact 'Sen' on the world; sizes within the reach.
-/
import Derived.Test.YthalmjjbamglgaaDoorMsgNm
namespace Go.Proofs.YthalmjjbamglgaaDoor
open Go.RowKit

section
variable {w : World} {ops : Array Oper} {rest : List Oper} {o : Oper} {a : Act} {Q : Exit → Act → World → Prop}
/-- make([]byte, 0, n). -/
theorem wpList_make_room (hgd : o.guard = none) (x y : Operand) (ho : o.op = Op.makeSlice 23 x y) (hx : a.eval x = .int .i64 0) (N : Int) (hy : a.eval y = .int .i64 N) (n : Nat) (hN : N = (n : Int)) (hn : n ≤ 140737488355328) {base : Nat} (hbase : base ≤ w.heap.size)
    (h : ∀ w', Ob w' base 5 (.slice (some ⟨w.heap.size, 0, none⟩) 0 n) 0 [] → Chg none_ w w' → wpList Tryd.prog ops Q rest (a.put o.dst (.slice (some ⟨w.heap.size, 0, none⟩) 0 n)) w') : wpList Tryd.prog ops Q (o :: rest) a w := by
  subst hN
  obtain ⟨i, hi, hz0, hz1, hz2⟩ := info_parts Tryd.infoU8
  refine wpList_plain hgd fun K hK' => ?_
  obtain ⟨w', hrun, h1, h2⟩ := run_make_own (P := Tryd.prog) w base 23 5 i (.int .u8 0) 1 Tryd.underlying23 hi hz0 hz1 .i64 .i64 n (by rw [hz2]; omega) (by simp only [maxLen]; omega) hbase
  unfold Oper.wp
  simp [execOp, ho, hx, hy, hrun, Result.andThen]
  exact hK' _ _ (h w' (ob_own h1) ((grown_chg (v := .slice none 0 0) h2).more fun k _ hk => by simp [obk] at hk))
end

theorem Ob.is_ {w : World} {base : Nat} {e : TypeId} {v : Value} {n : Nat} {xs : List Value} (h : Ob w base e v n xs) : n = 0 ∨ 0 < n ∧ ∃ g c cur, v = .slice (some ⟨g, 0, none⟩) n c ∧ Is w g e cur ∧ n ≤ cur.size ∧ base ≤ g := by
  rcases h with ⟨rfl, _⟩ | ⟨⟨_, h⟩, g, c, rfl, _⟩
  · exact .inl rfl
  · rcases Nat.eq_zero_or_pos n with h0 | h0
    · exact .inl h0
    · refine .inr ⟨h0, ?_⟩
      rcases h with ⟨e, _⟩ | ⟨g', c', cur, e, h1, h2, h3, _, h5, _⟩
      · cases e
      · cases e
        exact ⟨g, c, cur, rfl, h2, by omega, h1⟩
theorem enR_byt {most : Int} {m : List Int} (h : Byt m) : Byt (enR most m) := by
  unfold enR
  by_cases h0 : enC most m = 0
  · rw [if_pos h0]
    have := enC0.1 h0
    exact (len_byt (by omega)).append h
  · rw [if_neg h0]
    exact fun z hz => by simp at hz

end Go.Proofs.YthalmjjbamglgaaDoor
