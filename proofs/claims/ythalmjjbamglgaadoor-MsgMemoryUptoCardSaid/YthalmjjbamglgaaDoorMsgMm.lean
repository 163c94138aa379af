/-
  MsgMemory's loop: the reader with what it gave, the reference's reader with what it gave, apart.
  No condition of its own.
-/
import Derived.Test.YthalmjjbamglgaaDoorMsgTwo
import Derived.Test.YthalmjjbamglgaaDoorMsgEn
import Derived.Test.YthalmjjbamglgaaDoorOb3
import Derived.Test.YthalmjjbamglgaaDoorMsgSd
import Derived.Test.YthalmjjbamglgaaDoorMsgRd
namespace Go.Proofs.YthalmjjbamglgaaDoor
open Go.RowKit

/-- The reference's side: the list of what it gave, the answer of its last Feed, its bytes. -/
structure RfA (w W : World) (vb : Value) (ws : List Value) (M : List (List Int)) (mv : Value) (ss : List Value) (N : List (List Int)) (fv : Value) (F : List Int) (T : Nat → Prop) : Prop where
  all : Ob W w.heap.size 23 vb ws.length ws
  mem : All2 (Bs W) ws M
  t1 : ∀ k, obk vb = some k → T k
  t2 : ∀ u ∈ ws, ∀ k, rdk u = some k → T k ∧ obk vb ≠ some k
  mvf : ∃ A c, mv = .slice A ss.length c ∧ ss.length ≤ c ∧ Rd W A ss.length fun i => ss.getD i .nilIface
  mvt : ∀ k, rdk mv = some k → T k ∧ obk vb ≠ some k
  sm : All2 (Bs W) ss N
  st : ∀ u ∈ ss, ∀ k, rdk u = some k → T k ∧ obk vb ≠ some k
  bs : Bs W fv F
  ft : ∀ k, rdk fv = some k → T k ∧ obk vb ≠ some k
  sz : ∀ k, T k → w.heap.size ≤ k ∧ k < W.heap.size
  ge : w.heap.size ≤ W.heap.size
section
variable {w W W' : World} {vb : Value} {ws : List Value} {M : List (List Int)} {mv : Value} {ss : List Value} {N : List (List Int)} {fv : Value} {F : List Int} {T X : Nat → Prop}
theorem RfA.keep (h : RfA w W vb ws M mv ss N fv F T) (hc : Chg X W W') (hX : ∀ k, k < W.heap.size → X k → ¬ T k) : RfA w W' vb ws M mv ss N fv F T := by
  have hs := hc.size
  have hc' : Chg (fun k => X k ∧ k < W.heap.size) W W' := hc.more fun k hk hk' => ⟨hk', hk⟩
  have hn : ∀ k, T k → ¬ (X k ∧ k < W.heap.size) := fun k ht hx => hX k hx.2 hx.1 ht
  obtain ⟨A, c, rfl, hl, hr⟩ := h.mvf
  exact ⟨h.all.chg hc' fun k hk => hn k (h.t1 k hk), h.mem.mono fun u m hu _ hb => hb.chg hc' fun k hk => hn k (h.t2 u hu k hk).1, h.t1, h.t2,
    ⟨A, c, rfl, hl, hr.same (c := c) fun k hk => hc'.block k (rdk_rd hr k hk) (hn k (h.mvt k hk).1)⟩, h.mvt, h.sm.mono fun u m hu _ hb => hb.chg hc' fun k hk => hn k (h.st u hu k hk).1, h.st,
    h.bs.chg hc' fun k hk => hn k (h.ft k hk).1, h.ft, fun k hk => by have := h.sz k hk; omega, Nat.le_trans h.ge hs⟩
theorem RfA.feed {most : Int} {x : List Int} {w3 w4 : World} {fv2 mv2 : Value} {ss2 : List Value} (h : RfA w W vb ws M mv ss N fv F T) (h3 : Chg none_ W w3)
    (q1 : Bs w4 fv2 (nF most F x)) (q2 : ∀ k, rdk fv2 = some k → rdk fv = some k ∨ w3.heap.size ≤ k) (q3 : Lst w4 w3.heap.size mv2 ss2 (fM most F x)) (q4 : Chg none_ w3 w4) :
    RfA w w4 vb ws M mv2 ss2 (fM most F x) fv2 (nF most F x) (fun k => T k ∨ w3.heap.size ≤ k ∧ k < w4.heap.size) := by
  have g := h.keep (h3.trans q4) fun _ _ f => f.elim
  have hs3 := h3.size
  have hs4 := q4.size
  have hvb : ∀ k, obk vb = some k → k < w3.heap.size := fun k hk => by have := (h.sz k (h.t1 k hk)).2; omega
  have hnew : ∀ k, w3.heap.size ≤ k → obk vb ≠ some k := fun k hk e => by have := hvb k e; omega
  refine ⟨g.all, g.mem, fun k hk => .inl (g.t1 k hk), fun u hu k hk => ⟨.inl (g.t2 u hu k hk).1, (g.t2 u hu k hk).2⟩, q3.form, fun k hk => ?_, q3.all, fun u hu k hk => ?_, q1, fun k hk => ?_, fun k hk => ?_, g.ge⟩
  · have := q3.block k hk
    exact ⟨.inr this, hnew k this.1⟩
  · have h1 := q3.low u hu k hk
    obtain ⟨m, _, hb⟩ := all2_mem q3.all u hu
    exact ⟨.inr ⟨h1, hb.block k hk⟩, hnew k h1⟩
  · rcases q2 k hk with e | e
    · exact ⟨.inl (h.ft k e).1, (h.ft k e).2⟩
    · exact ⟨.inr ⟨e, q1.block k hk⟩, hnew k e⟩
  · rcases hk with hk | hk
    · have := g.sz k hk; omega
    · have := h.ge; omega
theorem RfA.app {W2 : World} {vb2 : Value} (h : RfA w W vb ws M mv ss N fv F T) (j1 : Ob W2 w.heap.size 23 vb2 (ws.length + ss.length) (ws ++ ss)) (j2 : Chg (fun k => obk vb = some k) W W2) (j3 : obk vb2 = obk vb ∨ obk vb2 = some W.heap.size) :
    RfA w W2 vb2 (ws ++ ss) (M ++ N) (.slice none 0 0) [] [] fv F (fun k => T k ∨ W.heap.size ≤ k ∧ k < W2.heap.size) := by
  have hs := j2.size
  have off2 : ∀ k, T k → obk vb ≠ some k → obk vb2 ≠ some k := fun k ht hne e => by
    rcases j3 with h' | h'
    · exact hne (by rw [← h']; exact e)
    · rw [h'] at e; injection e with e; have := (h.sz k ht).2; omega
  refine ⟨by rw [List.length_append]; exact j1, (h.mem.mono fun u m hu _ hb => hb.chg j2 fun k hk => (h.t2 u hu k hk).2).app (h.sm.mono fun u m hu _ hb => hb.chg j2 fun k hk => (h.st u hu k hk).2), fun k hk => ?_, fun u hu k hk => ?_,
    ⟨none, 0, rfl, Nat.le_refl _, Rd.zero _ _ _⟩, fun k hk => by simp [rdk] at hk, .nil, fun u hu => by simp at hu, h.bs.chg j2 fun k hk => (h.ft k hk).2, fun k hk => ⟨.inl (h.ft k hk).1, off2 k (h.ft k hk).1 (h.ft k hk).2⟩, fun k hk => ?_, Nat.le_trans h.ge hs⟩
  · rcases j3 with h' | h'
    · exact .inl (h.t1 k (by rw [← h']; exact hk))
    · have := (j1.block k hk).2
      rw [h'] at hk; injection hk with e
      exact .inr ⟨by omega, this⟩
  · rcases List.mem_append.1 hu with hu | hu
    · exact ⟨.inl (h.t2 u hu k hk).1, off2 k (h.t2 u hu k hk).1 (h.t2 u hu k hk).2⟩
    · exact ⟨.inl (h.st u hu k hk).1, off2 k (h.st u hu k hk).1 (h.st u hu k hk).2⟩
  · rcases hk with hk | hk
    · have := h.sz k hk; omega
    · have := h.ge; omega
theorem RfA.want (h : RfA w W vb ws M mv ss N fv F T) : Lst W 0 vb ws M := by
  obtain ⟨A, c, rfl, hc, _⟩ := h.all.slice
  exact ⟨⟨A, c, rfl, hc, h.all.vals⟩, h.mem, fun _ _ => Nat.zero_le _, fun _ _ _ _ => Nat.zero_le _⟩
theorem RfA.some_ (h : RfA w W vb ws M mv ss N fv F T) : Lst W 0 mv ss N := ⟨h.mvf, h.sm, fun _ _ => Nat.zero_le _, fun _ _ _ _ => Nat.zero_le _⟩
end

/-- What the reader and its list lie in, exactly. -/
def Fp (p : Option Addr) (va : Value) (us : List Value) (hv : Value) (k : Nat) : Prop := fW p hv k ∨ obk va = some k ∨ ∃ u ∈ us, obk u = some k
theorem SdL.exact {w wr : World} {p : Option Addr} {most : Int} {C : List Int} {va : Value} {us : List Value} {hv : Value} {S : Nat → Prop} (h : SdL w wr p most C va us hv S) : SdL w wr p most C va us hv (Fp p va us hv) ∧ ∀ k, Fp p va us hv k → S k := by
  have hk : ∀ k, Fp p va us hv k → S k := fun k hk => by
    rcases hk with hk | hk | ⟨u, hu, hk⟩
    · exact h.s1 k hk
    · exact h.s2 k hk
    · exact h.s3 u hu k hk
  exact ⟨⟨h.g, fun k hk' => h.sz k (hk k hk'), fun k hk => .inl hk, fun k hk => .inr (.inl hk), fun u hu k hk => .inr (.inr ⟨u, hu, hk⟩)⟩, hk⟩
/-- Behind the append of what was given: the answer's list lies apart from it. -/
theorem HfL.apart {w w6 w7 : World} {lo : Nat} {p : Option Addr} {most : Int} {C x : List Int} {va out va2 : Value} {us vs : List Value} {hv : Value} {S : Nat → Prop} (h : HfL w lo w6 p most C x va us out vs hv S)
    (k3 : obk va2 = obk va ∨ obk va2 = some w6.heap.size) : ∀ k, obk out = some k → ¬ Fp p va2 (us ++ vs) hv k := fun k hk hf => by
  have hb := h.outO.block k hk
  rcases hf with hf | hf | ⟨u, hu, hf⟩
  · exact h.off3 k hk hf
  · rcases k3 with e | e
    · rw [e] at hf; have := (h.off2 k hf).2; omega
    · rw [e] at hf; injection hf with hf; omega
  · rcases List.mem_append.1 hu with hu | hu
    · have := (h.off u hu k hf).2.2; omega
    · exact (h.offn u hu k hf).1 hk

theorem SdL.fresh {w wa wb : World} {g : Nat} {most : Int} (hw : Chg none_ w wa) (h0 : 0 ≤ most) (h1 : most ≤ 1048576) (r : Rdr wb wa.heap.size g most (some []) (.slice none 0 0)) (hg : wa.heap.size ≤ g) (c : Chg none_ wa wb) :
    SdL w wb (some ⟨g, 0, none⟩) most [] (.slice none 0 0) [] (.slice none 0 0) (fun k => wa.heap.size ≤ k ∧ k < wb.heap.size) := by
  have hsz := hw.size
  have hP : Pr wb wa.heap.size (some ⟨g, 0, none⟩) most [] (.slice none 0 0) := .inr ⟨h0, h1, g, rfl, by rw [stS_nil]; exact r, hg⟩
  have hP2 : Pr wb w.heap.size (some ⟨g, 0, none⟩) most [] (.slice none 0 0) := .inr ⟨h0, h1, g, rfl, by rw [stS_nil]; exact ⟨r.is, ob_nil _ _ _ _, r.byt, r.ne, r.no⟩, Nat.le_trans hsz hg⟩
  refine ⟨⟨hw.trans c, hP2, ob_nil _ _ _ _, ?_, (fun u hu => by simp at hu), fun k hk => by simp [obk] at hk⟩, fun k hk => ⟨by omega, hk.2⟩, fun k hk => hP.own k hk, (fun k hk => by simp [obk] at hk), fun u hu => by simp at hu⟩
  rw [say_few rfl]
  exact Mem.nil _ _

/-- What holds at the head of the first loop. -/
structure MmL (w wr : World) (gm : Nat) (p : Option Addr) (most : Int) (C F : List Int) (va : Value) (us : List Value) (hv vb : Value) (ws : List Value) (fv : Value) (S T : Nat → Prop) : Prop where
  sd : SdL w wr p most C va us hv S
  rf : RfA w wr vb ws (sayB most C).1 (.slice none 0 0) [] [] fv F T
  im : Is wr gm 81 #[.int .i64 most, fv]
  gm1 : w.heap.size ≤ gm ∧ ¬ S gm ∧ ¬ T gm
  dis : ∀ k, S k → ¬ T k
  st : stS most F = stS most C
theorem st_same {most : Int} {C F x : List Int} (hC : Byt C) (hF : Byt F) (hx : Byt x) (hm : 0 ≤ most) (h : stS most F = stS most C) : stS most (nF most F x) = stS most (C ++ x) ∧ fM most F x = fM most C x := by
  have e : fM most F x = fM most C x := by unfold fM; rw [h]
  refine ⟨?_, e⟩
  rw [← fd_next hF hx hm, h, fd_next hC hx hm, (st_next hC hx hm).1]
end Go.Proofs.YthalmjjbamglgaaDoor
