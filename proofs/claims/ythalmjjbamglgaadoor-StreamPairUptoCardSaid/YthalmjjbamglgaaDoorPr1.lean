/-
  Two ends and their wires: what the memory holds.
  No condition.
-/
import Derived.Test.YthalmjjbamglgaaDoorFq
import Derived.Test.YthalmjjbamglgaaDoorRefL
namespace Go.Proofs.YthalmjjbamglgaaDoor
open Go.RowKit
set_option linter.unusedVariables false
set_option linter.unusedSimpArgs false

def upd {α : Type} (f : Nat → α) (a : Nat) (v : α) : Nat → α := fun i => if i = a then v else f i
theorem upd_at {α : Type} (f : Nat → α) (a : Nat) (v : α) : upd f a v a = v := if_pos rfl
theorem upd_ne {α : Type} (f : Nat → α) {a i : Nat} (v : α) (h : i ≠ a) : upd f a v i = f i := if_neg h
theorem lt2 {a : Nat} (h : a < 2) : a = 0 ∨ a = 1 := by omega
/-- A frame under way: its payload, its FIN. -/
structure Fr where
  (pl : List Int) (fin : Bool)
/-- A direction: what was written and read, what is under way. -/
structure Wr where
  (wrote gave : List Int) (frames : List Fr) (grants : List Int) (closed ended : Bool)
/-- The twelve cells of the wires. -/
def wcells (c : Nat → Nat → Value) : Array Value := #[c 0 0, c 0 1, c 0 2, c 0 3, c 0 4, c 0 5, c 1 0, c 1 1, c 1 2, c 1 3, c 1 4, c 1 5]
theorem wcells_at (c : Nat → Nat → Value) {d j : Nat} (hd : d < 2) (hj : j < 6) : (wcells c)[6 * d + j]? = some (c d j) := by
  rcases lt2 hd with rfl | rfl
  · rcases (show j = 0 ∨ j = 1 ∨ j = 2 ∨ j = 3 ∨ j = 4 ∨ j = 5 by omega) with rfl | rfl | rfl | rfl | rfl | rfl <;> rfl
  · rcases (show j = 0 ∨ j = 1 ∨ j = 2 ∨ j = 3 ∨ j = 4 ∨ j = 5 by omega) with rfl | rfl | rfl | rfl | rfl | rfl <;> rfl
theorem wcells_put (c : Nat → Nat → Value) {d j : Nat} (hd : d < 2) (hj : j < 6) (v : Value) : (wcells c).setIfInBounds (6 * d + j) v = wcells (upd c d (upd (c d) j v)) := by
  rcases lt2 hd with rfl | rfl
  · rcases (show j = 0 ∨ j = 1 ∨ j = 2 ∨ j = 3 ∨ j = 4 ∨ j = 5 by omega) with rfl | rfl | rfl | rfl | rfl | rfl <;> rfl
  · rcases (show j = 0 ∨ j = 1 ∨ j = 2 ∨ j = 3 ∨ j = 4 ∨ j = 5 by omega) with rfl | rfl | rfl | rfl | rfl | rfl <;> rfl
/-- A frame's six cells. -/
def FrR (w : World) (L : Nat) (lab : Nat → Nat) (f : Fr) (cs : List Value) : Prop :=
  ∃ fid fk A n k, cs = [.int .u8 0, .int .u8 0, .int .u16 (if f.fin then 4 else 0), .int .u32 fid, .int .u32 fk, .slice A n k] ∧ BsO w (.slice A n k) f.pl ∧ ∀ b, rdk (.slice A n k) = some b → L ≤ b ∧ b < w.heap.size ∧ lab b = 11
structure Wq (w : World) (L : Nat) (lab : Nat → Nat) (d : Nat) (c : Nat → Value) (m : Wr) : Prop where
  wr : Ob w L 5 (c 0) m.wrote.length (u8s m.wrote)
  wrL : ∀ k, obk (c 0) = some k → lab k = 3 + d
  gv : Ob w L 5 (c 1) m.gave.length (u8s m.gave)
  gvL : ∀ k, obk (c 1) = some k → lab k = 5 + d
  fr : ∃ fvs, All2 (FrR w L lab) m.frames fvs ∧ Fq w L 72 6 (c 2) m.frames.length fvs.flatten
  frL : ∀ k, obk (c 2) = some k → lab k = 7 + d
  gr : Fq w L 22 1 (c 3) m.grants.length (m.grants.map (Value.int .u32))
  grL : ∀ k, obk (c 3) = some k → lab k = 9 + d
  cl : c 4 = .bool m.closed
  en : c 5 = .bool m.ended
structure Pp (E0 : World) (X0 : Nat → Prop) (w : World) (L wb : Nat) (q : Nat → Nat) (lab : Nat → Nat) (s : Nat → Sm) (W : Nat → Wr) (c : Nat → Nat → Value) : Prop where
  im : Is w wb 103 (wcells c)
  hb : L ≤ wb ∧ lab wb = 2
  st : ∀ d, d < 2 → Pst w (fun k => L ≤ k ∧ k < w.heap.size ∧ lab k = d) (q d) (s d)
  wq : ∀ d, d < 2 → Wq w L lab d (c d) (W d)
  ex : ∀ k, X0 k → k < w.heap.size ∧ lab k = 50 ∧ w.heap[k]? = E0.heap[k]?
/-- New blocks get the label l. -/
def relab (lab : Nat → Nat) (z l : Nat) : Nat → Nat := fun k => if k < z then lab k else l
theorem relab_old {lab : Nat → Nat} {z l k : Nat} (h : k < z) : relab lab z l k = lab k := if_pos h
theorem relab_new {lab : Nat → Nat} {z l k : Nat} (h : z ≤ k) : relab lab z l k = l := if_neg (by omega)

section
variable {E0 : World} {X0 : Nat → Prop} {w w' : World} {L wb : Nat} {q lab lab' : Nat → Nat} {s : Nat → Sm} {W : Nat → Wr} {c : Nat → Nat → Value} {S : Nat → Prop}
theorem FrR.chg {f : Fr} {cs : List Value} (h : FrR w L lab f cs) (hc : Chg S w w') (hS : ∀ k, k < w.heap.size → S k → lab k ≠ 11) (hl : ∀ k, k < w.heap.size → lab' k = lab k) : FrR w' L lab' f cs := by
  obtain ⟨fid, fk, A, n, k, e, hb, hr⟩ := h
  exact ⟨fid, fk, A, n, k, e, hb.chg hc fun b hb' => ⟨(hr b hb').2.1, fun hs => hS b (hr b hb').2.1 hs (hr b hb').2.2⟩, fun b hb' => ⟨(hr b hb').1, Nat.lt_of_lt_of_le (hr b hb').2.1 hc.size, (hl b (hr b hb').2.1).trans (hr b hb').2.2⟩⟩
theorem All2.monoR {α β : Type} {R R' : α → β → Prop} {us : List α} {bs : List β} (h : All2 R us bs) (hm : ∀ a b, R a b → R' a b) : All2 R' us bs := h.mono fun a b _ _ => hm a b
theorem Wq.chg {d : Nat} {x : Nat → Value} {m : Wr} (h : Wq w L lab d x m) (hc : Chg S w w') (hS : ∀ k, k < w.heap.size → S k → lab k ≠ 3 + d ∧ lab k ≠ 5 + d ∧ lab k ≠ 7 + d ∧ lab k ≠ 9 + d ∧ lab k ≠ 11) (hl : ∀ k, k < w.heap.size → lab' k = lab k) : Wq w' L lab' d x m := by
  obtain ⟨fvs, f1, f2⟩ := h.fr
  have b0 := h.wr.block
  have b1 := h.gv.block
  have b2 := f2.block
  have b3 := h.gr.block
  refine ⟨h.wr.chg hc fun k hk hs => (hS k (b0 k hk).2 hs).1 (h.wrL k hk), fun k hk => (hl k (b0 k hk).2).trans (h.wrL k hk), h.gv.chg hc fun k hk hs => (hS k (b1 k hk).2 hs).2.1 (h.gvL k hk), fun k hk => (hl k (b1 k hk).2).trans (h.gvL k hk),
    ⟨fvs, f1.monoR fun a b hab => hab.chg hc (fun k hk hs => (hS k hk hs).2.2.2.2) hl, f2.chg hc fun k hk hs => (hS k (b2 k hk).2 hs).2.2.1 (h.frL k hk)⟩, fun k hk => (hl k (b2 k hk).2).trans (h.frL k hk), h.gr.chg hc fun k hk hs => (hS k (b3 k hk).2 hs).2.2.2.1 (h.grL k hk), fun k hk => (hl k (b3 k hk).2).trans (h.grL k hk), h.cl, h.en⟩
theorem Pp.keep (h : Pp E0 X0 w L wb q lab s W c) (hc : Chg none_ w w') : Pp E0 X0 w' L wb q lab s W c :=
  ⟨h.im.chg hc fun f => f, h.hb, fun d hd => ((h.st d hd).keep hc).wide fun k hk => ⟨hk.1, Nat.lt_of_lt_of_le hk.2.1 hc.size, hk.2.2⟩, fun d hd => (h.wq d hd).chg hc (fun _ _ f => f.elim) fun _ _ => rfl, fun k hk => by
    obtain ⟨x1, x2, x3⟩ := h.ex k hk
    exact ⟨Nat.lt_of_lt_of_le x1 hc.size, x2, (hc.block k x1 fun f => f).trans x3⟩⟩
/-- A stream has run. -/
theorem Pp.ran {B : Nat} {A : Nat → Addr} (h : Pp E0 X0 w L wb q lab s W c) {d : Nat} (hd : d < 2) {s' : Sm} (hL : L ≤ w.heap.size) (r : Run B A w w' (fun k => L ≤ k ∧ k < w.heap.size ∧ lab k = d) (q d) s') : Pp E0 X0 w' L wb q (relab lab w.heap.size d) (upd s d s') W c := by
  have hc := r.chg
  have hz := hc.size
  have hwb := h.im.lt
  have hl : ∀ k, k < w.heap.size → relab lab w.heap.size d k = lab k := fun k hk => relab_old hk
  refine ⟨h.im.chg hc fun hk => by have := h.hb.2; omega, ⟨h.hb.1, by rw [hl _ hwb]; exact h.hb.2⟩, fun i hi => ?_, fun i hi => (h.wq i hi).chg hc (fun k _ hk => by have := hk.2.2; omega) hl, fun k hk => by
    obtain ⟨x1, x2, x3⟩ := h.ex k hk
    exact ⟨Nat.lt_of_lt_of_le x1 hc.size, (hl k x1).trans x2, (hc.block k x1 fun f => by have := f.2.2; omega).trans x3⟩⟩
  by_cases hid : i = d
  · subst hid
    rw [upd_at]
    obtain ⟨Ti, r1, r2⟩ := r.ex
    refine r1.wide fun k hk => ?_
    obtain ⟨r3, r4⟩ := r2 k hk
    rcases r3 with r3 | r3
    · exact ⟨r3.1, r4, by rw [hl k r3.2.1]; exact r3.2.2⟩
    · exact ⟨by omega, r4, relab_new r3⟩
  · rw [upd_ne s s' hid]
    refine ((h.st i hi).chg hc fun k hk _ hx => hid (by rw [← hk.2.2]; exact hx.2.2)).wide fun k hk => ⟨hk.1, by omega, by rw [hl k hk.2.1]; exact hk.2.2⟩
/-- Cell j of direction d is stored anew (of blocks labelled l at most something has changed before). -/
theorem Pp.stored (h : Pp E0 X0 w L wb q lab s W c) {d j l : Nat} (hd : d < 2) (hj : j < 6) (hl1 : l ≠ 2 ∧ l ≠ 0 ∧ l ≠ 1 ∧ l ≠ 11 ∧ l ≠ 50) (hld : ∀ i, i < 2 → i ≠ d → l ≠ 3 + i ∧ l ≠ 5 + i ∧ l ≠ 7 + i ∧ l ≠ 9 + i) {v : Value} (hc : Chg (fun k => k < w.heap.size ∧ L ≤ k ∧ lab k = l) w w') (m : Wr)
    (hq : Wq w' L (relab lab w.heap.size l) d (upd (c d) j v) m) : Pp E0 X0 (w'.setCell ⟨wb, 6 * d + j, none⟩ v) L wb q (relab lab w.heap.size l) s (upd W d m) (upd c d (upd (c d) j v)) := by
  have hz := hc.size
  have hwb := h.im.lt
  have hl : ∀ k, k < w.heap.size → relab lab w.heap.size l k = lab k := fun k hk => relab_old hk
  have hc2 : Chg (fun k => k = wb) w' (w'.setCell ⟨wb, 6 * d + j, none⟩ v) := (Chg.refl (fun k => k = wb) w').setCell (p := ⟨wb, 6 * d + j, none⟩) (fun _ => rfl) v
  have hz2 := hc2.size
  have hlw : relab lab w.heap.size l wb = 2 := by rw [hl _ hwb]; exact h.hb.2
  have hi := (h.im.chg hc fun hk => hl1.1 (hk.2.2.symm.trans h.hb.2)).put (6 * d + j) v
  rw [wcells_put c hd hj] at hi
  refine ⟨hi, ⟨h.hb.1, hlw⟩, fun i hi' => ?_, fun i hi' => ?_, fun k hk => by
    obtain ⟨x1, x2, x3⟩ := h.ex k hk
    have y1 := hc.block k x1 fun f => by have := f.2.2; omega
    have y2 := hc2.block k (Nat.lt_of_lt_of_le x1 hz) fun e => by subst e; have := h.hb.2; omega
    exact ⟨Nat.lt_of_lt_of_le x1 (Nat.le_trans hz hz2), (hl k x1).trans x2, (y2.trans y1).trans x3⟩⟩
  · refine (((h.st i hi').chg hc fun k hk _ hx => ?_).chg hc2 fun k hk _ e => ?_).wide fun k hk => ⟨hk.1, by omega, by rw [hl k hk.2.1]; exact hk.2.2⟩
    · have h1 := hk.2.2; have h2 := hx.2.2; rcases lt2 hi' with rfl | rfl <;> omega
    · subst e; have h1 := hk.2.2; have h2 := h.hb.2; omega
  · by_cases hid : i = d
    · subst hid
      rw [upd_at, upd_at]
      exact hq.chg hc2 (fun k hk e => by subst e; rw [hlw]; omega) fun _ _ => rfl
    · rw [upd_ne c _ hid, upd_ne W m hid]
      have hq' := (h.wq i hi').chg (lab' := relab lab w.heap.size l) hc (fun k _ hk => by have h1 := hk.2.2; have := hld i hi' hid; have := hl1.2.2.2; omega) hl
      exact hq'.chg hc2 (fun k hk e => by subst e; rw [hlw]; omega) fun _ _ => rfl
/-- New blocks get the label 50. -/
theorem Pp.boxes (h : Pp E0 X0 w L wb q lab s W c) (hc : Chg none_ w w') : Pp w' (fun k => X0 k ∨ (w.heap.size ≤ k ∧ k < w'.heap.size)) w' L wb q (relab lab w.heap.size 50) s W c := by
  have hz := hc.size
  have hwb := h.im.lt
  have hl : ∀ k, k < w.heap.size → relab lab w.heap.size 50 k = lab k := fun k hk => relab_old hk
  refine ⟨h.im.chg hc fun f => f, ⟨h.hb.1, by rw [hl _ hwb]; exact h.hb.2⟩, fun d hd => ?_, fun d hd => (h.wq d hd).chg hc (fun _ _ f => f.elim) hl, fun k hk => ?_⟩
  · refine (((h.st d hd).cut).keep hc).wide fun k hk => ⟨hk.1.1, Nat.lt_of_lt_of_le hk.1.2.1 hz, by rw [hl k hk.2]; exact hk.1.2.2⟩
  · rcases hk with hk | hk
    · obtain ⟨x1, x2, x3⟩ := h.ex k hk
      exact ⟨Nat.lt_of_lt_of_le x1 hz, (hl k x1).trans x2, rfl⟩
    · exact ⟨hk.2, relab_new hk.1, rfl⟩
/-- The streams' blocks may be told by another function. -/
theorem Pp.req (h : Pp E0 X0 w L wb q lab s W c) {q' : Nat → Nat} (h0 : q' 0 = q 0) (h1 : q' 1 = q 1) : Pp E0 X0 w L wb q' lab s W c := ⟨h.im, h.hb, fun d hd => by
  rcases lt2 hd with rfl | rfl
  · rw [h0]; exact h.st 0 hd
  · rw [h1]; exact h.st 1 hd, h.wq, h.ex⟩
theorem Pp.is (h : Pp E0 X0 w L wb q lab s W c) {g : Nat} {t : TypeId} {cs : Array Value} (hg : X0 g) (hi : Is E0 g t cs) : Is w g t cs := by
  obtain ⟨x1, _, x3⟩ := h.ex g hg
  unfold Is at hi ⊢
  rw [x3]
  exact hi
/-- One of the four slices anew. -/
theorem Wq.wrote' {d : Nat} {x : Nat → Value} {m : Wr} (h : Wq w L lab d x m) (hc : Chg S w w') (hS : ∀ k, k < w.heap.size → S k → lab k = 3 + d) (hl : ∀ k, k < w.heap.size → lab' k = lab k) (hd : d < 2) {v : Value} {ys : List Int} (hv : Ob w' L 5 v ys.length (u8s ys)) (hvL : ∀ k, obk v = some k → lab' k = 3 + d) : Wq w' L lab' d (upd x 0 v) { m with wrote := ys } := by
  obtain ⟨fvs, f1, f2⟩ := h.fr
  have b1 := h.gv.block
  have b2 := f2.block
  have b3 := h.gr.block
  exact ⟨hv, hvL, h.gv.chg hc fun k hk hs => by have := hS k (b1 k hk).2 hs; have := h.gvL k hk; omega, fun k hk => (hl k (b1 k hk).2).trans (h.gvL k hk),
    ⟨fvs, f1.monoR fun a b hab => hab.chg hc (fun k hk hs => by have := hS k hk hs; omega) hl, f2.chg hc fun k hk hs => by have := hS k (b2 k hk).2 hs; have := h.frL k hk; omega⟩, fun k hk => (hl k (b2 k hk).2).trans (h.frL k hk), h.gr.chg hc fun k hk hs => by have := hS k (b3 k hk).2 hs; have := h.grL k hk; omega, fun k hk => (hl k (b3 k hk).2).trans (h.grL k hk), h.cl, h.en⟩
theorem Wq.gave' {d : Nat} {x : Nat → Value} {m : Wr} (h : Wq w L lab d x m) (hc : Chg S w w') (hS : ∀ k, k < w.heap.size → S k → lab k = 5 + d) (hl : ∀ k, k < w.heap.size → lab' k = lab k) (hd : d < 2) {v : Value} {ys : List Int} (hv : Ob w' L 5 v ys.length (u8s ys)) (hvL : ∀ k, obk v = some k → lab' k = 5 + d) : Wq w' L lab' d (upd x 1 v) { m with gave := ys } := by
  obtain ⟨fvs, f1, f2⟩ := h.fr
  have b0 := h.wr.block
  have b2 := f2.block
  have b3 := h.gr.block
  exact ⟨h.wr.chg hc fun k hk hs => by have := hS k (b0 k hk).2 hs; have := h.wrL k hk; omega, fun k hk => (hl k (b0 k hk).2).trans (h.wrL k hk), hv, hvL,
    ⟨fvs, f1.monoR fun a b hab => hab.chg hc (fun k hk hs => by have := hS k hk hs; omega) hl, f2.chg hc fun k hk hs => by have := hS k (b2 k hk).2 hs; have := h.frL k hk; omega⟩, fun k hk => (hl k (b2 k hk).2).trans (h.frL k hk), h.gr.chg hc fun k hk hs => by have := hS k (b3 k hk).2 hs; have := h.grL k hk; omega, fun k hk => (hl k (b3 k hk).2).trans (h.grL k hk), h.cl, h.en⟩
theorem Wq.frames' {d : Nat} {x : Nat → Value} {m : Wr} (h : Wq w L lab d x m) (hc : Chg S w w') (hS : ∀ k, k < w.heap.size → S k → lab k = 7 + d) (hl : ∀ k, k < w.heap.size → lab' k = lab k) (hd : d < 2) {v : Value} {fs : List Fr} {fvs : List (List Value)} (hf : All2 (FrR w' L lab') fs fvs) (hv : Fq w' L 72 6 v fs.length fvs.flatten) (hvL : ∀ k, obk v = some k → lab' k = 7 + d) : Wq w' L lab' d (upd x 2 v) { m with frames := fs } := by
  have b0 := h.wr.block
  have b1 := h.gv.block
  have b3 := h.gr.block
  exact ⟨h.wr.chg hc fun k hk hs => by have := hS k (b0 k hk).2 hs; have := h.wrL k hk; omega, fun k hk => (hl k (b0 k hk).2).trans (h.wrL k hk), h.gv.chg hc fun k hk hs => by have := hS k (b1 k hk).2 hs; have := h.gvL k hk; omega, fun k hk => (hl k (b1 k hk).2).trans (h.gvL k hk),
    ⟨fvs, hf, hv⟩, hvL, h.gr.chg hc fun k hk hs => by have := hS k (b3 k hk).2 hs; have := h.grL k hk; omega, fun k hk => (hl k (b3 k hk).2).trans (h.grL k hk), h.cl, h.en⟩
theorem Wq.grants' {d : Nat} {x : Nat → Value} {m : Wr} (h : Wq w L lab d x m) (hc : Chg S w w') (hS : ∀ k, k < w.heap.size → S k → lab k = 9 + d) (hl : ∀ k, k < w.heap.size → lab' k = lab k) (hd : d < 2) {v : Value} {gs : List Int} (hv : Fq w' L 22 1 v gs.length (gs.map (Value.int .u32))) (hvL : ∀ k, obk v = some k → lab' k = 9 + d) : Wq w' L lab' d (upd x 3 v) { m with grants := gs } := by
  obtain ⟨fvs, f1, f2⟩ := h.fr
  have b0 := h.wr.block
  have b1 := h.gv.block
  have b2 := f2.block
  exact ⟨h.wr.chg hc fun k hk hs => by have := hS k (b0 k hk).2 hs; have := h.wrL k hk; omega, fun k hk => (hl k (b0 k hk).2).trans (h.wrL k hk), h.gv.chg hc fun k hk hs => by have := hS k (b1 k hk).2 hs; have := h.gvL k hk; omega, fun k hk => (hl k (b1 k hk).2).trans (h.gvL k hk),
    ⟨fvs, f1.monoR fun a b hab => hab.chg hc (fun k hk hs => by have := hS k hk hs; omega) hl, f2.chg hc fun k hk hs => by have := hS k (b2 k hk).2 hs; have := h.frL k hk; omega⟩, fun k hk => (hl k (b2 k hk).2).trans (h.frL k hk), hv, hvL, h.cl, h.en⟩
theorem Wq.closed' {d : Nat} {x : Nat → Value} {m : Wr} (h : Wq w L lab d x m) (b : Bool) : Wq w L lab d (upd x 4 (.bool b)) { m with closed := b } := ⟨h.wr, h.wrL, h.gv, h.gvL, h.fr, h.frL, h.gr, h.grL, rfl, h.en⟩
theorem Wq.ended' {d : Nat} {x : Nat → Value} {m : Wr} (h : Wq w L lab d x m) (b : Bool) : Wq w L lab d (upd x 5 (.bool b)) { m with ended := b } := ⟨h.wr, h.wrL, h.gv, h.gvL, h.fr, h.frL, h.gr, h.grL, h.cl, rfl⟩
theorem Wq.relab_ {d : Nat} {x : Nat → Value} {m : Wr} (h : Wq w L lab d x m) (hl : ∀ k, k < w.heap.size → lab' k = lab k) : Wq w L lab' d x m := h.chg (S := none_) (Chg.refl _ _) (fun _ _ f => f.elim) hl
end
end Go.Proofs.YthalmjjbamglgaaDoor
