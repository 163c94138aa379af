/-
  StreamPair: what it starts with; the window stays.
  No condition.
-/
import Derived.Test.YthalmjjbamglgaaDoorPr9
namespace Go.Proofs.YthalmjjbamglgaaDoor
open Go.RowKit
set_option linter.unusedVariables false
set_option linter.unusedSimpArgs false
section
variable {s : Nat → Sm} {W : Nat → Wr} {e : Nat}
theorem upd_crW {s' : Sm} {i : Nat} (h : s'.cr.W = (s i).cr.W) (d : Nat) : (upd s i s' d).cr.W = (s d).cr.W := by
  by_cases hd : d = i
  · subst hd; rw [upd_at]; exact h
  · rw [upd_ne s s' hd]
theorem acS_W (a : Sm) : (acS a).cr.W = a.cr.W := by unfold acS; split <;> rfl
theorem clS_W (a : Sm) : (clS a).cr.W = a.cr.W := by unfold clS; split <;> rfl
theorem rtS_W (a : Sm) (n : Int) : (rtS a n).cr.W = a.cr.W := by
  unfold rtS srS
  repeat' split
  all_goals rfl
theorem avS_W (a : Sm) (ys : List Int) (f : Bool) : (avS a ys f).cr.W = a.cr.W := by
  unfold avS
  repeat' split
  all_goals rfl
theorem gnS_W (a : Sm) (d : Int) : (gnS a d false).cr.W = a.cr.W := by
  unfold gnS gnL
  repeat' split
  all_goals first | rfl | exact gaS_W _ _
theorem uS_W (k nn : Int) (zs : List Int) (d : Nat) : ((uS k nn zs e s W).1 d).cr.W = (s d).cr.W := by
  unfold uS
  split
  · exact upd_crW (s' := wrS (s e) zs) rfl d
  · split
    · split
      · rfl
      · split
        · exact upd_crW (rtS_W _ _) d
        · exact upd_crW (rtS_W _ _) d
    · split
      · exact upd_crW (clS_W _) d
      · rfl
theorem cS_W (k : Int) (d : Nat) : ((cS k e s W).1 d).cr.W = (s d).cr.W := by
  unfold cS
  split
  · split
    · exact upd_crW (s' := frS (s e)) (spS_W _ _) d
    · rfl
  · split
    · split
      · rfl
      · exact upd_crW (avS_W _ _ _) d
    · split
      · split
        · rfl
        · exact upd_crW (gnS_W _ _) d
      · rfl
/-- The ends at the start. -/
def sS (Wn st fr : Nat) : Nat → Sm := fun i => if i = 0 then Sm.new 7 true Wn st fr else Sm.new 7 false Wn st fr
def qS (ga gb : Nat) : Nat → Nat := fun i => if i = 0 then ga else gb
def wS : Nat → Wr := fun _ => ⟨[], [], [], [], false, false⟩
def zS : Nat → Nat → Value := fun _ j => if j < 4 then .slice none 0 0 else .bool false
def labS (wb rc eb m : Nat) : Nat → Nat := fun k => if k = wb then 2 else if k = rc ∨ k = eb then 50 else if k < m then 0 else 1
theorem sS_W (Wn st fr d : Nat) : (sS Wn st fr d).cr.W = (Wn : Int) := by unfold sS; split <;> rfl
theorem inv2_start {Wn st fr : Nat} (h1 : 1 ≤ Wn) : Inv2 (sS Wn st fr) wS 0 := by
  have one : ∀ d e, Dj (sS Wn st fr d) (sS Wn st fr e) (wS d) := fun d e => by
    have f : ∀ i, (sS Wn st fr i).rs = false ∧ (sS Wn st fr i).ct = false ∧ (sS Wn st fr i).cr.W = (Wn : Int) ∧ (sS Wn st fr i).cr.h = (Wn : Int) ∧ (sS Wn st fr i).gr = Gr.new Wn ∧ (sS Wn st fr i).un = [] ∧ (sS Wn st fr i).sg = [] ∧ (sS Wn st fr i).cl = false ∧ (sS Wn st fr i).lo = false ∧ (sS Wn st fr i).li = false ∧ (sS Wn st fr i).td = false := fun i => by
      unfold sS
      split <;> exact ⟨rfl, rfl, rfl, rfl, rfl, rfl, rfl, rfl, rfl, rfl, rfl⟩
    obtain ⟨a1, a2, a3, a4, a5, a6, a7, a8, a9, a10, a11⟩ := f d
    obtain ⟨b1, b2, b3, b4, b5, b6, b7, b8, b9, b10, b11⟩ := f e
    refine ⟨⟨a1, a2⟩, ⟨b1, b2⟩, by rw [a3, b5]; rfl, by rw [b6, a7]; rfl, by rw [a8]; rfl, (fun h => by rw [a9] at h; cases h), ⟨(fun h => by rw [b10] at h; cases h), (fun _ f hf => by cases hf), (fun h => by rw [a9] at h; cases h)⟩, (fun h => by cases h), by rw [b11]; rfl, (fun _ => by rw [b5]; show (0 : Int) ≤ (Wn : Int); omega), (fun _ => by rw [a4, b6, b5]; simp [wS, flen, gsum, Gr.new]), (fun g hg => by cases hg)⟩
  exact ⟨fun d _ => one d (1 - d), (fun d _ z hz => by cases hz), fun d _ => ⟨Nat.zero_le _, Nat.zero_le _, Nat.zero_le _⟩⟩
/-- The memory at the start. -/
theorem pp_start {w w1 w2 w4 : World} {L m ga gb wb rc eb Wn st fr : Nat} (hL : L ≤ w1.heap.size) (p1 : Pst w2 (fun k => w1.heap.size ≤ k ∧ k < m) ga (Sm.new 7 true Wn st fr)) (p2 : Pst w2 (fun k => m ≤ k ∧ k < w2.heap.size) gb (Sm.new 7 false Wn st fr)) (hm1 : m ≤ w2.heap.size) (hm2 : w1.heap.size ≤ m) (hrc : L ≤ rc ∧ rc < w1.heap.size) (heb : w2.heap.size ≤ eb ∧ eb < w4.heap.size) (hwb : w2.heap.size ≤ wb) (hne : wb ≠ eb) (hc : Chg none_ w2 w4) (hi : Is w4 wb 103 (wcells zS)) :
    Pp w4 (fun k => k = rc ∨ k = eb) w4 L wb (qS ga gb) (labS wb rc eb m) (sS Wn st fr) wS zS := by
  have hz := hc.size
  have hl : ∀ k, w1.heap.size ≤ k → k < w2.heap.size → labS wb rc eb m k = if k < m then 0 else 1 := fun k h1 h2 => by
    unfold labS
    rw [if_neg (by omega), if_neg (by omega)]
  have nq : ∀ d j, d < 2 → j < 4 → zS d j = .slice none 0 0 := fun d j _ hj => if_pos hj
  refine ⟨hi, ⟨by omega, if_pos rfl⟩, fun d hd => ?_, fun d hd => ?_, fun k hk => ?_⟩
  · rcases lt2 hd with rfl | rfl
    · exact (p1.keep hc).wide fun k hk => ⟨by omega, by omega, by rw [hl k hk.1 (by omega), if_pos hk.2]⟩
    · exact (p2.keep hc).wide fun k hk => ⟨by omega, by omega, by rw [hl k (by omega) hk.2, if_neg (by omega)]⟩
  · have no : ∀ k, obk (.slice none 0 0) = some k → False := fun k h => by simp [obk] at h
    refine ⟨?_, fun k h => (no k (by rwa [nq d 0 hd (by decide)] at h)).elim, ?_, fun k h => (no k (by rwa [nq d 1 hd (by decide)] at h)).elim, ⟨[], .nil, ?_⟩, fun k h => (no k (by rwa [nq d 2 hd (by decide)] at h)).elim, ?_, fun k h => (no k (by rwa [nq d 3 hd (by decide)] at h)).elim, rfl, rfl⟩
    · rw [nq d 0 hd (by decide)]; exact ob_nil _ _ _ _
    · rw [nq d 1 hd (by decide)]; exact ob_nil _ _ _ _
    · rw [nq d 2 hd (by decide)]; exact fq_nil _ _ _ _ _
    · rw [nq d 3 hd (by decide)]; exact fq_nil _ _ _ _ _
  · refine ⟨by omega, ?_, rfl⟩
    unfold labS
    rw [if_neg (by omega), if_pos hk]
end
end Go.Proofs.YthalmjjbamglgaaDoor
