/-
  finish: what its rounds make of two ends: nothing is left.
  No condition.
-/
import Derived.Test.YthalmjjbamglgaaDoorPr6
namespace Go.Proofs.YthalmjjbamglgaaDoor
open Go.RowKit
set_option linter.unusedVariables false
set_option linter.unusedSimpArgs false
/-- A move of a round: k = 1 Read, 2 Frame, 3 a frame arrives, 4 a grant. -/
def mvS (k : Int) (e : Nat) (st : (Nat → Sm) × (Nat → Wr)) : (Nat → Sm) × (Nat → Wr) := cS k e (uS k 1048576 [] e st.1 st.2).1 (uS k 1048576 [] e st.1 st.2).2
def mu1 (a b : Sm) (m : Wr) : Nat := 4 * a.sg.length + 3 * m.frames.length + (if b.un = [] then 0 else 2) + m.grants.length + (if a.lo = true then 0 else 4) + (if m.ended = true then 0 else 1)
def mu (st : (Nat → Sm) × (Nat → Wr)) : Nat := mu1 (st.1 0) (st.1 1) (st.2 0) + mu1 (st.1 1) (st.1 0) (st.2 1)
structure Lv (st : (Nat → Sm) × (Nat → Wr)) : Prop where
  go : ∀ d, d < 2 → ((st.1 d).mine || (st.1 d).acc) = true ∧ (st.1 d).cl = true
  few : ∀ d, d < 2 → (st.2 d).wrote.length ≤ (st.2 d).gave.length + 3000
def stuck (k : Int) (e : Nat) (st : (Nat → Sm) × (Nat → Wr)) : Prop :=
  if k = 1 then (st.1 e).un = [] ∧ ((st.1 e).li = true → (st.2 (1 - e)).ended = true)
  else if k = 2 then rdyB (st.1 e) = false
  else if k = 3 then (st.2 e).frames = []
  else (st.2 e).grants = []
section
variable {s : Nat → Sm} {W : Nat → Wr} {t e : Nat}
theorem mu_at {st : (Nat → Sm) × (Nat → Wr)} (he : e < 2) : mu st = mu1 (st.1 e) (st.1 (1 - e)) (st.2 e) + mu1 (st.1 (1 - e)) (st.1 e) (st.2 (1 - e)) := by
  rcases lt2 he with rfl | rfl
  · rfl
  · exact Nat.add_comm _ _
theorem upd_self {α : Type} (f : Nat → α) (a : Nat) : upd f a (f a) = f := funext fun i => by
  unfold upd
  split
  · rename_i h; rw [h]
  · rfl
theorem rtS_run (s : Sm) (n : Int) : (rtS s n).mine = s.mine ∧ (rtS s n).acc = s.acc := by
  unfold rtS srS
  repeat' split
  all_goals exact ⟨rfl, rfl⟩
theorem avS_run (s : Sm) (ys : List Int) (f : Bool) : (avS s ys f).mine = s.mine ∧ (avS s ys f).acc = s.acc := by
  unfold avS
  repeat' split
  all_goals exact ⟨rfl, rfl⟩
theorem gnS_run (s : Sm) (d : Int) : (gnS s d false).mine = s.mine ∧ (gnS s d false).acc = s.acc ∧ (gnS s d false).sg = s.sg ∧ (gnS s d false).cl = s.cl ∧ (gnS s d false).lo = s.lo := by
  unfold gnS gnL
  repeat' split
  all_goals first | exact ⟨rfl, rfl, rfl, rfl, rfl⟩ | simp_all
theorem Lv.put {st : (Nat → Sm) × (Nat → Wr)} (h : Lv st) {i j : Nat} {s' : Sm} {m' : Wr} (h1 : s'.mine = (st.1 i).mine ∧ s'.acc = (st.1 i).acc ∧ s'.cl = (st.1 i).cl) (h2 : m'.wrote = (st.2 j).wrote ∧ (st.2 j).gave.length ≤ m'.gave.length) : Lv (upd st.1 i s', upd st.2 j m') := by
  refine ⟨fun d hd => ?_, fun d hd => ?_⟩
  · by_cases e0 : d = i
    · subst e0
      show ((upd st.1 d s' d).mine || (upd st.1 d s' d).acc) = true ∧ (upd st.1 d s' d).cl = true
      rw [upd_at, h1.1, h1.2.1, h1.2.2]
      exact h.go d hd
    · show ((upd st.1 i s' d).mine || (upd st.1 i s' d).acc) = true ∧ (upd st.1 i s' d).cl = true
      rw [upd_ne _ _ e0]
      exact h.go d hd
  · by_cases e0 : d = j
    · subst e0
      show (upd st.2 d m' d).wrote.length ≤ (upd st.2 d m' d).gave.length + 3000
      rw [upd_at, h2.1]
      have := h.few d hd
      omega
    · show (upd st.2 j m' d).wrote.length ≤ (upd st.2 j m' d).gave.length + 3000
      rw [upd_ne _ _ e0]
      exact h.few d hd
/-- mu behind a move of stream e and wire e. -/
theorem mu_own {st : (Nat → Sm) × (Nat → Wr)} (he : e < 2) {s' : Sm} {m' : Wr} (hun : s'.un = (st.1 e).un) : mu (upd st.1 e s', upd st.2 e m') = mu1 s' (st.1 (1 - e)) m' + mu1 (st.1 (1 - e)) (st.1 e) (st.2 (1 - e)) := by
  have hne : 1 - e ≠ e := by omega
  rw [mu_at he]
  show mu1 (upd st.1 e s' e) (upd st.1 e s' (1 - e)) (upd st.2 e m' e) + mu1 (upd st.1 e s' (1 - e)) (upd st.1 e s' e) (upd st.2 e m' (1 - e)) = _
  rw [upd_at, upd_at, upd_ne _ _ hne, upd_ne _ _ hne]
  have h2 : mu1 (st.1 (1 - e)) s' (st.2 (1 - e)) = mu1 (st.1 (1 - e)) (st.1 e) (st.2 (1 - e)) := by unfold mu1; rw [hun]
  rw [h2]
/-- mu behind a move of stream e and the wire towards it. -/
theorem mu_other {st : (Nat → Sm) × (Nat → Wr)} (he : e < 2) {s' : Sm} {m' : Wr} (hsg : s'.sg = (st.1 e).sg) (hlo : s'.lo = (st.1 e).lo) : mu (upd st.1 e s', upd st.2 (1 - e) m') = mu1 (st.1 e) (st.1 (1 - e)) (st.2 e) + mu1 (st.1 (1 - e)) s' m' := by
  have hne : 1 - e ≠ e := by omega
  rw [mu_at he]
  show mu1 (upd st.1 e s' e) (upd st.1 e s' (1 - e)) (upd st.2 (1 - e) m' e) + mu1 (upd st.1 e s' (1 - e)) (upd st.1 e s' e) (upd st.2 (1 - e) m' (1 - e)) = _
  rw [upd_at, upd_at, upd_ne _ _ hne, upd_ne st.2 m' hne.symm]
  have h2 : mu1 s' (st.1 (1 - e)) (st.2 e) = mu1 (st.1 e) (st.1 (1 - e)) (st.2 e) := by unfold mu1; rw [hsg, hlo]
  rw [h2]
/-- What a move does to the measure. -/
def Good (k : Int) (e : Nat) (st st' : (Nat → Sm) × (Nat → Wr)) : Prop := Lv st' ∧ (mu st' < mu st ∨ (st' = st ∧ stuck k e st))
theorem mv_frame {st : (Nat → Sm) × (Nat → Wr)} (hi : Inv2 st.1 st.2 t) (hok : ∀ d, d < 2 → (st.1 d).Ok) (hl : Lv st) (he : e < 2) : Good 2 e st (mvS 2 e st) := by
  have h1 := hi.dj e he
  show Good 2 e st (cS 2 e st.1 st.2)
  unfold cS
  rw [if_pos rfl]
  split
  · rename_i hr
    refine ⟨hl.put ⟨rfl, rfl, rfl⟩ ⟨rfl, Nat.le_refl _⟩, .inl ?_⟩
    rw [mu_own (st := st) (s' := frS (st.1 e)) he rfl, mu_at he]
    refine Nat.add_lt_add_right ?_ _
    have hlo := (rdy_lo hr).1
    have hcl := (hl.go e he).2
    have hh := frK_h (hok e he)
    have hkl := frK_le (st.1 e)
    unfold mu1
    show 4 * ((st.1 e).sg.drop (frK (st.1 e))).length + 3 * ((st.2 e).frames ++ [_]).length + _ + _ + (if ((st.1 e).lo || frE (st.1 e)) = true then 0 else 4) + _ < _
    rw [List.length_drop, List.length_append, List.length_singleton, hlo, Bool.false_or]
    by_cases hs : (st.1 e).sg = []
    · have hE : frE (st.1 e) = true := by unfold frE; rw [hcl, hs]; simp
      rw [hE]
      simp
      omega
    · have hk : 1 ≤ frK (st.1 e) := by
        have hf := (hok e he).f1
        have hr2 := hr
        rw [rdy_eq h1.upa, if_neg hs] at hr2
        simp at hr2
        have hp : 0 < (st.1 e).sg.length := List.length_pos_iff.2 hs
        unfold frK
        have hh2 := hr2.2
        refine Nat.le_min.2 ⟨Nat.le_min.2 ⟨by omega, by omega⟩, hp⟩
      have hE4 : (if frE (st.1 e) = true then 0 else 4) ≤ 4 := by split <;> omega
      simp
      omega
  · rename_i hr
    exact ⟨hl, .inr ⟨rfl, by unfold stuck; simpa using hr⟩⟩
theorem mv_deliver {st : (Nat → Sm) × (Nat → Wr)} (hi : Inv2 st.1 st.2 t) (hl : Lv st) (he : e < 2) : Good 3 e st (mvS 3 e st) := by
  have h1 := hi.dj e he
  show Good 3 e st (cS 3 e st.1 st.2)
  unfold cS
  rw [if_neg (by decide), if_pos rfl]
  split
  · rename_i hf
    exact ⟨hl, .inr ⟨rfl, by unfold stuck; simpa using hf⟩⟩
  · rename_i f fs hf
    obtain ⟨_, r2, r3, r4, r5⟩ := avS_keep h1.upb f.pl f.fin
    have hr := avS_run (st.1 (1 - e)) f.pl f.fin
    refine ⟨hl.put ⟨hr.1, hr.2, r3⟩ ⟨rfl, Nat.le_refl _⟩, .inl ?_⟩
    have hm := mu_other (st := st) (e := 1 - e) (s' := avS (st.1 (1 - e)) f.pl f.fin) (m' := { st.2 e with frames := fs }) (by omega) r2 r4
    rw [show 1 - (1 - e) = e by omega] at hm
    rw [hm, mu_at he, Nat.add_comm]
    refine Nat.add_lt_add_right ?_ _
    unfold mu1
    rw [hf]
    simp only [List.length_cons]
    split <;> split <;> omega
theorem mv_grant {st : (Nat → Sm) × (Nat → Wr)} (hi : Inv2 st.1 st.2 t) (hl : Lv st) (he : e < 2) : Good 4 e st (mvS 4 e st) := by
  have h1 := hi.dj e he
  show Good 4 e st (cS 4 e st.1 st.2)
  unfold cS
  rw [if_neg (by decide), if_neg (by decide), if_pos rfl]
  split
  · rename_i hf
    exact ⟨hl, .inr ⟨rfl, by unfold stuck; simpa using hf⟩⟩
  · rename_i g gs hg
    obtain ⟨_, r2, _, _, _⟩ := gnS_keep h1.upa g
    obtain ⟨q1, q2, q3, q4, q5⟩ := gnS_run (st.1 e) g
    refine ⟨hl.put ⟨q1, q2, q4⟩ ⟨rfl, Nat.le_refl _⟩, .inl ?_⟩
    rw [mu_own (st := st) he r2, mu_at he]
    refine Nat.add_lt_add_right ?_ _
    unfold mu1
    rw [hg, q3, q5]
    simp only [List.length_cons]
    omega
theorem mv_read {st : (Nat → Sm) × (Nat → Wr)} (hi : Inv2 st.1 st.2 t) (hl : Lv st) (he : e < 2) : Good 1 e st (mvS 1 e st) := by
  have h2 := hi.dj (1 - e) (by omega)
  have hfew := hl.few (1 - e) (by omega)
  rw [show 1 - (1 - e) = e by omega] at h2
  have hup := h2.upb
  show Good 1 e st (uS 1 1048576 [] e st.1 st.2)
  unfold uS
  rw [if_neg (by decide), if_pos rfl, if_neg (by decide)]
  obtain ⟨_, r2, r3, r4, _⟩ := rtS_keep hup 1048576
  have hr := rtS_run (st.1 e) 1048576
  split
  · rename_i hx
    by_cases hen : (st.2 (1 - e)).ended = true
    · have e1 : rtS (st.1 e) 1048576 = st.1 e := by
        rw [rtS_nil hup (by decide) hx.1, if_pos hx.2]
        have htd := h2.td
        rw [hen] at htd
        rw [htd]
      have e2 : ({ st.2 (1 - e) with ended := true } : Wr) = st.2 (1 - e) := by rw [← hen]
      rw [e1, e2, upd_self, upd_self]
      exact ⟨hl, .inr ⟨rfl, by unfold stuck; rw [if_pos rfl]; exact ⟨hx.1, fun _ => hen⟩⟩⟩
    · refine ⟨hl.put ⟨hr.1, hr.2, r3⟩ ⟨rfl, Nat.le_refl _⟩, .inl ?_⟩
      rw [mu_other he r2 r4, mu_at he]
      refine Nat.add_lt_add_left ?_ _
      unfold mu1
      rw [rtS_nil hup (by decide) hx.1, if_pos hx.2]
      rw [hx.1, if_neg hen]
      simp
  · rename_i hx
    by_cases hun : (st.1 e).un = []
    · have hli : (st.1 e).li = false := by
        cases hb : (st.1 e).li
        · rfl
        · exact absurd ⟨hun, hb⟩ hx
      have e1 : rtS (st.1 e) 1048576 = st.1 e := by rw [rtS_nil hup (by decide) hun, hli]; rfl
      have e2 : ({ st.2 (1 - e) with gave := (st.2 (1 - e)).gave ++ (st.1 e).un.take (rtN (st.1 e) 1048576), grants := addG (st.2 (1 - e)).grants (rtG (st.1 e) 1048576) } : Wr) = st.2 (1 - e) := by
        rw [rtG_nil hun, hun, addG_zero]
        simp
      rw [e1, e2, upd_self, upd_self]
      exact ⟨hl, .inr ⟨rfl, by unfold stuck; rw [if_pos rfl]; exact ⟨hun, fun h => by rw [hli] at h; cases h⟩⟩⟩
    · refine ⟨hl.put ⟨hr.1, hr.2, r3⟩ ⟨rfl, ?_⟩, .inl ?_⟩
      · show _ ≤ ((st.2 (1 - e)).gave ++ _).length
        rw [List.length_append]
        omega
      · rw [mu_other he r2 r4, mu_at he]
        refine Nat.add_lt_add_left ?_ _
        obtain ⟨e1, e2, _⟩ := rtS_some hup (n := 1048576) (by decide) hun
        have hb := congrArg List.length h2.bytes
        rw [List.length_append, List.length_append] at hb
        have hN : rtN (st.1 e) 1048576 = (st.1 e).un.length := by
          rw [e2]
          exact Nat.min_eq_right (by show _ ≤ 1048576; omega)
        have hnil : (rtS (st.1 e) 1048576).un = [] := by rw [e1, hN]; exact List.drop_length
        have hg := addG_len (st.2 (1 - e)).grants (rtG (st.1 e) 1048576)
        unfold mu1
        rw [hnil, if_pos rfl, if_neg hun]
        simp only
        omega
/-- Stuck everywhere: nothing is left. -/
theorem stuck_end {st : (Nat → Sm) × (Nat → Wr)} (hi : Inv2 st.1 st.2 t) (hok : ∀ d, d < 2 → (st.1 d).Ok) (hl : Lv st) (h : ∀ k e, (k = 1 ∨ k = 2 ∨ k = 3 ∨ k = 4) → e < 2 → stuck k e st) : mu st = 0 := by
  have one : ∀ e, e < 2 → mu1 (st.1 e) (st.1 (1 - e)) (st.2 e) = 0 := fun e he => by
    have h1 := hi.dj e he
    have k1 := h 1 (1 - e) (by omega) (by omega)
    have k2 := h 2 e (by omega) he
    have k3 := h 3 e (by omega) he
    have k4 := h 4 e (by omega) he
    unfold stuck at k1 k2 k3 k4
    simp at k1 k2 k3 k4
    rw [show 1 - (1 - e) = e by omega] at k1
    obtain ⟨hgo, hcl⟩ := hl.go e he
    have hlo : (st.1 e).lo = true := by
      cases hlo : (st.1 e).lo
      · exfalso
        rw [rdy_eq h1.upa, hgo, hlo] at k2
        by_cases hs : (st.1 e).sg = []
        · rw [if_pos hs, hcl] at k2
          cases k2
        · rw [if_neg hs] at k2
          simp at k2
          have hw := h1.win hlo
          have hg := (hok (1 - e) (by omega)).gr
          have ho := hg.o1
          have hW1 := hg.W1
          have hthr := thr_in hg.W1 hg.W2
          rw [k1.1, k3, k4] at hw
          simp [flen, gsum] at hw
          omega
      · rfl
    have hsg := (h1.lo hlo).2
    have hli : (st.1 (1 - e)).li = true := by
      cases hb : (st.1 (1 - e)).li
      · obtain ⟨pre, l, e1, _⟩ := h1.fin.yes hlo hb
        rw [k3] at e1
        simp at e1
      · rfl
    have hen := k1.2 hli
    unfold mu1
    rw [hsg, k3, k1.1, k4, hlo, hen]
    rfl
  rw [mu_at (e := 0) (by decide)]
  have h0 := one 0 (by decide)
  have h1 := one 1 (by decide)
  rw [h0]
  exact (Nat.zero_add _).trans h1
/-- At the end. -/
theorem mu_zero {st : (Nat → Sm) × (Nat → Wr)} (hi : Inv2 st.1 st.2 t) (h : mu st = 0) (he : e < 2) : (st.2 e).ended = true ∧ (st.2 e).gave = (st.2 e).wrote ∧ (st.1 e).sg = [] ∧ (st.1 e).un = [] ∧ (st.1 e).lo = true ∧ (st.1 e).li = true ∧ (st.1 e).td = true := by
  rw [mu_at he] at h
  have h1 := hi.dj e he
  have h2 := hi.dj (1 - e) (by omega)
  rw [show 1 - (1 - e) = e by omega] at h2
  unfold mu1 at h
  have a1 : (st.1 e).sg = [] := List.length_eq_zero_iff.1 (by omega)
  have a2 : (st.2 e).frames = [] := List.length_eq_zero_iff.1 (by omega)
  have a3 : (st.1 (1 - e)).un = [] := by
    apply Classical.byContradiction
    intro hc
    rw [if_neg hc] at h
    omega
  have a4 : (st.1 e).un = [] := by
    apply Classical.byContradiction
    intro hc
    rw [if_neg hc] at h
    omega
  have a5 : (st.1 e).lo = true := by
    apply Classical.byContradiction
    intro hc
    rw [if_neg hc] at h
    omega
  have a6 : (st.2 e).ended = true := by
    apply Classical.byContradiction
    intro hc
    rw [if_neg hc] at h
    omega
  have a7 : (st.2 (1 - e)).ended = true := by
    apply Classical.byContradiction
    intro hc
    rw [if_neg (c := (st.2 (1 - e)).ended = true) hc] at h
    omega
  refine ⟨a6, ?_, a1, a4, a5, (h2.en a7).1, by rw [← h2.td]; exact a7⟩
  have hb := h1.bytes
  rw [a1, a2, a3] at hb
  rw [hb]
  simp [fpl]
/-- At the start. -/
theorem mu_start {st : (Nat → Sm) × (Nat → Wr)} (hi : Inv2 st.1 st.2 t) : mu st ≤ 4 * (((st.2 0).wrote.length - (st.2 0).gave.length + (st.2 0).frames.length + (st.2 0).grants.length) + ((st.2 1).wrote.length - (st.2 1).gave.length + (st.2 1).frames.length + (st.2 1).grants.length)) + 10 := by
  have one : ∀ e, e < 2 → mu1 (st.1 e) (st.1 (1 - e)) (st.2 e) ≤ 4 * ((st.2 e).wrote.length - (st.2 e).gave.length + (st.2 e).frames.length + (st.2 e).grants.length) + 5 := fun e he => by
    have hb := congrArg List.length (hi.dj e he).bytes
    rw [List.length_append, List.length_append, List.length_append] at hb
    unfold mu1
    have hu : (if (st.1 (1 - e)).un = [] then 0 else 2) ≤ 2 * (st.1 (1 - e)).un.length := by
      split
      · omega
      · rename_i hc
        have := List.length_pos_iff.2 hc
        omega
    have h4 : (if (st.1 e).lo = true then 0 else 4) ≤ 4 := by split <;> omega
    have h5 : (if (st.2 e).ended = true then 0 else 1) ≤ 1 := by split <;> omega
    omega
  rw [mu_at (e := 0) (by decide)]
  have h0 := one 0 (by decide)
  have h1 := one 1 (by decide)
  have h1' : mu1 (st.1 (1 - 0)) (st.1 0) (st.2 (1 - 0)) ≤ 4 * ((st.2 1).wrote.length - (st.2 1).gave.length + (st.2 1).frames.length + (st.2 1).grants.length) + 5 := h1
  omega
theorem mv_good {st : (Nat → Sm) × (Nat → Wr)} (hi : Inv2 st.1 st.2 t) (hok : ∀ d, d < 2 → (st.1 d).Ok) (hl : Lv st) (he : e < 2) {j : Nat} (hj : j < 4) : Good ((j : Int) + 1) e st (mvS ((j : Int) + 1) e st) := by
  rcases (show j = 0 ∨ j = 1 ∨ j = 2 ∨ j = 3 by omega) with rfl | rfl | rfl | rfl
  · exact mv_read hi hl he
  · exact mv_frame hi hok hl he
  · exact mv_deliver hi hl he
  · exact mv_grant hi hl he
/-- n moves of a round. -/
def Prog (st0 st : (Nat → Sm) × (Nat → Wr)) (n : Nat) : Prop := mu st ≤ mu st0 ∧ (mu st = mu st0 → st = st0 ∧ ∀ i, i < n → stuck (((i % 4 : Nat) : Int) + 1) (i / 4) st0)
theorem Prog.start (st : (Nat → Sm) × (Nat → Wr)) : Prog st st 0 := ⟨Nat.le_refl _, fun _ => ⟨rfl, fun i hi => by omega⟩⟩
theorem Prog.step {st0 st st' : (Nat → Sm) × (Nat → Wr)} {j : Nat} (h : Prog st0 st (4 * e + j)) (hj : j < 4) (g : Good ((j : Int) + 1) e st st') : Prog st0 st' (4 * e + j + 1) := by
  obtain ⟨h1, h2⟩ := h
  rcases g.2 with g1 | ⟨rfl, g2⟩
  · exact ⟨by omega, fun h3 => by omega⟩
  · refine ⟨h1, fun h3 => ?_⟩
    obtain ⟨rfl, h4⟩ := h2 h3
    refine ⟨rfl, fun i hi => ?_⟩
    by_cases hij : i = 4 * e + j
    · subst hij
      rw [show (4 * e + j) % 4 = j by omega, show (4 * e + j) / 4 = e by omega]
      exact g2
    · exact h4 i (by omega)
theorem Prog.fin {st0 st : (Nat → Sm) × (Nat → Wr)} (h : Prog st0 st 8) (hi : Inv2 st0.1 st0.2 t) (hok : ∀ d, d < 2 → (st0.1 d).Ok) (hl : Lv st0) : mu st = 0 ∨ mu st + 1 ≤ mu st0 := by
  obtain ⟨h1, h2⟩ := h
  by_cases he : mu st = mu st0
  · obtain ⟨rfl, h3⟩ := h2 he
    refine .inl (stuck_end hi hok hl fun k e hk he => ?_)
    rcases hk with rfl | rfl | rfl | rfl
    · have := h3 (4 * e + 0) (by omega)
      rwa [show (4 * e + 0) % 4 = 0 by omega, show (4 * e + 0) / 4 = e by omega] at this
    · have := h3 (4 * e + 1) (by omega)
      rwa [show (4 * e + 1) % 4 = 1 by omega, show (4 * e + 1) / 4 = e by omega] at this
    · have := h3 (4 * e + 2) (by omega)
      rwa [show (4 * e + 2) % 4 = 2 by omega, show (4 * e + 2) / 4 = e by omega] at this
    · have := h3 (4 * e + 3) (by omega)
      rwa [show (4 * e + 3) % 4 = 3 by omega, show (4 * e + 3) / 4 = e by omega] at this
  · omega
/-- Behind the accepting and the closing of the ends below n: what finish starts with. -/
structure Fst (s0 : Nat → Sm) (W0 : Nat → Wr) (n : Nat) (s : Nat → Sm) (W : Nat → Wr) : Prop where
  same : ∀ d, d < 2 → (W d).wrote = (W0 d).wrote ∧ (W d).gave = (W0 d).gave ∧ (W d).frames = (W0 d).frames ∧ (W d).grants = (W0 d).grants
  on : ∀ d, d < 2 → d < n → ((s d).mine || (s d).acc) = true ∧ (s d).cl = true
theorem Fst.step {s0 : Nat → Sm} {W0 : Nat → Wr} {n : Nat} (h : Fst s0 W0 n s W) (hn : n < 2) (hu : (s n).Up) : Fst s0 W0 (n + 1) (uS 5 0 [] n (upd s n (acS (s n))) W).1 (uS 5 0 [] n (upd s n (acS (s n))) W).2 := by
  have e1 : uS 5 0 [] n (upd s n (acS (s n))) W = (upd (upd s n (acS (s n))) n (clS (acS (s n))), upd W n { W n with closed := true }) := by
    unfold uS
    rw [if_neg (by decide), if_neg (by decide), if_pos rfl, upd_at]
  rw [e1, upd_upd]
  refine ⟨fun d hd => ?_, fun d hd hdn => ?_⟩
  · by_cases hdj : d = n
    · subst hdj
      simp only [upd_at]
      exact h.same d hd
    · simp only [upd_ne W _ hdj]
      exact h.same d hd
  · by_cases hdj : d = n
    · subst hdj
      show ((upd s d (clS (acS (s d))) d).mine || (upd s d (clS (acS (s d))) d).acc) = true ∧ (upd s d (clS (acS (s d))) d).cl = true
      rw [upd_at, clS_cl (acS_up hu), acS_eq hu]
      exact ⟨by simp, rfl⟩
    · show ((upd s n (clS (acS (s n))) d).mine || (upd s n (clS (acS (s n))) d).acc) = true ∧ (upd s n (clS (acS (s n))) d).cl = true
      rw [upd_ne s _ hdj]
      exact h.on d hd (by omega)
end
end Go.Proofs.YthalmjjbamglgaaDoor
