/-
  What the table says of lists of events that are taken whole (P9.4), in plain Lean: no program.
  No condition.
-/
import Derived.Test.YtobdbiihccfclaaDoorStByStep
namespace Go.Proofs.YtobdbiihccfclaaDoor

def cnt (e : Int) (l : List Int) : Nat := l.count e

theorem cnt_snoc (e x : Int) (l : List Int) : cnt e (l ++ [x]) = cnt e l + if x = e then 1 else 0 := by
  unfold cnt
  rw [List.count_append, List.count_singleton]
  by_cases h : x = e
  · simp [h]
  · simp [h]

/-- What a list has that leads to q. -/
def Has (q : Int) (l : List Int) : Prop :=
  (q = 0 ∧ l = []) ∨
  (0 < l.length ∧ ((l.getD 0 0 = 0 ∧ cnt 0 l = 1 ∧ cnt 1 l = 0) ∨ (l.getD 0 0 = 1 ∧ cnt 0 l = 0 ∧ cnt 1 l = 1)) ∧
    (((q = 1 ∨ q = 2 ∨ q = 3) ∧ cnt 4 l = 0 ∧ cnt 5 l = 0 ∧ cnt 6 l = 0) ∨ (q = 4 ∧ cnt 4 l = 1 ∧ cnt 5 l = 0 ∧ cnt 6 l = 0) ∨ (q = 5 ∧ cnt 4 l = 0 ∧ cnt 5 l = 1 ∧ cnt 6 l = 0) ∨
     (q = 6 ∧ cnt 4 l = 1 ∧ cnt 5 l = 1 ∧ cnt 6 l = 0) ∨
     (q = 7 ∧ cnt 4 l ≤ 1 ∧ cnt 5 l ≤ 1 ∧ 0 < cnt 6 l ∧ cnt 6 l ≤ l.length ∧ ∀ i, l.length - cnt 6 l ≤ i → i < l.length → l.getD i 0 = 6)))

theorem ncd_in {q x : Int} (h : ncd q x = 0) : 0 ≤ q ∧ q ≤ 7 ∧ 0 ≤ x ∧ x ≤ 6 := by
  unfold ncd at h
  split at h
  · rename_i hi
    unfold inR at hi
    simpa [and_assoc] using hi
  · cases h

theorem getD_snoc_lt {l : List Int} {i : Nat} (x : Int) (h : i < l.length) : (l ++ [x]).getD i 0 = l.getD i 0 := by
  rw [List.getD_eq_getElem?_getD, List.getD_eq_getElem?_getD, List.getElem?_append_left h]
theorem getD_snoc_eq (l : List Int) (x : Int) : (l ++ [x]).getD l.length 0 = x := by
  rw [List.getD_eq_getElem?_getD, List.getElem?_append_right (Nat.le_refl _)]
  simp

theorem tail6 {l : List Int} {x : Int} (hx : x = 6) {r : Nat} (h : ∀ i, l.length - r ≤ i → i < l.length → l.getD i 0 = 6) : ∀ i, (l ++ [x]).length - (r + 1) ≤ i → i < (l ++ [x]).length → (l ++ [x]).getD i 0 = 6 := by
  intro i h1 h2
  rw [List.length_append, List.length_singleton] at h1 h2
  by_cases hi : i < l.length
  · rw [getD_snoc_lt x hi]
    exact h i (by omega) hi
  · obtain rfl : i = l.length := by omega
    rw [getD_snoc_eq, hx]

theorem has_snoc {q : Int} {l : List Int} (h : Has q l) {x : Int} (hc : ncd q x = 0) : Has (nst q x) (l ++ [x]) := by
  obtain ⟨_, _, hx0, hx6⟩ := ncd_in hc
  have hx : x = 0 ∨ x = 1 ∨ x = 2 ∨ x = 3 ∨ x = 4 ∨ x = 5 ∨ x = 6 := by omega
  have c0 := cnt_snoc 0 x l
  have c1 := cnt_snoc 1 x l
  have c4 := cnt_snoc 4 x l
  have c5 := cnt_snoc 5 x l
  have c6 := cnt_snoc 6 x l
  have hlen : (l ++ [x]).length = l.length + 1 := by simp
  rcases h with ⟨rfl, rfl⟩ | ⟨hl, hf, hq⟩
  · have hx' : x = 0 ∨ x = 1 := by
      rcases hx with rfl | rfl | rfl | rfl | rfl | rfl | rfl
      · exact .inl rfl
      · exact .inr rfl
      all_goals exact absurd hc (by decide)
    right
    rcases hx' with rfl | rfl
    · refine ⟨by decide, .inl ⟨rfl, by decide, by decide⟩, .inl ⟨.inl (by decide), by decide, by decide, by decide⟩⟩
    · refine ⟨by decide, .inr ⟨rfl, by decide, by decide⟩, .inl ⟨.inr (.inl (by decide)), by decide, by decide, by decide⟩⟩
  · right
    have hg := getD_snoc_lt x hl
    have hcl : cnt 6 l ≤ l.length := List.count_le_length
    have hx2 : x ≠ 0 ∧ x ≠ 1 := by
      have hq' : q = 1 ∨ q = 2 ∨ q = 3 ∨ q = 4 ∨ q = 5 ∨ q = 6 ∨ q = 7 := by omega
      constructor
      · rintro rfl
        rcases hq' with rfl | rfl | rfl | rfl | rfl | rfl | rfl <;> exact absurd hc (by decide)
      · rintro rfl
        rcases hq' with rfl | rfl | rfl | rfl | rfl | rfl | rfl <;> exact absurd hc (by decide)
    refine ⟨by omega, ?_, ?_⟩
    · rw [hg, c0, c1, if_neg hx2.1, if_neg hx2.2]
      exact hf
    · have hx' : x = 2 ∨ x = 3 ∨ x = 4 ∨ x = 5 ∨ x = 6 := by omega
      by_cases hx7 : x = 6
      · right; right; right; right
        rw [c4, c5, c6, if_neg (by omega), if_neg (by omega), if_pos hx7]
        have hn : nst q x = 7 := by
          subst hx7
          rcases hq with ⟨hq, _⟩ | ⟨rfl, _⟩ | ⟨rfl, _⟩ | ⟨rfl, _⟩ | ⟨rfl, _⟩
          · rcases hq with rfl | rfl | rfl <;> decide
          all_goals decide
        refine ⟨hn, by omega, by omega, by omega, by omega, tail6 hx7 ?_⟩
        rcases hq with ⟨_, _, _, h6⟩ | ⟨_, _, _, h6⟩ | ⟨_, _, _, h6⟩ | ⟨_, _, _, h6⟩ | ⟨_, _, _, _, _, h6⟩
        · rw [h6]; intro i h1 h2; omega
        · rw [h6]; intro i h1 h2; omega
        · rw [h6]; intro i h1 h2; omega
        · rw [h6]; intro i h1 h2; omega
        · exact h6
      · have hq7 : q ≠ 7 := by
          rintro rfl
          rcases hx' with rfl | rfl | rfl | rfl | rfl
          · exact absurd hc (by decide)
          · exact absurd hc (by decide)
          · exact absurd hc (by decide)
          · exact absurd hc (by decide)
          · exact hx7 rfl
        rw [c4, c5, c6, if_neg (show ¬ x = 6 from hx7), Nat.add_zero]
        rcases hx' with rfl | rfl | rfl | rfl | rfl
        case inr.inr.inr.inr => exact absurd rfl hx7
        all_goals
          rcases hq with ⟨hq, h4, h5, h6⟩ | ⟨rfl, h4, h5, h6⟩ | ⟨rfl, h4, h5, h6⟩ | ⟨rfl, h4, h5, h6⟩ | ⟨rfl, _⟩
          case inr.inr.inr.inr => exact absurd rfl hq7
          case inl =>
            rcases hq with rfl | rfl | rfl
            all_goals first
              | exact absurd hc (by decide)
              | exact .inl ⟨by decide, by simpa using h4, by simpa using h5, h6⟩
              | exact .inr (.inl ⟨by decide, by simp [h4], by simpa using h5, h6⟩)
              | exact .inr (.inr (.inl ⟨by decide, by simpa using h4, by simp [h5], h6⟩))
          all_goals first
            | exact absurd hc (by decide)
            | exact .inr (.inl ⟨by decide, by simpa using h4, by simpa using h5, h6⟩)
            | exact .inr (.inr (.inl ⟨by decide, by simpa using h4, by simpa using h5, h6⟩))
            | exact .inr (.inr (.inr (.inl ⟨by decide, by simp [h4], by simp [h5], h6⟩)))

theorem has_play : ∀ (r l : List Int) (q : Int) (k : Nat), Has q l → (play q r k).2.2 = 0 → Has (play q r k).1 (l ++ r)
  | [], l, q, k, h, _ => by simpa [play] using h
  | x :: r, l, q, k, h, hp => by
    simp only [play] at hp ⊢
    by_cases h0 : ncd q x = 0
    · rw [if_pos h0] at hp ⊢
      have := has_play r (l ++ [x]) _ _ (has_snoc h h0) hp
      simpa using this
    · rw [if_neg h0] at hp
      exact absurd hp h0

theorem play_take : ∀ (l : List Int) (s : Int) (k : Nat), ∃ j, (play s l k).2.1 = k + j ∧ j ≤ l.length ∧ play s (l.take j) k = ((play s l k).1, k + j, 0) ∧ ((play s l k).2.2 = 0 → j = l.length) ∧ ((play s l k).2.2 ≠ 0 → j < l.length)
  | [], s, k => ⟨0, rfl, Nat.le_refl _, rfl, fun _ => rfl, fun h => absurd rfl h⟩
  | x :: r, s, k => by
    by_cases h0 : ncd s x = 0
    · obtain ⟨j, h1, h2, h3, h4, h5⟩ := play_take r (nst s x) (k + 1)
      refine ⟨j + 1, ?_, by simp; omega, ?_, ?_, ?_⟩
      · simp only [play, if_pos h0]; omega
      · simp only [List.take_succ_cons, play, if_pos h0]
        rw [h3, show k + 1 + j = k + (j + 1) by omega]
      · simp only [play, if_pos h0]; intro h; simp [h4 h]
      · simp only [play, if_pos h0]; intro h; have := h5 h; simp; omega
    · refine ⟨0, ?_, by simp, ?_, ?_, ?_⟩
      · simp [play, h0]
      · simp [play, h0]
      · simp [play, h0]
      · simp [play, h0]

/-- The beginning that is taken: its length, its state, and what it has. -/
theorem taken (l : List Int) : ∃ j, (play 0 l 0).2.1 = j ∧ j ≤ l.length ∧ Has (play 0 l 0).1 (l.take j) ∧ ((play 0 l 0).2.2 = 0 → j = l.length) ∧ ((play 0 l 0).2.2 ≠ 0 → j < l.length) := by
  obtain ⟨j, h1, h2, h3, h4, h5⟩ := play_take l 0 0
  refine ⟨j, by omega, h2, ?_, h4, h5⟩
  have := has_play (l.take j) [] 0 0 (.inl ⟨rfl, rfl⟩) (by rw [h3])
  rw [h3] at this
  simpa using this
end Go.Proofs.YtobdbiihccfclaaDoor
