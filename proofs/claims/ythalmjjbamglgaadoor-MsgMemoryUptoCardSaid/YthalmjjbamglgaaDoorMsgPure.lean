/-
  Messages, the plain law: what a list of bytes says (the messages that are whole, what stands behind them), and that pieces do not matter.
  No condition.
-/
import Derived.Test.YthalmjjbamglgaaDoorBytes
namespace Go.Proofs.YthalmjjbamglgaaDoor

/-- The bytes of a length. -/
def lenB (n : Nat) : List Int :=
  if n < 128 then [(n : Int)] else if n < 16384 then [((n % 128 + 128 : Nat) : Int), ((n / 128 : Nat) : Int)] else [((n % 128 + 128 : Nat) : Int), ((n / 128 % 128 + 128 : Nat) : Int), ((n / 128 / 128 : Nat) : Int)]
def encB (m : List Int) : List Int := lenB m.length ++ m

/-- What bytes begin with: none: a length that may not be; some none: none that is whole; else how many bytes it has, and the number. -/
def hdB (most : Int) : List Int → Option (Option (Nat × Nat))
  | [] => some none
  | x :: t => if x < 128 then (if x ≤ most then some (some (1, x.toNat)) else none) else
    match t with
    | [] => some none
    | y :: t => if y < 128 then (if x - 128 + 128 * y ≤ most ∧ y ≠ 0 then some (some (2, (x - 128 + 128 * y).toNat)) else none) else
      match t with
      | [] => some none
      | z :: _ => if z < 128 then (if x - 128 + 128 * (y - 128) + 16384 * z ≤ most ∧ z ≠ 0 then some (some (3, (x - 128 + 128 * (y - 128) + 16384 * z).toNat)) else none) else none

theorem hd_nil (most : Int) : hdB most [] = some none := rfl
theorem hd_one (most x : Int) (t : List Int) : (x < 128 ∧ x ≤ most ∧ hdB most (x :: t) = some (some (1, x.toNat))) ∨ (x < 128 ∧ ¬ x ≤ most ∧ hdB most (x :: t) = none) ∨ (¬ x < 128 ∧ t = [] ∧ hdB most (x :: t) = some none) ∨
    (¬ x < 128 ∧ ∃ y t', t = y :: t' ∧ ((y < 128 ∧ (x - 128 + 128 * y ≤ most ∧ y ≠ 0) ∧ hdB most (x :: t) = some (some (2, (x - 128 + 128 * y).toNat))) ∨ (y < 128 ∧ ¬ (x - 128 + 128 * y ≤ most ∧ y ≠ 0) ∧ hdB most (x :: t) = none) ∨ (¬ y < 128 ∧ t' = [] ∧ hdB most (x :: t) = some none) ∨
      (¬ y < 128 ∧ ∃ z t'', t' = z :: t'' ∧ ((z < 128 ∧ (x - 128 + 128 * (y - 128) + 16384 * z ≤ most ∧ z ≠ 0) ∧ hdB most (x :: t) = some (some (3, (x - 128 + 128 * (y - 128) + 16384 * z).toNat))) ∨ (z < 128 ∧ ¬ (x - 128 + 128 * (y - 128) + 16384 * z ≤ most ∧ z ≠ 0) ∧ hdB most (x :: t) = none) ∨ (¬ z < 128 ∧ hdB most (x :: t) = none))))) := by
  by_cases h1 : x < 128
  · by_cases h2 : x ≤ most
    · exact .inl ⟨h1, h2, by simp only [hdB]; rw [if_pos h1, if_pos h2]⟩
    · exact .inr (.inl ⟨h1, h2, by simp only [hdB]; rw [if_pos h1, if_neg h2]⟩)
  · refine .inr (.inr ?_)
    match t with
    | [] => exact .inl ⟨h1, rfl, by simp only [hdB]; rw [if_neg h1]⟩
    | y :: t' =>
      refine .inr ⟨h1, y, t', rfl, ?_⟩
      by_cases h2 : y < 128
      · by_cases h3 : x - 128 + 128 * y ≤ most ∧ y ≠ 0
        · exact .inl ⟨h2, h3, by simp only [hdB]; rw [if_neg h1, if_pos h2, if_pos h3]⟩
        · exact .inr (.inl ⟨h2, h3, by simp only [hdB]; rw [if_neg h1, if_pos h2, if_neg h3]⟩)
      · refine .inr (.inr ?_)
        match t' with
        | [] => exact .inl ⟨h2, rfl, by simp only [hdB]; rw [if_neg h1, if_neg h2]⟩
        | z :: t'' =>
          refine .inr ⟨h2, z, t'', rfl, ?_⟩
          by_cases h3 : z < 128
          · by_cases h4 : x - 128 + 128 * (y - 128) + 16384 * z ≤ most ∧ z ≠ 0
            · exact .inl ⟨h3, h4, by simp only [hdB]; rw [if_neg h1, if_neg h2, if_pos h3, if_pos h4]⟩
            · exact .inr (.inl ⟨h3, h4, by simp only [hdB]; rw [if_neg h1, if_neg h2, if_pos h3, if_neg h4]⟩)
          · exact .inr (.inr ⟨h3, by simp only [hdB]; rw [if_neg h1, if_neg h2, if_neg h3]⟩)
/-- More bytes, a greater most: what was whole stays so; what was dead by the form stays so. -/
theorem hd_grow {most : Int} {a : List Int} (b : List Int) {o : Option (Option (Nat × Nat))} (h : hdB most a = o) (ho : o ≠ some none) : hdB most (a ++ b) = o := by
  subst h
  match a with
  | [] => exact absurd rfl ho
  | x :: t =>
    rcases hd_one most x t with ⟨h1, h2, e⟩ | ⟨h1, h2, e⟩ | ⟨h1, rfl, e⟩ | ⟨h1, y, t', rfl, h⟩
    · rw [e]; simp only [List.cons_append, hdB]; rw [if_pos h1, if_pos h2]
    · rw [e]; simp only [List.cons_append, hdB]; rw [if_pos h1, if_neg h2]
    · exact absurd e ho
    · rcases h with ⟨h2, h3, e⟩ | ⟨h2, h3, e⟩ | ⟨h2, rfl, e⟩ | ⟨h2, z, t'', rfl, h⟩
      · rw [e]; simp only [List.cons_append, hdB]; rw [if_neg h1, if_pos h2, if_pos h3]
      · rw [e]; simp only [List.cons_append, hdB]; rw [if_neg h1, if_pos h2, if_neg h3]
      · exact absurd e ho
      · rcases h with ⟨h3, h4, e⟩ | ⟨h3, h4, e⟩ | ⟨h3, e⟩
        · rw [e]; simp only [List.cons_append, hdB]; rw [if_neg h1, if_neg h2, if_pos h3, if_pos h4]
        · rw [e]; simp only [List.cons_append, hdB]; rw [if_neg h1, if_neg h2, if_pos h3, if_neg h4]
        · rw [e]; simp only [List.cons_append, hdB]; rw [if_neg h1, if_neg h2, if_neg h3]
theorem hd_none_app {most : Int} {a : List Int} (b : List Int) (h : hdB most a = none) : hdB most (a ++ b) = none := hd_grow b h (by simp)
theorem hd_some_app {most : Int} {a : List Int} (b : List Int) {p : Nat × Nat} (h : hdB most a = some (some p)) : hdB most (a ++ b) = some (some p) := hd_grow b h (by simp)
theorem hd_short {most : Int} {a : List Int} (h : hdB most a = some none) : a.length ≤ 2 := by
  match a with
  | [] => simp
  | x :: t =>
    rcases hd_one most x t with ⟨_, _, e⟩ | ⟨_, _, e⟩ | ⟨_, rfl, e⟩ | ⟨_, y, t', rfl, h'⟩
    · rw [e] at h; simp at h
    · rw [e] at h; simp at h
    · simp
    · rcases h' with ⟨_, _, e⟩ | ⟨_, _, e⟩ | ⟨_, rfl, e⟩ | ⟨_, z, t'', rfl, h'⟩
      · rw [e] at h; simp at h
      · rw [e] at h; simp at h
      · simp
      · rcases h' with ⟨_, _, e⟩ | ⟨_, _, e⟩ | ⟨_, e⟩ <;> (rw [e] at h; simp at h)
theorem hd_more {most most' : Int} (hm : most ≤ most') {a : List Int} {o : Option (Nat × Nat)} (h : hdB most a = some o) : hdB most' a = some o := by
  match a with
  | [] => exact h
  | x :: t =>
    rcases hd_one most x t with ⟨h1, h2, e⟩ | ⟨_, _, e⟩ | ⟨h1, rfl, e⟩ | ⟨h1, y, t', rfl, h'⟩
    · rw [← h, e]; simp only [hdB]; rw [if_pos h1, if_pos (by omega)]
    · rw [e] at h; simp at h
    · rw [← h, e]; simp only [hdB]; rw [if_neg h1]
    · rcases h' with ⟨h2, h3, e⟩ | ⟨_, _, e⟩ | ⟨h2, rfl, e⟩ | ⟨h2, z, t'', rfl, h'⟩
      · rw [← h, e]; simp only [hdB]; rw [if_neg h1, if_pos h2, if_pos (by omega)]
      · rw [e] at h; simp at h
      · rw [← h, e]; simp only [hdB]; rw [if_neg h1, if_neg h2]
      · rcases h' with ⟨h3, h4, e⟩ | ⟨_, _, e⟩ | ⟨_, e⟩
        · rw [← h, e]; simp only [hdB]; rw [if_neg h1, if_neg h2, if_pos h3, if_pos (by omega)]
        · rw [e] at h; simp at h
        · rw [e] at h; simp at h
theorem hd_is {most : Int} {a : List Int} {k n : Nat} (hb : Byt a) (h : hdB most a = some (some (k, n))) : 1 ≤ k ∧ k ≤ 3 ∧ k ≤ a.length ∧ (n : Int) ≤ most ∧ a.take k = lenB n := by
  match a with
  | [] => simp [hdB] at h
  | x :: t =>
    have hx := hb x (by simp)
    rcases hd_one most x t with ⟨h1, h2, e⟩ | ⟨_, _, e⟩ | ⟨h1, rfl, e⟩ | ⟨h1, y, t', rfl, h'⟩
    · rw [e] at h
      simp only [Option.some.injEq, Prod.mk.injEq] at h
      obtain ⟨rfl, rfl⟩ := h
      refine ⟨by omega, by omega, by simp, by omega, ?_⟩
      unfold lenB
      rw [if_pos (by omega), show ((x.toNat : Nat) : Int) = x by omega]
      rfl
    · rw [e] at h; simp at h
    · rw [e] at h; simp at h
    · have hy := hb y (by simp)
      rcases h' with ⟨h2, h3, e⟩ | ⟨_, _, e⟩ | ⟨h2, rfl, e⟩ | ⟨h2, z, t'', rfl, h'⟩
      · rw [e] at h
        simp only [Option.some.injEq, Prod.mk.injEq] at h
        obtain ⟨rfl, rfl⟩ := h
        refine ⟨by omega, by omega, by simp, by omega, ?_⟩
        unfold lenB
        rw [if_neg (by omega), if_pos (by omega), show (((x - 128 + 128 * y).toNat % 128 + 128 : Nat) : Int) = x by omega, show (((x - 128 + 128 * y).toNat / 128 : Nat) : Int) = y by omega]
        rfl
      · rw [e] at h; simp at h
      · rw [e] at h; simp at h
      · have hz := hb z (by simp)
        rcases h' with ⟨h3, h4, e⟩ | ⟨_, _, e⟩ | ⟨_, e⟩
        · rw [e] at h
          simp only [Option.some.injEq, Prod.mk.injEq] at h
          obtain ⟨rfl, rfl⟩ := h
          refine ⟨by omega, by omega, by simp, by omega, ?_⟩
          unfold lenB
          rw [if_neg (by omega), if_neg (by omega), show (((x - 128 + 128 * (y - 128) + 16384 * z).toNat % 128 + 128 : Nat) : Int) = x by omega,
            show (((x - 128 + 128 * (y - 128) + 16384 * z).toNat / 128 % 128 + 128 : Nat) : Int) = y by omega, show (((x - 128 + 128 * (y - 128) + 16384 * z).toNat / 128 / 128 : Nat) : Int) = z by omega]
          rfl
        · rw [e] at h; simp at h
        · rw [e] at h; simp at h
theorem len_byt {n : Nat} (h : n < 2097152) : Byt (lenB n) := by
  intro z hz
  unfold lenB at hz
  split at hz
  · simp at hz; omega
  · split at hz
    · simp at hz; omega
    · simp at hz; omega
theorem len_len (n : Nat) : 1 ≤ (lenB n).length ∧ (lenB n).length ≤ 3 := by
  unfold lenB
  split
  · simp
  · split <;> simp
theorem hd_len {most : Int} {n : Nat} (hn : (n : Int) ≤ most) (h : n < 2097152) (b : List Int) : hdB most (lenB n ++ b) = some (some ((lenB n).length, n)) := by
  unfold lenB
  by_cases h1 : n < 128
  · rw [if_pos h1]
    simp only [List.cons_append, List.nil_append, hdB]
    rw [if_pos (by omega), if_pos hn]
    simp
  · rw [if_neg h1]
    by_cases h2 : n < 16384
    · rw [if_pos h2]
      simp only [List.cons_append, List.nil_append, hdB]
      rw [if_neg (by omega), if_pos (by omega), if_pos (by omega)]
      have e : (((n % 128 + 128 : Nat) : Int) - 128 + 128 * ((n / 128 : Nat) : Int)).toNat = n := by omega
      rw [e]
      rfl
    · rw [if_neg h2]
      simp only [List.cons_append, List.nil_append, hdB]
      rw [if_neg (by omega), if_neg (by omega), if_pos (by omega), if_pos (by omega)]
      have e : (((n % 128 + 128 : Nat) : Int) - 128 + 128 * (((n / 128 % 128 + 128 : Nat) : Int) - 128) + 16384 * ((n / 128 / 128 : Nat) : Int)).toNat = n := by omega
      rw [e]
      rfl

/-- What bytes say: the messages that are whole; what stands behind them, or none: a length that may not be. -/
def sayB (most : Int) (b : List Int) : List (List Int) × Option (List Int) :=
  match hdB most b with
  | none => ([], none)
  | some none => ([], some b)
  | some (some (k, n)) =>
    if _h : b.length < k + n ∨ k = 0 ∨ b.length < k then ([], some b)
    else
      have : (b.drop (k + n)).length < b.length := by rw [List.length_drop]; omega
      ((b.drop k).take n :: (sayB most (b.drop (k + n))).1, (sayB most (b.drop (k + n))).2)
termination_by b.length

theorem say_no {most : Int} {b : List Int} (h : hdB most b = none) : sayB most b = ([], none) := by
  rw [sayB, h]
theorem say_few {most : Int} {b : List Int} (h : hdB most b = some none) : sayB most b = ([], some b) := by
  rw [sayB, h]
theorem say_wait {most : Int} {b : List Int} {k n : Nat} (h : hdB most b = some (some (k, n))) (hl : b.length < k + n) : sayB most b = ([], some b) := by
  rw [sayB, h]
  exact dif_pos (.inl hl)
theorem say_one {most : Int} {b : List Int} {k n : Nat} (hb : Byt b) (h : hdB most b = some (some (k, n))) (hl : k + n ≤ b.length) :
    sayB most b = ((b.drop k).take n :: (sayB most (b.drop (k + n))).1, (sayB most (b.drop (k + n))).2) := by
  obtain ⟨h1, _, h3, _⟩ := hd_is hb h
  rw [sayB, h]
  exact dif_neg (by omega)

/-- An induction along what bytes say. -/
theorem say_ind {most : Int} {C : List Int → Prop} (h1 : ∀ b, Byt b → hdB most b = none → C b) (h2 : ∀ b, Byt b → hdB most b = some none → C b)
    (h3 : ∀ b k n, Byt b → hdB most b = some (some (k, n)) → b.length < k + n → C b)
    (h4 : ∀ b k n, Byt b → hdB most b = some (some (k, n)) → k + n ≤ b.length → 1 ≤ k → C (b.drop (k + n)) → C b) : ∀ b, Byt b → C b := by
  have key : ∀ N b, b.length ≤ N → Byt b → C b := by
    intro N
    induction N with
    | zero =>
      intro b hN hb
      have : b = [] := List.eq_nil_of_length_eq_zero (by omega)
      subst this
      exact h2 _ hb rfl
    | succ N ih =>
      intro b hN hb
      cases hh : hdB most b with
      | none => exact h1 b hb hh
      | some o =>
        cases o with
        | none => exact h2 b hb hh
        | some p =>
          obtain ⟨k, n⟩ := p
          obtain ⟨hk, _, _, _⟩ := hd_is hb hh
          by_cases hl : b.length < k + n
          · exact h3 b k n hb hh hl
          · exact h4 b k n hb hh (by omega) hk (ih _ (by rw [List.length_drop]; omega) (hb.drop _))
  exact fun b hb => key b.length b (Nat.le_refl _) hb

/-- Bytes behind a dead end change nothing; bytes behind live ones are read with what stood behind the messages. -/
theorem say_app {most : Int} (c : List Int) (hc : Byt c) : ∀ a, Byt a →
    ((sayB most a).2 = none → sayB most (a ++ c) = ((sayB most a).1, none)) ∧
    (∀ r, (sayB most a).2 = some r → sayB most (a ++ c) = ((sayB most a).1 ++ (sayB most (r ++ c)).1, (sayB most (r ++ c)).2)) := by
  refine say_ind (most := most) ?_ ?_ ?_ ?_
  · intro b _ h
    rw [say_no h]
    exact ⟨fun _ => say_no (hd_none_app c h), fun r hr => (nomatch hr)⟩
  · intro b _ h
    rw [say_few h]
    refine ⟨fun hn => (nomatch hn), fun r hr => ?_⟩
    obtain rfl := Option.some.inj hr
    simp
  · intro b k n _ h hl
    rw [say_wait h hl]
    refine ⟨fun hn => (nomatch hn), fun r hr => ?_⟩
    obtain rfl := Option.some.inj hr
    simp
  · intro b k n hb h hl hk ih
    have hba : Byt (b ++ c) := hb.append hc
    have e1 : (b ++ c).drop (k + n) = b.drop (k + n) ++ c := List.drop_append_of_le_length hl
    have e2 : ((b ++ c).drop k).take n = (b.drop k).take n := by
      rw [List.drop_append_of_le_length (by omega), List.take_append_of_le_length (by rw [List.length_drop]; omega)]
    have e3 := say_one hba (hd_some_app c h) (by rw [List.length_append]; omega)
    rw [e1, e2] at e3
    rw [say_one hb h hl, e3]
    refine ⟨fun hn => ?_, fun r hr => ?_⟩
    · rw [ih.1 hn]
    · rw [ih.2 r hr]
      rfl
theorem say_dead {most : Int} {a c : List Int} (ha : Byt a) (hc : Byt c) (h : (sayB most a).2 = none) : sayB most (a ++ c) = ((sayB most a).1, none) := (say_app c hc a ha).1 h
theorem say_live {most : Int} {a c r : List Int} (ha : Byt a) (hc : Byt c) (h : (sayB most a).2 = some r) : sayB most (a ++ c) = ((sayB most a).1 ++ (sayB most (r ++ c)).1, (sayB most (r ++ c)).2) := (say_app c hc a ha).2 r h

/-- What the messages' bytes are: a beginning; behind them what is left; where it is dead, something. -/
theorem say_back {most : Int} : ∀ a, Byt a → ∃ r, a = (sayB most a).1.flatMap encB ++ r ∧ (∀ m ∈ (sayB most a).1, (m.length : Int) ≤ most) ∧ ((sayB most a).2 = some r ∨ (sayB most a).2 = none ∧ r ≠ []) := by
  refine say_ind (most := most) ?_ ?_ ?_ ?_
  · intro b _ h
    rw [say_no h]
    exact ⟨b, by simp, by simp, .inr ⟨rfl, fun e => by subst e; cases h⟩⟩
  · intro b _ h
    rw [say_few h]
    exact ⟨b, by simp, by simp, .inl rfl⟩
  · intro b k n _ h hl
    rw [say_wait h hl]
    exact ⟨b, by simp, by simp, .inl rfl⟩
  · intro b k n hb h hl hk ih
    obtain ⟨h1, h2, h3, h4, h5⟩ := hd_is hb h
    obtain ⟨r, e, hm, hr⟩ := ih
    rw [say_one hb h hl]
    have hlen : ((b.drop k).take n).length = n := by rw [List.length_take, List.length_drop]; omega
    refine ⟨r, ?_, ?_, hr⟩
    · rw [List.flatMap_cons, List.append_assoc, ← e]
      show b = lenB ((b.drop k).take n).length ++ (b.drop k).take n ++ b.drop (k + n)
      rw [hlen, ← h5, List.append_assoc, ← List.drop_drop, List.take_append_drop, List.take_append_drop]
    · intro m hmem
      rcases List.mem_cons.1 hmem with rfl | hmem
      · rw [hlen]; exact h4
      · exact hm m hmem
/-- The bytes of messages are read as these messages. -/
theorem say_enc {most : Int} (hM : most ≤ 1048576) : ∀ ms : List (List Int), (∀ m ∈ ms, Byt m ∧ (m.length : Int) ≤ most) → Byt (ms.flatMap encB) ∧ sayB most (ms.flatMap encB) = (ms, some [])
  | [], _ => ⟨fun z hz => by simp at hz, say_few rfl⟩
  | m :: ms, h => by
    obtain ⟨hb, he⟩ := say_enc hM ms (fun m hm => h m (List.mem_cons_of_mem _ hm))
    obtain ⟨hmb, hml⟩ := h m (List.mem_cons_self ..)
    have hlen : m.length < 2097152 := by omega
    have hall : Byt ((m :: ms).flatMap encB) := by
      rw [List.flatMap_cons]
      exact ((len_byt hlen).append hmb).append hb
    refine ⟨hall, ?_⟩
    rw [List.flatMap_cons] at hall ⊢
    have h1 : hdB most (encB m ++ ms.flatMap encB) = some (some ((lenB m.length).length, m.length)) := by
      unfold encB
      rw [List.append_assoc]
      exact hd_len hml hlen _
    have hel : (encB m).length = (lenB m.length).length + m.length := by unfold encB; rw [List.length_append]
    have hone := say_one hall h1 (by rw [List.length_append, hel]; omega)
    have e1 : (encB m ++ ms.flatMap encB).drop ((lenB m.length).length + m.length) = ms.flatMap encB := by
      rw [← hel]
      exact List.drop_left
    have e2 : ((encB m ++ ms.flatMap encB).drop (lenB m.length).length).take m.length = m := by
      unfold encB
      rw [List.append_assoc, List.drop_left, List.take_left]
    rw [e1, e2, he] at hone
    exact hone
/-- What is left is bounded. -/
theorem say_rest {most : Int} (hM : 0 ≤ most) : ∀ a, Byt a → ∀ r, (sayB most a).2 = some r → (r.length : Int) ≤ most + 2 := by
  refine say_ind (most := most) ?_ ?_ ?_ ?_
  · intro b _ h r hr
    rw [say_no h] at hr
    cases hr
  · intro b _ h r hr
    rw [say_few h] at hr
    obtain rfl := Option.some.inj hr
    have := hd_short h
    omega
  · intro b k n hb h hl r hr
    rw [say_wait h hl] at hr
    obtain rfl := Option.some.inj hr
    obtain ⟨h1, h2, h3, h4, h5⟩ := hd_is hb h
    omega
  · intro b k n hb h hl hk ih r hr
    rw [say_one hb h hl] at hr
    exact ih r hr
/-- A greater most gives the same messages, and perhaps more behind them. -/
theorem say_most {most most' : Int} (hm : most ≤ most') : ∀ a, Byt a → ∃ t, (sayB most' a).1 = (sayB most a).1 ++ t := by
  refine say_ind (most := most) ?_ ?_ ?_ ?_
  · intro b _ h
    rw [say_no h]
    exact ⟨_, rfl⟩
  · intro b _ h
    rw [say_few h]
    exact ⟨_, rfl⟩
  · intro b k n _ h hl
    rw [say_wait h hl]
    exact ⟨_, rfl⟩
  · intro b k n hb h hl hk ih
    obtain ⟨t, e⟩ := ih
    rw [say_one hb h hl, say_one hb (hd_more hm h) hl, e]
    exact ⟨t, rfl⟩
/-- What is left says nothing more. -/
theorem say_idem {most : Int} : ∀ a, Byt a → ∀ r, (sayB most a).2 = some r → sayB most r = ([], some r) ∧ Byt r := by
  refine say_ind (most := most) ?_ ?_ ?_ ?_
  · intro b _ h r hr
    rw [say_no h] at hr
    cases hr
  · intro b hb h r hr
    rw [say_few h] at hr
    obtain rfl := Option.some.inj hr
    exact ⟨say_few h, hb⟩
  · intro b k n hb h hl r hr
    rw [say_wait h hl] at hr
    obtain rfl := Option.some.inj hr
    exact ⟨say_wait h hl, hb⟩
  · intro b k n hb h hl hk ih r hr
    rw [say_one hb h hl] at hr
    exact ih r hr
theorem say_byt {most : Int} : ∀ a, Byt a → ∀ m ∈ (sayB most a).1, Byt m := by
  refine say_ind (most := most) ?_ ?_ ?_ ?_
  · intro b _ h m hm
    rw [say_no h] at hm
    simp at hm
  · intro b _ h m hm
    rw [say_few h] at hm
    simp at hm
  · intro b k n _ h hl m hm
    rw [say_wait h hl] at hm
    simp at hm
  · intro b k n hb h hl hk ih m hm
    rw [say_one hb h hl] at hm
    rcases List.mem_cons.1 hm with rfl | hm
    · exact (hb.drop k).take n
    · exact ih m hm

/-- A reader: none: dead; else what it holds. A Feed. -/
def fdS (most : Int) (s : Option (List Int)) (b : List Int) : Option (List Int) := s.elim none fun H => (sayB most (H ++ b)).2
def fdM (most : Int) (s : Option (List Int)) (b : List Int) : List (List Int) := s.elim [] fun H => (sayB most (H ++ b)).1
def fdC (most : Int) (s : Option (List Int)) (b : List Int) : Nat := s.elim 34 fun H => (sayB most (H ++ b)).2.elim 15 fun _ => 0
def hldS (s : Option (List Int)) : Nat := s.elim 0 List.length
def dnC (s : Option (List Int)) : Nat := s.elim 34 fun H => if 0 < H.length then 3 else 0
theorem fdC_le (most : Int) (s : Option (List Int)) (b : List Int) : fdC most s b ≤ 42 := by
  unfold fdC
  cases s with
  | none => simp
  | some H =>
    simp only [Option.elim]
    cases (sayB most (H ++ b)).2 <;> simp
theorem dnC_le (s : Option (List Int)) : dnC s ≤ 42 := by
  unfold dnC
  cases s with
  | none => simp
  | some H =>
    simp only [Option.elim]
    split <;> omega

/-- A reader that was fed F in all: its state. -/
def stS (most : Int) (F : List Int) : Option (List Int) := (sayB most F).2
theorem stS_nil (most : Int) : stS most [] = some [] := by unfold stS; rw [say_few rfl]
/-- A Feed against all that was fed. -/
theorem fd_live {most : Int} {F b H : List Int} (hF : Byt F) (hb : Byt b) (h : stS most F = some H) :
    fdS most (some H) b = stS most (F ++ b) ∧ (sayB most (F ++ b)).1 = (sayB most F).1 ++ fdM most (some H) b ∧ fdC most (some H) b = (if (stS most (F ++ b)).isSome then 0 else 15) := by
  have := say_live hF hb (r := H) h
  refine ⟨?_, ?_, ?_⟩
  · unfold fdS stS
    rw [this]
    rfl
  · rw [this]
    rfl
  · unfold fdC stS
    rw [this]
    simp only [Option.elim]
    cases (sayB most (H ++ b)).2 <;> rfl
theorem fd_dead {most : Int} {F b : List Int} (hF : Byt F) (hb : Byt b) (h : stS most F = none) :
    stS most (F ++ b) = none ∧ (sayB most (F ++ b)).1 = (sayB most F).1 := by
  have := say_dead hF hb h
  unfold stS
  rw [this]
  exact ⟨rfl, rfl⟩
end Go.Proofs.YthalmjjbamglgaaDoor
