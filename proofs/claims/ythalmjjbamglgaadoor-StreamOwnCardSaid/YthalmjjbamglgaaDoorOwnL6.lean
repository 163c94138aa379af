/-
  The walk of StreamOwn.
  No condition of its own: the facts 'Sen6' and 'Tab' on the world; sizes within the reach.
-/
import Derived.Test.YthalmjjbamglgaaDoorNumA46
namespace Go.Proofs.YthalmjjbamglgaaDoor
open Go.RowKit

theorem ob_bso {w : World} {base : Nat} {A : Option Addr} {n m c : Nat} {xs ys : List Int} (h : Ob w base 5 (.slice A n c) n (u8s xs)) (hm : m ≤ n) (hy : xs.take m = ys) (hb : Byt ys) : BsO w (.slice A m c) ys := by
  have h1 := h.front hm
  have e : (u8s xs).take m = u8s ys := by unfold u8s; rw [← List.map_take, hy]
  rw [e] at h1
  exact BsO.of_ob h1 hb
theorem srS_un (s : Sm) (nn : Nat) : (srS s nn).un = s.un.drop (Nat.min nn s.un.length) ∧ (srS s nn).rs = s.rs := by
  unfold srS
  by_cases h : s.un = []
  · rw [if_pos h]
    cases s.li with
    | true => rw [if_pos rfl]; exact ⟨by rw [h]; simp, rfl⟩
    | false => rw [if_neg (by decide)]; exact ⟨by rw [h]; simp, rfl⟩
  · rw [if_neg h]
    exact ⟨rfl, rfl⟩
theorem own_A {ys : List Int} {d : Nat} (hl : ys.length = d) (hd : d ≤ 400) : fxK (wrS (wrS (Sm.new 7 true 1000 1000 1000) ys) ys) = d + d ∧ (wrS (wrS (Sm.new 7 true 1000 1000 1000) ys) ys).sg = ys ++ ys := by
  have e1 : wrN (Sm.new 7 true 1000 1000 1000) ys = d := by
    have h1 : Nat.min ys.length (1000 - 0) = min ys.length (1000 - 0) := rfl
    show Nat.min ys.length (1000 - 0) = d
    omega
  have s1 : wrS (Sm.new 7 true 1000 1000 1000) ys = { Sm.new 7 true 1000 1000 1000 with sg := ys } := by
    unfold wrS
    rw [e1, ← hl, List.take_length]
    rfl
  have e2 : wrN { Sm.new 7 true 1000 1000 1000 with sg := ys } ys = d := by
    have h1 : Nat.min ys.length (1000 - ys.length) = min ys.length (1000 - ys.length) := rfl
    show Nat.min ys.length (1000 - ys.length) = d
    omega
  have s2 : wrS { Sm.new 7 true 1000 1000 1000 with sg := ys } ys = { Sm.new 7 true 1000 1000 1000 with sg := ys ++ ys } := by
    unfold wrS
    rw [e2, ← hl, List.take_length]
  rw [s1, s2]
  refine ⟨?_, rfl⟩
  have hk : frK { Sm.new 7 true 1000 1000 1000 with sg := ys ++ ys } = d + d := by
    have h1 : Nat.min (Nat.min 1000 1000) (ys ++ ys).length = min (min 1000 1000) (ys ++ ys).length := rfl
    show Nat.min (Nat.min 1000 1000) (ys ++ ys).length = d + d
    rw [h1, List.length_append]
    omega
  by_cases h0 : ys = []
  · have hr : rdyB { Sm.new 7 true 1000 1000 1000 with sg := ys ++ ys } = false := by rw [h0]; decide
    unfold fxK
    rw [hr, if_neg (by decide)]
    rw [h0] at hl
    simp at hl
    omega
  · have hr : rdyB { Sm.new 7 true 1000 1000 1000 with sg := ys ++ ys } = true := by
      have h1 : ¬ (ys ++ ys = []) := fun e => h0 (List.append_eq_nil_iff.1 e).1
      show (if ys ++ ys = [] then false else decide ((0 : Int) < 1000)) = true
      rw [if_neg h1]
      decide
    unfold fxK
    rw [hr, if_pos rfl, hk]
theorem own_B {ys : List Int} {d : Nat} (hl : ys.length = d) (hd : d ≤ 400) : (avS (avS (Sm.new 7 false 1000 1000 1000) ys false) ys false).un = ys ++ ys ∧ (avS (avS (Sm.new 7 false 1000 1000 1000) ys false) ys false).rs = false := by
  have s1 : avS (Sm.new 7 false 1000 1000 1000) ys false = { Sm.new 7 false 1000 1000 1000 with un := ys, gr := { Gr.new 1000 with l := 1000 - ys.length, u := 0 + ys.length }, li := false } := by
    unfold avS
    rw [if_neg (by decide), if_neg (by show ¬ (1000 : Int) < _; omega)]
    rfl
  rw [s1]
  have h2 : ¬ ((1000 : Int) - ys.length < ys.length) := by omega
  simp [avS, Sm.new, Gr.new, h2]
theorem bs_first {w : World} {A : Option Addr} {n c : Nat} {xs : List Int} (h : Bs w (.slice A n c) xs) {m : Nat} (hm : m ≤ n) : Bs w (.slice A m c) (xs.take m) := by
  obtain ⟨_, _, _, e, hl, hb, hr, hc⟩ := h
  cases e
  refine ⟨_, _, _, rfl, by rw [List.length_take]; omega, hb.take m, fun hp => ?_, by omega⟩
  obtain ⟨ad, e, hh⟩ := hr (by omega)
  refine ⟨ad, e, fun i hi => ?_⟩
  rw [hh i (by omega)]
  show some (Value.int .u8 (xs.getD i 0)) = some (Value.int .u8 ((xs.take m).getD i 0))
  rw [List.getD_eq_getElem?_getD, List.getD_eq_getElem?_getD, List.getElem?_take, if_pos hi]
end Go.Proofs.YthalmjjbamglgaaDoor
