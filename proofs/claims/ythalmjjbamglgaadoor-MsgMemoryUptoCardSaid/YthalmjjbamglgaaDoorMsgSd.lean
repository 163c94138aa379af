/-
  culvertref27.Same by a contract that tells the world behind it: nothing but draws.
  No condition of its own.
-/
import Derived.Test.YthalmjjbamglgaaDoorMsg5
namespace Go.Proofs.YthalmjjbamglgaaDoor
open Go.RowKit
set_option maxHeartbeats 1000000 in
theorem msame_dr (w : World) {lo lo' : Nat} {u v : Value} {us vs : List Value} {ms ns : List (List Int)} (hu : Lst w lo u us ms) (hv : Lst w lo' v vs ns) (hl : us.length ≤ 1099511627776) :
    Calls Tryd.prog 36 #[u, v] w fun e w' => e = .returned (.bool (decide (ms = ns))) ∧ ∃ q, w' = w.drewN q := by
  obtain ⟨A, c, rfl, hnc, hr⟩ := hu.form
  obtain ⟨B, d, rfl, hmd, hs⟩ := hv.form
  have hu' := Lib.hid hu
  have hv' := Lib.hid hv
  by_cases hne : us.length = vs.length
  · have HR := Lib.hid hr
    have HS := Lib.hid hs
    have HNE := Lib.hid hne
    clear hr hs hu hv
    have hne0 : ((us.length : Int) != (vs.length : Int)) = false := by rw [hne]; simp
    clear hne
    have fin : Hid (ms.take us.length = ns.take us.length → decide (ms = ns) = true) := fun h3 => by
      have e1 := hu'.out.len
      have e2 := hv'.out.len
      have h4 := HNE.out
      rw [List.take_of_length_le (by omega), List.take_of_length_le (by omega)] at h3
      exact decide_eq_true h3
    by_cases h0 : us.length = 0
    · have hd := fin.out (by rw [h0]; simp)
      rw [hd]
      rw [h0] at hne0 ⊢
      clear hnc hmd h0 hl hd
      go_enter Tryd.func36, Tryd.ntmps36
      go_wp2_with fail
      refine wp_loop_rounds 1 ?_
      rw [rounds_succ]
      go_wp2
      go_ret
      exact ⟨rfl, 0, rfl⟩
    · obtain ⟨ad, hA, hcA⟩ := HR.out (by omega)
      obtain ⟨bd, hB, hcB⟩ := HS.out (by have := HNE.out; omega)
      have hA' := Lib.hid hcA
      have hB' := Lib.hid hcB
      subst hA hB
      clear hcA hcB h0
      obtain ⟨n, hn⟩ : ∃ n, n = us.length := ⟨_, rfl⟩
      obtain ⟨n2, hn2⟩ : ∃ n, n = vs.length := ⟨_, rfl⟩
      rw [← hn, ← hn2] at hne0
      rw [← hn] at hnc hl fin ⊢
      rw [← hn2] at hmd ⊢
      have HN : Hid (n = us.length ∧ n2 = vs.length ∧ n = n2) := ⟨hn, hn2, by have := HNE.out; omega⟩
      clear hn hn2
      go_enter Tryd.func36, Tryd.ntmps36
      go_wp2
      go_loopw [5] (fun x wr => ∃ i : Nat, x = .int .i64 (i : Int) ∧ i ≤ n ∧ ms.take i = ns.take i ∧ ∃ q, w.drewN q = wr) (fun x _ => n - (intOf x).toNat)
      case atStart => exact ⟨0, rfl, Nat.zero_le _, rfl, 0, rfl⟩
      case round =>
        obtain ⟨i, rfl, hi, ht, q, rfl⟩ := hrel
        have HT := Lib.hid ht
        clear ht
        by_cases hlt : i < n
        · have hN := HN.out
          have e1 := hu'.out.len
          have e2 := hv'.out.len
          obtain ⟨x, hx⟩ : ∃ x, ms[i]? = some x := ⟨_, List.getElem?_eq_getElem (by omega)⟩
          obtain ⟨y, hy⟩ : ∃ y, ns[i]? = some y := ⟨_, List.getElem?_eq_getElem (by omega)⟩
          obtain ⟨A1, n1, c1, ex, hl1, hb1, hr1, _⟩ := hu'.out.all.get (vals_get (vs := us) (by omega)) hx
          obtain ⟨A2, n2', c2, ey, hl2, hb2, hr2, _⟩ := hv'.out.all.get (vals_get (vs := vs) (by omega)) hy
          have ca := hA'.out i (by omega)
          have cb := hB'.out i (by omega)
          rw [ex] at ca
          rw [ey] at cb
          have k1 : ∀ (Q : Nat) (dst : TypeId), Tryd.prog.underlying dst = some .string → (convert 23 dst (.slice A1 n1 c1)).run Tryd.prog (w.drewN Q) = .ok (.string (strOfNums x)) (w.drewN Q) := fun Q => run_str (P := Tryd.prog) (c := c1) 23 5 Tryd.underlying23 Tryd.underlying5 hl1 (hr1.drewN Q)
          have k2 : ∀ (Q : Nat) (dst : TypeId), Tryd.prog.underlying dst = some .string → (convert 23 dst (.slice A2 n2' c2)).run Tryd.prog (w.drewN Q) = .ok (.string (strOfNums y)) (w.drewN Q) := fun Q => run_str (P := Tryd.prog) (c := c2) 23 5 Tryd.underlying23 Tryd.underlying5 hl2 (hr2.drewN Q)
          have g1 : (0 : Int) ≤ (i : Int) := by omega
          have g2 : (i : Int) < (n : Int) := by omega
          have g3 : (i : Int) < (n2 : Int) := by omega
          have hbq := str_beq hb1 hb2
          have HX := Lib.hid hx
          have HY := Lib.hid hy
          have HI := Lib.hid hi
          clear hx hy hl1 hl2 hb1 hb2 hr1 hr2 ex ey e1 e2 hN hi
          by_cases hxy : x = y
          · have hbe : ((strOfNums x).toList == (strOfNums y).toList) = true := by rw [hbq, decide_eq_true hxy]
            have HXY := Lib.hid hxy
            clear hbq hxy
            go_wp2_with fail
            go_quiet (fail)
            go_wp2
            go_roundw
            case rel => exact ⟨i + 1, by go_num, by omega, take_succ_eq HT.out HX.out HY.out HXY.out, _, rfl⟩
            case measure => simp [intOf]; omega
          · have hbe : ((strOfNums x).toList == (strOfNums y).toList) = false := by rw [hbq, decide_eq_false hxy]
            have hmn : decide (ms = ns) = false := by
              rw [decide_eq_false_iff_not]
              intro e
              subst e
              exact hxy (Option.some.inj (HX.out.symm.trans HY.out))
            have HMN := Lib.hid hmn
            clear hbq hxy hmn
            go_wp2_with fail
            go_quiet (fail)
            go_wp2
            go_ret
            exact ⟨by rw [HMN.out]; rfl, _, World.drewN_drewN _ _ _⟩
        · have hd := fin.out (by rw [show n = i by omega]; exact HT.out)
          have HD := Lib.hid hd
          clear hd
          go_wp2
          go_ret
          exact ⟨by rw [HD.out]; rfl, _, rfl⟩
  · have hne1 : ((us.length : Int) != (vs.length : Int)) = true := by simp; omega
    have hmn : decide (ms = ns) = false := by
      rw [decide_eq_false_iff_not]
      intro e
      have e1 := hu.len
      have e2 := hv.len
      rw [e] at e1
      omega
    rw [hmn]
    clear hr hs hmn hne hu hv
    go_enter Tryd.func36, Tryd.ntmps36
    go_wp2
    go_ret
    exact ⟨rfl, 0, rfl⟩
end Go.Proofs.YthalmjjbamglgaaDoor
