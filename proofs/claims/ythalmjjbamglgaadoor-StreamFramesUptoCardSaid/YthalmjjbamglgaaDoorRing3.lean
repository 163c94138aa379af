/-
  ring.Ring[byte]: Push, Drop, Peek, Pop, Clear and New by contracts.
  No condition of its own.
-/
import Derived.Test.YthalmjjbamglgaaDoorRing2
namespace Go.Proofs.YthalmjjbamglgaaDoor
open Go.RowKit

/-- A slice of bytes that begins at its block's start, or is empty. -/
def BsO (w : World) (v : Value) (ys : List Int) : Prop := ∃ A n c, v = .slice A n c ∧ ys.length = n ∧ Byt ys ∧ n ≤ c ∧ (0 < n → ∃ g, A = some ⟨g, 0, none⟩ ∧ ∀ i, i < n → w.cell? ⟨g, i, none⟩ = (u8s ys)[i]?)
theorem BsO.of_ob {w : World} {base : Nat} {e : TypeId} {v : Value} {n : Nat} {ys : List Int} (h : Ob w base e v n (u8s ys)) (hb : Byt ys) : BsO w v ys := by
  have hl : ys.length = n := by have := h.len; rw [u8s_len] at this; exact this
  obtain ⟨A, c, rfl, hnc, _⟩ := h.slice
  refine ⟨A, n, c, rfl, hl, hb, hnc, fun h0 => ?_⟩
  obtain ⟨g, rfl⟩ := h.addr h0
  exact ⟨g, rfl, fun i hi => h.cellAt i hi⟩
theorem BsO.chg {S : Nat → Prop} {w w' : World} {v : Value} {ys : List Int} (h : BsO w v ys) (hc : Chg S w w') (hs : ∀ k, rdk v = some k → k < w.heap.size ∧ ¬ S k) : BsO w' v ys := by
  obtain ⟨A, n, c, rfl, hl, hb, hnc, h0⟩ := h
  refine ⟨A, n, c, rfl, hl, hb, hnc, fun hp => ?_⟩
  obtain ⟨g, rfl, h1⟩ := h0 hp
  refine ⟨g, rfl, fun i hi => (hc.cell (p := ⟨g, i, none⟩) ?_ ?_).trans (h1 i hi)⟩
  · exact (hs g (by simp [rdk]; omega)).1
  · exact (hs g (by simp [rdk]; omega)).2

theorem add_off (g m j : Nat) : (⟨g, m, none⟩ : Addr).add j = ⟨g, m + j, none⟩ := by unfold Addr.add; split <;> simp_all
set_option maxRecDepth 100000 in
set_option maxHeartbeats 4000000 in
theorem push_any (w : World) {S : Nat → Prop} {g cap : Nat} {xs ys : List Int} (hr : Rgo w S g cap xs) (v : Value) (hv : BsO w v ys) (hvS : ∀ k, rdk v = some k → k < w.heap.size ∧ ¬ S k) (hy : ys.length ≤ 140737488355328) :
    Calls Tryd.prog 69 #[.pointer (some ⟨g, 0, none⟩), v] w fun e w' => e = .returned (.int .i64 ((Nat.min ys.length (cap - xs.length) : Nat) : Int)) ∧ Rgo w' (fun k => S k ∨ w.heap.size ≤ k ∧ k < w'.heap.size) g cap (xs ++ ys.take (Nat.min ys.length (cap - xs.length))) ∧ Chg S w w' := by
  obtain ⟨A, n, c, rfl, hl, hby, hnc, h0⟩ := hv
  obtain ⟨k, hk⟩ : ∃ k, Nat.min ys.length (cap - xs.length) = k := ⟨_, rfl⟩
  obtain ⟨k1, k2, k3⟩ := nat_min hk.symm
  rw [hk]
  have hlen := hr.len
  have hcap := hr.cap2
  obtain ⟨m, hm⟩ : ∃ m, xs.length = m := ⟨_, rfl⟩
  rw [hm] at hlen k2 k3
  rw [hl] at k1 k3 hy
  have HR := Lib.hid hr
  have HB := Lib.hid hby
  have HL := Lib.hid hl
  have HM := Lib.hid hm
  have H0 := Lib.hid h0
  have HV := Lib.hid hvS
  obtain ⟨f, hf⟩ : ∃ f, cap - m = f := ⟨_, rfl⟩
  have HF := Lib.hid hf
  rw [hf] at k2 k3
  have hkI : (if f < n then (f : Int) else (n : Int)) = (k : Int) := by
    split <;> omega
  clear hr hby hl hm h0 hvS hk hf
  go_enter Tryd.func69, Tryd.ntmps69
  go_wp2_with fail
  refine (rfree_any w HR.out).mono ?_
  rintro e w' ⟨rfl, rfl⟩
  rw [HM.out, HF.out]
  by_cases hk0 : k = 0
  · subst hk0
    go_wp2
    go_ret
    refine ⟨rfl, ?_, Chg.refl _ _⟩
    rw [List.take_zero, List.append_nil]
    exact HR.out.sub fun k hk => .inl hk
  · have hkz : ¬ (k : Int) = 0 := by omega
    have c3 : w.cell? ⟨g, 3, none⟩ = some (.int .i64 (m : Int)) := by
      obtain ⟨buf, hd, hi, _⟩ := HR.out.is
      rw [← HM.out]
      exact hi.at_ 3 _ rfl
    obtain ⟨mk, hmk⟩ : ∃ mk, m + k = mk := ⟨_, rfl⟩
    have hmkI : (m : Int) + (k : Int) = (mk : Int) := by omega
    have HMk := Lib.hid hmk
    have hmkc : mk ≤ cap := by have := HF.out; omega
    have hmk31 : mk ≤ 2147483647 := by omega
    clear hmk
    go_wp2_with fail
    refine (lay_any w HR.out mk (by have := HM.out; have := HMk.out; omega) hmkc (by have := HMk.out; omega)).mono ?_
    rintro e w1 ⟨⟨r, rfl⟩, ⟨b, L, h, hi, hSb, hbg, hLc, hwL, cur, hc1, hc2, hh, hxL, hat⟩, hC⟩
    obtain ⟨at_, hat_⟩ : ∃ q, rot h m L = q := ⟨_, rfl⟩
    have hmL : m < L := by have := HMk.out; omega
    have hatL : at_ < L := by rw [← hat_]; exact rot_lt hh hmL
    have hrem : ((h : Int) + (m : Int)) % (L : Int) = (at_ : Int) := by
      have h1 := rot_mod hh (Nat.le_of_lt hmL)
      have h2 : (h + m) % L = at_ := by rw [h1, ← hat_]; rfl
      rw [← h2, Int.natCast_emod, Int.natCast_add]
    have d1 : ∀ Q, (w1.drewN Q).cell? ⟨g, 1, none⟩ = some (.slice (some ⟨b, 0, none⟩) L L) := fun Q => hi.at_ 1 _ rfl
    have d2 : ∀ Q, (w1.drewN Q).cell? ⟨g, 2, none⟩ = some (.int .i64 (h : Int)) := fun Q => hi.at_ 2 _ rfl
    have d3 : ∀ Q, (w1.drewN Q).cell? ⟨g, 3, none⟩ = some (.int .i64 (m : Int)) := fun Q => by rw [← HM.out]; exact hi.at_ 3 _ rfl
    have HI := Lib.hid hi
    have HC := Lib.hid hC
    have HCu := Lib.hid hc1
    have HCl := Lib.hid hc2
    have HAt := Lib.hid hat
    have HRot := Lib.hid hat_
    have HSb := Lib.hid hSb
    have HBg := Lib.hid hbg
    have HHL := Lib.hid (And.intro hh (And.intro hxL (And.intro hLc hwL)))
    have hL0 : ¬ (L : Int) = 0 := by omega
    have hL31 : L ≤ 2147483647 := by omega
    have hLat : ¬ L = at_ := by omega
    have hatI : (at_ : Int) ≤ (L : Int) := by omega
    have hh31 : h < L := hh
    clear hi hC hc1 hc2 hat hat_ hSb hbg hxL hLc hwL hh
    go_wp2_with fail
    go_quiet (fail)
    obtain ⟨gv, rfl, hsrc⟩ := H0.out (by omega)
    obtain ⟨m1, hm1⟩ : ∃ q, q = Nat.min k (L - at_) := ⟨_, rfl⟩
    obtain ⟨e1, e2, e3⟩ := nat_min hm1
    have hcn : k ≤ c := by omega
    have hknI : (k : Int) ≤ (c : Int) := by omega
    have hmk1 : (m1 : Int) ≤ (k : Int) := by omega
    have HM1 := Lib.hid hm1
    have HSrc := Lib.hid hsrc
    have hgv := HV.out gv (by simp [rdk]; omega)
    have hbS := HSb.out
    have hgvb : gv ≠ b := fun e => by
      rcases hbS with h | h
      · exact hgv.2 (by rw [e]; exact h)
      · omega
    have HSrc1 : Hid (∀ W, Chg (fun j => j = b) w1 W → ∀ i, i < n → W.cell? ⟨gv, i, none⟩ = (u8s ys)[i]?) := fun W hW i hi => by
      have hw1 : gv < w1.heap.size := by have := HC.out.size; omega
      exact (hW.cell (p := ⟨gv, i, none⟩) hw1 hgvb).trans ((HC.out.cell (p := ⟨gv, i, none⟩) hgv.1 hgv.2).trans (hsrc i hi))
    have HGv := Lib.hid hgvb
    have HP1 : Hid (∀ j v, (u8s ((ys.take k).take m1))[j]? = some v → w1.cell? ((⟨gv, 0, none⟩ : Addr).add j) = some v) := fun j v hj => by
      have hjl : j < m1 := by have := (List.getElem?_eq_some_iff.1 hj).1; rw [u8s_len, List.length_take] at this; omega
      rw [add_base, HSrc1.out w1 (Chg.refl _ _) j (by omega)]
      rw [← hj]
      unfold u8s
      rw [List.map_take, List.map_take, List.getElem?_take, if_pos hjl, List.getElem?_take, if_pos (by omega)]
    have HL1 : Hid ((u8s ((ys.take k).take m1)).length = m1) := by show _ = _; rw [u8s_len, List.length_take, List.length_take, HL.out]; omega
    have HF1 : Hid (at_ + m1 ≤ cur.length) := by show _ ≤ _; rw [HCl.out]; omega
    clear hm1 hsrc hgv hbS hgvb
    go_wp2_with fail
    go_region_law (refine step_copy_is rfl (.tmp 43) (.tmp 46) rfl (some ⟨b, at_, none⟩) (some ⟨gv, 0, none⟩) (L - at_) (L - at_) k c rfl rfl b at_ cur HCu.out m1 (u8s ((ys.take k).take m1)) HL1.out HM1.out (fun _ => ⟨rfl, _, rfl, HP1.out⟩) HF1.out (u8s_one _) ?_; intro w2 hw2 hc2)
    have HW2 := hw2
    have HC2 : Hid (Chg (fun j => j = b) w1 w2) := ((Chg.refl (fun j => j = b) w1).drewN _).trans hc2
    have HI2 : Hid (Is w2 g 168 (rgC cap (.slice (some ⟨b, 0, none⟩) L L) h xs.length)) := HI.out.chg HC2.out fun e => HBg.out e.symm
    have g1 : w2.cell? ⟨g, 1, none⟩ = some (.slice (some ⟨b, 0, none⟩) L L) := HI2.out.at_ 1 _ rfl
    have HP2 : Hid (∀ j v, (u8s ((ys.take k).drop m1))[j]? = some v → w2.cell? (⟨gv, m1 + j, none⟩ : Addr) = some v) := fun j v hj => by
      have hjl : j < k - m1 := by have := (List.getElem?_eq_some_iff.1 hj).1; rw [u8s_len, List.length_drop, List.length_take] at this; omega
      rw [HSrc1.out w2 HC2.out (m1 + j) (by omega)]
      rw [← hj]
      unfold u8s
      rw [List.map_drop, List.map_take, List.getElem?_drop, List.getElem?_take, if_pos (by omega)]
    have HL2 : Hid ((u8s ((ys.take k).drop m1)).length = k - m1) := by show _ = _; rw [u8s_len, List.length_drop, List.length_take, HL.out]; omega
    have HLs : Hid ((splice cur at_ (u8s ((ys.take k).take m1))).length = L) := by show _ = _; rw [length_splice _ _ _ (by rw [HL1.out]; exact HF1.out), HCl.out]
    have hmn2 : k - m1 = Nat.min (k - m1) L := by
      have : Nat.min (k - m1) L = min (k - m1) L := rfl
      have := HHL.out; have := HMk.out; omega
    have HMn := Lib.hid hmn2
    have HF2 : Hid (0 + (k - m1) ≤ (splice cur at_ (u8s ((ys.take k).take m1))).length) := by show _ ≤ _; rw [HLs.out]; have := HHL.out; have := HMk.out; omega
    have HEnd : Hid (∀ w3, Is w3 b 5 (splice (splice cur at_ (u8s ((ys.take k).take m1))) 0 (u8s ((ys.take k).drop m1))).toArray → Rgb w3 b L h (xs ++ ys.take k)) := fun w3 h3 => by
      have hh := HHL.out
      have hm := HM.out
      have hmkk := HMk.out
      refine Rgb.push HCl.out hh.1 HAt.out (by rw [List.length_take, HL.out]; omega) (m := at_) (by rw [hm]; exact HRot.out) (k1 := m1) ?_ (by omega) ?_
      · rw [List.length_take, HL.out, Nat.min_eq_left k1]; exact HM1.out
      · exact h3
    clear hc2 hw2 hmn2
    by_cases hcm : c = m1
    · obtain rfl : k = m1 := by omega
      subst hcm
      go_wp2_with fail
      go_region_law (refine step_copy_is rfl (.tmp 51) (.tmp 55) rfl (some ⟨b, 0, none⟩) (some ⟨gv, 0, none⟩) L L 0 0 rfl rfl b 0 (splice cur at_ (u8s ((ys.take c).take c))) HW2.out 0 [] rfl (by simp) (fun h => absurd h (by omega)) (by simp) (by simp) ?_; intro w3 hw3 hc3)
      have HC3 : Hid (Chg (fun j => j = b) w2 w3) := ((Chg.refl (fun j => j = b) w2).drew).trans hc3
      have HG3 : Hid (Rgb w3 b L h (xs ++ ys.take c)) := HEnd.out w3 (by
        have e : (ys.take c).drop c = [] := List.drop_eq_nil_of_le (by rw [List.length_take]; omega)
        rw [e]
        exact hw3.out)
      have hI3 : Is w3 g 168 (rgC cap (.slice (some ⟨b, 0, none⟩) L L) h xs.length) := HI2.out.chg HC3.out fun e => HBg.out e.symm
      have HI3 := Lib.hid hI3
      have j3 : w3.cell? ⟨g, 3, none⟩ = some (.int .i64 (m : Int)) := by rw [← HM.out]; exact hI3.at_ 3 _ rfl
      have q3 : w3.frozen? ⟨g, 3, none⟩ = false := hI3.frozen 3
      clear hw3 hc3 hI3
      go_wp2
      go_ret
      refine ⟨rfl, ?_, ?_⟩
      · refine ⟨HR.out.byt.append (HB.out.take _), by rw [List.length_append, List.length_take]; have := HM.out; have := HL.out; have := HMk.out; omega, hcap, .inl HR.out.sg, .slice (some ⟨b, 0, none⟩) L L, h, ?_, .inr ⟨by rw [List.length_append, List.length_take]; have := HL.out; omega, b, L, rfl, ?_, HBg.out, HHL.out.2.2.1, HG3.out.chg ((Chg.refl (fun j => j = g) w3).setCell (p := ⟨g, 3, none⟩) (fun _ => rfl) _) HBg.out⟩⟩
        · have h := HI3.out.put 3 (.int .i64 (mk : Int))
          have e : (xs ++ ys.take c).length = mk := by rw [List.length_append, List.length_take]; have := HM.out; have := HL.out; have := HMk.out; omega
          rw [e]
          exact h
        · rcases HSb.out with h | h
          · exact .inl h
          · refine .inr ⟨h.1, ?_⟩
            have := HC2.out.size; have := HC3.out.size
            simp
            omega
      · exact ((HC.out.then HC2.out fun k hk e => by rw [e]; rcases HSb.out with h | h; exact h; rw [e] at hk; omega).then HC3.out fun k hk e => by rw [e]; rcases HSb.out with h | h; exact h; rw [e] at hk; omega).setCell (p := ⟨g, 3, none⟩) (fun _ => HR.out.sg) _
    · have hcm2 : ¬ c = m1 := hcm
      go_wp2_with fail
      go_region_law (refine step_copy_is rfl (.tmp 51) (.tmp 55) rfl (some ⟨b, 0, none⟩) (some ⟨gv, m1, none⟩) L L (k - m1) (c - m1) rfl rfl b 0 (splice cur at_ (u8s ((ys.take k).take m1))) HW2.out (k - m1) (u8s ((ys.take k).drop m1)) HL2.out HMn.out (fun _ => ⟨rfl, _, rfl, fun j v hj => (by rw [add_off]; exact HP2.out j v hj)⟩) HF2.out (u8s_one _) ?_; intro w3 hw3 hc3)
      have HC3 : Hid (Chg (fun j => j = b) w2 w3) := ((Chg.refl (fun j => j = b) w2).drew).trans hc3
      have HG3 : Hid (Rgb w3 b L h (xs ++ ys.take k)) := HEnd.out w3 hw3.out
      have hI3 : Is w3 g 168 (rgC cap (.slice (some ⟨b, 0, none⟩) L L) h xs.length) := HI2.out.chg HC3.out fun e => HBg.out e.symm
      have HI3 := Lib.hid hI3
      have j3 : w3.cell? ⟨g, 3, none⟩ = some (.int .i64 (m : Int)) := by rw [← HM.out]; exact hI3.at_ 3 _ rfl
      have q3 : w3.frozen? ⟨g, 3, none⟩ = false := hI3.frozen 3
      clear hw3 hc3 hI3
      go_wp2
      go_ret
      refine ⟨rfl, ?_, ?_⟩
      · refine ⟨HR.out.byt.append (HB.out.take _), by rw [List.length_append, List.length_take]; have := HM.out; have := HL.out; have := HMk.out; omega, hcap, .inl HR.out.sg, .slice (some ⟨b, 0, none⟩) L L, h, ?_, .inr ⟨by rw [List.length_append, List.length_take]; have := HL.out; omega, b, L, rfl, ?_, HBg.out, HHL.out.2.2.1, HG3.out.chg ((Chg.refl (fun j => j = g) w3).setCell (p := ⟨g, 3, none⟩) (fun _ => rfl) _) HBg.out⟩⟩
        · have h := HI3.out.put 3 (.int .i64 (mk : Int))
          have e : (xs ++ ys.take k).length = mk := by rw [List.length_append, List.length_take]; have := HM.out; have := HL.out; have := HMk.out; omega
          rw [e]
          exact h
        · rcases HSb.out with h | h
          · exact .inl h
          · refine .inr ⟨h.1, ?_⟩
            have := HC2.out.size; have := HC3.out.size
            simp
            omega
      · exact ((HC.out.then HC2.out fun k hk e => by rw [e]; rcases HSb.out with h | h; exact h; rw [e] at hk; omega).then HC3.out fun k hk e => by rw [e]; rcases HSb.out with h | h; exact h; rw [e] at hk; omega).setCell (p := ⟨g, 3, none⟩) (fun _ => HR.out.sg) _
end Go.Proofs.YthalmjjbamglgaaDoor
