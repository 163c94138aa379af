/-
  ring.Ring[byte]: Drop, Peek, Pop, Clear and New by contracts.
  No condition of its own.
-/
import Derived.Test.YthalmjjbamglgaaDoorRing3
namespace Go.Proofs.YthalmjjbamglgaaDoor
open Go.RowKit

theorem rnewb_any (w : World) (cap : Nat) (h : cap ≤ 2147483647) :
    Calls Tryd.prog 85 #[.int .i64 (cap : Int)] w fun e w' => ∃ g, e = .returned (.tuple #[.pointer (some ⟨g, 0, none⟩), .nilIface]) ∧ w.heap.size ≤ g ∧ Rgo w' (fun k => k = g) g cap [] ∧ Chg none_ w w' := by
  have hI : (cap : Int) ≤ 2147483647 := by omega
  go_enter Tryd.func85, Tryd.ntmps85
  go_wp2
  go_ret2
  refine ⟨w.heap.size, rfl, Nat.le_refl _, ⟨(fun z hz => by simp at hz), Nat.zero_le _, h, rfl, .slice none 0 0, 0, Is.new w _ _, .inl ⟨rfl, rfl, rfl⟩⟩, (Chg.refl none_ w).alloc _⟩

set_option maxRecDepth 100000 in
set_option maxHeartbeats 4000000 in
theorem drop_any (w : World) {S : Nat → Prop} {g cap : Nat} {xs : List Int} (hr : Rgo w S g cap xs) (nn : Nat) :
    Calls Tryd.prog 104 #[.pointer (some ⟨g, 0, none⟩), .int .i64 (nn : Int)] w fun e w' => e = .returned (.int .i64 ((Nat.min nn xs.length : Nat) : Int)) ∧ Rgo w' S g cap (xs.drop (Nat.min nn xs.length)) ∧ Chg S w w' := by
  obtain ⟨k, hk⟩ : ∃ k, Nat.min nn xs.length = k := ⟨_, rfl⟩
  obtain ⟨k1, k2, k3⟩ := nat_min hk.symm
  rw [hk]
  obtain ⟨m, hm⟩ : ∃ m, xs.length = m := ⟨_, rfl⟩
  have hlen := hr.len
  have hcap := hr.cap2
  rw [hm] at k2 k3 hlen
  have hkI : (if m < nn then (m : Int) else (nn : Int)) = (k : Int) := by split <;> omega
  have HR := Lib.hid hr
  have HM := Lib.hid hm
  have hn0 : ¬ (nn : Int) < 0 := by omega
  clear hr hk hm
  go_enter Tryd.func104, Tryd.ntmps104
  go_wp2_with fail
  refine (rlen_any w HR.out).mono ?_
  rintro e w' ⟨rfl, rfl⟩
  rw [HM.out]
  by_cases hk0 : k = 0
  · subst hk0
    go_wp2
    go_ret
    exact ⟨rfl, by rw [List.drop_zero]; exact HR.out, Chg.refl _ _⟩
  · have hkz : ¬ (k : Int) = 0 := by omega
    obtain ⟨buf, h, hi, hc⟩ := HR.out.is
    rcases hc with ⟨e, _, _⟩ | ⟨h0, b, L, rfl, hSb, hbg, hLc, hg⟩
    · rw [e] at HM
      have := HM.out
      simp at this
      omega
    · have HG := Lib.hid hg
      obtain ⟨cur, hc1, hc2, hh, hxL, hat⟩ := hg
      have hmL : m ≤ L := by have := HM.out; omega
      have HI := Lib.hid hi
      have d1 : w.cell? ⟨g, 1, none⟩ = some (.slice (some ⟨b, 0, none⟩) L L) := hi.at_ 1 _ rfl
      have d2 : w.cell? ⟨g, 2, none⟩ = some (.int .i64 (h : Int)) := hi.at_ 2 _ rfl
      have d3 : w.cell? ⟨g, 3, none⟩ = some (.int .i64 (m : Int)) := by rw [← HM.out]; exact hi.at_ 3 _ rfl
      have e1 : w.frozen? ⟨g, 1, none⟩ = false := hi.frozen 1
      have e2 : w.frozen? ⟨g, 2, none⟩ = false := hi.frozen 2
      have e3 : w.frozen? ⟨g, 3, none⟩ = false := hi.frozen 3
      obtain ⟨at_, hat_⟩ : ∃ q, (h + k) % L = q := ⟨_, rfl⟩
      have hrem : ((h : Int) + (k : Int)) % (L : Int) = (at_ : Int) := by rw [← hat_, Int.natCast_emod, Int.natCast_add]
      have HAt := Lib.hid hat_
      have hL0 : ¬ (L : Int) = 0 := by omega
      have hL31 : L ≤ 2147483647 := by omega
      have HHh := Lib.hid (And.intro hh (And.intro hSb (And.intro hbg hLc)))
      have hh31 : h ≤ 2147483647 := by omega
      clear hi hc1 hc2 hat hat_ hh hxL hSb hbg hLc h0
      go_wp2_with fail
      go_region
      obtain ⟨y1, hy1⟩ : ∃ y, (w.setCell ⟨g, 2, none⟩ (.int .i64 (at_ : Int))).drew = y := ⟨_, rfl⟩
      have HI1 : Hid (Is y1 g 168 (rgC cap (.slice (some ⟨b, 0, none⟩) L L) at_ m)) := by
        show Is _ _ _ _
        rw [← hy1, ← HM.out]
        exact HI.out.put 2 _
      have HC1 : Hid (Chg (fun j => j = g) w y1) := by
        show Chg _ _ _
        rw [← hy1]
        exact ((Chg.refl (fun j => j = g) w).setCell (p := ⟨g, 2, none⟩) (fun _ => rfl) _).drew
      have b1 : y1.cell? ⟨g, 1, none⟩ = some (.slice (some ⟨b, 0, none⟩) L L) := HI1.out.at_ 1 _ rfl
      have b2 : y1.cell? ⟨g, 2, none⟩ = some (.int .i64 (at_ : Int)) := HI1.out.at_ 2 _ rfl
      have b3 : y1.cell? ⟨g, 3, none⟩ = some (.int .i64 (m : Int)) := HI1.out.at_ 3 _ rfl
      have q1 : y1.frozen? ⟨g, 1, none⟩ = false := HI1.out.frozen 1
      have q2 : y1.frozen? ⟨g, 2, none⟩ = false := HI1.out.frozen 2
      have q3 : y1.frozen? ⟨g, 3, none⟩ = false := HI1.out.frozen 3
      rw [hy1]
      obtain ⟨mk, hmk⟩ : ∃ q, m - k = q := ⟨_, rfl⟩
      have hmkI : (m : Int) - (k : Int) = (mk : Int) := by omega
      have HMk := Lib.hid hmk
      clear hy1 d1 d2 d3 e1 e2 e3 hrem hmk
      by_cases hz : mk = 0
      · subst hz
        go_wp2
        go_ret
        have e : xs.drop k = [] := List.drop_eq_nil_of_le (by have := HM.out; have := HMk.out; omega)
        rw [e]
        refine ⟨rfl, ⟨(fun z hz => by simp at hz), Nat.zero_le _, hcap, HR.out.sg, .slice none 0 0, 0, ((HI1.out.put 3 _).put 1 _).put 2 _, .inl ⟨rfl, rfl, rfl⟩⟩, ?_⟩
        exact ((((HC1.out.setCell (p := ⟨g, 3, none⟩) (fun _ => rfl) _).setCell (p := ⟨g, 1, none⟩) (fun _ => rfl) _).setCell (p := ⟨g, 2, none⟩) (fun _ => rfl) _)).more fun k hk e => by rw [e]; exact HR.out.sg
      · have hz2 : ¬ (mk : Int) = 0 := by omega
        go_wp2
        go_ret
        have hl : (xs.drop k).length = mk := by rw [List.length_drop]; have := HM.out; have := HMk.out; omega
        refine ⟨rfl, ⟨HR.out.byt.drop _, by rw [hl]; omega, hcap, HR.out.sg, .slice (some ⟨b, 0, none⟩) L L, at_, by rw [hl]; exact HI1.out.put 3 _, .inr ⟨by omega, b, L, rfl, HHh.out.2.1, HHh.out.2.2.1, HHh.out.2.2.2, ?_⟩⟩, ?_⟩
        · have hg := HG.out.drop (m := k) (by have := HM.out; have := HMk.out; omega)
          have e : rot h k L = at_ := by
            rw [← HAt.out, rot_mod HHh.out.1 (by omega)]
            rfl
          rw [e] at hg
          exact (hg.chg HC1.out HHh.out.2.2.1).chg ((Chg.refl (fun j => j = g) y1).setCell (p := ⟨g, 3, none⟩) (fun _ => rfl) _) HHh.out.2.2.1
        · exact (HC1.out.setCell (p := ⟨g, 3, none⟩) (fun _ => rfl) _).more fun k hk e => by rw [e]; exact HR.out.sg

set_option maxRecDepth 100000 in
set_option maxHeartbeats 4000000 in
theorem peek_any (w : World) {S : Nat → Prop} {g cap : Nat} {xs : List Int} (hr : Rgo w S g cap xs) (nn : Nat) :
    Calls Tryd.prog 103 #[.pointer (some ⟨g, 0, none⟩), .int .i64 (nn : Int)] w fun e w' => ∃ v, e = .returned v ∧ Ob w' w.heap.size 5 v (Nat.min nn xs.length) (u8s (xs.take (Nat.min nn xs.length))) ∧ Chg none_ w w' := by
  obtain ⟨k, hk⟩ : ∃ k, Nat.min nn xs.length = k := ⟨_, rfl⟩
  obtain ⟨k1, k2, k3⟩ := nat_min hk.symm
  rw [hk]
  obtain ⟨m, hm⟩ : ∃ m, xs.length = m := ⟨_, rfl⟩
  have hlen := hr.len
  have hcap := hr.cap2
  rw [hm] at k2 k3 hlen
  have hkI : (if m < nn then (m : Int) else (nn : Int)) = (k : Int) := by split <;> omega
  have HR := Lib.hid hr
  have HM := Lib.hid hm
  have hn0 : ¬ (nn : Int) < 0 := by omega
  clear hr hk hm
  go_enter Tryd.func103, Tryd.ntmps103
  go_wp2_with fail
  refine (rlen_any w HR.out).mono ?_
  rintro e w' ⟨rfl, rfl⟩
  rw [HM.out]
  by_cases hk0 : k = 0
  · subst hk0
    go_wp2
    go_ret
    exact ⟨_, rfl, by simpa [u8s] using ob_nil w w.heap.size 5 none, Chg.refl _ _⟩
  · have hkz : ¬ (k : Int) = 0 := by omega
    obtain ⟨buf, h, hi, hc⟩ := HR.out.is
    rcases hc with ⟨e, _, _⟩ | ⟨h0, b, L, rfl, hSb, hbg, hLc, hg⟩
    · rw [e] at HM
      have := HM.out
      simp at this
      omega
    · have HG := Lib.hid hg
      have HI := Lib.hid hi
      have HB := Lib.hid hbg
      have hL31 : L ≤ 2147483647 := by omega
      have hbl : b < w.heap.size := by obtain ⟨cur, h1, _⟩ := hg; exact h1.lt
      have hgl := hi.lt
      clear hi hSb hbg hLc hg h0
      go_wp2_with (refine wpList_make_u8 rfl (.tmp 14) (.tmp 14) rfl (k : Int) rfl rfl k rfl (by omega) ?_)
      intro y1 j1 j2
      have HY1 := Lib.hid j1
      have HC1 := Lib.hid j2
      clear j1 j2
      go_wp2_with fail
      refine (copyTo_any y1 (out := List.replicate k (Value.int .u8 0)) (k := k) (c := k) (HI.out.chg HC1.out fun f => f) (HG.out.chg HC1.out fun f => f) HY1.out (by omega) (by rw [zeros_len]; exact Nat.le_refl _) (by have := HM.out; omega) (Nat.le_refl _) hL31 (by omega) (by omega)).mono ?_
      rintro e y2 ⟨⟨r, rfl⟩, j3, j4⟩
      have HY3 := Lib.hid j3
      have HC4 := Lib.hid j4
      clear j3 j4
      go_wp2
      go_ret
      have hl : (u8s (xs.take k)).length = k := by rw [u8s_len, List.length_take]; have := HM.out; omega
      have e : splice (List.replicate k (Value.int .u8 0)) 0 (u8s (xs.take k)) = u8s (xs.take k) := by
        unfold splice
        rw [hl, List.take_zero, List.nil_append, List.drop_eq_nil_of_le (by rw [zeros_len]; omega), List.append_nil]
      have h3 := HY3.out
      rw [e] at h3
      refine ⟨_, rfl, .inr ⟨⟨by rw [hl, Nat.mul_one], .inr ⟨w.heap.size, k, _, rfl, Nat.le_refl _, h3, Nat.le_refl _, by simp only [maxLen]; omega, by rw [List.size_toArray, hl, Nat.mul_one], by rw [Nat.mul_one]; exact List.take_of_length_le (by rw [Array.length_toList, List.size_toArray, hl]; exact Nat.le_refl _)⟩⟩, _, _, rfl, by omega⟩, ?_⟩
      exact HC1.out.then HC4.out fun j hj e => by omega
theorem pop_any (w : World) {S : Nat → Prop} {g cap : Nat} {xs : List Int} (hr : Rgo w S g cap xs) (hS : ∀ k, S k → k < w.heap.size) (nn : Nat) :
    Calls Tryd.prog 70 #[.pointer (some ⟨g, 0, none⟩), .int .i64 (nn : Int)] w fun e w' => ∃ v, e = .returned v ∧ Ob w' w.heap.size 5 v (Nat.min nn xs.length) (u8s (xs.take (Nat.min nn xs.length))) ∧ Rgo w' S g cap (xs.drop (Nat.min nn xs.length)) ∧ Chg S w w' := by
  have HR := Lib.hid hr
  have HS := Lib.hid hS
  clear hr hS
  go_enter Tryd.func70, Tryd.ntmps70
  go_wp2_with fail
  refine (peek_any w HR.out nn).mono ?_
  rintro e w1 ⟨v, rfl, h1, h2⟩
  have H1 := Lib.hid h1
  have H2 := Lib.hid h2
  clear h1 h2
  go_wp2_with fail
  refine (drop_any w1 (HR.out.chg H2.out fun _ _ f => f) nn).mono ?_
  rintro e w2 ⟨rfl, h3, h4⟩
  have H3 := Lib.hid h3
  have H4 := Lib.hid h4
  clear h3 h4
  go_wp2
  go_ret
  exact ⟨_, rfl, H1.out.chg H4.out fun k hk hs => by have := (H1.out.block k hk).1; have := HS.out k hs; omega, H3.out, (H2.out.more fun _ _ f => f.elim).then H4.out fun _ _ h => h⟩
theorem clear_any (w : World) {S : Nat → Prop} {g cap : Nat} {xs : List Int} (hr : Rgo w S g cap xs) :
    Calls Tryd.prog 100 #[.pointer (some ⟨g, 0, none⟩)] w fun e w' => (∃ r, e = .returned r) ∧ Rgo w' S g cap [] ∧ Chg S w w' := by
  have HR := Lib.hid hr
  clear hr
  go_enter Tryd.func100, Tryd.ntmps100
  go_wp2_with fail
  refine (rlen_any w HR.out).mono ?_
  rintro e w' ⟨rfl, rfl⟩
  go_wp2_with fail
  refine (drop_any w HR.out xs.length).mono ?_
  rintro e w2 ⟨rfl, h3, h4⟩
  have e : xs.drop (Nat.min xs.length xs.length) = [] := List.drop_eq_nil_of_le (by have : Nat.min xs.length xs.length = min xs.length xs.length := rfl; omega)
  rw [e] at h3
  have H3 := Lib.hid h3
  have H4 := Lib.hid h4
  clear h3 h4 e
  go_wp2
  go_ret
  exact ⟨⟨_, rfl⟩, H3.out, H4.out⟩
end Go.Proofs.YthalmjjbamglgaaDoor
