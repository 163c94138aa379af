/-
  ring.Ring[byte]: Len, Cap, Free, copyTo and lay by contracts.
  No condition of its own.
-/
import Derived.Test.YthalmjjbamglgaaDoorRing
import Derived.OwnWalk
namespace Go.Proofs.YthalmjjbamglgaaDoor
open Go.RowKit

def rgC (cap : Nat) (buf : Value) (h n : Nat) : Array Value := #[.int .i64 (cap : Int), buf, .int .i64 (h : Int), .int .i64 (n : Int)]
/-- A ring of bytes at block g, all of it within S. -/
structure Rgo (w : World) (S : Nat → Prop) (g cap : Nat) (xs : List Int) : Prop where
  byt : Byt xs
  len : xs.length ≤ cap
  cap2 : cap ≤ 2147483647
  sg : S g
  is : ∃ (buf : Value) (h : Nat), Is w g 168 (rgC cap buf h xs.length) ∧ ((xs = [] ∧ buf = .slice none 0 0 ∧ h = 0) ∨ 0 < xs.length ∧ ∃ b L, buf = .slice (some ⟨b, 0, none⟩) L L ∧ S b ∧ b ≠ g ∧ L ≤ cap ∧ Rgb w b L h xs)
theorem Rgo.chg {X S : Nat → Prop} {w w' : World} {g cap : Nat} {xs : List Int} (h : Rgo w S g cap xs) (hc : Chg X w w') (hX : ∀ k, S k → ¬ X k) : Rgo w' S g cap xs := by
  obtain ⟨buf, hd, h1, h2⟩ := h.is
  refine ⟨h.byt, h.len, h.cap2, h.sg, buf, hd, h1.chg hc (hX g h.sg), ?_⟩
  rcases h2 with h2 | ⟨h0, b, L, e, hb, hne, hL, h3⟩
  · exact .inl h2
  · exact .inr ⟨h0, b, L, e, hb, hne, hL, h3.chg hc (hX b hb)⟩
theorem Rgo.sub {S T : Nat → Prop} {w : World} {g cap : Nat} {xs : List Int} (h : Rgo w S g cap xs) (hT : ∀ k, S k → T k) : Rgo w T g cap xs := by
  obtain ⟨buf, hd, h1, h2⟩ := h.is
  refine ⟨h.byt, h.len, h.cap2, hT g h.sg, buf, hd, h1, ?_⟩
  rcases h2 with h2 | ⟨h0, b, L, e, hb, hne, hL, h3⟩
  · exact .inl h2
  · exact .inr ⟨h0, b, L, e, hT b hb, hne, hL, h3⟩

theorem rlen_any (w : World) {S : Nat → Prop} {g cap : Nat} {xs : List Int} (h : Rgo w S g cap xs) :
    Calls Tryd.prog 63 #[.pointer (some ⟨g, 0, none⟩)] w fun e w' => e = .returned (.int .i64 (xs.length : Int)) ∧ w = w' := by
  obtain ⟨buf, hd, hi, _⟩ := h.is
  have c3 : w.cell? ⟨g, 3, none⟩ = some (.int .i64 (xs.length : Int)) := hi.at_ 3 _ rfl
  clear hi h
  go_enter Tryd.func63, Tryd.ntmps63
  go_wp2
  go_ret
  exact ⟨rfl, rfl⟩
theorem rcap_any (w : World) {S : Nat → Prop} {g cap : Nat} {xs : List Int} (h : Rgo w S g cap xs) :
    Calls Tryd.prog 118 #[.pointer (some ⟨g, 0, none⟩)] w fun e w' => e = .returned (.int .i64 (cap : Int)) ∧ w = w' := by
  obtain ⟨buf, hd, hi, _⟩ := h.is
  have c0 : w.cell? ⟨g, 0, none⟩ = some (.int .i64 (cap : Int)) := hi.at_ 0 _ rfl
  clear hi h
  go_enter Tryd.func118, Tryd.ntmps118
  go_wp2
  go_ret
  exact ⟨rfl, rfl⟩
theorem rfree_any (w : World) {S : Nat → Prop} {g cap : Nat} {xs : List Int} (h : Rgo w S g cap xs) :
    Calls Tryd.prog 101 #[.pointer (some ⟨g, 0, none⟩)] w fun e w' => e = .returned (.int .i64 ((cap - xs.length : Nat) : Int)) ∧ w = w' := by
  have H := Lib.hid h
  obtain ⟨n, hn⟩ : ∃ n, xs.length = n := ⟨_, rfl⟩
  obtain ⟨f, hf⟩ : ∃ f, cap - n = f := ⟨_, rfl⟩
  have h1 := h.len
  have h2 := h.cap2
  rw [hn] at h1 ⊢
  rw [hf]
  have hfI : (cap : Int) - (n : Int) = (f : Int) := by omega
  have HN := Lib.hid hn
  clear h hn hf
  go_enter Tryd.func101, Tryd.ntmps101
  go_wp2_with fail
  refine (rcap_any w H.out).mono ?_
  rintro e w' ⟨rfl, rfl⟩
  go_wp2_with fail
  refine (rlen_any w H.out).mono ?_
  rintro e w' ⟨rfl, rfl⟩
  rw [HN.out]
  go_wp2
  go_ret
  exact ⟨rfl, rfl⟩

theorem add_base (g j : Nat) : (⟨g, 0, none⟩ : Addr).add j = ⟨g, j, none⟩ := by unfold Addr.add; split <;> simp_all
theorem splice_mid {α : Type} (L cs ds : List α) (_h : cs.length + ds.length ≤ L.length) : splice (splice L 0 cs) cs.length ds = splice L 0 (cs ++ ds) := by
  unfold splice
  have e1 : (L.take 0 ++ (cs ++ L.drop (0 + cs.length))).take cs.length = cs := by simp
  rw [e1]
  have e2 : (L.take 0 ++ (cs ++ L.drop (0 + cs.length))).drop (cs.length + ds.length) = L.drop (cs.length + ds.length) := by simp [List.drop_append]
  rw [e2]
  simp

set_option maxRecDepth 100000 in
set_option maxHeartbeats 2000000 in
theorem copyTo_any (w : World) {g cap b L h o k c : Nat} {xs : List Int} {out : List Value} (hi : Is w g 168 (rgC cap (.slice (some ⟨b, 0, none⟩) L L) h xs.length)) (hb : Rgb w b L h xs) (ho : Is w o 5 out.toArray)
    (hk0 : 0 < k) (hko : k ≤ out.length) (hkx : k ≤ xs.length) (hkc : k ≤ c) (hL : L ≤ 2147483647) (hob : o ≠ b) (hog : o ≠ g) :
    Calls Tryd.prog 119 #[.pointer (some ⟨g, 0, none⟩), .slice (some ⟨o, 0, none⟩) k c, .int .i64 0] w fun e w' => (∃ r, e = .returned r) ∧ Is w' o 5 (splice out 0 (u8s (xs.take k))).toArray ∧ Chg (fun j => j = o) w w' := by
  obtain ⟨cur, hc1, hc2, hh, hxL, hat⟩ := hb
  have c1 : w.cell? ⟨g, 1, none⟩ = some (.slice (some ⟨b, 0, none⟩) L L) := hi.at_ 1 _ rfl
  have c2 : w.cell? ⟨g, 2, none⟩ = some (.int .i64 (h : Int)) := hi.at_ 2 _ rfl
  obtain ⟨k1, hk1⟩ : ∃ k1, k1 = Nat.min (L - h) k := ⟨_, rfl⟩
  have hfr := Rgb.front (L := L) (h := h) (xs := xs) (cur := cur) hh hat hkx hxL hk1
  obtain ⟨q1, q2, q3⟩ := nat_min hk1
  have HK1 := Lib.hid hk1
  have HK2 := Lib.hid hfr
  have HHo := Lib.hid ho
  have HHg := Lib.hid hi
  have HHc := Lib.hid hc1
  have hLh : ¬ L = h := by omega
  have hL0 : ¬ (L : Int) = 0 := by omega
  have hk00 : ¬ (k : Int) = 0 := by omega
  have hhI : (h : Int) < (L : Int) := by omega
  have hhL : (h : Int) ≤ (L : Int) := by omega
  clear hk1 hfr ho hc1 hat hi
  have hrem : (h : Int) % (L : Int) = (h : Int) := Int.emod_eq_of_lt (by omega) hhI
  go_enter Tryd.func119, Tryd.ntmps119
  go_wp2_with fail
  go_quiet (fail)
  go_wp2_with (with_reducible refine wpList_copy_is rfl (.tmp 23) (.tmp 29) rfl (some ⟨o, 0, none⟩) (some ⟨b, h, none⟩) k c (L - h) (L - h) rfl rfl o 0 out ?g1 k1 (u8s (xs.take k1)) ?g2 ?g3 ?g4 ?g5 (u8s_one _) ?_)
  case g1 => exact HHo.out
  case g2 => rw [u8s_len, List.length_take]; omega
  case g3 => exact HK1.out
  case g4 =>
    intro h0 j v hj
    have hjl : j < k1 := by have := (List.getElem?_eq_some_iff.1 hj).1; rw [u8s_len, List.length_take] at this; omega
    rw [← HK2.out.1 j hjl] at hj
    exact (HHc.out.at_ (h + j) v (by simpa using hj))
  case g5 => omega
  intro w1 hw1 hcw1
  have HW1 := hw1
  have HC1 : Hid (Chg (fun j => j = o) w w1) := ((Chg.refl _ w).drewN nq).trans hcw1
  have i1 : w1.cell? ⟨g, 1, none⟩ = some (.slice (some ⟨b, 0, none⟩) L L) := (hcw1.cell (p := ⟨g, 1, none⟩) (by
    have := HHg.out.lt
    exact this) (fun e => hog e.symm)).trans c1
  have j1 : ∀ Q, (w1.drewN Q).cell? ⟨g, 1, none⟩ = some (.slice (some ⟨b, 0, none⟩) L L) := fun Q => i1
  clear hcw1 hw1
  by_cases hck : c = k1
  · obtain rfl : k = k1 := by omega
    subst hck
    go_wp2_with fail
    go_region_law (refine step_copy_is rfl (.tmp 33) (.tmp 37) rfl (some ⟨o, 0, none⟩) (some ⟨b, 0, none⟩) 0 0 L L rfl rfl o 0 (splice out 0 (u8s (xs.take c))) HW1.out 0 [] rfl (by simp) (fun h => absurd h (by omega)) (by simp) (by simp) ?_; intro w2 hw2 hc2)
    go_wp2
    first | go_end0 | refine bodyPost_ret (results_none rfl _ _ _) rfl ?_
    refine ⟨⟨_, rfl⟩, ?_, HC1.out.drew.trans hc2⟩
    have h := hw2.out
    have e : splice (splice out 0 (u8s (xs.take c))) 0 [] = splice out 0 (u8s (xs.take c)) := by simp [splice]
    rw [e] at h
    exact h
  · have hck2 : ¬ c = k1 := hck
    have hpc : k - k1 = Nat.min L (k - k1) := by
      have : Nat.min L (k - k1) = min L (k - k1) := rfl
      omega
    have HPc := Lib.hid hpc
    have hlen : (u8s ((xs.drop k1).take (k - k1))).length = k - k1 := by rw [u8s_len, List.length_take, List.length_drop]; omega
    have HLe := Lib.hid hlen
    have hfit : k1 + (k - k1) ≤ (splice out 0 (u8s (xs.take k1))).length := by
      rw [length_splice _ _ _ (by rw [u8s_len, List.length_take]; omega)]
      omega
    have HFi := Lib.hid hfit
    have HPo : Hid (∀ j v, (u8s ((xs.drop k1).take (k - k1)))[j]? = some v → w1.cell? ((⟨b, 0, none⟩ : Addr).add j) = some v) := fun j v hj => by
      have hjl : j < k - k1 := by have := (List.getElem?_eq_some_iff.1 hj).1; rw [hlen] at this; exact this
      rw [← HK2.out.2 j hjl] at hj
      rw [add_base]
      exact (HHc.out.chg HC1.out (by show ¬ b = o; omega)).at_ j v (by simpa using hj)
    clear hpc hlen hfit
    go_wp2_with fail
    go_region_law (refine step_copy_is rfl (.tmp 33) (.tmp 37) rfl (some ⟨o, k1, none⟩) (some ⟨b, 0, none⟩) (k - k1) (c - k1) L L rfl rfl o k1 (splice out 0 (u8s (xs.take k1))) HW1.out (k - k1) (u8s ((xs.drop k1).take (k - k1))) HLe.out HPc.out (fun _ => ⟨rfl, _, rfl, HPo.out⟩) HFi.out (u8s_one _) ?_; intro w2 hw2 hc2)
    go_wp2
    first | go_end0 | refine bodyPost_ret (results_none rfl _ _ _) rfl ?_
    refine ⟨⟨_, rfl⟩, ?_, HC1.out.drew.trans hc2⟩
    have h := hw2.out
    have hl1 : (u8s (xs.take k1)).length = k1 := by rw [u8s_len, List.length_take]; omega
    have e : splice (splice out 0 (u8s (xs.take k1))) k1 (u8s ((xs.drop k1).take (k - k1))) = splice out 0 (u8s (xs.take k)) := by
      have h2 := splice_mid out (u8s (xs.take k1)) (u8s ((xs.drop k1).take (k - k1))) (by rw [hl1, HLe.out]; omega)
      rw [hl1] at h2
      rw [h2]
      congr 1
      unfold u8s
      rw [← List.map_append, ← List.take_add, show k1 + (k - k1) = k by omega]
    rw [e] at h
    exact h
theorem copyTo_zero (w : World) (p o : Option Addr) (c : Nat) :
    Calls Tryd.prog 119 #[.pointer p, .slice o 0 c, .int .i64 0] w fun e w' => (∃ r, e = .returned r) ∧ w = w' := by
  go_enter Tryd.func119, Tryd.ntmps119
  go_wp2
  first | go_end0 | refine bodyPost_ret (results_none rfl _ _ _) rfl ?_
  exact ⟨⟨_, rfl⟩, rfl⟩

/-- Room for want things is laid. -/
def RgP (w : World) (S : Nat → Prop) (g cap : Nat) (xs : List Int) (want : Nat) : Prop :=
  ∃ b L h, Is w g 168 (rgC cap (.slice (some ⟨b, 0, none⟩) L L) h xs.length) ∧ S b ∧ b ≠ g ∧ L ≤ cap ∧ want ≤ L ∧ Rgb w b L h xs
theorem lay_room (w : World) {g cap b L h : Nat} {xs : List Int} (hi : Is w g 168 (rgC cap (.slice (some ⟨b, 0, none⟩) L L) h xs.length)) (want : Nat) (hw : want ≤ L) :
    Calls Tryd.prog 102 #[.pointer (some ⟨g, 0, none⟩), .int .i64 (want : Int)] w fun e w' => (∃ r, e = .returned r) ∧ w = w' := by
  have c1 : w.cell? ⟨g, 1, none⟩ = some (.slice (some ⟨b, 0, none⟩) L L) := hi.at_ 1 _ rfl
  have hwI : (want : Int) ≤ (L : Int) := by omega
  clear hi
  go_enter Tryd.func102, Tryd.ntmps102
  go_wp2
  first | go_end0 | refine bodyPost_ret (results_none rfl _ _ _) rfl ?_
  exact ⟨⟨_, rfl⟩, rfl⟩
theorem zeros_len (n : Nat) : (List.replicate n (Value.int .u8 0)).length = n := List.length_replicate
theorem rgb_new {w : World} {b Z : Nat} {xs : List Int} (hZ : 0 < Z) (hx : xs.length ≤ Z) (hi : Is w b 5 (splice (List.replicate Z (Value.int .u8 0)) 0 (u8s xs)).toArray) : Rgb w b Z 0 xs := by
  have hf : 0 + (u8s xs).length ≤ (List.replicate Z (Value.int .u8 0)).length := by rw [u8s_len, zeros_len]; omega
  refine ⟨_, hi, by rw [length_splice _ _ _ hf, zeros_len], hZ, hx, fun i hi => ?_⟩
  have e : rot 0 i Z = i := by unfold rot; rw [if_pos (by omega)]; omega
  rw [e, splice_at hf, u8s_len, if_pos (by omega), Nat.sub_zero]
/-- The stores behind the copy. -/
theorem lay_end {w w1 w2 : World} {S : Nat → Prop} {g cap h0 n0 Z : Nat} {buf : Value} {xs : List Int} (hn : n0 = xs.length) (hi : Is w g 168 (rgC cap buf h0 n0)) (hsg : S g) (hc1 : Chg none_ w w1) (hc2 : Chg (fun j => j = w.heap.size) w1 w2)
    (hb : Is w2 w.heap.size 5 (splice (List.replicate Z (Value.int .u8 0)) 0 (u8s xs)).toArray) (want : Nat) (hw0 : 0 < want) (hw : xs.length ≤ want) (h1 : want ≤ Z) (h2 : Z ≤ cap) :
    RgP ((w2.setCell ⟨g, 1, none⟩ (.slice (some ⟨w.heap.size, 0, none⟩) Z Z)).setCell ⟨g, 2, none⟩ (.int .i64 0)) (fun k => S k ∨ w.heap.size ≤ k ∧ k < ((w2.setCell ⟨g, 1, none⟩ (.slice (some ⟨w.heap.size, 0, none⟩) Z Z)).setCell ⟨g, 2, none⟩ (.int .i64 0)).heap.size) g cap xs want ∧
      Chg S w ((w2.setCell ⟨g, 1, none⟩ (.slice (some ⟨w.heap.size, 0, none⟩) Z Z)).setCell ⟨g, 2, none⟩ (.int .i64 0)) := by
  subst hn
  have hgl := hi.lt
  have hi2 : Is w2 g 168 (rgC cap buf h0 xs.length) := (hi.chg hc1 fun f => f).chg hc2 (by omega)
  have hs : Chg (fun j => j = g) w2 ((w2.setCell ⟨g, 1, none⟩ (.slice (some ⟨w.heap.size, 0, none⟩) Z Z)).setCell ⟨g, 2, none⟩ (.int .i64 0)) :=
    ((Chg.refl (fun j => j = g) w2).setCell (p := ⟨g, 1, none⟩) (fun _ => rfl) _).setCell (p := ⟨g, 2, none⟩) (fun _ => rfl) _
  have hb2 := hb.chg hs (by show ¬ w.heap.size = g; omega)
  refine ⟨⟨w.heap.size, Z, 0, (hi2.put 1 _).put 2 _, .inr ⟨Nat.le_refl _, hb2.lt⟩, by omega, h2, h1, rgb_new (by omega) (by omega) hb2⟩, ?_⟩
  exact ((hc1.more fun _ _ f => f.elim).then hc2 fun k hk e => by omega).then hs fun k hk e => by rw [e]; exact hsg

theorem lay_size (want cap : Nat) (h : want ≤ cap) : ∃ M Z : Nat, (if (want : Int) < 16 then (16 : Int) else (want : Int)) = (M : Int) ∧ (if M < cap then (M : Int) else (cap : Int)) = (Z : Int) ∧ want ≤ Z ∧ Z ≤ cap := by
  obtain ⟨M, hM, hw⟩ : ∃ M : Nat, (if (want : Int) < 16 then (16 : Int) else (want : Int)) = (M : Int) ∧ want ≤ M := by
    by_cases h1 : (want : Int) < 16
    · exact ⟨16, by rw [if_pos h1]; rfl, by omega⟩
    · exact ⟨want, by rw [if_neg h1], Nat.le_refl _⟩
  by_cases h2 : M < cap
  · exact ⟨M, M, hM, by rw [if_pos h2], hw, by omega⟩
  · exact ⟨M, cap, hM, by rw [if_neg h2], h, Nat.le_refl _⟩
set_option maxRecDepth 100000 in
set_option maxHeartbeats 2000000 in
theorem lay_new (w : World) {S : Nat → Prop} {g cap : Nat} {xs : List Int} (hr : Rgo w S g cap xs) (want : Nat) (hw : xs.length ≤ want) (hwc : want ≤ cap) (hw0 : 0 < want) (hne : xs = []) :
    Calls Tryd.prog 102 #[.pointer (some ⟨g, 0, none⟩), .int .i64 (want : Int)] w fun e w' => (∃ r, e = .returned r) ∧ RgP w' (fun k => S k ∨ w.heap.size ≤ k ∧ k < w'.heap.size) g cap xs want ∧ Chg S w w' := by
  subst hne
  obtain ⟨buf, hd, hi, hc⟩ := hr.is
  obtain ⟨rfl, rfl⟩ : buf = .slice none 0 0 ∧ hd = 0 := by
    rcases hc with ⟨_, h1, h2⟩ | ⟨h, _⟩
    · exact ⟨h1, h2⟩
    · simp at h
  have c0 : ∀ Q, (w.drewN Q).cell? ⟨g, 0, none⟩ = some (.int .i64 (cap : Int)) := fun Q => hi.at_ 0 _ rfl
  have c1 : w.cell? ⟨g, 1, none⟩ = some (.slice none 0 0) := hi.at_ 1 _ rfl
  have c1' : ∀ Q, (w.drewN Q).cell? ⟨g, 1, none⟩ = some (.slice none 0 0) := fun Q => hi.at_ 1 _ rfl
  have hc2 := hr.cap2
  have HSg := Lib.hid hr.sg
  have HI := Lib.hid hi
  have hwI : ¬ (want : Int) ≤ 0 := by omega
  obtain ⟨M, Z, hM, hZ, hZ1, hZ2⟩ := lay_size want cap hwc
  have HZ1 := Lib.hid hZ1
  have HZ2 := Lib.hid hZ2
  have hz31 : Z ≤ 2147483647 := by omega
  clear hr hi hc hw hZ1 hZ2 hwc hc2
  go_enter Tryd.func102, Tryd.ntmps102
  go_wp2_with fail
  go_quiet (fail)
  obtain ⟨y0, hy0⟩ : ∃ y, w.drewN nq = y := ⟨_, rfl⟩
  have HY0 : Hid (Chg none_ w y0 ∧ y0.heap.size = w.heap.size) := by rw [← hy0]; exact ⟨(Chg.refl none_ w).drewN _, rfl⟩
  go_wp2_with (refine wpList_make_u8 rfl (.tmp 26) (.tmp 26) rfl (Z : Int) rfl rfl Z rfl (by omega) ?_)
  intro y1 k1 k2
  have HY1 := Lib.hid k1
  have HC1 : Hid (Chg none_ w y1) := HY0.out.1.trans k2
  have i3 : y1.cell? ⟨g, 3, none⟩ = some (.int .i64 0) := (HI.out.chg HC1.out fun f => f).at_ 3 _ rfl
  have f1 : y1.frozen? ⟨g, 1, none⟩ = false := (HI.out.chg HC1.out fun f => f).frozen 1
  have f2 : y1.frozen? ⟨g, 2, none⟩ = false := (HI.out.chg HC1.out fun f => f).frozen 2
  have i1 : y1.cell? ⟨g, 1, none⟩ = some (.slice none 0 0) := (HI.out.chg HC1.out fun f => f).at_ 1 _ rfl
  have i2 : y1.cell? ⟨g, 2, none⟩ = some (.int .i64 0) := (HI.out.chg HC1.out fun f => f).at_ 2 _ rfl
  have k2' := Lib.hid k2
  clear k1 k2
  go_wp2_with fail
  refine (copyTo_zero y1 _ _ _).mono ?_
  rintro e w' ⟨⟨r, rfl⟩, rfl⟩
  go_wp2
  first | go_end0 | refine bodyPost_ret (results_none rfl _ _ _) rfl ?_
  have h := lay_end (w := y0) (w1 := y1) (w2 := y1) (Z := Z) (xs := []) rfl (HI.out.chg HY0.out.1 fun f => f) HSg.out k2'.out (Chg.refl _ _) (by simpa [splice, u8s] using HY1.out) want hw0 (Nat.zero_le _) HZ1.out HZ2.out
  rw [← HY0.out.2]
  exact ⟨⟨_, rfl⟩, h.1, (HY0.out.1.more fun _ _ f => f.elim).trans h.2⟩
theorem lay_size2 (want cap L : Nat) (h : want ≤ cap) : ∃ M1 M Z : Nat, (if (want : Int) < 2 * (L : Int) then 2 * (L : Int) else (want : Int)) = (M1 : Int) ∧ (if (M1 : Int) < 16 then (16 : Int) else (M1 : Int)) = (M : Int) ∧ (if M < cap then (M : Int) else (cap : Int)) = (Z : Int) ∧ want ≤ Z ∧ Z ≤ cap := by
  obtain ⟨M1, hM1, hw1⟩ : ∃ M : Nat, (if (want : Int) < 2 * (L : Int) then 2 * (L : Int) else (want : Int)) = (M : Int) ∧ want ≤ M := by
    by_cases h1 : (want : Int) < 2 * (L : Int)
    · exact ⟨2 * L, by rw [if_pos h1]; omega, by omega⟩
    · exact ⟨want, by rw [if_neg h1], Nat.le_refl _⟩
  obtain ⟨M, hM, hw⟩ : ∃ M : Nat, (if (M1 : Int) < 16 then (16 : Int) else (M1 : Int)) = (M : Int) ∧ want ≤ M := by
    by_cases h1 : (M1 : Int) < 16
    · exact ⟨16, by rw [if_pos h1]; rfl, by omega⟩
    · exact ⟨M1, by rw [if_neg h1], hw1⟩
  by_cases h2 : M < cap
  · exact ⟨M1, M, M, hM1, hM, by rw [if_pos h2], hw, by omega⟩
  · exact ⟨M1, M, cap, hM1, hM, by rw [if_neg h2], h, Nat.le_refl _⟩
set_option maxRecDepth 100000 in
set_option maxHeartbeats 2000000 in
theorem lay_more (w : World) {S : Nat → Prop} {g cap b L h : Nat} {xs : List Int} (hi : Is w g 168 (rgC cap (.slice (some ⟨b, 0, none⟩) L L) h xs.length)) (hsg : S g) (hb : Rgb w b L h xs) (hcap : cap ≤ 2147483647) (hLc : L ≤ cap)
    (want : Nat) (hw : xs.length ≤ want) (hwc : want ≤ cap) (hwL : L < want) (hx0 : 0 < xs.length) :
    Calls Tryd.prog 102 #[.pointer (some ⟨g, 0, none⟩), .int .i64 (want : Int)] w fun e w' => (∃ r, e = .returned r) ∧ RgP w' (fun k => S k ∨ w.heap.size ≤ k ∧ k < w'.heap.size) g cap xs want ∧ Chg S w w' := by
  have c0 : ∀ Q, (w.drewN Q).cell? ⟨g, 0, none⟩ = some (.int .i64 (cap : Int)) := fun Q => hi.at_ 0 _ rfl
  have c1 : w.cell? ⟨g, 1, none⟩ = some (.slice (some ⟨b, 0, none⟩) L L) := hi.at_ 1 _ rfl
  have c1' : ∀ Q, (w.drewN Q).cell? ⟨g, 1, none⟩ = some (.slice (some ⟨b, 0, none⟩) L L) := fun Q => hi.at_ 1 _ rfl
  have HSg := Lib.hid hsg
  have HI := Lib.hid hi
  have HB := Lib.hid hb
  have hwI : ¬ (want : Int) ≤ (L : Int) := by omega
  obtain ⟨M1, M, Z, hM1, hM, hZ, hZ1, hZ2⟩ := lay_size2 want cap L hwc
  have HZ1 := Lib.hid hZ1
  have HZ2 := Lib.hid hZ2
  have hz31 : Z ≤ 2147483647 := by omega
  have hL31 : L ≤ 2147483647 := by omega
  have hw31 : want ≤ 2147483647 := by omega
  obtain ⟨n, hn⟩ : ∃ n, xs.length = n := ⟨_, rfl⟩
  have HN := Lib.hid hn
  have hnZ : n ≤ Z := by omega
  have hnZI : (n : Int) ≤ (Z : Int) := by omega
  have HW := Lib.hid hw
  have HX := Lib.hid hx0
  have hw0 : 0 < want := by omega
  have HLw := Lib.hid (And.intro hwL hLc)
  clear hi hb hsg hZ1 hZ2 hwc hcap hn hw hx0 hwL hLc
  go_enter Tryd.func102, Tryd.ntmps102
  go_wp2_with fail
  go_quiet (fail)
  obtain ⟨y0, hy0⟩ : ∃ y, w.drewN nq = y := ⟨_, rfl⟩
  have HY0 : Hid (Chg none_ w y0 ∧ y0.heap.size = w.heap.size) := by rw [← hy0]; exact ⟨(Chg.refl none_ w).drewN _, rfl⟩
  go_wp2_with (refine wpList_make_u8 rfl (.tmp 26) (.tmp 26) rfl (Z : Int) rfl rfl Z rfl (by omega) ?_)
  intro y1 k1 k2
  have HY1 := Lib.hid k1
  have HK2 := Lib.hid k2
  have HC1 : Hid (Chg none_ w y1) := HY0.out.1.trans k2
  have i3 : y1.cell? ⟨g, 3, none⟩ = some (.int .i64 (n : Int)) := by rw [← HN.out]; exact (HI.out.chg HC1.out fun f => f).at_ 3 _ rfl
  clear k1 k2
  go_wp2_with fail
  refine (copyTo_any y1 (out := List.replicate Z (Value.int .u8 0)) (k := n) (c := Z) (HI.out.chg HC1.out fun f => f) (HB.out.chg HC1.out fun f => f) HY1.out (by have := HN.out; have := HX.out; omega) (by rw [zeros_len]; exact hnZ) (by have := HN.out; omega) hnZ hL31 ?ne1 ?ne2).mono ?_
  case ne1 => obtain ⟨cur, h1, _⟩ := HB.out; have := h1.lt; have := HY0.out.2; omega
  case ne2 => have := HI.out.lt; have := HY0.out.2; omega
  rintro e y2 ⟨⟨r, rfl⟩, k3, k4⟩
  have HK3 : Hid (Is y2 y0.heap.size 5 (splice (List.replicate Z (Value.int .u8 0)) 0 (u8s xs)).toArray) := by
    have e : xs.take n = xs := by rw [← HN.out]; exact List.take_length
    rw [e] at k3
    exact k3
  have HK4 := Lib.hid k4
  have hI2 : Is y2 g 168 (rgC cap (.slice (some ⟨b, 0, none⟩) L L) h xs.length) := (HI.out.chg HC1.out fun f => f).chg k4 (by have := HI.out.lt; have := HY0.out.2; omega)
  have f1 : y2.frozen? ⟨g, 1, none⟩ = false := hI2.frozen 1
  have f2 : y2.frozen? ⟨g, 2, none⟩ = false := hI2.frozen 2
  have i1 : y2.cell? ⟨g, 1, none⟩ = some (.slice (some ⟨b, 0, none⟩) L L) := hI2.at_ 1 _ rfl
  have i2 : y2.cell? ⟨g, 2, none⟩ = some (.int .i64 (h : Int)) := hI2.at_ 2 _ rfl
  clear k3 k4 hI2
  go_wp2
  first | go_end0 | refine bodyPost_ret (results_none rfl _ _ _) rfl ?_
  have h := lay_end (w := y0) (w1 := y1) (w2 := y2) (Z := Z) rfl (HI.out.chg HY0.out.1 fun f => f) HSg.out HK2.out HK4.out HK3.out want hw0 HW.out HZ1.out HZ2.out
  rw [← HY0.out.2]
  exact ⟨⟨_, rfl⟩, h.1, (HY0.out.1.more fun _ _ f => f.elim).trans h.2⟩
theorem lay_any (w : World) {S : Nat → Prop} {g cap : Nat} {xs : List Int} (hr : Rgo w S g cap xs) (want : Nat) (hw : xs.length ≤ want) (hwc : want ≤ cap) (hw0 : 0 < want) :
    Calls Tryd.prog 102 #[.pointer (some ⟨g, 0, none⟩), .int .i64 (want : Int)] w fun e w' => (∃ r, e = .returned r) ∧ RgP w' (fun k => S k ∨ w.heap.size ≤ k ∧ k < w'.heap.size) g cap xs want ∧ Chg S w w' := by
  obtain ⟨buf, hd, hi, hc⟩ := hr.is
  rcases hc with ⟨h0, _, _⟩ | ⟨h0, b, L, rfl, hb, hne, hL, hg⟩
  · exact lay_new w hr want hw hwc hw0 h0
  · by_cases hr2 : want ≤ L
    · refine (lay_room w hi want hr2).mono ?_
      rintro e w' ⟨he, rfl⟩
      exact ⟨he, ⟨b, L, hd, hi, .inl hb, hne, hL, hr2, hg⟩, Chg.refl _ _⟩
    · exact lay_more w hi hr.sg hg hr.cap2 hL want hw hwc (by omega) h0
end Go.Proofs.YthalmjjbamglgaaDoor
