/-
  The document's Read, Next and New over the model.
  No condition of its own.
-/
import Derived.Test.YthalmjjbamglgaaDoorPlR
import Derived.Test.YthalmjjbamglgaaDoorPlX
import Derived.Test.YthalmjjbamglgaaDoorPlXc
import Derived.Test.YthalmjjbamglgaaDoorPlXe
import Derived.Test.YthalmjjbamglgaaDoorPlXz
namespace Go.Proofs.YthalmjjbamglgaaDoor
open Go.RowKit

section
variable {w w' : World} {U U' S : Nat → Prop} {s : Sm} {x : Value} {c l o : Int} {A A1 A2 : Option Addr} {n k n1 k1 n2 k2 : Nat} {xs : List Int}
theorem bso_nil (w : World) : BsO w (.slice none 0 0) [] := (Rfb.nil w fun _ => True).bs
theorem rdk_nil {P : Nat → Prop} : ∀ q, rdk (.slice none 0 0) = some q → P q := fun q hq => by simp [rdk] at hq
/-- The counts behind a reading of m bytes. -/
theorem rfn_read (h : RfN s c l o) (_hr : s.rs = false) (m : Nat) (_hm : m ≤ s.un.length) (hli : (s.li || s.ct) = true) : RfN { s with un := s.un.drop m } c l o :=
  ⟨h.c0, h.c1, h.l0, h.l1, h.o0, h.o1, h.c, h.g, h.sgc, ⟨h.ok.id1, h.ok.id2, h.ok.f1, h.ok.f2, h.ok.g2, h.ok.cr, h.ok.gr, h.ok.W, fun h1 h2 h3 => by
    rw [show s.li = false from h1, show s.ct = false from h2] at hli
    cases hli⟩, h.sg, by
    show ((s.un.drop m).length : Int) ≤ s.gr.W
    have := h.un
    rw [List.length_drop]
    omega⟩
theorem rdC_ok {gr : Gr} (hg : gr.Ok) (m : Nat) (hm : (m : Int) ≤ gr.u) : rdC gr m = 0 := by
  have := hg.W1
  simp [rdC, show ¬ gr.W = 0 by omega, show ¬ gr.u < (m : Int) by omega, show ¬ (m : Int) < 0 by omega]
theorem rfn_owe (h : RfN s c l o) (hr : s.rs = false) (hc : s.ct = false) (hl : s.li = false) (m : Nat) (hm : m ≤ s.un.length) :
    RfN { s with un := s.un.drop m, gr := rdS s.gr m } c (rdS s.gr m).l (rdS s.gr m).o := by
  obtain ⟨g1, g2, g3, g4, g5, g6, g7⟩ := h.ok.gr
  have hu := h.ok.un hl hc hr
  have hC := rdC_ok h.ok.gr m (by omega)
  have ht := thr_le g1 g2
  have hun := h.un
  have hd : ((s.un.drop m).length : Int) = s.gr.u - m := by rw [List.length_drop]; omega
  unfold rdS
  rw [if_pos hC]
  split
  · rename_i hlt
    refine ⟨h.c0, h.c1, by show 0 ≤ s.gr.l; omega, by show s.gr.l ≤ _; omega, by show 0 ≤ s.gr.o + m; omega, by show s.gr.o + m ≤ _; omega, h.c, fun _ _ _ => ⟨rfl, rfl⟩, h.sgc, ⟨h.ok.id1, h.ok.id2, h.ok.f1, h.ok.f2, h.ok.g2, h.ok.cr, ⟨g1, g2, g3, by show 0 ≤ s.gr.u - m; omega, by show 0 ≤ s.gr.o + m; omega, by show s.gr.l + (s.gr.u - m) + (s.gr.o + m) = s.gr.W; omega, hlt⟩, h.ok.W, fun _ _ _ => hd.symm⟩, h.sg, by show ((s.un.drop m).length : Int) ≤ s.gr.W; omega⟩
  · rename_i hlt
    refine ⟨h.c0, h.c1, by show 0 ≤ s.gr.l + (s.gr.o + m); omega, by show s.gr.l + (s.gr.o + m) ≤ _; omega, by show (0 : Int) ≤ 0; omega, by show (0 : Int) ≤ _; omega, h.c, fun _ _ _ => ⟨rfl, rfl⟩, h.sgc, ⟨h.ok.id1, h.ok.id2, h.ok.f1, h.ok.f2, h.ok.g2, h.ok.cr, ⟨g1, g2, by show 0 ≤ s.gr.l + (s.gr.o + m); omega, by show 0 ≤ s.gr.u - m; omega, by show (0 : Int) ≤ 0; omega, by show s.gr.l + (s.gr.o + m) + (s.gr.u - m) + 0 = s.gr.W; omega, by show 0 < thr s.gr.W; omega⟩, h.ok.W, fun _ _ _ => hd.symm⟩, h.sg, by show ((s.un.drop m).length : Int) ≤ s.gr.W; omega⟩
theorem rt_pos {n : Int} (hn : 0 < n) (hr : s.rs = false) (hu : s.un ≠ []) {m : Nat} (hm : Nat.min n.toNat s.un.length = m) : rtC s n = 0 ∧ rtN s n = m ∧ rtG s n = (if s.li || s.ct then 0 else rdV s.gr m) ∧ rtS s n = { s with un := s.un.drop m, gr := if s.li || s.ct then s.gr else rdS s.gr m } := by
  have h1 : ¬ n < 0 := by omega
  have h2 : ¬ n = 0 := by omega
  have h3 : ¬ (n ≤ 0 ∨ s.rs = true) := by rw [hr]; simp; omega
  refine ⟨?_, ?_, ?_, ?_⟩
  · simp [rtC, h1, h2, hr, srC, hu]
  · rw [rtN, if_neg h3, hm]
  · rw [rtG, if_neg h3, srG, if_neg hu, hm]
  · rw [rtS, if_neg h3, srS, if_neg hu, hm]
theorem rt_none {n : Int} (hn : 0 < n) (hr : s.rs = false) (hu : s.un = []) : rtC s n = (if s.li then 25 else if s.ct then 27 else 0) ∧ rtN s n = 0 ∧ rtG s n = 0 ∧ rtS s n = (if s.li then { s with td := true } else s) := by
  have h1 : ¬ n < 0 := by omega
  have h2 : ¬ n = 0 := by omega
  have h3 : ¬ (n ≤ 0 ∨ s.rs = true) := by rw [hr]; simp; omega
  refine ⟨?_, ?_, ?_, ?_⟩
  · simp [rtC, h1, h2, hr, srC, hu]
  · rw [rtN, if_neg h3, hu]; exact Nat.min_zero _
  · rw [rtG, if_neg h3, srG, if_pos hu]
  · rw [rtS, if_neg h3, srS, if_pos hu]
theorem m_read (h : Rf w U s x) (hU : ∀ q, w.heap.size ≤ q → U q) (n : Int) :
    Calls Tryd.prog 90 #[x, .int .i64 n] w fun e w' => ∃ y A4 n4 k4, e = .returned (.tuple #[y, .slice A4 n4 k4, .int .u32 (rtG s n), .int .i64 ((rtC s n : Nat) : Int)]) ∧ BsO w' (.slice A4 n4 k4) (s.un.take (rtN s n)) ∧ (∀ q, rdk (.slice A4 n4 k4) = some q → w.heap.size ≤ q ∧ q < w'.heap.size) ∧ Rf w' U (rtS s n) y ∧ Chg none_ w w' := by
  obtain ⟨c, l, o, A1, n1, k1, A2, n2, k2, rfl, hn, b1, b2⟩ := h
  obtain ⟨l2, kk2, by2, r2⟩ := b2.fact
  have q1 := hn.b2
  by_cases hneg : n < 0
  · have e1 : rtC s n = 2 := by simp [rtC, hneg]
    have e2 : rtN s n = 0 := by rw [rtN, if_pos (Or.inl (by omega))]
    have e3 : rtG s n = 0 := by rw [rtG, if_pos (Or.inl (by omega))]
    have e4 : rtS s n = s := by rw [rtS, if_pos (Or.inl (by omega))]
    rw [e1, e2, e3, e4]
    exact (qrd_neg (n := n) (hn := hneg) _ _ _ _ _ _ _ _ _ _ _ _ _ _ _ _ _ _ _ _ _ _).mono fun e w' ⟨h1, h2⟩ => ⟨_, _, _, _, h1, bso_nil _, rdk_nil, Rf.mk' hn (b1.keep h2) (b2.keep h2), h2⟩
  · cases hrs : s.rs
    · by_cases hz : n = 0
      · subst hz
        have e1 : rtC s 0 = 0 := by simp [rtC, hrs]
        have e2 : rtN s 0 = 0 := by rw [rtN, if_pos (Or.inl (by omega))]
        have e3 : rtG s 0 = 0 := by rw [rtG, if_pos (Or.inl (by omega))]
        have e4 : rtS s 0 = s := by rw [rtS, if_pos (Or.inl (by omega))]
        rw [e1, e2, e3, e4]
        have hx : rfA s c l o A1 n1 k1 A2 n2 k2 = #[.int .u32 s.id, .int .i64 s.gr.W, .int .i64 (s.stage : Int), .int .i64 (s.frame : Int), .bool s.mine, .bool s.acc, .slice A1 n1 k1, .bool s.cl, .bool s.lo, .int .i64 c, .slice A2 n2 k2, .int .i64 l, .int .i64 o, .bool s.li, .bool s.td, .bool false, .bool s.ct] := by rw [rfA, hrs]
        refine (show Calls _ _ _ _ _ from ?_ : Calls Tryd.prog 90 #[.agg (rfA s c l o A1 n1 k1 A2 n2 k2), .int .i64 0] w fun e w' => e = .returned (.tuple #[.agg (rfA s c l o A1 n1 k1 A2 n2 k2), .slice none 0 0, .int .u32 0, .int .i64 0]) ∧ Chg none_ w w').mono fun e w' ⟨h1, h2⟩ => ⟨_, _, _, _, h1, bso_nil _, rdk_nil, Rf.mk' hn (b1.keep h2) (b2.keep h2), h2⟩
        rw [hx]
        exact qrd_0 _ _ _ _ _ _ _ _ _ _ _ _ _ _ _ _ _ _ _ _ _
      · have hp : 0 < n := by omega
        by_cases hu : s.un = []
        · obtain ⟨e1, e2, e3, e4⟩ := rt_none hp hrs hu
          obtain rfl : n2 = 0 := by rw [hu] at l2; exact l2.symm
          rw [e1, e2, e3, e4]
          obtain ⟨id, mine, acc, frame, sg, stage, cl, lo, cr, un, li, td, gr, rs, ct⟩ := s
          simp only at hrs hu
          subst hrs
          subst hu
          cases li
          · cases ct
            · refine (qrd_0M (n := n) (hn := hp) (hm2 := hp) (us := []) (hu := rfl) (bu := by2) (hru := r2) (h2 := by first | omega | (dsimp only; omega)) (hk := by first | omega | (dsimp only; omega)) _ _ _ _ _ _ _ _ _ _ _ _ _ _ _ _ _ _).mono ?_
              rintro e w' ⟨A4, k4, A5, k5, h1, h2, h3, h4, h5, h6⟩
              exact ⟨_, _, _, _, h1, h2, h4, Rf.mk' hn (b1.keep h6) (Rfb.new h3 h5 hU), h6⟩
            · exact (qrd_ct (n := n) (hn := hp) _ _ _ _ _ _ _ _ _ _ _ _ _ _ _ _ _ _).mono fun e w' ⟨h1, h2⟩ => ⟨_, _, _, _, h1, bso_nil _, rdk_nil, Rf.mk' hn (b1.keep h2) (b2.keep h2), h2⟩
          · have hn' : RfN ⟨id, mine, acc, frame, sg, stage, cl, lo, cr, [], true, true, gr, false, ct⟩ c l o := ⟨hn.c0, hn.c1, hn.l0, hn.l1, hn.o0, hn.o1, hn.c, hn.g, hn.sgc, ⟨hn.ok.id1, hn.ok.id2, hn.ok.f1, hn.ok.f2, hn.ok.g2, hn.ok.cr, hn.ok.gr, hn.ok.W, (fun h => by cases h)⟩, hn.sg, hn.un⟩
            exact (qrd_eof (n := n) (hn := hp) _ _ _ _ _ _ _ _ _ _ _ _ _ _ _ _ _ _ _).mono fun e w' ⟨h1, h2⟩ => ⟨_, _, _, _, h1, bso_nil _, rdk_nil, Rf.mk' hn' (b1.keep h2) (b2.keep h2), h2⟩
        · obtain ⟨m, hm⟩ : ∃ m, Nat.min n.toNat s.un.length = m := ⟨_, rfl⟩
          obtain ⟨e1, e2, e3, e4⟩ := rt_pos hp hrs hu hm
          obtain ⟨m1, m2, m3⟩ := nat_min hm.symm
          have hpos : 0 < n2 := by rw [← l2]; exact List.length_pos_iff.2 hu
          rw [e1, e2, e3, e4]
          by_cases hli : (s.li || s.ct) = true
          · have hn' := rfn_read hn hrs m (by omega) hli
            rw [if_pos hli, if_pos hli]
            obtain ⟨id, mine, acc, frame, sg, stage, cl, lo, cr, un, li, td, gr, rs, ct⟩ := s
            simp only at hrs hu hli hn' l2 by2 r2 q1 m1 m2 m3 hm
            subst hrs
            by_cases hle : n ≤ n2
            · obtain rfl : n = (m : Int) := by omega
              cases li
              · cases ct
                · cases hli
                · refine (qrd_c (m := m) (hn := by first | omega | (dsimp only; omega)) (hm2 := by first | omega | (dsimp only; omega)) (us := un) (hu := l2) (bu := by2) (hru := r2) (h2 := by first | omega | (dsimp only; omega)) (hk := by first | omega | (dsimp only; omega)) _ _ _ _ _ _ _ _ _ _ _ _ _ _ _ _ _ _ _).mono ?_
                  rintro e w' ⟨A4, k4, A5, k5, h1, h2, h3, h4, h5, h6⟩
                  exact ⟨_, _, _, _, h1, h2, h4, Rf.mk' hn' (b1.keep h6) (Rfb.new h3 h5 hU), h6⟩
              · refine (qrd_h (m := m) (hn := by first | omega | (dsimp only; omega)) (hm2 := by first | omega | (dsimp only; omega)) (us := un) (hu := l2) (bu := by2) (hru := r2) (h2 := by first | omega | (dsimp only; omega)) (hk := by first | omega | (dsimp only; omega)) _ _ _ _ _ _ _ _ _ _ _ _ _ _ _ _ _ _ _ _).mono ?_
                rintro e w' ⟨A4, k4, A5, k5, h1, h2, h3, h4, h5, h6⟩
                exact ⟨_, _, _, _, h1, h2, h4, Rf.mk' hn' (b1.keep h6) (Rfb.new h3 h5 hU), h6⟩
            · obtain rfl : m = n2 := by omega
              have t1 : un.take m = un := List.take_of_length_le (by omega)
              have t2 : un.drop m = [] := List.drop_of_length_le (by omega)
              rw [t2] at hn' ⊢
              rw [t1]
              cases li
              · cases ct
                · cases hli
                · refine (qrd_cM (n := n) (hn := by first | omega | (dsimp only; omega)) (hm2 := by first | omega | (dsimp only; omega)) (us := un) (hu := l2) (bu := by2) (hru := r2) (h2 := by first | omega | (dsimp only; omega)) (hk := by first | omega | (dsimp only; omega)) (hz := by first | omega | (dsimp only; omega)) _ _ _ _ _ _ _ _ _ _ _ _ _ _ _ _ _ _ _).mono ?_
                  rintro e w' ⟨A4, k4, A5, k5, h1, h2, h3, h4, h5, h6⟩
                  exact ⟨_, _, _, _, h1, h2, h4, Rf.mk' hn' (b1.keep h6) (Rfb.new h3 h5 hU), h6⟩
              · refine (qrd_hM (n := n) (hn := by first | omega | (dsimp only; omega)) (hm2 := by first | omega | (dsimp only; omega)) (us := un) (hu := l2) (bu := by2) (hru := r2) (h2 := by first | omega | (dsimp only; omega)) (hk := by first | omega | (dsimp only; omega)) (hz := by first | omega | (dsimp only; omega)) _ _ _ _ _ _ _ _ _ _ _ _ _ _ _ _ _ _ _ _).mono ?_
                rintro e w' ⟨A4, k4, A5, k5, h1, h2, h3, h4, h5, h6⟩
                exact ⟨_, _, _, _, h1, h2, h4, Rf.mk' hn' (b1.keep h6) (Rfb.new h3 h5 hU), h6⟩
          · obtain ⟨hl0, hc0⟩ : s.li = false ∧ s.ct = false := by
              revert hli
              cases s.li <;> cases s.ct <;> simp
            have hn' := rfn_owe hn hrs hc0 hl0 m (by omega)
            obtain ⟨el, eo⟩ := hn.g hrs hc0 hl0
            have hu2 := hn.ok.un hl0 hc0 hrs
            have hC := rdC_ok hn.ok.gr m (by omega)
            obtain ⟨g1, g2, g3, g4, g5, g6, g7⟩ := hn.ok.gr
            have ht := thr_in g1 g2
            rw [if_neg hli, if_neg hli]
            obtain ⟨id, mine, acc, frame, sg, stage, cl, lo, cr, un, li, td, gr, rs, ct⟩ := s
            simp only at hrs hu hn' l2 by2 r2 q1 m1 m2 m3 hm hl0 hc0 el eo hu2 hC g1 g2 g3 g4 g5 g6 g7 ht
            subst hrs
            subst hl0
            subst hc0
            subst el
            subst eo
            by_cases hk : gr.o + m < thr gr.W
            · have hS : rdS gr m = { gr with u := gr.u - m, o := gr.o + m } := by rw [rdS, if_pos hC, if_pos hk]
              have hV : rdV gr m = 0 := by rw [rdV, if_pos hC, if_pos hk]
              rw [hS] at hn'
              simp only at hn'
              simp only [hS, hV]
              by_cases hle : n ≤ n2
              · obtain rfl : n = (m : Int) := by omega
                refine (qrd_k (m := m) (hn := by first | omega | (dsimp only; omega)) (hm2 := by first | omega | (dsimp only; omega)) (us := un) (hu := l2) (bu := by2) (hru := r2) (h2 := by first | omega | (dsimp only; omega)) (hk := by first | omega | (dsimp only; omega)) (o0 := by first | omega | (dsimp only; omega)) (o1 := by first | omega | (dsimp only; omega)) (W0 := by first | omega | (dsimp only; omega)) (W1 := by first | omega | (dsimp only; omega)) (ht := by first | omega | (dsimp only; omega)) _ _ _ _ _ _ _ _ _ _ _ _ _ _ _ _ _ _ _).mono ?_
                rintro e w' ⟨A4, k4, A5, k5, h1, h2, h3, h4, h5, h6⟩
                exact ⟨_, _, _, _, h1, h2, h4, Rf.mk' hn' (b1.keep h6) (Rfb.new h3 h5 hU), h6⟩
              · obtain rfl : m = n2 := by omega
                have t1 : un.take m = un := List.take_of_length_le (by omega)
                have t2 : un.drop m = [] := List.drop_of_length_le (by omega)
                rw [t2] at hn' ⊢
                rw [t1]
                refine (qrd_kM (n := n) (hn := by first | omega | (dsimp only; omega)) (hm2 := by first | omega | (dsimp only; omega)) (us := un) (hu := l2) (bu := by2) (hru := r2) (h2 := by first | omega | (dsimp only; omega)) (hk := by first | omega | (dsimp only; omega)) (hz := by first | omega | (dsimp only; omega)) (o0 := by first | omega | (dsimp only; omega)) (o1 := by first | omega | (dsimp only; omega)) (W0 := by first | omega | (dsimp only; omega)) (W1 := by first | omega | (dsimp only; omega)) (ht := by first | omega | (dsimp only; omega)) _ _ _ _ _ _ _ _ _ _ _ _ _ _ _ _ _ _ _).mono ?_
                rintro e w' ⟨A4, k4, A5, k5, h1, h2, h3, h4, h5, h6⟩
                exact ⟨_, _, _, _, h1, h2, h4, Rf.mk' hn' (b1.keep h6) (Rfb.new h3 h5 hU), h6⟩
            · have hS : rdS gr m = { gr with l := gr.l + (gr.o + m), u := gr.u - m, o := 0 } := by rw [rdS, if_pos hC, if_neg hk]
              have hV : rdV gr m = gr.o + m := by rw [rdV, if_pos hC, if_neg hk]
              rw [hS] at hn'
              simp only at hn'
              simp only [hS, hV]
              by_cases hle : n ≤ n2
              · obtain rfl : n = (m : Int) := by omega
                refine (qrd_g (m := m) (hn := by first | omega | (dsimp only; omega)) (hm2 := by first | omega | (dsimp only; omega)) (us := un) (hu := l2) (bu := by2) (hru := r2) (h2 := by first | omega | (dsimp only; omega)) (hk := by first | omega | (dsimp only; omega)) (o0 := by first | omega | (dsimp only; omega)) (o1 := by first | omega | (dsimp only; omega)) (W0 := by first | omega | (dsimp only; omega)) (W1 := by first | omega | (dsimp only; omega)) (ht := by first | omega | (dsimp only; omega)) (l0 := by first | omega | (dsimp only; omega)) (l1 := by first | omega | (dsimp only; omega)) (hq := by first | omega | (dsimp only; omega)) _ _ _ _ _ _ _ _ _ _ _ _ _ _ _ _ _ _ _).mono ?_
                rintro e w' ⟨A4, k4, A5, k5, h1, h2, h3, h4, h5, h6⟩
                exact ⟨_, _, _, _, h1, h2, h4, Rf.mk' hn' (b1.keep h6) (Rfb.new h3 h5 hU), h6⟩
              · obtain rfl : m = n2 := by omega
                have t1 : un.take m = un := List.take_of_length_le (by omega)
                have t2 : un.drop m = [] := List.drop_of_length_le (by omega)
                rw [t2] at hn' ⊢
                rw [t1]
                refine (qrd_gM (n := n) (hn := by first | omega | (dsimp only; omega)) (hm2 := by first | omega | (dsimp only; omega)) (us := un) (hu := l2) (bu := by2) (hru := r2) (h2 := by first | omega | (dsimp only; omega)) (hk := by first | omega | (dsimp only; omega)) (hz := by first | omega | (dsimp only; omega)) (o0 := by first | omega | (dsimp only; omega)) (o1 := by first | omega | (dsimp only; omega)) (W0 := by first | omega | (dsimp only; omega)) (W1 := by first | omega | (dsimp only; omega)) (ht := by first | omega | (dsimp only; omega)) (l0 := by first | omega | (dsimp only; omega)) (l1 := by first | omega | (dsimp only; omega)) (hq := by first | omega | (dsimp only; omega)) _ _ _ _ _ _ _ _ _ _ _ _ _ _ _ _ _ _ _).mono ?_
                rintro e w' ⟨A4, k4, A5, k5, h1, h2, h3, h4, h5, h6⟩
                exact ⟨_, _, _, _, h1, h2, h4, Rf.mk' hn' (b1.keep h6) (Rfb.new h3 h5 hU), h6⟩
    · have e1 : rtC s n = 26 := by simp [rtC, hneg, hrs]
      have e2 : rtN s n = 0 := by rw [rtN, if_pos (Or.inr hrs)]
      have e3 : rtG s n = 0 := by rw [rtG, if_pos (Or.inr hrs)]
      have e4 : rtS s n = s := by rw [rtS, if_pos (Or.inr hrs)]
      rw [e1, e2, e3, e4]
      obtain ⟨id, mine, acc, frame, sg, stage, cl, lo, cr, un, li, td, gr, rs, ct⟩ := s
      simp only at hrs
      subst hrs
      exact (qrd_rs (n := n) (hn := hneg) _ _ _ _ _ _ _ _ _ _ _ _ _ _ _ _ _ _ _ _ _).mono fun e w' ⟨h1, h2⟩ => ⟨_, _, _, _, h1, bso_nil _, rdk_nil, Rf.mk' hn (b1.keep h2) (b2.keep h2), h2⟩

theorem m_ready' (hn : RfN s c l o) (A1 A2 : Option Addr) (k1 n2 k2 : Nat) (u : World) : Calls Tryd.prog 62 #[.agg (rfA s c l o A1 s.sg.length k1 A2 n2 k2)] u fun e w' => e = .returned (.bool (rdyB s)) ∧ Chg none_ u w' := by
  obtain ⟨id, mine, acc, frame, sg, stage, cl, lo, cr, un, li, td, gr, rs, ct⟩ := s
  cases rs
  · cases ct
    · cases lo
      · have ec := hn.c rfl rfl rfl
        simp only at ec
        subst ec
        rcases sg with _ | ⟨z, sg⟩
        · cases mine
          · cases acc
            · exact (qready_no _ _ _ _ _ _ _ _ _ _ _ _ _ _ _ _ _)
            · exact (qready_za _ _ _ _ _ _ _ _ _ _ _ _ _ _ _ _)
          · exact (qready_zm _ _ _ _ _ _ _ _ _ _ _ _ _ _ _ _ _)
        · cases mine
          · cases acc
            · exact (qready_no _ _ _ _ _ _ _ _ _ _ _ _ _ _ _ _ _)
            · exact (qready_sa (h0 := Nat.succ_pos _) _ _ _ _ _ _ _ _ _ _ _ _ _ _ _ _ _)
          · exact (qready_sm (h0 := Nat.succ_pos _) _ _ _ _ _ _ _ _ _ _ _ _ _ _ _ _ _ _)
      · exact (qready_lo _ _ _ _ _ _ _ _ _ _ _ _ _ _ _ _ _ _ _).mono fun e w' ⟨h1, h2⟩ => ⟨by rw [h1]; simp [rdyB, barC], h2⟩
    · exact (qready_ct _ _ _ _ _ _ _ _ _ _ _ _ _ _ _ _ _ _ _ _)
  · exact (qready_rs _ _ _ _ _ _ _ _ _ _ _ _ _ _ _ _ _ _ _ _ _)
theorem m_next_no (h : Rf w U s x) (hr : rdyB s = false) : Calls Tryd.prog 92 #[x] w fun e w' => e = .returned (.tuple #[x, frZ, .bool false]) ∧ Chg none_ w w' := by
  obtain ⟨c, l, o, A1, n1, k1, A2, n2, k2, rfl, hn, b1, b2⟩ := h
  have e1 := b1.fact.1
  subst e1
  refine qnext_no (hrd := fun u => ?_) _ _ _ _ _ _ _ _ _ _ _ _ _ _ _ _ _ _ _ _ _ _
  have := m_ready' hn A1 A2 k1 n2 k2 u
  rw [hr] at this
  exact this
theorem m_next_yes (h : Rf w U s x) (hU : ∀ q, w.heap.size ≤ q → U q) (hr : rdyB s = true) :
    Calls Tryd.prog 92 #[x] w fun e w' => ∃ y A4 n4 k4, e = .returned (.tuple #[y, frV (if frE s then 4 else 0) s.id (frK s) (.slice A4 n4 k4), .bool true]) ∧ BsO w' (.slice A4 n4 k4) (s.sg.take (frK s)) ∧ (∀ q, rdk (.slice A4 n4 k4) = some q → w.heap.size ≤ q ∧ q < w'.heap.size) ∧ Rf w' U (frS s) y ∧ Chg none_ w w' := by
  obtain ⟨c, l, o, A1, n1, k1, A2, n2, k2, rfl, hn, b1, b2⟩ := h
  obtain ⟨l1, kk1, by1, r1⟩ := b1.fact
  have q1 := hn.b1
  have hrd : ∀ u, Calls Tryd.prog 62 #[.agg (rfA s c l o A1 n1 k1 A2 n2 k2)] u fun e w' => e = .returned (.bool true) ∧ Chg none_ u w' := fun u => by
    have := m_ready' hn A1 A2 k1 n2 k2 u
    rw [hr, l1] at this
    exact this
  obtain ⟨f1, f2⟩ := And.intro hn.ok.f1 hn.ok.f2
  have hcr := hn.ok.cr
  have hct : s.rs = false ∧ s.ct = false := by
    revert hr
    unfold rdyB barC
    cases s.rs <;> cases s.ct <;> simp
  have hlo : s.lo = false := (rdy_lo hr).1
  have hcl : s.sg = [] → s.cl = true := by
    revert hr
    unfold rdyB
    intro hr e
    rw [e] at hr
    simp at hr
    exact hr.2.2
  have hpos : s.sg ≠ [] → 0 < s.cr.h := by
    revert hr
    unfold rdyB
    intro hr e
    simp [e] at hr
    exact hr.2.2
  have ec := hn.c hct.1 hct.2 hlo
  obtain ⟨m, hm⟩ : ∃ m, frK s = m := ⟨_, rfl⟩
  obtain ⟨p, hp⟩ : ∃ p, Nat.min s.frame s.cr.h.toNat = p := ⟨_, rfl⟩
  obtain ⟨p1, p2, p3⟩ := nat_min hp.symm
  have hm' : Nat.min p s.sg.length = m := by rw [← hp]; exact hm
  obtain ⟨m1, m2, m3⟩ := nat_min hm'.symm
  have hcW := hn.ok.W
  obtain ⟨e1, e2, e3, e4, e5, e6⟩ := hcr
  have hsp : spC s.cr m = 0 := by simp [spC, show ¬ s.cr.W = 0 by omega, show ¬ s.cr.h < (m : Int) by omega, show ¬ (m : Int) < 0 by omega]
  have hspS : spS s.cr m = { s.cr with h := s.cr.h - m, sp := (s.cr.sp + m) % 18446744073709551616 } := by rw [spS, if_pos hsp]
  have hspk : (spS s.cr m).Ok := by
    rw [hspS]
    exact ⟨e1, e2, by show 0 ≤ s.cr.h - m; omega, by show s.cr.h - m ≤ s.cr.W; omega, by show 0 ≤ (s.cr.sp + m) % 18446744073709551616; omega, by show (s.cr.sp + m) % 18446744073709551616 ≤ _; omega⟩
  have hS : frS s = { s with sg := s.sg.drop m, cr := spS s.cr m, lo := s.lo || frE s } := by rw [frS, hm]
  have hE : frE s = (s.cl && decide (s.sg.length ≤ m)) := by rw [frE, hm]
  have hn' : ∀ b, b = frE s → RfN { s with sg := s.sg.drop m, cr := spS s.cr m, lo := b } (s.cr.h - m) l o := fun b hb => by
    refine ⟨by omega, by omega, hn.l0, hn.l1, hn.o0, hn.o1, fun _ _ _ => by show s.cr.h - m = (spS s.cr m).h; rw [hspS], hn.g, fun h => ?_, ⟨hn.ok.id1, hn.ok.id2, hn.ok.f1, hn.ok.f2, hn.ok.g2, hspk, hn.ok.gr, by rw [← hn.ok.W, hspS], hn.ok.un⟩, ?_, hn.un⟩
    · exact absurd (show s.ct = true from h) (by rw [hct.2]; simp)
    · show (s.sg.drop m).length ≤ s.stage
      have := hn.sg
      rw [List.length_drop]
      omega
  rw [hS, hm]
  by_cases hz : s.sg = []
  · have hcl' := hcl hz
    have hE' : frE s = true := by rw [hE, hz, hcl']; simp
    have hn'' := hn' true hE'.symm
    obtain rfl : n1 = 0 := by rw [hz] at l1; exact l1.symm
    obtain rfl : m = 0 := by omega
    rw [hE', Bool.or_true, if_pos rfl]
    rw [show s.cr.h - ((0 : Nat) : Int) = s.cr.h by omega] at hn''
    obtain ⟨id, mine, acc, frame, sg, stage, cl, lo, cr, un, li, td, gr, rs, ct⟩ := s
    simp only at hz hcl' hct hlo ec hn'' l1 by1 r1 f1 f2 p2 p3 e1 e2 e3 e4
    subst hcl'
    subst ec
    refine (qnext_z (hrd := hrd) (us := sg) (hu := l1) (bu := by1) (hru := r1) (h2 := by first | omega | (dsimp only; omega)) (hk := by first | omega | (dsimp only; omega)) (q := 0) (hq := Or.inl ⟨by omega, rfl⟩) (hm := Or.inl ⟨by omega, rfl⟩) (hmn := by first | omega | (dsimp only; omega)) (hm2 := by first | omega | (dsimp only; omega)) (hrn := by first | omega | (dsimp only; omega)) (hc0 := by first | omega | (dsimp only; omega)) (hc1 := by first | omega | (dsimp only; omega)) _ _ _ _ _ _ _ _ _ _ _ _ _ _ _ _ _ _ _ _).mono ?_
    rintro e w' ⟨A4, k4, A5, k5, h1, h2, h3, h4, h5, h6⟩
    exact ⟨_, _, _, _, h1, h2, h4, Rf.mk' hn'' (Rfb.new h3 h5 hU) (b2.keep h6), h6⟩
  · have hh := hpos hz
    have hln : 0 < s.sg.length := List.length_pos_iff.2 hz
    obtain ⟨q, hq⟩ : ∃ q : Nat, ((n1 : Int) ≤ s.cr.h ∧ q = n1) ∨ (s.cr.h < (n1 : Int) ∧ s.cr.h = (q : Int)) := by
      by_cases h : (n1 : Int) ≤ s.cr.h
      · exact ⟨n1, .inl ⟨h, rfl⟩⟩
      · exact ⟨s.cr.h.toNat, .inr ⟨by omega, by omega⟩⟩
    have hq2 : ((q : Int) ≤ (s.frame : Int) ∧ m = q) ∨ ((s.frame : Int) < (q : Int) ∧ (s.frame : Int) = (m : Int)) := by omega
    have hm0 : 0 < m := by omega
    by_cases hl : s.sg.length ≤ m
    · have hdr : n1 - m = 0 := by omega
      have t2 : s.sg.drop m = [] := List.drop_of_length_le (by omega)
      cases hc : s.cl
      · have hE' : frE s = false := by rw [hE, hc]; rfl
        have hn'' := hn' false hE'.symm
        rw [hE', Bool.or_false, if_neg (by simp)]
        rw [← hlo] at hn''
        obtain ⟨id, mine, acc, frame, sg, stage, cl, lo, cr, un, li, td, gr, rs, ct⟩ := s
        simp only at hc hct hlo ec hn'' l1 by1 r1 hq hq2 m1 m2 m3 q1 e1 e2 e3 e4 hl
        subst hc
        subst ec
        refine (qnext_f (hrd := hrd) (us := sg) (hu := l1) (bu := by1) (hru := r1) (h2 := by first | omega | (dsimp only; omega)) (hk := by first | omega | (dsimp only; omega)) (q := q) (m := m) (rn := n1 - m) (hq := hq) (hm := hq2) (hmn := by first | omega | (dsimp only; omega)) (hm2 := by first | omega | (dsimp only; omega)) (hrn := rfl) (hc0 := by first | omega | (dsimp only; omega)) (hc1 := by first | omega | (dsimp only; omega)) (hm0 := hm0) _ _ _ _ _ _ _ _ _ _ _ _ _ _ _ _ _ _ _ _ _).mono ?_
        rintro e w' ⟨A4, k4, A5, k5, h1, h2, h3, h4, h5, h6⟩
        exact ⟨_, _, _, _, h1, h2, h4, Rf.mk' hn'' (Rfb.new h3 h5 hU) (b2.keep h6), h6⟩
      · have hE' : frE s = true := by rw [hE, hc]; simp; omega
        have hn'' := hn' true hE'.symm
        rw [hE', Bool.or_true, if_pos rfl]
        obtain ⟨id, mine, acc, frame, sg, stage, cl, lo, cr, un, li, td, gr, rs, ct⟩ := s
        simp only at hc hct hlo ec hn'' l1 by1 r1 hq hq2 m1 m2 m3 q1 e1 e2 e3 e4 hl
        subst hc
        subst ec
        refine (qnext_e (hrd := hrd) (us := sg) (hu := l1) (bu := by1) (hru := r1) (h2 := by first | omega | (dsimp only; omega)) (hk := by first | omega | (dsimp only; omega)) (q := q) (m := m) (hq := hq) (hm := hq2) (hmn := by first | omega | (dsimp only; omega)) (hm2 := by first | omega | (dsimp only; omega)) (hrn := hdr) (hc0 := by first | omega | (dsimp only; omega)) (hc1 := by first | omega | (dsimp only; omega)) (hm0 := hm0) _ _ _ _ _ _ _ _ _ _ _ _ _ _ _ _ _ _ _ _ _).mono ?_
        rintro e w' ⟨A4, k4, A5, k5, h1, h2, h3, h4, h5, h6⟩
        exact ⟨_, _, _, _, h1, h2, h4, Rf.mk' hn'' (Rfb.new h3 h5 hU) (b2.keep h6), h6⟩
    · have hE' : frE s = false := by rw [hE]; simp [hl]
      have hn'' := hn' false hE'.symm
      rw [hE', Bool.or_false, if_neg (by simp)]
      rw [← hlo] at hn''
      cases hc : s.cl
      · obtain ⟨id, mine, acc, frame, sg, stage, cl, lo, cr, un, li, td, gr, rs, ct⟩ := s
        simp only at hc hct hlo ec hn'' l1 by1 r1 hq hq2 m1 m2 m3 q1 e1 e2 e3 e4 hl
        subst hc
        subst ec
        refine (qnext_f (hrd := hrd) (us := sg) (hu := l1) (bu := by1) (hru := r1) (h2 := by first | omega | (dsimp only; omega)) (hk := by first | omega | (dsimp only; omega)) (q := q) (m := m) (rn := n1 - m) (hq := hq) (hm := hq2) (hmn := by first | omega | (dsimp only; omega)) (hm2 := by first | omega | (dsimp only; omega)) (hrn := rfl) (hc0 := by first | omega | (dsimp only; omega)) (hc1 := by first | omega | (dsimp only; omega)) (hm0 := hm0) _ _ _ _ _ _ _ _ _ _ _ _ _ _ _ _ _ _ _ _ _).mono ?_
        rintro e w' ⟨A4, k4, A5, k5, h1, h2, h3, h4, h5, h6⟩
        exact ⟨_, _, _, _, h1, h2, h4, Rf.mk' hn'' (Rfb.new h3 h5 hU) (b2.keep h6), h6⟩
      · obtain ⟨id, mine, acc, frame, sg, stage, cl, lo, cr, un, li, td, gr, rs, ct⟩ := s
        simp only at hc hct hlo ec hn'' l1 by1 r1 hq hq2 m1 m2 m3 q1 e1 e2 e3 e4 hl
        subst hc
        subst ec
        refine (qnext_c (hrd := hrd) (us := sg) (hu := l1) (bu := by1) (hru := r1) (h2 := by first | omega | (dsimp only; omega)) (hk := by first | omega | (dsimp only; omega)) (q := q) (m := m) (rn := n1 - m) (hq := hq) (hm := hq2) (hmn := by first | omega | (dsimp only; omega)) (hm2 := by first | omega | (dsimp only; omega)) (hrn := rfl) (hc0 := by first | omega | (dsimp only; omega)) (hc1 := by first | omega | (dsimp only; omega)) (hz := by first | omega | (dsimp only; omega)) (hm0 := hm0) _ _ _ _ _ _ _ _ _ _ _ _ _ _ _ _ _ _ _ _ _).mono ?_
        rintro e w' ⟨A4, k4, A5, k5, h1, h2, h3, h4, h5, h6⟩
        exact ⟨_, _, _, _, h1, h2, h4, Rf.mk' hn'' (Rfb.new h3 h5 hU) (b2.keep h6), h6⟩

/-- A new stream of the document agrees with the model's. -/
theorem rf_new (w : World) (U : Nat → Prop) {id : Int} (mine : Bool) {W stage frame : Nat} (h1 : 1 ≤ id) (h2 : id ≤ 4294967295) (w1 : 1 ≤ W) (w2 : W ≤ 2147483647) (s2 : stage ≤ 1048576) (f1 : 1 ≤ frame) (f2 : frame ≤ 65536) : Rf w U (Sm.new id mine W stage frame) (rfNew id mine W stage frame) :=
  Rf.mk' (s := Sm.new id mine W stage frame) (c := W) (l := W) (o := 0) ⟨by omega, by omega, by omega, by omega, by omega, by omega, fun _ _ _ => rfl, fun _ _ _ => ⟨rfl, rfl⟩, fun _ => rfl, Sm.new_ok h1 h2 w1 w2 s2 f1 f2, Nat.zero_le _, by show (0 : Int) ≤ (W : Int); omega⟩ (Rfb.nil _ _) (Rfb.nil _ _)
set_option maxRecDepth 100000 in
set_option maxHeartbeats 2000000 in
theorem qnew_no (w : World) (id : Int) (mine : Bool) (W stage frame : Int) (x3 x4 x5 x6 x7 : Value) (h1 : 1 ≤ id) (hk : ¬ (1 ≤ W ∧ W ≤ 2147483647 ∧ 1 ≤ stage ∧ stage ≤ 1048576 ∧ 1 ≤ frame ∧ frame ≤ 65536)) :
    Calls Tryd.prog 50 #[.int .u32 id, .agg #[.int .i64 W, .int .i64 stage, .int .i64 frame, x3, x4, x5, x6, x7], .bool mine] w fun e w' => e = .returned (.tuple #[rfZ, .int .i64 10]) ∧ Chg none_ w w' := by
  have a1 : ¬ id = 0 := by omega
  have HK := Lib.hid hk
  clear h1 hk
  by_cases a2 : W < 1
  · clear HK
    go_enter Tryd.func50, Tryd.ntmps50
    go_wp2
    refine bodyPost_ret (by simp [results, Tryd.results50, go_sem]; try rfl) rfl ?_
    exact ⟨rfl, ((Chg.refl none_ w).alloc _).alloc _⟩
  · by_cases a3 : 2147483647 < W
    · clear HK
      go_enter Tryd.func50, Tryd.ntmps50
      go_wp2
      refine bodyPost_ret (by simp [results, Tryd.results50, go_sem]; try rfl) rfl ?_
      exact ⟨rfl, ((Chg.refl none_ w).alloc _).alloc _⟩
    · by_cases a4 : stage < 1
      · clear HK
        go_enter Tryd.func50, Tryd.ntmps50
        go_wp2
        refine bodyPost_ret (by simp [results, Tryd.results50, go_sem]; try rfl) rfl ?_
        exact ⟨rfl, ((Chg.refl none_ w).alloc _).alloc _⟩
      · by_cases a5 : 1048576 < stage
        · clear HK
          go_enter Tryd.func50, Tryd.ntmps50
          go_wp2
          refine bodyPost_ret (by simp [results, Tryd.results50, go_sem]; try rfl) rfl ?_
          exact ⟨rfl, ((Chg.refl none_ w).alloc _).alloc _⟩
        · by_cases a6 : frame < 1
          · clear HK
            go_enter Tryd.func50, Tryd.ntmps50
            go_wp2
            refine bodyPost_ret (by simp [results, Tryd.results50, go_sem]; try rfl) rfl ?_
            exact ⟨rfl, ((Chg.refl none_ w).alloc _).alloc _⟩
          · have a7 : 65536 < frame := by have := HK.out; omega
            clear HK
            go_enter Tryd.func50, Tryd.ntmps50
            go_wp2
            refine bodyPost_ret (by simp [results, Tryd.results50, go_sem]; try rfl) rfl ?_
            exact ⟨rfl, ((Chg.refl none_ w).alloc _).alloc _⟩
end
end Go.Proofs.YthalmjjbamglgaaDoor
