/-
  The document's stream as a value that agrees with a model: its functions over the model.
  No condition of its own.
-/
import Derived.Test.YthalmjjbamglgaaDoorPlA
import Derived.Test.YthalmjjbamglgaaDoorPlV
import Derived.Test.YthalmjjbamglgaaDoorPlB
import Derived.Test.YthalmjjbamglgaaDoorPlS
namespace Go.Proofs.YthalmjjbamglgaaDoor
open Go.RowKit

section
variable {w w' : World} {U U' S : Nat → Prop} {s : Sm} {x : Value} {c l o : Int} {A A1 A2 : Option Addr} {n k n1 k1 n2 k2 : Nat} {xs : List Int}
theorem m_accept (h : Rf w U s x) : Calls Tryd.prog 86 #[x] w fun e w' => ∃ y, e = .returned (.tuple #[y, .int .i64 ((acC s : Nat) : Int)]) ∧ Rf w' U (acS s) y ∧ Chg none_ w w' := by
  obtain ⟨c, l, o, A1, n1, k1, A2, n2, k2, rfl, hn, b1, b2⟩ := h
  obtain ⟨id, mine, acc, frame, sg, stage, cl, lo, cr, un, li, td, gr, rs, ct⟩ := s
  cases rs
  · cases ct
    · cases acc
      · have hn' : RfN ⟨id, mine, true, frame, sg, stage, cl, lo, cr, un, li, td, gr, false, false⟩ c l o := ⟨hn.c0, hn.c1, hn.l0, hn.l1, hn.o0, hn.o1, hn.c, hn.g, hn.sgc, ⟨hn.ok.id1, hn.ok.id2, hn.ok.f1, hn.ok.f2, hn.ok.g2, hn.ok.cr, hn.ok.gr, hn.ok.W, hn.ok.un⟩, hn.sg, hn.un⟩
        exact (qacc0 _ _ _ _ _ _ _ _ _ _ _ _ _ _ _ _ _ _ _).mono fun e w' ⟨h1, h2⟩ => ⟨_, h1, Rf.mk' hn' (b1.keep h2) (b2.keep h2), h2⟩
      · exact (qacc23 _ _ _ _ _ _ _ _ _ _ _ _ _ _ _ _ _ _ _).mono fun e w' ⟨h1, h2⟩ => ⟨_, h1, Rf.mk' hn (b1.keep h2) (b2.keep h2), h2⟩
    · exact (qacc27 _ _ _ _ _ _ _ _ _ _ _ _ _ _ _ _ _ _ _ _).mono fun e w' ⟨h1, h2⟩ => ⟨_, h1, Rf.mk' hn (b1.keep h2) (b2.keep h2), h2⟩
  · exact (qacc26 _ _ _ _ _ _ _ _ _ _ _ _ _ _ _ _ _ _ _ _ _).mono fun e w' ⟨h1, h2⟩ => ⟨_, h1, Rf.mk' hn (b1.keep h2) (b2.keep h2), h2⟩
theorem m_close (h : Rf w U s x) : Calls Tryd.prog 89 #[x] w fun e w' => ∃ y, e = .returned (.tuple #[y, .int .i64 ((wrC s : Nat) : Int)]) ∧ Rf w' U (clS s) y ∧ Chg none_ w w' := by
  obtain ⟨c, l, o, A1, n1, k1, A2, n2, k2, rfl, hn, b1, b2⟩ := h
  obtain ⟨id, mine, acc, frame, sg, stage, cl, lo, cr, un, li, td, gr, rs, ct⟩ := s
  cases rs
  · cases ct
    · cases cl
      · have hn' : RfN ⟨id, mine, acc, frame, sg, stage, true, lo, cr, un, li, td, gr, false, false⟩ c l o := ⟨hn.c0, hn.c1, hn.l0, hn.l1, hn.o0, hn.o1, hn.c, hn.g, hn.sgc, ⟨hn.ok.id1, hn.ok.id2, hn.ok.f1, hn.ok.f2, hn.ok.g2, hn.ok.cr, hn.ok.gr, hn.ok.W, hn.ok.un⟩, hn.sg, hn.un⟩
        exact (qcl0 _ _ _ _ _ _ _ _ _ _ _ _ _ _ _ _ _ _ _).mono fun e w' ⟨h1, h2⟩ => ⟨_, h1, Rf.mk' hn' (b1.keep h2) (b2.keep h2), h2⟩
      · exact (qcl24 _ _ _ _ _ _ _ _ _ _ _ _ _ _ _ _ _ _ _).mono fun e w' ⟨h1, h2⟩ => ⟨_, h1, Rf.mk' hn (b1.keep h2) (b2.keep h2), h2⟩
    · exact (qcl27 _ _ _ _ _ _ _ _ _ _ _ _ _ _ _ _ _ _ _ _).mono fun e w' ⟨h1, h2⟩ => ⟨_, h1, Rf.mk' hn (b1.keep h2) (b2.keep h2), h2⟩
  · exact (qcl26 _ _ _ _ _ _ _ _ _ _ _ _ _ _ _ _ _ _ _ _ _).mono fun e w' ⟨h1, h2⟩ => ⟨_, h1, Rf.mk' hn (b1.keep h2) (b2.keep h2), h2⟩
theorem m_write (h : Rf w U s x) (hU : ∀ q, w.heap.size ≤ q → U q) (A3 : Option Addr) (n3 k3 : Nat) (ys : List Int) (hy : ys.length = n3) (hby : Byt ys) (hry : Rd w A3 n3 fun i => .int .u8 (ys.getD i 0)) (h3 : n3 ≤ 140737488355328) (h4 : n3 ≤ k3) :
    Calls Tryd.prog 88 #[x, .slice A3 n3 k3] w fun e w' => ∃ y, e = .returned (.tuple #[y, .int .i64 ((wrN s ys : Nat) : Int), .int .i64 ((wrC s : Nat) : Int)]) ∧ Rf w' U (wrS s ys) y ∧ Chg none_ w w' := by
  obtain ⟨c, l, o, A1, n1, k1, A2, n2, k2, rfl, hn, b1, b2⟩ := h
  obtain ⟨l1, kk1, by1, r1⟩ := b1.fact
  obtain ⟨q1, q2⟩ := And.intro hn.b1 hn.sg
  have q3 := hn.ok.g2
  obtain ⟨id, mine, acc, frame, sg, stage, cl, lo, cr, un, li, td, gr, rs, ct⟩ := s
  simp only at l1 q1 q2 q3 by1 r1
  cases rs
  · cases ct
    · cases cl
      · obtain ⟨m, hm⟩ : ∃ m, Nat.min ys.length (stage - sg.length) = m := ⟨_, rfl⟩
        have hN : wrN ⟨id, mine, acc, frame, sg, stage, false, lo, cr, un, li, td, gr, false, false⟩ ys = m := hm
        have hS : wrS ⟨id, mine, acc, frame, sg, stage, false, lo, cr, un, li, td, gr, false, false⟩ ys = ⟨id, mine, acc, frame, sg ++ ys.take m, stage, false, lo, cr, un, li, td, gr, false, false⟩ := by unfold wrS; rw [hN]
        obtain ⟨m1, m2, m3⟩ := nat_min hm.symm
        have hn' : RfN ⟨id, mine, acc, frame, sg ++ ys.take m, stage, false, lo, cr, un, li, td, gr, false, false⟩ c l o := ⟨hn.c0, hn.c1, hn.l0, hn.l1, hn.o0, hn.o1, hn.c, hn.g, (fun h => by cases h), ⟨hn.ok.id1, hn.ok.id2, hn.ok.f1, hn.ok.f2, hn.ok.g2, hn.ok.cr, hn.ok.gr, hn.ok.W, hn.ok.un⟩, by show (sg ++ ys.take m).length ≤ stage; rw [List.length_append, List.length_take]; omega, hn.un⟩
        rw [hN, hS]
        by_cases hr : n3 ≤ stage - n1
        · have em : m = n3 := by omega
          subst em
          have et : ys.take m = ys := List.take_of_length_le (by omega)
          rw [et] at hn' ⊢
          exact (qwr_all (us := sg) (ys := ys) (hu := l1) (hy := hy) (bu := by1) (by_ := hby) (hru := r1) (hry := hry) (h2 := by (try dsimp only); omega) (h3 := by (try dsimp only); omega) (h4 := h4) (s0 := by (try dsimp only); omega) (s1 := by (try dsimp only); omega) (hr := by (try dsimp only); omega) _ _ _ _ _ _ _ _ _ _ _ _ _ _ _ _ _ _ _ _ _ _).mono fun e w' ⟨A5, k5, h1, h2, h3, h4⟩ => ⟨_, h1, Rf.mk' hn' (Rfb.new h2 h3 hU) (b2.keep h4), h4⟩
        · exact (qwr_room (us := sg) (ys := ys) (hu := l1) (hy := hy) (bu := by1) (by_ := hby) (hru := r1) (hry := hry) (h2 := by (try dsimp only); omega) (h3 := by (try dsimp only); omega) (h4 := h4) (s0 := by (try dsimp only); omega) (s1 := by (try dsimp only); omega) (m := m) (hr := by (try dsimp only); omega) (hm := by (try dsimp only); omega) _ _ _ _ _ _ _ _ _ _ _ _ _ _ _ _ _ _ _ _ _ _).mono fun e w' ⟨A5, k5, h1, h2, h3, h4⟩ => ⟨_, h1, Rf.mk' hn' (Rfb.new h2 h3 hU) (b2.keep h4), h4⟩
      · rw [wrS_no (by simp [wrC, barC])]
        exact (qwr24 _ _ _ _ _ _ _ _ _ _ _ _ _ _ _ _ _ _ _ _ _ _).mono fun e w' ⟨h1, h2⟩ => ⟨_, h1, Rf.mk' hn (b1.keep h2) (b2.keep h2), h2⟩
    · rw [wrS_no (by simp [wrC, barC])]
      exact (qwr27 _ _ _ _ _ _ _ _ _ _ _ _ _ _ _ _ _ _ _ _ _ _ _).mono fun e w' ⟨h1, h2⟩ => ⟨_, h1, Rf.mk' hn (b1.keep h2) (b2.keep h2), h2⟩
  · rw [wrS_no (by simp [wrC, barC])]
    exact (qwr26 _ _ _ _ _ _ _ _ _ _ _ _ _ _ _ _ _ _ _ _ _ _ _ _).mono fun e w' ⟨h1, h2⟩ => ⟨_, h1, Rf.mk' hn (b1.keep h2) (b2.keep h2), h2⟩
theorem m_arrive (h : Rf w U s x) (hU : ∀ q, w.heap.size ≤ q → U q) (A3 : Option Addr) (n3 k3 : Nat) (ys : List Int) (hy : ys.length = n3) (hby : Byt ys) (hry : Rd w A3 n3 fun i => .int .u8 (ys.getD i 0)) (h3 : n3 ≤ 140737488355328) (fin : Bool) :
    Calls Tryd.prog 94 #[x, .slice A3 n3 k3, .bool fin] w fun e w' => ∃ y, e = .returned (.tuple #[y, .int .i64 ((avC s ys.length : Nat) : Int)]) ∧ Rf w' U (avS s ys fin) y ∧ Chg none_ w w' := by
  obtain ⟨c, l, o, A1, n1, k1, A2, n2, k2, rfl, hn, b1, b2⟩ := h
  obtain ⟨l2, kk2, by2, r2⟩ := b2.fact
  have q1 := hn.b2
  obtain ⟨id, mine, acc, frame, sg, stage, cl, lo, cr, un, li, td, gr, rs, ct⟩ := s
  simp only at l2 q1 by2 r2
  cases rs
  · cases ct
    · cases li
      · obtain ⟨el, eo⟩ := hn.g rfl rfl rfl
        simp only at el eo
        have eu := hn.ok.un rfl rfl rfl
        simp only at eu
        have gok := hn.ok.gr
        simp only at gok
        obtain ⟨g1, g2, g3, g4, g5, g6, g7⟩ := gok
        subst el
        by_cases hl : gr.l < (n3 : Int)
        · have hC : avC ⟨id, mine, acc, frame, sg, stage, cl, lo, cr, un, false, td, gr, false, false⟩ ys.length = 16 := by rw [hy]; simp [avC, hl]
          rw [avS_no (by rw [hC]; decide), hC]
          exact (qar_no (hl := hl) _ _ _ _ _ _ _ _ _ _ _ _ _ _ _ _ _ _ _ _ _ _ _).mono fun e w' ⟨h1, h2⟩ => ⟨_, h1, Rf.mk' hn (b1.keep h2) (b2.keep h2), h2⟩
        · have hC : avC ⟨id, mine, acc, frame, sg, stage, cl, lo, cr, un, false, td, gr, false, false⟩ ys.length = 0 := by rw [hy]; simp [avC, hl]
          have hS : avS ⟨id, mine, acc, frame, sg, stage, cl, lo, cr, un, false, td, gr, false, false⟩ ys fin = ⟨id, mine, acc, frame, sg, stage, cl, lo, cr, un ++ ys, fin, td, { gr with l := gr.l - n3, u := gr.u + n3 }, false, false⟩ := by simp [avS, hy, hl]
          have hok : ({ gr with l := gr.l - n3, u := gr.u + n3 } : Gr).Ok := ⟨g1, g2, by show 0 ≤ gr.l - n3; omega, by show 0 ≤ gr.u + n3; omega, g5, by show gr.l - n3 + (gr.u + n3) + gr.o = gr.W; omega, g7⟩
          have hok' : (⟨id, mine, acc, frame, sg, stage, cl, lo, cr, un ++ ys, fin, td, { gr with l := gr.l - n3, u := gr.u + n3 }, false, false⟩ : Sm).Ok := ⟨hn.ok.id1, hn.ok.id2, hn.ok.f1, hn.ok.f2, hn.ok.g2, hn.ok.cr, hok, hn.ok.W, fun _ _ _ => by show gr.u + n3 = ((un ++ ys).length : Int); rw [List.length_append, Int.natCast_add, hy, eu]⟩
          have hun : ((un ++ ys).length : Int) ≤ gr.W := by rw [List.length_append]; omega
          rw [hC, hS]
          cases fin
          · have hn' : RfN ⟨id, mine, acc, frame, sg, stage, cl, lo, cr, un ++ ys, false, td, { gr with l := gr.l - n3, u := gr.u + n3 }, false, false⟩ c (gr.l - n3) o := ⟨hn.c0, hn.c1, by omega, by omega, hn.o0, hn.o1, hn.c, fun _ _ _ => ⟨rfl, eo⟩, hn.sgc, hok', hn.sg, hun⟩
            exact (qar_ok_false (us := un) (ys := ys) (hu := l2) (hy := hy) (bu := by2) (by_ := hby) (hru := r2) (hry := hry) (h2 := by (try dsimp only); omega) (h3 := by (try dsimp only); omega) (hl := by (try dsimp only); omega) (hl2 := by (try dsimp only); omega) _ _ _ _ _ _ _ _ _ _ _ _ _ _ _ _ _ _ _ _ _ _).mono fun e w' ⟨A5, k5, h1, h2, h3, h4⟩ => ⟨_, h1, Rf.mk' hn' (b1.keep h4) (Rfb.new h2 h3 hU), h4⟩
          · have hn' : RfN ⟨id, mine, acc, frame, sg, stage, cl, lo, cr, un ++ ys, true, td, { gr with l := gr.l - n3, u := gr.u + n3 }, false, false⟩ c 0 0 := ⟨hn.c0, hn.c1, by omega, by omega, by omega, by omega, hn.c, (fun _ _ h => by cases h), hn.sgc, hok', hn.sg, hun⟩
            exact (qar_ok_true (us := un) (ys := ys) (hu := l2) (hy := hy) (bu := by2) (by_ := hby) (hru := r2) (hry := hry) (h2 := by (try dsimp only); omega) (h3 := by (try dsimp only); omega) (hl := by (try dsimp only); omega) (hl2 := by (try dsimp only); omega) _ _ _ _ _ _ _ _ _ _ _ _ _ _ _ _ _ _ _ _ _ _).mono fun e w' ⟨A5, k5, h1, h2, h3, h4⟩ => ⟨_, h1, Rf.mk' hn' (b1.keep h4) (Rfb.new h2 h3 hU), h4⟩
      · exact (qar_li _ _ _ _ _ _ _ _ _ _ _ _ _ _ _ _ _ _ _ _ _ _ _).mono fun e w' ⟨h1, h2⟩ => ⟨_, h1, Rf.mk' hn (b1.keep h2) (b2.keep h2), h2⟩
    · exact (qar_ct _ _ _ _ _ _ _ _ _ _ _ _ _ _ _ _ _ _ _ _ _ _ _ _).mono fun e w' ⟨h1, h2⟩ => ⟨_, h1, Rf.mk' hn (b1.keep h2) (b2.keep h2), h2⟩
  · exact (qar_rs _ _ _ _ _ _ _ _ _ _ _ _ _ _ _ _ _ _ _ _ _ _ _ _ _).mono fun e w' ⟨h1, h2⟩ => ⟨_, h1, Rf.mk' hn (b1.keep h2) (b2.keep h2), h2⟩
theorem m_grant (h : Rf w U s x) (d : Int) (d0 : 0 ≤ d) (d1 : d ≤ 4294967295) (fin : Bool) :
    Calls Tryd.prog 95 #[x, .int .u32 d, .bool fin] w fun e w' => ∃ y, e = .returned (.tuple #[y, .int .i64 ((gnC s d : Nat) : Int)]) ∧ Rf w' U (gnS s d fin) y ∧ Chg none_ w w' := by
  obtain ⟨c, l, o, A1, n1, k1, A2, n2, k2, rfl, hn, b1, b2⟩ := h
  obtain ⟨id, mine, acc, frame, sg, stage, cl, lo, cr, un, li, td, gr, rs, ct⟩ := s
  cases rs
  · cases ct
    · cases lo
      · have ec := hn.c rfl rfl rfl
        simp only at ec
        have cok := hn.ok.cr
        have cW := hn.ok.W
        simp only at cok cW
        obtain ⟨e1, e2, e3, e4, e5, e6⟩ := cok
        subst ec
        by_cases hl : cr.W < cr.h + d
        · have hC : gnC ⟨id, mine, acc, frame, sg, stage, cl, false, cr, un, li, td, gr, false, false⟩ d = 17 := by simp [gnC, gaC, hl, show cr.W ≠ 0 by omega]
          rw [gnS_no (by rw [hC]; decide), hC]
          exact (qgn_no (d := d) (d0 := d0) (d1 := d1) (c0 := by (try dsimp only); omega) (c1 := by (try dsimp only); omega) (hc := by simp only; omega) _ _ _ _ _ _ _ _ _ _ _ _ _ _ _ _ _ _ _ _).mono fun e w' ⟨h1, h2⟩ => ⟨_, h1, Rf.mk' hn (b1.keep h2) (b2.keep h2), h2⟩
        · have hg : gaC cr d = 0 := by simp [gaC, hl, show cr.W ≠ 0 by omega]
          have hgs : gaS cr d = { cr with h := cr.h + d } := by simp [gaS, hg]
          have hC : gnC ⟨id, mine, acc, frame, sg, stage, cl, false, cr, un, li, td, gr, false, false⟩ d = 0 := by simp [gnC, hg]
          have hcr : ({ cr with h := cr.h + d } : Cr).Ok := ⟨e1, e2, by show 0 ≤ cr.h + d; omega, by show cr.h + d ≤ cr.W; omega, e5, e6⟩
          have hok : ∀ b : Bool, (b = false → li = false) → (⟨id, mine, acc, frame, sg, stage, cl, false, { cr with h := cr.h + d }, un, b, td, gr, false, false⟩ : Sm).Ok := fun b hb => ⟨hn.ok.id1, hn.ok.id2, hn.ok.f1, hn.ok.f2, hn.ok.g2, hcr, hn.ok.gr, hn.ok.W, fun h _ _ => hn.ok.un (hb h) rfl rfl⟩
          rw [hC]
          cases fin
          · have hS : gnS ⟨id, mine, acc, frame, sg, stage, cl, false, cr, un, li, td, gr, false, false⟩ d false = ⟨id, mine, acc, frame, sg, stage, cl, false, { cr with h := cr.h + d }, un, li, td, gr, false, false⟩ := by simp [gnS, hC, gnL, hgs]
            have hn' : RfN ⟨id, mine, acc, frame, sg, stage, cl, false, { cr with h := cr.h + d }, un, li, td, gr, false, false⟩ (cr.h + d) l o := ⟨by omega, by omega, hn.l0, hn.l1, hn.o0, hn.o1, fun _ _ _ => rfl, hn.g, hn.sgc, hok li (fun h => h), hn.sg, hn.un⟩
            rw [hS]
            exact (qgn_f (d := d) (d0 := d0) (d1 := d1) (c0 := by (try dsimp only); omega) (c1 := by (try dsimp only); omega) (hc := by simp only; omega) _ _ _ _ _ _ _ _ _ _ _ _ _ _ _ _ _ _ _).mono fun e w' ⟨h1, h2⟩ => ⟨_, h1, Rf.mk' hn' (b1.keep h2) (b2.keep h2), h2⟩
          · cases li
            · have hS : gnS ⟨id, mine, acc, frame, sg, stage, cl, false, cr, un, false, td, gr, false, false⟩ d true = ⟨id, mine, acc, frame, sg, stage, cl, false, { cr with h := cr.h + d }, un, true, td, gr, false, false⟩ := by simp [gnS, hC, gnL, hgs]
              have hn' : RfN ⟨id, mine, acc, frame, sg, stage, cl, false, { cr with h := cr.h + d }, un, true, td, gr, false, false⟩ (cr.h + d) 0 0 := ⟨by omega, by omega, by omega, by omega, by omega, by omega, fun _ _ _ => rfl, (fun _ _ h => by cases h), hn.sgc, hok true (fun h => by cases h), hn.sg, hn.un⟩
              rw [hS]
              exact (qgn_e (d := d) (d0 := d0) (d1 := d1) (c0 := by (try dsimp only); omega) (c1 := by (try dsimp only); omega) (hc := by simp only; omega) _ _ _ _ _ _ _ _ _ _ _ _ _ _ _ _ _ _).mono fun e w' ⟨h1, h2⟩ => ⟨_, h1, Rf.mk' hn' (b1.keep h2) (b2.keep h2), h2⟩
            · have hS : gnS ⟨id, mine, acc, frame, sg, stage, cl, false, cr, un, true, td, gr, false, false⟩ d true = ⟨id, mine, acc, frame, sg, stage, cl, false, { cr with h := cr.h + d }, un, true, td, gr, false, false⟩ := by simp [gnS, hC, gnL, hgs]
              have hn' : RfN ⟨id, mine, acc, frame, sg, stage, cl, false, { cr with h := cr.h + d }, un, true, td, gr, false, false⟩ (cr.h + d) l o := ⟨by omega, by omega, hn.l0, hn.l1, hn.o0, hn.o1, fun _ _ _ => rfl, hn.g, hn.sgc, hok true (fun h => by cases h), hn.sg, hn.un⟩
              rw [hS]
              exact (qgn_l (d := d) (d0 := d0) (d1 := d1) (c0 := by (try dsimp only); omega) (c1 := by (try dsimp only); omega) (hc := by simp only; omega) _ _ _ _ _ _ _ _ _ _ _ _ _ _ _ _ _ _).mono fun e w' ⟨h1, h2⟩ => ⟨_, h1, Rf.mk' hn' (b1.keep h2) (b2.keep h2), h2⟩
      · cases fin
        · have hS : gnS ⟨id, mine, acc, frame, sg, stage, cl, true, cr, un, li, td, gr, false, false⟩ d false = ⟨id, mine, acc, frame, sg, stage, cl, true, cr, un, li, td, gr, false, false⟩ := by simp [gnS, gnC, gnL]
          rw [hS]
          exact (qgn_fL (d := d) _ _ _ _ _ _ _ _ _ _ _ _ _ _ _ _ _ _ _).mono fun e w' ⟨h1, h2⟩ => ⟨_, h1, Rf.mk' hn (b1.keep h2) (b2.keep h2), h2⟩
        · cases li
          · have hS : gnS ⟨id, mine, acc, frame, sg, stage, cl, true, cr, un, false, td, gr, false, false⟩ d true = ⟨id, mine, acc, frame, sg, stage, cl, true, cr, un, true, td, gr, false, false⟩ := by simp [gnS, gnC, gnL]
            have hn' : RfN ⟨id, mine, acc, frame, sg, stage, cl, true, cr, un, true, td, gr, false, false⟩ c 0 0 := ⟨hn.c0, hn.c1, by omega, by omega, by omega, by omega, hn.c, (fun _ _ h => by cases h), hn.sgc, ⟨hn.ok.id1, hn.ok.id2, hn.ok.f1, hn.ok.f2, hn.ok.g2, hn.ok.cr, hn.ok.gr, hn.ok.W, (fun h => by cases h)⟩, hn.sg, hn.un⟩
            rw [hS]
            exact (qgn_eL (d := d) _ _ _ _ _ _ _ _ _ _ _ _ _ _ _ _ _ _).mono fun e w' ⟨h1, h2⟩ => ⟨_, h1, Rf.mk' hn' (b1.keep h2) (b2.keep h2), h2⟩
          · have hS : gnS ⟨id, mine, acc, frame, sg, stage, cl, true, cr, un, true, td, gr, false, false⟩ d true = ⟨id, mine, acc, frame, sg, stage, cl, true, cr, un, true, td, gr, false, false⟩ := by simp [gnS, gnC, gnL]
            rw [hS]
            exact (qgn_lL (d := d) _ _ _ _ _ _ _ _ _ _ _ _ _ _ _ _ _ _).mono fun e w' ⟨h1, h2⟩ => ⟨_, h1, Rf.mk' hn (b1.keep h2) (b2.keep h2), h2⟩
    · exact (qgn_ct _ _ _ _ _ _ _ _ _ _ _ _ _ _ _ _ _ _ _ _ _ _).mono fun e w' ⟨h1, h2⟩ => ⟨_, h1, Rf.mk' hn (b1.keep h2) (b2.keep h2), h2⟩
  · exact (qgn_rs _ _ _ _ _ _ _ _ _ _ _ _ _ _ _ _ _ _ _ _ _ _ _).mono fun e w' ⟨h1, h2⟩ => ⟨_, h1, Rf.mk' hn (b1.keep h2) (b2.keep h2), h2⟩
theorem m_drop (h : Rf w U s x) : Calls Tryd.prog 96 #[x] w fun e w' => ∃ y, e = .returned y ∧ Rf w' U (rsS s) y ∧ Chg none_ w w' := by
  obtain ⟨c, l, o, A1, n1, k1, A2, n2, k2, rfl, hn, b1, b2⟩ := h
  obtain ⟨id, mine, acc, frame, sg, stage, cl, lo, cr, un, li, td, gr, rs, ct⟩ := s
  have hn' : RfN ⟨id, mine, acc, frame, [], stage, cl, lo, cr, [], li, td, gr, true, ct⟩ c l o := ⟨hn.c0, hn.c1, hn.l0, hn.l1, hn.o0, hn.o1, (fun h => by cases h), (fun h => by cases h), fun _ => rfl, ⟨hn.ok.id1, hn.ok.id2, hn.ok.f1, hn.ok.f2, hn.ok.g2, hn.ok.cr, hn.ok.gr, hn.ok.W, (fun _ _ h => by cases h)⟩, Nat.zero_le _, by have := hn.ok.gr.W1; show (0 : Int) ≤ gr.W; simp only at this; omega⟩
  exact (qdrop _ _ _ _ _ _ _ _ _ _ _ _ _ _ _ _ _ _ _ _ _ _).mono fun e w' ⟨h1, h2⟩ => ⟨_, h1, Rf.mk' hn' (Rfb.nil _ _) (Rfb.nil _ _), h2⟩
theorem m_sever (h : Rf w U s x) : Calls Tryd.prog 97 #[x] w fun e w' => ∃ y, e = .returned y ∧ Rf w' U (ctS s) y ∧ Chg none_ w w' := by
  obtain ⟨c, l, o, A1, n1, k1, A2, n2, k2, rfl, hn, b1, b2⟩ := h
  obtain ⟨id, mine, acc, frame, sg, stage, cl, lo, cr, un, li, td, gr, rs, ct⟩ := s
  cases rs
  · have hn' : RfN ⟨id, mine, acc, frame, [], stage, cl, lo, cr, un, li, td, gr, false, true⟩ c l o := ⟨hn.c0, hn.c1, hn.l0, hn.l1, hn.o0, hn.o1, (fun _ h => by cases h), (fun _ h => by cases h), fun _ => rfl, ⟨hn.ok.id1, hn.ok.id2, hn.ok.f1, hn.ok.f2, hn.ok.g2, hn.ok.cr, hn.ok.gr, hn.ok.W, (fun _ h => by cases h)⟩, Nat.zero_le _, hn.un⟩
    have hS : ctS ⟨id, mine, acc, frame, sg, stage, cl, lo, cr, un, li, td, gr, false, ct⟩ = ⟨id, mine, acc, frame, [], stage, cl, lo, cr, un, li, td, gr, false, true⟩ := by
      cases ct
      · rfl
      · have := hn.sgc rfl
        simp only at this
        subst this
        rfl
    rw [hS]
    exact (qsev _ _ _ _ _ _ _ _ _ _ _ _ _ _ _ _ _ _ _ _ _).mono fun e w' ⟨h1, h2⟩ => ⟨_, h1, Rf.mk' hn' (Rfb.nil _ _) (b2.keep h2), h2⟩
  · exact (qsevR _ _ _ _ _ _ _ _ _ _ _ _ _ _ _ _ _ _ _ _ _).mono fun e w' ⟨h1, h2⟩ => ⟨_, h1, Rf.mk' hn (b1.keep h2) (b2.keep h2), h2⟩
theorem m_quiet (h : Rf w U s x) : Calls Tryd.prog 58 #[x] w fun e w' => e = .returned (.bool (quB s)) ∧ Chg none_ w w' := by
  obtain ⟨c, l, o, A1, n1, k1, A2, n2, k2, rfl, hn, b1, b2⟩ := h
  exact qquiet _ _ _ _ _ _ _ _ _ _ _ _ _ _ _ _ _ _ _ _ _ _
theorem m_done (h : Rf w U s x) : Calls Tryd.prog 59 #[x] w fun e w' => e = .returned (.bool (dnB s)) ∧ Chg none_ w w' := by
  obtain ⟨c, l, o, A1, n1, k1, A2, n2, k2, rfl, hn, b1, b2⟩ := h
  obtain ⟨id, mine, acc, frame, sg, stage, cl, lo, cr, un, li, td, gr, rs, ct⟩ := s
  cases rs
  · cases ct
    · cases td
      · exact (qdone_td _ _ _ _ _ _ _ _ _ _ _ _ _ _ _ _ _ _ _).mono fun e w' ⟨h1, h2⟩ => ⟨by rw [h1]; simp [dnB], h2⟩
      · exact (qdone_q _ _ _ _ _ _ _ _ _ _ _ _ _ _ _ _ _ _ _).mono fun e w' ⟨h1, h2⟩ => ⟨by rw [h1]; simp [dnB, quB], h2⟩
    · exact (qdone_ct _ _ _ _ _ _ _ _ _ _ _ _ _ _ _ _ _ _ _ _)
  · exact (qdone_rs _ _ _ _ _ _ _ _ _ _ _ _ _ _ _ _ _ _ _ _ _)
theorem m_held (h : Rf w U s x) : Calls Tryd.prog 60 #[x] w fun e w' => e = .returned (.int .i64 ((s.sg.length : Int) + (s.un.length : Int))) ∧ Chg none_ w w' := by
  obtain ⟨c, l, o, A1, n1, k1, A2, n2, k2, rfl, hn, b1, b2⟩ := h
  have q1 := hn.b1
  have q2 := hn.b2
  have e1 := b1.fact.1
  have e2 := b2.fact.1
  rw [e1, e2]
  exact qheld (h1 := by (try dsimp only); omega) (h2 := by (try dsimp only); omega) _ _ _ _ _ _ _ _ _ _ _ _ _ _ _ _ _ _ _ _ _ _
theorem m_ready (h : Rf w U s x) : Calls Tryd.prog 62 #[x] w fun e w' => e = .returned (.bool (rdyB s)) ∧ Chg none_ w w' := by
  obtain ⟨c, l, o, A1, n1, k1, A2, n2, k2, rfl, hn, b1, b2⟩ := h
  have e1 := b1.fact.1
  obtain ⟨id, mine, acc, frame, sg, stage, cl, lo, cr, un, li, td, gr, rs, ct⟩ := s
  simp only at e1
  cases rs
  · cases ct
    · cases lo
      · have ec := hn.c rfl rfl rfl
        simp only at ec
        subst ec
        rcases sg with _ | ⟨z, sg⟩
        · obtain rfl : n1 = 0 := by simpa using e1.symm
          cases mine
          · cases acc
            · exact (qready_no _ _ _ _ _ _ _ _ _ _ _ _ _ _ _ _ _)
            · exact (qready_za _ _ _ _ _ _ _ _ _ _ _ _ _ _ _ _)
          · exact (qready_zm _ _ _ _ _ _ _ _ _ _ _ _ _ _ _ _ _)
        · have hp : 0 < n1 := by rw [← e1]; simp
          cases mine
          · cases acc
            · exact (qready_no _ _ _ _ _ _ _ _ _ _ _ _ _ _ _ _ _)
            · exact (qready_sa (h0 := hp) _ _ _ _ _ _ _ _ _ _ _ _ _ _ _ _ _)
          · exact (qready_sm (h0 := hp) _ _ _ _ _ _ _ _ _ _ _ _ _ _ _ _ _ _)
      · exact (qready_lo _ _ _ _ _ _ _ _ _ _ _ _ _ _ _ _ _ _ _).mono fun e w' ⟨h1, h2⟩ => ⟨by rw [h1]; simp [rdyB, barC], h2⟩
    · exact (qready_ct _ _ _ _ _ _ _ _ _ _ _ _ _ _ _ _ _ _ _ _)
  · exact (qready_rs _ _ _ _ _ _ _ _ _ _ _ _ _ _ _ _ _ _ _ _ _)
theorem m_view (h : Rf w U s x) : Calls Tryd.prog 61 #[x] w fun e w' => e = .returned (vwV s) ∧ Chg none_ w w' := by
  obtain ⟨c, l, o, A1, n1, k1, A2, n2, k2, rfl, hn, b1, b2⟩ := h
  have e1 := b1.fact.1
  have e2 := b2.fact.1
  unfold vwV
  rw [e1, e2]
  clear e1 e2 b1 b2
  obtain ⟨id, mine, acc, frame, sg, stage, cl, lo, cr, un, li, td, gr, rs, ct⟩ := s
  cases rs
  · cases ct
    · cases lo
      · have ec := hn.c rfl rfl rfl
        simp only at ec
        subst ec
        cases li
        · obtain ⟨el, eo⟩ := hn.g rfl rfl rfl
          simp only at el eo
          subst el
          subst eo
          exact (qview_00 (c0 := hn.c0) (c1 := hn.c1) _ _ _ _ _ _ _ _ _ _ _ _ _ _ _ _ _ _)
        · exact (qview_01 (c0 := hn.c0) (c1 := hn.c1) _ _ _ _ _ _ _ _ _ _ _ _ _ _ _ _ _ _)
      · cases li
        · obtain ⟨el, eo⟩ := hn.g rfl rfl rfl
          simp only at el eo
          subst el
          subst eo
          exact (qview_10 _ _ _ _ _ _ _ _ _ _ _ _ _ _ _ _ _ _)
        · exact (qview_11 _ _ _ _ _ _ _ _ _ _ _ _ _ _ _ _ _ _)
    · exact (qview_ct _ _ _ _ _ _ _ _ _ _ _ _ _ _ _ _ _ _ _ _)
  · exact (qview_rs _ _ _ _ _ _ _ _ _ _ _ _ _ _ _ _ _ _ _ _ _)
end
end Go.Proofs.YthalmjjbamglgaaDoor
