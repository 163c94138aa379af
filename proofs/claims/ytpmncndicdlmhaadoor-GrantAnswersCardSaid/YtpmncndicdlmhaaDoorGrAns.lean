/-
  The document's Arrive and Read joined to the states, culvertlaw08.tells, the walk of GrantAnswers (printed by gen_grans.py).
  No condition of its own: the fact 'Sen' on the world; the script reads as rows.
-/
import Derived.Test.YtpmncndicdlmhaaDoorGrRef
import Derived.Test.YtpmncndicdlmhaaDoorRecs
import Derived.Test.YtpmncndicdlmhaaDoorCode
import Derived.Deep.RegionHeld3
namespace Go.Proofs.YtpmncndicdlmhaaDoor
open Go.RowKit

theorem Rc.gk {w : World} {p : Option Addr} {s : Gr} (h : Rc w p s) : s = Gr.none_ ∨ s.Ok := h.elim (fun h => .inl h.1) (fun h => .inr h.1)
theorem Rc.drew1 {w : World} {p : Option Addr} {s : Gr} (h : Rc w p s) : Rc w.drew p s := h
theorem sm_left {C S T : Int} {s : Gr} (h : Sm C S T s) (k : s = Gr.none_ ∨ s.Ok) : IntKind.i64.wrap (IntKind.i64.wrap (s.W - C) + T) = s.l := by
  rcases k with rfl | ok
  · obtain ⟨q, e⟩ := h.c1
    obtain ⟨r, e'⟩ := h.c2
    obtain ⟨x, ex⟩ := wrap_q ((Gr.none_).W - C)
    simp only [Gr.none_] at e e' ex ⊢
    refine wrap_of (q := x - q - r) ?_ (by omega) (by omega)
    rw [ex]
    omega
  · exact h.left ok
theorem sm_unread {C S T : Int} {s : Gr} (h : Sm C S T s) (k : s = Gr.none_ ∨ s.Ok) : IntKind.i64.wrap (C - S) = s.u := by
  rcases k with rfl | ok
  · obtain ⟨q, e⟩ := h.c1
    exact wrap_of e (by simp [Gr.none_]) (by simp [Gr.none_])
  · exact h.unread ok
theorem sm_owed {C S T : Int} {s : Gr} (h : Sm C S T s) (k : s = Gr.none_ ∨ s.Ok) : IntKind.i64.wrap (S - T) = s.o := by
  rcases k with rfl | ok
  · obtain ⟨q, e⟩ := h.c2
    exact wrap_of e (by simp [Gr.none_]) (by simp [Gr.none_])
  · exact h.owed ok

theorem Is.drew1 {w : World} {g : Nat} {t : TypeId} {cs : Array Value} (h : Is w g t cs) : Is w.drew g t cs := h
theorem mr4 {u : World} {g : Nat} {s : Gr} {C S T : Int} (h : Is u g 57 #[.int .i64 (s).W, .int .i64 C, .int .i64 S, .int .i64 T]) : u.cell? ⟨g, 0, none⟩ = some (.int .i64 s.W) ∧ u.cell? ⟨g, 1, none⟩ = some (.int .i64 C) ∧ u.cell? ⟨g, 2, none⟩ = some (.int .i64 S) ∧ u.cell? ⟨g, 3, none⟩ = some (.int .i64 T) :=
  ⟨h.at_ 0 _ rfl, h.at_ 1 _ rfl, h.at_ 2 _ rfl, h.at_ 3 _ rfl⟩
theorem rarrive_any (s : Gr) (k : s = Gr.none_ ∨ s.Ok) (C S T z : Int) (h : Sm C S T s) :
    ∃ C2, Sm C2 S T (arS s z) ∧ ∀ w : World, Calls Tryd.prog 35 #[.agg #[.int .i64 (s).W, .int .i64 C, .int .i64 S, .int .i64 T], .int .i64 z] w fun e w' => e = .returned (.tuple #[.agg #[.int .i64 (arS s z).W, .int .i64 C2, .int .i64 S, .int .i64 T], .int .i64 (arC s z)]) ∧ Chg none_ w w' := by
  rcases k with rfl | ok
  · exact ⟨C, h, fun w => rarrive_nil w C S T z⟩
  · have hW := ok.W1
    have hW0 : s.W ≠ 0 := by omega
    have hl := h.left ok
    by_cases h1 : z < 0
    · have hc : arC s z = 2 := by unfold arC; rw [if_neg hW0, if_pos h1]
      have hS : arS s z = s := by unfold arS; rw [hc, if_neg (by decide)]
      rw [hS, hc]
      exact ⟨C, h, fun w => rarrive_v w s.W C S T s.l z hW hl 2 C (.inl ⟨h1, rfl, rfl⟩)⟩
    · by_cases h2 : s.l < z
      · have hc : arC s z = 16 := by unfold arC; rw [if_neg hW0, if_neg h1, if_pos h2]
        have hS : arS s z = s := by unfold arS; rw [hc, if_neg (by decide)]
        rw [hS, hc]
        exact ⟨C, h, fun w => rarrive_v w s.W C S T s.l z hW hl 16 C (.inr (.inl ⟨by omega, h2, rfl, rfl⟩))⟩
      · have hsm := h.arrive ok (z := z) (by omega) (by omega)
        obtain ⟨hc, hS⟩ := ar_in ok (n := z) (by omega) (by omega)
        have hw : (arS s z).W = s.W := by rw [hS]
        rw [hw, hc]
        exact ⟨_, hsm, fun w => rarrive_v w s.W C S T s.l z hW hl 0 _ (.inr (.inr ⟨by omega, by omega, rfl, rfl⟩))⟩
theorem rread_any (s : Gr) (k : s = Gr.none_ ∨ s.Ok) (C S T z : Int) (h : Sm C S T s) :
    ∃ S2 T2, Sm C S2 T2 (rdS s z) ∧ ∀ w : World, Calls Tryd.prog 36 #[.agg #[.int .i64 (s).W, .int .i64 C, .int .i64 S, .int .i64 T], .int .i64 z] w fun e w' => e = .returned (.tuple #[.agg #[.int .i64 (rdS s z).W, .int .i64 C, .int .i64 S2, .int .i64 T2], .int .i64 (rdV s z), .int .i64 (rdC s z)]) ∧ Chg none_ w w' := by
  rcases k with rfl | ok
  · exact ⟨S, T, h, fun w => rread_nil w C S T z⟩
  · have hW := ok.W1
    have hW0 : s.W ≠ 0 := by omega
    have hu := h.unread ok
    by_cases h1 : z < 0
    · have hc : rdC s z = 2 := by unfold rdC; rw [if_neg hW0, if_pos h1]
      obtain ⟨_, hS, hV⟩ := rd_out ok (n := z) (.inl h1)
      rw [hS, hc, hV]
      exact ⟨S, T, h, fun w => rread_2 w s.W C S T z hW h1⟩
    · by_cases h2 : s.u < z
      · have hc : rdC s z = 5 := by unfold rdC; rw [if_neg hW0, if_neg h1, if_pos h2]
        obtain ⟨_, hS, hV⟩ := rd_out ok (n := z) (.inr h2)
        rw [hS, hc, hV]
        exact ⟨S, T, h, fun w => rread_5 w s.W C S T z s.u hW hu (by omega) h2⟩
      · have h1' : 0 ≤ z := by omega
        have h2' : z ≤ s.u := by omega
        obtain ⟨q, e⟩ := h.c1
        obtain ⟨r, e'⟩ := h.c2
        obtain ⟨x, ex⟩ := wrap_q (S + z)
        obtain ⟨l0, l1, u0, u1, o0, o1, hsum⟩ := Sm.bd ok
        have W2 := ok.W2
        obtain ⟨hc, r1, r2, r3, _⟩ := rd_in ok h1' h2'
        have hv : IntKind.i64.wrap (IntKind.i64.wrap (S + z) - T) = s.o + z := wrap_of (q := x + r) (by rw [ex]; omega) (by omega) (by omega)
        rw [r3, hc]
        by_cases h3 : s.o + z < thr s.W
        · have hV : rdV s z = 0 := by unfold rdV; rw [if_pos hc, if_pos h3]
          have hO : (rdS s z).o = s.o + z := by rw [hV] at r1; omega
          rw [hV]
          exact ⟨_, T, ⟨⟨q - x, by rw [ex, r2]; omega⟩, ⟨r + x, by rw [ex, hO]; omega⟩⟩, fun w => rread_less w s.W C S T z s.u (s.o + z) (thr s.W) hW hu h1' h2' hv rfl h3⟩
        · have hV : rdV s z = s.o + z := by unfold rdV; rw [if_pos hc, if_neg h3]
          have hO : (rdS s z).o = 0 := by rw [hV] at r1; omega
          rw [hV]
          exact ⟨_, _, ⟨⟨q - x, by rw [ex, r2]; omega⟩, ⟨0, by rw [hO]; omega⟩⟩, fun w => rread_all w s.W C S T z s.u (s.o + z) (thr s.W) hW hu h1' h2' hv rfl (by omega)⟩

set_option maxHeartbeats 4000000 in
theorem tells_any (w : World) (p : Option Addr) (s : Gr) (h : Rc w p s) (C S T : Int) (sm : Sm C S T s) :
    Calls Tryd.prog 37 #[.pointer p, .agg #[.int .i64 (s).W, .int .i64 C, .int .i64 S, .int .i64 T]] w fun e w' => e = .returned (.bool true) ∧ Chg none_ w w' := by
  have hl := sm_left sm h.gk
  have hu := sm_unread sm h.gk
  have ho := sm_owed sm h.gk
  have HB : Hid (Is (w.alloc (.cells #[.int .i64 (s).W, .int .i64 C, .int .i64 S, .int .i64 T] 57)) w.heap.size 57 #[.int .i64 (s).W, .int .i64 C, .int .i64 S, .int .i64 T]) := Is.new w _ _
  have HO := Lib.hid (h.keep ((Chg.refl none_ w).alloc (.cells #[.int .i64 (s).W, .int .i64 C, .int .i64 S, .int .i64 T] 57)))
  have HG := Lib.hid ((Chg.refl none_ w).alloc (.cells #[.int .i64 (s).W, .int .i64 C, .int .i64 S, .int .i64 T] 57))
  clear h sm
  go_enter Tryd.func37, Tryd.ntmps37
  go_wp2_with fail
  go_region_held3 (fun u => u.cell? ⟨w.heap.size, 0, none⟩ = some (.int .i64 s.W) ∧ u.cell? ⟨w.heap.size, 1, none⟩ = some (.int .i64 C) ∧ u.cell? ⟨w.heap.size, 2, none⟩ = some (.int .i64 S) ∧ u.cell? ⟨w.heap.size, 3, none⟩ = some (.int .i64 T))
    (first | exact mr4 (Is.drew1 HB.out) | exact mr4 HB1.out | exact mr4 HB2.out | exact mr4 HB3.out)
    (first
      | (go_at_call 17; refine (gleft_any _ p s (HO.out.drew1)).mono ?_; rintro e w1 ⟨rfl, rfl⟩)
      | (go_at_call 57; refine (rleft_v _ s.W C S T s.l hl).mono ?_; rintro e w1 ⟨rfl, k1⟩; have HO1 := Lib.hid ((HO.out.drew1).keep k1); have HB1 : Hid (Is w1 w.heap.size 57 #[.int .i64 (s).W, .int .i64 C, .int .i64 S, .int .i64 T]) := (Is.drew1 HB.out).chg k1 (fun f => f); have HG1 := Lib.hid (HG.out.drew.trans k1))
      | (go_at_call 18; refine (gunread_any _ p s HO1.out).mono ?_; rintro e w' ⟨rfl, rfl⟩)
      | (go_at_call 58; refine (runread_v _ s.W C S T s.u hu).mono ?_; rintro e w2 ⟨rfl, k2⟩; have HO2 := Lib.hid (HO1.out.keep k2); have HB2 : Hid (Is w2 w.heap.size 57 #[.int .i64 (s).W, .int .i64 C, .int .i64 S, .int .i64 T]) := HB1.out.chg k2 (fun f => f); have HG2 := Lib.hid (HG1.out.trans k2))
      | (go_at_call 19; refine (gowed_any _ p s HO2.out).mono ?_; rintro e w' ⟨rfl, rfl⟩)
      | (go_at_call 59; refine (rowed_v _ s.W C S T s.o ho).mono ?_; rintro e w3 ⟨rfl, k3⟩; have HB3 : Hid (Is w3 w.heap.size 57 #[.int .i64 (s).W, .int .i64 C, .int .i64 S, .int .i64 T]) := HB2.out.chg k3 (fun f => f); have HG3 := Lib.hid (HG2.out.trans k3)))
  go_wp2
  go_ret
  exact ⟨rfl, HG3.out⟩
end Go.Proofs.YtpmncndicdlmhaaDoor
