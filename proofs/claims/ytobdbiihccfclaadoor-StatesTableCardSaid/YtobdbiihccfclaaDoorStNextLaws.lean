/-
  culvertlaw09.next and asked by contracts: true for every number; the laws StatesNext and StatesTable by their walks.
  No condition of its own: the facts 'Sen' and 'Tab' on the world.
-/
import Derived.Test.YtobdbiihccfclaaDoorStPlay
namespace Go.Proofs.YtobdbiihccfclaaDoor
open Go.RowKit

theorem asked_0 (w : World) : Calls Tryd.prog 20 #[.int .i64 0] w fun e w' => e = .returned (.bool true) ∧ w = w' := by
  go_enter Tryd.func20, Tryd.ntmps20
  go_wp2
  go_ret
  exact ⟨rfl, rfl⟩
theorem asked_1 (w : World) : Calls Tryd.prog 20 #[.int .i64 1] w fun e w' => e = .returned (.bool true) ∧ w = w' := by
  go_enter Tryd.func20, Tryd.ntmps20
  go_wp2
  go_ret
  exact ⟨rfl, rfl⟩
theorem asked_2 (w : World) : Calls Tryd.prog 20 #[.int .i64 2] w fun e w' => e = .returned (.bool true) ∧ w = w' := by
  go_enter Tryd.func20, Tryd.ntmps20
  go_wp2
  go_ret
  exact ⟨rfl, rfl⟩
theorem asked_3 (w : World) : Calls Tryd.prog 20 #[.int .i64 3] w fun e w' => e = .returned (.bool true) ∧ w = w' := by
  go_enter Tryd.func20, Tryd.ntmps20
  go_wp2
  go_ret
  exact ⟨rfl, rfl⟩
theorem asked_4 (w : World) : Calls Tryd.prog 20 #[.int .i64 4] w fun e w' => e = .returned (.bool true) ∧ w = w' := by
  go_enter Tryd.func20, Tryd.ntmps20
  go_wp2
  go_ret
  exact ⟨rfl, rfl⟩
theorem asked_5 (w : World) : Calls Tryd.prog 20 #[.int .i64 5] w fun e w' => e = .returned (.bool true) ∧ w = w' := by
  go_enter Tryd.func20, Tryd.ntmps20
  go_wp2
  go_ret
  exact ⟨rfl, rfl⟩
theorem asked_6 (w : World) : Calls Tryd.prog 20 #[.int .i64 6] w fun e w' => e = .returned (.bool true) ∧ w = w' := by
  go_enter Tryd.func20, Tryd.ntmps20
  go_wp2
  go_ret
  exact ⟨rfl, rfl⟩
theorem asked_7 (w : World) : Calls Tryd.prog 20 #[.int .i64 7] w fun e w' => e = .returned (.bool true) ∧ w = w' := by
  go_enter Tryd.func20, Tryd.ntmps20
  go_wp2
  go_ret
  exact ⟨rfl, rfl⟩

set_option maxHeartbeats 1000000 in
theorem asked_out (w : World) (s : Int) (h : s < 0 ∨ 7 < s) : Calls Tryd.prog 20 #[.int .i64 s] w fun e w' => e = .returned (.bool true) ∧ w = w' := by
  have h0 : (s == 0) = false := by simp; omega
  have h1 : (s == 1) = false := by simp; omega
  have h2 : (s == 2) = false := by simp; omega
  have h3 : (s == 3) = false := by simp; omega
  have h4 : (s == 4) = false := by simp; omega
  have h5 : (s == 5) = false := by simp; omega
  have h6 : (s == 6) = false := by simp; omega
  have h7 : (s == 7) = false := by simp; omega
  clear h
  go_enter Tryd.func20, Tryd.ntmps20
  go_wp2
  go_ret
  exact ⟨rfl, rfl⟩

theorem asked_any (w : World) (s : Int) : Calls Tryd.prog 20 #[.int .i64 s] w fun e w' => e = .returned (.bool true) ∧ w = w' := by
  by_cases h : s < 0 ∨ 7 < s
  · exact asked_out w s h
  · have h1 : s = 0 ∨ s = 1 ∨ s = 2 ∨ s = 3 ∨ s = 4 ∨ s = 5 ∨ s = 6 ∨ s = 7 := by omega
    rcases h1 with rfl | rfl | rfl | rfl | rfl | rfl | rfl | rfl
    · exact asked_0 w
    · exact asked_1 w
    · exact asked_2 w
    · exact asked_3 w
    · exact asked_4 w
    · exact asked_5 w
    · exact asked_6 w
    · exact asked_7 w

theorem nextlaw_any {B : Nat} {a : Nat → Addr} (w : World) (hs : Sen B a w) (ht : Tab B w) (s e : Int) : Calls Tryd.prog 19 #[.int .i64 s, .int .i64 e] w fun x w' => x = .returned (.bool true) ∧ Dr w w' := by
  have hle := ncd_le s e
  go_enter Tryd.func19, Tryd.ntmps19
  go_wp2_with fail
  refine (next_any w hs ht s e).mono ?_
  rintro x w' ⟨rfl, m, rfl⟩
  go_wp2_with fail
  refine (rnext_any _ s e).mono ?_
  rintro x w' ⟨rfl, rfl⟩
  go_wp2_with (go_at_call 13; refine (code_any _ (hs.drewN _) _ hle).mono ?_; rintro e w' ⟨rfl, rfl⟩)
  go_ret
  exact ⟨rfl, _, rfl⟩

theorem statesNext_walk {a : Nat → Addr} (w : World) (hs : Sen w.heap.size a w) (ht : Tab w.heap.size w) (s e : Int) : Calls Tryd.prog 8 #[.int .i64 s, .int .i64 e] w fun x w' => x = .returned (.bool true) ∧ Below w.heap.size w w' := by
  go_enter Tryd.func8, Tryd.ntmps8
  go_wp2_with fail
  refine (wakes_any w hs ht (Nat.le_refl _)).mono ?_
  rintro x w1 ⟨rfl, hb⟩
  go_wp2_with fail
  refine (nextlaw_any w1 (hs.below hb) (ht.below hb) s e).mono ?_
  rintro x w' ⟨rfl, m, rfl⟩
  go_wp2_with fail
  refine (asked_any _ s).mono ?_
  rintro x w' ⟨rfl, rfl⟩
  go_wp2
  go_ret
  exact ⟨rfl, below_drewN hb m⟩

set_option maxHeartbeats 1000000 in
theorem statesTable_walk {a : Nat → Addr} (w : World) (hs : Sen w.heap.size a w) (ht : Tab w.heap.size w) : Calls Tryd.prog 7 #[] w fun x w' => x = .returned (.bool true) ∧ Below w.heap.size w w' := by
  go_enter Tryd.func7, Tryd.ntmps7
  go_wp2_with fail
  refine (wakes_any w hs ht (Nat.le_refl _)).mono ?_
  rintro x w1 ⟨rfl, hb⟩
  go_wp2_with fail
  go_loopw [1] (fun s wr => ∃ q : Int, -1 ≤ q ∧ q ≤ 9 ∧ s = .int .i64 q ∧ Below w.heap.size w wr) (fun s _ => (9 - intOf s).toNat)
  case atStart => exact ⟨-1, by omega, by omega, rfl, hb⟩
  case round =>
    obtain ⟨q, hq1, hq2, rfl, hbr⟩ := hrel
    by_cases hlt : q ≤ 8
    · obtain ⟨wo, rfl⟩ : ∃ wo : World, wo = wr := ⟨_, rfl⟩
      go_wp2_with fail
      go_loopw [2] (fun e wr => ∃ p : Int, -1 ≤ p ∧ p ≤ 8 ∧ e = .int .i64 p ∧ Below w.heap.size w wr) (fun e _ => (8 - intOf e).toNat)
      case atStart => exact ⟨-1, by omega, by omega, rfl, hbr⟩
      case round =>
        obtain ⟨p, hp1, hp2, rfl, hbi⟩ := hrel
        by_cases hlp : p ≤ 7
        · go_wp2_with (go_at_call 19; refine (nextlaw_any _ (hs.below hbi) (ht.below hbi) _ _).mono ?_; rintro e w' ⟨rfl, m, rfl⟩)
          go_roundw
          case rel => exact ⟨p + 1, by omega, by omega, rfl, below_drewN hbi m⟩
          case measure => simp [intOf]; omega
        · go_wp2_with (go_at_call 20; refine (asked_any _ _).mono ?_; rintro e w' ⟨rfl, rfl⟩)
          go_roundw
          case rel => exact ⟨q + 1, by omega, by omega, rfl, hbi⟩
          case measure => simp [intOf]; omega
    · go_wp2
      go_ret
      exact ⟨rfl, hbr⟩
end Go.Proofs.YtobdbiihccfclaaDoor
