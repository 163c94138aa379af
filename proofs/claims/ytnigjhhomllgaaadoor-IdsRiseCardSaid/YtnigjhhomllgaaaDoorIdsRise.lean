/-
  The walk of culvertlaw14.IdsRise.
  No condition of its own.
-/
import Derived.Test.YtnigjhhomllgaaaDoorIdsNames
namespace Go.Proofs.YtnigjhhomllgaaaDoor
open Go.RowKit

theorem rise_no {a : Nat → Addr} (w : World) (hs : Sen w.heap.size a w) (hp : Par w.heap.size w) (c : Bool) (k n : Int) (hk : k < 0 ∨ 2147483647 < k) :
    Calls Tryd.prog 5 #[.bool c, .int .i64 k, .int .i64 n] w fun e w' => e = .returned (.bool true) ∧ Below w.heap.size w w' := by
  have hB : w.heap.size ≤ w.heap.size := Nat.le_refl _
  have e2 : errv a 2 = .iface 82 (.pointer (some (a 2))) := rfl
  have HK := Lib.hid hk
  by_cases h1 : k < 0
  · clear hk
    go_enter Tryd.func5, Tryd.ntmps5
    go_wp2_with fail
    refine (fixed_any w hs hp hB).mono ?_
    rintro e w1 ⟨rfl, c1⟩
    go_wp2_with fail
    refine (new_no w1 (hs.below (c1.old hB)) c k HK.out).mono ?_
    rintro e w2 ⟨rfl, c2⟩
    go_wp2
    go_ret
    exact ⟨rfl, (c1.trans c2).old hB⟩
  · have h2 : 2147483647 < k := by omega
    clear hk
    go_enter Tryd.func5, Tryd.ntmps5
    go_wp2_with fail
    refine (fixed_any w hs hp hB).mono ?_
    rintro e w1 ⟨rfl, c1⟩
    go_wp2_with fail
    refine (new_no w1 (hs.below (c1.old hB)) c k HK.out).mono ?_
    rintro e w2 ⟨rfl, c2⟩
    go_wp2
    go_ret
    exact ⟨rfl, (c1.trans c2).old hB⟩

theorem rise_true {a : Nat → Addr} (w : World) (hs : Sen w.heap.size a w) (hp : Par w.heap.size w) (k n : Int) (k0 : 0 ≤ k) (k1 : k ≤ 2147483647) (n0 : -9223372036854775808 ≤ n) (n1 : n ≤ 9223372036854775807) :
    Calls Tryd.prog 5 #[.bool true, .int .i64 k, .int .i64 n] w fun e w' => e = .returned (.bool true) ∧ Below w.heap.size w w' := by
  have hB : w.heap.size ≤ w.heap.size := Nat.le_refl _
  have e32 : errv a 32 = .iface 82 (.pointer (some (a 32))) := rfl
  obtain ⟨mm, hm⟩ : ∃ mm : Int, (if 3000 < n then (3000 : Int) else n) = mm := ⟨_, rfl⟩
  have hm1 : mm ≤ 3000 := by subst hm; split <;> omega
  have hm0 : -9223372036854775808 ≤ mm := by subst hm; split <;> omega
  go_enter Tryd.func5, Tryd.ntmps5
  go_wp2_with fail
  refine (fixed_any w hs hp hB).mono ?_
  rintro e w1 ⟨rfl, c1⟩
  go_wp2_with fail
  refine (new_o w1 (hp.below (c1.old hB)) true k k0 k1).mono ?_
  rintro e w2 ⟨g, rfl, hg, o2, k2⟩
  have hG : w.heap.size ≤ g := by have := c1.size; omega
  have c2 := c1.trans k2
  clear c1 k2 hg
  go_wp2_with fail
  go_loopw [11, 12, 13] (fun wa lf i wr => ∃ j : Nat, j ≤ 3000 ∧ k + j ≤ 2147483648 ∧ i = .int .i64 j ∧ wa = .int .i64 (1 + 2 * (k + j)) ∧ lf = .int .i64 (2147483648 - (k + j)) ∧ Obj wr (some ⟨g, 0, none⟩) ⟨1, 1 + 2 * k, 1 + 2 * (k + j), 0, 0⟩ ∧ Chg none_ w wr) (fun _ _ i _ => 3000 - (intOf i).toNat)
  case atStart => exact ⟨0, by omega, by omega, rfl, by go_num, by go_num, by simpa [St.new, lowOf] using o2, c2⟩
  case round =>
    obtain ⟨j, hj1, hj2, rfl, rfl, rfl, ob, cb⟩ := hrel
    have hl1 : lfV ⟨1, 1 + 2 * k, 1 + 2 * (k + j), 0, 0⟩ = 2147483648 - (k + j) := by
      unfold lfV
      simp only
      rw [if_neg (by decide)]
      split <;> omega
    have HL1 := Lib.hid hl1
    clear hl1
    by_cases hlt : (j : Int) < mm
    · go_wp2_with fail
      refine (left_c wr _ _ ob _ HL1.out).mono ?_
      rintro e wl ⟨rfl, dl⟩
      replace ob := ob.dr dl
      replace cb := cb.trans dl.chg
      clear dl
      by_cases hz : k + j = 2147483648
      · have hz0 : 2147483648 - (k + (j : Int)) = 0 := by omega
        go_wp2_with fail
        refine (next_c wl (hs.below (cb.old hB)) _ _ ob 0 (errv a 32) ⟨1, 1 + 2 * k, 1 + 2 * (k + j), 0, 0⟩ (by unfold nxV; simp only; rw [if_neg (by decide), if_pos (by omega)]) (by unfold nxC; simp only; rw [if_neg (by decide), if_pos (by omega)]) (by unfold nxS; simp only; rw [if_neg (by decide), if_pos (by omega)])).mono ?_
        clear ob
        rintro e wn ⟨rfl, on, kn⟩
        have cn := at_new hG rfl cb kn
        clear cb kn
        go_wp2_with fail
        refine (code_any wn (hs.below (cn.old hB)) 32 (by decide)).mono ?_
        rintro e w' ⟨rfl, rfl⟩
        go_wp2_with fail
        refine (left_c wn _ _ on 0 (by rw [HL1.out]; omega)).mono ?_
        rintro e wq ⟨rfl, dq⟩
        go_wp2
        go_ret
        exact ⟨rfl, (cn.trans dq.chg).old hB⟩
      · have hz0 : (2147483648 - (k + (j : Int)) == 0) = false := by simp; omega
        have i0 : 0 ≤ 1 + 2 * (k + (j : Int)) := by omega
        have i1 : 1 + 2 * (k + (j : Int)) ≤ 4294967295 := by omega
        have hk0 : 0 ≤ k + (j : Int) := by omega
        have HO := Lib.hid (show owB ⟨1, 1 + 2 * k, 1 + 2 * (k + ((j + 1 : Nat) : Int)), 0, 0⟩ (1 + 2 * (k + j)) = true by
          unfold owB
          simp only
          rw [show decide (0 < 1 + 2 * (k + (j : Int))) = true by simp; omega, show ((1 + 2 * (k + (j : Int))) % 2 == (1 : Int) % 2) = true by simp]
          rfl)
        have HKn := Lib.hid (show knB ⟨1, 1 + 2 * k, 1 + 2 * (k + ((j + 1 : Nat) : Int)), 0, 0⟩ (1 + 2 * (k + j)) = false by
          unfold knB
          rw [HO.out]
          simp only
          rw [if_neg (by decide), if_neg (by omega), if_pos trivial]
          simp; omega)
        go_wp2_with fail
        refine (next_c wl (hs.below (cb.old hB)) _ _ ob (1 + 2 * (k + j)) .nilIface ⟨1, 1 + 2 * k, 1 + 2 * (k + ((j + 1 : Nat) : Int)), 0, 0⟩ (by unfold nxV; simp only; rw [if_neg (by decide), if_neg (by omega)]) (by unfold nxC; simp only; rw [if_neg (by decide), if_neg (by omega)]; rfl) (by unfold nxS; simp only; rw [if_neg (by decide), if_neg (by omega)]; congr 1; omega)).mono ?_
        clear ob
        rintro e wn ⟨rfl, on, kn⟩
        have cn := at_new hG rfl cb kn
        clear cb kn
        go_wp2_with fail
        refine (mine_c wn _ _ on _ i0 i1 true HO.out).mono ?_
        rintro e w' ⟨rfl, rfl⟩
        go_wp2_with fail
        refine (known_c wn _ _ on _ i0 i1 false HKn.out).mono ?_
        rintro e w' ⟨rfl, rfl⟩
        go_wp2
        go_roundw
        case rel => exact ⟨j + 1, by omega, by omega, by go_num, by congr 1; omega, by congr 1; omega, on, cn⟩
        case measure => simp [intOf]; omega
    · go_wp2_with fail
      refine (left_c wr _ _ ob _ HL1.out).mono ?_
      rintro e wl ⟨rfl, dl⟩
      go_wp2
      go_ret
      exact ⟨rfl, (cb.trans dl.chg).old hB⟩

theorem rise_false {a : Nat → Addr} (w : World) (hs : Sen w.heap.size a w) (hp : Par w.heap.size w) (k n : Int) (k0 : 0 ≤ k) (k1 : k ≤ 2147483647) (n0 : -9223372036854775808 ≤ n) (n1 : n ≤ 9223372036854775807) :
    Calls Tryd.prog 5 #[.bool false, .int .i64 k, .int .i64 n] w fun e w' => e = .returned (.bool true) ∧ Below w.heap.size w w' := by
  have hB : w.heap.size ≤ w.heap.size := Nat.le_refl _
  have e32 : errv a 32 = .iface 82 (.pointer (some (a 32))) := rfl
  obtain ⟨mm, hm⟩ : ∃ mm : Int, (if 3000 < n then (3000 : Int) else n) = mm := ⟨_, rfl⟩
  have hm1 : mm ≤ 3000 := by subst hm; split <;> omega
  have hm0 : -9223372036854775808 ≤ mm := by subst hm; split <;> omega
  go_enter Tryd.func5, Tryd.ntmps5
  go_wp2_with fail
  refine (fixed_any w hs hp hB).mono ?_
  rintro e w1 ⟨rfl, c1⟩
  go_wp2_with fail
  refine (new_o w1 (hp.below (c1.old hB)) false k k0 k1).mono ?_
  rintro e w2 ⟨g, rfl, hg, o2, k2⟩
  have hG : w.heap.size ≤ g := by have := c1.size; omega
  have c2 := c1.trans k2
  clear c1 k2 hg
  go_wp2_with fail
  go_loopw [11, 12, 13] (fun wa lf i wr => ∃ j : Nat, j ≤ 3000 ∧ k + j ≤ 2147483647 ∧ i = .int .i64 j ∧ wa = .int .i64 (2 + 2 * (k + j)) ∧ lf = .int .i64 (2147483647 - (k + j)) ∧ Obj wr (some ⟨g, 0, none⟩) ⟨2, 2 + 2 * k, 2 + 2 * (k + j), 0, 0⟩ ∧ Chg none_ w wr) (fun _ _ i _ => 3000 - (intOf i).toNat)
  case atStart => exact ⟨0, by omega, by omega, rfl, by go_num, by go_num, by simpa [St.new, lowOf] using o2, c2⟩
  case round =>
    obtain ⟨j, hj1, hj2, rfl, rfl, rfl, ob, cb⟩ := hrel
    have hl1 : lfV ⟨2, 2 + 2 * k, 2 + 2 * (k + j), 0, 0⟩ = 2147483647 - (k + j) := by
      unfold lfV
      simp only
      rw [if_neg (by decide)]
      split <;> omega
    have HL1 := Lib.hid hl1
    clear hl1
    by_cases hlt : (j : Int) < mm
    · go_wp2_with fail
      refine (left_c wr _ _ ob _ HL1.out).mono ?_
      rintro e wl ⟨rfl, dl⟩
      replace ob := ob.dr dl
      replace cb := cb.trans dl.chg
      clear dl
      by_cases hz : k + j = 2147483647
      · have hz0 : 2147483647 - (k + (j : Int)) = 0 := by omega
        go_wp2_with fail
        refine (next_c wl (hs.below (cb.old hB)) _ _ ob 0 (errv a 32) ⟨2, 2 + 2 * k, 2 + 2 * (k + j), 0, 0⟩ (by unfold nxV; simp only; rw [if_neg (by decide), if_pos (by omega)]) (by unfold nxC; simp only; rw [if_neg (by decide), if_pos (by omega)]) (by unfold nxS; simp only; rw [if_neg (by decide), if_pos (by omega)])).mono ?_
        clear ob
        rintro e wn ⟨rfl, on, kn⟩
        have cn := at_new hG rfl cb kn
        clear cb kn
        go_wp2_with fail
        refine (code_any wn (hs.below (cn.old hB)) 32 (by decide)).mono ?_
        rintro e w' ⟨rfl, rfl⟩
        go_wp2_with fail
        refine (left_c wn _ _ on 0 (by rw [HL1.out]; omega)).mono ?_
        rintro e wq ⟨rfl, dq⟩
        go_wp2
        go_ret
        exact ⟨rfl, (cn.trans dq.chg).old hB⟩
      · have hz0 : (2147483647 - (k + (j : Int)) == 0) = false := by simp; omega
        have i0 : 0 ≤ 2 + 2 * (k + (j : Int)) := by omega
        have i1 : 2 + 2 * (k + (j : Int)) ≤ 4294967295 := by omega
        have hk0 : 0 ≤ k + (j : Int) := by omega
        have HO := Lib.hid (show owB ⟨2, 2 + 2 * k, 2 + 2 * (k + ((j + 1 : Nat) : Int)), 0, 0⟩ (2 + 2 * (k + j)) = true by
          unfold owB
          simp only
          rw [show decide (0 < 2 + 2 * (k + (j : Int))) = true by simp; omega, show ((2 + 2 * (k + (j : Int))) % 2 == (2 : Int) % 2) = true by simp]
          rfl)
        have HKn := Lib.hid (show knB ⟨2, 2 + 2 * k, 2 + 2 * (k + ((j + 1 : Nat) : Int)), 0, 0⟩ (2 + 2 * (k + j)) = false by
          unfold knB
          rw [HO.out]
          simp only
          rw [if_neg (by decide), if_neg (by omega), if_pos trivial]
          simp; omega)
        go_wp2_with fail
        refine (next_c wl (hs.below (cb.old hB)) _ _ ob (2 + 2 * (k + j)) .nilIface ⟨2, 2 + 2 * k, 2 + 2 * (k + ((j + 1 : Nat) : Int)), 0, 0⟩ (by unfold nxV; simp only; rw [if_neg (by decide), if_neg (by omega)]) (by unfold nxC; simp only; rw [if_neg (by decide), if_neg (by omega)]; rfl) (by unfold nxS; simp only; rw [if_neg (by decide), if_neg (by omega)]; congr 1; omega)).mono ?_
        clear ob
        rintro e wn ⟨rfl, on, kn⟩
        have cn := at_new hG rfl cb kn
        clear cb kn
        go_wp2_with fail
        refine (mine_c wn _ _ on _ i0 i1 true HO.out).mono ?_
        rintro e w' ⟨rfl, rfl⟩
        go_wp2_with fail
        refine (known_c wn _ _ on _ i0 i1 false HKn.out).mono ?_
        rintro e w' ⟨rfl, rfl⟩
        go_wp2
        go_roundw
        case rel => exact ⟨j + 1, by omega, by omega, by go_num, by congr 1; omega, by congr 1; omega, on, cn⟩
        case measure => simp [intOf]; omega
    · go_wp2_with fail
      refine (left_c wr _ _ ob _ HL1.out).mono ?_
      rintro e wl ⟨rfl, dl⟩
      go_wp2
      go_ret
      exact ⟨rfl, (cb.trans dl.chg).old hB⟩

theorem rise_walk {a : Nat → Addr} (w : World) (hs : Sen w.heap.size a w) (hp : Par w.heap.size w) (c : Bool) (k n : Int) (n0 : -9223372036854775808 ≤ n) (n1 : n ≤ 9223372036854775807) :
    Calls Tryd.prog 5 #[.bool c, .int .i64 k, .int .i64 n] w fun e w' => e = .returned (.bool true) ∧ Below w.heap.size w w' := by
  by_cases hk : k < 0 ∨ 2147483647 < k
  · exact rise_no w hs hp c k n hk
  · cases c
    · exact rise_false w hs hp k n (by omega) (by omega) n0 n1
    · exact rise_true w hs hp k n (by omega) (by omega) n0 n1
end Go.Proofs.YtnigjhhomllgaaaDoor
