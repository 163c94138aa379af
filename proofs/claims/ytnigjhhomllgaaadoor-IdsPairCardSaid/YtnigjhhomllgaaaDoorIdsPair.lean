/-
  The walk of culvertlaw14.IdsPair.
  No condition of its own.
-/
import Derived.Test.YtnigjhhomllgaaaDoorIdsNames
namespace Go.Proofs.YtnigjhhomllgaaaDoor
open Go.RowKit

def skV (A B : Int) : Value := .agg #[.int .i64 A, .int .i64 B]

theorem new_x (w : World) {B : Nat} {a : Nat → Addr} (hs : Sen B a w) (hp : Par B w) (c : Bool) (k : Int) :
    Calls Tryd.prog 8 #[.bool c, .int .i64 k] w fun e w' => ∃ p er, e = .returned (.tuple #[.pointer p, er]) ∧ Chg none_ w w' := by
  by_cases hk : k < 0 ∨ 2147483647 < k
  · exact (new_no w hs c k hk).mono fun e w' h => ⟨_, _, h.1, h.2⟩
  · exact (new_o w hp c k (by omega) (by omega)).mono fun e w' h => by
      obtain ⟨g, h1, _, _, h4⟩ := h
      exact ⟨_, _, h1, h4⟩

set_option linter.unusedVariables false in
theorem pair_noA {a : Nat → Addr} (w : World) (hs : Sen w.heap.size a w) (hp : Par w.heap.size w) (c : Bool) (A B : Int) (hk : A < 0 ∨ 2147483647 < A) (v : Value) :
    Calls Tryd.prog 6 #[.bool c, skV A B, v] w fun e w' => e = .returned (.bool true) ∧ Below w.heap.size w w' := by
  have hB : w.heap.size ≤ w.heap.size := Nat.le_refl _
  have e2 : errv a 2 = .iface 82 (.pointer (some (a 2))) := rfl
  have HK := Lib.hid hk
  clear hk
  unfold skV
  have c0 : Chg none_ w (w.alloc (.cells #[.int .i64 A, .int .i64 B] 55)) := (Chg.refl none_ w).alloc _
  have b0 : Is (w.alloc (.cells #[.int .i64 A, .int .i64 B] 55)) w.heap.size 55 #[.int .i64 A, .int .i64 B] := Is.new w _ _
  go_enter Tryd.func6, Tryd.ntmps6
  go_wp2_with fail
  refine (fixed_any _ (hs.below (c0.old hB)) (hp.below (c0.old hB)) c0.size).mono ?_
  rintro e w1 ⟨rfl, k1⟩
  have b1 := b0.chg k1 (fun h => h)
  have c1 := c0.trans k1
  clear c0 b0 k1
  have q0 := b1.at_ 0 _ rfl
  have q1 := b1.at_ 1 _ rfl
  have hl1 := b1.lt
  go_wp2_with fail
  refine (new_no w1 (hs.below (c1.old hB)) c A HK.out).mono ?_
  rintro e w2 ⟨rfl, k2⟩
  have b2 := b1.chg k2 (fun h => h)
  have c2 := c1.trans k2
  clear c1 b1 k2 q0 q1 hl1
  have q1 := b2.at_ 1 _ rfl
  have hl1 := b2.lt
  go_wp2_with fail
  refine (new_x w2 (hs.below (c2.old hB)) (hp.below (c2.old hB)) _ B).mono ?_
  rintro e w3 ⟨p, er, rfl, k3⟩
  have c3 := c2.trans k3
  clear c2 b2 k3 q1 hl1
  go_wp2
  go_ret
  exact ⟨rfl, c3.old hB⟩

set_option linter.unusedVariables false in
theorem pair_noB {a : Nat → Addr} (w : World) (hs : Sen w.heap.size a w) (hp : Par w.heap.size w) (c : Bool) (A B : Int) (a0 : 0 ≤ A) (a1 : A ≤ 2147483647) (hk : B < 0 ∨ 2147483647 < B) (v : Value) :
    Calls Tryd.prog 6 #[.bool c, skV A B, v] w fun e w' => e = .returned (.bool true) ∧ Below w.heap.size w w' := by
  have hB : w.heap.size ≤ w.heap.size := Nat.le_refl _
  have e2 : errv a 2 = .iface 82 (.pointer (some (a 2))) := rfl
  have HK := Lib.hid hk
  clear hk
  unfold skV
  have c0 : Chg none_ w (w.alloc (.cells #[.int .i64 A, .int .i64 B] 55)) := (Chg.refl none_ w).alloc _
  have b0 : Is (w.alloc (.cells #[.int .i64 A, .int .i64 B] 55)) w.heap.size 55 #[.int .i64 A, .int .i64 B] := Is.new w _ _
  go_enter Tryd.func6, Tryd.ntmps6
  go_wp2_with fail
  refine (fixed_any _ (hs.below (c0.old hB)) (hp.below (c0.old hB)) c0.size).mono ?_
  rintro e w1 ⟨rfl, k1⟩
  have b1 := b0.chg k1 (fun h => h)
  have c1 := c0.trans k1
  clear c0 b0 k1
  have q0 := b1.at_ 0 _ rfl
  have q1 := b1.at_ 1 _ rfl
  have hl1 := b1.lt
  go_wp2_with fail
  refine (new_o w1 (hp.below (c1.old hB)) c A a0 a1).mono ?_
  rintro e w2 ⟨g, rfl, _, _, k2⟩
  have b2 := b1.chg k2 (fun h => h)
  have c2 := c1.trans k2
  clear c1 b1 k2 q0 q1 hl1
  have q1 := b2.at_ 1 _ rfl
  have hl1 := b2.lt
  go_wp2_with fail
  refine (new_no w2 (hs.below (c2.old hB)) _ B HK.out).mono ?_
  rintro e w3 ⟨rfl, k3⟩
  have c3 := c2.trans k3
  clear c2 b2 k3 q1 hl1
  go_wp2
  go_ret
  exact ⟨rfl, c3.old hB⟩

/-- The facts of one number that an end gives out. -/
theorem pairfacts_true (A B X M : Int) (a0 : 0 ≤ A) (hX1 : 1 + 2 * A ≤ X) (hXp : X % 2 = 1 % 2) (hMX : M < X) (hX : X ≤ 4294967295) :
    nxV ⟨1, 1 + 2 * A, X, M, 0⟩ = X ∧ errv (fun _ => ⟨0, 0, none⟩) (nxC ⟨1, 1 + 2 * A, X, M, 0⟩) = .nilIface ∧ nxS ⟨1, 1 + 2 * A, X, M, 0⟩ = ⟨1, 1 + 2 * A, X + 2, M, 0⟩ ∧
    owB ⟨1, 1 + 2 * A, X + 2, M, 0⟩ X = true ∧ owB ⟨2, 2 + 2 * B, 2 + 2 * B, 0, M⟩ X = false ∧ knB ⟨1, 1 + 2 * A, X + 2, M, 0⟩ X = false ∧ knB ⟨2, 2 + 2 * B, 2 + 2 * B, 0, M⟩ X = false ∧
    seC ⟨1, 1 + 2 * A, X + 2, M, 0⟩ X = 0 ∧ heC ⟨2, 2 + 2 * B, 2 + 2 * B, 0, M⟩ X = 0 ∧ knB ⟨1, 1 + 2 * A, X + 2, X, 0⟩ X = true ∧ knB ⟨2, 2 + 2 * B, 2 + 2 * B, 0, X⟩ X = true ∧
    heC ⟨2, 2 + 2 * B, 2 + 2 * B, 0, X⟩ X = 19 ∧ seC ⟨1, 1 + 2 * A, X + 2, X, 0⟩ X = 19 ∧ heC ⟨1, 1 + 2 * A, X + 2, X, 0⟩ X = 18 := by
  have hX0 : 0 < X := by omega
  have hown : ∀ M T : Int, owB ⟨1, 1 + 2 * A, X + 2, M, T⟩ X = true := fun M T => by
    unfold owB
    simp only
    rw [hXp, show decide (0 < X) = true by simp [hX0]]
    rfl
  have hnot : ∀ M T : Int, owB ⟨2, 2 + 2 * B, 2 + 2 * B, M, T⟩ X = false := fun M T => by
    unfold owB
    simp only
    rw [hXp]
    simp
  have hne : X ≠ 0 := by omega
  refine ⟨?_, ?_, ?_, hown _ _, hnot _ _, ?_, ?_, ?_, ?_, ?_, ?_, ?_, ?_, ?_⟩
  · unfold nxV; simp only; rw [if_neg (by decide), if_neg (by omega)]
  · unfold nxC; simp only; rw [if_neg (by decide), if_neg (by omega)]; rfl
  · unfold nxS; simp only; rw [if_neg (by decide), if_neg (by omega)]
  · unfold knB; rw [hown]; simp only; rw [if_neg (by decide), if_neg hne, if_pos trivial]; simp; omega
  · unfold knB; rw [hnot]; simp only; rw [if_neg (by decide), if_neg hne, if_neg (by decide)]; simp; omega
  · unfold seC; rw [hown]; simp only; rw [if_neg (by decide), if_neg (by decide), if_neg (by omega), if_neg (by omega)]
  · unfold heC; rw [hnot]; simp only; rw [if_neg (by decide), if_neg hne, if_neg (by decide), if_neg (by omega)]
  · unfold knB; rw [hown]; simp only; rw [if_neg (by decide), if_neg hne, if_pos trivial]; simp
  · unfold knB; rw [hnot]; simp only; rw [if_neg (by decide), if_neg hne, if_neg (by decide)]; simp
  · unfold heC; rw [hnot]; simp only; rw [if_neg (by decide), if_neg hne, if_neg (by decide), if_pos (by omega)]
  · unfold seC; rw [hown]; simp only; rw [if_neg (by decide), if_neg (by decide), if_neg (by omega), if_pos (by omega)]
  · unfold heC; rw [hown]; simp only; rw [if_neg (by decide), if_neg hne, if_pos trivial]

set_option maxRecDepth 100000 in
set_option maxHeartbeats 2000000 in
theorem pair_true {a : Nat → Addr} (w : World) (hs : Sen w.heap.size a w) (hp : Par w.heap.size w) (A B : Int) (a0 : 0 ≤ A) (a1 : A ≤ 2147483647) (b0 : 0 ≤ B) (b1 : B ≤ 2147483647)
    (Q : Option Addr) (n c : Nat) (f : Nat → Bool) (hm : n ≤ 140737488351232) (hr : Rd w Q n fun i => .bool (f i)) :
    Calls Tryd.prog 6 #[.bool true, skV A B, .slice Q n c] w fun e w' => e = .returned (.bool true) ∧ Below w.heap.size w w' := by
  have hB : w.heap.size ≤ w.heap.size := Nat.le_refl _
  have e32 : errv a 32 = .iface 82 (.pointer (some (a 32))) := rfl
  unfold skV
  have c0 : Chg none_ w (w.alloc (.cells #[.int .i64 A, .int .i64 B] 55)) := (Chg.refl none_ w).alloc _
  have bx0 : Is (w.alloc (.cells #[.int .i64 A, .int .i64 B] 55)) w.heap.size 55 #[.int .i64 A, .int .i64 B] := Is.new w _ _
  go_enter Tryd.func6, Tryd.ntmps6
  go_wp2_with fail
  refine (fixed_any _ (hs.below (c0.old hB)) (hp.below (c0.old hB)) c0.size).mono ?_
  rintro e w1 ⟨rfl, k1⟩
  have bx1 := bx0.chg k1 (fun h => h)
  have c1 := c0.trans k1
  clear c0 bx0 k1
  have q0 := bx1.at_ 0 _ rfl
  have q1 := bx1.at_ 1 _ rfl
  have hl1 := bx1.lt
  go_wp2_with fail
  refine (new_o w1 (hp.below (c1.old hB)) true A a0 a1).mono ?_
  rintro e w2 ⟨gA, rfl, hgA, oA, k2⟩
  have hGA : w.heap.size ≤ gA := by have := c1.size; omega
  have bx2 := bx1.chg k2 (fun h => h)
  have c2 := c1.trans k2
  clear c1 bx1 k2 q0 q1 hl1 hgA
  have q1 := bx2.at_ 1 _ rfl
  have hl1 := bx2.lt
  go_wp2_with fail
  refine (new_o w2 (hp.below (c2.old hB)) _ B b0 b1).mono ?_
  rintro e w3 ⟨gB, rfl, hgB, oB, k3⟩
  have hn : gA ≠ gB := by have := oA.lt; omega
  have hGB : w.heap.size ≤ gB := by have := c2.size; omega
  replace oA := oA.keep k3
  have c3 := c2.trans k3
  clear c2 bx2 k3 q1 hl1 hgB
  go_wp2_with fail
  go_loopw [61] (fun i wr => ∃ (k : Nat) (X M : Int), k ≤ n ∧ i = .int .i64 k ∧ 1 + 2 * A ≤ X ∧ X % 2 = 1 % 2 ∧ 0 ≤ M ∧ M < X ∧ Obj wr (some ⟨gA, 0, none⟩) ⟨1, 1 + 2 * A, X, M, 0⟩ ∧ Obj wr (some ⟨gB, 0, none⟩) ⟨2, 2 + 2 * B, 2 + 2 * B, 0, M⟩ ∧ Chg none_ w wr) (fun i _ => n - (intOf i).toNat)
  case atStart => exact ⟨0, 1 + 2 * A, 0, by omega, rfl, by omega, by omega, by omega, by omega, oA, oB, c3⟩
  case round =>
    obtain ⟨k, X, M, hk, rfl, hX1, hXp, hM0, hMX, sA, sB, cr⟩ := hrel
    clear oA oB c3
    by_cases hlt : k < n
    · obtain ⟨ad, rfl, hc⟩ := hr (by omega)
      have hck : wr.cell? (ad.add k) = some (.bool (f k)) := ((cr.old hB).cell (by rw [block_add]; exact hr.lt ad (by omega) rfl)).trans (hc k hlt)
      clear hc
      by_cases hX : 4294967295 < X
      · go_wp2_with fail
        refine (next_c wr (hs.below (cr.old hB)) _ _ sA 0 (errv a 32) ⟨1, 1 + 2 * A, X, M, 0⟩ (by unfold nxV; simp only; rw [if_neg (by decide), if_pos hX]) (by unfold nxC; simp only; rw [if_neg (by decide), if_pos hX]) (by unfold nxS; simp only; rw [if_neg (by decide), if_pos hX])).mono ?_
        clear sA
        rintro e wn ⟨rfl, sA, kn⟩
        have cn := at_new hGA rfl cr kn
        clear kn cr
        go_wp2_with fail
        refine (left_c wn _ _ sA 0 (by unfold lfV; simp only; rw [if_neg (by decide), if_pos hX])).mono ?_
        rintro e wq ⟨rfl, dq⟩
        go_wp2
        go_ret
        exact ⟨rfl, (cn.trans dq.chg).old hB⟩
      · have HF := Lib.hid (pairfacts_true A B X M a0 hX1 hXp hMX (by omega))
        have HN := Lib.hid (show errv a (nxC ⟨1, 1 + 2 * A, X, M, 0⟩) = .nilIface by unfold nxC; simp only; rw [if_neg (by decide), if_neg hX]; rfl)
        have i0 : 0 ≤ X := by omega
        have i1 : X ≤ 4294967295 := by omega
        go_wp2_with fail
        refine (next_c wr (hs.below (cr.old hB)) _ _ sA X .nilIface ⟨1, 1 + 2 * A, X + 2, M, 0⟩ HF.out.1 HN.out HF.out.2.2.1).mono ?_
        clear sA
        rintro e wn ⟨rfl, sA, kn⟩
        replace sB := sB.off hn.symm kn
        have cn := at_new hGA rfl cr kn
        clear kn cr
        go_wp2_with fail
        refine (mine_c wn _ _ sA X i0 i1 true HF.out.2.2.2.1).mono ?_
        rintro e w' ⟨rfl, rfl⟩
        go_wp2_with fail
        refine (mine_c wn _ _ sB X i0 i1 false HF.out.2.2.2.2.1).mono ?_
        rintro e w' ⟨rfl, rfl⟩
        go_wp2_with fail
        refine (known_c wn _ _ sA X i0 i1 false HF.out.2.2.2.2.2.1).mono ?_
        rintro e w' ⟨rfl, rfl⟩
        go_wp2_with fail
        refine (known_c wn _ _ sB X i0 i1 false HF.out.2.2.2.2.2.2.1).mono ?_
        rintro e w' ⟨rfl, rfl⟩
        cases hf : f k with
        | false =>
          rw [hf] at hck
          go_wp2
          go_roundw
          case rel => exact ⟨k + 1, X + 2, M, by omega, by go_num, by omega, by omega, hM0, by omega, sA, sB, cn⟩
          case measure => simp [intOf]; omega
        | true =>
          rw [hf] at hck
          obtain ⟨-, -, -, -, -, -, H7, H8, H9, H10, H11, H12, H13, H14⟩ := HF.out
          have J7 := Lib.hid H7
          have J8 := Lib.hid H8
          have J9 := Lib.hid H9
          have J10 := Lib.hid H10
          have J11 := Lib.hid H11
          have J12 := Lib.hid H12
          have J13 := Lib.hid H13
          have J14 := Lib.hid H14
          clear H7 H8 H9 H10 H11 H12 H13 H14 HF
          go_wp2_with fail
          refine (sent_c wn (hs.below (cn.old hB)) _ _ sA X i0 i1 .nilIface ⟨1, 1 + 2 * A, X + 2, X, 0⟩ (by rw [J8.out]; rfl) (by unfold seS; rw [if_pos J8.out])).mono ?_
          clear sA
          rintro e w4 ⟨rfl, sA, k4⟩
          replace sB := sB.off hn.symm k4
          have c4 := at_new hGA rfl cn k4
          clear k4 cn
          go_wp2_with fail
          refine (known_c w4 _ _ sB X i0 i1 false J7.out).mono ?_
          rintro e w' ⟨rfl, rfl⟩
          go_wp2_with fail
          refine (hear_c w4 (hs.below (c4.old hB)) _ _ sB X i0 i1 .nilIface ⟨2, 2 + 2 * B, 2 + 2 * B, 0, X⟩ (by rw [J9.out]; rfl) (by unfold heS; rw [if_pos J9.out])).mono ?_
          clear sB
          rintro e w5 ⟨rfl, sB, k5⟩
          replace sA := sA.off hn k5
          have c5 := at_new hGB rfl c4 k5
          clear k5 c4
          go_wp2_with fail
          refine (known_c w5 _ _ sA X i0 i1 true J10.out).mono ?_
          rintro e w' ⟨rfl, rfl⟩
          go_wp2_with fail
          refine (known_c w5 _ _ sB X i0 i1 true J11.out).mono ?_
          rintro e w' ⟨rfl, rfl⟩
          go_wp2_with fail
          refine (hear_c w5 (hs.below (c5.old hB)) _ _ sB X i0 i1 (errv a 19) ⟨2, 2 + 2 * B, 2 + 2 * B, 0, X⟩ (by rw [J12.out]) (by unfold heS; rw [if_neg (by rw [J12.out]; decide)])).mono ?_
          clear sB
          rintro e w6 ⟨rfl, sB, k6⟩
          replace sA := sA.off hn k6
          have c6 := at_new hGB rfl c5 k6
          clear k6 c5
          go_wp2_with fail
          refine (code_any w6 (hs.below (c6.old hB)) 19 (by decide)).mono ?_
          rintro e w' ⟨rfl, rfl⟩
          go_wp2_with fail
          refine (sent_c w6 (hs.below (c6.old hB)) _ _ sA X i0 i1 (errv a 19) ⟨1, 1 + 2 * A, X + 2, X, 0⟩ (by rw [J13.out]) (by unfold seS; rw [if_neg (by rw [J13.out]; decide)])).mono ?_
          clear sA
          rintro e w7 ⟨rfl, sA, k7⟩
          replace sB := sB.off hn.symm k7
          have c7 := at_new hGA rfl c6 k7
          clear k7 c6
          go_wp2_with fail
          refine (code_any w7 (hs.below (c7.old hB)) 19 (by decide)).mono ?_
          rintro e w' ⟨rfl, rfl⟩
          go_wp2_with fail
          refine (hear_c w7 (hs.below (c7.old hB)) _ _ sA X i0 i1 (errv a 18) ⟨1, 1 + 2 * A, X + 2, X, 0⟩ (by rw [J14.out]) (by unfold heS; rw [if_neg (by rw [J14.out]; decide)])).mono ?_
          clear sA
          rintro e w8 ⟨rfl, sA, k8⟩
          replace sB := sB.off hn.symm k8
          have c8 := at_new hGA rfl c7 k8
          clear k8 c7
          go_wp2_with fail
          refine (code_any w8 (hs.below (c8.old hB)) 18 (by decide)).mono ?_
          rintro e w' ⟨rfl, rfl⟩
          go_wp2_with fail
          refine (marks_o w8 _ _ sA).mono ?_
          rintro e w9 ⟨rfl, d9⟩
          replace sA := sA.dr d9
          replace sB := sB.dr d9
          have c9 := c8.trans d9.chg
          clear d9 c8
          go_wp2_with fail
          refine (marks_o w9 _ _ sB).mono ?_
          rintro e w10 ⟨rfl, d10⟩
          replace sA := sA.dr d10
          replace sB := sB.dr d10
          have c10 := c9.trans d10.chg
          clear d10 c9
          go_wp2
          go_roundw
          case rel => exact ⟨k + 1, X + 2, X, by omega, by go_num, by omega, by omega, i0, by omega, sA, sB, c10⟩
          case measure => simp [intOf]; omega
    · obtain rfl : k = n := by omega
      go_wp2
      go_ret
      exact ⟨rfl, cr.old hB⟩

/-- The facts of one number that an end gives out. -/
theorem pairfacts_false (A B X M : Int) (a0 : 0 ≤ A) (hX1 : 2 + 2 * A ≤ X) (hXp : X % 2 = 2 % 2) (hMX : M < X) (hX : X ≤ 4294967295) :
    nxV ⟨2, 2 + 2 * A, X, M, 0⟩ = X ∧ errv (fun _ => ⟨0, 0, none⟩) (nxC ⟨2, 2 + 2 * A, X, M, 0⟩) = .nilIface ∧ nxS ⟨2, 2 + 2 * A, X, M, 0⟩ = ⟨2, 2 + 2 * A, X + 2, M, 0⟩ ∧
    owB ⟨2, 2 + 2 * A, X + 2, M, 0⟩ X = true ∧ owB ⟨1, 1 + 2 * B, 1 + 2 * B, 0, M⟩ X = false ∧ knB ⟨2, 2 + 2 * A, X + 2, M, 0⟩ X = false ∧ knB ⟨1, 1 + 2 * B, 1 + 2 * B, 0, M⟩ X = false ∧
    seC ⟨2, 2 + 2 * A, X + 2, M, 0⟩ X = 0 ∧ heC ⟨1, 1 + 2 * B, 1 + 2 * B, 0, M⟩ X = 0 ∧ knB ⟨2, 2 + 2 * A, X + 2, X, 0⟩ X = true ∧ knB ⟨1, 1 + 2 * B, 1 + 2 * B, 0, X⟩ X = true ∧
    heC ⟨1, 1 + 2 * B, 1 + 2 * B, 0, X⟩ X = 19 ∧ seC ⟨2, 2 + 2 * A, X + 2, X, 0⟩ X = 19 ∧ heC ⟨2, 2 + 2 * A, X + 2, X, 0⟩ X = 18 := by
  have hX0 : 0 < X := by omega
  have hown : ∀ M T : Int, owB ⟨2, 2 + 2 * A, X + 2, M, T⟩ X = true := fun M T => by
    unfold owB
    simp only
    rw [hXp, show decide (0 < X) = true by simp [hX0]]
    rfl
  have hnot : ∀ M T : Int, owB ⟨1, 1 + 2 * B, 1 + 2 * B, M, T⟩ X = false := fun M T => by
    unfold owB
    simp only
    rw [hXp]
    simp
  have hne : X ≠ 0 := by omega
  refine ⟨?_, ?_, ?_, hown _ _, hnot _ _, ?_, ?_, ?_, ?_, ?_, ?_, ?_, ?_, ?_⟩
  · unfold nxV; simp only; rw [if_neg (by decide), if_neg (by omega)]
  · unfold nxC; simp only; rw [if_neg (by decide), if_neg (by omega)]; rfl
  · unfold nxS; simp only; rw [if_neg (by decide), if_neg (by omega)]
  · unfold knB; rw [hown]; simp only; rw [if_neg (by decide), if_neg hne, if_pos trivial]; simp; omega
  · unfold knB; rw [hnot]; simp only; rw [if_neg (by decide), if_neg hne, if_neg (by decide)]; simp; omega
  · unfold seC; rw [hown]; simp only; rw [if_neg (by decide), if_neg (by decide), if_neg (by omega), if_neg (by omega)]
  · unfold heC; rw [hnot]; simp only; rw [if_neg (by decide), if_neg hne, if_neg (by decide), if_neg (by omega)]
  · unfold knB; rw [hown]; simp only; rw [if_neg (by decide), if_neg hne, if_pos trivial]; simp
  · unfold knB; rw [hnot]; simp only; rw [if_neg (by decide), if_neg hne, if_neg (by decide)]; simp
  · unfold heC; rw [hnot]; simp only; rw [if_neg (by decide), if_neg hne, if_neg (by decide), if_pos (by omega)]
  · unfold seC; rw [hown]; simp only; rw [if_neg (by decide), if_neg (by decide), if_neg (by omega), if_pos (by omega)]
  · unfold heC; rw [hown]; simp only; rw [if_neg (by decide), if_neg hne, if_pos trivial]

set_option maxRecDepth 100000 in
set_option maxHeartbeats 2000000 in
theorem pair_false {a : Nat → Addr} (w : World) (hs : Sen w.heap.size a w) (hp : Par w.heap.size w) (A B : Int) (a0 : 0 ≤ A) (a1 : A ≤ 2147483647) (b0 : 0 ≤ B) (b1 : B ≤ 2147483647)
    (Q : Option Addr) (n c : Nat) (f : Nat → Bool) (hm : n ≤ 140737488351232) (hr : Rd w Q n fun i => .bool (f i)) :
    Calls Tryd.prog 6 #[.bool false, skV A B, .slice Q n c] w fun e w' => e = .returned (.bool true) ∧ Below w.heap.size w w' := by
  have hB : w.heap.size ≤ w.heap.size := Nat.le_refl _
  have e32 : errv a 32 = .iface 82 (.pointer (some (a 32))) := rfl
  unfold skV
  have c0 : Chg none_ w (w.alloc (.cells #[.int .i64 A, .int .i64 B] 55)) := (Chg.refl none_ w).alloc _
  have bx0 : Is (w.alloc (.cells #[.int .i64 A, .int .i64 B] 55)) w.heap.size 55 #[.int .i64 A, .int .i64 B] := Is.new w _ _
  go_enter Tryd.func6, Tryd.ntmps6
  go_wp2_with fail
  refine (fixed_any _ (hs.below (c0.old hB)) (hp.below (c0.old hB)) c0.size).mono ?_
  rintro e w1 ⟨rfl, k1⟩
  have bx1 := bx0.chg k1 (fun h => h)
  have c1 := c0.trans k1
  clear c0 bx0 k1
  have q0 := bx1.at_ 0 _ rfl
  have q1 := bx1.at_ 1 _ rfl
  have hl1 := bx1.lt
  go_wp2_with fail
  refine (new_o w1 (hp.below (c1.old hB)) false A a0 a1).mono ?_
  rintro e w2 ⟨gA, rfl, hgA, oA, k2⟩
  have hGA : w.heap.size ≤ gA := by have := c1.size; omega
  have bx2 := bx1.chg k2 (fun h => h)
  have c2 := c1.trans k2
  clear c1 bx1 k2 q0 q1 hl1 hgA
  have q1 := bx2.at_ 1 _ rfl
  have hl1 := bx2.lt
  go_wp2_with fail
  refine (new_o w2 (hp.below (c2.old hB)) _ B b0 b1).mono ?_
  rintro e w3 ⟨gB, rfl, hgB, oB, k3⟩
  have hn : gA ≠ gB := by have := oA.lt; omega
  have hGB : w.heap.size ≤ gB := by have := c2.size; omega
  replace oA := oA.keep k3
  have c3 := c2.trans k3
  clear c2 bx2 k3 q1 hl1 hgB
  go_wp2_with fail
  go_loopw [61] (fun i wr => ∃ (k : Nat) (X M : Int), k ≤ n ∧ i = .int .i64 k ∧ 2 + 2 * A ≤ X ∧ X % 2 = 2 % 2 ∧ 0 ≤ M ∧ M < X ∧ Obj wr (some ⟨gA, 0, none⟩) ⟨2, 2 + 2 * A, X, M, 0⟩ ∧ Obj wr (some ⟨gB, 0, none⟩) ⟨1, 1 + 2 * B, 1 + 2 * B, 0, M⟩ ∧ Chg none_ w wr) (fun i _ => n - (intOf i).toNat)
  case atStart => exact ⟨0, 2 + 2 * A, 0, by omega, rfl, by omega, by omega, by omega, by omega, oA, oB, c3⟩
  case round =>
    obtain ⟨k, X, M, hk, rfl, hX1, hXp, hM0, hMX, sA, sB, cr⟩ := hrel
    clear oA oB c3
    by_cases hlt : k < n
    · obtain ⟨ad, rfl, hc⟩ := hr (by omega)
      have hck : wr.cell? (ad.add k) = some (.bool (f k)) := ((cr.old hB).cell (by rw [block_add]; exact hr.lt ad (by omega) rfl)).trans (hc k hlt)
      clear hc
      by_cases hX : 4294967295 < X
      · go_wp2_with fail
        refine (next_c wr (hs.below (cr.old hB)) _ _ sA 0 (errv a 32) ⟨2, 2 + 2 * A, X, M, 0⟩ (by unfold nxV; simp only; rw [if_neg (by decide), if_pos hX]) (by unfold nxC; simp only; rw [if_neg (by decide), if_pos hX]) (by unfold nxS; simp only; rw [if_neg (by decide), if_pos hX])).mono ?_
        clear sA
        rintro e wn ⟨rfl, sA, kn⟩
        have cn := at_new hGA rfl cr kn
        clear kn cr
        go_wp2_with fail
        refine (left_c wn _ _ sA 0 (by unfold lfV; simp only; rw [if_neg (by decide), if_pos hX])).mono ?_
        rintro e wq ⟨rfl, dq⟩
        go_wp2
        go_ret
        exact ⟨rfl, (cn.trans dq.chg).old hB⟩
      · have HF := Lib.hid (pairfacts_false A B X M a0 hX1 hXp hMX (by omega))
        have HN := Lib.hid (show errv a (nxC ⟨2, 2 + 2 * A, X, M, 0⟩) = .nilIface by unfold nxC; simp only; rw [if_neg (by decide), if_neg hX]; rfl)
        have i0 : 0 ≤ X := by omega
        have i1 : X ≤ 4294967295 := by omega
        go_wp2_with fail
        refine (next_c wr (hs.below (cr.old hB)) _ _ sA X .nilIface ⟨2, 2 + 2 * A, X + 2, M, 0⟩ HF.out.1 HN.out HF.out.2.2.1).mono ?_
        clear sA
        rintro e wn ⟨rfl, sA, kn⟩
        replace sB := sB.off hn.symm kn
        have cn := at_new hGA rfl cr kn
        clear kn cr
        go_wp2_with fail
        refine (mine_c wn _ _ sA X i0 i1 true HF.out.2.2.2.1).mono ?_
        rintro e w' ⟨rfl, rfl⟩
        go_wp2_with fail
        refine (mine_c wn _ _ sB X i0 i1 false HF.out.2.2.2.2.1).mono ?_
        rintro e w' ⟨rfl, rfl⟩
        go_wp2_with fail
        refine (known_c wn _ _ sA X i0 i1 false HF.out.2.2.2.2.2.1).mono ?_
        rintro e w' ⟨rfl, rfl⟩
        go_wp2_with fail
        refine (known_c wn _ _ sB X i0 i1 false HF.out.2.2.2.2.2.2.1).mono ?_
        rintro e w' ⟨rfl, rfl⟩
        cases hf : f k with
        | false =>
          rw [hf] at hck
          go_wp2
          go_roundw
          case rel => exact ⟨k + 1, X + 2, M, by omega, by go_num, by omega, by omega, hM0, by omega, sA, sB, cn⟩
          case measure => simp [intOf]; omega
        | true =>
          rw [hf] at hck
          obtain ⟨-, -, -, -, -, -, H7, H8, H9, H10, H11, H12, H13, H14⟩ := HF.out
          have J7 := Lib.hid H7
          have J8 := Lib.hid H8
          have J9 := Lib.hid H9
          have J10 := Lib.hid H10
          have J11 := Lib.hid H11
          have J12 := Lib.hid H12
          have J13 := Lib.hid H13
          have J14 := Lib.hid H14
          clear H7 H8 H9 H10 H11 H12 H13 H14 HF
          go_wp2_with fail
          refine (sent_c wn (hs.below (cn.old hB)) _ _ sA X i0 i1 .nilIface ⟨2, 2 + 2 * A, X + 2, X, 0⟩ (by rw [J8.out]; rfl) (by unfold seS; rw [if_pos J8.out])).mono ?_
          clear sA
          rintro e w4 ⟨rfl, sA, k4⟩
          replace sB := sB.off hn.symm k4
          have c4 := at_new hGA rfl cn k4
          clear k4 cn
          go_wp2_with fail
          refine (known_c w4 _ _ sB X i0 i1 false J7.out).mono ?_
          rintro e w' ⟨rfl, rfl⟩
          go_wp2_with fail
          refine (hear_c w4 (hs.below (c4.old hB)) _ _ sB X i0 i1 .nilIface ⟨1, 1 + 2 * B, 1 + 2 * B, 0, X⟩ (by rw [J9.out]; rfl) (by unfold heS; rw [if_pos J9.out])).mono ?_
          clear sB
          rintro e w5 ⟨rfl, sB, k5⟩
          replace sA := sA.off hn k5
          have c5 := at_new hGB rfl c4 k5
          clear k5 c4
          go_wp2_with fail
          refine (known_c w5 _ _ sA X i0 i1 true J10.out).mono ?_
          rintro e w' ⟨rfl, rfl⟩
          go_wp2_with fail
          refine (known_c w5 _ _ sB X i0 i1 true J11.out).mono ?_
          rintro e w' ⟨rfl, rfl⟩
          go_wp2_with fail
          refine (hear_c w5 (hs.below (c5.old hB)) _ _ sB X i0 i1 (errv a 19) ⟨1, 1 + 2 * B, 1 + 2 * B, 0, X⟩ (by rw [J12.out]) (by unfold heS; rw [if_neg (by rw [J12.out]; decide)])).mono ?_
          clear sB
          rintro e w6 ⟨rfl, sB, k6⟩
          replace sA := sA.off hn k6
          have c6 := at_new hGB rfl c5 k6
          clear k6 c5
          go_wp2_with fail
          refine (code_any w6 (hs.below (c6.old hB)) 19 (by decide)).mono ?_
          rintro e w' ⟨rfl, rfl⟩
          go_wp2_with fail
          refine (sent_c w6 (hs.below (c6.old hB)) _ _ sA X i0 i1 (errv a 19) ⟨2, 2 + 2 * A, X + 2, X, 0⟩ (by rw [J13.out]) (by unfold seS; rw [if_neg (by rw [J13.out]; decide)])).mono ?_
          clear sA
          rintro e w7 ⟨rfl, sA, k7⟩
          replace sB := sB.off hn.symm k7
          have c7 := at_new hGA rfl c6 k7
          clear k7 c6
          go_wp2_with fail
          refine (code_any w7 (hs.below (c7.old hB)) 19 (by decide)).mono ?_
          rintro e w' ⟨rfl, rfl⟩
          go_wp2_with fail
          refine (hear_c w7 (hs.below (c7.old hB)) _ _ sA X i0 i1 (errv a 18) ⟨2, 2 + 2 * A, X + 2, X, 0⟩ (by rw [J14.out]) (by unfold heS; rw [if_neg (by rw [J14.out]; decide)])).mono ?_
          clear sA
          rintro e w8 ⟨rfl, sA, k8⟩
          replace sB := sB.off hn.symm k8
          have c8 := at_new hGA rfl c7 k8
          clear k8 c7
          go_wp2_with fail
          refine (code_any w8 (hs.below (c8.old hB)) 18 (by decide)).mono ?_
          rintro e w' ⟨rfl, rfl⟩
          go_wp2_with fail
          refine (marks_o w8 _ _ sA).mono ?_
          rintro e w9 ⟨rfl, d9⟩
          replace sA := sA.dr d9
          replace sB := sB.dr d9
          have c9 := c8.trans d9.chg
          clear d9 c8
          go_wp2_with fail
          refine (marks_o w9 _ _ sB).mono ?_
          rintro e w10 ⟨rfl, d10⟩
          replace sA := sA.dr d10
          replace sB := sB.dr d10
          have c10 := c9.trans d10.chg
          clear d10 c9
          go_wp2
          go_roundw
          case rel => exact ⟨k + 1, X + 2, X, by omega, by go_num, by omega, by omega, i0, by omega, sA, sB, c10⟩
          case measure => simp [intOf]; omega
    · obtain rfl : k = n := by omega
      go_wp2
      go_ret
      exact ⟨rfl, cr.old hB⟩

theorem pair_walk {a : Nat → Addr} (w : World) (hs : Sen w.heap.size a w) (hp : Par w.heap.size w) (cl : Bool) (A B : Int)
    (Q : Option Addr) (n c : Nat) (f : Nat → Bool) (hm : n ≤ 140737488351232) (hr : Rd w Q n fun i => .bool (f i)) :
    Calls Tryd.prog 6 #[.bool cl, skV A B, .slice Q n c] w fun e w' => e = .returned (.bool true) ∧ Below w.heap.size w w' := by
  by_cases hA : A < 0 ∨ 2147483647 < A
  · exact pair_noA w hs hp cl A B hA _
  · by_cases hBb : B < 0 ∨ 2147483647 < B
    · exact pair_noB w hs hp cl A B (by omega) (by omega) hBb _
    · cases cl
      · exact pair_false w hs hp A B (by omega) (by omega) (by omega) (by omega) Q n c f hm hr
      · exact pair_true w hs hp A B (by omega) (by omega) (by omega) (by omega) Q n c f hm hr
end Go.Proofs.YtnigjhhomllgaaaDoor
