/-
  The walk of MsgPieces.
  No condition of its own: the fact 'Sen' on the world; sizes within the bulk.
-/
import Derived.Test.YtpmncndicdlmhaaDoorMsgGv
namespace Go.Proofs.YtpmncndicdlmhaaDoor
open Go.RowKit

theorem GvL.keep {w wr w' : World} {p : Option Addr} {most : Int} {C : List Int} {va : Value} {us : List Value} {hv : Value} (h : GvL w wr p most C va us hv) (hc : Chg none_ wr w') : GvL w w' p most C va us hv :=
  ⟨h.chg.trans hc, h.pr.keep hc, h.all.chg hc (fun _ _ f => f), h.mem.keep hc, h.off, h.off2⟩
theorem GvL.lst {w wr : World} {p : Option Addr} {most : Int} {C : List Int} {va : Value} {us : List Value} {hv : Value} (h : GvL w wr p most C va us hv) : Lst wr w.heap.size va us (sayB most C).1 := Lst.of h.all h.mem
theorem ffC_le (most : Int) (F : List Int) : ffC most F ≤ 42 := by
  unfold ffC
  split <;> omega
theorem GvL.cnt {w wr : World} {p : Option Addr} {most : Int} {C : List Int} {va : Value} {us : List Value} {hv : Value} (h : GvL w wr p most C va us hv) (hC : Byt C) : us.length ≤ C.length := by
  rw [h.mem.len]
  exact say_cnt C hC

set_option maxRecDepth 100000 in
set_option maxHeartbeats 4000000 in
theorem msgpieces_walk {a : Nat → Addr} (w : World) (hs : Sen w.heap.size a w) (most : Int) (v : Value) (xs : List Int) (hb : Bs w v xs) (hlen : xs.length ≤ 1048576) (A1 A2 : Option Addr) (n1 n2 c1 c2 : Nat) (zs1 zs2 : List Int) (hz1 : zs1.length = n1) (hz2 : zs2.length = n2)
    (hr1 : Rd w A1 n1 fun i => .int .i64 (zs1.getD i 0)) (hr2 : Rd w A2 n2 fun i => .int .i64 (zs2.getD i 0)) (hb1 : ∀ z ∈ zs1, -9223372036854775808 ≤ z ∧ z ≤ 9223372036854775807) (hb2 : ∀ z ∈ zs2, -9223372036854775808 ≤ z ∧ z ≤ 9223372036854775807) (hn1 : n1 ≤ 1048576) (hn2 : n2 ≤ 1048576) :
    Calls Tryd.prog 9 #[.int .i64 most, v, .agg #[.slice A1 n1 c1, .slice A2 n2 c2]] w fun e w' => e = .returned (.bool true) ∧ Below w.heap.size w w' := by
  have HS := Lib.hid hs
  have HB := Lib.hid hb
  have HL := Lib.hid hlen
  have HR1 := Lib.hid hr1
  have HR2 := Lib.hid hr2
  have HZ : Hid (zs1.length = n1 ∧ zs2.length = n2 ∧ (∀ z ∈ zs1, -9223372036854775808 ≤ z ∧ z ≤ 9223372036854775807) ∧ ∀ z ∈ zs2, -9223372036854775808 ≤ z ∧ z ≤ 9223372036854775807) := ⟨hz1, hz2, hb1, hb2⟩
  have HN : Hid (n1 ≤ 1048576 ∧ n2 ≤ 1048576) := ⟨hn1, hn2⟩
  clear hs hb hlen hr1 hr2 hz1 hz2 hb1 hb2 hn1 hn2
  by_cases hbad : most < 0 ∨ 1048576 < most
  · have HBad := Lib.hid hbad
    have e2 : errv a 2 = .iface 123 (.pointer (some (a 2))) := rfl
    have E2 := Lib.hid e2
    clear e2
    by_cases hneg : most < 0
    all_goals
      try have hpos : 1048576 < most := by omega
      clear hbad
      go_enter Tryd.func9, Tryd.ntmps9
      go_wp2_with fail
      refine (fixed_any _ (HS.out.below (((Chg.refl none_ w).alloc _).old (Nat.le_refl _))) (by simp)).mono ?_
      rintro e w1 ⟨rfl, k1⟩
      have HC1 : Hid (Chg none_ w w1) := ((Chg.refl none_ w).alloc _).trans k1
      have I1 : Hid (Is w1 w.heap.size 79 #[.slice A1 n1 c1, .slice A2 n2 c2]) := (Is.new w _ _).chg k1 fun f => f
      have d0 : w1.cell? ⟨w.heap.size, 0, none⟩ = some (.slice A1 n1 c1) := I1.out.at_ 0 _ rfl
      clear k1
      go_wp2_with fail
      refine (gives_no w1 (HS.out.below (HC1.out.old (Nat.le_refl _))) most HBad.out _ _).mono ?_
      rintro e w2 ⟨rfl, k2⟩
      have HC2 : Hid (Chg none_ w w2) := HC1.out.trans k2
      have d1 : w2.cell? ⟨w.heap.size, 1, none⟩ = some (.slice A2 n2 c2) := (I1.out.chg k2 fun f => f).at_ 1 _ rfl
      clear k2 d0
      go_wp2_with fail
      refine (gives_no w2 (HS.out.below (HC2.out.old (Nat.le_refl _))) most HBad.out _ _).mono ?_
      rintro e w3 ⟨rfl, k3⟩
      have HC3 : Hid (Chg none_ w w3) := HC2.out.trans k3
      clear k3
      go_wp2
      go_ret
      exact ⟨rfl, HC3.out.old (Nat.le_refl _)⟩
  · have HM : Hid (0 ≤ most ∧ most ≤ 1048576) := ⟨by omega, by omega⟩
    clear hbad
    go_enter Tryd.func9, Tryd.ntmps9
    go_wp2_with fail
    refine (fixed_any _ (HS.out.below (((Chg.refl none_ w).alloc _).old (Nat.le_refl _))) (by simp)).mono ?_
    rintro e w1 ⟨rfl, k1⟩
    have HC1 : Hid (Chg none_ w w1) := ((Chg.refl none_ w).alloc _).trans k1
    have I1 : Hid (Is w1 w.heap.size 79 #[.slice A1 n1 c1, .slice A2 n2 c2]) := (Is.new w _ _).chg k1 fun f => f
    have d0 : w1.cell? ⟨w.heap.size, 0, none⟩ = some (.slice A1 n1 c1) := I1.out.at_ 0 _ rfl
    clear k1
    go_wp2_with fail
    refine (gives_any w1 (HS.out.below (HC1.out.old (Nat.le_refl _))) HC1.out.size most HM.out.1 HM.out.2 _ xs (HB.out.chg HC1.out fun _ _ f => f) (by have := HL.out; omega) A1 n1 c1 zs1 HZ.out.1 (HR1.out.keep (HC1.out.old (Nat.le_refl _))) HZ.out.2.2.1 (by have := HN.out; omega)).mono ?_
    rintro e w2 ⟨p, va, us, hv, rfl, hp, hg⟩
    have HG := Lib.hid hg
    obtain ⟨g, rfl⟩ : ∃ g, p = some g := by cases p; exact absurd rfl hp; exact ⟨_, rfl⟩
    have HC2 : Hid (Chg none_ w w2) := HC1.out.trans hg.chg
    have d1 : w2.cell? ⟨w.heap.size, 1, none⟩ = some (.slice A2 n2 c2) := (I1.out.chg hg.chg fun f => f).at_ 1 _ rfl
    clear hg hp d0
    go_wp2_with fail
    refine (gives_any w2 (HS.out.below (HC2.out.old (Nat.le_refl _))) HC2.out.size most HM.out.1 HM.out.2 _ xs (HB.out.chg HC2.out fun _ _ f => f) (by have := HL.out; omega) A2 n2 c2 zs2 HZ.out.2.1 (HR2.out.keep (HC2.out.old (Nat.le_refl _))) HZ.out.2.2.2 (by have := HN.out; omega)).mono ?_
    rintro e w3 ⟨p2, va2, us2, hv2, rfl, hp, hg⟩
    have HG2 := Lib.hid hg
    obtain ⟨g2, rfl⟩ : ∃ g, p2 = some g := by cases p2; exact absurd rfl hp; exact ⟨_, rfl⟩
    have HC3 : Hid (Chg none_ w w3) := HC2.out.trans hg.chg
    have HG3 := Lib.hid (HG.out.keep hg.chg)
    clear hg hp d1
    go_wp2_with fail
    refine (msame_any w3 HG3.out.lst HG2.out.lst (by have := HG3.out.cnt HB.out.byt; have := HL.out; omega)).mono ?_
    rintro e w4 ⟨rfl, k4⟩
    rw [decide_eq_true rfl]
    have HC4 : Hid (Chg none_ w w4) := HC3.out.trans k4
    have HS4 : Hid (Sen w.heap.size a w4) := HS.out.below (HC4.out.old (Nat.le_refl _))
    have P1 := Lib.hid (HG3.out.pr.keep k4)
    have P2 := Lib.hid (HG2.out.pr.keep k4)
    clear k4
    go_wp2_with fail
    refine (code_any w4 HS4.out _ (ffC_le _ _)).mono ?_
    rintro e w' ⟨rfl, rfl⟩
    go_wp2_with fail
    refine (code_any w4 HS4.out _ (ffC_le _ _)).mono ?_
    rintro e w' ⟨rfl, rfl⟩
    go_wp2_with fail
    refine (pheld_any w4 P1.out).mono ?_
    rintro e w' ⟨rfl, rfl⟩
    go_wp2_with fail
    refine (pheld_any w4 P2.out).mono ?_
    rintro e w' ⟨rfl, rfl⟩
    go_wp2_with fail
    refine (pdone_any w4 HS4.out P1.out).mono ?_
    rintro e w' ⟨rfl, rfl⟩
    go_wp2_with fail
    refine (code_any w4 HS4.out _ (dC_le _ _)).mono ?_
    rintro e w' ⟨rfl, rfl⟩
    go_wp2_with fail
    refine (pdone_any w4 HS4.out P2.out).mono ?_
    rintro e w' ⟨rfl, rfl⟩
    go_wp2_with fail
    refine (code_any w4 HS4.out _ (dC_le _ _)).mono ?_
    rintro e w' ⟨rfl, rfl⟩
    go_wp2
    go_ret
    exact ⟨rfl, HC4.out.old (Nat.le_refl _)⟩
end Go.Proofs.YtpmncndicdlmhaaDoor
