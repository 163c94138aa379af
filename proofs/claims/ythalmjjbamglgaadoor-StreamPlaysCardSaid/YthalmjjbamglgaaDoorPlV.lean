/-
  The document's View by contracts, case by case.
  No condition of its own.
-/
import Derived.Test.YthalmjjbamglgaaDoorPlA
namespace Go.Proofs.YthalmjjbamglgaaDoor
open Go.RowKit
set_option linter.unusedSimpArgs false
set_option linter.unusedVariables false

section
variable (w : World) (id W st fr c l o : Int) (mine acc cl lo li td rs ct : Bool) (A1 A2 : Option Addr) (n1 k1 n2 k2 : Nat)
theorem rvs_alc {u : World} {p : Nat} {x0 x1 x2 x3 x4 x5 x6 x7 x8 x9 x10 x11 x12 x13 x14 x15 x16 : Value} (h : Is u p 51 #[x0, x1, x2, x3, x4, x5, x6, x7, x8, x9, x10, x11, x12, x13, x14, x15, x16] ∧ u.cell? ⟨p, 0, none⟩ = some (x0) ∧ u.cell? ⟨p, 1, none⟩ = some (x1) ∧ u.cell? ⟨p, 2, none⟩ = some (x2) ∧ u.cell? ⟨p, 3, none⟩ = some (x3) ∧ u.cell? ⟨p, 4, none⟩ = some (x4) ∧ u.cell? ⟨p, 5, none⟩ = some (x5) ∧ u.cell? ⟨p, 6, none⟩ = some (x6) ∧ u.cell? ⟨p, 7, none⟩ = some (x7) ∧ u.cell? ⟨p, 8, none⟩ = some (x8) ∧ u.cell? ⟨p, 9, none⟩ = some (x9) ∧ u.cell? ⟨p, 10, none⟩ = some (x10) ∧ u.cell? ⟨p, 11, none⟩ = some (x11) ∧ u.cell? ⟨p, 12, none⟩ = some (x12) ∧ u.cell? ⟨p, 13, none⟩ = some (x13) ∧ u.cell? ⟨p, 14, none⟩ = some (x14) ∧ u.cell? ⟨p, 15, none⟩ = some (x15) ∧ u.cell? ⟨p, 16, none⟩ = some (x16)) (o : Obj) : Is (u.alloc o) p 51 #[x0, x1, x2, x3, x4, x5, x6, x7, x8, x9, x10, x11, x12, x13, x14, x15, x16] ∧ (u.alloc o).cell? ⟨p, 0, none⟩ = some (x0) ∧ (u.alloc o).cell? ⟨p, 1, none⟩ = some (x1) ∧ (u.alloc o).cell? ⟨p, 2, none⟩ = some (x2) ∧ (u.alloc o).cell? ⟨p, 3, none⟩ = some (x3) ∧ (u.alloc o).cell? ⟨p, 4, none⟩ = some (x4) ∧ (u.alloc o).cell? ⟨p, 5, none⟩ = some (x5) ∧ (u.alloc o).cell? ⟨p, 6, none⟩ = some (x6) ∧ (u.alloc o).cell? ⟨p, 7, none⟩ = some (x7) ∧ (u.alloc o).cell? ⟨p, 8, none⟩ = some (x8) ∧ (u.alloc o).cell? ⟨p, 9, none⟩ = some (x9) ∧ (u.alloc o).cell? ⟨p, 10, none⟩ = some (x10) ∧ (u.alloc o).cell? ⟨p, 11, none⟩ = some (x11) ∧ (u.alloc o).cell? ⟨p, 12, none⟩ = some (x12) ∧ (u.alloc o).cell? ⟨p, 13, none⟩ = some (x13) ∧ (u.alloc o).cell? ⟨p, 14, none⟩ = some (x14) ∧ (u.alloc o).cell? ⟨p, 15, none⟩ = some (x15) ∧ (u.alloc o).cell? ⟨p, 16, none⟩ = some (x16) := by
  have h2 := h.1.alloc o
  exact ⟨h2, h2.at_ 0 _ rfl, h2.at_ 1 _ rfl, h2.at_ 2 _ rfl, h2.at_ 3 _ rfl, h2.at_ 4 _ rfl, h2.at_ 5 _ rfl, h2.at_ 6 _ rfl, h2.at_ 7 _ rfl, h2.at_ 8 _ rfl, h2.at_ 9 _ rfl, h2.at_ 10 _ rfl, h2.at_ 11 _ rfl, h2.at_ 12 _ rfl, h2.at_ 13 _ rfl, h2.at_ 14 _ rfl, h2.at_ 15 _ rfl, h2.at_ 16 _ rfl⟩
theorem rvs_chg {u u2 : World} {p : Nat} {x0 x1 x2 x3 x4 x5 x6 x7 x8 x9 x10 x11 x12 x13 x14 x15 x16 : Value} (h : Is u p 51 #[x0, x1, x2, x3, x4, x5, x6, x7, x8, x9, x10, x11, x12, x13, x14, x15, x16] ∧ u.cell? ⟨p, 0, none⟩ = some (x0) ∧ u.cell? ⟨p, 1, none⟩ = some (x1) ∧ u.cell? ⟨p, 2, none⟩ = some (x2) ∧ u.cell? ⟨p, 3, none⟩ = some (x3) ∧ u.cell? ⟨p, 4, none⟩ = some (x4) ∧ u.cell? ⟨p, 5, none⟩ = some (x5) ∧ u.cell? ⟨p, 6, none⟩ = some (x6) ∧ u.cell? ⟨p, 7, none⟩ = some (x7) ∧ u.cell? ⟨p, 8, none⟩ = some (x8) ∧ u.cell? ⟨p, 9, none⟩ = some (x9) ∧ u.cell? ⟨p, 10, none⟩ = some (x10) ∧ u.cell? ⟨p, 11, none⟩ = some (x11) ∧ u.cell? ⟨p, 12, none⟩ = some (x12) ∧ u.cell? ⟨p, 13, none⟩ = some (x13) ∧ u.cell? ⟨p, 14, none⟩ = some (x14) ∧ u.cell? ⟨p, 15, none⟩ = some (x15) ∧ u.cell? ⟨p, 16, none⟩ = some (x16)) (hc : Chg none_ u u2) : Is u2 p 51 #[x0, x1, x2, x3, x4, x5, x6, x7, x8, x9, x10, x11, x12, x13, x14, x15, x16] ∧ u2.cell? ⟨p, 0, none⟩ = some (x0) ∧ u2.cell? ⟨p, 1, none⟩ = some (x1) ∧ u2.cell? ⟨p, 2, none⟩ = some (x2) ∧ u2.cell? ⟨p, 3, none⟩ = some (x3) ∧ u2.cell? ⟨p, 4, none⟩ = some (x4) ∧ u2.cell? ⟨p, 5, none⟩ = some (x5) ∧ u2.cell? ⟨p, 6, none⟩ = some (x6) ∧ u2.cell? ⟨p, 7, none⟩ = some (x7) ∧ u2.cell? ⟨p, 8, none⟩ = some (x8) ∧ u2.cell? ⟨p, 9, none⟩ = some (x9) ∧ u2.cell? ⟨p, 10, none⟩ = some (x10) ∧ u2.cell? ⟨p, 11, none⟩ = some (x11) ∧ u2.cell? ⟨p, 12, none⟩ = some (x12) ∧ u2.cell? ⟨p, 13, none⟩ = some (x13) ∧ u2.cell? ⟨p, 14, none⟩ = some (x14) ∧ u2.cell? ⟨p, 15, none⟩ = some (x15) ∧ u2.cell? ⟨p, 16, none⟩ = some (x16) := by
  have h2 := h.1.chg hc fun f => f
  exact ⟨h2, h2.at_ 0 _ rfl, h2.at_ 1 _ rfl, h2.at_ 2 _ rfl, h2.at_ 3 _ rfl, h2.at_ 4 _ rfl, h2.at_ 5 _ rfl, h2.at_ 6 _ rfl, h2.at_ 7 _ rfl, h2.at_ 8 _ rfl, h2.at_ 9 _ rfl, h2.at_ 10 _ rfl, h2.at_ 11 _ rfl, h2.at_ 12 _ rfl, h2.at_ 13 _ rfl, h2.at_ 14 _ rfl, h2.at_ 15 _ rfl, h2.at_ 16 _ rfl⟩
set_option maxRecDepth 100000 in
set_option maxHeartbeats 4000000 in
theorem qview_rs : Calls Tryd.prog 61 #[.agg #[.int .u32 id, .int .i64 W, .int .i64 st, .int .i64 fr, .bool mine, .bool acc, (.slice A1 n1 k1), .bool cl, .bool lo, .int .i64 c, (.slice A2 n2 k2), .int .i64 l, .int .i64 o, .bool li, .bool td, .bool true, .bool ct]] w fun e w' => e = .returned (.agg #[.int .u32 id, .int .i64 (stOf mine acc lo li true), .bool mine, .bool acc, .int .i64 (n1 : Int), .int .u32 0, .int .i64 0, .int .i64 (n2 : Int), .int .i64 0, .bool cl, .bool td]) ∧ Chg none_ w w' := by
  obtain ⟨w1, hw1⟩ : ∃ y, (w.alloc (.cells #[.int .u32 id, .int .i64 W, .int .i64 st, .int .i64 fr, .bool mine, .bool acc, (.slice A1 n1 k1), .bool cl, .bool lo, .int .i64 c, (.slice A2 n2 k2), .int .i64 l, .int .i64 o, .bool li, .bool td, .bool true, .bool ct] 51)).alloc (.cells #[.int .u32 0, .int .i64 0, .bool false, .bool false, .int .i64 0, .int .u32 0, .int .i64 0, .int .i64 0, .int .i64 0, .bool false, .bool false] 58) = y := ⟨_, rfl⟩
  have k0 : Chg none_ w w1 := by rw [← hw1]; exact ((Chg.refl none_ w).alloc _).alloc _
  have b1 : Is w1 w.heap.size 51 #[.int .u32 id, .int .i64 W, .int .i64 st, .int .i64 fr, .bool mine, .bool acc, (.slice A1 n1 k1), .bool cl, .bool lo, .int .i64 c, (.slice A2 n2 k2), .int .i64 l, .int .i64 o, .bool li, .bool td, .bool true, .bool ct] := by rw [← hw1]; exact (Is.new w _ _).alloc _
  have r1 : Is w1 (w.heap.size + 1) 58 #[.int .u32 0, .int .i64 0, .bool false, .bool false, .int .i64 0, .int .u32 0, .int .i64 0, .int .i64 0, .int .i64 0, .bool false, .bool false] := by rw [← hw1]; exact isn2 w _ _ _
  have K1 := Lib.hid k0
  have B1 := Lib.hid b1
  have R1 := Lib.hid r1
  obtain ⟨sv, hsv⟩ : ∃ y, stOf mine acc lo li true = y := ⟨_, rfl⟩
  have HSv := Lib.hid hsv
  rw [hsv]
  have HSt : Hid (∀ u, Calls Tryd.prog 98 #[.agg #[.int .u32 id, .int .i64 W, .int .i64 st, .int .i64 fr, .bool mine, .bool acc, (.slice A1 n1 k1), .bool cl, .bool lo, .int .i64 c, (.slice A2 n2 k2), .int .i64 l, .int .i64 o, .bool li, .bool td, .bool true, .bool ct]] u fun e w' => e = .returned (.int .i64 sv) ∧ w' = u.alloc (.cells #[.int .u32 id, .int .i64 W, .int .i64 st, .int .i64 fr, .bool mine, .bool acc, (.slice A1 n1 k1), .bool cl, .bool lo, .int .i64 c, (.slice A2 n2 k2), .int .i64 l, .int .i64 o, .bool li, .bool td, .bool true, .bool ct] 51)) := fun u => by rw [← hsv]; exact qstateX u id W st fr c l o mine acc cl lo li td true ct A1 A2 n1 k1 n2 k2
  clear b1 r1 k0 hsv
  have HS1 : Hid (∀ u, Chg none_ w1 u → Is u w.heap.size 51 #[.int .u32 id, .int .i64 W, .int .i64 st, .int .i64 fr, .bool mine, .bool acc, (.slice A1 n1 k1), .bool cl, .bool lo, .int .i64 c, (.slice A2 n2 k2), .int .i64 l, .int .i64 o, .bool li, .bool td, .bool true, .bool ct] ∧ u.cell? ⟨w.heap.size, 0, none⟩ = some (.int .u32 id) ∧ u.cell? ⟨w.heap.size, 1, none⟩ = some (.int .i64 W) ∧ u.cell? ⟨w.heap.size, 2, none⟩ = some (.int .i64 st) ∧ u.cell? ⟨w.heap.size, 3, none⟩ = some (.int .i64 fr) ∧ u.cell? ⟨w.heap.size, 4, none⟩ = some (.bool mine) ∧ u.cell? ⟨w.heap.size, 5, none⟩ = some (.bool acc) ∧ u.cell? ⟨w.heap.size, 6, none⟩ = some ((.slice A1 n1 k1)) ∧ u.cell? ⟨w.heap.size, 7, none⟩ = some (.bool cl) ∧ u.cell? ⟨w.heap.size, 8, none⟩ = some (.bool lo) ∧ u.cell? ⟨w.heap.size, 9, none⟩ = some (.int .i64 c) ∧ u.cell? ⟨w.heap.size, 10, none⟩ = some ((.slice A2 n2 k2)) ∧ u.cell? ⟨w.heap.size, 11, none⟩ = some (.int .i64 l) ∧ u.cell? ⟨w.heap.size, 12, none⟩ = some (.int .i64 o) ∧ u.cell? ⟨w.heap.size, 13, none⟩ = some (.bool li) ∧ u.cell? ⟨w.heap.size, 14, none⟩ = some (.bool td) ∧ u.cell? ⟨w.heap.size, 15, none⟩ = some (.bool true) ∧ u.cell? ⟨w.heap.size, 16, none⟩ = some (.bool ct)) := fun u hc => by have h := B1.out.chg hc fun f => f; exact ⟨h, h.at_ 0 _ rfl, h.at_ 1 _ rfl, h.at_ 2 _ rfl, h.at_ 3 _ rfl, h.at_ 4 _ rfl, h.at_ 5 _ rfl, h.at_ 6 _ rfl, h.at_ 7 _ rfl, h.at_ 8 _ rfl, h.at_ 9 _ rfl, h.at_ 10 _ rfl, h.at_ 11 _ rfl, h.at_ 12 _ rfl, h.at_ 13 _ rfl, h.at_ 14 _ rfl, h.at_ 15 _ rfl, h.at_ 16 _ rfl⟩
  go_enter Tryd.func61, Tryd.ntmps61
  go_upto_region 1 with fail
  clear hw1
  go_cut [3] (fun v wx => ∃ r2, v = .pointer (some ⟨r2, 0, none⟩) ∧ w.heap.size + 1 < r2 ∧ Is wx r2 58 #[.int .u32 id, .int .i64 sv, .bool mine, .bool acc, .int .i64 (n1 : Int), .int .u32 0, .int .i64 0, .int .i64 (n2 : Int), .int .i64 0, .bool cl, .bool td] ∧ Chg none_ w1 wx)
  case first =>
    go_region_held3 (fun u => Is u w.heap.size 51 #[.int .u32 id, .int .i64 W, .int .i64 st, .int .i64 fr, .bool mine, .bool acc, (.slice A1 n1 k1), .bool cl, .bool lo, .int .i64 c, (.slice A2 n2 k2), .int .i64 l, .int .i64 o, .bool li, .bool td, .bool true, .bool ct] ∧ u.cell? ⟨w.heap.size, 0, none⟩ = some (.int .u32 id) ∧ u.cell? ⟨w.heap.size, 1, none⟩ = some (.int .i64 W) ∧ u.cell? ⟨w.heap.size, 2, none⟩ = some (.int .i64 st) ∧ u.cell? ⟨w.heap.size, 3, none⟩ = some (.int .i64 fr) ∧ u.cell? ⟨w.heap.size, 4, none⟩ = some (.bool mine) ∧ u.cell? ⟨w.heap.size, 5, none⟩ = some (.bool acc) ∧ u.cell? ⟨w.heap.size, 6, none⟩ = some ((.slice A1 n1 k1)) ∧ u.cell? ⟨w.heap.size, 7, none⟩ = some (.bool cl) ∧ u.cell? ⟨w.heap.size, 8, none⟩ = some (.bool lo) ∧ u.cell? ⟨w.heap.size, 9, none⟩ = some (.int .i64 c) ∧ u.cell? ⟨w.heap.size, 10, none⟩ = some ((.slice A2 n2 k2)) ∧ u.cell? ⟨w.heap.size, 11, none⟩ = some (.int .i64 l) ∧ u.cell? ⟨w.heap.size, 12, none⟩ = some (.int .i64 o) ∧ u.cell? ⟨w.heap.size, 13, none⟩ = some (.bool li) ∧ u.cell? ⟨w.heap.size, 14, none⟩ = some (.bool td) ∧ u.cell? ⟨w.heap.size, 15, none⟩ = some (.bool true) ∧ u.cell? ⟨w.heap.size, 16, none⟩ = some (.bool ct))
      (first | assumption | exact rvs_alc (by assumption) _ | exact HS1.out _ (by repeat' (first | with_reducible exact Chg.refl none_ w1 | with_reducible apply Chg.drew | with_reducible apply Chg.alloc)))
      (first
        | (go_at_call 98; refine (HSt.out _).mono ?_; rintro e w2 ⟨rfl, rfl⟩))
    all_goals (
      go_wp2_with fail
      go_meet
      refine ⟨_, rfl, ?_, ?_, (((Chg.refl none_ w1).alloc _).alloc _).drew⟩
      · have := R1.out.lt
        first | omega | (simp; omega)
      · first | exact Is.drew1_ (Is.alloc (Is.new w1 _ _) _) | exact Is.drew1_ (isn2 w1 _ _ _))
  case rest =>
    obtain ⟨w4, rfl⟩ : ∃ y, y = wc := ⟨_, rfl⟩
    obtain ⟨r2, rfl, hlt, i2, c2⟩ := hcut
    have K4 := Lib.hid (K1.out.trans c2)
    have B4 := Lib.hid (B1.out.chg c2 fun f => f)
    have R4 := Lib.hid (R1.out.chg c2 fun f => f)
    have V4 := Lib.hid i2
    have p8 : w4.cell? ⟨w.heap.size, 8, none⟩ = some (.bool lo) := B4.out.at_ 8 _ rfl
    have p9 : w4.cell? ⟨w.heap.size, 9, none⟩ = some (.int .i64 c) := B4.out.at_ 9 _ rfl
    have p11 : w4.cell? ⟨w.heap.size, 11, none⟩ = some (.int .i64 l) := B4.out.at_ 11 _ rfl
    have p12 : w4.cell? ⟨w.heap.size, 12, none⟩ = some (.int .i64 o) := B4.out.at_ 12 _ rfl
    have p13 : w4.cell? ⟨w.heap.size, 13, none⟩ = some (.bool li) := B4.out.at_ 13 _ rfl
    have p15 : w4.cell? ⟨w.heap.size, 15, none⟩ = some (.bool true) := B4.out.at_ 15 _ rfl
    have p16 : w4.cell? ⟨w.heap.size, 16, none⟩ = some (.bool ct) := B4.out.at_ 16 _ rfl
    clear i2 c2
    go_wp2_with (first
      | (refine ldV rfl _ rfl rfl V4.out rfl ?_)
      | (refine stV rfl _ _ rfl rfl rfl R4.out rfl rfl rfl ?_; intro w5 i5 c5; have R5 := Lib.hid i5; have K5 := Lib.hid (chg2 K4.out c5 (by omega)); clear i5 c5))
    refine bodyPost_ret (results_c1 rfl _ rfl R5.out Tryd.underlying58 rfl szV) rfl ?_
    exact ⟨rfl, K5.out⟩
set_option maxRecDepth 100000 in
set_option maxHeartbeats 4000000 in
theorem qview_ct : Calls Tryd.prog 61 #[.agg #[.int .u32 id, .int .i64 W, .int .i64 st, .int .i64 fr, .bool mine, .bool acc, (.slice A1 n1 k1), .bool cl, .bool lo, .int .i64 c, (.slice A2 n2 k2), .int .i64 l, .int .i64 o, .bool li, .bool td, .bool false, .bool true]] w fun e w' => e = .returned (.agg #[.int .u32 id, .int .i64 (stOf mine acc lo li false), .bool mine, .bool acc, .int .i64 (n1 : Int), .int .u32 0, .int .i64 0, .int .i64 (n2 : Int), .int .i64 0, .bool cl, .bool td]) ∧ Chg none_ w w' := by
  obtain ⟨w1, hw1⟩ : ∃ y, (w.alloc (.cells #[.int .u32 id, .int .i64 W, .int .i64 st, .int .i64 fr, .bool mine, .bool acc, (.slice A1 n1 k1), .bool cl, .bool lo, .int .i64 c, (.slice A2 n2 k2), .int .i64 l, .int .i64 o, .bool li, .bool td, .bool false, .bool true] 51)).alloc (.cells #[.int .u32 0, .int .i64 0, .bool false, .bool false, .int .i64 0, .int .u32 0, .int .i64 0, .int .i64 0, .int .i64 0, .bool false, .bool false] 58) = y := ⟨_, rfl⟩
  have k0 : Chg none_ w w1 := by rw [← hw1]; exact ((Chg.refl none_ w).alloc _).alloc _
  have b1 : Is w1 w.heap.size 51 #[.int .u32 id, .int .i64 W, .int .i64 st, .int .i64 fr, .bool mine, .bool acc, (.slice A1 n1 k1), .bool cl, .bool lo, .int .i64 c, (.slice A2 n2 k2), .int .i64 l, .int .i64 o, .bool li, .bool td, .bool false, .bool true] := by rw [← hw1]; exact (Is.new w _ _).alloc _
  have r1 : Is w1 (w.heap.size + 1) 58 #[.int .u32 0, .int .i64 0, .bool false, .bool false, .int .i64 0, .int .u32 0, .int .i64 0, .int .i64 0, .int .i64 0, .bool false, .bool false] := by rw [← hw1]; exact isn2 w _ _ _
  have K1 := Lib.hid k0
  have B1 := Lib.hid b1
  have R1 := Lib.hid r1
  obtain ⟨sv, hsv⟩ : ∃ y, stOf mine acc lo li false = y := ⟨_, rfl⟩
  have HSv := Lib.hid hsv
  rw [hsv]
  have HSt : Hid (∀ u, Calls Tryd.prog 98 #[.agg #[.int .u32 id, .int .i64 W, .int .i64 st, .int .i64 fr, .bool mine, .bool acc, (.slice A1 n1 k1), .bool cl, .bool lo, .int .i64 c, (.slice A2 n2 k2), .int .i64 l, .int .i64 o, .bool li, .bool td, .bool false, .bool true]] u fun e w' => e = .returned (.int .i64 sv) ∧ w' = u.alloc (.cells #[.int .u32 id, .int .i64 W, .int .i64 st, .int .i64 fr, .bool mine, .bool acc, (.slice A1 n1 k1), .bool cl, .bool lo, .int .i64 c, (.slice A2 n2 k2), .int .i64 l, .int .i64 o, .bool li, .bool td, .bool false, .bool true] 51)) := fun u => by rw [← hsv]; exact qstateX u id W st fr c l o mine acc cl lo li td false true A1 A2 n1 k1 n2 k2
  clear b1 r1 k0 hsv
  have HS1 : Hid (∀ u, Chg none_ w1 u → Is u w.heap.size 51 #[.int .u32 id, .int .i64 W, .int .i64 st, .int .i64 fr, .bool mine, .bool acc, (.slice A1 n1 k1), .bool cl, .bool lo, .int .i64 c, (.slice A2 n2 k2), .int .i64 l, .int .i64 o, .bool li, .bool td, .bool false, .bool true] ∧ u.cell? ⟨w.heap.size, 0, none⟩ = some (.int .u32 id) ∧ u.cell? ⟨w.heap.size, 1, none⟩ = some (.int .i64 W) ∧ u.cell? ⟨w.heap.size, 2, none⟩ = some (.int .i64 st) ∧ u.cell? ⟨w.heap.size, 3, none⟩ = some (.int .i64 fr) ∧ u.cell? ⟨w.heap.size, 4, none⟩ = some (.bool mine) ∧ u.cell? ⟨w.heap.size, 5, none⟩ = some (.bool acc) ∧ u.cell? ⟨w.heap.size, 6, none⟩ = some ((.slice A1 n1 k1)) ∧ u.cell? ⟨w.heap.size, 7, none⟩ = some (.bool cl) ∧ u.cell? ⟨w.heap.size, 8, none⟩ = some (.bool lo) ∧ u.cell? ⟨w.heap.size, 9, none⟩ = some (.int .i64 c) ∧ u.cell? ⟨w.heap.size, 10, none⟩ = some ((.slice A2 n2 k2)) ∧ u.cell? ⟨w.heap.size, 11, none⟩ = some (.int .i64 l) ∧ u.cell? ⟨w.heap.size, 12, none⟩ = some (.int .i64 o) ∧ u.cell? ⟨w.heap.size, 13, none⟩ = some (.bool li) ∧ u.cell? ⟨w.heap.size, 14, none⟩ = some (.bool td) ∧ u.cell? ⟨w.heap.size, 15, none⟩ = some (.bool false) ∧ u.cell? ⟨w.heap.size, 16, none⟩ = some (.bool true)) := fun u hc => by have h := B1.out.chg hc fun f => f; exact ⟨h, h.at_ 0 _ rfl, h.at_ 1 _ rfl, h.at_ 2 _ rfl, h.at_ 3 _ rfl, h.at_ 4 _ rfl, h.at_ 5 _ rfl, h.at_ 6 _ rfl, h.at_ 7 _ rfl, h.at_ 8 _ rfl, h.at_ 9 _ rfl, h.at_ 10 _ rfl, h.at_ 11 _ rfl, h.at_ 12 _ rfl, h.at_ 13 _ rfl, h.at_ 14 _ rfl, h.at_ 15 _ rfl, h.at_ 16 _ rfl⟩
  go_enter Tryd.func61, Tryd.ntmps61
  go_upto_region 1 with fail
  clear hw1
  go_cut [3] (fun v wx => ∃ r2, v = .pointer (some ⟨r2, 0, none⟩) ∧ w.heap.size + 1 < r2 ∧ Is wx r2 58 #[.int .u32 id, .int .i64 sv, .bool mine, .bool acc, .int .i64 (n1 : Int), .int .u32 0, .int .i64 0, .int .i64 (n2 : Int), .int .i64 0, .bool cl, .bool td] ∧ Chg none_ w1 wx)
  case first =>
    go_region_held3 (fun u => Is u w.heap.size 51 #[.int .u32 id, .int .i64 W, .int .i64 st, .int .i64 fr, .bool mine, .bool acc, (.slice A1 n1 k1), .bool cl, .bool lo, .int .i64 c, (.slice A2 n2 k2), .int .i64 l, .int .i64 o, .bool li, .bool td, .bool false, .bool true] ∧ u.cell? ⟨w.heap.size, 0, none⟩ = some (.int .u32 id) ∧ u.cell? ⟨w.heap.size, 1, none⟩ = some (.int .i64 W) ∧ u.cell? ⟨w.heap.size, 2, none⟩ = some (.int .i64 st) ∧ u.cell? ⟨w.heap.size, 3, none⟩ = some (.int .i64 fr) ∧ u.cell? ⟨w.heap.size, 4, none⟩ = some (.bool mine) ∧ u.cell? ⟨w.heap.size, 5, none⟩ = some (.bool acc) ∧ u.cell? ⟨w.heap.size, 6, none⟩ = some ((.slice A1 n1 k1)) ∧ u.cell? ⟨w.heap.size, 7, none⟩ = some (.bool cl) ∧ u.cell? ⟨w.heap.size, 8, none⟩ = some (.bool lo) ∧ u.cell? ⟨w.heap.size, 9, none⟩ = some (.int .i64 c) ∧ u.cell? ⟨w.heap.size, 10, none⟩ = some ((.slice A2 n2 k2)) ∧ u.cell? ⟨w.heap.size, 11, none⟩ = some (.int .i64 l) ∧ u.cell? ⟨w.heap.size, 12, none⟩ = some (.int .i64 o) ∧ u.cell? ⟨w.heap.size, 13, none⟩ = some (.bool li) ∧ u.cell? ⟨w.heap.size, 14, none⟩ = some (.bool td) ∧ u.cell? ⟨w.heap.size, 15, none⟩ = some (.bool false) ∧ u.cell? ⟨w.heap.size, 16, none⟩ = some (.bool true))
      (first | assumption | exact rvs_alc (by assumption) _ | exact HS1.out _ (by repeat' (first | with_reducible exact Chg.refl none_ w1 | with_reducible apply Chg.drew | with_reducible apply Chg.alloc)))
      (first
        | (go_at_call 98; refine (HSt.out _).mono ?_; rintro e w2 ⟨rfl, rfl⟩))
    all_goals (
      go_wp2_with fail
      go_meet
      refine ⟨_, rfl, ?_, ?_, (((Chg.refl none_ w1).alloc _).alloc _).drew⟩
      · have := R1.out.lt
        first | omega | (simp; omega)
      · first | exact Is.drew1_ (Is.alloc (Is.new w1 _ _) _) | exact Is.drew1_ (isn2 w1 _ _ _))
  case rest =>
    obtain ⟨w4, rfl⟩ : ∃ y, y = wc := ⟨_, rfl⟩
    obtain ⟨r2, rfl, hlt, i2, c2⟩ := hcut
    have K4 := Lib.hid (K1.out.trans c2)
    have B4 := Lib.hid (B1.out.chg c2 fun f => f)
    have R4 := Lib.hid (R1.out.chg c2 fun f => f)
    have V4 := Lib.hid i2
    have p8 : w4.cell? ⟨w.heap.size, 8, none⟩ = some (.bool lo) := B4.out.at_ 8 _ rfl
    have p9 : w4.cell? ⟨w.heap.size, 9, none⟩ = some (.int .i64 c) := B4.out.at_ 9 _ rfl
    have p11 : w4.cell? ⟨w.heap.size, 11, none⟩ = some (.int .i64 l) := B4.out.at_ 11 _ rfl
    have p12 : w4.cell? ⟨w.heap.size, 12, none⟩ = some (.int .i64 o) := B4.out.at_ 12 _ rfl
    have p13 : w4.cell? ⟨w.heap.size, 13, none⟩ = some (.bool li) := B4.out.at_ 13 _ rfl
    have p15 : w4.cell? ⟨w.heap.size, 15, none⟩ = some (.bool false) := B4.out.at_ 15 _ rfl
    have p16 : w4.cell? ⟨w.heap.size, 16, none⟩ = some (.bool true) := B4.out.at_ 16 _ rfl
    clear i2 c2
    go_wp2_with (first
      | (refine ldV rfl _ rfl rfl V4.out rfl ?_)
      | (refine stV rfl _ _ rfl rfl rfl R4.out rfl rfl rfl ?_; intro w5 i5 c5; have R5 := Lib.hid i5; have K5 := Lib.hid (chg2 K4.out c5 (by omega)); clear i5 c5))
    refine bodyPost_ret (results_c1 rfl _ rfl R5.out Tryd.underlying58 rfl szV) rfl ?_
    exact ⟨rfl, K5.out⟩
set_option maxRecDepth 100000 in
set_option maxHeartbeats 4000000 in
theorem qview_11 : Calls Tryd.prog 61 #[.agg #[.int .u32 id, .int .i64 W, .int .i64 st, .int .i64 fr, .bool mine, .bool acc, (.slice A1 n1 k1), .bool cl, .bool true, .int .i64 c, (.slice A2 n2 k2), .int .i64 l, .int .i64 o, .bool true, .bool td, .bool false, .bool false]] w fun e w' => e = .returned (.agg #[.int .u32 id, .int .i64 (stOf mine acc true true false), .bool mine, .bool acc, .int .i64 (n1 : Int), .int .u32 0, .int .i64 0, .int .i64 (n2 : Int), .int .i64 0, .bool cl, .bool td]) ∧ Chg none_ w w' := by
  obtain ⟨w1, hw1⟩ : ∃ y, (w.alloc (.cells #[.int .u32 id, .int .i64 W, .int .i64 st, .int .i64 fr, .bool mine, .bool acc, (.slice A1 n1 k1), .bool cl, .bool true, .int .i64 c, (.slice A2 n2 k2), .int .i64 l, .int .i64 o, .bool true, .bool td, .bool false, .bool false] 51)).alloc (.cells #[.int .u32 0, .int .i64 0, .bool false, .bool false, .int .i64 0, .int .u32 0, .int .i64 0, .int .i64 0, .int .i64 0, .bool false, .bool false] 58) = y := ⟨_, rfl⟩
  have k0 : Chg none_ w w1 := by rw [← hw1]; exact ((Chg.refl none_ w).alloc _).alloc _
  have b1 : Is w1 w.heap.size 51 #[.int .u32 id, .int .i64 W, .int .i64 st, .int .i64 fr, .bool mine, .bool acc, (.slice A1 n1 k1), .bool cl, .bool true, .int .i64 c, (.slice A2 n2 k2), .int .i64 l, .int .i64 o, .bool true, .bool td, .bool false, .bool false] := by rw [← hw1]; exact (Is.new w _ _).alloc _
  have r1 : Is w1 (w.heap.size + 1) 58 #[.int .u32 0, .int .i64 0, .bool false, .bool false, .int .i64 0, .int .u32 0, .int .i64 0, .int .i64 0, .int .i64 0, .bool false, .bool false] := by rw [← hw1]; exact isn2 w _ _ _
  have K1 := Lib.hid k0
  have B1 := Lib.hid b1
  have R1 := Lib.hid r1
  obtain ⟨sv, hsv⟩ : ∃ y, stOf mine acc true true false = y := ⟨_, rfl⟩
  have HSv := Lib.hid hsv
  rw [hsv]
  have HSt : Hid (∀ u, Calls Tryd.prog 98 #[.agg #[.int .u32 id, .int .i64 W, .int .i64 st, .int .i64 fr, .bool mine, .bool acc, (.slice A1 n1 k1), .bool cl, .bool true, .int .i64 c, (.slice A2 n2 k2), .int .i64 l, .int .i64 o, .bool true, .bool td, .bool false, .bool false]] u fun e w' => e = .returned (.int .i64 sv) ∧ w' = u.alloc (.cells #[.int .u32 id, .int .i64 W, .int .i64 st, .int .i64 fr, .bool mine, .bool acc, (.slice A1 n1 k1), .bool cl, .bool true, .int .i64 c, (.slice A2 n2 k2), .int .i64 l, .int .i64 o, .bool true, .bool td, .bool false, .bool false] 51)) := fun u => by rw [← hsv]; exact qstateX u id W st fr c l o mine acc cl true true td false false A1 A2 n1 k1 n2 k2
  clear b1 r1 k0 hsv
  have HS1 : Hid (∀ u, Chg none_ w1 u → Is u w.heap.size 51 #[.int .u32 id, .int .i64 W, .int .i64 st, .int .i64 fr, .bool mine, .bool acc, (.slice A1 n1 k1), .bool cl, .bool true, .int .i64 c, (.slice A2 n2 k2), .int .i64 l, .int .i64 o, .bool true, .bool td, .bool false, .bool false] ∧ u.cell? ⟨w.heap.size, 0, none⟩ = some (.int .u32 id) ∧ u.cell? ⟨w.heap.size, 1, none⟩ = some (.int .i64 W) ∧ u.cell? ⟨w.heap.size, 2, none⟩ = some (.int .i64 st) ∧ u.cell? ⟨w.heap.size, 3, none⟩ = some (.int .i64 fr) ∧ u.cell? ⟨w.heap.size, 4, none⟩ = some (.bool mine) ∧ u.cell? ⟨w.heap.size, 5, none⟩ = some (.bool acc) ∧ u.cell? ⟨w.heap.size, 6, none⟩ = some ((.slice A1 n1 k1)) ∧ u.cell? ⟨w.heap.size, 7, none⟩ = some (.bool cl) ∧ u.cell? ⟨w.heap.size, 8, none⟩ = some (.bool true) ∧ u.cell? ⟨w.heap.size, 9, none⟩ = some (.int .i64 c) ∧ u.cell? ⟨w.heap.size, 10, none⟩ = some ((.slice A2 n2 k2)) ∧ u.cell? ⟨w.heap.size, 11, none⟩ = some (.int .i64 l) ∧ u.cell? ⟨w.heap.size, 12, none⟩ = some (.int .i64 o) ∧ u.cell? ⟨w.heap.size, 13, none⟩ = some (.bool true) ∧ u.cell? ⟨w.heap.size, 14, none⟩ = some (.bool td) ∧ u.cell? ⟨w.heap.size, 15, none⟩ = some (.bool false) ∧ u.cell? ⟨w.heap.size, 16, none⟩ = some (.bool false)) := fun u hc => by have h := B1.out.chg hc fun f => f; exact ⟨h, h.at_ 0 _ rfl, h.at_ 1 _ rfl, h.at_ 2 _ rfl, h.at_ 3 _ rfl, h.at_ 4 _ rfl, h.at_ 5 _ rfl, h.at_ 6 _ rfl, h.at_ 7 _ rfl, h.at_ 8 _ rfl, h.at_ 9 _ rfl, h.at_ 10 _ rfl, h.at_ 11 _ rfl, h.at_ 12 _ rfl, h.at_ 13 _ rfl, h.at_ 14 _ rfl, h.at_ 15 _ rfl, h.at_ 16 _ rfl⟩
  go_enter Tryd.func61, Tryd.ntmps61
  go_upto_region 1 with fail
  clear hw1
  go_cut [3] (fun v wx => ∃ r2, v = .pointer (some ⟨r2, 0, none⟩) ∧ w.heap.size + 1 < r2 ∧ Is wx r2 58 #[.int .u32 id, .int .i64 sv, .bool mine, .bool acc, .int .i64 (n1 : Int), .int .u32 0, .int .i64 0, .int .i64 (n2 : Int), .int .i64 0, .bool cl, .bool td] ∧ Chg none_ w1 wx)
  case first =>
    go_region_held3 (fun u => Is u w.heap.size 51 #[.int .u32 id, .int .i64 W, .int .i64 st, .int .i64 fr, .bool mine, .bool acc, (.slice A1 n1 k1), .bool cl, .bool true, .int .i64 c, (.slice A2 n2 k2), .int .i64 l, .int .i64 o, .bool true, .bool td, .bool false, .bool false] ∧ u.cell? ⟨w.heap.size, 0, none⟩ = some (.int .u32 id) ∧ u.cell? ⟨w.heap.size, 1, none⟩ = some (.int .i64 W) ∧ u.cell? ⟨w.heap.size, 2, none⟩ = some (.int .i64 st) ∧ u.cell? ⟨w.heap.size, 3, none⟩ = some (.int .i64 fr) ∧ u.cell? ⟨w.heap.size, 4, none⟩ = some (.bool mine) ∧ u.cell? ⟨w.heap.size, 5, none⟩ = some (.bool acc) ∧ u.cell? ⟨w.heap.size, 6, none⟩ = some ((.slice A1 n1 k1)) ∧ u.cell? ⟨w.heap.size, 7, none⟩ = some (.bool cl) ∧ u.cell? ⟨w.heap.size, 8, none⟩ = some (.bool true) ∧ u.cell? ⟨w.heap.size, 9, none⟩ = some (.int .i64 c) ∧ u.cell? ⟨w.heap.size, 10, none⟩ = some ((.slice A2 n2 k2)) ∧ u.cell? ⟨w.heap.size, 11, none⟩ = some (.int .i64 l) ∧ u.cell? ⟨w.heap.size, 12, none⟩ = some (.int .i64 o) ∧ u.cell? ⟨w.heap.size, 13, none⟩ = some (.bool true) ∧ u.cell? ⟨w.heap.size, 14, none⟩ = some (.bool td) ∧ u.cell? ⟨w.heap.size, 15, none⟩ = some (.bool false) ∧ u.cell? ⟨w.heap.size, 16, none⟩ = some (.bool false))
      (first | assumption | exact rvs_alc (by assumption) _ | exact HS1.out _ (by repeat' (first | with_reducible exact Chg.refl none_ w1 | with_reducible apply Chg.drew | with_reducible apply Chg.alloc)))
      (first
        | (go_at_call 98; refine (HSt.out _).mono ?_; rintro e w2 ⟨rfl, rfl⟩))
    all_goals (
      go_wp2_with fail
      go_meet
      refine ⟨_, rfl, ?_, ?_, (((Chg.refl none_ w1).alloc _).alloc _).drew⟩
      · have := R1.out.lt
        first | omega | (simp; omega)
      · first | exact Is.drew1_ (Is.alloc (Is.new w1 _ _) _) | exact Is.drew1_ (isn2 w1 _ _ _))
  case rest =>
    obtain ⟨w4, rfl⟩ : ∃ y, y = wc := ⟨_, rfl⟩
    obtain ⟨r2, rfl, hlt, i2, c2⟩ := hcut
    have K4 := Lib.hid (K1.out.trans c2)
    have B4 := Lib.hid (B1.out.chg c2 fun f => f)
    have R4 := Lib.hid (R1.out.chg c2 fun f => f)
    have V4 := Lib.hid i2
    have p8 : w4.cell? ⟨w.heap.size, 8, none⟩ = some (.bool true) := B4.out.at_ 8 _ rfl
    have p9 : w4.cell? ⟨w.heap.size, 9, none⟩ = some (.int .i64 c) := B4.out.at_ 9 _ rfl
    have p11 : w4.cell? ⟨w.heap.size, 11, none⟩ = some (.int .i64 l) := B4.out.at_ 11 _ rfl
    have p12 : w4.cell? ⟨w.heap.size, 12, none⟩ = some (.int .i64 o) := B4.out.at_ 12 _ rfl
    have p13 : w4.cell? ⟨w.heap.size, 13, none⟩ = some (.bool true) := B4.out.at_ 13 _ rfl
    have p15 : w4.cell? ⟨w.heap.size, 15, none⟩ = some (.bool false) := B4.out.at_ 15 _ rfl
    have p16 : w4.cell? ⟨w.heap.size, 16, none⟩ = some (.bool false) := B4.out.at_ 16 _ rfl
    clear i2 c2
    go_wp2_with (first
      | (refine ldV rfl _ rfl rfl V4.out rfl ?_)
      | (refine stV rfl _ _ rfl rfl rfl R4.out rfl rfl rfl ?_; intro w5 i5 c5; have R5 := Lib.hid i5; have K5 := Lib.hid (chg2 K4.out c5 (by omega)); clear i5 c5))
    refine bodyPost_ret (results_c1 rfl _ rfl R5.out Tryd.underlying58 rfl szV) rfl ?_
    exact ⟨rfl, K5.out⟩
set_option maxRecDepth 100000 in
set_option maxHeartbeats 4000000 in
theorem qview_01 (c0 : 0 ≤ c) (c1 : c ≤ 4294967295) : Calls Tryd.prog 61 #[.agg #[.int .u32 id, .int .i64 W, .int .i64 st, .int .i64 fr, .bool mine, .bool acc, (.slice A1 n1 k1), .bool cl, .bool false, .int .i64 c, (.slice A2 n2 k2), .int .i64 l, .int .i64 o, .bool true, .bool td, .bool false, .bool false]] w fun e w' => e = .returned (.agg #[.int .u32 id, .int .i64 (stOf mine acc false true false), .bool mine, .bool acc, .int .i64 (n1 : Int), .int .u32 c, .int .i64 0, .int .i64 (n2 : Int), .int .i64 0, .bool cl, .bool td]) ∧ Chg none_ w w' := by
  have hcw : IntKind.u32.wrap c = c := IntWalk.u32_in _ (by omega)
  clear c0 c1
  obtain ⟨w1, hw1⟩ : ∃ y, (w.alloc (.cells #[.int .u32 id, .int .i64 W, .int .i64 st, .int .i64 fr, .bool mine, .bool acc, (.slice A1 n1 k1), .bool cl, .bool false, .int .i64 c, (.slice A2 n2 k2), .int .i64 l, .int .i64 o, .bool true, .bool td, .bool false, .bool false] 51)).alloc (.cells #[.int .u32 0, .int .i64 0, .bool false, .bool false, .int .i64 0, .int .u32 0, .int .i64 0, .int .i64 0, .int .i64 0, .bool false, .bool false] 58) = y := ⟨_, rfl⟩
  have k0 : Chg none_ w w1 := by rw [← hw1]; exact ((Chg.refl none_ w).alloc _).alloc _
  have b1 : Is w1 w.heap.size 51 #[.int .u32 id, .int .i64 W, .int .i64 st, .int .i64 fr, .bool mine, .bool acc, (.slice A1 n1 k1), .bool cl, .bool false, .int .i64 c, (.slice A2 n2 k2), .int .i64 l, .int .i64 o, .bool true, .bool td, .bool false, .bool false] := by rw [← hw1]; exact (Is.new w _ _).alloc _
  have r1 : Is w1 (w.heap.size + 1) 58 #[.int .u32 0, .int .i64 0, .bool false, .bool false, .int .i64 0, .int .u32 0, .int .i64 0, .int .i64 0, .int .i64 0, .bool false, .bool false] := by rw [← hw1]; exact isn2 w _ _ _
  have K1 := Lib.hid k0
  have B1 := Lib.hid b1
  have R1 := Lib.hid r1
  obtain ⟨sv, hsv⟩ : ∃ y, stOf mine acc false true false = y := ⟨_, rfl⟩
  have HSv := Lib.hid hsv
  rw [hsv]
  have HSt : Hid (∀ u, Calls Tryd.prog 98 #[.agg #[.int .u32 id, .int .i64 W, .int .i64 st, .int .i64 fr, .bool mine, .bool acc, (.slice A1 n1 k1), .bool cl, .bool false, .int .i64 c, (.slice A2 n2 k2), .int .i64 l, .int .i64 o, .bool true, .bool td, .bool false, .bool false]] u fun e w' => e = .returned (.int .i64 sv) ∧ w' = u.alloc (.cells #[.int .u32 id, .int .i64 W, .int .i64 st, .int .i64 fr, .bool mine, .bool acc, (.slice A1 n1 k1), .bool cl, .bool false, .int .i64 c, (.slice A2 n2 k2), .int .i64 l, .int .i64 o, .bool true, .bool td, .bool false, .bool false] 51)) := fun u => by rw [← hsv]; exact qstateX u id W st fr c l o mine acc cl false true td false false A1 A2 n1 k1 n2 k2
  clear b1 r1 k0 hsv
  have HS1 : Hid (∀ u, Chg none_ w1 u → Is u w.heap.size 51 #[.int .u32 id, .int .i64 W, .int .i64 st, .int .i64 fr, .bool mine, .bool acc, (.slice A1 n1 k1), .bool cl, .bool false, .int .i64 c, (.slice A2 n2 k2), .int .i64 l, .int .i64 o, .bool true, .bool td, .bool false, .bool false] ∧ u.cell? ⟨w.heap.size, 0, none⟩ = some (.int .u32 id) ∧ u.cell? ⟨w.heap.size, 1, none⟩ = some (.int .i64 W) ∧ u.cell? ⟨w.heap.size, 2, none⟩ = some (.int .i64 st) ∧ u.cell? ⟨w.heap.size, 3, none⟩ = some (.int .i64 fr) ∧ u.cell? ⟨w.heap.size, 4, none⟩ = some (.bool mine) ∧ u.cell? ⟨w.heap.size, 5, none⟩ = some (.bool acc) ∧ u.cell? ⟨w.heap.size, 6, none⟩ = some ((.slice A1 n1 k1)) ∧ u.cell? ⟨w.heap.size, 7, none⟩ = some (.bool cl) ∧ u.cell? ⟨w.heap.size, 8, none⟩ = some (.bool false) ∧ u.cell? ⟨w.heap.size, 9, none⟩ = some (.int .i64 c) ∧ u.cell? ⟨w.heap.size, 10, none⟩ = some ((.slice A2 n2 k2)) ∧ u.cell? ⟨w.heap.size, 11, none⟩ = some (.int .i64 l) ∧ u.cell? ⟨w.heap.size, 12, none⟩ = some (.int .i64 o) ∧ u.cell? ⟨w.heap.size, 13, none⟩ = some (.bool true) ∧ u.cell? ⟨w.heap.size, 14, none⟩ = some (.bool td) ∧ u.cell? ⟨w.heap.size, 15, none⟩ = some (.bool false) ∧ u.cell? ⟨w.heap.size, 16, none⟩ = some (.bool false)) := fun u hc => by have h := B1.out.chg hc fun f => f; exact ⟨h, h.at_ 0 _ rfl, h.at_ 1 _ rfl, h.at_ 2 _ rfl, h.at_ 3 _ rfl, h.at_ 4 _ rfl, h.at_ 5 _ rfl, h.at_ 6 _ rfl, h.at_ 7 _ rfl, h.at_ 8 _ rfl, h.at_ 9 _ rfl, h.at_ 10 _ rfl, h.at_ 11 _ rfl, h.at_ 12 _ rfl, h.at_ 13 _ rfl, h.at_ 14 _ rfl, h.at_ 15 _ rfl, h.at_ 16 _ rfl⟩
  go_enter Tryd.func61, Tryd.ntmps61
  go_upto_region 1 with fail
  clear hw1
  go_cut [3] (fun v wx => ∃ r2, v = .pointer (some ⟨r2, 0, none⟩) ∧ w.heap.size + 1 < r2 ∧ Is wx r2 58 #[.int .u32 id, .int .i64 sv, .bool mine, .bool acc, .int .i64 (n1 : Int), .int .u32 0, .int .i64 0, .int .i64 (n2 : Int), .int .i64 0, .bool cl, .bool td] ∧ Chg none_ w1 wx)
  case first =>
    go_region_held3 (fun u => Is u w.heap.size 51 #[.int .u32 id, .int .i64 W, .int .i64 st, .int .i64 fr, .bool mine, .bool acc, (.slice A1 n1 k1), .bool cl, .bool false, .int .i64 c, (.slice A2 n2 k2), .int .i64 l, .int .i64 o, .bool true, .bool td, .bool false, .bool false] ∧ u.cell? ⟨w.heap.size, 0, none⟩ = some (.int .u32 id) ∧ u.cell? ⟨w.heap.size, 1, none⟩ = some (.int .i64 W) ∧ u.cell? ⟨w.heap.size, 2, none⟩ = some (.int .i64 st) ∧ u.cell? ⟨w.heap.size, 3, none⟩ = some (.int .i64 fr) ∧ u.cell? ⟨w.heap.size, 4, none⟩ = some (.bool mine) ∧ u.cell? ⟨w.heap.size, 5, none⟩ = some (.bool acc) ∧ u.cell? ⟨w.heap.size, 6, none⟩ = some ((.slice A1 n1 k1)) ∧ u.cell? ⟨w.heap.size, 7, none⟩ = some (.bool cl) ∧ u.cell? ⟨w.heap.size, 8, none⟩ = some (.bool false) ∧ u.cell? ⟨w.heap.size, 9, none⟩ = some (.int .i64 c) ∧ u.cell? ⟨w.heap.size, 10, none⟩ = some ((.slice A2 n2 k2)) ∧ u.cell? ⟨w.heap.size, 11, none⟩ = some (.int .i64 l) ∧ u.cell? ⟨w.heap.size, 12, none⟩ = some (.int .i64 o) ∧ u.cell? ⟨w.heap.size, 13, none⟩ = some (.bool true) ∧ u.cell? ⟨w.heap.size, 14, none⟩ = some (.bool td) ∧ u.cell? ⟨w.heap.size, 15, none⟩ = some (.bool false) ∧ u.cell? ⟨w.heap.size, 16, none⟩ = some (.bool false))
      (first | assumption | exact rvs_alc (by assumption) _ | exact HS1.out _ (by repeat' (first | with_reducible exact Chg.refl none_ w1 | with_reducible apply Chg.drew | with_reducible apply Chg.alloc)))
      (first
        | (go_at_call 98; refine (HSt.out _).mono ?_; rintro e w2 ⟨rfl, rfl⟩))
    all_goals (
      go_wp2_with fail
      go_meet
      refine ⟨_, rfl, ?_, ?_, (((Chg.refl none_ w1).alloc _).alloc _).drew⟩
      · have := R1.out.lt
        first | omega | (simp; omega)
      · first | exact Is.drew1_ (Is.alloc (Is.new w1 _ _) _) | exact Is.drew1_ (isn2 w1 _ _ _))
  case rest =>
    obtain ⟨w4, rfl⟩ : ∃ y, y = wc := ⟨_, rfl⟩
    obtain ⟨r2, rfl, hlt, i2, c2⟩ := hcut
    have K4 := Lib.hid (K1.out.trans c2)
    have B4 := Lib.hid (B1.out.chg c2 fun f => f)
    have R4 := Lib.hid (R1.out.chg c2 fun f => f)
    have V4 := Lib.hid i2
    have p8 : w4.cell? ⟨w.heap.size, 8, none⟩ = some (.bool false) := B4.out.at_ 8 _ rfl
    have p9 : w4.cell? ⟨w.heap.size, 9, none⟩ = some (.int .i64 c) := B4.out.at_ 9 _ rfl
    have p11 : w4.cell? ⟨w.heap.size, 11, none⟩ = some (.int .i64 l) := B4.out.at_ 11 _ rfl
    have p12 : w4.cell? ⟨w.heap.size, 12, none⟩ = some (.int .i64 o) := B4.out.at_ 12 _ rfl
    have p13 : w4.cell? ⟨w.heap.size, 13, none⟩ = some (.bool true) := B4.out.at_ 13 _ rfl
    have p15 : w4.cell? ⟨w.heap.size, 15, none⟩ = some (.bool false) := B4.out.at_ 15 _ rfl
    have p16 : w4.cell? ⟨w.heap.size, 16, none⟩ = some (.bool false) := B4.out.at_ 16 _ rfl
    clear i2 c2
    go_wp2_with (first
      | (refine stF rfl _ sz32 _ _ rfl 5 rfl rfl V4.out rfl (Nat.le_of_ble_eq_true rfl) rfl #[.int .u32 id, .int .i64 sv, .bool mine, .bool acc, .int .i64 (n1 : Int), .int .u32 c, .int .i64 0, .int .i64 (n2 : Int), .int .i64 0, .bool cl, .bool td] rfl ?_; intro w5 i5 c5; have V5 := Lib.hid i5; have B5 := Lib.hid (B4.out.chg c5 (by omega)); have R5 := Lib.hid (R4.out.chg c5 (by omega)); have K5 := Lib.hid (chg2 K4.out c5 (by omega)); have p11 : w5.cell? ⟨w.heap.size, 11, none⟩ = some (.int .i64 l) := B5.out.at_ 11 _ rfl; have p12 : w5.cell? ⟨w.heap.size, 12, none⟩ = some (.int .i64 o) := B5.out.at_ 12 _ rfl; have p13 : w5.cell? ⟨w.heap.size, 13, none⟩ = some (.bool true) := B5.out.at_ 13 _ rfl; clear i5 c5)
      | (refine ldV rfl _ rfl rfl V5.out rfl ?_)
      | (refine stV rfl _ _ rfl rfl rfl R5.out rfl rfl rfl ?_; intro w6 i6 c6; have R6 := Lib.hid i6; have K6 := Lib.hid (chg2 K5.out c6 (by omega)); clear i6 c6))
    refine bodyPost_ret (results_c1 rfl _ rfl R6.out Tryd.underlying58 rfl szV) rfl ?_
    exact ⟨rfl, K6.out⟩
set_option maxRecDepth 100000 in
set_option maxHeartbeats 4000000 in
theorem qview_00 (c0 : 0 ≤ c) (c1 : c ≤ 4294967295) : Calls Tryd.prog 61 #[.agg #[.int .u32 id, .int .i64 W, .int .i64 st, .int .i64 fr, .bool mine, .bool acc, (.slice A1 n1 k1), .bool cl, .bool false, .int .i64 c, (.slice A2 n2 k2), .int .i64 l, .int .i64 o, .bool false, .bool td, .bool false, .bool false]] w fun e w' => e = .returned (.agg #[.int .u32 id, .int .i64 (stOf mine acc false false false), .bool mine, .bool acc, .int .i64 (n1 : Int), .int .u32 c, .int .i64 l, .int .i64 (n2 : Int), .int .i64 o, .bool cl, .bool td]) ∧ Chg none_ w w' := by
  have hcw : IntKind.u32.wrap c = c := IntWalk.u32_in _ (by omega)
  clear c0 c1
  obtain ⟨w1, hw1⟩ : ∃ y, (w.alloc (.cells #[.int .u32 id, .int .i64 W, .int .i64 st, .int .i64 fr, .bool mine, .bool acc, (.slice A1 n1 k1), .bool cl, .bool false, .int .i64 c, (.slice A2 n2 k2), .int .i64 l, .int .i64 o, .bool false, .bool td, .bool false, .bool false] 51)).alloc (.cells #[.int .u32 0, .int .i64 0, .bool false, .bool false, .int .i64 0, .int .u32 0, .int .i64 0, .int .i64 0, .int .i64 0, .bool false, .bool false] 58) = y := ⟨_, rfl⟩
  have k0 : Chg none_ w w1 := by rw [← hw1]; exact ((Chg.refl none_ w).alloc _).alloc _
  have b1 : Is w1 w.heap.size 51 #[.int .u32 id, .int .i64 W, .int .i64 st, .int .i64 fr, .bool mine, .bool acc, (.slice A1 n1 k1), .bool cl, .bool false, .int .i64 c, (.slice A2 n2 k2), .int .i64 l, .int .i64 o, .bool false, .bool td, .bool false, .bool false] := by rw [← hw1]; exact (Is.new w _ _).alloc _
  have r1 : Is w1 (w.heap.size + 1) 58 #[.int .u32 0, .int .i64 0, .bool false, .bool false, .int .i64 0, .int .u32 0, .int .i64 0, .int .i64 0, .int .i64 0, .bool false, .bool false] := by rw [← hw1]; exact isn2 w _ _ _
  have K1 := Lib.hid k0
  have B1 := Lib.hid b1
  have R1 := Lib.hid r1
  obtain ⟨sv, hsv⟩ : ∃ y, stOf mine acc false false false = y := ⟨_, rfl⟩
  have HSv := Lib.hid hsv
  rw [hsv]
  have HSt : Hid (∀ u, Calls Tryd.prog 98 #[.agg #[.int .u32 id, .int .i64 W, .int .i64 st, .int .i64 fr, .bool mine, .bool acc, (.slice A1 n1 k1), .bool cl, .bool false, .int .i64 c, (.slice A2 n2 k2), .int .i64 l, .int .i64 o, .bool false, .bool td, .bool false, .bool false]] u fun e w' => e = .returned (.int .i64 sv) ∧ w' = u.alloc (.cells #[.int .u32 id, .int .i64 W, .int .i64 st, .int .i64 fr, .bool mine, .bool acc, (.slice A1 n1 k1), .bool cl, .bool false, .int .i64 c, (.slice A2 n2 k2), .int .i64 l, .int .i64 o, .bool false, .bool td, .bool false, .bool false] 51)) := fun u => by rw [← hsv]; exact qstateX u id W st fr c l o mine acc cl false false td false false A1 A2 n1 k1 n2 k2
  clear b1 r1 k0 hsv
  have HS1 : Hid (∀ u, Chg none_ w1 u → Is u w.heap.size 51 #[.int .u32 id, .int .i64 W, .int .i64 st, .int .i64 fr, .bool mine, .bool acc, (.slice A1 n1 k1), .bool cl, .bool false, .int .i64 c, (.slice A2 n2 k2), .int .i64 l, .int .i64 o, .bool false, .bool td, .bool false, .bool false] ∧ u.cell? ⟨w.heap.size, 0, none⟩ = some (.int .u32 id) ∧ u.cell? ⟨w.heap.size, 1, none⟩ = some (.int .i64 W) ∧ u.cell? ⟨w.heap.size, 2, none⟩ = some (.int .i64 st) ∧ u.cell? ⟨w.heap.size, 3, none⟩ = some (.int .i64 fr) ∧ u.cell? ⟨w.heap.size, 4, none⟩ = some (.bool mine) ∧ u.cell? ⟨w.heap.size, 5, none⟩ = some (.bool acc) ∧ u.cell? ⟨w.heap.size, 6, none⟩ = some ((.slice A1 n1 k1)) ∧ u.cell? ⟨w.heap.size, 7, none⟩ = some (.bool cl) ∧ u.cell? ⟨w.heap.size, 8, none⟩ = some (.bool false) ∧ u.cell? ⟨w.heap.size, 9, none⟩ = some (.int .i64 c) ∧ u.cell? ⟨w.heap.size, 10, none⟩ = some ((.slice A2 n2 k2)) ∧ u.cell? ⟨w.heap.size, 11, none⟩ = some (.int .i64 l) ∧ u.cell? ⟨w.heap.size, 12, none⟩ = some (.int .i64 o) ∧ u.cell? ⟨w.heap.size, 13, none⟩ = some (.bool false) ∧ u.cell? ⟨w.heap.size, 14, none⟩ = some (.bool td) ∧ u.cell? ⟨w.heap.size, 15, none⟩ = some (.bool false) ∧ u.cell? ⟨w.heap.size, 16, none⟩ = some (.bool false)) := fun u hc => by have h := B1.out.chg hc fun f => f; exact ⟨h, h.at_ 0 _ rfl, h.at_ 1 _ rfl, h.at_ 2 _ rfl, h.at_ 3 _ rfl, h.at_ 4 _ rfl, h.at_ 5 _ rfl, h.at_ 6 _ rfl, h.at_ 7 _ rfl, h.at_ 8 _ rfl, h.at_ 9 _ rfl, h.at_ 10 _ rfl, h.at_ 11 _ rfl, h.at_ 12 _ rfl, h.at_ 13 _ rfl, h.at_ 14 _ rfl, h.at_ 15 _ rfl, h.at_ 16 _ rfl⟩
  go_enter Tryd.func61, Tryd.ntmps61
  go_upto_region 1 with fail
  clear hw1
  go_cut [3] (fun v wx => ∃ r2, v = .pointer (some ⟨r2, 0, none⟩) ∧ w.heap.size + 1 < r2 ∧ Is wx r2 58 #[.int .u32 id, .int .i64 sv, .bool mine, .bool acc, .int .i64 (n1 : Int), .int .u32 0, .int .i64 0, .int .i64 (n2 : Int), .int .i64 0, .bool cl, .bool td] ∧ Chg none_ w1 wx)
  case first =>
    go_region_held3 (fun u => Is u w.heap.size 51 #[.int .u32 id, .int .i64 W, .int .i64 st, .int .i64 fr, .bool mine, .bool acc, (.slice A1 n1 k1), .bool cl, .bool false, .int .i64 c, (.slice A2 n2 k2), .int .i64 l, .int .i64 o, .bool false, .bool td, .bool false, .bool false] ∧ u.cell? ⟨w.heap.size, 0, none⟩ = some (.int .u32 id) ∧ u.cell? ⟨w.heap.size, 1, none⟩ = some (.int .i64 W) ∧ u.cell? ⟨w.heap.size, 2, none⟩ = some (.int .i64 st) ∧ u.cell? ⟨w.heap.size, 3, none⟩ = some (.int .i64 fr) ∧ u.cell? ⟨w.heap.size, 4, none⟩ = some (.bool mine) ∧ u.cell? ⟨w.heap.size, 5, none⟩ = some (.bool acc) ∧ u.cell? ⟨w.heap.size, 6, none⟩ = some ((.slice A1 n1 k1)) ∧ u.cell? ⟨w.heap.size, 7, none⟩ = some (.bool cl) ∧ u.cell? ⟨w.heap.size, 8, none⟩ = some (.bool false) ∧ u.cell? ⟨w.heap.size, 9, none⟩ = some (.int .i64 c) ∧ u.cell? ⟨w.heap.size, 10, none⟩ = some ((.slice A2 n2 k2)) ∧ u.cell? ⟨w.heap.size, 11, none⟩ = some (.int .i64 l) ∧ u.cell? ⟨w.heap.size, 12, none⟩ = some (.int .i64 o) ∧ u.cell? ⟨w.heap.size, 13, none⟩ = some (.bool false) ∧ u.cell? ⟨w.heap.size, 14, none⟩ = some (.bool td) ∧ u.cell? ⟨w.heap.size, 15, none⟩ = some (.bool false) ∧ u.cell? ⟨w.heap.size, 16, none⟩ = some (.bool false))
      (first | assumption | exact rvs_alc (by assumption) _ | exact HS1.out _ (by repeat' (first | with_reducible exact Chg.refl none_ w1 | with_reducible apply Chg.drew | with_reducible apply Chg.alloc)))
      (first
        | (go_at_call 98; refine (HSt.out _).mono ?_; rintro e w2 ⟨rfl, rfl⟩))
    all_goals (
      go_wp2_with fail
      go_meet
      refine ⟨_, rfl, ?_, ?_, (((Chg.refl none_ w1).alloc _).alloc _).drew⟩
      · have := R1.out.lt
        first | omega | (simp; omega)
      · first | exact Is.drew1_ (Is.alloc (Is.new w1 _ _) _) | exact Is.drew1_ (isn2 w1 _ _ _))
  case rest =>
    obtain ⟨w4, rfl⟩ : ∃ y, y = wc := ⟨_, rfl⟩
    obtain ⟨r2, rfl, hlt, i2, c2⟩ := hcut
    have K4 := Lib.hid (K1.out.trans c2)
    have B4 := Lib.hid (B1.out.chg c2 fun f => f)
    have R4 := Lib.hid (R1.out.chg c2 fun f => f)
    have V4 := Lib.hid i2
    have p8 : w4.cell? ⟨w.heap.size, 8, none⟩ = some (.bool false) := B4.out.at_ 8 _ rfl
    have p9 : w4.cell? ⟨w.heap.size, 9, none⟩ = some (.int .i64 c) := B4.out.at_ 9 _ rfl
    have p11 : w4.cell? ⟨w.heap.size, 11, none⟩ = some (.int .i64 l) := B4.out.at_ 11 _ rfl
    have p12 : w4.cell? ⟨w.heap.size, 12, none⟩ = some (.int .i64 o) := B4.out.at_ 12 _ rfl
    have p13 : w4.cell? ⟨w.heap.size, 13, none⟩ = some (.bool false) := B4.out.at_ 13 _ rfl
    have p15 : w4.cell? ⟨w.heap.size, 15, none⟩ = some (.bool false) := B4.out.at_ 15 _ rfl
    have p16 : w4.cell? ⟨w.heap.size, 16, none⟩ = some (.bool false) := B4.out.at_ 16 _ rfl
    clear i2 c2
    go_wp2_with (first
      | (refine stF rfl _ sz32 _ _ rfl 5 rfl rfl V4.out rfl (Nat.le_of_ble_eq_true rfl) rfl #[.int .u32 id, .int .i64 sv, .bool mine, .bool acc, .int .i64 (n1 : Int), .int .u32 c, .int .i64 0, .int .i64 (n2 : Int), .int .i64 0, .bool cl, .bool td] rfl ?_; intro w5 i5 c5; have V5 := Lib.hid i5; have B5 := Lib.hid (B4.out.chg c5 (by omega)); have R5 := Lib.hid (R4.out.chg c5 (by omega)); have K5 := Lib.hid (chg2 K4.out c5 (by omega)); have p11 : w5.cell? ⟨w.heap.size, 11, none⟩ = some (.int .i64 l) := B5.out.at_ 11 _ rfl; have p12 : w5.cell? ⟨w.heap.size, 12, none⟩ = some (.int .i64 o) := B5.out.at_ 12 _ rfl; have p13 : w5.cell? ⟨w.heap.size, 13, none⟩ = some (.bool false) := B5.out.at_ 13 _ rfl; clear i5 c5)
      | (refine stF rfl _ szI _ _ rfl 6 rfl rfl V5.out rfl (Nat.le_of_ble_eq_true rfl) rfl #[.int .u32 id, .int .i64 sv, .bool mine, .bool acc, .int .i64 (n1 : Int), .int .u32 c, .int .i64 l, .int .i64 (n2 : Int), .int .i64 0, .bool cl, .bool td] rfl ?_; intro w6 i6 c6; have V6 := Lib.hid i6; have B6 := Lib.hid (B5.out.chg c6 (by omega)); have R6 := Lib.hid (R5.out.chg c6 (by omega)); have K6 := Lib.hid (chg2 K5.out c6 (by omega)); have p11 : w6.cell? ⟨w.heap.size, 11, none⟩ = some (.int .i64 l) := B6.out.at_ 11 _ rfl; have p12 : w6.cell? ⟨w.heap.size, 12, none⟩ = some (.int .i64 o) := B6.out.at_ 12 _ rfl; have p13 : w6.cell? ⟨w.heap.size, 13, none⟩ = some (.bool false) := B6.out.at_ 13 _ rfl; clear i6 c6)
      | (refine stF rfl _ szI _ _ rfl 8 rfl rfl V6.out rfl (Nat.le_of_ble_eq_true rfl) rfl #[.int .u32 id, .int .i64 sv, .bool mine, .bool acc, .int .i64 (n1 : Int), .int .u32 c, .int .i64 l, .int .i64 (n2 : Int), .int .i64 o, .bool cl, .bool td] rfl ?_; intro w7 i7 c7; have V7 := Lib.hid i7; have B7 := Lib.hid (B6.out.chg c7 (by omega)); have R7 := Lib.hid (R6.out.chg c7 (by omega)); have K7 := Lib.hid (chg2 K6.out c7 (by omega)); have p11 : w7.cell? ⟨w.heap.size, 11, none⟩ = some (.int .i64 l) := B7.out.at_ 11 _ rfl; have p12 : w7.cell? ⟨w.heap.size, 12, none⟩ = some (.int .i64 o) := B7.out.at_ 12 _ rfl; have p13 : w7.cell? ⟨w.heap.size, 13, none⟩ = some (.bool false) := B7.out.at_ 13 _ rfl; clear i7 c7)
      | (refine ldV rfl _ rfl rfl V7.out rfl ?_)
      | (refine stV rfl _ _ rfl rfl rfl R7.out rfl rfl rfl ?_; intro w8 i8 c8; have R8 := Lib.hid i8; have K8 := Lib.hid (chg2 K7.out c8 (by omega)); clear i8 c8))
    refine bodyPost_ret (results_c1 rfl _ rfl R8.out Tryd.underlying58 rfl szV) rfl ?_
    exact ⟨rfl, K8.out⟩
set_option maxRecDepth 100000 in
set_option maxHeartbeats 4000000 in
theorem qview_10 : Calls Tryd.prog 61 #[.agg #[.int .u32 id, .int .i64 W, .int .i64 st, .int .i64 fr, .bool mine, .bool acc, (.slice A1 n1 k1), .bool cl, .bool true, .int .i64 c, (.slice A2 n2 k2), .int .i64 l, .int .i64 o, .bool false, .bool td, .bool false, .bool false]] w fun e w' => e = .returned (.agg #[.int .u32 id, .int .i64 (stOf mine acc true false false), .bool mine, .bool acc, .int .i64 (n1 : Int), .int .u32 0, .int .i64 l, .int .i64 (n2 : Int), .int .i64 o, .bool cl, .bool td]) ∧ Chg none_ w w' := by
  obtain ⟨w1, hw1⟩ : ∃ y, (w.alloc (.cells #[.int .u32 id, .int .i64 W, .int .i64 st, .int .i64 fr, .bool mine, .bool acc, (.slice A1 n1 k1), .bool cl, .bool true, .int .i64 c, (.slice A2 n2 k2), .int .i64 l, .int .i64 o, .bool false, .bool td, .bool false, .bool false] 51)).alloc (.cells #[.int .u32 0, .int .i64 0, .bool false, .bool false, .int .i64 0, .int .u32 0, .int .i64 0, .int .i64 0, .int .i64 0, .bool false, .bool false] 58) = y := ⟨_, rfl⟩
  have k0 : Chg none_ w w1 := by rw [← hw1]; exact ((Chg.refl none_ w).alloc _).alloc _
  have b1 : Is w1 w.heap.size 51 #[.int .u32 id, .int .i64 W, .int .i64 st, .int .i64 fr, .bool mine, .bool acc, (.slice A1 n1 k1), .bool cl, .bool true, .int .i64 c, (.slice A2 n2 k2), .int .i64 l, .int .i64 o, .bool false, .bool td, .bool false, .bool false] := by rw [← hw1]; exact (Is.new w _ _).alloc _
  have r1 : Is w1 (w.heap.size + 1) 58 #[.int .u32 0, .int .i64 0, .bool false, .bool false, .int .i64 0, .int .u32 0, .int .i64 0, .int .i64 0, .int .i64 0, .bool false, .bool false] := by rw [← hw1]; exact isn2 w _ _ _
  have K1 := Lib.hid k0
  have B1 := Lib.hid b1
  have R1 := Lib.hid r1
  obtain ⟨sv, hsv⟩ : ∃ y, stOf mine acc true false false = y := ⟨_, rfl⟩
  have HSv := Lib.hid hsv
  rw [hsv]
  have HSt : Hid (∀ u, Calls Tryd.prog 98 #[.agg #[.int .u32 id, .int .i64 W, .int .i64 st, .int .i64 fr, .bool mine, .bool acc, (.slice A1 n1 k1), .bool cl, .bool true, .int .i64 c, (.slice A2 n2 k2), .int .i64 l, .int .i64 o, .bool false, .bool td, .bool false, .bool false]] u fun e w' => e = .returned (.int .i64 sv) ∧ w' = u.alloc (.cells #[.int .u32 id, .int .i64 W, .int .i64 st, .int .i64 fr, .bool mine, .bool acc, (.slice A1 n1 k1), .bool cl, .bool true, .int .i64 c, (.slice A2 n2 k2), .int .i64 l, .int .i64 o, .bool false, .bool td, .bool false, .bool false] 51)) := fun u => by rw [← hsv]; exact qstateX u id W st fr c l o mine acc cl true false td false false A1 A2 n1 k1 n2 k2
  clear b1 r1 k0 hsv
  have HS1 : Hid (∀ u, Chg none_ w1 u → Is u w.heap.size 51 #[.int .u32 id, .int .i64 W, .int .i64 st, .int .i64 fr, .bool mine, .bool acc, (.slice A1 n1 k1), .bool cl, .bool true, .int .i64 c, (.slice A2 n2 k2), .int .i64 l, .int .i64 o, .bool false, .bool td, .bool false, .bool false] ∧ u.cell? ⟨w.heap.size, 0, none⟩ = some (.int .u32 id) ∧ u.cell? ⟨w.heap.size, 1, none⟩ = some (.int .i64 W) ∧ u.cell? ⟨w.heap.size, 2, none⟩ = some (.int .i64 st) ∧ u.cell? ⟨w.heap.size, 3, none⟩ = some (.int .i64 fr) ∧ u.cell? ⟨w.heap.size, 4, none⟩ = some (.bool mine) ∧ u.cell? ⟨w.heap.size, 5, none⟩ = some (.bool acc) ∧ u.cell? ⟨w.heap.size, 6, none⟩ = some ((.slice A1 n1 k1)) ∧ u.cell? ⟨w.heap.size, 7, none⟩ = some (.bool cl) ∧ u.cell? ⟨w.heap.size, 8, none⟩ = some (.bool true) ∧ u.cell? ⟨w.heap.size, 9, none⟩ = some (.int .i64 c) ∧ u.cell? ⟨w.heap.size, 10, none⟩ = some ((.slice A2 n2 k2)) ∧ u.cell? ⟨w.heap.size, 11, none⟩ = some (.int .i64 l) ∧ u.cell? ⟨w.heap.size, 12, none⟩ = some (.int .i64 o) ∧ u.cell? ⟨w.heap.size, 13, none⟩ = some (.bool false) ∧ u.cell? ⟨w.heap.size, 14, none⟩ = some (.bool td) ∧ u.cell? ⟨w.heap.size, 15, none⟩ = some (.bool false) ∧ u.cell? ⟨w.heap.size, 16, none⟩ = some (.bool false)) := fun u hc => by have h := B1.out.chg hc fun f => f; exact ⟨h, h.at_ 0 _ rfl, h.at_ 1 _ rfl, h.at_ 2 _ rfl, h.at_ 3 _ rfl, h.at_ 4 _ rfl, h.at_ 5 _ rfl, h.at_ 6 _ rfl, h.at_ 7 _ rfl, h.at_ 8 _ rfl, h.at_ 9 _ rfl, h.at_ 10 _ rfl, h.at_ 11 _ rfl, h.at_ 12 _ rfl, h.at_ 13 _ rfl, h.at_ 14 _ rfl, h.at_ 15 _ rfl, h.at_ 16 _ rfl⟩
  go_enter Tryd.func61, Tryd.ntmps61
  go_upto_region 1 with fail
  clear hw1
  go_cut [3] (fun v wx => ∃ r2, v = .pointer (some ⟨r2, 0, none⟩) ∧ w.heap.size + 1 < r2 ∧ Is wx r2 58 #[.int .u32 id, .int .i64 sv, .bool mine, .bool acc, .int .i64 (n1 : Int), .int .u32 0, .int .i64 0, .int .i64 (n2 : Int), .int .i64 0, .bool cl, .bool td] ∧ Chg none_ w1 wx)
  case first =>
    go_region_held3 (fun u => Is u w.heap.size 51 #[.int .u32 id, .int .i64 W, .int .i64 st, .int .i64 fr, .bool mine, .bool acc, (.slice A1 n1 k1), .bool cl, .bool true, .int .i64 c, (.slice A2 n2 k2), .int .i64 l, .int .i64 o, .bool false, .bool td, .bool false, .bool false] ∧ u.cell? ⟨w.heap.size, 0, none⟩ = some (.int .u32 id) ∧ u.cell? ⟨w.heap.size, 1, none⟩ = some (.int .i64 W) ∧ u.cell? ⟨w.heap.size, 2, none⟩ = some (.int .i64 st) ∧ u.cell? ⟨w.heap.size, 3, none⟩ = some (.int .i64 fr) ∧ u.cell? ⟨w.heap.size, 4, none⟩ = some (.bool mine) ∧ u.cell? ⟨w.heap.size, 5, none⟩ = some (.bool acc) ∧ u.cell? ⟨w.heap.size, 6, none⟩ = some ((.slice A1 n1 k1)) ∧ u.cell? ⟨w.heap.size, 7, none⟩ = some (.bool cl) ∧ u.cell? ⟨w.heap.size, 8, none⟩ = some (.bool true) ∧ u.cell? ⟨w.heap.size, 9, none⟩ = some (.int .i64 c) ∧ u.cell? ⟨w.heap.size, 10, none⟩ = some ((.slice A2 n2 k2)) ∧ u.cell? ⟨w.heap.size, 11, none⟩ = some (.int .i64 l) ∧ u.cell? ⟨w.heap.size, 12, none⟩ = some (.int .i64 o) ∧ u.cell? ⟨w.heap.size, 13, none⟩ = some (.bool false) ∧ u.cell? ⟨w.heap.size, 14, none⟩ = some (.bool td) ∧ u.cell? ⟨w.heap.size, 15, none⟩ = some (.bool false) ∧ u.cell? ⟨w.heap.size, 16, none⟩ = some (.bool false))
      (first | assumption | exact rvs_alc (by assumption) _ | exact HS1.out _ (by repeat' (first | with_reducible exact Chg.refl none_ w1 | with_reducible apply Chg.drew | with_reducible apply Chg.alloc)))
      (first
        | (go_at_call 98; refine (HSt.out _).mono ?_; rintro e w2 ⟨rfl, rfl⟩))
    all_goals (
      go_wp2_with fail
      go_meet
      refine ⟨_, rfl, ?_, ?_, (((Chg.refl none_ w1).alloc _).alloc _).drew⟩
      · have := R1.out.lt
        first | omega | (simp; omega)
      · first | exact Is.drew1_ (Is.alloc (Is.new w1 _ _) _) | exact Is.drew1_ (isn2 w1 _ _ _))
  case rest =>
    obtain ⟨w4, rfl⟩ : ∃ y, y = wc := ⟨_, rfl⟩
    obtain ⟨r2, rfl, hlt, i2, c2⟩ := hcut
    have K4 := Lib.hid (K1.out.trans c2)
    have B4 := Lib.hid (B1.out.chg c2 fun f => f)
    have R4 := Lib.hid (R1.out.chg c2 fun f => f)
    have V4 := Lib.hid i2
    have p8 : w4.cell? ⟨w.heap.size, 8, none⟩ = some (.bool true) := B4.out.at_ 8 _ rfl
    have p9 : w4.cell? ⟨w.heap.size, 9, none⟩ = some (.int .i64 c) := B4.out.at_ 9 _ rfl
    have p11 : w4.cell? ⟨w.heap.size, 11, none⟩ = some (.int .i64 l) := B4.out.at_ 11 _ rfl
    have p12 : w4.cell? ⟨w.heap.size, 12, none⟩ = some (.int .i64 o) := B4.out.at_ 12 _ rfl
    have p13 : w4.cell? ⟨w.heap.size, 13, none⟩ = some (.bool false) := B4.out.at_ 13 _ rfl
    have p15 : w4.cell? ⟨w.heap.size, 15, none⟩ = some (.bool false) := B4.out.at_ 15 _ rfl
    have p16 : w4.cell? ⟨w.heap.size, 16, none⟩ = some (.bool false) := B4.out.at_ 16 _ rfl
    clear i2 c2
    go_wp2_with (first
      | (refine stF rfl _ szI _ _ rfl 6 rfl rfl V4.out rfl (Nat.le_of_ble_eq_true rfl) rfl #[.int .u32 id, .int .i64 sv, .bool mine, .bool acc, .int .i64 (n1 : Int), .int .u32 0, .int .i64 l, .int .i64 (n2 : Int), .int .i64 0, .bool cl, .bool td] rfl ?_; intro w5 i5 c5; have V5 := Lib.hid i5; have B5 := Lib.hid (B4.out.chg c5 (by omega)); have R5 := Lib.hid (R4.out.chg c5 (by omega)); have K5 := Lib.hid (chg2 K4.out c5 (by omega)); have p11 : w5.cell? ⟨w.heap.size, 11, none⟩ = some (.int .i64 l) := B5.out.at_ 11 _ rfl; have p12 : w5.cell? ⟨w.heap.size, 12, none⟩ = some (.int .i64 o) := B5.out.at_ 12 _ rfl; have p13 : w5.cell? ⟨w.heap.size, 13, none⟩ = some (.bool false) := B5.out.at_ 13 _ rfl; clear i5 c5)
      | (refine stF rfl _ szI _ _ rfl 8 rfl rfl V5.out rfl (Nat.le_of_ble_eq_true rfl) rfl #[.int .u32 id, .int .i64 sv, .bool mine, .bool acc, .int .i64 (n1 : Int), .int .u32 0, .int .i64 l, .int .i64 (n2 : Int), .int .i64 o, .bool cl, .bool td] rfl ?_; intro w6 i6 c6; have V6 := Lib.hid i6; have B6 := Lib.hid (B5.out.chg c6 (by omega)); have R6 := Lib.hid (R5.out.chg c6 (by omega)); have K6 := Lib.hid (chg2 K5.out c6 (by omega)); have p11 : w6.cell? ⟨w.heap.size, 11, none⟩ = some (.int .i64 l) := B6.out.at_ 11 _ rfl; have p12 : w6.cell? ⟨w.heap.size, 12, none⟩ = some (.int .i64 o) := B6.out.at_ 12 _ rfl; have p13 : w6.cell? ⟨w.heap.size, 13, none⟩ = some (.bool false) := B6.out.at_ 13 _ rfl; clear i6 c6)
      | (refine ldV rfl _ rfl rfl V6.out rfl ?_)
      | (refine stV rfl _ _ rfl rfl rfl R6.out rfl rfl rfl ?_; intro w7 i7 c7; have R7 := Lib.hid i7; have K7 := Lib.hid (chg2 K6.out c7 (by omega)); clear i7 c7))
    refine bodyPost_ret (results_c1 rfl _ rfl R7.out Tryd.underlying58 rfl szV) rfl ?_
    exact ⟨rfl, K7.out⟩
end
end Go.Proofs.YthalmjjbamglgaaDoor
