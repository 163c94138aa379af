/-
  The walk of culvertlaw01.NumBack: what is written reads back; sums and differences undo one another.
  No condition of its own: the fact 'Sen' on the world; the argument reads as a list.
-/
import Derived.Test.YtlehbkdenbpbfaaDoorNumLaws
import Derived.Deep.RegionHeld3
namespace Go.Proofs.YtlehbkdenbpbfaaDoor
open Go.RowKit

theorem get32_back {v : Int} (h0 : 0 ≤ v) (h1 : v ≤ 4294967295) (w : World) (g c : Nat) (hi : Is w g 5 #[.int .u8 (v / 16777216), .int .u8 (v / 65536 % 256), .int .u8 (v / 256 % 256), .int .u8 (v % 256)]) :
    Calls Tryd.prog 21 #[.slice (some ⟨g, 0, none⟩) 4 c] w fun e w' => e = .returned (.tuple #[.int .u32 v, .nilIface]) ∧ Dr w w' := by
  have h := get32_ok w ⟨g, 0, none⟩ 4 c (by omega) (v / 16777216) (v / 65536 % 256) (v / 256 % 256) (v % 256) (by omega) (by omega) (by omega) (by omega) (hi.at_ 0 _ rfl) (hi.at_ 1 _ rfl) (hi.at_ 2 _ rfl) (hi.at_ 3 _ rfl)
  rwa [show v / 16777216 * 16777216 + (v / 65536 % 256 * 65536 + (v / 256 % 256 * 256 + v % 256)) = v by omega] at h
theorem get16_back {v : Int} (h0 : 0 ≤ v) (h1 : v ≤ 65535) (w : World) (g c : Nat) (hi : Is w g 5 #[.int .u8 (v / 256), .int .u8 (v % 256)]) :
    Calls Tryd.prog 19 #[.slice (some ⟨g, 0, none⟩) 2 c] w fun e w' => e = .returned (.tuple #[.int .u16 v, .nilIface]) ∧ Dr w w' := by
  have h := get16_ok w ⟨g, 0, none⟩ 2 c (by omega) (v / 256) (v % 256) (by omega) (by omega) (by omega) (by omega) (hi.at_ 0 _ rfl) (hi.at_ 1 _ rfl)
  rwa [show v / 256 * 256 + v % 256 = v by omega] at h

theorem take4 {b : List Int} (hb : Byt b) (h : 4 ≤ b.length) : [g4V b / 16777216, g4V b / 65536 % 256, g4V b / 256 % 256, g4V b % 256] = b.take 4 := by
  have b0 := hb.at_ (i := 0) (by omega)
  have b1 := hb.at_ (i := 1) (by omega)
  have b2 := hb.at_ (i := 2) (by omega)
  have b3 := hb.at_ (i := 3) (by omega)
  have e : b.take 4 = [b.getD 0 0, b.getD 1 0, b.getD 2 0, b.getD 3 0] := by
    match b, h with
    | x :: y :: z :: u :: r, _ => simp
  rw [e]
  unfold g4V
  rw [if_pos h]
  generalize b.getD 0 0 = x at *
  generalize b.getD 1 0 = y at *
  generalize b.getD 2 0 = z at *
  generalize b.getD 3 0 = u at *
  simp only [List.cons.injEq, and_true]
  omega

theorem Rd.take {kd : IntKind} {w : World} {A : Option Addr} {n : Nat} {zs : List Int} (h : Rd w A n fun i => .int kd (zs.getD i 0)) {k : Nat} (hk : k ≤ n) : Rd w A k fun i => .int kd ((zs.take k).getD i 0) := fun hn => by
  obtain ⟨ad, e, h⟩ := h (by omega)
  refine ⟨ad, e, fun i hi => ?_⟩
  have e1 : (zs.take k).getD i 0 = zs.getD i 0 := by rw [List.getD_eq_getElem?_getD, List.getD_eq_getElem?_getD, List.getElem?_take, if_pos hi]
  show _ = some (Value.int kd ((zs.take k).getD i 0))
  rw [e1]
  exact h i (by omega)

set_option maxRecDepth 100000 in
set_option maxHeartbeats 2000000 in
theorem back_walk {a : Nat → Addr} (w : World) (hs : Sen w.heap.size a w) (x y : Int) (hx : 0 ≤ x ∧ x ≤ 4294967295) (hy : 0 ≤ y ∧ y ≤ 4294967295) (A : Option Addr) (n c : Nat) (hnc : n ≤ c) (b : List Int) (hl : b.length = n) (hb : Byt b) (hr : Rd w A n fun i => .int .u8 (b.getD i 0)) :
    Calls Tryd.prog 6 #[.int .u32 x, .int .u32 y, .slice A n c] w fun e w' => e = .returned (.bool true) ∧ Below w.heap.size w w' := by
  have e0 : errv a 0 = .nilIface := rfl
  obtain ⟨x0, x1⟩ := hx
  obtain ⟨y0, y1⟩ := hy
  obtain ⟨g40, g41⟩ := g4V_bd hb
  have ym0 : 0 ≤ y % 65536 := by omega
  have ym1 : y % 65536 ≤ 65535 := by omega
  have HL := Lib.hid hl
  clear hl
  go_enter Tryd.func6, Tryd.ntmps6
  go_wp2_with fail
  refine (awake_any w hs (Nat.le_refl _)).mono ?_
  rintro e w1 ⟨rfl, hb1⟩
  go_wp2_with fail
  refine (b32 w1 x x0 x1).mono ?_
  rintro e w2 ⟨rfl, hi2, hb2⟩
  go_wp2_with fail
  refine (get32_back x0 x1 w2 _ _ hi2).mono ?_
  rintro e w' ⟨rfl, m, rfl⟩
  clear hi2
  go_wp2_with fail
  refine (b16 _ (y % 65536) ym0 ym1).mono ?_
  rintro e w3 ⟨rfl, hi3, hb3⟩
  go_wp2_with fail
  refine (get16_back ym0 ym1 w3 _ _ hi3).mono ?_
  rintro e w' ⟨rfl, m3, rfl⟩
  clear hi3
  have hbw : Below w.heap.size w w3 := hb1.trans ((below_drewN hb2 m).mono hb1.size |>.trans (hb3.mono (Nat.le_trans hb1.size hb2.size)))
  have hsw := hs.below hbw
  have hrw := hr.keep hbw
  by_cases h4 : 4 ≤ b.length
  · have hc4 : g4C b = 0 := if_pos h4
    have h4n : 4 ≤ n := by rw [← HL.out]; exact h4
    have H4 := Lib.hid h4
    have hbn : decide ((4 : Int) ≤ (n : Int)) = true := by simp; omega
    have hcc : 4 ≤ c := by omega
    have hci : (4 : Int) ≤ (c : Int) := by omega
    clear h4
    go_wp2_with fail
    refine (get32_any _ (hsw.drewN m3) HL.out hb (hrw.drewN m3)).mono ?_
    rintro e w' ⟨rfl, m4, rfl⟩
    go_wp2_with fail
    have ht4 := Lib.hid (take4 hb H4.out)
    have hbt := hb.take 4
    go_region_held3 (fun _ => True) (trivial)
      (first
        | (go_at_call 16; refine (b32 _ (g4V b) g40 g41).mono ?_; rintro e w5 ⟨rfl, hi5, hb5⟩)
        | (go_at_call 15; refine (same_any _ _ A 4 4 4 c (b.take 4) (b.take 4) (by rw [List.length_take, HL.out]; omega) (by rw [List.length_take, HL.out]; omega) hbt hbt (by rw [← ht4.out]; exact Is.rd (xs := [g4V b / 16777216, g4V b / 65536 % 256, g4V b / 256 % 256, g4V b % 256]) hi5) (Rd.take (Rd.keep (Rd.drewN hrw _) hb5) h4n)).mono ?_; rintro e w' ⟨rfl, rfl⟩))
    have hbv : Below w.heap.size w w5 := (below_drewN hbw _).trans (hb5.mono hbw.size)
    have hsv := hs.below hbv
    clear ht4 hbt hi5
    by_cases hsum : x + y ≤ 4294967295
    · have hxy : x + y - y = x := by omega
      go_wp2_with fail
      refine (add_ok _ x y x0 y0 hsum).mono ?_
      rintro e w' ⟨rfl, rfl⟩
      go_wp2_with fail
      refine (sub_ok _ (x + y) y (by omega) (by omega) y0 (by omega)).mono ?_
      rintro e w' ⟨rfl, rfl⟩
      by_cases hle : y ≤ x
      · have hxy2 : x - y + y = x := by omega
        go_wp2_with fail
        refine (sub_ok _ x y x0 x1 y0 hle).mono ?_
        rintro e w' ⟨rfl, rfl⟩
        go_wp2_with fail
        refine (add_ok _ (x - y) y (by omega) y0 (by omega)).mono ?_
        rintro e w' ⟨rfl, rfl⟩
        go_wp2
        go_ret
        exact ⟨rfl, (by first | exact hbv | exact below_drewN hbv _)⟩
      · have hlt : x < y := by omega
        go_wp2_with fail
        refine (sub_no _ (by first | exact hsv | exact hsv.drewN _) x y (by omega)).mono ?_
        rintro e w' ⟨rfl, m7, rfl⟩
        go_wp2
        go_ret
        exact ⟨rfl, (by first | exact hbv | exact below_drewN hbv _)⟩
    · have hwr : IntKind.u32.wrap (x + y) = x + y - 4294967296 := by rw [IntKind.wrap_u32]; omega
      have hwl : decide (x ≤ x + y - 4294967296) = false := by simp; omega
      have hwm : x + y - 4294967296 < x := by omega
      go_wp2_with fail
      refine (add_no _ (by first | exact hsv | exact hsv.drewN _) x y y0 y1 (by omega)).mono ?_
      rintro e w' ⟨rfl, m6, rfl⟩
      by_cases hle : y ≤ x
      · have hxy2 : x - y + y = x := by omega
        go_wp2_with fail
        refine (sub_ok _ x y x0 x1 y0 hle).mono ?_
        rintro e w' ⟨rfl, rfl⟩
        go_wp2_with fail
        refine (add_ok _ (x - y) y (by omega) y0 (by omega)).mono ?_
        rintro e w' ⟨rfl, rfl⟩
        go_wp2
        go_ret
        exact ⟨rfl, (by first | exact hbv | exact below_drewN hbv _)⟩
      · have hlt : x < y := by omega
        go_wp2_with fail
        refine (sub_no _ (by first | exact hsv | exact hsv.drewN _) x y (by omega)).mono ?_
        rintro e w' ⟨rfl, m7, rfl⟩
        go_wp2
        go_ret
        exact ⟨rfl, (by first | exact hbv | exact below_drewN hbv _)⟩
  · have hc4 : g4C b = 3 := if_neg h4
    have h4n : n < 4 := by rw [← HL.out]; omega
    have he : errv a (g4C b) = .iface 69 (.pointer (some (a 3))) := by rw [hc4]; rfl
    have hbn : decide ((4 : Int) ≤ (n : Int)) = false := by simp; omega
    have hsv := hsw
    have hbv := hbw
    clear h4 hc4
    go_wp2_with fail
    refine (get32_any _ (hsw.drewN m3) HL.out hb (hrw.drewN m3)).mono ?_
    rintro e w' ⟨rfl, m4, rfl⟩
    go_wp2_with fail
    go_quiet (fail)
    by_cases hsum : x + y ≤ 4294967295
    · have hxy : x + y - y = x := by omega
      go_wp2_with fail
      refine (add_ok _ x y x0 y0 hsum).mono ?_
      rintro e w' ⟨rfl, rfl⟩
      go_wp2_with fail
      refine (sub_ok _ (x + y) y (by omega) (by omega) y0 (by omega)).mono ?_
      rintro e w' ⟨rfl, rfl⟩
      by_cases hle : y ≤ x
      · have hxy2 : x - y + y = x := by omega
        go_wp2_with fail
        refine (sub_ok _ x y x0 x1 y0 hle).mono ?_
        rintro e w' ⟨rfl, rfl⟩
        go_wp2_with fail
        refine (add_ok _ (x - y) y (by omega) y0 (by omega)).mono ?_
        rintro e w' ⟨rfl, rfl⟩
        go_wp2
        go_ret
        exact ⟨rfl, (by first | exact hbv | exact below_drewN hbv _)⟩
      · have hlt : x < y := by omega
        go_wp2_with fail
        refine (sub_no _ (by first | exact hsv | exact hsv.drewN _) x y (by omega)).mono ?_
        rintro e w' ⟨rfl, m7, rfl⟩
        go_wp2
        go_ret
        exact ⟨rfl, (by first | exact hbv | exact below_drewN hbv _)⟩
    · have hwr : IntKind.u32.wrap (x + y) = x + y - 4294967296 := by rw [IntKind.wrap_u32]; omega
      have hwl : decide (x ≤ x + y - 4294967296) = false := by simp; omega
      have hwm : x + y - 4294967296 < x := by omega
      go_wp2_with fail
      refine (add_no _ (by first | exact hsv | exact hsv.drewN _) x y y0 y1 (by omega)).mono ?_
      rintro e w' ⟨rfl, m6, rfl⟩
      by_cases hle : y ≤ x
      · have hxy2 : x - y + y = x := by omega
        go_wp2_with fail
        refine (sub_ok _ x y x0 x1 y0 hle).mono ?_
        rintro e w' ⟨rfl, rfl⟩
        go_wp2_with fail
        refine (add_ok _ (x - y) y (by omega) y0 (by omega)).mono ?_
        rintro e w' ⟨rfl, rfl⟩
        go_wp2
        go_ret
        exact ⟨rfl, (by first | exact hbv | exact below_drewN hbv _)⟩
      · have hlt : x < y := by omega
        go_wp2_with fail
        refine (sub_no _ (by first | exact hsv | exact hsv.drewN _) x y (by omega)).mono ?_
        rintro e w' ⟨rfl, m7, rfl⟩
        go_wp2
        go_ret
        exact ⟨rfl, (by first | exact hbv | exact below_drewN hbv _)⟩
end Go.Proofs.YtlehbkdenbpbfaaDoor
