/-
  msg.Reader.size and culvertref27.size against hdB (printed by gen_msgsz2.py).
  No condition of its own.
-/
import Derived.Test.YthalmjjbamglgaaDoorMsgSz
import Derived.Test.YthalmjjbamglgaaDoorMsgRSz
namespace Go.Proofs.YthalmjjbamglgaaDoor
open Go.RowKit

def szPost (o : Option (Option (Nat × Nat))) (e : Ending) : Prop :=
  match o with
  | none => ∃ k m, e = .returned (.tuple #[k, m, .bool false])
  | some none => e = .returned (.tuple #[.int .i64 0, .int .i64 0, .bool true])
  | some (some (k, n)) => e = .returned (.tuple #[.int .i64 (k : Int), .int .i64 (n : Int), .bool true])
/-- The number and how many bytes it has, as the reference answers them. -/
def szT : List Int → Int × Nat
  | [] => (0, 0)
  | x :: t => if x < 128 then (x, 1) else
    match t with
    | [] => (0, 0)
    | y :: t => if y < 128 then (x - 128 + 128 * y, 2) else
      match t with
      | [] => (0, 0)
      | z :: _ => if z < 128 then (x - 128 + 128 * (y - 128) + 16384 * z, 3) else (0, 3)
theorem bytes_at {w : World} {ad : Addr} {n : Nat} {xs : List Int} (_hl : xs.length = n) (hc : ∀ i, i < n → w.cell? (ad.add i) = some (.int .u8 (xs.getD i 0))) (i : Nat) (hi : i < n) (x : Int) (hx : xs[i]? = some x) :
    (i = 0 → w.cell? ad = some (.int .u8 x)) ∧ (0 < i → w.cell? ⟨ad.block, ad.off + i, none⟩ = some (.int .u8 x)) := by
  have h := hc i hi
  rw [List.getD_eq_getElem?_getD, hx] at h
  refine ⟨fun h0 => ?_, fun h0 => ?_⟩
  · subst h0
    simpa [Addr.add] using h
  · have e : ad.add i = ⟨ad.block, ad.off + i, none⟩ := by unfold Addr.add; rw [if_neg (by omega)]
    rwa [e] at h

theorem msize_any (w : World) (g : Nat) (most : Int) (hg : w.cell? ⟨g, 0, none⟩ = some (.int .i64 most)) (A : Option Addr) (n c : Nat) (xs : List Int) (hl : xs.length = n) (hb : Byt xs) (hr : Rd w A n fun i => .int .u8 (xs.getD i 0)) :
    Calls Tryd.prog 81 #[.pointer (some ⟨g, 0, none⟩), .slice A n c] w fun e w' => szPost (hdB most xs) e ∧ Dr w w' := by
  match xs with
  | [] =>
    obtain rfl : 0 = n := hl
    exact ms0end w g most hg c A
  | x :: t =>
    have hx := hb x (by simp)
    subst hl
    obtain ⟨ad, rfl, hc⟩ := hr (by simp)
    have c0 := (bytes_at rfl hc 0 (by simp) x rfl).1 rfl
    rcases hd_one most x t with ⟨h1, h2, e⟩ | ⟨h1, h2, e⟩ | ⟨h1, rfl, e⟩ | ⟨h1, y, t', rfl, h⟩
    · rw [e]
      have k := (ms0ok w g most hg ad (x :: t).length c (by simp) x (by omega) (by omega) c0 (by omega))
      refine k.mono fun e w' ⟨h, hw⟩ => ⟨?_, hw⟩
      show e = _
      rw [show ((x.toNat : Nat) : Int) = x by omega]
      exact h
    · rw [e]
      exact ms0nle w g most hg ad (x :: t).length c (by simp) x (by omega) (by omega) c0 (by omega) |>.mono fun e w' ⟨k, m, h, hw⟩ => ⟨⟨k, m, h⟩, hw⟩
    · rw [e]
      exact ms1end w g most hg ad c x (by omega) (by omega) c0
    · have hy := hb y (by simp)
      have c1 := (bytes_at rfl hc 1 (by simp) y rfl).2 (by omega)
      rcases h with ⟨h2, h3, e⟩ | ⟨h2, h3, e⟩ | ⟨h2, rfl, e⟩ | ⟨h2, z, t'', rfl, h⟩
      · rw [e]
        have k := (ms1ok w g most hg ad (x :: y :: t').length c (by simp) x (by omega) (by omega) y (by omega) (by omega) c0 c1 (by omega) (by omega))
        refine k.mono fun e w' ⟨h, hw⟩ => ⟨?_, hw⟩
        show e = _
        rw [show (((x - 128 + 128 * y).toNat : Nat) : Int) = (x - 128) + 128 * y by omega]
        exact h
      · rw [e]
        by_cases h4 : x - 128 + 128 * y ≤ most
        · exact ms1zero w g most hg ad (x :: y :: t').length c (by simp) x (by omega) (by omega) y (by omega) (by omega) c0 c1 (by omega) (by omega) |>.mono fun e w' ⟨k, m, h, hw⟩ => ⟨⟨k, m, h⟩, hw⟩
        · exact ms1nle w g most hg ad (x :: y :: t').length c (by simp) x (by omega) (by omega) y (by omega) (by omega) c0 c1 (by omega) |>.mono fun e w' ⟨k, m, h, hw⟩ => ⟨⟨k, m, h⟩, hw⟩
      · rw [e]
        exact ms2end w g most hg ad c x (by omega) (by omega) y (by omega) (by omega) c0 c1
      · have hz := hb z (by simp)
        have c2 := (bytes_at rfl hc 2 (by simp) z rfl).2 (by omega)
        rcases h with ⟨h3, h4, e⟩ | ⟨h3, h4, e⟩ | ⟨h3, e⟩
        · rw [e]
          have k := (ms2ok w g most hg ad (x :: y :: z :: t'').length c (by simp) x (by omega) (by omega) y (by omega) (by omega) z (by omega) (by omega) c0 c1 c2 (by omega) (by omega))
          refine k.mono fun e w' ⟨h, hw⟩ => ⟨?_, hw⟩
          show e = _
          rw [show (((x - 128 + 128 * (y - 128) + 16384 * z).toNat : Nat) : Int) = (x - 128) + 128 * (y - 128) + 16384 * z by omega]
          exact h
        · rw [e]
          by_cases h5 : x - 128 + 128 * (y - 128) + 16384 * z ≤ most
          · exact ms2zero w g most hg ad (x :: y :: z :: t'').length c (by simp) x (by omega) (by omega) y (by omega) (by omega) z (by omega) (by omega) c0 c1 c2 (by omega) (by omega) |>.mono fun e w' ⟨k, m, h, hw⟩ => ⟨⟨k, m, h⟩, hw⟩
          · exact ms2nle w g most hg ad (x :: y :: z :: t'').length c (by simp) x (by omega) (by omega) y (by omega) (by omega) z (by omega) (by omega) c0 c1 c2 (by omega) |>.mono fun e w' ⟨k, m, h, hw⟩ => ⟨⟨k, m, h⟩, hw⟩
        · rw [e]
          exact ms3dead w g most hg ad (x :: y :: z :: t'').length c (by simp) x (by omega) (by omega) y (by omega) (by omega) z (by omega) (by omega) c0 c1 c2 |>.mono fun e w' ⟨k, m, h, hw⟩ => ⟨⟨k, m, h⟩, hw⟩

theorem rsize_v (w : World) (most : Int) (A : Option Addr) (n c : Nat) (xs : List Int) (hl : xs.length = n) (hb : Byt xs) (hr : Rd w A n fun i => .int .u8 (xs.getD i 0)) :
    Calls Tryd.prog 114 #[.slice A n c, .int .i64 most] w fun e w' => e = .returned (.tuple #[.int .i64 (szT xs).1, .int .i64 ((szT xs).2 : Int), .bool (hdB most xs).isNone]) ∧ Dr w w' := by
  match xs with
  | [] =>
    obtain rfl : 0 = n := hl
    exact rs0end w most c A
  | x :: t =>
    have hx := hb x (by simp)
    subst hl
    obtain ⟨ad, rfl, hc⟩ := hr (by simp)
    have c0 := (bytes_at rfl hc 0 (by simp) x rfl).1 rfl
    rcases hd_one most x t with ⟨h1, h2, e⟩ | ⟨h1, h2, e⟩ | ⟨h1, rfl, e⟩ | ⟨h1, y, t', rfl, h⟩
    · rw [e, show szT (x :: t) = (x, 1) from by simp only [szT]; rw [if_pos h1]]
      exact rs0ok w most ad (x :: t).length c (by simp) x (by omega) (by omega) c0 (by omega)
    · rw [e, show szT (x :: t) = (x, 1) from by simp only [szT]; rw [if_pos h1]]
      exact rs0nle w most ad (x :: t).length c (by simp) x (by omega) (by omega) c0 (by omega)
    · rw [e, show szT [x] = (0, 0) from by simp only [szT]; rw [if_neg h1]]
      exact rs1end w most ad c x (by omega) (by omega) c0
    · have hy := hb y (by simp)
      have c1 := (bytes_at rfl hc 1 (by simp) y rfl).2 (by omega)
      rcases h with ⟨h2, h3, e⟩ | ⟨h2, h3, e⟩ | ⟨h2, rfl, e⟩ | ⟨h2, z, t'', rfl, h⟩
      · rw [e, show szT (x :: y :: t') = (x - 128 + 128 * y, 2) from by simp only [szT]; rw [if_neg h1, if_pos h2]]
        exact rs1ok w most ad (x :: y :: t').length c (by simp) x (by omega) (by omega) y (by omega) (by omega) c0 c1 (by omega) (by omega)
      · rw [e, show szT (x :: y :: t') = (x - 128 + 128 * y, 2) from by simp only [szT]; rw [if_neg h1, if_pos h2]]
        by_cases h4 : x - 128 + 128 * y ≤ most
        · exact rs1zero w most ad (x :: y :: t').length c (by simp) x (by omega) (by omega) y (by omega) (by omega) c0 c1 (by omega) (by omega)
        · exact rs1nle w most ad (x :: y :: t').length c (by simp) x (by omega) (by omega) y (by omega) (by omega) c0 c1 (by omega)
      · rw [e, show szT [x, y] = (0, 0) from by simp only [szT]; rw [if_neg h1, if_neg h2]]
        exact rs2end w most ad c x (by omega) (by omega) y (by omega) (by omega) c0 c1
      · have hz := hb z (by simp)
        have c2 := (bytes_at rfl hc 2 (by simp) z rfl).2 (by omega)
        rcases h with ⟨h3, h4, e⟩ | ⟨h3, h4, e⟩ | ⟨h3, e⟩
        · rw [e, show szT (x :: y :: z :: t'') = (x - 128 + 128 * (y - 128) + 16384 * z, 3) from by simp only [szT]; rw [if_neg h1, if_neg h2, if_pos h3]]
          exact rs2ok w most ad (x :: y :: z :: t'').length c (by simp) x (by omega) (by omega) y (by omega) (by omega) z (by omega) (by omega) c0 c1 c2 (by omega) (by omega)
        · rw [e, show szT (x :: y :: z :: t'') = (x - 128 + 128 * (y - 128) + 16384 * z, 3) from by simp only [szT]; rw [if_neg h1, if_neg h2, if_pos h3]]
          by_cases h5 : x - 128 + 128 * (y - 128) + 16384 * z ≤ most
          · exact rs2zero w most ad (x :: y :: z :: t'').length c (by simp) x (by omega) (by omega) y (by omega) (by omega) z (by omega) (by omega) c0 c1 c2 (by omega) (by omega)
          · exact rs2nle w most ad (x :: y :: z :: t'').length c (by simp) x (by omega) (by omega) y (by omega) (by omega) z (by omega) (by omega) c0 c1 c2 (by omega)
        · rw [e, show szT (x :: y :: z :: t'') = (0, 3) from by simp only [szT]; rw [if_neg h1, if_neg h2, if_neg h3]]
          exact rs3dead w most ad (x :: y :: z :: t'').length c (by simp) x (by omega) (by omega) y (by omega) (by omega) z (by omega) (by omega) c0 c1 c2
theorem szT_few {most : Int} {xs : List Int} (h : hdB most xs = some none) : szT xs = (0, 0) := by
  match xs with
  | [] => rfl
  | x :: t =>
    rcases hd_one most x t with ⟨_, _, e⟩ | ⟨_, _, e⟩ | ⟨h1, rfl, e⟩ | ⟨h1, y, t', rfl, h'⟩
    · rw [e] at h; simp at h
    · rw [e] at h; simp at h
    · simp only [szT]; rw [if_neg h1]
    · rcases h' with ⟨_, _, e⟩ | ⟨_, _, e⟩ | ⟨h2, rfl, e⟩ | ⟨_, z, t'', rfl, h'⟩
      · rw [e] at h; simp at h
      · rw [e] at h; simp at h
      · simp only [szT]; rw [if_neg h1, if_neg h2]
      · rcases h' with ⟨_, _, e⟩ | ⟨_, _, e⟩ | ⟨_, e⟩ <;> (rw [e] at h; simp at h)
theorem szT_is {most : Int} {xs : List Int} {k n : Nat} (hb : Byt xs) (h : hdB most xs = some (some (k, n))) : szT xs = ((n : Int), k) := by
  match xs with
  | [] => simp [hdB] at h
  | x :: t =>
    have hx := hb x (by simp)
    rcases hd_one most x t with ⟨h1, h2, e⟩ | ⟨_, _, e⟩ | ⟨h1, rfl, e⟩ | ⟨h1, y, t', rfl, h'⟩
    · rw [e] at h
      simp only [Option.some.injEq, Prod.mk.injEq] at h
      obtain ⟨rfl, rfl⟩ := h
      simp only [szT]
      rw [if_pos h1, show ((x.toNat : Nat) : Int) = x by omega]
    · rw [e] at h; simp at h
    · rw [e] at h; simp at h
    · have hy := hb y (by simp)
      rcases h' with ⟨h2, h3, e⟩ | ⟨_, _, e⟩ | ⟨h2, rfl, e⟩ | ⟨h2, z, t'', rfl, h'⟩
      · rw [e] at h
        simp only [Option.some.injEq, Prod.mk.injEq] at h
        obtain ⟨rfl, rfl⟩ := h
        simp only [szT]
        rw [if_neg h1, if_pos h2, show (((x - 128 + 128 * y).toNat : Nat) : Int) = x - 128 + 128 * y by omega]
      · rw [e] at h; simp at h
      · rw [e] at h; simp at h
      · have hz := hb z (by simp)
        rcases h' with ⟨h3, h4, e⟩ | ⟨_, _, e⟩ | ⟨_, e⟩
        · rw [e] at h
          simp only [Option.some.injEq, Prod.mk.injEq] at h
          obtain ⟨rfl, rfl⟩ := h
          simp only [szT]
          rw [if_neg h1, if_neg h2, if_pos h3, show (((x - 128 + 128 * (y - 128) + 16384 * z).toNat : Nat) : Int) = x - 128 + 128 * (y - 128) + 16384 * z by omega]
        · rw [e] at h; simp at h
        · rw [e] at h; simp at h
end Go.Proofs.YthalmjjbamglgaaDoor
