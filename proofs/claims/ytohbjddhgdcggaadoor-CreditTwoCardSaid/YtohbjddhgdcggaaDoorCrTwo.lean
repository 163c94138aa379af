/-
  culvertlaw07.do by contract; the walk of CreditTwo.
  No condition of its own: the fact 'Sen' on the world; the scripts read as rows.
-/
import Derived.Test.YtohbjddhgdcggaaDoorGrPure
import Derived.Test.YtohbjddhgdcggaaDoorRecs
import Derived.Deep.RegionHeld3
namespace Go.Proofs.YtohbjddhgdcggaaDoor
open Go.RowKit

def doC (s : Cr) (kd N D : Int) : Nat := if kd = 2 then spC s N else if kd = 3 then gaC s D else 0
def doS (s : Cr) (kd N D : Int) : Cr := if kd = 2 then spS s N else if kd = 3 then gaS s D else s
theorem doC_le (s : Cr) (kd N D : Int) : doC s kd N D ≤ 42 := by
  unfold doC
  split
  · exact spC_le s N
  · split
    · exact gaC_le s D
    · omega

theorem do_any {B : Nat} {a : Nat → Addr} (w : World) (hs : Sen B a w) (hB : B ≤ w.heap.size) (p : Option Addr) (s : Cr) (h : Cd w p s) (kd N D : Int) (D0 : 0 ≤ D) (D1 : D ≤ 4294967295) :
    Calls Tryd.prog 18 #[.pointer p, .agg #[.int .i64 kd, .int .i64 N, .int .u32 D]] w fun e w' => e = .returned (errv a (doC s kd N D)) ∧ Cd w' p (doS s kd N D) ∧ Chg (at_ p) w w' := by
  have HS := Lib.hid hs
  have HO := Lib.hid (h.keep ((Chg.refl none_ w).alloc (.cells #[.int .i64 kd, .int .i64 N, .int .u32 D] 36)))
  have HB : Hid (Below B w (w.alloc (.cells #[.int .i64 kd, .int .i64 N, .int .u32 D] 36))) := ((Chg.refl none_ w).alloc _).old hB
  have HG : Hid (Chg (at_ p) w (w.alloc (.cells #[.int .i64 kd, .int .i64 N, .int .u32 D] 36))) := (Chg.refl _ w).alloc _
  clear hs h hB
  by_cases e2 : kd = 2
  · have hc : doC s kd N D = spC s N := by unfold doC; rw [if_pos e2]
    have hS : doS s kd N D = spS s N := by unfold doS; rw [if_pos e2]
    rw [hc, hS]
    clear hc hS
    subst e2
    go_enter Tryd.func18, Tryd.ntmps18
    go_wp2_with fail
    refine (spend_any _ (HS.out.below HB.out) p s HO.out N).mono ?_
    rintro e w2 ⟨rfl, o2, k2⟩
    go_wp2
    go_ret
    exact ⟨rfl, o2, HG.out.trans k2⟩
  · have n2 : (kd == 2) = false := by simp [e2]
    by_cases e3 : kd = 3
    · have hc : doC s kd N D = gaC s D := by unfold doC; rw [if_neg e2, if_pos e3]
      have hS : doS s kd N D = gaS s D := by unfold doS; rw [if_neg e2, if_pos e3]
      rw [hc, hS]
      clear hc hS n2 e2
      subst e3
      go_enter Tryd.func18, Tryd.ntmps18
      go_wp2_with fail
      refine (grant_any _ (HS.out.below HB.out) p s HO.out D D0 D1).mono ?_
      rintro e w2 ⟨rfl, o2, k2⟩
      go_wp2
      go_ret
      exact ⟨rfl, o2, HG.out.trans k2⟩
    · have n3 : (kd == 3) = false := by simp [e3]
      have hc : doC s kd N D = 0 := by unfold doC; rw [if_neg e2, if_neg e3]
      have hS : doS s kd N D = s := by unfold doS; rw [if_neg e2, if_neg e3]
      rw [hc, hS]
      clear hc hS e2 e3
      go_enter Tryd.func18, Tryd.ntmps18
      go_wp2
      go_ret
      exact ⟨rfl, HO.out, HG.out⟩
/-- The three Sends. -/
structure Tri (w wr : World) (gs gt gu : Nat) (s u t : Cr) : Prop where
  s : Cd wr (some ⟨gs, 0, none⟩) s
  u : Cd wr (some ⟨gu, 0, none⟩) u
  t : Cd wr (some ⟨gt, 0, none⟩) t
  ch : Chg none_ w wr
structure Far3 (n gs gt gu : Nat) : Prop where
  a : n ≤ gs
  b : n ≤ gt
  c : n ≤ gu
  st : gs ≠ gt
  su : gs ≠ gu
  tu : gt ≠ gu
theorem Tri.toS {w wr w' : World} {gs gt gu : Nat} {s u t s' : Cr} (h : Tri w wr gs gt gu s u t) (f : Far3 w.heap.size gs gt gu) (o : Cd w' (some ⟨gs, 0, none⟩) s') (k : Chg (at_ (some ⟨gs, 0, none⟩)) wr w') : Tri w w' gs gt gu s' u t :=
  ⟨o, h.u.chg k (off_at f.su.symm), h.t.chg k (off_at f.st.symm), at_newC f.a rfl h.ch k⟩
theorem Tri.toU {w wr w' : World} {gs gt gu : Nat} {s u t u' : Cr} (h : Tri w wr gs gt gu s u t) (f : Far3 w.heap.size gs gt gu) (o : Cd w' (some ⟨gu, 0, none⟩) u') (k : Chg (at_ (some ⟨gu, 0, none⟩)) wr w') : Tri w w' gs gt gu s u' t :=
  ⟨h.s.chg k (off_at f.su), o, h.t.chg k (off_at f.tu), at_newC f.c rfl h.ch k⟩
theorem Tri.toT {w wr w' : World} {gs gt gu : Nat} {s u t t' : Cr} (h : Tri w wr gs gt gu s u t) (f : Far3 w.heap.size gs gt gu) (o : Cd w' (some ⟨gt, 0, none⟩) t') (k : Chg (at_ (some ⟨gt, 0, none⟩)) wr w') : Tri w w' gs gt gu s u t' :=
  ⟨h.s.chg k (off_at f.st), h.u.chg k (off_at f.tu.symm), o, at_newC f.b rfl h.ch k⟩
theorem Tri.drew {w wr : World} {gs gt gu : Nat} {s u t : Cr} (h : Tri w wr gs gt gu s u t) : Tri w wr.drew gs gt gu s u t := ⟨h.s, h.u, h.t, h.ch.drew⟩
/-- An op's cells, in whatever world that changed nothing old. -/
def OpAt (w : World) (ad : Addr) (k : Nat) (kd N D : Int) : Prop := ∀ u : World, Chg none_ w u → u.cell? (ad.add (k * 3)) = some (.int .i64 kd) ∧ u.cell? ⟨(ad.add (k * 3)).block, (ad.add (k * 3)).off + 1, none⟩ = some (.int .i64 N) ∧ u.cell? ⟨(ad.add (k * 3)).block, (ad.add (k * 3)).off + 2, none⟩ = some (.int .u32 D)
/-- A script. -/
structure Scr (w : World) (A : Option Addr) (n : Nat) (F : Nat → Nat → Value) (K0 K1 K2 : Nat → Int) : Prop where
  r : Rds w A n 3 F
  h0 : ∀ i, i < n → F i 0 = .int .i64 (K0 i)
  h1 : ∀ i, i < n → F i 1 = .int .i64 (K1 i)
  h2 : ∀ i, i < n → F i 2 = .int .u32 (K2 i)
  hb : ∀ i, i < n → 0 ≤ K2 i ∧ K2 i ≤ 4294967295
theorem Scr.op {w : World} {ad : Addr} {n k : Nat} {F : Nat → Nat → Value} {K0 K1 K2 : Nat → Int} (h : Scr w (some ad) n F K0 K1 K2) (hk : k < n) : OpAt w ad k (K0 k) (K1 k) (K2 k) := fun u hu => by
  have hb := hu.old (Nat.le_refl w.heap.size)
  have a0 := h.r.f0 rfl hb (by decide) hk
  have a1 := h.r.fj rfl hb hk (j := 1) (by decide) (by decide)
  have a2 := h.r.fj rfl hb hk (j := 2) (by decide) (by decide)
  rw [h.h0 k hk] at a0
  rw [h.h1 k hk] at a1
  rw [h.h2 k hk] at a2
  exact ⟨a0, a1, a2⟩
theorem Scr.some {w : World} {A : Option Addr} {n : Nat} {F : Nat → Nat → Value} {K0 K1 K2 : Nat → Int} (h : Scr w A n F K0 K1 K2) (hn : 0 < n) : ∃ ad, A = Option.some ad := by
  obtain ⟨ad, e, _⟩ := h.r hn
  exact ⟨ad, e⟩

set_option maxRecDepth 100000 in
set_option maxHeartbeats 8000000 in
theorem two_walk {a : Nat → Addr} (w : World) (hs : Sen w.heap.size a w) (A A' : Option Addr) (n c n' c' : Nat) (F F' : Nat → Nat → Value) (K0 K1 K2 J0 J1 J2 : Nat → Int) (hr : Scr w A n F K0 K1 K2) (hr' : Scr w A' n' F' J0 J1 J2) (hm : n ≤ 8796093022208) (hm' : n' ≤ 8796093022208) :
    Calls Tryd.prog 5 #[.slice A n c, .slice A' n' c'] w fun e w' => e = .returned (.bool true) ∧ Below w.heap.size w w' := by
  have hB : w.heap.size ≤ w.heap.size := Nat.le_refl _
  have HS := Lib.hid hs
  have HR := Lib.hid hr
  have HR' := Lib.hid hr'
  clear hs hr hr'
  go_enter Tryd.func5, Tryd.ntmps5
  go_wp2_with fail
  refine (awake_any w HS.out hB).mono ?_
  rintro e w1 ⟨rfl, c1⟩
  go_wp2_with fail
  refine (crnew_ok w1 1000 (by decide) (by decide)).mono ?_
  rintro e w2 ⟨gs, rfl, hgs, o2, k2⟩
  have c2 := c1.trans k2
  have s1 := c1.size
  have l2 := o2.low
  clear c1
  go_wp2_with fail
  refine (crnew_ok w2 1000 (by decide) (by decide)).mono ?_
  rintro e w3 ⟨gt, rfl, hgt, o3, k3⟩
  have c3 := c2.trans k3
  have s2 := c2.size
  have l3 := o3.low
  have s3 := k3.size
  clear c2
  go_wp2_with fail
  refine (crnew_ok w3 1000 (by decide) (by decide)).mono ?_
  rintro e w4 ⟨gu, rfl, hgu, o4, k4⟩
  have HT4 : Hid (Tri w w4 gs gt gu (Cr.new 1000) (Cr.new 1000) (Cr.new 1000)) := ⟨(o2.keep k3).keep k4, o4, o3.keep k4, c3.trans k4⟩
  have HFar : Hid (Far3 w.heap.size gs gt gu) := ⟨by omega, by omega, by have := c3.size; omega, by omega, by omega, by omega⟩
  clear o2 o3 o4 k2 k3 k4 c3 s1 s2 s3 l2 l3 hgs hgt hgu
  go_wp2_with fail
  go_loopw [11] (fun xi wr => ∃ (k : Nat) (s t : Cr), k ≤ n + n' ∧ xi = .int .i64 k ∧ Tri w wr gs gt gu s s t) (fun xi _ => n + n' - (intOf xi).toNat)
  case atStart => exact ⟨0, _, _, by omega, rfl, HT4.out⟩
  case round =>
    clear HT4
    obtain ⟨k, s, t, hk, rfl, ht⟩ := hrel
    have HT := Lib.hid ht
    clear ht
    by_cases hkn : k < n
    · have hkI : (k : Int) < (n : Int) := by omega
      obtain ⟨ad, rfl⟩ := HR.out.some (by omega)
      have HOp := Lib.hid (HR.out.op hkn)
      obtain ⟨D0, D1⟩ := HR.out.hb k hkn
      generalize K0 k = kd at HOp
      generalize K1 k = N at HOp
      generalize K2 k = D at HOp D0 D1
      have HCl := Lib.hid (doC_le s kd N D)
      go_wp2_with fail
      go_region_held3 (fun u => u.cell? (ad.add (k * 3)) = some (.int .i64 kd) ∧ u.cell? ⟨(ad.add (k * 3)).block, (ad.add (k * 3)).off + 1, none⟩ = some (.int .i64 N) ∧ u.cell? ⟨(ad.add (k * 3)).block, (ad.add (k * 3)).off + 2, none⟩ = some (.int .u32 D))
        (first | exact HOp.out _ HT.out.ch.drew | exact HOp.out _ HT1.out.ch | exact HOp.out _ HT2.out.ch)
        (first
          | (go_at_call 18; refine (do_any _ (HS.out.below (HT1.out.ch.old hB)) HT1.out.ch.size _ s HT1.out.u kd N D D0 D1).mono ?_; rintro e w6 ⟨rfl, o6, k6⟩; have HT2 := Lib.hid (HT1.out.toU HFar.out o6 k6))
          | (go_at_call 18; refine (do_any _ (HS.out.below (HT.out.ch.drew.old hB)) HT.out.ch.drew.size _ s HT.out.drew.s kd N D D0 D1).mono ?_; rintro e w5 ⟨rfl, o5, k5⟩; have HT1 := Lib.hid (HT.out.drew.toS HFar.out o5 k5))
          | (go_at_call 11; refine (code_any _ (HS.out.below (HT2.out.ch.old hB)) _ HCl.out).mono ?_; rintro e w' ⟨rfl, rfl⟩)
          | (go_at_call 11; refine (code_any _ (HS.out.below (HT1.out.ch.old hB)) _ HCl.out).mono ?_; rintro e w' ⟨rfl, rfl⟩))
      clear HT HT1
      by_cases hkm : k < n'
      · have hkI' : (k : Int) < (n' : Int) := by omega
        obtain ⟨ad', rfl⟩ := HR'.out.some (by omega)
        obtain ⟨y0, y1, y2⟩ := HR'.out.op hkm _ HT2.out.ch
        obtain ⟨E0, E1⟩ := HR'.out.hb k hkm
        go_wp2_with fail
        refine (do_any _ (HS.out.below (HT2.out.ch.old hB)) HT2.out.ch.size _ t HT2.out.t _ _ _ E0 E1).mono ?_
        rintro e w7 ⟨rfl, o7, k7⟩
        go_wp2_with fail
        go_roundw
        case rel => exact ⟨k + 1, _, _, by omega, by go_num, HT2.out.toT HFar.out o7 k7⟩
        case measure => simp [intOf]; omega
      · have hkI' : (n' : Int) ≤ (k : Int) := by omega
        go_wp2_with fail
        go_roundw
        case rel => exact ⟨k + 1, _, _, by omega, by go_num, HT2.out⟩
        case measure => simp [intOf]; omega
    · have hkI : (n : Int) ≤ (k : Int) := by omega
      by_cases hkm : k < n'
      · have hkI' : (k : Int) < (n' : Int) := by omega
        obtain ⟨ad', rfl⟩ := HR'.out.some (by omega)
        obtain ⟨y0, y1, y2⟩ := HR'.out.op hkm _ HT.out.ch
        obtain ⟨E0, E1⟩ := HR'.out.hb k hkm
        go_wp2_with fail
        refine (do_any _ (HS.out.below (HT.out.ch.old hB)) HT.out.ch.size _ t HT.out.t _ _ _ E0 E1).mono ?_
        rintro e w7 ⟨rfl, o7, k7⟩
        go_wp2_with fail
        go_roundw
        case rel => exact ⟨k + 1, _, _, by omega, by go_num, HT.out.toT HFar.out o7 k7⟩
        case measure => simp [intOf]; omega
      · have hkI' : (n' : Int) ≤ (k : Int) := by omega
        have h1 := Lib.hid (crhave_any _ _ _ HT.out.s)
        have h2 := Lib.hid (crhave_any _ _ _ HT.out.u)
        have h3 := Lib.hid (crspent_any _ _ _ HT.out.s)
        have h4 := Lib.hid (crspent_any _ _ _ HT.out.u)
        go_wp2_with fail
        refine h1.out.mono ?_
        rintro e w' ⟨rfl, rfl⟩
        go_wp2_with fail
        refine h2.out.mono ?_
        rintro e w' ⟨rfl, rfl⟩
        go_wp2_with fail
        refine h3.out.mono ?_
        rintro e w' ⟨rfl, rfl⟩
        go_wp2_with fail
        refine h4.out.mono ?_
        rintro e w' ⟨rfl, rfl⟩
        go_wp2
        go_ret
        exact ⟨rfl, HT.out.ch.old hB⟩
end Go.Proofs.YtohbjddhgdcggaaDoor
