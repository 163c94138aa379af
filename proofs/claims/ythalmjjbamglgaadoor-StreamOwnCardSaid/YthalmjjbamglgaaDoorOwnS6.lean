/-
  The walk of StreamOwn: where the bytes are at most 400 (printed by gen_own10.py).
  No condition of its own: the facts 'Sen6' and 'Tab' on the world; sizes within the reach.
-/
import Derived.Test.YthalmjjbamglgaaDoorOwnL6
namespace Go.Proofs.YthalmjjbamglgaaDoor
open Go.RowKit

set_option maxRecDepth 100000 in
set_option maxHeartbeats 8000000 in
theorem own_Sin {a : Nat → Addr} (w : World) (hs : Sen6 w.heap.size a w) (ht : Tab w.heap.size w) (A : Option Addr) (d c : Nat) (ys : List Int) (hb : Bs w (.slice A d c) ys) (hlen : d ≤ 400) (nI : Int) (hn : 1 ≤ nI ∧ nI ≤ 400) :
    Calls Tryd.prog 8 #[.slice A d c, .int .i64 nI] w fun e w' => e = .returned (.bool true) ∧ Below w.heap.size w w' := by
  have HS := Lib.hid hs
  have HT := Lib.hid ht
  have HBL := Lib.hid hb
  have hl400 : ¬ (400 : Int) < (d : Int) := by omega
  have hb' := hb
  have hlen' := hlen
  obtain ⟨nn, rfl⟩ : ∃ nn : Nat, nI = (nn : Int) := ⟨nI.toNat, by omega⟩
  have hn1 : ¬ (nn : Int) < 1 := by omega
  have hn2 : ¬ (400 : Int) < (nn : Int) := by omega
  have hnn : 1 ≤ nn ∧ nn ≤ 400 := by omega
  have HBs := Lib.hid hb'
  have HLn : Hid (ys.length = d ∧ Byt ys ∧ d ≤ 400 ∧ 1 ≤ (nn : Nat) ∧ (nn : Nat) ≤ 400) := by
    obtain ⟨_, _, _, e, h1, h2, _, _⟩ := hb'
    cases e
    exact ⟨h1, h2, hlen', hnn.1, hnn.2⟩
  have hd31 : d ≤ 400 := hlen'
  clear hs ht hlen hlen' hn hb hb' hnn
  go_enter Tryd.func8, Tryd.ntmps8
  go_wp2_with fail
  refine (awake10_any w HS.out HT.out (Nat.le_refl _)).mono ?_
  rintro e w1 ⟨rfl, c1⟩
  have HC1 := Lib.hid c1
  clear c1
  go_wp2_with fail
  have HC1' : Hid (Chg none_ w (w1.alloc (.cells #[.int .i64 1000, .int .i64 1000, .int .i64 1000, .int .i64 0, .int .i64 0, .int .i64 0, .int .i64 0, .int .i64 0] 43))) := HC1.out.alloc _
  refine (open_ok _ (HS.out.below (HC1'.out.old (Nat.le_refl _))) (HT.out.below (HC1'.out.old (Nat.le_refl _))) HC1'.out.size 1000 1000 1000 (by decide) (by decide) (by decide) (by decide) (by decide) (by decide)).mono ?_
  rintro e w2 ⟨ga, gb, m, rfl, p1, p2, p3, p4, p5⟩
  have HC2 : Hid (Chg none_ w w2) := HC1'.out.trans p5
  have hbB : w.heap.size ≤ (w1.alloc (.cells #[.int .i64 1000, .int .i64 1000, .int .i64 1000, .int .i64 0, .int .i64 0, .int .i64 0, .int .i64 0, .int .i64 0] 43)).heap.size := HC1'.out.size
  obtain ⟨lo, hlo⟩ : ∃ lo, (w1.alloc (.cells #[.int .i64 1000, .int .i64 1000, .int .i64 1000, .int .i64 0, .int .i64 0, .int .i64 0, .int .i64 0, .int .i64 0] 43)).heap.size = lo := ⟨_, rfl⟩
  rw [hlo] at p1 p4 hbB
  have HA2 := Lib.hid p1
  have HB2 := Lib.hid p2
  have HM : Hid (w.heap.size ≤ lo ∧ lo ≤ m ∧ m ≤ w2.heap.size) := ⟨hbB, p4, p3⟩
  clear p1 p2 p3 p4 p5 hlo hbB
  obtain ⟨d3, hd3⟩ : ∃ q : Nat, d + 3 = q := ⟨_, rfl⟩
  have HD3 := Lib.hid hd3
  clear hd3
  go_wp2_with (at_builtin; refine wpList_append_bytes rfl (.tmp 39) (.tmp 40) rfl rfl (ob_nil _ w2.heap.size _ _) A d c ys rfl HLn.out.1 ?hr ?hb ?hs ?_)
  case hr => obtain ⟨_, _, _, e, _, _, hr, _⟩ := (HBs.out.chg (HC2.out.alloc _) fun _ _ f => f); cases e; exact hr
  case hb => omega
  case hs => simp
  intro v3 w3 k1 k2 k3
  have k1' : Ob w3 w2.heap.size 5 v3 d (ys.map (Value.int .u8)) := by simpa using k1
  have HC3 : Hid (Chg none_ w2 w3) := ((Chg.refl none_ w2).alloc _).trans ((grow_chg k2).more fun k _ hk => by simp [obk] at hk)
  obtain ⟨A3, c3, rfl, _, _⟩ := k1'.slice
  have H3 : Hid (Ob (w3.alloc (.cells #[.int .u8 1, .int .u8 2, .int .u8 3] 5)) w2.heap.size 5 (.slice A3 d c3) d (ys.map (Value.int .u8))) := k1'.chg ((Chg.refl none_ w3).alloc _) (fun _ _ f => f)
  have HR3 : Hid (Rd (w3.alloc (.cells #[.int .u8 1, .int .u8 2, .int .u8 3] 5)) (some ⟨w3.heap.size, 0, none⟩) 3 fun i => .int .u8 (([1, 2, 3] : List Int).getD i 0)) := Is.rdI [1, 2, 3] (Is.new w3 5 _)
  have h23 : w2.heap.size ≤ (w3.alloc (.cells #[.int .u8 1, .int .u8 2, .int .u8 3] 5)).heap.size := Nat.le_trans HC3.out.size (by simp)
  clear k1 k1' k2 k3
  go_wp2_with (at_builtin; refine wpList_append_bytes rfl (.tmp 41) (.tmp 42) rfl rfl H3.out (some ⟨w3.heap.size, 0, none⟩) 3 3 [1, 2, 3] rfl rfl HR3.out ?hb2 h23 ?_)
  case hb2 => omega
  intro v4 w4 k1 k2 k3
  obtain ⟨X3, hX3⟩ : ∃ X, ys ++ [1, 2, 3] = X := ⟨_, rfl⟩
  have HX3 : Hid (Byt X3 ∧ X3.take d = ys) := by
    refine ⟨by rw [← hX3]; exact HLn.out.2.1.append (by intro z hz; simp at hz; omega), ?_⟩
    rw [← hX3, ← HLn.out.1, List.take_left]
  have k1' : Ob w4 w2.heap.size 5 v4 d3 (u8s X3) := by
    rw [← hX3]
    show Ob _ _ _ _ _ ((ys ++ [1, 2, 3]).map (Value.int .u8))
    rw [List.map_append, ← HD3.out]
    exact k1
  have HC4 : Hid (Chg none_ w2 w4) := (HC3.out.alloc _).then (grow_chg k2) fun k hk hb => by have := (H3.out.block k hb).1; omega
  obtain ⟨A4, c4, rfl, hc4, _⟩ := k1'.slice
  obtain ⟨gf, rfl⟩ := k1'.addr (by have := HD3.out; omega)
  have HF4 := Lib.hid k1'
  have hgf0 := k1'.rdk gf (by have := HD3.out; show (if d3 = 0 then none else some gf) = some gf; rw [if_neg (by omega)])
  have HGf : Hid (w2.heap.size ≤ gf ∧ gf < w4.heap.size) := k1'.block gf hgf0
  have hdc : d ≤ c4 := by have := HD3.out; omega
  have hdcI : (d : Int) ≤ (c4 : Int) := by omega
  have kf : ∀ (dst : TypeId), Tryd.prog.underlying dst = some .string → (convert 23 dst (.slice (some ⟨gf, 0, none⟩) d3 c4)).run Tryd.prog w4 = .ok (.string (strOfNums X3)) w4 := run_str (P := Tryd.prog) (w := w4) (c := c4) (n := d3) (xs := X3) 23 5 Tryd.underlying23 Tryd.underlying5 (by have := HF4.out.len; rw [u8s_len] at this; exact this) (HF4.out.rd (fun i hi => ints_get (by have := HF4.out.len; rw [u8s_len] at this; omega)) rfl)
  clear k1 k1' k2 k3 hX3 h23 hgf0 hc4
  have HV4 : Hid (∀ W, Chg none_ w4 W → BsO W (.slice (some ⟨gf, 0, none⟩) d c4) ys ∧ ∀ k, rdk (.slice (some ⟨gf, 0, none⟩) d c4) = some k → k = gf) := fun W hW => by
    refine ⟨ob_bso (HF4.out.chg hW fun _ _ f => f) (by have := HD3.out; omega) HX3.out.2 HLn.out.2.1, fun k hk => ?_⟩
    simp only [rdk] at hk
    split at hk
    · cases hk
    · exact (Option.some.inj hk).symm
  have HZ : Hid (w.heap.size ≤ lo ∧ lo ≤ m ∧ m ≤ w2.heap.size ∧ w2.heap.size ≤ gf ∧ gf < w4.heap.size ∧ w2.heap.size ≤ w4.heap.size) := ⟨HM.out.1, HM.out.2.1, HM.out.2.2, HGf.out.1, HGf.out.2, HC4.out.size⟩
  have HCw4 : Hid (Chg none_ w w4) := HC2.out.trans HC4.out
  have hnc0 := HCw4.out.old (Nat.le_refl w.heap.size)
  have HS4 : Hid (Sen6 w.heap.size a w4 ∧ Tab w.heap.size w4 ∧ w.heap.size ≤ w4.heap.size) := ⟨HS.out.below hnc0, HT.out.below hnc0, HCw4.out.size⟩
  clear hnc0
  go_wp2_with fail
  refine (write_any w4 HS4.out.1 (T := fun k => (lo ≤ k ∧ k < m) ∨ w4.heap.size ≤ k) ((HA2.out.keep HC4.out).wide fun k hk => .inl hk) (fun k hk => .inr hk) _ ys (HV4.out w4 (Chg.refl _ _)).1 (fun k hk => by have e := (HV4.out w4 (Chg.refl _ _)).2 k hk; have := HZ.out; exact ⟨by omega, fun h => by omega⟩) (by have := HLn.out; omega)).mono ?_
  rintro e u1 ⟨rfl, p1, p2⟩
  have HU1 := Lib.hid p1
  have HCx1 : Hid (Chg none_ w u1) := HCw4.out.then p2 fun k hk h => by have := HZ.out; omega
  have HX1 : Hid (Chg (fun k => (lo ≤ k ∧ k < m) ∨ w4.heap.size ≤ k) w4 u1) := p2
  have HS5 : Hid (Sen6 w.heap.size a u1 ∧ Tab w.heap.size u1 ∧ w.heap.size ≤ u1.heap.size ∧ w4.heap.size ≤ u1.heap.size) := by
    have hb := p2.below (B := w.heap.size) (fun k _ h => by have := HZ.out; have := HS4.out.2.2; omega) HS4.out.2.2
    exact ⟨HS4.out.1.below hb, HS4.out.2.1.below hb, Nat.le_trans HS4.out.2.2 p2.size, p2.size⟩
  have HF5 : Hid (Ob u1 w2.heap.size 5 (.slice (some ⟨gf, 0, none⟩) d3 c4) d3 (u8s X3)) := HF4.out.chg p2 fun k hk h => by
    have e : k = gf := by have := HF4.out.rdk gf (by have := HD3.out; show (if d3 = 0 then none else some gf) = some gf; rw [if_neg (by omega)]); rw [this] at hk; exact (Option.some.inj hk).symm
    have := HZ.out; omega
  have HB5 := Lib.hid ((HB2.out.keep HC4.out).chg p2 fun k hk hk' h => by have := HZ.out; omega)
  clear p1 p2 kf
  go_wp2_with fail
  refine (write_any u1 HS5.out.1 (T := fun k => (lo ≤ k ∧ k < m) ∨ w4.heap.size ≤ k) HU1.out (fun k hk => .inr (by have := HS5.out.2.2.2; omega)) _ ys (ob_bso HF5.out (by have := HD3.out; omega) HX3.out.2 HLn.out.2.1) (fun k hk => by have e := (HV4.out w4 (Chg.refl _ _)).2 k hk; have := HZ.out; have := HS5.out.2.2.2; exact ⟨by omega, fun h => by omega⟩) (by have := HLn.out; omega)).mono ?_
  rintro e u2 ⟨rfl, p1, p2⟩
  have HA6 := Lib.hid p1.cut
  have HCx2 : Hid (Chg none_ w u2) := HCx1.out.then p2 fun k hk h => by have := HZ.out; omega
  have HS6 : Hid (Sen6 w.heap.size a u2 ∧ Tab w.heap.size u2 ∧ w.heap.size ≤ u2.heap.size ∧ w4.heap.size ≤ u2.heap.size) := by
    have hb := p2.below (B := w.heap.size) (fun k _ h => by have := HZ.out; have := HS4.out.2.2; omega) HS5.out.2.2.1
    exact ⟨HS5.out.1.below hb, HS5.out.2.1.below hb, Nat.le_trans HS5.out.2.2.1 p2.size, Nat.le_trans HS5.out.2.2.2 p2.size⟩
  have hgfk : ∀ k, obk (.slice (some ⟨gf, 0, none⟩) d3 c4) = some k → k = gf := fun k hk => by
    have := HF4.out.rdk gf (by have := HD3.out; show (if d3 = 0 then none else some gf) = some gf; rw [if_neg (by omega)])
    rw [this] at hk
    exact (Option.some.inj hk).symm
  have HGk := Lib.hid hgfk
  have HF6 : Hid (Ob u2 w2.heap.size 5 (.slice (some ⟨gf, 0, none⟩) d3 c4) d3 (u8s X3)) := HF5.out.chg p2 fun k hk h => by have := HGk.out k hk; have := HZ.out; omega
  have HB6 := Lib.hid (HB5.out.chg p2 fun k hk hk' h => by have := HZ.out; omega)
  clear p1 p2 hgfk
  go_wp2_with fail
  refine (sarrive_any u2 HS6.out.1 HS6.out.2.1 HS6.out.2.2.1 (T := fun k => (m ≤ k ∧ k < w2.heap.size) ∨ u2.heap.size ≤ k) (HB6.out.wide fun k hk => .inl hk) (fun k hk => by have := HZ.out; have := HS6.out; omega) (fun k hk => .inr hk) _ ys (ob_bso HF6.out (by have := HD3.out; omega) HX3.out.2 HLn.out.2.1) (fun k hk => by have e := (HV4.out w4 (Chg.refl _ _)).2 k hk; have := HZ.out; have := HS6.out.2.2.2; exact ⟨by omega, fun h => by omega⟩) (by have := HLn.out; omega) false).mono ?_
  rintro e u3 ⟨rfl, p1, p2⟩
  have HU3 := Lib.hid p1
  have HCx3 : Hid (Chg none_ w u3) := HCx2.out.then p2 fun k hk h => by have := HZ.out; have := HS6.out; omega
  have HS7 : Hid (Sen6 w.heap.size a u3 ∧ Tab w.heap.size u3 ∧ w.heap.size ≤ u3.heap.size ∧ u2.heap.size ≤ u3.heap.size) := by
    have hb := p2.below (B := w.heap.size) (fun k _ h => by have := HZ.out; have := HS6.out; omega) HS6.out.2.2.1
    exact ⟨HS6.out.1.below hb, HS6.out.2.1.below hb, Nat.le_trans HS6.out.2.2.1 p2.size, p2.size⟩
  have HF7 : Hid (Ob u3 w2.heap.size 5 (.slice (some ⟨gf, 0, none⟩) d3 c4) d3 (u8s X3)) := HF6.out.chg p2 fun k hk h => by have := HGk.out k hk; have := HZ.out; have := HS6.out; omega
  have HA7 := Lib.hid (HA6.out.chg p2 fun k hk hk' h => by have := HZ.out; omega)
  clear p1 p2
  go_wp2_with fail
  refine (sarrive_any u3 HS7.out.1 HS7.out.2.1 HS7.out.2.2.1 (T := fun k => (m ≤ k ∧ k < w2.heap.size) ∨ u2.heap.size ≤ k) HU3.out (fun k hk => by have := HZ.out; have := HS6.out; omega) (fun k hk => .inr (by have := HS7.out.2.2.2; omega)) _ ys (ob_bso HF7.out (by have := HD3.out; omega) HX3.out.2 HLn.out.2.1) (fun k hk => by have e := (HV4.out w4 (Chg.refl _ _)).2 k hk; have := HZ.out; have := HS6.out.2.2.2; have := HS7.out.2.2.2; exact ⟨by omega, fun h => by omega⟩) (by have := HLn.out; omega) false).mono ?_
  rintro e u4 ⟨rfl, p1, p2⟩
  have HB8 := Lib.hid p1.cut
  have HCx4 : Hid (Chg none_ w u4) := HCx3.out.then p2 fun k hk h => by have := HZ.out; have := HS6.out; omega
  have HS8 : Hid (Sen6 w.heap.size a u4 ∧ Tab w.heap.size u4 ∧ w.heap.size ≤ u4.heap.size ∧ u2.heap.size ≤ u4.heap.size) := by
    have hb := p2.below (B := w.heap.size) (fun k _ h => by have := HZ.out; have := HS6.out; omega) HS7.out.2.2.1
    exact ⟨HS7.out.1.below hb, HS7.out.2.1.below hb, Nat.le_trans HS7.out.2.2.1 p2.size, Nat.le_trans HS7.out.2.2.2 p2.size⟩
  have HF8 : Hid (Ob u4 w2.heap.size 5 (.slice (some ⟨gf, 0, none⟩) d3 c4) d3 (u8s X3)) := HF7.out.chg p2 fun k hk h => by have := HGk.out k hk; have := HZ.out; have := HS6.out; omega
  have HA8 := Lib.hid (HA7.out.chg p2 fun k hk hk' h => by have := HZ.out; omega)
  have kf : ∀ (dst : TypeId), Tryd.prog.underlying dst = some .string → (convert 23 dst (.slice (some ⟨gf, 0, none⟩) d3 c4)).run Tryd.prog u4 = .ok (.string (strOfNums X3)) u4 := run_str (P := Tryd.prog) (w := u4) (c := c4) (n := d3) (xs := X3) 23 5 Tryd.underlying23 Tryd.underlying5 (by have := HF8.out.len; rw [u8s_len] at this; exact this) (HF8.out.rd (fun i hi => ints_get (by have := HF8.out.len; rw [u8s_len] at this; omega)) rfl)
  clear p1 p2
  go_wp2_with fail
  have hd30 : 0 < d3 := by have := HD3.out; omega
  have HZ8 : Hid (w4.heap.size ≤ u2.heap.size ∧ u2.heap.size ≤ u4.heap.size) := ⟨HS6.out.2.2.2, HS8.out.2.2.2⟩
  obtain ⟨SA, hSA⟩ : ∃ SA, wrS (wrS (Sm.new 7 true 1000 1000 1000) ys) ys = SA := ⟨_, rfl⟩
  obtain ⟨SB, hSB⟩ : ∃ SB, avS (avS (Sm.new 7 false 1000 1000 1000) ys false) ys false = SB := ⟨_, rfl⟩
  have hoA := own_A HLn.out.1 HLn.out.2.2.1
  have hoB := own_B HLn.out.1 HLn.out.2.2.1
  rw [hSA] at hoA HA8
  rw [hSB] at hoB HB8
  have HoA := Lib.hid hoA
  have HoB := Lib.hid hoB
  clear kf hSA hSB hoA hoB HA6 HA7 HU1 HU3 HB5 HB6 HF5 HF6 HF7 HA2 HB2
  go_loopw [10] (fun x wr => ∃ i : Nat, x = .int .i64 (i : Int) ∧ i ≤ d ∧ (∃ xs, Ob wr w2.heap.size 5 (.slice (some ⟨gf, 0, none⟩) d3 c4) d3 xs) ∧ Chg (fun k => k = gf) u4 wr) (fun x _ => d - (intOf x).toNat)
  case atStart => exact ⟨0, rfl, Nat.zero_le _, ⟨_, HF8.out⟩, Chg.refl _ _⟩
  case round =>
    obtain ⟨i, rfl, hi, ⟨xs3, hO⟩, hC⟩ := hrel
    have HO := Lib.hid hO
    have HCg := Lib.hid hC
    clear hO hC
    by_cases hlt2 : i < d
    · have hid3 : i < d3 := by have := HD3.out; omega
      obtain ⟨u, hu⟩ : ∃ u, xs3[i]? = some u := ⟨_, List.getElem?_eq_getElem (by rw [HO.out.len]; exact hid3)⟩
      have hcc : wr.cell? ⟨gf, i, none⟩ = some u := (HO.out.cellAt i hid3).trans hu
      have hfr : wr.frozen? ⟨gf, i, none⟩ = false := HO.out.frozenAt hd30 i
      clear hu
      go_wp2
      go_roundw
      case rel => exact ⟨i + 1, by go_num, by omega, ⟨_, HO.out.set hd30 i _⟩, HCg.out.setCell (fun _ => rfl) _⟩
      case measure => simp [intOf]; omega
    · obtain ⟨u5, rfl⟩ : ∃ y, y = wr := ⟨wr, rfl⟩
      have HA9 := Lib.hid (HA8.out.chg HCg.out fun k hk hk' h => by have := HZ.out; omega)
      have HB9 := Lib.hid (HB8.out.chg HCg.out fun k hk hk' h => by have := HZ.out; have := HZ8.out; omega)
      have HCx5 : Hid (Chg none_ w u5) := HCx4.out.then HCg.out fun k hk h => by have := HZ.out; omega
      have hbl5 := HCx5.out.old (Nat.le_refl w.heap.size)
      have HS9 : Hid (Sen6 w.heap.size a u5 ∧ Tab w.heap.size u5 ∧ w.heap.size ≤ u5.heap.size ∧ u4.heap.size ≤ u5.heap.size) := ⟨HS.out.below hbl5, HT.out.below hbl5, HCx5.out.size, HCg.out.size⟩
      clear hbl5
      go_wp2_with fail
      refine (sread_any u5 HS9.out.1 HS9.out.2.2.1 HB9.out (fun k hk => by have := HZ.out; have := HZ8.out; omega) HoB.out.2 nn (by have := HLn.out; omega)).mono ?_
      rintro e u6 ⟨r1, rfl, j1, j2, j3⟩
      obtain ⟨k1, hk1⟩ : ∃ k1, Nat.min nn SB.un.length = k1 := ⟨_, rfl⟩
      have hU1 := srS_un SB nn
      rw [hk1] at j1 hU1
      obtain ⟨R1, q1, rfl, _, _⟩ := j1.slice
      have HJ1 := Lib.hid j1
      have HK1 : Hid (k1 ≤ SB.un.length ∧ k1 ≤ nn) := by obtain ⟨x1, x2, _⟩ := nat_min hk1.symm; exact ⟨x2, x1⟩
      have HU1 : Hid ((srS SB nn).un = SB.un.drop k1 ∧ (srS SB nn).rs = SB.rs) := hU1
      have HB10 := Lib.hid j2
      have HA10 := Lib.hid (HA9.out.chg j3 fun k hk hk' h => by have := HZ.out; have := HZ8.out; omega)
      have HCx6 : Hid (Chg none_ w u6) := HCx5.out.then j3 fun k hk h => by have := HZ.out; have := HZ8.out; omega
      have HO6 : Hid (∃ xs, Ob u6 w2.heap.size 5 (.slice (some ⟨gf, 0, none⟩) d3 c4) d3 xs) := ⟨_, HO.out.chg j3 fun k hk h => by have := HGk.out k hk; have := HZ.out; have := HZ8.out; omega⟩
      have HZ6 : Hid (u5.heap.size ≤ u6.heap.size) := j3.size
      have hbl5 := HCx6.out.old (Nat.le_refl w.heap.size)
      have HS10 : Hid (Sen6 w.heap.size a u6 ∧ Tab w.heap.size u6 ∧ w.heap.size ≤ u6.heap.size) := ⟨HS.out.below hbl5, HT.out.below hbl5, HCx6.out.size⟩
      clear j1 j2 j3 hk1 hU1 hbl5
      go_wp2_with fail
      refine (sread_any u6 HS10.out.1 HS10.out.2.2 HB10.out (fun k hk => by have := HZ.out; have := HZ8.out; omega) (HU1.out.2.trans HoB.out.2) nn (by have := HLn.out; omega)).mono ?_
      rintro e u7 ⟨r2, rfl, j1, j2, j3⟩
      obtain ⟨k2, hk2⟩ : ∃ k2, Nat.min nn (srS SB nn).un.length = k2 := ⟨_, rfl⟩
      have hU2 := srS_un (srS SB nn) nn
      rw [hk2] at j1 hU2
      obtain ⟨R2, q2, rfl, _, _⟩ := j1.slice
      have HJ2 := Lib.hid j1
      have HK2 : Hid (k2 ≤ (srS SB nn).un.length ∧ k2 ≤ nn) := by obtain ⟨x1, x2, _⟩ := nat_min hk2.symm; exact ⟨x2, x1⟩
      have HU2 : Hid ((srS (srS SB nn) nn).un = (srS SB nn).un.drop k2 ∧ (srS (srS SB nn) nn).rs = (srS SB nn).rs) := hU2
      have HB11 := Lib.hid j2
      have HA11 := Lib.hid (HA10.out.chg j3 fun k hk hk' h => by have := HZ.out; have := HZ8.out; omega)
      have HCx7 : Hid (Chg none_ w u7) := HCx6.out.then j3 fun k hk h => by have := HZ.out; have := HZ8.out; omega
      have HO7 : Hid (∃ xs, Ob u7 w2.heap.size 5 (.slice (some ⟨gf, 0, none⟩) d3 c4) d3 xs) := by
        obtain ⟨xs, h⟩ := HO6.out
        exact ⟨_, h.chg j3 fun k hk h => by have := HGk.out k hk; have := HZ.out; have := HZ8.out; omega⟩
      have HJ1' := Lib.hid (HJ1.out.chg j3 fun k hk h => by have := (HJ1.out.block k hk).1; have := HS9.out; omega)
      have HZ7 : Hid (u6.heap.size ≤ u7.heap.size) := j3.size
      have hbl5 := HCx7.out.old (Nat.le_refl w.heap.size)
      have HS11 : Hid (Sen6 w.heap.size a u7 ∧ Tab w.heap.size u7 ∧ w.heap.size ≤ u7.heap.size) := ⟨HS.out.below hbl5, HT.out.below hbl5, HCx7.out.size⟩
      clear j1 j2 j3 hk2 hU2 hbl5
      go_wp2_with fail
      refine (sframe_any u7 HS11.out.1 HS11.out.2.1 HS11.out.2.2 HA11.out (fun k hk => by have := HZ.out; omega)).mono ?_
      rintro e u8 ⟨x2, x3, x4, r3, ok, rfl, j1, j2, j3⟩
      rw [HoA.out.1, HoA.out.2] at j1
      obtain ⟨R3, q3, rfl, _, _⟩ := j1.slice
      have HJ3 := Lib.hid j1
      have HB12 := Lib.hid (HB11.out.chg j3 fun k hk hk' h => by have := HZ.out; have := HZ8.out; omega)
      have HCx8 : Hid (Chg none_ w u8) := HCx7.out.then j3 fun k hk h => by have := HZ.out; omega
      have HO8 : Hid (∃ xs, Ob u8 w2.heap.size 5 (.slice (some ⟨gf, 0, none⟩) d3 c4) d3 xs) := by
        obtain ⟨xs, h⟩ := HO7.out
        exact ⟨_, h.chg j3 fun k hk h => by have := HGk.out k hk; have := HZ.out; omega⟩
      have HJ1'' := Lib.hid (HJ1'.out.chg j3 fun k hk h => by have := (HJ1.out.block k hk).1; have := HS9.out; have := HZ8.out; omega)
      have HJ2' := Lib.hid (HJ2.out.chg j3 fun k hk h => by have := (HJ2.out.block k hk).1; have := HS9.out; have := HZ8.out; have := HZ6.out; omega)
      have HZ9 : Hid (u7.heap.size ≤ u8.heap.size) := j3.size
      clear j1 j2 j3
      obtain ⟨dd, hdd⟩ : ∃ dd, d + d = dd := ⟨_, rfl⟩
      have HDd := Lib.hid hdd
      rw [hdd] at HJ3 ⊢
      obtain ⟨u9, hu9⟩ : ∃ y, u8.alloc (.cells #[.int .u8 0, .int .u8 0, .int .u16 x2, .int .u32 x3, .int .u32 x4, .slice R3 dd q3] 72) = y := ⟨_, rfl⟩
      obtain ⟨bf, hbf⟩ : ∃ y, u8.heap.size = y := ⟨_, rfl⟩
      have HC9 : Hid (Chg none_ u8 u9) := by show Chg _ _ _; rw [← hu9]; exact (Chg.refl none_ u8).alloc _
      have HI9 : Hid (Is u9 bf 72 #[.int .u8 0, .int .u8 0, .int .u16 x2, .int .u32 x3, .int .u32 x4, .slice R3 dd q3]) := by show Is _ _ _ _; rw [← hu9, ← hbf]; exact Is.new u8 _ _
      have HBf := Lib.hid hbf
      obtain ⟨YY, hYY⟩ : ∃ YY, ys ++ ys = YY := ⟨_, rfl⟩
      obtain ⟨L1, hL1⟩ : ∃ L, SB.un.take k1 = L := ⟨_, rfl⟩
      obtain ⟨L2, hL2⟩ : ∃ L, (srS SB nn).un.take k2 = L := ⟨_, rfl⟩
      obtain ⟨kk, hkk⟩ : ∃ kk, k1 + k2 = kk := ⟨_, rfl⟩
      have hYl : YY.length = dd ∧ Byt YY := by
        have hl := HLn.out.1
        have hb := HLn.out.2.1
        exact ⟨by rw [← hYY, List.length_append]; omega, by rw [← hYY]; exact hb.append hb⟩
      have hUn : SB.un = YY := by rw [HoB.out.1, hYY]
      have hL12 : L1 ++ L2 = YY.take kk ∧ kk ≤ dd := by
        have e2 := HU1.out.1
        have l1 := HK1.out.1
        have l2 := HK2.out.1
        rw [e2, List.length_drop] at l2
        rw [hUn] at l1 l2 e2
        refine ⟨?_, by have := hYl.1; omega⟩
        rw [← hL1, ← hL2, e2, hUn, ← List.take_add, hkk]
      have hTW : strOfNums ys ++ strOfNums ys = strOfNums YY := by rw [← str_app, hYY]
      have hT12 : strOfNums L1 ++ strOfNums L2 = strOfNums (YY.take kk) := by rw [← str_app, hL12.1]
      have hEx : (strOfNums YY).extract 0 kk = strOfNums (YY.take kk) := str_take YY kk
      have hSz : (strOfNums YY).size = dd := by rw [strOfNums_size]; exact hYl.1
      have hkkI : (k1 : Int) + (k2 : Int) = (kk : Int) := by omega
      have hkkd : (kk : Int) ≤ (dd : Int) := by have := hL12.2; omega
      have hkk0 : (0 : Int) ≤ (kk : Int) := by omega
      have hkk8 : kk ≤ 800 := by have := hL12.2; have := HLn.out; omega
      have hkkw : IntKind.i64.wrap (kk : Int) = (kk : Int) := IntWalk.i64_in _ (by omega)
      have kd : ∀ (dst : TypeId), Tryd.prog.underlying dst = some .string → (convert 23 dst (.slice A d c)).run Tryd.prog u9 = .ok (.string (strOfNums ys)) u9 := by
        have h := HBs.out.chg (HCx8.out.trans HC9.out) fun _ _ f => f
        obtain ⟨_, _, _, e, h1, _, h3, _⟩ := h
        cases e
        exact run_str (P := Tryd.prog) (w := u9) (c := c) (n := d) (xs := ys) 23 5 Tryd.underlying23 Tryd.underlying5 h1 h3
      have obs : ∀ (base : Nat) (A : Option Addr) (n c : Nat) (xs : List Int), Ob u9 base 5 (.slice A n c) n (u8s xs) → ∀ (Q : Nat) (dst : TypeId), Tryd.prog.underlying dst = some .string → (convert 23 dst (.slice A n c)).run Tryd.prog (u9.drewN Q) = .ok (.string (strOfNums xs)) (u9.drewN Q) := fun base A n c xs h Q => by
        have hl : xs.length = n := by have := h.len; rw [u8s_len] at this; exact this
        exact run_str (P := Tryd.prog) (w := u9.drewN Q) (c := c) (A := A) (n := n) (xs := xs) 23 5 Tryd.underlying23 Tryd.underlying5 hl (Rd.drewN (h.rd (fun i hi => ints_get (by omega)) rfl) Q)
      have HJ19 : Hid (Ob u9 u5.heap.size 5 (.slice R1 k1 q1) k1 (u8s L1)) := by show Ob _ _ _ _ _ _; rw [← hL1]; exact HJ1''.out.chg HC9.out fun _ _ f => f
      have HJ29 : Hid (Ob u9 u6.heap.size 5 (.slice R2 k2 q2) k2 (u8s L2)) := by show Ob _ _ _ _ _ _; rw [← hL2]; exact HJ2'.out.chg HC9.out fun _ _ f => f
      have HJ39 : Hid (Ob u9 u7.heap.size 5 (.slice R3 dd q3) dd (u8s YY)) := by
        have h := HJ3.out.chg HC9.out fun _ _ f => f
        have e : (ys ++ ys).take dd = YY := by rw [hYY]; exact List.take_of_length_le (by rw [hYl.1]; exact Nat.le_refl _)
        rw [e] at h
        exact h
      have k1f := obs _ _ _ _ _ HJ19.out
      have k2f := obs _ _ _ _ _ HJ29.out
      have k3f := obs _ _ _ _ _ HJ39.out
      have f5 : ∀ Q, (u9.drewN Q).cell? ⟨bf, 5, none⟩ = some (.slice R3 dd q3) := fun Q => HI9.out.at_ 5 _ rfl
      have HLL := Lib.hid (And.intro hL12 (And.intro hYl hUn))
      clear obs hdd hYY hL1 hL2 hkk hL12 hYl hUn
      have hys : (strOfNums ys).size = d := (strOfNums_size ys).trans HLn.out.1
      have hkkdN : kk ≤ dd := by omega
      have hs1 : (strOfNums L1).size = k1 := (strOfNums_size L1).trans (by have := HJ19.out.len; rw [u8s_len] at this; exact this)
      have hs2 : (strOfNums L2).size = k2 := (strOfNums_size L2).trans (by have := HJ29.out.len; rw [u8s_len] at this; exact this)
      have hov2 : ¬ 9223372036854775807 < k1 + k2 := by omega
      have hov : ¬ 9223372036854775807 < (strOfNums ys).size + (strOfNums ys).size := by omega
      go_wp2_with fail
      clear hu9 hbf
      go_quiet (fail)
      clear k1f k2f k3f kd hT12 hEx
      go_wp2_with fail
      obtain ⟨v0, hv0⟩ : ∃ v0, u9.drewN nq = v0 := ⟨_, rfl⟩
      have f5v : v0.cell? ⟨bf, 5, none⟩ = some (.slice R3 dd q3) := by rw [← hv0]; exact f5 nq
      have HV0 : Hid (Chg none_ u9 v0) := by show Chg _ _ _; rw [← hv0]; exact (Chg.refl none_ u9).drewN nq
      rw [hv0]
      clear f5 hv0
      go_still_tail 8, (by kernel_rfl)
      repeat still_step
      try refine wpStill_nil ?_
      change wpList _ _ _ _ _ v0.drew
      obtain ⟨v1, hv1⟩ : ∃ v1, v0.drew = v1 := ⟨_, rfl⟩
      have HV1 : Hid (Chg none_ u9 v1) := by show Chg _ _ _; rw [← hv1]; exact HV0.out.drew
      rw [hv1]
      clear hv1 f5v HV0
      go_wp2_with fail
      have HZa : Hid (w2.heap.size ≤ u5.heap.size ∧ gf < u5.heap.size ∧ u5.heap.size ≤ u6.heap.size ∧ u6.heap.size ≤ u7.heap.size ∧ u7.heap.size ≤ v1.heap.size ∧ u2.heap.size ≤ u4.heap.size ∧ w4.heap.size ≤ u2.heap.size ∧ u4.heap.size ≤ u5.heap.size ∧ w.heap.size ≤ w2.heap.size ∧ w2.heap.size ≤ gf ∧ gf < w4.heap.size) := by
        have h1 := HZ.out
        have h2 := HZ8.out
        have h3 := HS9.out.2.2.2
        have h4 := HZ6.out
        have h5 := HZ7.out
        have h6 := HZ9.out
        have h7 := HC9.out.size
        have h8 := HV1.out.size
        clear hov hov2 hs1 hs2 hys
        refine ⟨?_, ?_, ?_, ?_, ?_, ?_, ?_, ?_, ?_, ?_, ?_⟩ <;> omega
      have hob3 : ∀ q, obk (.slice (some ⟨gf, 0, none⟩) d c4) = some q → q = gf := fun q hq => by
        simp only [obk] at hq
        split at hq
        · cases hq
        · exact (Option.some.inj hq).symm
      have HOb3 := Lib.hid hob3
      have HOb1 : Hid (∀ q, obk (.slice R1 k1 q1) = some q → u5.heap.size ≤ q ∧ q < u6.heap.size) := HJ1.out.block
      have HOb2 : Hid (∀ q, obk (.slice R2 k2 q2) = some q → u6.heap.size ≤ q ∧ q < u7.heap.size) := HJ2.out.block
      have HOb4 : Hid (∀ q, obk (.slice R3 dd q3) = some q → u7.heap.size ≤ q) := fun q hq => (HJ39.out.block q hq).1
      have H03 : Hid (∃ xs, Ob v1 w2.heap.size 5 (.slice (some ⟨gf, 0, none⟩) d c4) d xs) := by
        obtain ⟨xs, h⟩ := HO8.out
        exact ⟨_, ((h.front (m := d) (by have := HD3.out; omega)).chg HC9.out fun _ _ f => f).chg HV1.out fun _ _ f => f⟩
      clear hob3 hys hs1 hs2 hov2 hov
      refine (apart4 v1 w2.heap.size _ _ _ _ k1 k2 dd d u5.heap.size u6.heap.size u7.heap.size (by have := HZa.out; omega) ⟨_, (HJ19.out.chg HV1.out fun _ _ f => f).low fun k hk => by have := HOb1.out k hk; have := HZa.out; omega⟩ ⟨_, (HJ29.out.chg HV1.out fun _ _ f => f).low fun k hk => by have := HOb2.out k hk; have := HZa.out; omega⟩ ⟨_, (HJ39.out.chg HV1.out fun _ _ f => f).low fun k hk => by have := HOb4.out k hk; have := HZa.out; omega⟩ H03.out (by have := HK1.out; have := HK2.out; have := HLn.out; have := HDd.out; omega) (fun q hq => by have := HOb3.out q hq; have := HZa.out; omega) HOb1.out HOb2.out HOb4.out (by have := HZa.out; omega)).mono ?_
      rintro e v2 ⟨rfl, p⟩
      have HB13 := Lib.hid ((HB12.out.keep (HC9.out.trans HV1.out)).chg p fun k hk hk' h => by
        have := HZa.out
        rcases h with h | h | h | h
        · have := HOb1.out k h; omega
        · have := HOb2.out k h; omega
        · have := HOb4.out k h; omega
        · have := HOb3.out k h; omega)
      have HCx9 : Hid (Chg none_ w v2) := ((HCx8.out.trans HC9.out).trans HV1.out).then p fun k hk h => by
        have := HZa.out
        rcases h with h | h | h | h
        · have := HOb1.out k h; omega
        · have := HOb2.out k h; omega
        · have := HOb4.out k h; omega
        · have := HOb3.out k h; omega
      have hbl5 := HCx9.out.old (Nat.le_refl w.heap.size)
      have HSa : Hid (Sen6 w.heap.size a v2 ∧ w.heap.size ≤ v2.heap.size) := ⟨HS.out.below hbl5, HCx9.out.size⟩
      have HZb : Hid (u4.heap.size ≤ v2.heap.size) := by show u4.heap.size ≤ v2.heap.size; have := p.size; have := HZa.out; omega
      clear p hbl5 HJ1 HJ2 HJ3 HJ19 HJ29 HJ39 HO8 H03 HJ1' HJ1'' HJ2' HO7 HO6 HB12 HB11 HB10
      go_wp2_with fail
      refine (sread_any v2 HSa.out.1 HSa.out.2 HB13.out (fun k hk => by have := HZ.out; have := HZ8.out; omega) (HU2.out.2.trans (HU1.out.2.trans HoB.out.2)) 2000 (by omega)).mono ?_
      rintro e v3 ⟨r4, rfl, j1, j2, j3⟩
      obtain ⟨k3, hk3⟩ : ∃ k3, Nat.min 2000 (srS (srS SB nn) nn).un.length = k3 := ⟨_, rfl⟩
      rw [hk3] at j1
      obtain ⟨R4, q4, rfl, _, _⟩ := j1.slice
      have hun : (srS (srS SB nn) nn).un = YY.drop kk := by
        rw [HU2.out.1, HU1.out.1, HLL.out.2.2, List.drop_drop]
        congr 1
        omega
      have hk3' : (YY.drop kk).take k3 = YY.drop kk := by
        have h1 : Nat.min 2000 (srS (srS SB nn) nn).un.length = min 2000 (srS (srS SB nn) nn).un.length := rfl
        rw [hun, List.length_drop, HLL.out.2.1.1] at h1
        rw [hun, List.length_drop, HLL.out.2.1.1, h1] at hk3
        refine List.take_of_length_le ?_
        rw [List.length_drop, HLL.out.2.1.1]
        have := HLn.out
        have := HDd.out
        omega
      rw [hun, hk3'] at j1
      have k4f : ∀ (Q : Nat) (dst : TypeId), Tryd.prog.underlying dst = some .string → (convert 23 dst (.slice R4 k3 q4)).run Tryd.prog (v3.drewN Q) = .ok (.string (strOfNums (YY.drop kk))) (v3.drewN Q) := fun Q => by
        have hl : (YY.drop kk).length = k3 := by have := j1.len; rw [u8s_len] at this; exact this
        exact run_str (P := Tryd.prog) (w := v3.drewN Q) (c := q4) (A := R4) (n := k3) (xs := YY.drop kk) 23 5 Tryd.underlying23 Tryd.underlying5 hl (Rd.drewN (j1.rd (fun i hi => ints_get (by omega)) rfl) Q)
      have hEx2 : (strOfNums YY).extract kk dd = strOfNums (YY.drop kk) := str_drop YY kk dd HLL.out.2.1.1
      have hbl5 := (HCx9.out.then j3 fun k hk h => by have := HZ.out; have := HZ8.out; omega : Chg none_ w v3).old (Nat.le_refl w.heap.size)
      have HEnd := Lib.hid hbl5
      clear j1 j2 j3 hbl5 hun hk3' hk3
      go_wp2_with fail
      go_quiet (fail)
      go_wp2_with fail
      go_ret
      exact ⟨rfl, below_drewN HEnd.out _⟩
set_option maxRecDepth 100000 in
set_option maxHeartbeats 8000000 in
theorem own_Slo {a : Nat → Addr} (w : World) (hs : Sen6 w.heap.size a w) (ht : Tab w.heap.size w) (A : Option Addr) (d c : Nat) (ys : List Int) (hb : Bs w (.slice A d c) ys) (hlen : d ≤ 400) (nI : Int) (hn : nI < 1) :
    Calls Tryd.prog 8 #[.slice A d c, .int .i64 nI] w fun e w' => e = .returned (.bool true) ∧ Below w.heap.size w w' := by
  have HS := Lib.hid hs
  have HT := Lib.hid ht
  have HBL := Lib.hid hb
  have hl400 : ¬ (400 : Int) < (d : Int) := by omega
  have hb' := hb
  have hlen' := hlen
  have hn1 : nI < 1 := hn
  have hnn : (1 : Nat) ≤ 3 ∧ (3 : Nat) ≤ 400 := by omega
  have HBs := Lib.hid hb'
  have HLn : Hid (ys.length = d ∧ Byt ys ∧ d ≤ 400 ∧ 1 ≤ (3 : Nat) ∧ (3 : Nat) ≤ 400) := by
    obtain ⟨_, _, _, e, h1, h2, _, _⟩ := hb'
    cases e
    exact ⟨h1, h2, hlen', hnn.1, hnn.2⟩
  have hd31 : d ≤ 400 := hlen'
  clear hs ht hlen hlen' hn hb hb' hnn
  go_enter Tryd.func8, Tryd.ntmps8
  go_wp2_with fail
  refine (awake10_any w HS.out HT.out (Nat.le_refl _)).mono ?_
  rintro e w1 ⟨rfl, c1⟩
  have HC1 := Lib.hid c1
  clear c1
  go_wp2_with fail
  have HC1' : Hid (Chg none_ w (w1.alloc (.cells #[.int .i64 1000, .int .i64 1000, .int .i64 1000, .int .i64 0, .int .i64 0, .int .i64 0, .int .i64 0, .int .i64 0] 43))) := HC1.out.alloc _
  refine (open_ok _ (HS.out.below (HC1'.out.old (Nat.le_refl _))) (HT.out.below (HC1'.out.old (Nat.le_refl _))) HC1'.out.size 1000 1000 1000 (by decide) (by decide) (by decide) (by decide) (by decide) (by decide)).mono ?_
  rintro e w2 ⟨ga, gb, m, rfl, p1, p2, p3, p4, p5⟩
  have HC2 : Hid (Chg none_ w w2) := HC1'.out.trans p5
  have hbB : w.heap.size ≤ (w1.alloc (.cells #[.int .i64 1000, .int .i64 1000, .int .i64 1000, .int .i64 0, .int .i64 0, .int .i64 0, .int .i64 0, .int .i64 0] 43)).heap.size := HC1'.out.size
  obtain ⟨lo, hlo⟩ : ∃ lo, (w1.alloc (.cells #[.int .i64 1000, .int .i64 1000, .int .i64 1000, .int .i64 0, .int .i64 0, .int .i64 0, .int .i64 0, .int .i64 0] 43)).heap.size = lo := ⟨_, rfl⟩
  rw [hlo] at p1 p4 hbB
  have HA2 := Lib.hid p1
  have HB2 := Lib.hid p2
  have HM : Hid (w.heap.size ≤ lo ∧ lo ≤ m ∧ m ≤ w2.heap.size) := ⟨hbB, p4, p3⟩
  clear p1 p2 p3 p4 p5 hlo hbB
  obtain ⟨d3, hd3⟩ : ∃ q : Nat, d + 3 = q := ⟨_, rfl⟩
  have HD3 := Lib.hid hd3
  clear hd3
  go_wp2_with (at_builtin; refine wpList_append_bytes rfl (.tmp 39) (.tmp 40) rfl rfl (ob_nil _ w2.heap.size _ _) A d c ys rfl HLn.out.1 ?hr ?hb ?hs ?_)
  case hr => obtain ⟨_, _, _, e, _, _, hr, _⟩ := (HBs.out.chg (HC2.out.alloc _) fun _ _ f => f); cases e; exact hr
  case hb => omega
  case hs => simp
  intro v3 w3 k1 k2 k3
  have k1' : Ob w3 w2.heap.size 5 v3 d (ys.map (Value.int .u8)) := by simpa using k1
  have HC3 : Hid (Chg none_ w2 w3) := ((Chg.refl none_ w2).alloc _).trans ((grow_chg k2).more fun k _ hk => by simp [obk] at hk)
  obtain ⟨A3, c3, rfl, _, _⟩ := k1'.slice
  have H3 : Hid (Ob (w3.alloc (.cells #[.int .u8 1, .int .u8 2, .int .u8 3] 5)) w2.heap.size 5 (.slice A3 d c3) d (ys.map (Value.int .u8))) := k1'.chg ((Chg.refl none_ w3).alloc _) (fun _ _ f => f)
  have HR3 : Hid (Rd (w3.alloc (.cells #[.int .u8 1, .int .u8 2, .int .u8 3] 5)) (some ⟨w3.heap.size, 0, none⟩) 3 fun i => .int .u8 (([1, 2, 3] : List Int).getD i 0)) := Is.rdI [1, 2, 3] (Is.new w3 5 _)
  have h23 : w2.heap.size ≤ (w3.alloc (.cells #[.int .u8 1, .int .u8 2, .int .u8 3] 5)).heap.size := Nat.le_trans HC3.out.size (by simp)
  clear k1 k1' k2 k3
  go_wp2_with (at_builtin; refine wpList_append_bytes rfl (.tmp 41) (.tmp 42) rfl rfl H3.out (some ⟨w3.heap.size, 0, none⟩) 3 3 [1, 2, 3] rfl rfl HR3.out ?hb2 h23 ?_)
  case hb2 => omega
  intro v4 w4 k1 k2 k3
  obtain ⟨X3, hX3⟩ : ∃ X, ys ++ [1, 2, 3] = X := ⟨_, rfl⟩
  have HX3 : Hid (Byt X3 ∧ X3.take d = ys) := by
    refine ⟨by rw [← hX3]; exact HLn.out.2.1.append (by intro z hz; simp at hz; omega), ?_⟩
    rw [← hX3, ← HLn.out.1, List.take_left]
  have k1' : Ob w4 w2.heap.size 5 v4 d3 (u8s X3) := by
    rw [← hX3]
    show Ob _ _ _ _ _ ((ys ++ [1, 2, 3]).map (Value.int .u8))
    rw [List.map_append, ← HD3.out]
    exact k1
  have HC4 : Hid (Chg none_ w2 w4) := (HC3.out.alloc _).then (grow_chg k2) fun k hk hb => by have := (H3.out.block k hb).1; omega
  obtain ⟨A4, c4, rfl, hc4, _⟩ := k1'.slice
  obtain ⟨gf, rfl⟩ := k1'.addr (by have := HD3.out; omega)
  have HF4 := Lib.hid k1'
  have hgf0 := k1'.rdk gf (by have := HD3.out; show (if d3 = 0 then none else some gf) = some gf; rw [if_neg (by omega)])
  have HGf : Hid (w2.heap.size ≤ gf ∧ gf < w4.heap.size) := k1'.block gf hgf0
  have hdc : d ≤ c4 := by have := HD3.out; omega
  have hdcI : (d : Int) ≤ (c4 : Int) := by omega
  have kf : ∀ (dst : TypeId), Tryd.prog.underlying dst = some .string → (convert 23 dst (.slice (some ⟨gf, 0, none⟩) d3 c4)).run Tryd.prog w4 = .ok (.string (strOfNums X3)) w4 := run_str (P := Tryd.prog) (w := w4) (c := c4) (n := d3) (xs := X3) 23 5 Tryd.underlying23 Tryd.underlying5 (by have := HF4.out.len; rw [u8s_len] at this; exact this) (HF4.out.rd (fun i hi => ints_get (by have := HF4.out.len; rw [u8s_len] at this; omega)) rfl)
  clear k1 k1' k2 k3 hX3 h23 hgf0 hc4
  have HV4 : Hid (∀ W, Chg none_ w4 W → BsO W (.slice (some ⟨gf, 0, none⟩) d c4) ys ∧ ∀ k, rdk (.slice (some ⟨gf, 0, none⟩) d c4) = some k → k = gf) := fun W hW => by
    refine ⟨ob_bso (HF4.out.chg hW fun _ _ f => f) (by have := HD3.out; omega) HX3.out.2 HLn.out.2.1, fun k hk => ?_⟩
    simp only [rdk] at hk
    split at hk
    · cases hk
    · exact (Option.some.inj hk).symm
  have HZ : Hid (w.heap.size ≤ lo ∧ lo ≤ m ∧ m ≤ w2.heap.size ∧ w2.heap.size ≤ gf ∧ gf < w4.heap.size ∧ w2.heap.size ≤ w4.heap.size) := ⟨HM.out.1, HM.out.2.1, HM.out.2.2, HGf.out.1, HGf.out.2, HC4.out.size⟩
  have HCw4 : Hid (Chg none_ w w4) := HC2.out.trans HC4.out
  have hnc0 := HCw4.out.old (Nat.le_refl w.heap.size)
  have HS4 : Hid (Sen6 w.heap.size a w4 ∧ Tab w.heap.size w4 ∧ w.heap.size ≤ w4.heap.size) := ⟨HS.out.below hnc0, HT.out.below hnc0, HCw4.out.size⟩
  clear hnc0
  go_wp2_with fail
  refine (write_any w4 HS4.out.1 (T := fun k => (lo ≤ k ∧ k < m) ∨ w4.heap.size ≤ k) ((HA2.out.keep HC4.out).wide fun k hk => .inl hk) (fun k hk => .inr hk) _ ys (HV4.out w4 (Chg.refl _ _)).1 (fun k hk => by have e := (HV4.out w4 (Chg.refl _ _)).2 k hk; have := HZ.out; exact ⟨by omega, fun h => by omega⟩) (by have := HLn.out; omega)).mono ?_
  rintro e u1 ⟨rfl, p1, p2⟩
  have HU1 := Lib.hid p1
  have HCx1 : Hid (Chg none_ w u1) := HCw4.out.then p2 fun k hk h => by have := HZ.out; omega
  have HX1 : Hid (Chg (fun k => (lo ≤ k ∧ k < m) ∨ w4.heap.size ≤ k) w4 u1) := p2
  have HS5 : Hid (Sen6 w.heap.size a u1 ∧ Tab w.heap.size u1 ∧ w.heap.size ≤ u1.heap.size ∧ w4.heap.size ≤ u1.heap.size) := by
    have hb := p2.below (B := w.heap.size) (fun k _ h => by have := HZ.out; have := HS4.out.2.2; omega) HS4.out.2.2
    exact ⟨HS4.out.1.below hb, HS4.out.2.1.below hb, Nat.le_trans HS4.out.2.2 p2.size, p2.size⟩
  have HF5 : Hid (Ob u1 w2.heap.size 5 (.slice (some ⟨gf, 0, none⟩) d3 c4) d3 (u8s X3)) := HF4.out.chg p2 fun k hk h => by
    have e : k = gf := by have := HF4.out.rdk gf (by have := HD3.out; show (if d3 = 0 then none else some gf) = some gf; rw [if_neg (by omega)]); rw [this] at hk; exact (Option.some.inj hk).symm
    have := HZ.out; omega
  have HB5 := Lib.hid ((HB2.out.keep HC4.out).chg p2 fun k hk hk' h => by have := HZ.out; omega)
  clear p1 p2 kf
  go_wp2_with fail
  refine (write_any u1 HS5.out.1 (T := fun k => (lo ≤ k ∧ k < m) ∨ w4.heap.size ≤ k) HU1.out (fun k hk => .inr (by have := HS5.out.2.2.2; omega)) _ ys (ob_bso HF5.out (by have := HD3.out; omega) HX3.out.2 HLn.out.2.1) (fun k hk => by have e := (HV4.out w4 (Chg.refl _ _)).2 k hk; have := HZ.out; have := HS5.out.2.2.2; exact ⟨by omega, fun h => by omega⟩) (by have := HLn.out; omega)).mono ?_
  rintro e u2 ⟨rfl, p1, p2⟩
  have HA6 := Lib.hid p1.cut
  have HCx2 : Hid (Chg none_ w u2) := HCx1.out.then p2 fun k hk h => by have := HZ.out; omega
  have HS6 : Hid (Sen6 w.heap.size a u2 ∧ Tab w.heap.size u2 ∧ w.heap.size ≤ u2.heap.size ∧ w4.heap.size ≤ u2.heap.size) := by
    have hb := p2.below (B := w.heap.size) (fun k _ h => by have := HZ.out; have := HS4.out.2.2; omega) HS5.out.2.2.1
    exact ⟨HS5.out.1.below hb, HS5.out.2.1.below hb, Nat.le_trans HS5.out.2.2.1 p2.size, Nat.le_trans HS5.out.2.2.2 p2.size⟩
  have hgfk : ∀ k, obk (.slice (some ⟨gf, 0, none⟩) d3 c4) = some k → k = gf := fun k hk => by
    have := HF4.out.rdk gf (by have := HD3.out; show (if d3 = 0 then none else some gf) = some gf; rw [if_neg (by omega)])
    rw [this] at hk
    exact (Option.some.inj hk).symm
  have HGk := Lib.hid hgfk
  have HF6 : Hid (Ob u2 w2.heap.size 5 (.slice (some ⟨gf, 0, none⟩) d3 c4) d3 (u8s X3)) := HF5.out.chg p2 fun k hk h => by have := HGk.out k hk; have := HZ.out; omega
  have HB6 := Lib.hid (HB5.out.chg p2 fun k hk hk' h => by have := HZ.out; omega)
  clear p1 p2 hgfk
  go_wp2_with fail
  refine (sarrive_any u2 HS6.out.1 HS6.out.2.1 HS6.out.2.2.1 (T := fun k => (m ≤ k ∧ k < w2.heap.size) ∨ u2.heap.size ≤ k) (HB6.out.wide fun k hk => .inl hk) (fun k hk => by have := HZ.out; have := HS6.out; omega) (fun k hk => .inr hk) _ ys (ob_bso HF6.out (by have := HD3.out; omega) HX3.out.2 HLn.out.2.1) (fun k hk => by have e := (HV4.out w4 (Chg.refl _ _)).2 k hk; have := HZ.out; have := HS6.out.2.2.2; exact ⟨by omega, fun h => by omega⟩) (by have := HLn.out; omega) false).mono ?_
  rintro e u3 ⟨rfl, p1, p2⟩
  have HU3 := Lib.hid p1
  have HCx3 : Hid (Chg none_ w u3) := HCx2.out.then p2 fun k hk h => by have := HZ.out; have := HS6.out; omega
  have HS7 : Hid (Sen6 w.heap.size a u3 ∧ Tab w.heap.size u3 ∧ w.heap.size ≤ u3.heap.size ∧ u2.heap.size ≤ u3.heap.size) := by
    have hb := p2.below (B := w.heap.size) (fun k _ h => by have := HZ.out; have := HS6.out; omega) HS6.out.2.2.1
    exact ⟨HS6.out.1.below hb, HS6.out.2.1.below hb, Nat.le_trans HS6.out.2.2.1 p2.size, p2.size⟩
  have HF7 : Hid (Ob u3 w2.heap.size 5 (.slice (some ⟨gf, 0, none⟩) d3 c4) d3 (u8s X3)) := HF6.out.chg p2 fun k hk h => by have := HGk.out k hk; have := HZ.out; have := HS6.out; omega
  have HA7 := Lib.hid (HA6.out.chg p2 fun k hk hk' h => by have := HZ.out; omega)
  clear p1 p2
  go_wp2_with fail
  refine (sarrive_any u3 HS7.out.1 HS7.out.2.1 HS7.out.2.2.1 (T := fun k => (m ≤ k ∧ k < w2.heap.size) ∨ u2.heap.size ≤ k) HU3.out (fun k hk => by have := HZ.out; have := HS6.out; omega) (fun k hk => .inr (by have := HS7.out.2.2.2; omega)) _ ys (ob_bso HF7.out (by have := HD3.out; omega) HX3.out.2 HLn.out.2.1) (fun k hk => by have e := (HV4.out w4 (Chg.refl _ _)).2 k hk; have := HZ.out; have := HS6.out.2.2.2; have := HS7.out.2.2.2; exact ⟨by omega, fun h => by omega⟩) (by have := HLn.out; omega) false).mono ?_
  rintro e u4 ⟨rfl, p1, p2⟩
  have HB8 := Lib.hid p1.cut
  have HCx4 : Hid (Chg none_ w u4) := HCx3.out.then p2 fun k hk h => by have := HZ.out; have := HS6.out; omega
  have HS8 : Hid (Sen6 w.heap.size a u4 ∧ Tab w.heap.size u4 ∧ w.heap.size ≤ u4.heap.size ∧ u2.heap.size ≤ u4.heap.size) := by
    have hb := p2.below (B := w.heap.size) (fun k _ h => by have := HZ.out; have := HS6.out; omega) HS7.out.2.2.1
    exact ⟨HS7.out.1.below hb, HS7.out.2.1.below hb, Nat.le_trans HS7.out.2.2.1 p2.size, Nat.le_trans HS7.out.2.2.2 p2.size⟩
  have HF8 : Hid (Ob u4 w2.heap.size 5 (.slice (some ⟨gf, 0, none⟩) d3 c4) d3 (u8s X3)) := HF7.out.chg p2 fun k hk h => by have := HGk.out k hk; have := HZ.out; have := HS6.out; omega
  have HA8 := Lib.hid (HA7.out.chg p2 fun k hk hk' h => by have := HZ.out; omega)
  have kf : ∀ (dst : TypeId), Tryd.prog.underlying dst = some .string → (convert 23 dst (.slice (some ⟨gf, 0, none⟩) d3 c4)).run Tryd.prog u4 = .ok (.string (strOfNums X3)) u4 := run_str (P := Tryd.prog) (w := u4) (c := c4) (n := d3) (xs := X3) 23 5 Tryd.underlying23 Tryd.underlying5 (by have := HF8.out.len; rw [u8s_len] at this; exact this) (HF8.out.rd (fun i hi => ints_get (by have := HF8.out.len; rw [u8s_len] at this; omega)) rfl)
  clear p1 p2
  go_wp2_with fail
  have hd30 : 0 < d3 := by have := HD3.out; omega
  have HZ8 : Hid (w4.heap.size ≤ u2.heap.size ∧ u2.heap.size ≤ u4.heap.size) := ⟨HS6.out.2.2.2, HS8.out.2.2.2⟩
  obtain ⟨SA, hSA⟩ : ∃ SA, wrS (wrS (Sm.new 7 true 1000 1000 1000) ys) ys = SA := ⟨_, rfl⟩
  obtain ⟨SB, hSB⟩ : ∃ SB, avS (avS (Sm.new 7 false 1000 1000 1000) ys false) ys false = SB := ⟨_, rfl⟩
  have hoA := own_A HLn.out.1 HLn.out.2.2.1
  have hoB := own_B HLn.out.1 HLn.out.2.2.1
  rw [hSA] at hoA HA8
  rw [hSB] at hoB HB8
  have HoA := Lib.hid hoA
  have HoB := Lib.hid hoB
  clear kf hSA hSB hoA hoB HA6 HA7 HU1 HU3 HB5 HB6 HF5 HF6 HF7 HA2 HB2
  go_loopw [10] (fun x wr => ∃ i : Nat, x = .int .i64 (i : Int) ∧ i ≤ d ∧ (∃ xs, Ob wr w2.heap.size 5 (.slice (some ⟨gf, 0, none⟩) d3 c4) d3 xs) ∧ Chg (fun k => k = gf) u4 wr) (fun x _ => d - (intOf x).toNat)
  case atStart => exact ⟨0, rfl, Nat.zero_le _, ⟨_, HF8.out⟩, Chg.refl _ _⟩
  case round =>
    obtain ⟨i, rfl, hi, ⟨xs3, hO⟩, hC⟩ := hrel
    have HO := Lib.hid hO
    have HCg := Lib.hid hC
    clear hO hC
    by_cases hlt2 : i < d
    · have hid3 : i < d3 := by have := HD3.out; omega
      obtain ⟨u, hu⟩ : ∃ u, xs3[i]? = some u := ⟨_, List.getElem?_eq_getElem (by rw [HO.out.len]; exact hid3)⟩
      have hcc : wr.cell? ⟨gf, i, none⟩ = some u := (HO.out.cellAt i hid3).trans hu
      have hfr : wr.frozen? ⟨gf, i, none⟩ = false := HO.out.frozenAt hd30 i
      clear hu
      go_wp2
      go_roundw
      case rel => exact ⟨i + 1, by go_num, by omega, ⟨_, HO.out.set hd30 i _⟩, HCg.out.setCell (fun _ => rfl) _⟩
      case measure => simp [intOf]; omega
    · obtain ⟨u5, rfl⟩ : ∃ y, y = wr := ⟨wr, rfl⟩
      have HA9 := Lib.hid (HA8.out.chg HCg.out fun k hk hk' h => by have := HZ.out; omega)
      have HB9 := Lib.hid (HB8.out.chg HCg.out fun k hk hk' h => by have := HZ.out; have := HZ8.out; omega)
      have HCx5 : Hid (Chg none_ w u5) := HCx4.out.then HCg.out fun k hk h => by have := HZ.out; omega
      have hbl5 := HCx5.out.old (Nat.le_refl w.heap.size)
      have HS9 : Hid (Sen6 w.heap.size a u5 ∧ Tab w.heap.size u5 ∧ w.heap.size ≤ u5.heap.size ∧ u4.heap.size ≤ u5.heap.size) := ⟨HS.out.below hbl5, HT.out.below hbl5, HCx5.out.size, HCg.out.size⟩
      clear hbl5
      go_wp2_with fail
      refine (sread_any u5 HS9.out.1 HS9.out.2.2.1 HB9.out (fun k hk => by have := HZ.out; have := HZ8.out; omega) HoB.out.2 3 (by have := HLn.out; omega)).mono ?_
      rintro e u6 ⟨r1, rfl, j1, j2, j3⟩
      obtain ⟨k1, hk1⟩ : ∃ k1, Nat.min 3 SB.un.length = k1 := ⟨_, rfl⟩
      have hU1 := srS_un SB 3
      rw [hk1] at j1 hU1
      obtain ⟨R1, q1, rfl, _, _⟩ := j1.slice
      have HJ1 := Lib.hid j1
      have HK1 : Hid (k1 ≤ SB.un.length ∧ k1 ≤ 3) := by obtain ⟨x1, x2, _⟩ := nat_min hk1.symm; exact ⟨x2, x1⟩
      have HU1 : Hid ((srS SB 3).un = SB.un.drop k1 ∧ (srS SB 3).rs = SB.rs) := hU1
      have HB10 := Lib.hid j2
      have HA10 := Lib.hid (HA9.out.chg j3 fun k hk hk' h => by have := HZ.out; have := HZ8.out; omega)
      have HCx6 : Hid (Chg none_ w u6) := HCx5.out.then j3 fun k hk h => by have := HZ.out; have := HZ8.out; omega
      have HO6 : Hid (∃ xs, Ob u6 w2.heap.size 5 (.slice (some ⟨gf, 0, none⟩) d3 c4) d3 xs) := ⟨_, HO.out.chg j3 fun k hk h => by have := HGk.out k hk; have := HZ.out; have := HZ8.out; omega⟩
      have HZ6 : Hid (u5.heap.size ≤ u6.heap.size) := j3.size
      have hbl5 := HCx6.out.old (Nat.le_refl w.heap.size)
      have HS10 : Hid (Sen6 w.heap.size a u6 ∧ Tab w.heap.size u6 ∧ w.heap.size ≤ u6.heap.size) := ⟨HS.out.below hbl5, HT.out.below hbl5, HCx6.out.size⟩
      clear j1 j2 j3 hk1 hU1 hbl5
      go_wp2_with fail
      refine (sread_any u6 HS10.out.1 HS10.out.2.2 HB10.out (fun k hk => by have := HZ.out; have := HZ8.out; omega) (HU1.out.2.trans HoB.out.2) 3 (by have := HLn.out; omega)).mono ?_
      rintro e u7 ⟨r2, rfl, j1, j2, j3⟩
      obtain ⟨k2, hk2⟩ : ∃ k2, Nat.min 3 (srS SB 3).un.length = k2 := ⟨_, rfl⟩
      have hU2 := srS_un (srS SB 3) 3
      rw [hk2] at j1 hU2
      obtain ⟨R2, q2, rfl, _, _⟩ := j1.slice
      have HJ2 := Lib.hid j1
      have HK2 : Hid (k2 ≤ (srS SB 3).un.length ∧ k2 ≤ 3) := by obtain ⟨x1, x2, _⟩ := nat_min hk2.symm; exact ⟨x2, x1⟩
      have HU2 : Hid ((srS (srS SB 3) 3).un = (srS SB 3).un.drop k2 ∧ (srS (srS SB 3) 3).rs = (srS SB 3).rs) := hU2
      have HB11 := Lib.hid j2
      have HA11 := Lib.hid (HA10.out.chg j3 fun k hk hk' h => by have := HZ.out; have := HZ8.out; omega)
      have HCx7 : Hid (Chg none_ w u7) := HCx6.out.then j3 fun k hk h => by have := HZ.out; have := HZ8.out; omega
      have HO7 : Hid (∃ xs, Ob u7 w2.heap.size 5 (.slice (some ⟨gf, 0, none⟩) d3 c4) d3 xs) := by
        obtain ⟨xs, h⟩ := HO6.out
        exact ⟨_, h.chg j3 fun k hk h => by have := HGk.out k hk; have := HZ.out; have := HZ8.out; omega⟩
      have HJ1' := Lib.hid (HJ1.out.chg j3 fun k hk h => by have := (HJ1.out.block k hk).1; have := HS9.out; omega)
      have HZ7 : Hid (u6.heap.size ≤ u7.heap.size) := j3.size
      have hbl5 := HCx7.out.old (Nat.le_refl w.heap.size)
      have HS11 : Hid (Sen6 w.heap.size a u7 ∧ Tab w.heap.size u7 ∧ w.heap.size ≤ u7.heap.size) := ⟨HS.out.below hbl5, HT.out.below hbl5, HCx7.out.size⟩
      clear j1 j2 j3 hk2 hU2 hbl5
      go_wp2_with fail
      refine (sframe_any u7 HS11.out.1 HS11.out.2.1 HS11.out.2.2 HA11.out (fun k hk => by have := HZ.out; omega)).mono ?_
      rintro e u8 ⟨x2, x3, x4, r3, ok, rfl, j1, j2, j3⟩
      rw [HoA.out.1, HoA.out.2] at j1
      obtain ⟨R3, q3, rfl, _, _⟩ := j1.slice
      have HJ3 := Lib.hid j1
      have HB12 := Lib.hid (HB11.out.chg j3 fun k hk hk' h => by have := HZ.out; have := HZ8.out; omega)
      have HCx8 : Hid (Chg none_ w u8) := HCx7.out.then j3 fun k hk h => by have := HZ.out; omega
      have HO8 : Hid (∃ xs, Ob u8 w2.heap.size 5 (.slice (some ⟨gf, 0, none⟩) d3 c4) d3 xs) := by
        obtain ⟨xs, h⟩ := HO7.out
        exact ⟨_, h.chg j3 fun k hk h => by have := HGk.out k hk; have := HZ.out; omega⟩
      have HJ1'' := Lib.hid (HJ1'.out.chg j3 fun k hk h => by have := (HJ1.out.block k hk).1; have := HS9.out; have := HZ8.out; omega)
      have HJ2' := Lib.hid (HJ2.out.chg j3 fun k hk h => by have := (HJ2.out.block k hk).1; have := HS9.out; have := HZ8.out; have := HZ6.out; omega)
      have HZ9 : Hid (u7.heap.size ≤ u8.heap.size) := j3.size
      clear j1 j2 j3
      obtain ⟨dd, hdd⟩ : ∃ dd, d + d = dd := ⟨_, rfl⟩
      have HDd := Lib.hid hdd
      rw [hdd] at HJ3 ⊢
      obtain ⟨u9, hu9⟩ : ∃ y, u8.alloc (.cells #[.int .u8 0, .int .u8 0, .int .u16 x2, .int .u32 x3, .int .u32 x4, .slice R3 dd q3] 72) = y := ⟨_, rfl⟩
      obtain ⟨bf, hbf⟩ : ∃ y, u8.heap.size = y := ⟨_, rfl⟩
      have HC9 : Hid (Chg none_ u8 u9) := by show Chg _ _ _; rw [← hu9]; exact (Chg.refl none_ u8).alloc _
      have HI9 : Hid (Is u9 bf 72 #[.int .u8 0, .int .u8 0, .int .u16 x2, .int .u32 x3, .int .u32 x4, .slice R3 dd q3]) := by show Is _ _ _ _; rw [← hu9, ← hbf]; exact Is.new u8 _ _
      have HBf := Lib.hid hbf
      obtain ⟨YY, hYY⟩ : ∃ YY, ys ++ ys = YY := ⟨_, rfl⟩
      obtain ⟨L1, hL1⟩ : ∃ L, SB.un.take k1 = L := ⟨_, rfl⟩
      obtain ⟨L2, hL2⟩ : ∃ L, (srS SB 3).un.take k2 = L := ⟨_, rfl⟩
      obtain ⟨kk, hkk⟩ : ∃ kk, k1 + k2 = kk := ⟨_, rfl⟩
      have hYl : YY.length = dd ∧ Byt YY := by
        have hl := HLn.out.1
        have hb := HLn.out.2.1
        exact ⟨by rw [← hYY, List.length_append]; omega, by rw [← hYY]; exact hb.append hb⟩
      have hUn : SB.un = YY := by rw [HoB.out.1, hYY]
      have hL12 : L1 ++ L2 = YY.take kk ∧ kk ≤ dd := by
        have e2 := HU1.out.1
        have l1 := HK1.out.1
        have l2 := HK2.out.1
        rw [e2, List.length_drop] at l2
        rw [hUn] at l1 l2 e2
        refine ⟨?_, by have := hYl.1; omega⟩
        rw [← hL1, ← hL2, e2, hUn, ← List.take_add, hkk]
      have hTW : strOfNums ys ++ strOfNums ys = strOfNums YY := by rw [← str_app, hYY]
      have hT12 : strOfNums L1 ++ strOfNums L2 = strOfNums (YY.take kk) := by rw [← str_app, hL12.1]
      have hEx : (strOfNums YY).extract 0 kk = strOfNums (YY.take kk) := str_take YY kk
      have hSz : (strOfNums YY).size = dd := by rw [strOfNums_size]; exact hYl.1
      have hkkI : (k1 : Int) + (k2 : Int) = (kk : Int) := by omega
      have hkkd : (kk : Int) ≤ (dd : Int) := by have := hL12.2; omega
      have hkk0 : (0 : Int) ≤ (kk : Int) := by omega
      have hkk8 : kk ≤ 800 := by have := hL12.2; have := HLn.out; omega
      have hkkw : IntKind.i64.wrap (kk : Int) = (kk : Int) := IntWalk.i64_in _ (by omega)
      have kd : ∀ (dst : TypeId), Tryd.prog.underlying dst = some .string → (convert 23 dst (.slice A d c)).run Tryd.prog u9 = .ok (.string (strOfNums ys)) u9 := by
        have h := HBs.out.chg (HCx8.out.trans HC9.out) fun _ _ f => f
        obtain ⟨_, _, _, e, h1, _, h3, _⟩ := h
        cases e
        exact run_str (P := Tryd.prog) (w := u9) (c := c) (n := d) (xs := ys) 23 5 Tryd.underlying23 Tryd.underlying5 h1 h3
      have obs : ∀ (base : Nat) (A : Option Addr) (n c : Nat) (xs : List Int), Ob u9 base 5 (.slice A n c) n (u8s xs) → ∀ (Q : Nat) (dst : TypeId), Tryd.prog.underlying dst = some .string → (convert 23 dst (.slice A n c)).run Tryd.prog (u9.drewN Q) = .ok (.string (strOfNums xs)) (u9.drewN Q) := fun base A n c xs h Q => by
        have hl : xs.length = n := by have := h.len; rw [u8s_len] at this; exact this
        exact run_str (P := Tryd.prog) (w := u9.drewN Q) (c := c) (A := A) (n := n) (xs := xs) 23 5 Tryd.underlying23 Tryd.underlying5 hl (Rd.drewN (h.rd (fun i hi => ints_get (by omega)) rfl) Q)
      have HJ19 : Hid (Ob u9 u5.heap.size 5 (.slice R1 k1 q1) k1 (u8s L1)) := by show Ob _ _ _ _ _ _; rw [← hL1]; exact HJ1''.out.chg HC9.out fun _ _ f => f
      have HJ29 : Hid (Ob u9 u6.heap.size 5 (.slice R2 k2 q2) k2 (u8s L2)) := by show Ob _ _ _ _ _ _; rw [← hL2]; exact HJ2'.out.chg HC9.out fun _ _ f => f
      have HJ39 : Hid (Ob u9 u7.heap.size 5 (.slice R3 dd q3) dd (u8s YY)) := by
        have h := HJ3.out.chg HC9.out fun _ _ f => f
        have e : (ys ++ ys).take dd = YY := by rw [hYY]; exact List.take_of_length_le (by rw [hYl.1]; exact Nat.le_refl _)
        rw [e] at h
        exact h
      have k1f := obs _ _ _ _ _ HJ19.out
      have k2f := obs _ _ _ _ _ HJ29.out
      have k3f := obs _ _ _ _ _ HJ39.out
      have f5 : ∀ Q, (u9.drewN Q).cell? ⟨bf, 5, none⟩ = some (.slice R3 dd q3) := fun Q => HI9.out.at_ 5 _ rfl
      have HLL := Lib.hid (And.intro hL12 (And.intro hYl hUn))
      clear obs hdd hYY hL1 hL2 hkk hL12 hYl hUn
      have hys : (strOfNums ys).size = d := (strOfNums_size ys).trans HLn.out.1
      have hkkdN : kk ≤ dd := by omega
      have hs1 : (strOfNums L1).size = k1 := (strOfNums_size L1).trans (by have := HJ19.out.len; rw [u8s_len] at this; exact this)
      have hs2 : (strOfNums L2).size = k2 := (strOfNums_size L2).trans (by have := HJ29.out.len; rw [u8s_len] at this; exact this)
      have hov2 : ¬ 9223372036854775807 < k1 + k2 := by omega
      have hov : ¬ 9223372036854775807 < (strOfNums ys).size + (strOfNums ys).size := by omega
      go_wp2_with fail
      clear hu9 hbf
      go_quiet (fail)
      clear k1f k2f k3f kd hT12 hEx
      go_wp2_with fail
      obtain ⟨v0, hv0⟩ : ∃ v0, u9.drewN nq = v0 := ⟨_, rfl⟩
      have f5v : v0.cell? ⟨bf, 5, none⟩ = some (.slice R3 dd q3) := by rw [← hv0]; exact f5 nq
      have HV0 : Hid (Chg none_ u9 v0) := by show Chg _ _ _; rw [← hv0]; exact (Chg.refl none_ u9).drewN nq
      rw [hv0]
      clear f5 hv0
      go_still_tail 8, (by kernel_rfl)
      repeat still_step
      try refine wpStill_nil ?_
      change wpList _ _ _ _ _ v0.drew
      obtain ⟨v1, hv1⟩ : ∃ v1, v0.drew = v1 := ⟨_, rfl⟩
      have HV1 : Hid (Chg none_ u9 v1) := by show Chg _ _ _; rw [← hv1]; exact HV0.out.drew
      rw [hv1]
      clear hv1 f5v HV0
      go_wp2_with fail
      have HZa : Hid (w2.heap.size ≤ u5.heap.size ∧ gf < u5.heap.size ∧ u5.heap.size ≤ u6.heap.size ∧ u6.heap.size ≤ u7.heap.size ∧ u7.heap.size ≤ v1.heap.size ∧ u2.heap.size ≤ u4.heap.size ∧ w4.heap.size ≤ u2.heap.size ∧ u4.heap.size ≤ u5.heap.size ∧ w.heap.size ≤ w2.heap.size ∧ w2.heap.size ≤ gf ∧ gf < w4.heap.size) := by
        have h1 := HZ.out
        have h2 := HZ8.out
        have h3 := HS9.out.2.2.2
        have h4 := HZ6.out
        have h5 := HZ7.out
        have h6 := HZ9.out
        have h7 := HC9.out.size
        have h8 := HV1.out.size
        clear hov hov2 hs1 hs2 hys
        refine ⟨?_, ?_, ?_, ?_, ?_, ?_, ?_, ?_, ?_, ?_, ?_⟩ <;> omega
      have hob3 : ∀ q, obk (.slice (some ⟨gf, 0, none⟩) d c4) = some q → q = gf := fun q hq => by
        simp only [obk] at hq
        split at hq
        · cases hq
        · exact (Option.some.inj hq).symm
      have HOb3 := Lib.hid hob3
      have HOb1 : Hid (∀ q, obk (.slice R1 k1 q1) = some q → u5.heap.size ≤ q ∧ q < u6.heap.size) := HJ1.out.block
      have HOb2 : Hid (∀ q, obk (.slice R2 k2 q2) = some q → u6.heap.size ≤ q ∧ q < u7.heap.size) := HJ2.out.block
      have HOb4 : Hid (∀ q, obk (.slice R3 dd q3) = some q → u7.heap.size ≤ q) := fun q hq => (HJ39.out.block q hq).1
      have H03 : Hid (∃ xs, Ob v1 w2.heap.size 5 (.slice (some ⟨gf, 0, none⟩) d c4) d xs) := by
        obtain ⟨xs, h⟩ := HO8.out
        exact ⟨_, ((h.front (m := d) (by have := HD3.out; omega)).chg HC9.out fun _ _ f => f).chg HV1.out fun _ _ f => f⟩
      clear hob3 hys hs1 hs2 hov2 hov
      refine (apart4 v1 w2.heap.size _ _ _ _ k1 k2 dd d u5.heap.size u6.heap.size u7.heap.size (by have := HZa.out; omega) ⟨_, (HJ19.out.chg HV1.out fun _ _ f => f).low fun k hk => by have := HOb1.out k hk; have := HZa.out; omega⟩ ⟨_, (HJ29.out.chg HV1.out fun _ _ f => f).low fun k hk => by have := HOb2.out k hk; have := HZa.out; omega⟩ ⟨_, (HJ39.out.chg HV1.out fun _ _ f => f).low fun k hk => by have := HOb4.out k hk; have := HZa.out; omega⟩ H03.out (by have := HK1.out; have := HK2.out; have := HLn.out; have := HDd.out; omega) (fun q hq => by have := HOb3.out q hq; have := HZa.out; omega) HOb1.out HOb2.out HOb4.out (by have := HZa.out; omega)).mono ?_
      rintro e v2 ⟨rfl, p⟩
      have HB13 := Lib.hid ((HB12.out.keep (HC9.out.trans HV1.out)).chg p fun k hk hk' h => by
        have := HZa.out
        rcases h with h | h | h | h
        · have := HOb1.out k h; omega
        · have := HOb2.out k h; omega
        · have := HOb4.out k h; omega
        · have := HOb3.out k h; omega)
      have HCx9 : Hid (Chg none_ w v2) := ((HCx8.out.trans HC9.out).trans HV1.out).then p fun k hk h => by
        have := HZa.out
        rcases h with h | h | h | h
        · have := HOb1.out k h; omega
        · have := HOb2.out k h; omega
        · have := HOb4.out k h; omega
        · have := HOb3.out k h; omega
      have hbl5 := HCx9.out.old (Nat.le_refl w.heap.size)
      have HSa : Hid (Sen6 w.heap.size a v2 ∧ w.heap.size ≤ v2.heap.size) := ⟨HS.out.below hbl5, HCx9.out.size⟩
      have HZb : Hid (u4.heap.size ≤ v2.heap.size) := by show u4.heap.size ≤ v2.heap.size; have := p.size; have := HZa.out; omega
      clear p hbl5 HJ1 HJ2 HJ3 HJ19 HJ29 HJ39 HO8 H03 HJ1' HJ1'' HJ2' HO7 HO6 HB12 HB11 HB10
      go_wp2_with fail
      refine (sread_any v2 HSa.out.1 HSa.out.2 HB13.out (fun k hk => by have := HZ.out; have := HZ8.out; omega) (HU2.out.2.trans (HU1.out.2.trans HoB.out.2)) 2000 (by omega)).mono ?_
      rintro e v3 ⟨r4, rfl, j1, j2, j3⟩
      obtain ⟨k3, hk3⟩ : ∃ k3, Nat.min 2000 (srS (srS SB 3) 3).un.length = k3 := ⟨_, rfl⟩
      rw [hk3] at j1
      obtain ⟨R4, q4, rfl, _, _⟩ := j1.slice
      have hun : (srS (srS SB 3) 3).un = YY.drop kk := by
        rw [HU2.out.1, HU1.out.1, HLL.out.2.2, List.drop_drop]
        congr 1
        omega
      have hk3' : (YY.drop kk).take k3 = YY.drop kk := by
        have h1 : Nat.min 2000 (srS (srS SB 3) 3).un.length = min 2000 (srS (srS SB 3) 3).un.length := rfl
        rw [hun, List.length_drop, HLL.out.2.1.1] at h1
        rw [hun, List.length_drop, HLL.out.2.1.1, h1] at hk3
        refine List.take_of_length_le ?_
        rw [List.length_drop, HLL.out.2.1.1]
        have := HLn.out
        have := HDd.out
        omega
      rw [hun, hk3'] at j1
      have k4f : ∀ (Q : Nat) (dst : TypeId), Tryd.prog.underlying dst = some .string → (convert 23 dst (.slice R4 k3 q4)).run Tryd.prog (v3.drewN Q) = .ok (.string (strOfNums (YY.drop kk))) (v3.drewN Q) := fun Q => by
        have hl : (YY.drop kk).length = k3 := by have := j1.len; rw [u8s_len] at this; exact this
        exact run_str (P := Tryd.prog) (w := v3.drewN Q) (c := q4) (A := R4) (n := k3) (xs := YY.drop kk) 23 5 Tryd.underlying23 Tryd.underlying5 hl (Rd.drewN (j1.rd (fun i hi => ints_get (by omega)) rfl) Q)
      have hEx2 : (strOfNums YY).extract kk dd = strOfNums (YY.drop kk) := str_drop YY kk dd HLL.out.2.1.1
      have hbl5 := (HCx9.out.then j3 fun k hk h => by have := HZ.out; have := HZ8.out; omega : Chg none_ w v3).old (Nat.le_refl w.heap.size)
      have HEnd := Lib.hid hbl5
      clear j1 j2 j3 hbl5 hun hk3' hk3
      go_wp2_with fail
      go_quiet (fail)
      go_wp2_with fail
      go_ret
      exact ⟨rfl, below_drewN HEnd.out _⟩
set_option maxRecDepth 100000 in
set_option maxHeartbeats 8000000 in
theorem own_Shi {a : Nat → Addr} (w : World) (hs : Sen6 w.heap.size a w) (ht : Tab w.heap.size w) (A : Option Addr) (d c : Nat) (ys : List Int) (hb : Bs w (.slice A d c) ys) (hlen : d ≤ 400) (nI : Int) (hn : 400 < nI) :
    Calls Tryd.prog 8 #[.slice A d c, .int .i64 nI] w fun e w' => e = .returned (.bool true) ∧ Below w.heap.size w w' := by
  have HS := Lib.hid hs
  have HT := Lib.hid ht
  have HBL := Lib.hid hb
  have hl400 : ¬ (400 : Int) < (d : Int) := by omega
  have hb' := hb
  have hlen' := hlen
  have hn1 : ¬ nI < 1 := by omega
  have hn2 : 400 < nI := hn
  have hnn : (1 : Nat) ≤ 3 ∧ (3 : Nat) ≤ 400 := by omega
  have HBs := Lib.hid hb'
  have HLn : Hid (ys.length = d ∧ Byt ys ∧ d ≤ 400 ∧ 1 ≤ (3 : Nat) ∧ (3 : Nat) ≤ 400) := by
    obtain ⟨_, _, _, e, h1, h2, _, _⟩ := hb'
    cases e
    exact ⟨h1, h2, hlen', hnn.1, hnn.2⟩
  have hd31 : d ≤ 400 := hlen'
  clear hs ht hlen hlen' hn hb hb' hnn
  go_enter Tryd.func8, Tryd.ntmps8
  go_wp2_with fail
  refine (awake10_any w HS.out HT.out (Nat.le_refl _)).mono ?_
  rintro e w1 ⟨rfl, c1⟩
  have HC1 := Lib.hid c1
  clear c1
  go_wp2_with fail
  have HC1' : Hid (Chg none_ w (w1.alloc (.cells #[.int .i64 1000, .int .i64 1000, .int .i64 1000, .int .i64 0, .int .i64 0, .int .i64 0, .int .i64 0, .int .i64 0] 43))) := HC1.out.alloc _
  refine (open_ok _ (HS.out.below (HC1'.out.old (Nat.le_refl _))) (HT.out.below (HC1'.out.old (Nat.le_refl _))) HC1'.out.size 1000 1000 1000 (by decide) (by decide) (by decide) (by decide) (by decide) (by decide)).mono ?_
  rintro e w2 ⟨ga, gb, m, rfl, p1, p2, p3, p4, p5⟩
  have HC2 : Hid (Chg none_ w w2) := HC1'.out.trans p5
  have hbB : w.heap.size ≤ (w1.alloc (.cells #[.int .i64 1000, .int .i64 1000, .int .i64 1000, .int .i64 0, .int .i64 0, .int .i64 0, .int .i64 0, .int .i64 0] 43)).heap.size := HC1'.out.size
  obtain ⟨lo, hlo⟩ : ∃ lo, (w1.alloc (.cells #[.int .i64 1000, .int .i64 1000, .int .i64 1000, .int .i64 0, .int .i64 0, .int .i64 0, .int .i64 0, .int .i64 0] 43)).heap.size = lo := ⟨_, rfl⟩
  rw [hlo] at p1 p4 hbB
  have HA2 := Lib.hid p1
  have HB2 := Lib.hid p2
  have HM : Hid (w.heap.size ≤ lo ∧ lo ≤ m ∧ m ≤ w2.heap.size) := ⟨hbB, p4, p3⟩
  clear p1 p2 p3 p4 p5 hlo hbB
  obtain ⟨d3, hd3⟩ : ∃ q : Nat, d + 3 = q := ⟨_, rfl⟩
  have HD3 := Lib.hid hd3
  clear hd3
  go_wp2_with (at_builtin; refine wpList_append_bytes rfl (.tmp 39) (.tmp 40) rfl rfl (ob_nil _ w2.heap.size _ _) A d c ys rfl HLn.out.1 ?hr ?hb ?hs ?_)
  case hr => obtain ⟨_, _, _, e, _, _, hr, _⟩ := (HBs.out.chg (HC2.out.alloc _) fun _ _ f => f); cases e; exact hr
  case hb => omega
  case hs => simp
  intro v3 w3 k1 k2 k3
  have k1' : Ob w3 w2.heap.size 5 v3 d (ys.map (Value.int .u8)) := by simpa using k1
  have HC3 : Hid (Chg none_ w2 w3) := ((Chg.refl none_ w2).alloc _).trans ((grow_chg k2).more fun k _ hk => by simp [obk] at hk)
  obtain ⟨A3, c3, rfl, _, _⟩ := k1'.slice
  have H3 : Hid (Ob (w3.alloc (.cells #[.int .u8 1, .int .u8 2, .int .u8 3] 5)) w2.heap.size 5 (.slice A3 d c3) d (ys.map (Value.int .u8))) := k1'.chg ((Chg.refl none_ w3).alloc _) (fun _ _ f => f)
  have HR3 : Hid (Rd (w3.alloc (.cells #[.int .u8 1, .int .u8 2, .int .u8 3] 5)) (some ⟨w3.heap.size, 0, none⟩) 3 fun i => .int .u8 (([1, 2, 3] : List Int).getD i 0)) := Is.rdI [1, 2, 3] (Is.new w3 5 _)
  have h23 : w2.heap.size ≤ (w3.alloc (.cells #[.int .u8 1, .int .u8 2, .int .u8 3] 5)).heap.size := Nat.le_trans HC3.out.size (by simp)
  clear k1 k1' k2 k3
  go_wp2_with (at_builtin; refine wpList_append_bytes rfl (.tmp 41) (.tmp 42) rfl rfl H3.out (some ⟨w3.heap.size, 0, none⟩) 3 3 [1, 2, 3] rfl rfl HR3.out ?hb2 h23 ?_)
  case hb2 => omega
  intro v4 w4 k1 k2 k3
  obtain ⟨X3, hX3⟩ : ∃ X, ys ++ [1, 2, 3] = X := ⟨_, rfl⟩
  have HX3 : Hid (Byt X3 ∧ X3.take d = ys) := by
    refine ⟨by rw [← hX3]; exact HLn.out.2.1.append (by intro z hz; simp at hz; omega), ?_⟩
    rw [← hX3, ← HLn.out.1, List.take_left]
  have k1' : Ob w4 w2.heap.size 5 v4 d3 (u8s X3) := by
    rw [← hX3]
    show Ob _ _ _ _ _ ((ys ++ [1, 2, 3]).map (Value.int .u8))
    rw [List.map_append, ← HD3.out]
    exact k1
  have HC4 : Hid (Chg none_ w2 w4) := (HC3.out.alloc _).then (grow_chg k2) fun k hk hb => by have := (H3.out.block k hb).1; omega
  obtain ⟨A4, c4, rfl, hc4, _⟩ := k1'.slice
  obtain ⟨gf, rfl⟩ := k1'.addr (by have := HD3.out; omega)
  have HF4 := Lib.hid k1'
  have hgf0 := k1'.rdk gf (by have := HD3.out; show (if d3 = 0 then none else some gf) = some gf; rw [if_neg (by omega)])
  have HGf : Hid (w2.heap.size ≤ gf ∧ gf < w4.heap.size) := k1'.block gf hgf0
  have hdc : d ≤ c4 := by have := HD3.out; omega
  have hdcI : (d : Int) ≤ (c4 : Int) := by omega
  have kf : ∀ (dst : TypeId), Tryd.prog.underlying dst = some .string → (convert 23 dst (.slice (some ⟨gf, 0, none⟩) d3 c4)).run Tryd.prog w4 = .ok (.string (strOfNums X3)) w4 := run_str (P := Tryd.prog) (w := w4) (c := c4) (n := d3) (xs := X3) 23 5 Tryd.underlying23 Tryd.underlying5 (by have := HF4.out.len; rw [u8s_len] at this; exact this) (HF4.out.rd (fun i hi => ints_get (by have := HF4.out.len; rw [u8s_len] at this; omega)) rfl)
  clear k1 k1' k2 k3 hX3 h23 hgf0 hc4
  have HV4 : Hid (∀ W, Chg none_ w4 W → BsO W (.slice (some ⟨gf, 0, none⟩) d c4) ys ∧ ∀ k, rdk (.slice (some ⟨gf, 0, none⟩) d c4) = some k → k = gf) := fun W hW => by
    refine ⟨ob_bso (HF4.out.chg hW fun _ _ f => f) (by have := HD3.out; omega) HX3.out.2 HLn.out.2.1, fun k hk => ?_⟩
    simp only [rdk] at hk
    split at hk
    · cases hk
    · exact (Option.some.inj hk).symm
  have HZ : Hid (w.heap.size ≤ lo ∧ lo ≤ m ∧ m ≤ w2.heap.size ∧ w2.heap.size ≤ gf ∧ gf < w4.heap.size ∧ w2.heap.size ≤ w4.heap.size) := ⟨HM.out.1, HM.out.2.1, HM.out.2.2, HGf.out.1, HGf.out.2, HC4.out.size⟩
  have HCw4 : Hid (Chg none_ w w4) := HC2.out.trans HC4.out
  have hnc0 := HCw4.out.old (Nat.le_refl w.heap.size)
  have HS4 : Hid (Sen6 w.heap.size a w4 ∧ Tab w.heap.size w4 ∧ w.heap.size ≤ w4.heap.size) := ⟨HS.out.below hnc0, HT.out.below hnc0, HCw4.out.size⟩
  clear hnc0
  go_wp2_with fail
  refine (write_any w4 HS4.out.1 (T := fun k => (lo ≤ k ∧ k < m) ∨ w4.heap.size ≤ k) ((HA2.out.keep HC4.out).wide fun k hk => .inl hk) (fun k hk => .inr hk) _ ys (HV4.out w4 (Chg.refl _ _)).1 (fun k hk => by have e := (HV4.out w4 (Chg.refl _ _)).2 k hk; have := HZ.out; exact ⟨by omega, fun h => by omega⟩) (by have := HLn.out; omega)).mono ?_
  rintro e u1 ⟨rfl, p1, p2⟩
  have HU1 := Lib.hid p1
  have HCx1 : Hid (Chg none_ w u1) := HCw4.out.then p2 fun k hk h => by have := HZ.out; omega
  have HX1 : Hid (Chg (fun k => (lo ≤ k ∧ k < m) ∨ w4.heap.size ≤ k) w4 u1) := p2
  have HS5 : Hid (Sen6 w.heap.size a u1 ∧ Tab w.heap.size u1 ∧ w.heap.size ≤ u1.heap.size ∧ w4.heap.size ≤ u1.heap.size) := by
    have hb := p2.below (B := w.heap.size) (fun k _ h => by have := HZ.out; have := HS4.out.2.2; omega) HS4.out.2.2
    exact ⟨HS4.out.1.below hb, HS4.out.2.1.below hb, Nat.le_trans HS4.out.2.2 p2.size, p2.size⟩
  have HF5 : Hid (Ob u1 w2.heap.size 5 (.slice (some ⟨gf, 0, none⟩) d3 c4) d3 (u8s X3)) := HF4.out.chg p2 fun k hk h => by
    have e : k = gf := by have := HF4.out.rdk gf (by have := HD3.out; show (if d3 = 0 then none else some gf) = some gf; rw [if_neg (by omega)]); rw [this] at hk; exact (Option.some.inj hk).symm
    have := HZ.out; omega
  have HB5 := Lib.hid ((HB2.out.keep HC4.out).chg p2 fun k hk hk' h => by have := HZ.out; omega)
  clear p1 p2 kf
  go_wp2_with fail
  refine (write_any u1 HS5.out.1 (T := fun k => (lo ≤ k ∧ k < m) ∨ w4.heap.size ≤ k) HU1.out (fun k hk => .inr (by have := HS5.out.2.2.2; omega)) _ ys (ob_bso HF5.out (by have := HD3.out; omega) HX3.out.2 HLn.out.2.1) (fun k hk => by have e := (HV4.out w4 (Chg.refl _ _)).2 k hk; have := HZ.out; have := HS5.out.2.2.2; exact ⟨by omega, fun h => by omega⟩) (by have := HLn.out; omega)).mono ?_
  rintro e u2 ⟨rfl, p1, p2⟩
  have HA6 := Lib.hid p1.cut
  have HCx2 : Hid (Chg none_ w u2) := HCx1.out.then p2 fun k hk h => by have := HZ.out; omega
  have HS6 : Hid (Sen6 w.heap.size a u2 ∧ Tab w.heap.size u2 ∧ w.heap.size ≤ u2.heap.size ∧ w4.heap.size ≤ u2.heap.size) := by
    have hb := p2.below (B := w.heap.size) (fun k _ h => by have := HZ.out; have := HS4.out.2.2; omega) HS5.out.2.2.1
    exact ⟨HS5.out.1.below hb, HS5.out.2.1.below hb, Nat.le_trans HS5.out.2.2.1 p2.size, Nat.le_trans HS5.out.2.2.2 p2.size⟩
  have hgfk : ∀ k, obk (.slice (some ⟨gf, 0, none⟩) d3 c4) = some k → k = gf := fun k hk => by
    have := HF4.out.rdk gf (by have := HD3.out; show (if d3 = 0 then none else some gf) = some gf; rw [if_neg (by omega)])
    rw [this] at hk
    exact (Option.some.inj hk).symm
  have HGk := Lib.hid hgfk
  have HF6 : Hid (Ob u2 w2.heap.size 5 (.slice (some ⟨gf, 0, none⟩) d3 c4) d3 (u8s X3)) := HF5.out.chg p2 fun k hk h => by have := HGk.out k hk; have := HZ.out; omega
  have HB6 := Lib.hid (HB5.out.chg p2 fun k hk hk' h => by have := HZ.out; omega)
  clear p1 p2 hgfk
  go_wp2_with fail
  refine (sarrive_any u2 HS6.out.1 HS6.out.2.1 HS6.out.2.2.1 (T := fun k => (m ≤ k ∧ k < w2.heap.size) ∨ u2.heap.size ≤ k) (HB6.out.wide fun k hk => .inl hk) (fun k hk => by have := HZ.out; have := HS6.out; omega) (fun k hk => .inr hk) _ ys (ob_bso HF6.out (by have := HD3.out; omega) HX3.out.2 HLn.out.2.1) (fun k hk => by have e := (HV4.out w4 (Chg.refl _ _)).2 k hk; have := HZ.out; have := HS6.out.2.2.2; exact ⟨by omega, fun h => by omega⟩) (by have := HLn.out; omega) false).mono ?_
  rintro e u3 ⟨rfl, p1, p2⟩
  have HU3 := Lib.hid p1
  have HCx3 : Hid (Chg none_ w u3) := HCx2.out.then p2 fun k hk h => by have := HZ.out; have := HS6.out; omega
  have HS7 : Hid (Sen6 w.heap.size a u3 ∧ Tab w.heap.size u3 ∧ w.heap.size ≤ u3.heap.size ∧ u2.heap.size ≤ u3.heap.size) := by
    have hb := p2.below (B := w.heap.size) (fun k _ h => by have := HZ.out; have := HS6.out; omega) HS6.out.2.2.1
    exact ⟨HS6.out.1.below hb, HS6.out.2.1.below hb, Nat.le_trans HS6.out.2.2.1 p2.size, p2.size⟩
  have HF7 : Hid (Ob u3 w2.heap.size 5 (.slice (some ⟨gf, 0, none⟩) d3 c4) d3 (u8s X3)) := HF6.out.chg p2 fun k hk h => by have := HGk.out k hk; have := HZ.out; have := HS6.out; omega
  have HA7 := Lib.hid (HA6.out.chg p2 fun k hk hk' h => by have := HZ.out; omega)
  clear p1 p2
  go_wp2_with fail
  refine (sarrive_any u3 HS7.out.1 HS7.out.2.1 HS7.out.2.2.1 (T := fun k => (m ≤ k ∧ k < w2.heap.size) ∨ u2.heap.size ≤ k) HU3.out (fun k hk => by have := HZ.out; have := HS6.out; omega) (fun k hk => .inr (by have := HS7.out.2.2.2; omega)) _ ys (ob_bso HF7.out (by have := HD3.out; omega) HX3.out.2 HLn.out.2.1) (fun k hk => by have e := (HV4.out w4 (Chg.refl _ _)).2 k hk; have := HZ.out; have := HS6.out.2.2.2; have := HS7.out.2.2.2; exact ⟨by omega, fun h => by omega⟩) (by have := HLn.out; omega) false).mono ?_
  rintro e u4 ⟨rfl, p1, p2⟩
  have HB8 := Lib.hid p1.cut
  have HCx4 : Hid (Chg none_ w u4) := HCx3.out.then p2 fun k hk h => by have := HZ.out; have := HS6.out; omega
  have HS8 : Hid (Sen6 w.heap.size a u4 ∧ Tab w.heap.size u4 ∧ w.heap.size ≤ u4.heap.size ∧ u2.heap.size ≤ u4.heap.size) := by
    have hb := p2.below (B := w.heap.size) (fun k _ h => by have := HZ.out; have := HS6.out; omega) HS7.out.2.2.1
    exact ⟨HS7.out.1.below hb, HS7.out.2.1.below hb, Nat.le_trans HS7.out.2.2.1 p2.size, Nat.le_trans HS7.out.2.2.2 p2.size⟩
  have HF8 : Hid (Ob u4 w2.heap.size 5 (.slice (some ⟨gf, 0, none⟩) d3 c4) d3 (u8s X3)) := HF7.out.chg p2 fun k hk h => by have := HGk.out k hk; have := HZ.out; have := HS6.out; omega
  have HA8 := Lib.hid (HA7.out.chg p2 fun k hk hk' h => by have := HZ.out; omega)
  have kf : ∀ (dst : TypeId), Tryd.prog.underlying dst = some .string → (convert 23 dst (.slice (some ⟨gf, 0, none⟩) d3 c4)).run Tryd.prog u4 = .ok (.string (strOfNums X3)) u4 := run_str (P := Tryd.prog) (w := u4) (c := c4) (n := d3) (xs := X3) 23 5 Tryd.underlying23 Tryd.underlying5 (by have := HF8.out.len; rw [u8s_len] at this; exact this) (HF8.out.rd (fun i hi => ints_get (by have := HF8.out.len; rw [u8s_len] at this; omega)) rfl)
  clear p1 p2
  go_wp2_with fail
  have hd30 : 0 < d3 := by have := HD3.out; omega
  have HZ8 : Hid (w4.heap.size ≤ u2.heap.size ∧ u2.heap.size ≤ u4.heap.size) := ⟨HS6.out.2.2.2, HS8.out.2.2.2⟩
  obtain ⟨SA, hSA⟩ : ∃ SA, wrS (wrS (Sm.new 7 true 1000 1000 1000) ys) ys = SA := ⟨_, rfl⟩
  obtain ⟨SB, hSB⟩ : ∃ SB, avS (avS (Sm.new 7 false 1000 1000 1000) ys false) ys false = SB := ⟨_, rfl⟩
  have hoA := own_A HLn.out.1 HLn.out.2.2.1
  have hoB := own_B HLn.out.1 HLn.out.2.2.1
  rw [hSA] at hoA HA8
  rw [hSB] at hoB HB8
  have HoA := Lib.hid hoA
  have HoB := Lib.hid hoB
  clear kf hSA hSB hoA hoB HA6 HA7 HU1 HU3 HB5 HB6 HF5 HF6 HF7 HA2 HB2
  go_loopw [10] (fun x wr => ∃ i : Nat, x = .int .i64 (i : Int) ∧ i ≤ d ∧ (∃ xs, Ob wr w2.heap.size 5 (.slice (some ⟨gf, 0, none⟩) d3 c4) d3 xs) ∧ Chg (fun k => k = gf) u4 wr) (fun x _ => d - (intOf x).toNat)
  case atStart => exact ⟨0, rfl, Nat.zero_le _, ⟨_, HF8.out⟩, Chg.refl _ _⟩
  case round =>
    obtain ⟨i, rfl, hi, ⟨xs3, hO⟩, hC⟩ := hrel
    have HO := Lib.hid hO
    have HCg := Lib.hid hC
    clear hO hC
    by_cases hlt2 : i < d
    · have hid3 : i < d3 := by have := HD3.out; omega
      obtain ⟨u, hu⟩ : ∃ u, xs3[i]? = some u := ⟨_, List.getElem?_eq_getElem (by rw [HO.out.len]; exact hid3)⟩
      have hcc : wr.cell? ⟨gf, i, none⟩ = some u := (HO.out.cellAt i hid3).trans hu
      have hfr : wr.frozen? ⟨gf, i, none⟩ = false := HO.out.frozenAt hd30 i
      clear hu
      go_wp2
      go_roundw
      case rel => exact ⟨i + 1, by go_num, by omega, ⟨_, HO.out.set hd30 i _⟩, HCg.out.setCell (fun _ => rfl) _⟩
      case measure => simp [intOf]; omega
    · obtain ⟨u5, rfl⟩ : ∃ y, y = wr := ⟨wr, rfl⟩
      have HA9 := Lib.hid (HA8.out.chg HCg.out fun k hk hk' h => by have := HZ.out; omega)
      have HB9 := Lib.hid (HB8.out.chg HCg.out fun k hk hk' h => by have := HZ.out; have := HZ8.out; omega)
      have HCx5 : Hid (Chg none_ w u5) := HCx4.out.then HCg.out fun k hk h => by have := HZ.out; omega
      have hbl5 := HCx5.out.old (Nat.le_refl w.heap.size)
      have HS9 : Hid (Sen6 w.heap.size a u5 ∧ Tab w.heap.size u5 ∧ w.heap.size ≤ u5.heap.size ∧ u4.heap.size ≤ u5.heap.size) := ⟨HS.out.below hbl5, HT.out.below hbl5, HCx5.out.size, HCg.out.size⟩
      clear hbl5
      go_wp2_with fail
      refine (sread_any u5 HS9.out.1 HS9.out.2.2.1 HB9.out (fun k hk => by have := HZ.out; have := HZ8.out; omega) HoB.out.2 3 (by have := HLn.out; omega)).mono ?_
      rintro e u6 ⟨r1, rfl, j1, j2, j3⟩
      obtain ⟨k1, hk1⟩ : ∃ k1, Nat.min 3 SB.un.length = k1 := ⟨_, rfl⟩
      have hU1 := srS_un SB 3
      rw [hk1] at j1 hU1
      obtain ⟨R1, q1, rfl, _, _⟩ := j1.slice
      have HJ1 := Lib.hid j1
      have HK1 : Hid (k1 ≤ SB.un.length ∧ k1 ≤ 3) := by obtain ⟨x1, x2, _⟩ := nat_min hk1.symm; exact ⟨x2, x1⟩
      have HU1 : Hid ((srS SB 3).un = SB.un.drop k1 ∧ (srS SB 3).rs = SB.rs) := hU1
      have HB10 := Lib.hid j2
      have HA10 := Lib.hid (HA9.out.chg j3 fun k hk hk' h => by have := HZ.out; have := HZ8.out; omega)
      have HCx6 : Hid (Chg none_ w u6) := HCx5.out.then j3 fun k hk h => by have := HZ.out; have := HZ8.out; omega
      have HO6 : Hid (∃ xs, Ob u6 w2.heap.size 5 (.slice (some ⟨gf, 0, none⟩) d3 c4) d3 xs) := ⟨_, HO.out.chg j3 fun k hk h => by have := HGk.out k hk; have := HZ.out; have := HZ8.out; omega⟩
      have HZ6 : Hid (u5.heap.size ≤ u6.heap.size) := j3.size
      have hbl5 := HCx6.out.old (Nat.le_refl w.heap.size)
      have HS10 : Hid (Sen6 w.heap.size a u6 ∧ Tab w.heap.size u6 ∧ w.heap.size ≤ u6.heap.size) := ⟨HS.out.below hbl5, HT.out.below hbl5, HCx6.out.size⟩
      clear j1 j2 j3 hk1 hU1 hbl5
      go_wp2_with fail
      refine (sread_any u6 HS10.out.1 HS10.out.2.2 HB10.out (fun k hk => by have := HZ.out; have := HZ8.out; omega) (HU1.out.2.trans HoB.out.2) 3 (by have := HLn.out; omega)).mono ?_
      rintro e u7 ⟨r2, rfl, j1, j2, j3⟩
      obtain ⟨k2, hk2⟩ : ∃ k2, Nat.min 3 (srS SB 3).un.length = k2 := ⟨_, rfl⟩
      have hU2 := srS_un (srS SB 3) 3
      rw [hk2] at j1 hU2
      obtain ⟨R2, q2, rfl, _, _⟩ := j1.slice
      have HJ2 := Lib.hid j1
      have HK2 : Hid (k2 ≤ (srS SB 3).un.length ∧ k2 ≤ 3) := by obtain ⟨x1, x2, _⟩ := nat_min hk2.symm; exact ⟨x2, x1⟩
      have HU2 : Hid ((srS (srS SB 3) 3).un = (srS SB 3).un.drop k2 ∧ (srS (srS SB 3) 3).rs = (srS SB 3).rs) := hU2
      have HB11 := Lib.hid j2
      have HA11 := Lib.hid (HA10.out.chg j3 fun k hk hk' h => by have := HZ.out; have := HZ8.out; omega)
      have HCx7 : Hid (Chg none_ w u7) := HCx6.out.then j3 fun k hk h => by have := HZ.out; have := HZ8.out; omega
      have HO7 : Hid (∃ xs, Ob u7 w2.heap.size 5 (.slice (some ⟨gf, 0, none⟩) d3 c4) d3 xs) := by
        obtain ⟨xs, h⟩ := HO6.out
        exact ⟨_, h.chg j3 fun k hk h => by have := HGk.out k hk; have := HZ.out; have := HZ8.out; omega⟩
      have HJ1' := Lib.hid (HJ1.out.chg j3 fun k hk h => by have := (HJ1.out.block k hk).1; have := HS9.out; omega)
      have HZ7 : Hid (u6.heap.size ≤ u7.heap.size) := j3.size
      have hbl5 := HCx7.out.old (Nat.le_refl w.heap.size)
      have HS11 : Hid (Sen6 w.heap.size a u7 ∧ Tab w.heap.size u7 ∧ w.heap.size ≤ u7.heap.size) := ⟨HS.out.below hbl5, HT.out.below hbl5, HCx7.out.size⟩
      clear j1 j2 j3 hk2 hU2 hbl5
      go_wp2_with fail
      refine (sframe_any u7 HS11.out.1 HS11.out.2.1 HS11.out.2.2 HA11.out (fun k hk => by have := HZ.out; omega)).mono ?_
      rintro e u8 ⟨x2, x3, x4, r3, ok, rfl, j1, j2, j3⟩
      rw [HoA.out.1, HoA.out.2] at j1
      obtain ⟨R3, q3, rfl, _, _⟩ := j1.slice
      have HJ3 := Lib.hid j1
      have HB12 := Lib.hid (HB11.out.chg j3 fun k hk hk' h => by have := HZ.out; have := HZ8.out; omega)
      have HCx8 : Hid (Chg none_ w u8) := HCx7.out.then j3 fun k hk h => by have := HZ.out; omega
      have HO8 : Hid (∃ xs, Ob u8 w2.heap.size 5 (.slice (some ⟨gf, 0, none⟩) d3 c4) d3 xs) := by
        obtain ⟨xs, h⟩ := HO7.out
        exact ⟨_, h.chg j3 fun k hk h => by have := HGk.out k hk; have := HZ.out; omega⟩
      have HJ1'' := Lib.hid (HJ1'.out.chg j3 fun k hk h => by have := (HJ1.out.block k hk).1; have := HS9.out; have := HZ8.out; omega)
      have HJ2' := Lib.hid (HJ2.out.chg j3 fun k hk h => by have := (HJ2.out.block k hk).1; have := HS9.out; have := HZ8.out; have := HZ6.out; omega)
      have HZ9 : Hid (u7.heap.size ≤ u8.heap.size) := j3.size
      clear j1 j2 j3
      obtain ⟨dd, hdd⟩ : ∃ dd, d + d = dd := ⟨_, rfl⟩
      have HDd := Lib.hid hdd
      rw [hdd] at HJ3 ⊢
      obtain ⟨u9, hu9⟩ : ∃ y, u8.alloc (.cells #[.int .u8 0, .int .u8 0, .int .u16 x2, .int .u32 x3, .int .u32 x4, .slice R3 dd q3] 72) = y := ⟨_, rfl⟩
      obtain ⟨bf, hbf⟩ : ∃ y, u8.heap.size = y := ⟨_, rfl⟩
      have HC9 : Hid (Chg none_ u8 u9) := by show Chg _ _ _; rw [← hu9]; exact (Chg.refl none_ u8).alloc _
      have HI9 : Hid (Is u9 bf 72 #[.int .u8 0, .int .u8 0, .int .u16 x2, .int .u32 x3, .int .u32 x4, .slice R3 dd q3]) := by show Is _ _ _ _; rw [← hu9, ← hbf]; exact Is.new u8 _ _
      have HBf := Lib.hid hbf
      obtain ⟨YY, hYY⟩ : ∃ YY, ys ++ ys = YY := ⟨_, rfl⟩
      obtain ⟨L1, hL1⟩ : ∃ L, SB.un.take k1 = L := ⟨_, rfl⟩
      obtain ⟨L2, hL2⟩ : ∃ L, (srS SB 3).un.take k2 = L := ⟨_, rfl⟩
      obtain ⟨kk, hkk⟩ : ∃ kk, k1 + k2 = kk := ⟨_, rfl⟩
      have hYl : YY.length = dd ∧ Byt YY := by
        have hl := HLn.out.1
        have hb := HLn.out.2.1
        exact ⟨by rw [← hYY, List.length_append]; omega, by rw [← hYY]; exact hb.append hb⟩
      have hUn : SB.un = YY := by rw [HoB.out.1, hYY]
      have hL12 : L1 ++ L2 = YY.take kk ∧ kk ≤ dd := by
        have e2 := HU1.out.1
        have l1 := HK1.out.1
        have l2 := HK2.out.1
        rw [e2, List.length_drop] at l2
        rw [hUn] at l1 l2 e2
        refine ⟨?_, by have := hYl.1; omega⟩
        rw [← hL1, ← hL2, e2, hUn, ← List.take_add, hkk]
      have hTW : strOfNums ys ++ strOfNums ys = strOfNums YY := by rw [← str_app, hYY]
      have hT12 : strOfNums L1 ++ strOfNums L2 = strOfNums (YY.take kk) := by rw [← str_app, hL12.1]
      have hEx : (strOfNums YY).extract 0 kk = strOfNums (YY.take kk) := str_take YY kk
      have hSz : (strOfNums YY).size = dd := by rw [strOfNums_size]; exact hYl.1
      have hkkI : (k1 : Int) + (k2 : Int) = (kk : Int) := by omega
      have hkkd : (kk : Int) ≤ (dd : Int) := by have := hL12.2; omega
      have hkk0 : (0 : Int) ≤ (kk : Int) := by omega
      have hkk8 : kk ≤ 800 := by have := hL12.2; have := HLn.out; omega
      have hkkw : IntKind.i64.wrap (kk : Int) = (kk : Int) := IntWalk.i64_in _ (by omega)
      have kd : ∀ (dst : TypeId), Tryd.prog.underlying dst = some .string → (convert 23 dst (.slice A d c)).run Tryd.prog u9 = .ok (.string (strOfNums ys)) u9 := by
        have h := HBs.out.chg (HCx8.out.trans HC9.out) fun _ _ f => f
        obtain ⟨_, _, _, e, h1, _, h3, _⟩ := h
        cases e
        exact run_str (P := Tryd.prog) (w := u9) (c := c) (n := d) (xs := ys) 23 5 Tryd.underlying23 Tryd.underlying5 h1 h3
      have obs : ∀ (base : Nat) (A : Option Addr) (n c : Nat) (xs : List Int), Ob u9 base 5 (.slice A n c) n (u8s xs) → ∀ (Q : Nat) (dst : TypeId), Tryd.prog.underlying dst = some .string → (convert 23 dst (.slice A n c)).run Tryd.prog (u9.drewN Q) = .ok (.string (strOfNums xs)) (u9.drewN Q) := fun base A n c xs h Q => by
        have hl : xs.length = n := by have := h.len; rw [u8s_len] at this; exact this
        exact run_str (P := Tryd.prog) (w := u9.drewN Q) (c := c) (A := A) (n := n) (xs := xs) 23 5 Tryd.underlying23 Tryd.underlying5 hl (Rd.drewN (h.rd (fun i hi => ints_get (by omega)) rfl) Q)
      have HJ19 : Hid (Ob u9 u5.heap.size 5 (.slice R1 k1 q1) k1 (u8s L1)) := by show Ob _ _ _ _ _ _; rw [← hL1]; exact HJ1''.out.chg HC9.out fun _ _ f => f
      have HJ29 : Hid (Ob u9 u6.heap.size 5 (.slice R2 k2 q2) k2 (u8s L2)) := by show Ob _ _ _ _ _ _; rw [← hL2]; exact HJ2'.out.chg HC9.out fun _ _ f => f
      have HJ39 : Hid (Ob u9 u7.heap.size 5 (.slice R3 dd q3) dd (u8s YY)) := by
        have h := HJ3.out.chg HC9.out fun _ _ f => f
        have e : (ys ++ ys).take dd = YY := by rw [hYY]; exact List.take_of_length_le (by rw [hYl.1]; exact Nat.le_refl _)
        rw [e] at h
        exact h
      have k1f := obs _ _ _ _ _ HJ19.out
      have k2f := obs _ _ _ _ _ HJ29.out
      have k3f := obs _ _ _ _ _ HJ39.out
      have f5 : ∀ Q, (u9.drewN Q).cell? ⟨bf, 5, none⟩ = some (.slice R3 dd q3) := fun Q => HI9.out.at_ 5 _ rfl
      have HLL := Lib.hid (And.intro hL12 (And.intro hYl hUn))
      clear obs hdd hYY hL1 hL2 hkk hL12 hYl hUn
      have hys : (strOfNums ys).size = d := (strOfNums_size ys).trans HLn.out.1
      have hkkdN : kk ≤ dd := by omega
      have hs1 : (strOfNums L1).size = k1 := (strOfNums_size L1).trans (by have := HJ19.out.len; rw [u8s_len] at this; exact this)
      have hs2 : (strOfNums L2).size = k2 := (strOfNums_size L2).trans (by have := HJ29.out.len; rw [u8s_len] at this; exact this)
      have hov2 : ¬ 9223372036854775807 < k1 + k2 := by omega
      have hov : ¬ 9223372036854775807 < (strOfNums ys).size + (strOfNums ys).size := by omega
      go_wp2_with fail
      clear hu9 hbf
      go_quiet (fail)
      clear k1f k2f k3f kd hT12 hEx
      go_wp2_with fail
      obtain ⟨v0, hv0⟩ : ∃ v0, u9.drewN nq = v0 := ⟨_, rfl⟩
      have f5v : v0.cell? ⟨bf, 5, none⟩ = some (.slice R3 dd q3) := by rw [← hv0]; exact f5 nq
      have HV0 : Hid (Chg none_ u9 v0) := by show Chg _ _ _; rw [← hv0]; exact (Chg.refl none_ u9).drewN nq
      rw [hv0]
      clear f5 hv0
      go_still_tail 8, (by kernel_rfl)
      repeat still_step
      try refine wpStill_nil ?_
      change wpList _ _ _ _ _ v0.drew
      obtain ⟨v1, hv1⟩ : ∃ v1, v0.drew = v1 := ⟨_, rfl⟩
      have HV1 : Hid (Chg none_ u9 v1) := by show Chg _ _ _; rw [← hv1]; exact HV0.out.drew
      rw [hv1]
      clear hv1 f5v HV0
      go_wp2_with fail
      have HZa : Hid (w2.heap.size ≤ u5.heap.size ∧ gf < u5.heap.size ∧ u5.heap.size ≤ u6.heap.size ∧ u6.heap.size ≤ u7.heap.size ∧ u7.heap.size ≤ v1.heap.size ∧ u2.heap.size ≤ u4.heap.size ∧ w4.heap.size ≤ u2.heap.size ∧ u4.heap.size ≤ u5.heap.size ∧ w.heap.size ≤ w2.heap.size ∧ w2.heap.size ≤ gf ∧ gf < w4.heap.size) := by
        have h1 := HZ.out
        have h2 := HZ8.out
        have h3 := HS9.out.2.2.2
        have h4 := HZ6.out
        have h5 := HZ7.out
        have h6 := HZ9.out
        have h7 := HC9.out.size
        have h8 := HV1.out.size
        clear hov hov2 hs1 hs2 hys
        refine ⟨?_, ?_, ?_, ?_, ?_, ?_, ?_, ?_, ?_, ?_, ?_⟩ <;> omega
      have hob3 : ∀ q, obk (.slice (some ⟨gf, 0, none⟩) d c4) = some q → q = gf := fun q hq => by
        simp only [obk] at hq
        split at hq
        · cases hq
        · exact (Option.some.inj hq).symm
      have HOb3 := Lib.hid hob3
      have HOb1 : Hid (∀ q, obk (.slice R1 k1 q1) = some q → u5.heap.size ≤ q ∧ q < u6.heap.size) := HJ1.out.block
      have HOb2 : Hid (∀ q, obk (.slice R2 k2 q2) = some q → u6.heap.size ≤ q ∧ q < u7.heap.size) := HJ2.out.block
      have HOb4 : Hid (∀ q, obk (.slice R3 dd q3) = some q → u7.heap.size ≤ q) := fun q hq => (HJ39.out.block q hq).1
      have H03 : Hid (∃ xs, Ob v1 w2.heap.size 5 (.slice (some ⟨gf, 0, none⟩) d c4) d xs) := by
        obtain ⟨xs, h⟩ := HO8.out
        exact ⟨_, ((h.front (m := d) (by have := HD3.out; omega)).chg HC9.out fun _ _ f => f).chg HV1.out fun _ _ f => f⟩
      clear hob3 hys hs1 hs2 hov2 hov
      refine (apart4 v1 w2.heap.size _ _ _ _ k1 k2 dd d u5.heap.size u6.heap.size u7.heap.size (by have := HZa.out; omega) ⟨_, (HJ19.out.chg HV1.out fun _ _ f => f).low fun k hk => by have := HOb1.out k hk; have := HZa.out; omega⟩ ⟨_, (HJ29.out.chg HV1.out fun _ _ f => f).low fun k hk => by have := HOb2.out k hk; have := HZa.out; omega⟩ ⟨_, (HJ39.out.chg HV1.out fun _ _ f => f).low fun k hk => by have := HOb4.out k hk; have := HZa.out; omega⟩ H03.out (by have := HK1.out; have := HK2.out; have := HLn.out; have := HDd.out; omega) (fun q hq => by have := HOb3.out q hq; have := HZa.out; omega) HOb1.out HOb2.out HOb4.out (by have := HZa.out; omega)).mono ?_
      rintro e v2 ⟨rfl, p⟩
      have HB13 := Lib.hid ((HB12.out.keep (HC9.out.trans HV1.out)).chg p fun k hk hk' h => by
        have := HZa.out
        rcases h with h | h | h | h
        · have := HOb1.out k h; omega
        · have := HOb2.out k h; omega
        · have := HOb4.out k h; omega
        · have := HOb3.out k h; omega)
      have HCx9 : Hid (Chg none_ w v2) := ((HCx8.out.trans HC9.out).trans HV1.out).then p fun k hk h => by
        have := HZa.out
        rcases h with h | h | h | h
        · have := HOb1.out k h; omega
        · have := HOb2.out k h; omega
        · have := HOb4.out k h; omega
        · have := HOb3.out k h; omega
      have hbl5 := HCx9.out.old (Nat.le_refl w.heap.size)
      have HSa : Hid (Sen6 w.heap.size a v2 ∧ w.heap.size ≤ v2.heap.size) := ⟨HS.out.below hbl5, HCx9.out.size⟩
      have HZb : Hid (u4.heap.size ≤ v2.heap.size) := by show u4.heap.size ≤ v2.heap.size; have := p.size; have := HZa.out; omega
      clear p hbl5 HJ1 HJ2 HJ3 HJ19 HJ29 HJ39 HO8 H03 HJ1' HJ1'' HJ2' HO7 HO6 HB12 HB11 HB10
      go_wp2_with fail
      refine (sread_any v2 HSa.out.1 HSa.out.2 HB13.out (fun k hk => by have := HZ.out; have := HZ8.out; omega) (HU2.out.2.trans (HU1.out.2.trans HoB.out.2)) 2000 (by omega)).mono ?_
      rintro e v3 ⟨r4, rfl, j1, j2, j3⟩
      obtain ⟨k3, hk3⟩ : ∃ k3, Nat.min 2000 (srS (srS SB 3) 3).un.length = k3 := ⟨_, rfl⟩
      rw [hk3] at j1
      obtain ⟨R4, q4, rfl, _, _⟩ := j1.slice
      have hun : (srS (srS SB 3) 3).un = YY.drop kk := by
        rw [HU2.out.1, HU1.out.1, HLL.out.2.2, List.drop_drop]
        congr 1
        omega
      have hk3' : (YY.drop kk).take k3 = YY.drop kk := by
        have h1 : Nat.min 2000 (srS (srS SB 3) 3).un.length = min 2000 (srS (srS SB 3) 3).un.length := rfl
        rw [hun, List.length_drop, HLL.out.2.1.1] at h1
        rw [hun, List.length_drop, HLL.out.2.1.1, h1] at hk3
        refine List.take_of_length_le ?_
        rw [List.length_drop, HLL.out.2.1.1]
        have := HLn.out
        have := HDd.out
        omega
      rw [hun, hk3'] at j1
      have k4f : ∀ (Q : Nat) (dst : TypeId), Tryd.prog.underlying dst = some .string → (convert 23 dst (.slice R4 k3 q4)).run Tryd.prog (v3.drewN Q) = .ok (.string (strOfNums (YY.drop kk))) (v3.drewN Q) := fun Q => by
        have hl : (YY.drop kk).length = k3 := by have := j1.len; rw [u8s_len] at this; exact this
        exact run_str (P := Tryd.prog) (w := v3.drewN Q) (c := q4) (A := R4) (n := k3) (xs := YY.drop kk) 23 5 Tryd.underlying23 Tryd.underlying5 hl (Rd.drewN (j1.rd (fun i hi => ints_get (by omega)) rfl) Q)
      have hEx2 : (strOfNums YY).extract kk dd = strOfNums (YY.drop kk) := str_drop YY kk dd HLL.out.2.1.1
      have hbl5 := (HCx9.out.then j3 fun k hk h => by have := HZ.out; have := HZ8.out; omega : Chg none_ w v3).old (Nat.le_refl w.heap.size)
      have HEnd := Lib.hid hbl5
      clear j1 j2 j3 hbl5 hun hk3' hk3
      go_wp2_with fail
      go_quiet (fail)
      go_wp2_with fail
      go_ret
      exact ⟨rfl, below_drewN HEnd.out _⟩
end Go.Proofs.YthalmjjbamglgaaDoor
