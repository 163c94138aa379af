/-
  culvertlaw27.fixed, MsgNil.
  No condition of its own: the fact 'Sen' on the world.
-/
import Derived.Test.YthalmjjbamglgaaDoorMsg5
import Derived.Test.YthalmjjbamglgaaDoorCode
import Derived.Lib.SlBytesConst
namespace Go.Proofs.YthalmjjbamglgaaDoor
open Go.RowKit

theorem say_fix1 : sayB 200 [2, 97] = ([], some [2, 97]) := say_wait (k := 1) (n := 2) rfl (by decide)
theorem say_fix2 : sayB 200 [2, 97, 98, 0, 1] = ([[97, 98], []], some [1]) := by
  have b : ∀ l : List Int, (∀ z ∈ l, z = 2 ∨ z = 97 ∨ z = 98 ∨ z = 0 ∨ z = 1) → Byt l := fun l h z hz => by rcases h z hz with rfl | rfl | rfl | rfl | rfl <;> decide
  rw [say_one (k := 1) (n := 2) (b _ (by simp)) rfl (by decide)]
  show ([97, 98] :: (sayB 200 [0, 1]).1, (sayB 200 [0, 1]).2) = _
  rw [say_one (k := 1) (n := 0) (b _ (by simp)) rfl (by decide)]
  show ([97, 98] :: [] :: (sayB 200 [1]).1, (sayB 200 [1]).2) = _
  rw [say_wait (k := 1) (n := 1) rfl (by decide)]

theorem errv_some (a : Nat → Addr) (H : List Int) : errv a (Option.elim (some H) 15 fun _ => 0) = .nilIface := rfl
theorem FdEnd.use {a : Nat → Addr} {w w' : World} {base g : Nat} {most : Int} {H xs : List Int} {hv : Value} {e : Ending} (h : FdEnd a w base g most H xs hv e w') {ms : List (List Int)} {so : Option (List Int)} (hs : sayB most (H ++ xs) = (ms, so)) :
    ∃ out vs hv', e = .returned (.tuple #[out, errv a (so.elim 15 fun _ => 0)]) ∧ Rdr w' base g most so hv' ∧ (obk hv' = obk hv ∨ obk hv' = none ∨ ∃ k, obk hv' = some k ∧ w.heap.size ≤ k) ∧
      Ob w' w.heap.size 23 out vs.length vs ∧ Mem w' w.heap.size vs ms ∧ (∀ v ∈ vs, ∀ k, obk v = some k → obk out ≠ some k ∧ obk hv' ≠ some k) ∧ (∀ k, obk out = some k → obk hv' ≠ some k) ∧
      Chg (fun k => k = g ∨ obk hv = some k) w w' := by
  have e1 : fdS most (some H) xs = so := by unfold fdS; simp only [Option.elim]; rw [hs]
  have e2 : fdM most (some H) xs = ms := by unfold fdM; simp only [Option.elim]; rw [hs]
  have e3 : fdC most (some H) xs = so.elim 15 fun _ => 0 := by unfold fdC; simp only [Option.elim]; rw [hs]
  unfold FdEnd at h
  rw [e1, e2, e3] at h
  exact h
/-- The bytes of a constant. -/
theorem bs_const (w : World) (xs : List Int) (hb : Byt xs) (f : Nat × Nat) : Bs (w.alloc (.cells (xs.map (Value.int .u8)).toArray 5 f)) (.slice (some ⟨w.heap.size, 0, none⟩) xs.length xs.length) xs := by
  refine ⟨_, _, _, rfl, rfl, hb, fun _ => ⟨_, rfl, fun i hi => ?_⟩, Nat.le_refl _⟩
  rw [show (⟨w.heap.size, 0, none⟩ : Addr).add i = ⟨w.heap.size, i, none⟩ from by unfold Addr.add; split <;> simp_all]
  rw [cell_of_row _ _ i _ _ f (heap_alloc_new w _), List.getElem?_toArray]
  exact ints_get hi

section
variable {B : Nat} {a : Nat → Addr}
set_option maxRecDepth 100000 in
set_option maxHeartbeats 4000000 in
theorem fixed_any (w : World) (hs : Sen B a w) (hB : B ≤ w.heap.size) :
    Calls Tryd.prog 31 #[] w fun e w' => e = .returned (.bool true) ∧ Chg none_ w w' := by
  have HS := Lib.hid hs
  clear hs
  have kcc := fun (w : World) (C : Array Value) (n c : Nat) => Lib.run_convert_bytes_const (P := Tryd.prog) w 23 5 C n c Tryd.underlying23 Tryd.underlying5
  go_enter Tryd.func31, Tryd.ntmps31
  go_wp2_with fail
  refine (encode_ok _ _ [97, 98, 99] (bs_const w [97, 98, 99] (by intro z hz; simp at hz; omega) (3, 4)) 3 (by decide) (by decide) (by decide)).mono ?_
  rintro e w1 ⟨v1, rfl, k1, c1⟩
  have k1' : Ob w1 (w.alloc (.cells #[.int .u8 97, .int .u8 98, .int .u8 99] 5 (3, 4))).heap.size 5 v1 4 ([3, 97, 98, 99].map (Value.int .u8)) := k1
  obtain ⟨A1, d1, rfl, _, _⟩ := k1'.slice
  have H1 := Lib.hid k1'
  have HC1 : Hid (Chg none_ w w1) := ((Chg.refl none_ w).alloc _).trans c1
  clear k1 k1' c1
  go_wp2_with fail
  refine (mnew_ok w1 200 (by decide) (by decide)).mono ?_
  rintro e w2 ⟨g, rfl, hg, r2, c2⟩
  have HR2 := Lib.hid r2
  have HG := Lib.hid hg
  have HC2 := Lib.hid c2
  have kc := run_str (P := Tryd.prog) (w := w2) (c := d1) (n := 4) (A := A1) (xs := [3, 97, 98, 99]) 23 5 Tryd.underlying23 Tryd.underlying5 rfl ((H1.out.chg c2 fun _ _ f => f).rd (fun i hi => ints_get hi) rfl)
  rw [show strOfNums [3, 97, 98, 99] = ⟨#[3, 97, 98, 99]⟩ from rfl] at kc
  clear hg r2 c2
  go_wp2_with fail
  have h3 : Hid (Bs (w2.alloc (.cells #[.int .u8 2, .int .u8 97] 5 (2, 3))) (.slice (some ⟨w2.heap.size, 0, none⟩) 2 2) [2, 97]) := bs_const w2 [2, 97] (by intro z hz; simp at hz; omega) (2, 3)
  have HS3 : Hid (Sen B a (w2.alloc (.cells #[.int .u8 2, .int .u8 97] 5 (2, 3)))) := HS.out.below (((HC1.out.trans HC2.out).alloc _).old hB)
  have hsz := HC1.out.size
  have hsz2 := HC2.out.size
  have hg1 := HG.out
  have hg2 : g < w2.heap.size := HR2.out.is.lt
  refine (feed_live _ HS3.out (by simp; omega) (HR2.out.keep ((Chg.refl none_ w2).alloc _)) (by simp; omega) (by omega) (by omega) (by simp; omega) (by decide) (by decide) _ _ h3.out (by decide)).mono ?_
  rintro e w3 he
  obtain ⟨out1, vs1, hv1, rfl, r3, b3, ho1, hm1, _, _, c3⟩ := he.use (so := some [2, 97]) (ms := []) say_fix1
  rw [errv_some]
  have hv0 : vs1 = [] := List.eq_nil_of_length_eq_zero hm1.len
  subst hv0
  obtain ⟨Ao, co, rfl, _, _⟩ := ho1.slice
  have HR3 := Lib.hid r3
  have HC3 := Lib.hid c3
  have B3 := Lib.hid b3
  clear he r3 b3 ho1 hm1 c3 hsz hsz2 hg1 hg2
  have HCw3 : Hid (Chg none_ w w3) := ((HC1.out.trans HC2.out).alloc _).then HC3.out fun k hk h => by
    have := HG.out
    have := HC1.out.size
    rcases h with rfl | h
    · omega
    · simp [obk] at h
  go_wp2_with fail
  have h4 : Hid (Bs (w3.alloc (.cells #[.int .u8 98, .int .u8 0, .int .u8 1] 5 (3, 4))) (.slice (some ⟨w3.heap.size, 0, none⟩) 3 3) [98, 0, 1]) := bs_const w3 [98, 0, 1] (by intro z hz; simp at hz; omega) (3, 4)
  have HS4 : Hid (Sen B a (w3.alloc (.cells #[.int .u8 98, .int .u8 0, .int .u8 1] 5 (3, 4)))) := HS.out.below ((HCw3.out.alloc _).old hB)
  have hsz := HC1.out.size
  have hsz2 := HC2.out.size
  have hsz3 : w2.heap.size ≤ w3.heap.size := by have := HC3.out.size; simp at this; omega
  have hg1 := HG.out
  have hg2 : g < w3.heap.size := HR3.out.is.lt
  refine (feed_live _ HS4.out (by simp; omega) (HR3.out.keep ((Chg.refl none_ w3).alloc _)) (by simp; omega) (by omega) (by omega) (by simp; omega) (by decide) (by decide) _ _ h4.out (by decide)).mono ?_
  rintro e w4 he
  obtain ⟨out2, vs2, hv2, rfl, r4, b4, ho2, hm2, _, _, c4⟩ := he.use (so := some [1]) (ms := [[97, 98], []]) say_fix2
  rw [errv_some]
  have hl2 : vs2.length = 2 := hm2.len
  have HL4 : Hid (Lst w4 (w3.alloc (.cells #[.int .u8 98, .int .u8 0, .int .u8 1] 5 (3, 4))).heap.size out2 vs2 [[97, 98], []]) := Lst.of ho2 hm2
  have HCw4 : Hid (Chg none_ w w4) := (HCw3.out.alloc _).then c4 fun k hk h => by
    rcases h with rfl | h
    · omega
    · rcases B3.out with e | e | ⟨q, e, hq⟩
      · rw [e] at h; simp [obk] at h
      · rw [e] at h; cases h
      · rw [e] at h; injection h with h; simp at hq; omega
  have HR4 := Lib.hid r4
  clear he r4 b4 ho2 hm2 c4 hsz hsz2 hsz3 hg1 hg2
  go_wp2_with fail
  have HLit : Hid (Lst (((w4.alloc (.cells #[.int .u8 97, .int .u8 98] 5 (2, 3))).alloc (.cells #[] 5)).alloc (.cells #[.slice (some ⟨w4.heap.size, 0, none⟩) 2 2, .slice (some ⟨w4.heap.size + 1, 0, none⟩) 0 0] 23)) 0
      (.slice (some ⟨w4.heap.size + 1 + 1, 0, none⟩) 2 2) [.slice (some ⟨w4.heap.size, 0, none⟩) 2 2, .slice (some ⟨w4.heap.size + 1, 0, none⟩) 0 0] [[97, 98], []]) := by
    have e : ((w4.alloc (.cells #[.int .u8 97, .int .u8 98] 5 (2, 3))).alloc (.cells #[] 5)).heap.size = w4.heap.size + 1 + 1 := by simp
    have hi := Is.new ((w4.alloc (.cells #[.int .u8 97, .int .u8 98] 5 (2, 3))).alloc (.cells #[] 5)) 23 #[.slice (some ⟨w4.heap.size, 0, none⟩) 2 2, .slice (some ⟨w4.heap.size + 1, 0, none⟩) 0 0]
    rw [e] at hi
    refine ⟨⟨_, _, rfl, Nat.le_refl _, Is.rdV [.slice (some ⟨w4.heap.size, 0, none⟩) 2 2, .slice (some ⟨w4.heap.size + 1, 0, none⟩) 0 0] hi⟩, .cons ?_ (.cons ⟨_, 0, 0, rfl, rfl, (fun z hz => by simp at hz), Rd.zero _ _ _, Nat.le_refl _⟩ .nil), fun _ _ => Nat.zero_le _, fun _ _ _ _ => Nat.zero_le _⟩
    have hb := bs_const w4 [97, 98] (by intro z hz; simp at hz; omega) (2, 3)
    exact hb.chg (((Chg.refl none_ _).alloc _).alloc _) fun _ _ f => f
  refine (msame_any _ (HL4.out.keep ((((Chg.refl none_ w4).alloc _).alloc _).alloc _)) HLit.out (by omega)).mono ?_
  rintro e w5 ⟨rfl, c5⟩
  rw [show decide (([[97, 98], []] : List (List Int)) = [[97, 98], []]) = true from by decide]
  have HC5 : Hid (Chg none_ w4 w5) := ((((Chg.refl none_ w4).alloc _).alloc _).alloc _).trans c5
  have HR5 := Lib.hid (HR4.out.keep HC5.out)
  have HS5 : Hid (Sen B a w5) := HS.out.below ((HCw4.out.trans HC5.out).old hB)
  clear c5
  go_wp2_with fail
  refine (mheld_any w5 HR5.out).mono ?_
  rintro e w' ⟨rfl, rfl⟩
  rw [show ((hldS (some [1]) : Nat) : Int) = 1 from rfl]
  go_wp2_with fail
  refine (mdone_any w5 HS5.out HR5.out).mono ?_
  rintro e w' ⟨rfl, rfl⟩
  rw [show dnC (some [1]) = 3 from rfl]
  go_wp2_with fail
  refine (code_any w5 HS5.out 3 (by decide)).mono ?_
  rintro e w' ⟨rfl, rfl⟩
  go_wp2
  go_ret
  exact ⟨rfl, HCw4.out.trans HC5.out⟩
end
end Go.Proofs.YthalmjjbamglgaaDoor
