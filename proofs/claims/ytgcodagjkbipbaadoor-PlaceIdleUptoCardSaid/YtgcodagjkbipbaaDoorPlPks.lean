/-
  The walk of culvertlaw21.PlacePicks.
  No condition of its own: the fact 'Sen' on the world; the argument reads as rows.
-/
import Derived.Test.YtgcodagjkbipbaaDoorPlCat
import Derived.Test.YtgcodagjkbipbaaDoorPlRef
import Derived.OwnWalk
namespace Go.Proofs.YtgcodagjkbipbaaDoor
open Go.RowKit

theorem own_chg {w w' : World} {base : Nat} {e : TypeId} {s : Nat} {v : Value} {n : Nat} {xs : List Value} (h : w.ownsRow base e s v n xs) (hc : Chg none_ w w') : w'.ownsRow base e s v n xs := by
  refine ⟨h.1, ?_⟩
  rcases h.2 with h2 | ⟨g, cap, cur, hv, hb, hg, h3⟩
  · exact .inl h2
  · exact .inr ⟨g, cap, cur, hv, hb, (hc.block g (Array.getElem?_eq_some_iff.1 hg).1 (fun f => f)).trans hg, h3⟩
def more2 : Nat → Ld := ldl [⟨true, false, -7, 7⟩, ⟨true, false, -8, 8⟩]
theorem tail_at {u : World} {ad2 : Addr} {n : Nat} {L : Nat → Ld} (h : Lds u (some ad2) (n + 2) (catL L n more2)) :
    (u.cell? (ad2.add (n * 4)) = some (.bool true) ∧ u.cell? ⟨(ad2.add (n * 4)).block, (ad2.add (n * 4)).off + 1, none⟩ = some (.bool false) ∧ u.cell? ⟨(ad2.add (n * 4)).block, (ad2.add (n * 4)).off + 2, none⟩ = some (.int .i64 (-7)) ∧ u.cell? ⟨(ad2.add (n * 4)).block, (ad2.add (n * 4)).off + 3, none⟩ = some (.int .i64 7)) ∧ (u.cell? (ad2.add ((n + 1) * 4)) = some (.bool true) ∧ u.cell? ⟨(ad2.add ((n + 1) * 4)).block, (ad2.add ((n + 1) * 4)).off + 1, none⟩ = some (.bool false) ∧ u.cell? ⟨(ad2.add ((n + 1) * 4)).block, (ad2.add ((n + 1) * 4)).off + 2, none⟩ = some (.int .i64 (-8)) ∧ u.cell? ⟨(ad2.add ((n + 1) * 4)).block, (ad2.add ((n + 1) * 4)).off + 3, none⟩ = some (.int .i64 8)) := by
  have hWn : catL L n more2 n = ⟨true, false, -7, 7⟩ := by unfold catL; rw [if_neg (by omega), Nat.sub_self]; rfl
  have hWn1 : catL L n more2 (n + 1) = ⟨true, false, -8, 8⟩ := by unfold catL; rw [if_neg (by omega), show n + 1 - n = 1 by omega]; rfl
  obtain ⟨c0, c1, c2, c3⟩ := ldAt h (show n < n + 2 by omega)
  obtain ⟨d0, d1, d2, d3⟩ := ldAt h (show n + 1 < n + 2 by omega)
  rw [hWn] at c0 c1 c2 c3
  rw [hWn1] at d0 d1 d2 d3
  exact ⟨⟨c0, c1, c2, c3⟩, d0, d1, d2, d3⟩

set_option maxRecDepth 100000 in
set_option maxHeartbeats 4000000 in
theorem picks_walk {a : Nat → Addr} (w : World) (hs : Sen w.heap.size a w) (A : Option Addr) (n c : Nat) (L : Nat → Ld) (m : Int) (hr : Lds w A n L) (hnil : A = none → c = 0) (hb : n * 24 ≤ 140737488351232) :
    Calls Tryd.prog 8 #[.slice A n c, .int .i64 m] w fun e w' => e = .returned (.bool true) ∧ Below w.heap.size w w' := by
  have hB : w.heap.size ≤ w.heap.size := Nat.le_refl _
  have HS := Lib.hid hs
  have HR := Lib.hid hr
  have HN := Lib.hid hnil
  clear hs hr hnil
  obtain ⟨i0, hi, hz0, hz1, hz2⟩ := info_parts Tryd.infoLd
  have HI := Lib.hid (And.intro hi (And.intro hz0 (And.intro hz1 hz2)))
  clear hi hz0 hz1 hz2
  have hn63 : n ≤ 4611686018427387904 := by omega
  go_enter Tryd.func8, Tryd.ntmps8
  go_wp2_with fail
  refine (pfixed_any w HS.out hB).mono ?_
  rintro e w1 ⟨rfl, c1⟩
  have HC1 := Lib.hid c1
  clear c1
  go_wp2_with fail
  refine (rpick_any w1 A n c L m hn63 (HR.out.chg (by decide) HC1.out (fun _ _ _ f => f))).mono ?_
  rintro e w2 ⟨rfl, k2⟩
  have HC2 := Lib.hid (HC1.out.trans k2)
  clear k2 HC1
  go_wp2_with (at_make; refine wpList_make_own _ rfl _ _ 76 rfl w.heap.size 72 i0 _ 4 Tryd.underlying76 HI.out.1 HI.out.2.1 HI.out.2.2.1 _ _ _ (n + 2) rfl rfl ?m1 ?m2 ?m3 HC2.out.size ?_)
  case m1 => omega
  case m2 => rw [HI.out.2.2.2]; omega
  case m3 => simp only [maxLen]; omega
  intro w3 hown3 hg3
  have HC3 : Hid (Chg none_ w w3) := HC2.out.grown hg3 (fun k e => by cases e)
  clear hg3
  go_wp2_with (at_builtin; refine wpList_append_lds rfl (.tmp 24) (.tmp 25) rfl w.heap.size HC3.out.size _ rfl hown3 A n c L rfl ?b3 HN.out hb ?_)
  case b3 => exact HR.out.chg (by decide) HC3.out (fun _ _ _ f => f)
  intro v4 w4 hown4 hg4
  have HC4 := Lib.hid (chg_grown HC3.out hg4 HC2.out.size)
  clear hg4 hown3 HC3
  go_wp2_with fail
  refine (load_v _ (-7) 7).mono ?_
  rintro e w5 ⟨rfl, k5⟩
  have HC5 := Lib.hid (HC4.out.trans k5)
  have hown5 := own_chg hown4 k5
  clear k5 hown4 HC4
  go_wp2_with fail
  refine (load_v _ (-8) 8).mono ?_
  rintro e w6 ⟨rfl, k6⟩
  have HC6 := Lib.hid (HC5.out.trans k6)
  have hown6 := own_chg hown5 k6
  clear k6 hown5 HC5
  go_wp2_with (at_builtin; refine wpList_append_cat rfl (.tmp 26) (.tmp 29) rfl w.heap.size (HC6.out.alloc _).size v4 n L rfl (hown6.alloc _) ⟨w6.heap.size, 0, none⟩ 2 2 more2 rfl (lds_flat (xs := [⟨true, false, -7, 7⟩, ⟨true, false, -8, 8⟩]) (Is.new w6 _ _)) (by omega) ?_)
  intro v7 w7 hown7 hg7
  have HC7 : Hid (Chg none_ w w7) := (HC6.out.alloc _).grown hg7 (fun g e hk => by have := ((hown6.alloc (.cells #[] 0)).lt g e).1; omega)
  obtain ⟨g, cc, rfl, hcc, hbg, h7⟩ := lds_own2 hown7 (by omega)
  generalize (⟨g, 0, none⟩ : Addr) = ad2 at h7 ⊢
  have H7 := Lib.hid h7
  clear hbg hg7 hown6 hown7 h7 HC6
  have hW : ∀ i, i < n → catL L n more2 i = L i := fun i h => by unfold catL; rw [if_pos h]
  have HP := Lib.hid (fun u (hu : Chg none_ w7 u) => pick_any u (HS.out.below ((HC7.out.trans hu).old hB)) (HC7.out.trans hu).size (some ad2) n cc L m hn63 ((Lds.take (H7.out.chg (by decide) hu (fun _ _ _ f => f)) (by omega)).congr hW))
  have HQ := Lib.hid (fun u (hu : Chg none_ w7 u) => code_any u (HS.out.below ((HC7.out.trans hu).old hB)) _ (pkC_le L m n))
  have HV := Lib.hid (fun i h => (hW i h).symm)
  clear hW
  generalize pkV L m n = V at HP
  generalize pkC L m n = C at HP HQ
  have hnc : n ≤ cc := by omega
  have hni : (n : Int) ≤ (cc : Int) := by omega
  go_wp2_with fail
  go_loopw [9] (fun xi wr => ∃ k : Nat, k ≤ 2 ∧ xi = .int .i64 k ∧ Chg none_ w7 wr) (fun xi _ => 2 - (intOf xi).toNat)
  case atStart => exact ⟨0, by omega, rfl, Chg.refl _ _⟩
  case round =>
    obtain ⟨k, hk, rfl, hg⟩ := hrel
    by_cases hk2 : k < 2
    · have HG := Lib.hid hg
      clear hg
      go_wp2_with (go_at_call 38; refine (HP.out _ HG.out).mono ?_; rintro e w8 ⟨rfl, k8⟩; have HG8 := Lib.hid (HG.out.trans k8))
      refine (HQ.out _ HG8.out).mono ?_
      rintro e w' ⟨rfl, rfl⟩
      go_wp2_with fail
      go_roundw
      case rel => exact ⟨k + 1, by omega, by go_num, HG8.out⟩
      case measure => simp [intOf]; omega
    · obtain rfl : k = 2 := by omega
      have HG := Lib.hid hg
      clear hg
      go_wp2_with fail
      go_loopw [56] (fun xi wr => ∃ k : Nat, k ≤ n ∧ xi = .int .i64 k ∧ Chg none_ w7 wr) (fun xi _ => n - (intOf xi).toNat)
      case atStart => exact ⟨0, by omega, rfl, HG.out⟩
      case round =>
        obtain ⟨k, hk, rfl, hg⟩ := hrel
        have HG1 := Lib.hid hg
        have HL1 := Lib.hid (H7.out.chg (by decide) hg (fun _ _ _ f => f))
        clear hg
        by_cases hkn : k < n
        · obtain ⟨ad, rfl, hcell⟩ := HR.out (by omega)
          clear hcell
          have H8 := HR.out.chg (by decide) (HC7.out.trans HG1.out) (fun _ _ _ f => f)
          obtain ⟨x0, x1, x2, x3⟩ := ldAt H8 hkn
          obtain ⟨y0, y1, y2, y3⟩ := ldAt HL1.out (show k < n + 2 by omega)
          rw [← HV.out k hkn] at y0 y1 y2 y3
          clear H8
          have hk3 : (k : Int) < (n : Int) + 2 := by omega
          go_wp2_with fail
          go_quiet (fail)
          go_wp2_with fail
          go_roundw
          case rel => exact ⟨k + 1, by omega, by go_num, HG1.out.drewN _⟩
          case measure => simp [intOf]; omega
        · obtain rfl : k = n := by omega
          have hi1 : (k : Int) < (k : Int) + 2 := by omega
          have hi2 : (k : Int) + 1 < (k : Int) + 2 := by omega
          have hi3 : (0 : Int) ≤ (k : Int) + 1 := by omega
          have hi4 : IntKind.i64.wrap ((k : Int) + 1) = (k : Int) + 1 := IntWalk.i64_in _ (by omega)
          have hi5 : ((k : Int) + 1).toNat = k + 1 := by omega
          go_wp2_with fail
          go_region_held3 (fun u => (u.cell? (ad2.add (k * 4)) = some (.bool true) ∧ u.cell? ⟨(ad2.add (k * 4)).block, (ad2.add (k * 4)).off + 1, none⟩ = some (.bool false) ∧ u.cell? ⟨(ad2.add (k * 4)).block, (ad2.add (k * 4)).off + 2, none⟩ = some (.int .i64 (-7)) ∧ u.cell? ⟨(ad2.add (k * 4)).block, (ad2.add (k * 4)).off + 3, none⟩ = some (.int .i64 7)) ∧ (u.cell? (ad2.add ((k + 1) * 4)) = some (.bool true) ∧ u.cell? ⟨(ad2.add ((k + 1) * 4)).block, (ad2.add ((k + 1) * 4)).off + 1, none⟩ = some (.bool false) ∧ u.cell? ⟨(ad2.add ((k + 1) * 4)).block, (ad2.add ((k + 1) * 4)).off + 2, none⟩ = some (.int .i64 (-8)) ∧ u.cell? ⟨(ad2.add ((k + 1) * 4)).block, (ad2.add ((k + 1) * 4)).off + 3, none⟩ = some (.int .i64 8)))
            (first | exact tail_at (u := World.drew _) HL1.out | exact tail_at HL2.out | exact tail_at HL3.out)
            (first
              | (go_at_call 39; refine (load_v _ _ _).mono ?_; rintro e w9 ⟨rfl, k9⟩; have HL3 := Lib.hid (HL2.out.chg (by decide) k9 (fun _ _ _ f => f)); have HG3 := Lib.hid (HG2.out.trans k9))
              | (go_at_call 39; refine (load_v _ _ _).mono ?_; rintro e w8 ⟨rfl, k8⟩; have HL2 := Lib.hid (Rds.chg (w := World.drew _) HL1.out (by decide) k8 (fun _ _ _ f => f)); have HG2 := Lib.hid (HG1.out.drew.trans k8)))
          go_wp2
          go_ret
          exact ⟨rfl, (HC7.out.trans HG3.out).old hB⟩
end Go.Proofs.YtgcodagjkbipbaaDoor
