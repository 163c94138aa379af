/-
  The document's Next by contracts: one case.
  No condition of its own.
-/
import Derived.Test.YthalmjjbamglgaaDoorPlX
namespace Go.Proofs.YthalmjjbamglgaaDoor
open Go.RowKit
set_option linter.unusedSimpArgs false
set_option linter.unusedVariables false

section
variable (w : World) (id W st fr c l o : Int) (mine acc cl lo li td rs ct : Bool) (A1 A2 : Option Addr) (n1 k1 n2 k2 : Nat)
set_option maxRecDepth 100000 in
set_option maxHeartbeats 4000000 in
theorem qnext_c (hrd : ∀ u, Calls Tryd.prog 62 #[.agg #[.int .u32 id, .int .i64 W, .int .i64 st, .int .i64 fr, .bool mine, .bool acc, (.slice A1 n1 k1), .bool true, .bool lo, .int .i64 c, (.slice A2 n2 k2), .int .i64 l, .int .i64 o, .bool li, .bool td, .bool rs, .bool ct]] u fun e w' => e = .returned (.bool true) ∧ Chg none_ u w') (us : List Int) (hu : us.length = n1) (bu : Byt us) (hru : Rd w A1 n1 fun i => .int .u8 (us.getD i 0)) (h2 : n1 ≤ 4294967296) (hk : n1 ≤ k1) (q m rn : Nat) (hq : ((n1 : Int) ≤ c ∧ q = n1) ∨ (c < (n1 : Int) ∧ c = (q : Int))) (hm : ((q : Int) ≤ fr ∧ m = q) ∨ (fr < (q : Int) ∧ fr = (m : Int))) (hmn : m ≤ n1) (hm2 : m ≤ 4294967295) (hrn : n1 - m = rn) (hc0 : (m : Int) ≤ c) (hc1 : c ≤ 4294967295) (hz : ¬ rn = 0) (hm0 : 0 < m) : Calls Tryd.prog 92 #[.agg #[.int .u32 id, .int .i64 W, .int .i64 st, .int .i64 fr, .bool mine, .bool acc, (.slice A1 n1 k1), .bool true, .bool lo, .int .i64 c, (.slice A2 n2 k2), .int .i64 l, .int .i64 o, .bool li, .bool td, .bool rs, .bool ct]] w fun e w' => ∃ A4 k4 A5 k5, e = .returned (.tuple #[.agg #[.int .u32 id, .int .i64 W, .int .i64 st, .int .i64 fr, .bool mine, .bool acc, (.slice A5 rn k5), .bool true, .bool lo, .int .i64 (c - (m : Int)), (.slice A2 n2 k2), .int .i64 l, .int .i64 o, .bool li, .bool td, .bool rs, .bool ct], .agg #[.int .u8 0, .int .u8 0, .int .u16 0, .int .u32 id, .int .u32 (m : Int), .slice A4 m k4], .bool true]) ∧ BsO w' (.slice A4 m k4) (us.take m) ∧ BsO w' (.slice A5 rn k5) (us.drop m) ∧ (∀ k, rdk (.slice A4 m k4) = some k → w.heap.size ≤ k ∧ k < w'.heap.size) ∧ (∀ k, rdk (.slice A5 rn k5) = some k → w.heap.size ≤ k ∧ k < w'.heap.size) ∧ Chg none_ w w' := by
  have HRu : Hid (∀ u, Chg none_ w u → Rd u A1 n1 fun i => .int .u8 (us.getD i 0)) := fun u hc => hru.keep (hc.old (Nat.le_refl _))
  have HB : Hid (Byt us) := bu
  have HLn : Hid (us.length = n1) := hu
  have HQ := Lib.hid (And.intro hq hm)
  have HRn := Lib.hid hrn
  have hmI : (m : Int) ≤ (k1 : Int) := by omega
  have hmk : m ≤ k1 := by omega
  have hu32 : IntKind.u32.wrap (m : Int) = (m : Int) := IntWalk.u32_in _ (by omega)
  have hcm : IntKind.i64.wrap (c - (m : Int)) = c - (m : Int) := IntWalk.i64_in _ (by omega)
  have hz2 : ¬ (rn : Int) = 0 := by omega
  clear hru bu hu hq hm hrn
  obtain ⟨w0, hw0⟩ : ∃ y, w.alloc (.cells #[.int .u32 id, .int .i64 W, .int .i64 st, .int .i64 fr, .bool mine, .bool acc, (.slice A1 n1 k1), .bool true, .bool lo, .int .i64 c, (.slice A2 n2 k2), .int .i64 l, .int .i64 o, .bool li, .bool td, .bool rs, .bool ct] 51) = y := ⟨_, rfl⟩
  obtain ⟨w01, hw01⟩ : ∃ y, w0.alloc (.cells #[.int .u32 0, .int .i64 0, .int .i64 0, .int .i64 0, .bool false, .bool false, .slice none 0 0, .bool false, .bool false, .int .i64 0, .slice none 0 0, .int .i64 0, .int .i64 0, .bool false, .bool false, .bool false, .bool false] 51) = y := ⟨_, rfl⟩
  obtain ⟨w1, hw1⟩ : ∃ y, w01.alloc (.cells #[.int .u8 0, .int .u8 0, .int .u16 0, .int .u32 0, .int .u32 0, .slice none 0 0] 72) = y := ⟨_, rfl⟩
  obtain ⟨p, hp⟩ : ∃ y, w.heap.size = y := ⟨_, rfl⟩
  obtain ⟨r, hr⟩ : ∃ y, w0.heap.size = y := ⟨_, rfl⟩
  obtain ⟨f, hf⟩ : ∃ y, w01.heap.size = y := ⟨_, rfl⟩
  have l0 : r = p + 1 := by rw [← hr, ← hw0, ← hp]; simp
  have l1 : f = p + 2 := by rw [← hf, ← hw01]; simp; omega
  have k0 : Chg none_ w w1 := by rw [← hw1, ← hw01, ← hw0]; exact (((Chg.refl none_ w).alloc _).alloc _).alloc _
  have b1 : Is w1 p 51 #[.int .u32 id, .int .i64 W, .int .i64 st, .int .i64 fr, .bool mine, .bool acc, (.slice A1 n1 k1), .bool true, .bool lo, .int .i64 c, (.slice A2 n2 k2), .int .i64 l, .int .i64 o, .bool li, .bool td, .bool rs, .bool ct] := by rw [← hw1, ← hw01, ← hw0, ← hp]; exact ((Is.new w _ _).alloc _).alloc _
  have r1 : Is w1 r 51 #[.int .u32 0, .int .i64 0, .int .i64 0, .int .i64 0, .bool false, .bool false, .slice none 0 0, .bool false, .bool false, .int .i64 0, .slice none 0 0, .int .i64 0, .int .i64 0, .bool false, .bool false, .bool false, .bool false] := by rw [← hw1, ← hw01, ← hr]; exact (Is.new w0 _ _).alloc _
  have f1 : Is w1 f 72 #[.int .u8 0, .int .u8 0, .int .u16 0, .int .u32 0, .int .u32 0, .slice none 0 0] := by rw [← hw1, ← hf]; exact Is.new w01 _ _
  have HP := Lib.hid (And.intro hp (And.intro l0 l1))
  have K1 := Lib.hid k0
  have B1 := Lib.hid b1
  have R1 := Lib.hid r1
  have F1 := Lib.hid f1
  clear b1 r1 f1 k0 l0 l1
  have HRD := Lib.hid hrd
  clear hrd
  go_enter Tryd.func92, Tryd.ntmps92
  go_wp2_with (refine ldS rfl _ rfl rfl B1.out rfl ?_)
  refine (HRD.out _).mono ?_
  rintro e w2 ⟨rfl, c2⟩
  have B2 := Lib.hid (B1.out.chg c2 fun f => f)
  have R2 := Lib.hid (R1.out.chg c2 fun f => f)
  have F2 := Lib.hid (F1.out.chg c2 fun f => f)
  have K2 := Lib.hid (K1.out.trans c2)
  clear c2 hw0 hw01 hw1 hp hr hf
  have p6 : w2.cell? ⟨p, 6, none⟩ = some ((.slice A1 n1 k1)) := B2.out.at_ 6 _ rfl
  have p9 : w2.cell? ⟨p, 9, none⟩ = some (.int .i64 c) := B2.out.at_ 9 _ rfl
  go_upto_if 20 with fail
  go_cut [6] (fun v wx => v = .int .i64 (q : Int) ∧ Is wx p 51 #[.int .u32 id, .int .i64 W, .int .i64 st, .int .i64 fr, .bool mine, .bool acc, (.slice A1 n1 k1), .bool true, .bool lo, .int .i64 c, (.slice A2 n2 k2), .int .i64 l, .int .i64 o, .bool li, .bool td, .bool rs, .bool ct] ∧ Is wx r 51 #[.int .u32 0, .int .i64 0, .int .i64 0, .int .i64 0, .bool false, .bool false, .slice none 0 0, .bool false, .bool false, .int .i64 0, .slice none 0 0, .int .i64 0, .int .i64 0, .bool false, .bool false, .bool false, .bool false] ∧ Is wx f 72 #[.int .u8 0, .int .u8 0, .int .u16 0, .int .u32 0, .int .u32 0, .slice none 0 0] ∧ Chg none_ w wx)
  case first =>
    rcases HQ.out.1 with ⟨h, h'⟩ | ⟨h, h'⟩
    · have hg : ¬ c < (n1 : Int) := by omega
      have HX := Lib.hid h'
      clear h h'
      go_wp2_with fail
      go_meet
      exact ⟨by rw [HX.out], B2.out, R2.out, F2.out, K2.out⟩
    · have HX := Lib.hid h'
      clear h'
      go_wp2_with fail
      go_meet
      exact ⟨by rw [← HX.out], B2.out, R2.out, F2.out, K2.out⟩
  case rest =>
    obtain ⟨w3, rfl⟩ : ∃ y, y = wc := ⟨_, rfl⟩
    obtain ⟨rfl, i1, i2, i3, i4⟩ := hcut
    have B3 := Lib.hid i1
    have R3 := Lib.hid i2
    have F3 := Lib.hid i3
    have K3 := Lib.hid i4
    have p3 : w3.cell? ⟨p, 3, none⟩ = some (.int .i64 fr) := B3.out.at_ 3 _ rfl
    clear i1 i2 i3 i4 p6 p9
    go_upto_if 26 with fail
    go_cut [6] (fun v wx => v = .int .i64 (m : Int) ∧ Is wx p 51 #[.int .u32 id, .int .i64 W, .int .i64 st, .int .i64 fr, .bool mine, .bool acc, (.slice A1 n1 k1), .bool true, .bool lo, .int .i64 c, (.slice A2 n2 k2), .int .i64 l, .int .i64 o, .bool li, .bool td, .bool rs, .bool ct] ∧ Is wx r 51 #[.int .u32 0, .int .i64 0, .int .i64 0, .int .i64 0, .bool false, .bool false, .slice none 0 0, .bool false, .bool false, .int .i64 0, .slice none 0 0, .int .i64 0, .int .i64 0, .bool false, .bool false, .bool false, .bool false] ∧ Is wx f 72 #[.int .u8 0, .int .u8 0, .int .u16 0, .int .u32 0, .int .u32 0, .slice none 0 0] ∧ Chg none_ w wx)
    case first =>
      rcases HQ.out.2 with ⟨h, h'⟩ | ⟨h, h'⟩
      · have hg : ¬ fr < (q : Int) := by omega
        have HX := Lib.hid h'
        clear h h'
        go_wp2_with fail
        go_meet
        exact ⟨by rw [HX.out], B3.out, R3.out, F3.out, K3.out⟩
      · have HX := Lib.hid h'
        clear h'
        go_wp2_with fail
        go_meet
        exact ⟨by rw [← HX.out], B3.out, R3.out, F3.out, K3.out⟩
    case rest =>
      obtain ⟨w4, rfl⟩ : ∃ y, y = wc := ⟨_, rfl⟩
      obtain ⟨rfl, i1, i2, i3, i4⟩ := hcut
      have B4 := Lib.hid i1
      have R4 := Lib.hid i2
      have F4 := Lib.hid i3
      have K4 := Lib.hid i4
      clear i1 i2 i3 i4 p3
      have HS4 : Hid (∀ u, Chg none_ w4 u → Is u p 51 #[.int .u32 id, .int .i64 W, .int .i64 st, .int .i64 fr, .bool mine, .bool acc, (.slice A1 n1 k1), .bool true, .bool lo, .int .i64 c, (.slice A2 n2 k2), .int .i64 l, .int .i64 o, .bool li, .bool td, .bool rs, .bool ct] ∧ u.cell? ⟨p, 0, none⟩ = some (.int .u32 id) ∧ u.cell? ⟨p, 6, none⟩ = some ((.slice A1 n1 k1))) := fun u hc => ⟨B4.out.chg hc fun f => f, (B4.out.chg hc fun f => f).at_ 0 _ rfl, (B4.out.chg hc fun f => f).at_ 6 _ rfl⟩
      have HGE : Hid (p + 2 < w4.heap.size) := by show _ < _; have := F4.out.lt; have := HP.out; omega
      go_upto_region 9 with fail
      have HC4 : Hid (∀ u, Chg none_ w4 u → Is u p 51 #[.int .u32 id, .int .i64 W, .int .i64 st, .int .i64 fr, .bool mine, .bool acc, (.slice A1 n1 k1), .bool true, .bool lo, .int .i64 c, (.slice A2 n2 k2), .int .i64 l, .int .i64 o, .bool li, .bool td, .bool rs, .bool ct] ∧ Is u r 51 #[.int .u32 0, .int .i64 0, .int .i64 0, .int .i64 0, .bool false, .bool false, .slice none 0 0, .bool false, .bool false, .int .i64 0, .slice none 0 0, .int .i64 0, .int .i64 0, .bool false, .bool false, .bool false, .bool false] ∧ Is u f 72 #[.int .u8 0, .int .u8 0, .int .u16 0, .int .u32 0, .int .u32 0, .slice none 0 0] ∧ Chg none_ w u) := fun u hc => ⟨B4.out.chg hc fun f => f, R4.out.chg hc fun f => f, F4.out.chg hc fun f => f, K4.out.trans hc⟩
      go_cut [7] (fun v wx => ∃ g A4_ k4_, v = .pointer (some ⟨g, 0, none⟩) ∧ p + 2 < g ∧ Is wx g 72 #[.int .u8 0, .int .u8 0, .int .u16 0, .int .u32 id, .int .u32 (m : Int), .slice A4_ m k4_] ∧ Ob wx (p + 3) 5 (.slice A4_ m k4_) m ((us.take m).map (Value.int .u8)) ∧ (∀ k, obk (.slice A4_ m k4_) = some k → k ≠ g) ∧ Is wx p 51 #[.int .u32 id, .int .i64 W, .int .i64 st, .int .i64 fr, .bool mine, .bool acc, (.slice A1 n1 k1), .bool true, .bool lo, .int .i64 c, (.slice A2 n2 k2), .int .i64 l, .int .i64 o, .bool li, .bool td, .bool rs, .bool ct] ∧ Is wx r 51 #[.int .u32 0, .int .i64 0, .int .i64 0, .int .i64 0, .bool false, .bool false, .slice none 0 0, .bool false, .bool false, .int .i64 0, .slice none 0 0, .int .i64 0, .int .i64 0, .bool false, .bool false, .bool false, .bool false] ∧ Is wx f 72 #[.int .u8 0, .int .u8 0, .int .u16 0, .int .u32 0, .int .u32 0, .slice none 0 0] ∧ Chg none_ w wx)
      case first =>
        go_region_held3 (fun u => Is u p 51 #[.int .u32 id, .int .i64 W, .int .i64 st, .int .i64 fr, .bool mine, .bool acc, (.slice A1 n1 k1), .bool true, .bool lo, .int .i64 c, (.slice A2 n2 k2), .int .i64 l, .int .i64 o, .bool li, .bool td, .bool rs, .bool ct] ∧ u.cell? ⟨p, 0, none⟩ = some (.int .u32 id) ∧ u.cell? ⟨p, 6, none⟩ = some ((.slice A1 n1 k1)))
          (first | assumption | with_reducible exact s06_alc (by assumption) _ | exact HS4.out _ (by repeat' (first | with_reducible exact Chg.refl none_ w4 | with_reducible apply Chg.drew | with_reducible apply Chg.alloc)))
          ((first
            | (refine step_append_pos rfl (.tmp 34) (.tmp 38) rfl rfl A1 m k1 (us.take m) rfl ?hl5 (rd_take' (HRu.out _ (K4.out.trans ?hc5)) hmn) hm0 ?hb5 (p + 3) (w4.heap.size + 1) ?hz5 ?hy5 ?_
               (case hy5 => simp; done)
               (case hl5 => have := HLn.out; rw [List.length_take]; omega)
               (case hb5 => omega)
               (case hz5 => have := HGE.out; omega)
               (case hc5 => repeat' (first | with_reducible exact Chg.refl none_ w4 | with_reducible apply Chg.drew | with_reducible apply Chg.alloc))
               intro row cap h1
               have O5 := Lib.hid h1
               clear h1)
            | (refine step_append_pos rfl (.tmp 34) (.tmp 38) rfl rfl A1 m k1 (us.take m) rfl ?hl5 (rd_take' (HRu.out _ (K4.out.trans ?hc5)) hmn) hm0 ?hb5 (p + 3) (w4.heap.size + 1 + 1) ?hz5 ?hy5 ?_
               (case hy5 => simp; done)
               (case hl5 => have := HLn.out; rw [List.length_take]; omega)
               (case hb5 => omega)
               (case hz5 => have := HGE.out; omega)
               (case hc5 => repeat' (first | with_reducible exact Chg.refl none_ w4 | with_reducible apply Chg.drew | with_reducible apply Chg.alloc))
               intro row cap h1
               have O5 := Lib.hid h1
               clear h1)))
        all_goals (
          go_wp2_with fail
          go_meet
          first
            | exact ⟨_, _, _, rfl, (by have := HGE.out; omega), Is.drew1_ (Is.drew1_ (isn3 w4 _ _ _ _)), (O5.out.chg ((Chg.refl none_ _).alloc _) (fun _ _ f => f)).hp rfl, (fun k hk => by have := obk_at hk; omega), HC4.out _ (Chg.drew (Chg.drew (Chg.alloc (Chg.alloc (Chg.alloc (Chg.refl none_ w4) _) _) _)))⟩
            | exact ⟨_, _, _, rfl, (by have := HGE.out; omega), Is.drew1_ (Is.drew1_ (Is.alloc (isn2 w4 _ _ _) _)), O5.out.keep (fun k hk => by obtain rfl := obk_at hk; exact (heap3 w4 _ _ _).trans (heap3 w4 _ _ _).symm), (fun k hk => by have := obk_at hk; omega), HC4.out _ (Chg.drew (Chg.drew (Chg.alloc (Chg.alloc (Chg.alloc (Chg.refl none_ w4) _) _) _)))⟩
            | exact ⟨_, _, _, rfl, (by have := HGE.out; omega), Is.drew1_ (Is.drew1_ (Is.alloc (Is.alloc (Is.new w4 _ _) _) _)), O5.out.keep (fun k hk => by obtain rfl := obk_at hk; exact (heap3 w4 _ _ _).trans (heap3 w4 _ _ _).symm), (fun k hk => by have := obk_at hk; omega), HC4.out _ (Chg.drew (Chg.drew (Chg.alloc (Chg.alloc (Chg.alloc (Chg.refl none_ w4) _) _) _)))⟩)
      case rest =>
        obtain ⟨w5, rfl⟩ : ∃ y, y = wc := ⟨_, rfl⟩
        obtain ⟨g, A4_, k4_, rfl, hgt, i1, i2, i3, i4, i5, i6, i7⟩ := hcut
        have G5 := Lib.hid i1
        have O5 := Lib.hid i2
        have HNg := Lib.hid i3
        have B5 := Lib.hid i4
        have R5 := Lib.hid i5
        have F5 := Lib.hid i6
        have K5 := Lib.hid i7
        clear i1 i2 i3 i4 i5 i6 i7
        have a6 : ∀ o : Obj, (w5.alloc o).cell? ⟨p, 6, none⟩ = some ((.slice A1 n1 k1)) := fun o => (B5.out.alloc o).at_ 6 _ rfl
        have p6 : w5.cell? ⟨p, 6, none⟩ = some ((.slice A1 n1 k1)) := B5.out.at_ 6 _ rfl
        have p9 : w5.cell? ⟨p, 9, none⟩ = some (.int .i64 c) := B5.out.at_ 9 _ rfl
        have hpr : p ≠ r := by have := HP.out; omega
        have hpf : p ≠ f := by have := HP.out; omega
        have hrf : r ≠ f := by have := HP.out; omega
        have hpg : p ≠ g := by omega
        have hrg : r ≠ g := by have := HP.out; omega
        have hfg : f ≠ g := by have := HP.out; omega
        have HGt := Lib.hid hgt
        go_wp2_with (first
          | (refine wpList_subL_bytes rfl _ _ rfl A1 n1 k1 rfl _ rfl m rfl hmn hk ?_; rw [HRn.out])
          | (at_builtin; refine wpList_append_bytes (v := .slice (some ⟨w5.heap.size, 0, none⟩) 0 0) rfl (.tmp 41) (.tmp 45) rfl rfl (ob_nil _ (g + 1) _ _) (subA A1 m k1) rn (k1 - m) (us.drop m) rfl ?hl6 ?hr6 ?hb6 ?hz6 ?_; (case hl6 => have := HLn.out; have := HRn.out; rw [List.length_drop]; omega); (case hr6 => rw [← HRn.out]; exact rd_drop (HRu.out _ (K5.out.alloc _)) hk hmn); (case hb6 => have := HRn.out; omega); (case hz6 => have := G5.out.lt; simp; omega); intro v6 w6 h1 h2 h3; simp only [Nat.zero_add, List.nil_append] at h1; obtain ⟨A6_, k6_, rfl, _, _⟩ := h1.slice; have U6 := Lib.hid h1; have B6 := Lib.hid ((B5.out.alloc _).grown_ h2 (by simp [obk])); have R6 := Lib.hid ((R5.out.alloc _).grown_ h2 (by simp [obk])); have F6 := Lib.hid ((F5.out.alloc _).grown_ h2 (by simp [obk])); have G6 := Lib.hid ((G5.out.alloc _).grown_ h2 (by simp [obk])); have K6 := Lib.hid ((K5.out.alloc _).grown h2 fun k hk _ => by simp [obk] at hk); have O6 := Lib.hid ((O5.out.chg ((Chg.refl none_ _).alloc _) fun _ _ f => f).chg (((Chg.refl none_ _)).grown h2 fun k hk _ => by simp [obk] at hk) fun _ _ f => f); have p6 : w6.cell? ⟨p, 6, none⟩ = some ((.slice A1 n1 k1)) := B6.out.at_ 6 _ rfl; have p9 : w6.cell? ⟨p, 9, none⟩ = some (.int .i64 c) := B6.out.at_ 9 _ rfl; clear h1 h2 h3)
          | (refine stF rfl _ szB _ _ rfl 6 rfl rfl B6.out rfl (Nat.le_of_ble_eq_true rfl) rfl #[.int .u32 id, .int .i64 W, .int .i64 st, .int .i64 fr, .bool mine, .bool acc, (.slice A6_ rn k6_), .bool true, .bool lo, .int .i64 c, (.slice A2 n2 k2), .int .i64 l, .int .i64 o, .bool li, .bool td, .bool rs, .bool ct] rfl ?_; intro w7 i7 c7; have B7 := Lib.hid i7; have R7 := Lib.hid (R6.out.chg c7 hpr.symm); have F7 := Lib.hid (F6.out.chg c7 hpf.symm); have G7 := Lib.hid (G6.out.chg c7 hpg.symm); have K7 := Lib.hid (chg2 K6.out c7 (by have := HP.out; omega)); have O7 := Lib.hid (O6.out.chg c7 fun k hk e => by have := (O6.out.block k hk).1; omega); have U7 := Lib.hid (U6.out.chg c7 fun k hk e => by have := (U6.out.block k hk).1; have := HGt.out; omega); have p9 : w7.cell? ⟨p, 9, none⟩ = some (.int .i64 c) := B7.out.at_ 9 _ rfl; clear i7 c7)
          | (refine stF rfl _ szI _ _ rfl 9 rfl rfl B7.out rfl (Nat.le_of_ble_eq_true rfl) rfl #[.int .u32 id, .int .i64 W, .int .i64 st, .int .i64 fr, .bool mine, .bool acc, (.slice A6_ rn k6_), .bool true, .bool lo, .int .i64 (c - (m : Int)), (.slice A2 n2 k2), .int .i64 l, .int .i64 o, .bool li, .bool td, .bool rs, .bool ct] rfl ?_; intro w8 i8 c8; have B8 := Lib.hid i8; have R8 := Lib.hid (R7.out.chg c8 hpr.symm); have F8 := Lib.hid (F7.out.chg c8 hpf.symm); have G8 := Lib.hid (G7.out.chg c8 hpg.symm); have K8 := Lib.hid (chg2 K7.out c8 (by have := HP.out; omega)); have O8 := Lib.hid (O7.out.chg c8 fun k hk e => by have := (O7.out.block k hk).1; omega); have U8 := Lib.hid (U7.out.chg c8 fun k hk e => by have := (U7.out.block k hk).1; have := HGt.out; omega); have p7 : w8.cell? ⟨p, 7, none⟩ = some (.bool true) := B8.out.at_ 7 _ rfl; have p6 : w8.cell? ⟨p, 6, none⟩ = some ((.slice A6_ rn k6_)) := B8.out.at_ 6 _ rfl; clear i8 c8))
        have x0 : w8.cell? ⟨p, 0, none⟩ = some (.int .u32 id) := B8.out.at_ 0 _ rfl
        have x1 : w8.cell? ⟨p, 1, none⟩ = some (.int .i64 W) := B8.out.at_ 1 _ rfl
        have x2 : w8.cell? ⟨p, 2, none⟩ = some (.int .i64 st) := B8.out.at_ 2 _ rfl
        have x3 : w8.cell? ⟨p, 3, none⟩ = some (.int .i64 fr) := B8.out.at_ 3 _ rfl
        have x4 : w8.cell? ⟨p, 4, none⟩ = some (.bool mine) := B8.out.at_ 4 _ rfl
        have x5 : w8.cell? ⟨p, 5, none⟩ = some (.bool acc) := B8.out.at_ 5 _ rfl
        have x6 : w8.cell? ⟨p, 6, none⟩ = some ((.slice A6_ rn k6_)) := B8.out.at_ 6 _ rfl
        have x7 : w8.cell? ⟨p, 7, none⟩ = some (.bool true) := B8.out.at_ 7 _ rfl
        have x8 : w8.cell? ⟨p, 8, none⟩ = some (.bool lo) := B8.out.at_ 8 _ rfl
        have x9 : w8.cell? ⟨p, 9, none⟩ = some (.int .i64 (c - (m : Int))) := B8.out.at_ 9 _ rfl
        have x10 : w8.cell? ⟨p, 10, none⟩ = some ((.slice A2 n2 k2)) := B8.out.at_ 10 _ rfl
        have x11 : w8.cell? ⟨p, 11, none⟩ = some (.int .i64 l) := B8.out.at_ 11 _ rfl
        have x12 : w8.cell? ⟨p, 12, none⟩ = some (.int .i64 o) := B8.out.at_ 12 _ rfl
        have x13 : w8.cell? ⟨p, 13, none⟩ = some (.bool li) := B8.out.at_ 13 _ rfl
        have x14 : w8.cell? ⟨p, 14, none⟩ = some (.bool td) := B8.out.at_ 14 _ rfl
        have x15 : w8.cell? ⟨p, 15, none⟩ = some (.bool rs) := B8.out.at_ 15 _ rfl
        have x16 : w8.cell? ⟨p, 16, none⟩ = some (.bool ct) := B8.out.at_ 16 _ rfl
        have y0 : w8.cell? ⟨g, 0, none⟩ = some (.int .u8 0) := G8.out.at_ 0 _ rfl
        have y1 : w8.cell? ⟨g, 1, none⟩ = some (.int .u8 0) := G8.out.at_ 1 _ rfl
        have y2 : w8.cell? ⟨g, 2, none⟩ = some (.int .u16 0) := G8.out.at_ 2 _ rfl
        have y3 : w8.cell? ⟨g, 3, none⟩ = some (.int .u32 id) := G8.out.at_ 3 _ rfl
        have y4 : w8.cell? ⟨g, 4, none⟩ = some (.int .u32 (m : Int)) := G8.out.at_ 4 _ rfl
        have y5 : w8.cell? ⟨g, 5, none⟩ = some (.slice A4_ m k4_) := G8.out.at_ 5 _ rfl
        have z0 : w8.cell? ⟨r, 0, none⟩ = some (.int .u32 0) := R8.out.at_ 0 _ rfl
        have z1 : w8.cell? ⟨r, 1, none⟩ = some (.int .i64 0) := R8.out.at_ 1 _ rfl
        have z2 : w8.cell? ⟨r, 2, none⟩ = some (.int .i64 0) := R8.out.at_ 2 _ rfl
        have z3 : w8.cell? ⟨r, 3, none⟩ = some (.int .i64 0) := R8.out.at_ 3 _ rfl
        have z4 : w8.cell? ⟨r, 4, none⟩ = some (.bool false) := R8.out.at_ 4 _ rfl
        have z5 : w8.cell? ⟨r, 5, none⟩ = some (.bool false) := R8.out.at_ 5 _ rfl
        have z6 : w8.cell? ⟨r, 6, none⟩ = some (.slice none 0 0) := R8.out.at_ 6 _ rfl
        have z7 : w8.cell? ⟨r, 7, none⟩ = some (.bool false) := R8.out.at_ 7 _ rfl
        have z8 : w8.cell? ⟨r, 8, none⟩ = some (.bool false) := R8.out.at_ 8 _ rfl
        have z9 : w8.cell? ⟨r, 9, none⟩ = some (.int .i64 0) := R8.out.at_ 9 _ rfl
        have z10 : w8.cell? ⟨r, 10, none⟩ = some (.slice none 0 0) := R8.out.at_ 10 _ rfl
        have z11 : w8.cell? ⟨r, 11, none⟩ = some (.int .i64 0) := R8.out.at_ 11 _ rfl
        have z12 : w8.cell? ⟨r, 12, none⟩ = some (.int .i64 0) := R8.out.at_ 12 _ rfl
        have z13 : w8.cell? ⟨r, 13, none⟩ = some (.bool false) := R8.out.at_ 13 _ rfl
        have z14 : w8.cell? ⟨r, 14, none⟩ = some (.bool false) := R8.out.at_ 14 _ rfl
        have z15 : w8.cell? ⟨r, 15, none⟩ = some (.bool false) := R8.out.at_ 15 _ rfl
        have z16 : w8.cell? ⟨r, 16, none⟩ = some (.bool false) := R8.out.at_ 16 _ rfl
        have v0 : w8.cell? ⟨f, 0, none⟩ = some (.int .u8 0) := F8.out.at_ 0 _ rfl
        have v1 : w8.cell? ⟨f, 1, none⟩ = some (.int .u8 0) := F8.out.at_ 1 _ rfl
        have v2 : w8.cell? ⟨f, 2, none⟩ = some (.int .u16 0) := F8.out.at_ 2 _ rfl
        have v3 : w8.cell? ⟨f, 3, none⟩ = some (.int .u32 0) := F8.out.at_ 3 _ rfl
        have v4 : w8.cell? ⟨f, 4, none⟩ = some (.int .u32 0) := F8.out.at_ 4 _ rfl
        have v5 : w8.cell? ⟨f, 5, none⟩ = some (.slice none 0 0) := F8.out.at_ 5 _ rfl
        have fr_ : ∀ j, w8.frozen? ⟨r, j, none⟩ = false := fun j => R8.out.frozen j
        have ff_ : ∀ j, w8.frozen? ⟨f, j, none⟩ = false := fun j => F8.out.frozen j
        have hrp := hpr.symm
        have hfp := hpf.symm
        have hfr := hrf.symm
        have hgr := hrg.symm
        have hgf := hfg.symm
        have hgp := hpg.symm
        clear p6 p9 p7 a6
        go_region
        all_goals (
          go_wp2_with fail
          have EE := two_stores (.int .u32 id) (.int .i64 W) (.int .i64 st) (.int .i64 fr) (.bool mine) (.bool acc) ((.slice A6_ rn k6_)) (.bool true) (.bool lo) (.int .i64 (c - (m : Int))) ((.slice A2 n2 k2)) (.int .i64 l) (.int .i64 o) (.bool li) (.bool td) (.bool rs) (.bool ct) (.int .u8 0) (.int .u8 0) (.int .u16 0) (.int .u32 id) (.int .u32 (m : Int)) (.slice A4_ m k4_) R8.out F8.out hrf
          have KK : Chg none_ w _ := K8.out.then EE.2.2 fun k hk e => by have := HP.out; omega
          have O2 := O8.out.chg EE.2.2 fun k hk e => by have := (O8.out.block k hk).1; have := HP.out; omega
          have U2 := U8.out.chg EE.2.2 fun k hk e => by have := (U8.out.block k hk).1; have := HP.out; have := HGt.out; omega
          refine bodyPost_ret (results_cc1 rfl _ rfl EE.1 rfl EE.2.1 Tryd.underlying51 rfl szS Tryd.underlying72 rfl szFr rfl) rfl ?_
          exact ⟨_, _, _, _, rfl, BsO.of_ob O2 (fun z hz => HB.out z (List.mem_of_mem_take hz)), BsO.of_ob U2 (fun z hz => HB.out z (List.mem_of_mem_drop hz)), fun k hk => by have := O2.block k (O2.rdk k hk); have := HP.out; omega, fun k hk => by have := U2.block k (U2.rdk k hk); have := HP.out; have := HGt.out; omega, KK⟩)
end
end Go.Proofs.YthalmjjbamglgaaDoor
