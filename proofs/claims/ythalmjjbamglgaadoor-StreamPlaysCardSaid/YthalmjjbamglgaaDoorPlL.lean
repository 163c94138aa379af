/-
  culvertlaw10.Pair.looks by contract.
  No condition of its own: the facts 'Sen' and 'Tab' on the world; everything lawful (Pri).
-/
import Derived.Test.YthalmjjbamglgaaDoorPlP
import Derived.Test.YthalmjjbamglgaaDoorPlI
import Derived.Test.YthalmjjbamglgaaDoorPlT
import Derived.Test.YthalmjjbamglgaaDoorPlC
import Derived.Deep.RegionHeld3
namespace Go.Proofs.YthalmjjbamglgaaDoor
open Go.RowKit
set_option linter.unusedSimpArgs false
set_option linter.unusedVariables false
section
variable {B : Nat} {A : Nat → Addr}
/-- What can be seen of a stream that is there. -/
theorem rn_look {w wi : World} {T : Nat → Prop} {p : Value} {s : Sm} (h : Rn B A w wi T false p s) :
    (∀ u, Chg none_ wi u → Calls Tryd.prog 54 #[p] u fun e u' => e = .returned (.bool (quB s)) ∧ Chg none_ wi u') ∧
    (∀ u, Chg none_ wi u → Calls Tryd.prog 55 #[p] u fun e u' => e = .returned (.bool (dnB s)) ∧ Chg none_ wi u') ∧
    (∀ u, Chg none_ wi u → Calls Tryd.prog 57 #[p] u fun e u' => e = .returned (.int .i64 ((s.sg.length : Int) + (s.un.length : Int))) ∧ Chg none_ wi u') ∧
    (∀ u, Chg none_ wi u → Calls Tryd.prog 20 #[p] u fun e u' => e = .returned (vwV s) ∧ Chg none_ wi u') ∧
    (∀ u, Chg none_ wi u → Calls Tryd.prog 56 #[p] u fun e u' => e = .returned (.bool (rdyB s)) ∧ Chg none_ wi u') := by
  refine ⟨fun u hu => ?_, fun u hu => ?_, fun u hu => ?_, fun u hu => ?_, fun u hu => ?_⟩
  all_goals
    obtain ⟨g, rfl, r⟩ := (h.grow hu).run rfl
    obtain ⟨Ti, h1, h2⟩ := r.ex
  · exact (squiet_any u h1).mono fun e wj ⟨e1, e2⟩ => ⟨e1, e2 ▸ hu⟩
  · exact (sdone_any u h1).mono fun e wj ⟨e1, e2⟩ => ⟨e1, e2 ▸ hu⟩
  · exact (sheld_any u h1).mono fun e wj ⟨e1, e2⟩ => ⟨e1, hu.trans e2⟩
  · exact (sview_any u h1).mono fun e wj ⟨e1, e2⟩ => ⟨e1, hu.trans e2⟩
  · exact (sready_any u r.sen h1).mono fun e wj ⟨e1, e2⟩ => ⟨e1, e2 ▸ hu⟩
/-- .. and of the document's. -/
theorem rf_look {w : World} {U : Nat → Prop} {s : Sm} {x : Value} (h : Rf w U s x) :
    (∀ u, Chg none_ w u → Calls Tryd.prog 58 #[x] u fun e u' => e = .returned (.bool (quB s)) ∧ Chg none_ w u') ∧
    (∀ u, Chg none_ w u → Calls Tryd.prog 59 #[x] u fun e u' => e = .returned (.bool (dnB s)) ∧ Chg none_ w u') ∧
    (∀ u, Chg none_ w u → Calls Tryd.prog 60 #[x] u fun e u' => e = .returned (.int .i64 ((s.sg.length : Int) + (s.un.length : Int))) ∧ Chg none_ w u') ∧
    (∀ u, Chg none_ w u → Calls Tryd.prog 61 #[x] u fun e u' => e = .returned (vwV s) ∧ Chg none_ w u') ∧
    (∀ u, Chg none_ w u → Calls Tryd.prog 62 #[x] u fun e u' => e = .returned (.bool (rdyB s)) ∧ Chg none_ w u') :=
  ⟨fun u hu => (m_quiet (h.keep hu)).mono fun e wj ⟨e1, e2⟩ => ⟨e1, hu.trans e2⟩, fun u hu => (m_done (h.keep hu)).mono fun e wj ⟨e1, e2⟩ => ⟨e1, hu.trans e2⟩, fun u hu => (m_held (h.keep hu)).mono fun e wj ⟨e1, e2⟩ => ⟨e1, hu.trans e2⟩,
    fun u hu => (m_view (h.keep hu)).mono fun e wj ⟨e1, e2⟩ => ⟨e1, hu.trans e2⟩, fun u hu => (m_ready (h.keep hu)).mono fun e wj ⟨e1, e2⟩ => ⟨e1, hu.trans e2⟩⟩
theorem vw_form (s : Sm) : ∃ (v0 v1 v4 v5 v6 v7 v8 : Int) (v2 v3 v9 v10 : Bool), vwV s = .agg #[.int .u32 v0, .int .i64 v1, .bool v2, .bool v3, .int .i64 v4, .int .u32 v5, .int .i64 v6, .int .i64 v7, .int .i64 v8, .bool v9, .bool v10] := ⟨_, _, _, _, _, _, _, _, _, _, _, rfl⟩
set_option maxRecDepth 100000 in
set_option maxHeartbeats 4000000 in
theorem looks_nil (wo : World) {L g : Nat} {T : Nat → Nat → Prop} {p x : Nat → Value} {n : Nat → Bool} {s : Nat → Sm} (h : Pri wo L g T p x n s) (hs : Sen B A wo) (ht : Tab B wo) (hBL : B ≤ L) {a : Nat} (ha : a < 2) (hn : n a = true) :
    Calls Tryd.prog 19 #[.pointer (some ⟨g, 0, none⟩), .int .i64 (a : Int)] wo fun e w' => e = .returned (.bool true) ∧ Chg none_ wo w' := by
  have HN : Hid (n a = true) := hn
  clear hn
  have H := Lib.hid h
  have HA := Lib.hid ha
  have ha0 : (0 : Int) ≤ (a : Int) := by omega
  have ha2 : (a : Int) < 2 := by omega
  have hB : B ≤ wo.heap.size := Nat.le_trans hBL (Nat.le_trans h.hL (Nat.le_of_lt h.im.lt))
  have HS := Lib.hid (And.intro hs (And.intro ht (And.intro hBL hB)))
  clear h hs ht hBL hB
  have HX0 := H.out.rf a ha
  obtain ⟨x0, x1, x2, x3, x4, x5, x6, x7, x8, x9, x10, x11, x12, x13, x14, x15, x16, hxa, hx1⟩ := rf_x17 HX0
  have HX : Hid (((prV p x n).toList.drop (2 + a * 17)).take [x0, x1, x2, x3, x4, x5, x6, x7, x8, x9, x10, x11, x12, x13, x14, x15, x16].length = [x0, x1, x2, x3, x4, x5, x6, x7, x8, x9, x10, x11, x12, x13, x14, x15, x16] ∧ [x0, x1, x2, x3, x4, x5, x6, x7, x8, x9, x10, x11, x12, x13, x14, x15, x16].all (·.oneCell') = true) := ⟨by
    have h1 := prV_x (p := p) (n := n) H.out.x17 ha
    rw [hxa] at h1
    exact h1, hx1⟩
  have HXa := Lib.hid hxa
  clear hxa hx1 HX0
  clear ha
  have HIS : Hid (Is wo.drew g 55 (prV p x n)) := H.out.im.dr1
  go_enter Tryd.func19, Tryd.ntmps19
  go_wp2_with fail
  refine wp_region_held_drew (S := fun u => Is u g 55 (prV p x n)) (by kernel_rfl) HIS.out (fun hHeld => ?_)
  refine take_at 7 (i := 0) (v := .pointer (some ⟨g, 0, none⟩)) rfl (by kernel_rfl) (by kernel_rfl) (by kernel_rfl) (by kernel_rfl) (fun _ _ _ h => h) (Or.inl ⟨by kernel_rfl, by intro u hSw; (try dsimp only at hSw); go_simp⟩) (by assumption) ?_
  try simp only [Act.put, List.setIfInBounds_toArray, List.set_cons_zero, List.set_cons_succ]
  refine take_at 8 (i := 1) (v := .int .i64 (a : Int)) rfl (by kernel_rfl) (by kernel_rfl) (by kernel_rfl) (by kernel_rfl) (fun _ _ _ h => h) (Or.inl ⟨by kernel_rfl, by intro u hSw; (try dsimp only at hSw); go_simp⟩) (by assumption) ?_
  try simp only [Act.put, List.setIfInBounds_toArray, List.set_cons_zero, List.set_cons_succ]
  refine take_at 9 (i := 2) (v := .pointer (some ⟨g, 0, none⟩)) rfl (by kernel_rfl) (by kernel_rfl) (by kernel_rfl) (by kernel_rfl) (fun _ _ _ h => h) (Or.inl ⟨by kernel_rfl, by intro u hSw; (try dsimp only at hSw); go_simp⟩) (by assumption) ?_
  try simp only [Act.put, List.setIfInBounds_toArray, List.set_cons_zero, List.set_cons_succ]
  refine take_at 10 (i := 3) (v := .pointer (some ⟨g, 0, none⟩)) rfl (by kernel_rfl) (by kernel_rfl) (by kernel_rfl) (by kernel_rfl) (fun _ _ _ h => h) (Or.inl ⟨by kernel_rfl, by intro u hSw; (try dsimp only at hSw); go_simp⟩) (by assumption) ?_
  try simp only [Act.put, List.setIfInBounds_toArray, List.set_cons_zero, List.set_cons_succ]
  refine take_at 11 (i := 4) (v := .pointer (some ⟨g, a, none⟩)) rfl (by kernel_rfl) (by kernel_rfl) (by kernel_rfl) (by kernel_rfl) (fun _ _ _ h => h) (Or.inl ⟨by kernel_rfl, by intro u hSw; (try dsimp only at hSw); go_simp⟩) (by assumption) ?_
  try simp only [Act.put, List.setIfInBounds_toArray, List.set_cons_zero, List.set_cons_succ]
  refine take_at 12 (i := 5) (v := p a) rfl (by kernel_rfl) (by kernel_rfl) (by kernel_rfl) (by kernel_rfl) (fun _ _ _ h => h) (Or.inl ⟨by kernel_rfl, by intro u hSw; have hc := hSw.at_ a _ (prV_p HA.out); go_simp⟩) (by assumption) ?_
  try simp only [Act.put, List.setIfInBounds_toArray, List.set_cons_zero, List.set_cons_succ]
  refine take_at 13 (i := 6) (v := .pointer (some ⟨g, 0, none⟩)) rfl (by kernel_rfl) (by kernel_rfl) (by kernel_rfl) (by kernel_rfl) (fun _ _ _ h => h) (Or.inl ⟨by kernel_rfl, by intro u hSw; (try dsimp only at hSw); go_simp⟩) (by assumption) ?_
  try simp only [Act.put, List.setIfInBounds_toArray, List.set_cons_zero, List.set_cons_succ]
  refine take_at 14 (i := 7) (v := .int .i64 (a : Int)) rfl (by kernel_rfl) (by kernel_rfl) (by kernel_rfl) (by kernel_rfl) (fun _ _ _ h => h) (Or.inl ⟨by kernel_rfl, by intro u hSw; (try dsimp only at hSw); go_simp⟩) (by assumption) ?_
  try simp only [Act.put, List.setIfInBounds_toArray, List.set_cons_zero, List.set_cons_succ]
  refine take_at 15 (i := 8) (v := .pointer (some ⟨g, 0, none⟩)) rfl (by kernel_rfl) (by kernel_rfl) (by kernel_rfl) (by kernel_rfl) (fun _ _ _ h => h) (Or.inl ⟨by kernel_rfl, by intro u hSw; (try dsimp only at hSw); go_simp⟩) (by assumption) ?_
  try simp only [Act.put, List.setIfInBounds_toArray, List.set_cons_zero, List.set_cons_succ]
  refine take_at 16 (i := 9) (v := .pointer (some ⟨g, 2, none⟩)) rfl (by kernel_rfl) (by kernel_rfl) (by kernel_rfl) (by kernel_rfl) (fun _ _ _ h => h) (Or.inl ⟨by kernel_rfl, by intro u hSw; (try dsimp only at hSw); go_simp⟩) (by assumption) ?_
  try simp only [Act.put, List.setIfInBounds_toArray, List.set_cons_zero, List.set_cons_succ]
  refine take_at 17 (i := 10) (v := .pointer (some ⟨g, 2 + a * 17, none⟩)) rfl (by kernel_rfl) (by kernel_rfl) (by kernel_rfl) (by kernel_rfl) (fun _ _ _ h => h) (Or.inl ⟨by kernel_rfl, by intro u hSw; (try dsimp only at hSw); go_simp⟩) (by assumption) ?_
  try simp only [Act.put, List.setIfInBounds_toArray, List.set_cons_zero, List.set_cons_succ]
  refine take_at 18 (i := 11) (v := .agg #[x0, x1, x2, x3, x4, x5, x6, x7, x8, x9, x10, x11, x12, x13, x14, x15, x16]) rfl (by kernel_rfl) (by kernel_rfl) (by kernel_rfl) (by kernel_rfl) (fun _ _ _ h => h) (Or.inl ⟨by kernel_rfl, fun u hSw => yields_load_part 51 (.tmp 17) rfl g (2 + a * 17) rfl [x0, x1, x2, x3, x4, x5, x6, x7, x8, x9, x10, x11, x12, x13, x14, x15, x16] hSw HX.out.1 Tryd.underlying51 rfl szSt⟩) (by assumption) ?_
  try simp only [Act.put, List.setIfInBounds_toArray, List.set_cons_zero, List.set_cons_succ]
  refine wpAnyH_ready (rs := [12]) (by kernel_rfl) (by simp) ?_
  refine AllReadyH.cons rfl (fun K hK => ?_) AllReadyH.nil
  go_simp
  refine hK.out _ _ (Is.alloc (by assumption) _) (fun hHeld2 => ?_)
  clear hK K
  try simp only [Act.put, List.setIfInBounds_toArray, List.set_cons_zero, List.set_cons_succ]
  refine wpAnyH_ready (rs := [13]) (by kernel_rfl) (by simp) ?_
  refine AllReadyH.cons rfl (fun K hK => ?_) AllReadyH.nil
  go_simp
  refine hK.out _ _ (by assumption) (fun hHeld3 => ?_)
  clear hK K
  try simp only [Act.put, List.setIfInBounds_toArray, List.set_cons_zero, List.set_cons_succ]
  refine wpAnyH_ready (rs := [14]) (by kernel_rfl) (by simp) ?_
  refine AllReadyH.cons rfl (fun K hK => ?_) AllReadyH.nil
  refine step_store_part rfl 51 (.tmp 6) (.tmp 18) rfl wo.heap.size 0 rfl (.agg #[x0, x1, x2, x3, x4, x5, x6, x7, x8, x9, x10, x11, x12, x13, x14, x15, x16]) rfl [x0, x1, x2, x3, x4, x5, x6, x7, x8, x9, x10, x11, x12, x13, x14, x15, x16] (Is.new wo.drew _ _) rfl (Nat.le_refl 17) HX.out.2 szSt _ rfl ?_
  intro w2 hi2 hc2
  have HCr : Hid (Chg none_ wo w2) := ((Chg.refl none_ wo).drew.alloc _).then hc2 fun k hk e => by omega
  refine hK.out _ _ (hHeld.chg (((Chg.refl none_ wo.drew).alloc _).then hc2 fun k hk e => absurd hk (by subst e; exact Nat.lt_irrefl _)) fun f => f) (fun _ => ?_)
  clear hK K
  try simp only [Act.put, List.setIfInBounds_toArray, List.set_cons_zero, List.set_cons_succ]
  refine wpAnyH_done (by kernel_rfl) ?_ _
  have HIr2 : Hid (Is w2 wo.heap.size 51 #[x0, x1, x2, x3, x4, x5, x6, x7, x8, x9, x10, x11, x12, x13, x14, x15, x16]) := hi2
  have HC2 : Hid (Chg none_ wo w2) := HCr.out
  have H2 := Lib.hid (H.out.keep HC2.out)
  clear hHeld hHeld2 hHeld3 hi2 hc2 HIS HCr
  have HP2 : Hid (Is w2 g 55 (prV p x n)) := H2.out.im
  have hnc : w2.cell? ⟨g, 36 + a, none⟩ = some (.bool true) := by
    rw [← HN.out]
    exact HP2.out.at_ _ _ (prV_n H.out.x17 HA.out)
  have ep := H.out.nil a HA.out HN.out
  rw [ep]
  clear ep
  have HSe : Hid (Sen B A w2) := HS.out.1.below (HC2.out.old HS.out.2.2.2)
  go_wp2_with fail
  refine (nquiet _).mono ?_
  rintro e w' ⟨rfl, rfl⟩
  go_wp2_with fail
  refine (ndone _).mono ?_
  rintro e w' ⟨rfl, rfl⟩
  go_wp2_with fail
  refine (nready _ HSe.out).mono ?_
  rintro e w' ⟨rfl, rfl⟩
  go_wp2_with fail
  refine (nheld _).mono ?_
  rintro e w3 ⟨rfl, c3⟩
  have HC3 := Lib.hid c3
  clear c3
  go_wp2_with fail
  refine (nview _).mono ?_
  rintro e w4 ⟨rfl, c4⟩
  have HC4 := Lib.hid c4
  clear c4
  rw [show vwZ = .agg #[.int .u32 0, .int .i64 0, .bool false, .bool false, .int .i64 0, .int .u32 0, .int .i64 0, .int .i64 0, .int .i64 0, .bool false, .bool false] from rfl]
  go_wp2
  go_ret
  exact ⟨rfl, (HC2.out.trans HC3.out).trans HC4.out⟩
set_option maxRecDepth 100000 in
set_option maxHeartbeats 4000000 in
theorem looks_yes (wo : World) {L g : Nat} {T : Nat → Nat → Prop} {p x : Nat → Value} {n : Nat → Bool} {s : Nat → Sm} (h : Pri wo L g T p x n s) (hs : Sen B A wo) (ht : Tab B wo) (hBL : B ≤ L) {a : Nat} (ha : a < 2) (hn : n a = false) :
    Calls Tryd.prog 19 #[.pointer (some ⟨g, 0, none⟩), .int .i64 (a : Int)] wo fun e w' => e = .returned (.bool true) ∧ Chg none_ wo w' := by
  have HN : Hid (n a = false) := hn
  clear hn
  have H := Lib.hid h
  have HA := Lib.hid ha
  have ha0 : (0 : Int) ≤ (a : Int) := by omega
  have ha2 : (a : Int) < 2 := by omega
  have hB : B ≤ wo.heap.size := Nat.le_trans hBL (Nat.le_trans h.hL (Nat.le_of_lt h.im.lt))
  have HS := Lib.hid (And.intro hs (And.intro ht (And.intro hBL hB)))
  clear h hs ht hBL hB
  have HX0 := H.out.rf a ha
  obtain ⟨x0, x1, x2, x3, x4, x5, x6, x7, x8, x9, x10, x11, x12, x13, x14, x15, x16, hxa, hx1⟩ := rf_x17 HX0
  have HX : Hid (((prV p x n).toList.drop (2 + a * 17)).take [x0, x1, x2, x3, x4, x5, x6, x7, x8, x9, x10, x11, x12, x13, x14, x15, x16].length = [x0, x1, x2, x3, x4, x5, x6, x7, x8, x9, x10, x11, x12, x13, x14, x15, x16] ∧ [x0, x1, x2, x3, x4, x5, x6, x7, x8, x9, x10, x11, x12, x13, x14, x15, x16].all (·.oneCell') = true) := ⟨by
    have h1 := prV_x (p := p) (n := n) H.out.x17 ha
    rw [hxa] at h1
    exact h1, hx1⟩
  have HXa := Lib.hid hxa
  clear hxa hx1 HX0
  clear ha
  have HIS : Hid (Is wo.drew g 55 (prV p x n)) := H.out.im.dr1
  go_enter Tryd.func19, Tryd.ntmps19
  go_wp2_with fail
  refine wp_region_held_drew (S := fun u => Is u g 55 (prV p x n)) (by kernel_rfl) HIS.out (fun hHeld => ?_)
  refine take_at 7 (i := 0) (v := .pointer (some ⟨g, 0, none⟩)) rfl (by kernel_rfl) (by kernel_rfl) (by kernel_rfl) (by kernel_rfl) (fun _ _ _ h => h) (Or.inl ⟨by kernel_rfl, by intro u hSw; (try dsimp only at hSw); go_simp⟩) (by assumption) ?_
  try simp only [Act.put, List.setIfInBounds_toArray, List.set_cons_zero, List.set_cons_succ]
  refine take_at 8 (i := 1) (v := .int .i64 (a : Int)) rfl (by kernel_rfl) (by kernel_rfl) (by kernel_rfl) (by kernel_rfl) (fun _ _ _ h => h) (Or.inl ⟨by kernel_rfl, by intro u hSw; (try dsimp only at hSw); go_simp⟩) (by assumption) ?_
  try simp only [Act.put, List.setIfInBounds_toArray, List.set_cons_zero, List.set_cons_succ]
  refine take_at 9 (i := 2) (v := .pointer (some ⟨g, 0, none⟩)) rfl (by kernel_rfl) (by kernel_rfl) (by kernel_rfl) (by kernel_rfl) (fun _ _ _ h => h) (Or.inl ⟨by kernel_rfl, by intro u hSw; (try dsimp only at hSw); go_simp⟩) (by assumption) ?_
  try simp only [Act.put, List.setIfInBounds_toArray, List.set_cons_zero, List.set_cons_succ]
  refine take_at 10 (i := 3) (v := .pointer (some ⟨g, 0, none⟩)) rfl (by kernel_rfl) (by kernel_rfl) (by kernel_rfl) (by kernel_rfl) (fun _ _ _ h => h) (Or.inl ⟨by kernel_rfl, by intro u hSw; (try dsimp only at hSw); go_simp⟩) (by assumption) ?_
  try simp only [Act.put, List.setIfInBounds_toArray, List.set_cons_zero, List.set_cons_succ]
  refine take_at 11 (i := 4) (v := .pointer (some ⟨g, a, none⟩)) rfl (by kernel_rfl) (by kernel_rfl) (by kernel_rfl) (by kernel_rfl) (fun _ _ _ h => h) (Or.inl ⟨by kernel_rfl, by intro u hSw; (try dsimp only at hSw); go_simp⟩) (by assumption) ?_
  try simp only [Act.put, List.setIfInBounds_toArray, List.set_cons_zero, List.set_cons_succ]
  refine take_at 12 (i := 5) (v := p a) rfl (by kernel_rfl) (by kernel_rfl) (by kernel_rfl) (by kernel_rfl) (fun _ _ _ h => h) (Or.inl ⟨by kernel_rfl, by intro u hSw; have hc := hSw.at_ a _ (prV_p HA.out); go_simp⟩) (by assumption) ?_
  try simp only [Act.put, List.setIfInBounds_toArray, List.set_cons_zero, List.set_cons_succ]
  refine take_at 13 (i := 6) (v := .pointer (some ⟨g, 0, none⟩)) rfl (by kernel_rfl) (by kernel_rfl) (by kernel_rfl) (by kernel_rfl) (fun _ _ _ h => h) (Or.inl ⟨by kernel_rfl, by intro u hSw; (try dsimp only at hSw); go_simp⟩) (by assumption) ?_
  try simp only [Act.put, List.setIfInBounds_toArray, List.set_cons_zero, List.set_cons_succ]
  refine take_at 14 (i := 7) (v := .int .i64 (a : Int)) rfl (by kernel_rfl) (by kernel_rfl) (by kernel_rfl) (by kernel_rfl) (fun _ _ _ h => h) (Or.inl ⟨by kernel_rfl, by intro u hSw; (try dsimp only at hSw); go_simp⟩) (by assumption) ?_
  try simp only [Act.put, List.setIfInBounds_toArray, List.set_cons_zero, List.set_cons_succ]
  refine take_at 15 (i := 8) (v := .pointer (some ⟨g, 0, none⟩)) rfl (by kernel_rfl) (by kernel_rfl) (by kernel_rfl) (by kernel_rfl) (fun _ _ _ h => h) (Or.inl ⟨by kernel_rfl, by intro u hSw; (try dsimp only at hSw); go_simp⟩) (by assumption) ?_
  try simp only [Act.put, List.setIfInBounds_toArray, List.set_cons_zero, List.set_cons_succ]
  refine take_at 16 (i := 9) (v := .pointer (some ⟨g, 2, none⟩)) rfl (by kernel_rfl) (by kernel_rfl) (by kernel_rfl) (by kernel_rfl) (fun _ _ _ h => h) (Or.inl ⟨by kernel_rfl, by intro u hSw; (try dsimp only at hSw); go_simp⟩) (by assumption) ?_
  try simp only [Act.put, List.setIfInBounds_toArray, List.set_cons_zero, List.set_cons_succ]
  refine take_at 17 (i := 10) (v := .pointer (some ⟨g, 2 + a * 17, none⟩)) rfl (by kernel_rfl) (by kernel_rfl) (by kernel_rfl) (by kernel_rfl) (fun _ _ _ h => h) (Or.inl ⟨by kernel_rfl, by intro u hSw; (try dsimp only at hSw); go_simp⟩) (by assumption) ?_
  try simp only [Act.put, List.setIfInBounds_toArray, List.set_cons_zero, List.set_cons_succ]
  refine take_at 18 (i := 11) (v := .agg #[x0, x1, x2, x3, x4, x5, x6, x7, x8, x9, x10, x11, x12, x13, x14, x15, x16]) rfl (by kernel_rfl) (by kernel_rfl) (by kernel_rfl) (by kernel_rfl) (fun _ _ _ h => h) (Or.inl ⟨by kernel_rfl, fun u hSw => yields_load_part 51 (.tmp 17) rfl g (2 + a * 17) rfl [x0, x1, x2, x3, x4, x5, x6, x7, x8, x9, x10, x11, x12, x13, x14, x15, x16] hSw HX.out.1 Tryd.underlying51 rfl szSt⟩) (by assumption) ?_
  try simp only [Act.put, List.setIfInBounds_toArray, List.set_cons_zero, List.set_cons_succ]
  refine wpAnyH_ready (rs := [12]) (by kernel_rfl) (by simp) ?_
  refine AllReadyH.cons rfl (fun K hK => ?_) AllReadyH.nil
  go_simp
  refine hK.out _ _ (Is.alloc (by assumption) _) (fun hHeld2 => ?_)
  clear hK K
  try simp only [Act.put, List.setIfInBounds_toArray, List.set_cons_zero, List.set_cons_succ]
  refine wpAnyH_ready (rs := [13]) (by kernel_rfl) (by simp) ?_
  refine AllReadyH.cons rfl (fun K hK => ?_) AllReadyH.nil
  go_simp
  refine hK.out _ _ (by assumption) (fun hHeld3 => ?_)
  clear hK K
  try simp only [Act.put, List.setIfInBounds_toArray, List.set_cons_zero, List.set_cons_succ]
  refine wpAnyH_ready (rs := [14]) (by kernel_rfl) (by simp) ?_
  refine AllReadyH.cons rfl (fun K hK => ?_) AllReadyH.nil
  refine step_store_part rfl 51 (.tmp 6) (.tmp 18) rfl wo.heap.size 0 rfl (.agg #[x0, x1, x2, x3, x4, x5, x6, x7, x8, x9, x10, x11, x12, x13, x14, x15, x16]) rfl [x0, x1, x2, x3, x4, x5, x6, x7, x8, x9, x10, x11, x12, x13, x14, x15, x16] (Is.new wo.drew _ _) rfl (Nat.le_refl 17) HX.out.2 szSt _ rfl ?_
  intro w2 hi2 hc2
  have HCr : Hid (Chg none_ wo w2) := ((Chg.refl none_ wo).drew.alloc _).then hc2 fun k hk e => by omega
  refine hK.out _ _ (hHeld.chg (((Chg.refl none_ wo.drew).alloc _).then hc2 fun k hk e => absurd hk (by subst e; exact Nat.lt_irrefl _)) fun f => f) (fun _ => ?_)
  clear hK K
  try simp only [Act.put, List.setIfInBounds_toArray, List.set_cons_zero, List.set_cons_succ]
  refine wpAnyH_done (by kernel_rfl) ?_ _
  have HIr2 : Hid (Is w2 wo.heap.size 51 #[x0, x1, x2, x3, x4, x5, x6, x7, x8, x9, x10, x11, x12, x13, x14, x15, x16]) := hi2
  have HC2 : Hid (Chg none_ wo w2) := HCr.out
  have H2 := Lib.hid (H.out.keep HC2.out)
  clear hHeld hHeld2 hHeld3 hi2 hc2 HIS HCr
  have HP2 : Hid (Is w2 g 55 (prV p x n)) := H2.out.im
  have hnc : w2.cell? ⟨g, 36 + a, none⟩ = some (.bool false) := by
    rw [← HN.out]
    exact HP2.out.at_ _ _ (prV_n H.out.x17 HA.out)
  have hSen2 : Sen B A w2 := HS.out.1.below (HC2.out.old HS.out.2.2.2)
  have hTab2 : Tab B w2 := HS.out.2.1.below (HC2.out.old HS.out.2.2.2)
  have r2 : Rn B A w2 w2 (T a) (n a) (p a) (s a) := Rn.init hSen2 hTab2 (Nat.le_trans HS.out.2.2.2 HC2.out.size) (fun k hk => Nat.le_trans HS.out.2.2.1 (H2.out.t a HA.out k hk).1) (H2.out.nil a HA.out) (H2.out.sl a HA.out)
  rw [HN.out] at r2
  have PL := rn_look r2
  have hrf := H2.out.rf a HA.out
  rw [HXa.out] at hrf
  have RL := rf_look hrf
  obtain ⟨v0, v1, v4, v5, v6, v7, v8, v2, v3, v9, v10, hv⟩ := vw_form (s a)
  rw [hv] at PL RL
  obtain ⟨hh, hhe⟩ : ∃ q : Int, ((s a).sg.length : Int) + ((s a).un.length : Int) = q := ⟨_, rfl⟩
  rw [hhe] at PL RL
  generalize quB (s a) = bq at PL RL
  generalize dnB (s a) = bd at PL RL
  generalize rdyB (s a) = br at PL RL
  have HPL := Lib.hid PL
  have HRL := Lib.hid RL
  clear hSen2 hTab2 r2 PL RL hrf hv hhe
  go_wp2_with fail
  refine wp_region_held_drew (S := fun u => Chg none_ w2 u) (by kernel_rfl) ((Chg.refl none_ w2).drew) (fun hS0 => ?_)
  refine take_at 49 (i := 0) (v := p a) rfl (by kernel_rfl) (by kernel_rfl) (by kernel_rfl) (by kernel_rfl) (fun _ _ _ h => h) (Or.inl ⟨by kernel_rfl, by intro u hSw; (try dsimp only at hSw); go_simp⟩) (by assumption) ?_
  try simp only [Act.put, List.setIfInBounds_toArray, List.set_cons_zero, List.set_cons_succ]
  refine take_at 51 (i := 2) (v := .agg #[x0, x1, x2, x3, x4, x5, x6, x7, x8, x9, x10, x11, x12, x13, x14, x15, x16]) rfl (by kernel_rfl) (by kernel_rfl) (by kernel_rfl) (by kernel_rfl) (fun _ _ _ h => h) (Or.inl ⟨by kernel_rfl, fun u hSw => yields_load_part 51 (.tmp 6) rfl wo.heap.size 0 rfl [x0, x1, x2, x3, x4, x5, x6, x7, x8, x9, x10, x11, x12, x13, x14, x15, x16] (HIr2.out.chg hSw fun f => f) rfl Tryd.underlying51 rfl szSt⟩) (by assumption) ?_
  try simp only [Act.put, List.setIfInBounds_toArray, List.set_cons_zero, List.set_cons_succ]
  refine wpAnyH_ready (rs := [1]) (by kernel_rfl) (by simp) ?_
  refine AllReadyH.cons rfl (fun K hK => ?_) AllReadyH.nil
  go_simp
  refine (HPL.out.1 _ hS0).mono ?_
  rintro e u1 ⟨rfl, hS1⟩
  try go_simp
  refine hK.out _ _ hS1 (fun _ => ?_)
  clear hK K
  try simp only [Act.put, List.setIfInBounds_toArray, List.set_cons_zero, List.set_cons_succ]
  refine wpAnyH_ready (rs := [3]) (by kernel_rfl) (by simp) ?_
  refine AllReadyH.cons rfl (fun K hK => ?_) AllReadyH.nil
  go_simp
  refine (HRL.out.1 _ hS1).mono ?_
  rintro e u2 ⟨rfl, hS2⟩
  try go_simp
  refine hK.out _ _ hS2 (fun _ => ?_)
  clear hK K
  try simp only [Act.put, List.setIfInBounds_toArray, List.set_cons_zero, List.set_cons_succ]
  refine take_at 53 (i := 4) (v := .bool false) rfl (by kernel_rfl) (by kernel_rfl) (by kernel_rfl) (by kernel_rfl) (fun _ _ _ h => h) (Or.inl ⟨by kernel_rfl, by intro u hSw; (try dsimp only at hSw); go_simp⟩) (by assumption) ?_
  try simp only [Act.put, List.setIfInBounds_toArray, List.set_cons_zero, List.set_cons_succ]
  refine take_at 54 (i := 5) (v := .bool false) rfl (by kernel_rfl) (by kernel_rfl) (by kernel_rfl) (by kernel_rfl) (fun _ _ _ h => h) (Or.inl ⟨by kernel_rfl, by intro u hSw; (try dsimp only at hSw); go_simp⟩) (by assumption) ?_
  try simp only [Act.put, List.setIfInBounds_toArray, List.set_cons_zero, List.set_cons_succ]
  refine take_at 55 (i := 6) (v := p a) rfl (by kernel_rfl) (by kernel_rfl) (by kernel_rfl) (by kernel_rfl) (fun _ _ _ h => h) (Or.inl ⟨by kernel_rfl, by intro u hSw; (try dsimp only at hSw); go_simp⟩) (by assumption) ?_
  try simp only [Act.put, List.setIfInBounds_toArray, List.set_cons_zero, List.set_cons_succ]
  refine take_at 57 (i := 8) (v := .agg #[x0, x1, x2, x3, x4, x5, x6, x7, x8, x9, x10, x11, x12, x13, x14, x15, x16]) rfl (by kernel_rfl) (by kernel_rfl) (by kernel_rfl) (by kernel_rfl) (fun _ _ _ h => h) (Or.inl ⟨by kernel_rfl, fun u hSw => yields_load_part 51 (.tmp 6) rfl wo.heap.size 0 rfl [x0, x1, x2, x3, x4, x5, x6, x7, x8, x9, x10, x11, x12, x13, x14, x15, x16] (HIr2.out.chg hSw fun f => f) rfl Tryd.underlying51 rfl szSt⟩) (by assumption) ?_
  try simp only [Act.put, List.setIfInBounds_toArray, List.set_cons_zero, List.set_cons_succ]
  refine wpAnyH_ready (rs := [7]) (by kernel_rfl) (by simp) ?_
  refine AllReadyH.cons rfl (fun K hK => ?_) AllReadyH.nil
  go_simp
  refine (HPL.out.2.1 _ hS2).mono ?_
  rintro e u3 ⟨rfl, hS3⟩
  try go_simp
  refine hK.out _ _ hS3 (fun _ => ?_)
  clear hK K
  try simp only [Act.put, List.setIfInBounds_toArray, List.set_cons_zero, List.set_cons_succ]
  refine wpAnyH_ready (rs := [9]) (by kernel_rfl) (by simp) ?_
  refine AllReadyH.cons rfl (fun K hK => ?_) AllReadyH.nil
  go_simp
  refine (HRL.out.2.1 _ hS3).mono ?_
  rintro e u4 ⟨rfl, hS4⟩
  try go_simp
  refine hK.out _ _ hS4 (fun _ => ?_)
  clear hK K
  try simp only [Act.put, List.setIfInBounds_toArray, List.set_cons_zero, List.set_cons_succ]
  refine take_at 59 (i := 10) (v := .bool false) rfl (by kernel_rfl) (by kernel_rfl) (by kernel_rfl) (by kernel_rfl) (fun _ _ _ h => h) (Or.inl ⟨by kernel_rfl, by intro u hSw; (try dsimp only at hSw); go_simp⟩) (by assumption) ?_
  try simp only [Act.put, List.setIfInBounds_toArray, List.set_cons_zero, List.set_cons_succ]
  refine take_at 60 (i := 11) (v := .bool false) rfl (by kernel_rfl) (by kernel_rfl) (by kernel_rfl) (by kernel_rfl) (fun _ _ _ h => h) (Or.inl ⟨by kernel_rfl, by intro u hSw; (try dsimp only at hSw); go_simp⟩) (by assumption) ?_
  try simp only [Act.put, List.setIfInBounds_toArray, List.set_cons_zero, List.set_cons_succ]
  refine take_at 61 (i := 12) (v := .bool false) rfl (by kernel_rfl) (by kernel_rfl) (by kernel_rfl) (by kernel_rfl) (fun _ _ _ h => h) (Or.inl ⟨by kernel_rfl, by intro u hSw; (try dsimp only at hSw); go_simp⟩) (by assumption) ?_
  try simp only [Act.put, List.setIfInBounds_toArray, List.set_cons_zero, List.set_cons_succ]
  refine take_at 62 (i := 13) (v := p a) rfl (by kernel_rfl) (by kernel_rfl) (by kernel_rfl) (by kernel_rfl) (fun _ _ _ h => h) (Or.inl ⟨by kernel_rfl, by intro u hSw; (try dsimp only at hSw); go_simp⟩) (by assumption) ?_
  try simp only [Act.put, List.setIfInBounds_toArray, List.set_cons_zero, List.set_cons_succ]
  refine take_at 64 (i := 15) (v := .agg #[x0, x1, x2, x3, x4, x5, x6, x7, x8, x9, x10, x11, x12, x13, x14, x15, x16]) rfl (by kernel_rfl) (by kernel_rfl) (by kernel_rfl) (by kernel_rfl) (fun _ _ _ h => h) (Or.inl ⟨by kernel_rfl, fun u hSw => yields_load_part 51 (.tmp 6) rfl wo.heap.size 0 rfl [x0, x1, x2, x3, x4, x5, x6, x7, x8, x9, x10, x11, x12, x13, x14, x15, x16] (HIr2.out.chg hSw fun f => f) rfl Tryd.underlying51 rfl szSt⟩) (by assumption) ?_
  try simp only [Act.put, List.setIfInBounds_toArray, List.set_cons_zero, List.set_cons_succ]
  refine wpAnyH_ready (rs := [14]) (by kernel_rfl) (by simp) ?_
  refine AllReadyH.cons rfl (fun K hK => ?_) AllReadyH.nil
  go_simp
  refine (HPL.out.2.2.1 _ hS4).mono ?_
  rintro e u5 ⟨rfl, hS5⟩
  try go_simp
  refine hK.out _ _ hS5 (fun _ => ?_)
  clear hK K
  try simp only [Act.put, List.setIfInBounds_toArray, List.set_cons_zero, List.set_cons_succ]
  refine wpAnyH_ready (rs := [16]) (by kernel_rfl) (by simp) ?_
  refine AllReadyH.cons rfl (fun K hK => ?_) AllReadyH.nil
  go_simp
  refine (HRL.out.2.2.1 _ hS5).mono ?_
  rintro e u6 ⟨rfl, hS6⟩
  try go_simp
  refine hK.out _ _ hS6 (fun _ => ?_)
  clear hK K
  try simp only [Act.put, List.setIfInBounds_toArray, List.set_cons_zero, List.set_cons_succ]
  refine take_at 66 (i := 17) (v := .bool false) rfl (by kernel_rfl) (by kernel_rfl) (by kernel_rfl) (by kernel_rfl) (fun _ _ _ h => h) (Or.inl ⟨by kernel_rfl, by intro u hSw; (try dsimp only at hSw); go_simp⟩) (by assumption) ?_
  try simp only [Act.put, List.setIfInBounds_toArray, List.set_cons_zero, List.set_cons_succ]
  refine take_at 67 (i := 18) (v := .bool false) rfl (by kernel_rfl) (by kernel_rfl) (by kernel_rfl) (by kernel_rfl) (fun _ _ _ h => h) (Or.inl ⟨by kernel_rfl, by intro u hSw; (try dsimp only at hSw); go_simp⟩) (by assumption) ?_
  try simp only [Act.put, List.setIfInBounds_toArray, List.set_cons_zero, List.set_cons_succ]
  refine wpAnyH_done (by kernel_rfl) ?_ _
  have HC3 := Lib.hid hS6
  obtain ⟨w3, hw3⟩ : ∃ y, y = u6 := ⟨_, rfl⟩
  rw [← hw3] at HC3 ⊢
  clear hS0 hS1 hS2 hS3 hS4 hS5 hS6 hw3
  go_wp2_with fail
  refine wp_region_held_drew (S := fun u => Chg none_ w2 u) (by kernel_rfl) HC3.out.drew (fun hS0 => ?_)
  refine take_at 68 (i := 0) (v := p a) rfl (by kernel_rfl) (by kernel_rfl) (by kernel_rfl) (by kernel_rfl) (fun _ _ _ h => h) (Or.inl ⟨by kernel_rfl, by intro u hSw; (try dsimp only at hSw); go_simp⟩) (by assumption) ?_
  try simp only [Act.put, List.setIfInBounds_toArray, List.set_cons_zero, List.set_cons_succ]
  refine take_at 70 (i := 2) (v := .agg #[x0, x1, x2, x3, x4, x5, x6, x7, x8, x9, x10, x11, x12, x13, x14, x15, x16]) rfl (by kernel_rfl) (by kernel_rfl) (by kernel_rfl) (by kernel_rfl) (fun _ _ _ h => h) (Or.inl ⟨by kernel_rfl, fun u hSw => yields_load_part 51 (.tmp 6) rfl wo.heap.size 0 rfl [x0, x1, x2, x3, x4, x5, x6, x7, x8, x9, x10, x11, x12, x13, x14, x15, x16] (HIr2.out.chg hSw fun f => f) rfl Tryd.underlying51 rfl szSt⟩) (by assumption) ?_
  try simp only [Act.put, List.setIfInBounds_toArray, List.set_cons_zero, List.set_cons_succ]
  refine wpAnyH_ready (rs := [1]) (by kernel_rfl) (by simp) ?_
  refine AllReadyH.cons rfl (fun K hK => ?_) AllReadyH.nil
  go_simp
  refine (HPL.out.2.2.2.1 _ hS0).mono ?_
  rintro e u1 ⟨rfl, hS1⟩
  try go_simp
  refine hK.out _ _ hS1 (fun _ => ?_)
  clear hK K
  try simp only [Act.put, List.setIfInBounds_toArray, List.set_cons_zero, List.set_cons_succ]
  refine wpAnyH_ready (rs := [3]) (by kernel_rfl) (by simp) ?_
  refine AllReadyH.cons rfl (fun K hK => ?_) AllReadyH.nil
  go_simp
  refine (HRL.out.2.2.2.1 _ hS1).mono ?_
  rintro e u2 ⟨rfl, hS2⟩
  try go_simp
  refine hK.out _ _ hS2 (fun _ => ?_)
  clear hK K
  try simp only [Act.put, List.setIfInBounds_toArray, List.set_cons_zero, List.set_cons_succ]
  refine take_at 72 (i := 4) (v := .bool true) rfl (by kernel_rfl) (by kernel_rfl) (by kernel_rfl) (by kernel_rfl) (fun _ _ _ h => h) (Or.inl ⟨by kernel_rfl, by intro u hSw; (try dsimp only at hSw); go_simp⟩) (by assumption) ?_
  try simp only [Act.put, List.setIfInBounds_toArray, List.set_cons_zero, List.set_cons_succ]
  refine take_at 73 (i := 5) (v := .bool true) rfl (by kernel_rfl) (by kernel_rfl) (by kernel_rfl) (by kernel_rfl) (fun _ _ _ h => h) (Or.inl ⟨by kernel_rfl, by intro u hSw; (try dsimp only at hSw); go_simp⟩) (by assumption) ?_
  try simp only [Act.put, List.setIfInBounds_toArray, List.set_cons_zero, List.set_cons_succ]
  refine take_at 74 (i := 6) (v := p a) rfl (by kernel_rfl) (by kernel_rfl) (by kernel_rfl) (by kernel_rfl) (fun _ _ _ h => h) (Or.inl ⟨by kernel_rfl, by intro u hSw; (try dsimp only at hSw); go_simp⟩) (by assumption) ?_
  try simp only [Act.put, List.setIfInBounds_toArray, List.set_cons_zero, List.set_cons_succ]
  refine take_at 76 (i := 8) (v := .agg #[x0, x1, x2, x3, x4, x5, x6, x7, x8, x9, x10, x11, x12, x13, x14, x15, x16]) rfl (by kernel_rfl) (by kernel_rfl) (by kernel_rfl) (by kernel_rfl) (fun _ _ _ h => h) (Or.inl ⟨by kernel_rfl, fun u hSw => yields_load_part 51 (.tmp 6) rfl wo.heap.size 0 rfl [x0, x1, x2, x3, x4, x5, x6, x7, x8, x9, x10, x11, x12, x13, x14, x15, x16] (HIr2.out.chg hSw fun f => f) rfl Tryd.underlying51 rfl szSt⟩) (by assumption) ?_
  try simp only [Act.put, List.setIfInBounds_toArray, List.set_cons_zero, List.set_cons_succ]
  refine wpAnyH_ready (rs := [7]) (by kernel_rfl) (by simp) ?_
  refine AllReadyH.cons rfl (fun K hK => ?_) AllReadyH.nil
  go_simp
  refine (HPL.out.2.2.2.2 _ hS2).mono ?_
  rintro e u3 ⟨rfl, hS3⟩
  try go_simp
  refine hK.out _ _ hS3 (fun _ => ?_)
  clear hK K
  try simp only [Act.put, List.setIfInBounds_toArray, List.set_cons_zero, List.set_cons_succ]
  refine wpAnyH_ready (rs := [9]) (by kernel_rfl) (by simp) ?_
  refine AllReadyH.cons rfl (fun K hK => ?_) AllReadyH.nil
  go_simp
  refine (HRL.out.2.2.2.2 _ hS3).mono ?_
  rintro e u4 ⟨rfl, hS4⟩
  try go_simp
  refine hK.out _ _ hS4 (fun _ => ?_)
  clear hK K
  try simp only [Act.put, List.setIfInBounds_toArray, List.set_cons_zero, List.set_cons_succ]
  refine take_at 78 (i := 10) (v := .bool true) rfl (by kernel_rfl) (by kernel_rfl) (by kernel_rfl) (by kernel_rfl) (fun _ _ _ h => h) (Or.inl ⟨by kernel_rfl, by intro u hSw; (try dsimp only at hSw); go_simp⟩) (by assumption) ?_
  try simp only [Act.put, List.setIfInBounds_toArray, List.set_cons_zero, List.set_cons_succ]
  refine take_at 79 (i := 11) (v := .bool true) rfl (by kernel_rfl) (by kernel_rfl) (by kernel_rfl) (by kernel_rfl) (fun _ _ _ h => h) (Or.inl ⟨by kernel_rfl, by intro u hSw; (try dsimp only at hSw); go_simp⟩) (by assumption) ?_
  try simp only [Act.put, List.setIfInBounds_toArray, List.set_cons_zero, List.set_cons_succ]
  refine wpAnyH_ready (rs := [12]) (by kernel_rfl) (by simp) ?_
  refine AllReadyH.cons rfl (fun K hK => ?_) AllReadyH.nil
  go_simp
  refine hK.out _ _ (by assumption) (fun _ => ?_)
  clear hK K
  try simp only [Act.put, List.setIfInBounds_toArray, List.set_cons_zero, List.set_cons_succ]
  refine wpAnyH_done (by kernel_rfl) ?_ _
  go_wp2
  go_ret
  exact ⟨rfl, HC2.out.trans hS4⟩
theorem looks_any (wo : World) {L g : Nat} {T : Nat → Nat → Prop} {p x : Nat → Value} {n : Nat → Bool} {s : Nat → Sm} (h : Pri wo L g T p x n s) (hs : Sen B A wo) (ht : Tab B wo) (hBL : B ≤ L) {a : Nat} (ha : a < 2) :
    Calls Tryd.prog 19 #[.pointer (some ⟨g, 0, none⟩), .int .i64 (a : Int)] wo fun e w' => e = .returned (.bool true) ∧ Chg none_ wo w' := by
  cases hn : n a
  · exact looks_yes wo h hs ht hBL ha hn
  · exact looks_nil wo h hs ht hBL ha hn
end
end Go.Proofs.YthalmjjbamglgaaDoor
