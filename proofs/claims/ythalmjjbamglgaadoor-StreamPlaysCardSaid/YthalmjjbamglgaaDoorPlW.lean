/-
  culvertlaw10.Pair.wire by contract, kind by kind.
  No condition of its own: the facts 'Sen' and 'Tab' on the world; everything lawful (Pri).
-/
import Derived.Test.YthalmjjbamglgaaDoorPlP
import Derived.Test.YthalmjjbamglgaaDoorPlI
import Derived.Test.YthalmjjbamglgaaDoorPlT
import Derived.Test.YthalmjjbamglgaaDoorPlC
import Derived.Deep.RegionHeld3
namespace Go.Proofs.YthalmjjbamglgaaDoor
open Go.RowKit
set_option linter.unusedSimpArgs false
set_option linter.unusedVariables false
/-- Frame and Next, whether something is ready or not. -/
theorem fr_both (s : Sm) : ∃ (flg fid fk : Int) (us : List Int) (b : Bool) (t : Sm), rdyB s = b ∧
    (∀ (B : Nat) (a : Nat → Addr) (w wi : World) (T : Nat → Prop) (p : Value), Byt s.sg → Rn B a w wi T false p s → Calls Tryd.prog 29 #[p] wi fun e wj => ∃ A4 n4 k4, e = .returned (.tuple #[.agg #[.int .u8 0, .int .u8 0, .int .u16 flg, .int .u32 fid, .int .u32 fk, .slice A4 n4 k4], .bool b]) ∧ BsO wj (.slice A4 n4 k4) us ∧ (∀ q, rdk (.slice A4 n4 k4) = some q → wi.heap.size ≤ q ∧ q < wj.heap.size) ∧ Rn B a w wj T false p t) ∧
    (∀ (w : World) (U : Nat → Prop) (x : Value), Rf w U s x → (∀ q, w.heap.size ≤ q → U q) → Calls Tryd.prog 92 #[x] w fun e w' => ∃ y A4 n4 k4, e = .returned (.tuple #[y, .agg #[.int .u8 0, .int .u8 0, .int .u16 flg, .int .u32 fid, .int .u32 fk, .slice A4 n4 k4], .bool b]) ∧ BsO w' (.slice A4 n4 k4) us ∧ (∀ q, rdk (.slice A4 n4 k4) = some q → w.heap.size ≤ q ∧ q < w'.heap.size) ∧ Rf w' U t y ∧ Chg none_ w w') := by
  cases hr : rdyB s
  · exact ⟨0, 0, 0, [], false, s, rfl, fun B a w wi T p _ h => (rn_frame_no h hr).mono fun e wj ⟨e1, e2⟩ => ⟨none, 0, 0, e1, bso_nil0 _, (fun q hq => by simp [rdk] at hq), e2⟩,
      fun w U x h hU => (m_next_no h hr).mono fun e wj ⟨e1, e2⟩ => ⟨x, none, 0, 0, e1, bso_nil0 _, (fun q hq => by simp [rdk] at hq), h.keep e2, e2⟩⟩
  · exact ⟨_, _, _, _, true, frS s, rfl, fun B a w wi T p hb h => (rn_frame_yes h hr).mono fun e wj ⟨A4, k4, e1, e2, e3⟩ => ⟨A4, _, k4, e1, BsO.of_ob e2 (hb.take _), fun q hq => e2.block q (e2.rdk q hq), e3⟩,
      fun w U x h hU => (m_next_yes h hU hr).mono fun e wj ⟨y, A4, n4, k4, e1, e2, e3, e4, e5⟩ => ⟨y, A4, n4, k4, e1, e2, e3, e4, e5⟩⟩
theorem Rf.bytS {w : World} {U : Nat → Prop} {s : Sm} {x : Value} (h : Rf w U s x) : Byt s.sg := by
  obtain ⟨c, l, o, A1, n1, k1, A2, n2, k2, rfl, _, b1, _⟩ := h
  exact b1.fact.2.2.1
theorem isn2' (w : World) (x : Obj) (t : TypeId) (cs : Array Value) : Is ((w.alloc x).alloc (.cells cs t)) (w.heap.size + 1) t cs := by
  have h := Is.new (w.alloc x) t cs
  rwa [show (w.alloc x).heap.size = w.heap.size + 1 by simp] at h
theorem szFr' : (Tryd.prog.info? 72).map (·.size) = some 6 := by kernel_rfl
section
variable {B : Nat} {A : Nat → Addr}
set_option maxRecDepth 100000 in
set_option maxHeartbeats 4000000 in
theorem wire_arrive (w : World) {L g : Nat} {T : Nat → Nat → Prop} {p x : Nat → Value} {n : Nat → Bool} {s : Nat → Sm} (h : Pri w L g T p x n s) (hs : Sen B A w) (ht : Tab B w) (hBL : B ≤ L) (xx nn : Int) (A2 : Option Addr) (len cap : Nat) (dl : Int) (fl : Bool) (c0 c1 c2 c3 c4 c5 c6 c7 : Value) {a : Nat} (ha : a < 2) (hbits : bits .and .i64 xx 1 = (a : Int)) (zs : List Int) (hz : zs.length = len) (hzb : Byt zs) (hzr : ∀ u, Below B w u → Rd u A2 len fun i => .int .u8 (zs.getD i 0)) (hzm : len ≤ 140737488355328) (hzc : len ≤ cap) :
    Calls Tryd.prog 53 #[.pointer (some ⟨g, 0, none⟩), .agg #[.int .i64 7, .int .i64 xx, .int .i64 nn, .slice A2 len cap, .int .u32 dl, .bool fl, c0, c1, c2, c3, c4, c5, c6, c7]] w fun e w' => e = .returned (.bool true) ∧ Inv w' L g ∧ Chg (fun k => L ≤ k) w w' := by
  have H := Lib.hid h
  have HS := Lib.hid (And.intro hs (And.intro ht hBL))
  have HA := Lib.hid ha
  have HZ := Lib.hid (And.intro hz (And.intro hzb (And.intro hzm hzc)))
  have HZr := Lib.hid hzr
  clear hz hzb hzr hzm hzc
  have ha0 : (0 : Int) ≤ (a : Int) := by omega
  have ha2 : (a : Int) < 2 := by omega
  clear h hs ht hBL
  have HX0 := H.out.rf a ha
  obtain ⟨x0, x1, x2, x3, x4, x5, x6, x7, x8, x9, x10, x11, x12, x13, x14, x15, x16, hxa, hx1⟩ := rf_x17 HX0
  have HX : Hid (((prV p x n).toList.drop (2 + a * 17)).take [x0, x1, x2, x3, x4, x5, x6, x7, x8, x9, x10, x11, x12, x13, x14, x15, x16].length = [x0, x1, x2, x3, x4, x5, x6, x7, x8, x9, x10, x11, x12, x13, x14, x15, x16] ∧ [x0, x1, x2, x3, x4, x5, x6, x7, x8, x9, x10, x11, x12, x13, x14, x15, x16].all (·.oneCell') = true) := ⟨by
    have h1 := prV_x (p := p) (n := n) H.out.x17 ha
    rw [hxa] at h1
    exact h1, hx1⟩
  have HXa := Lib.hid hxa
  clear hxa hx1 HX0
  clear ha
  go_enter Tryd.func53, Tryd.ntmps53
  go_wp2_with fail
  obtain ⟨wo, hwo⟩ : ∃ y, w.alloc (.cells #[.int .i64 7, .int .i64 xx, .int .i64 nn, .slice A2 len cap, .int .u32 dl, .bool fl, c0, c1, c2, c3, c4, c5, c6, c7] 45) = y := ⟨_, rfl⟩
  have HIo := Lib.hid (Is.new w 45 #[.int .i64 7, .int .i64 xx, .int .i64 nn, .slice A2 len cap, .int .u32 dl, .bool fl, c0, c1, c2, c3, c4, c5, c6, c7])
  have HCo : Hid (Chg none_ w (w.alloc (.cells #[.int .i64 7, .int .i64 xx, .int .i64 nn, .slice A2 len cap, .int .u32 dl, .bool fl, c0, c1, c2, c3, c4, c5, c6, c7] 45))) := (Chg.refl none_ w).alloc _
  rw [hwo] at HIo HCo ⊢
  clear hwo
  have HIS : Hid (Is wo.drew g 55 (prV p x n)) := (H.out.im.chg HCo.out fun f => f).dr1
  refine wp_region_held_drew (S := fun u => Is u g 55 (prV p x n)) (by kernel_rfl) HIS.out (fun hHeld => ?_)
  refine take_at 23 (i := 0) (v := .pointer (some ⟨g, 0, none⟩)) rfl (by kernel_rfl) (by kernel_rfl) (by kernel_rfl) (by kernel_rfl) (fun _ _ _ h => h) (Or.inl ⟨by kernel_rfl, by intro u hSw; (try dsimp only at hSw); go_simp⟩) (by assumption) ?_
  try simp only [Act.put, List.setIfInBounds_toArray, List.set_cons_zero, List.set_cons_succ]
  refine take_at 24 (i := 1) (v := .int .i64 (a : Int)) rfl (by kernel_rfl) (by kernel_rfl) (by kernel_rfl) (by kernel_rfl) (fun _ _ _ h => h) (Or.inl ⟨by kernel_rfl, by intro u hSw; (try dsimp only at hSw); go_simp⟩) (by assumption) ?_
  try simp only [Act.put, List.setIfInBounds_toArray, List.set_cons_zero, List.set_cons_succ]
  refine take_at 25 (i := 2) (v := .pointer (some ⟨g, 0, none⟩)) rfl (by kernel_rfl) (by kernel_rfl) (by kernel_rfl) (by kernel_rfl) (fun _ _ _ h => h) (Or.inl ⟨by kernel_rfl, by intro u hSw; (try dsimp only at hSw); go_simp⟩) (by assumption) ?_
  try simp only [Act.put, List.setIfInBounds_toArray, List.set_cons_zero, List.set_cons_succ]
  refine take_at 26 (i := 3) (v := .pointer (some ⟨g, 0, none⟩)) rfl (by kernel_rfl) (by kernel_rfl) (by kernel_rfl) (by kernel_rfl) (fun _ _ _ h => h) (Or.inl ⟨by kernel_rfl, by intro u hSw; (try dsimp only at hSw); go_simp⟩) (by assumption) ?_
  try simp only [Act.put, List.setIfInBounds_toArray, List.set_cons_zero, List.set_cons_succ]
  refine take_at 27 (i := 4) (v := .pointer (some ⟨g, a, none⟩)) rfl (by kernel_rfl) (by kernel_rfl) (by kernel_rfl) (by kernel_rfl) (fun _ _ _ h => h) (Or.inl ⟨by kernel_rfl, by intro u hSw; (try dsimp only at hSw); go_simp⟩) (by assumption) ?_
  try simp only [Act.put, List.setIfInBounds_toArray, List.set_cons_zero, List.set_cons_succ]
  refine take_at 28 (i := 5) (v := p a) rfl (by kernel_rfl) (by kernel_rfl) (by kernel_rfl) (by kernel_rfl) (fun _ _ _ h => h) (Or.inl ⟨by kernel_rfl, by intro u hSw; have hc := hSw.at_ a _ (prV_p HA.out); go_simp⟩) (by assumption) ?_
  try simp only [Act.put, List.setIfInBounds_toArray, List.set_cons_zero, List.set_cons_succ]
  refine take_at 29 (i := 6) (v := .pointer (some ⟨g, 0, none⟩)) rfl (by kernel_rfl) (by kernel_rfl) (by kernel_rfl) (by kernel_rfl) (fun _ _ _ h => h) (Or.inl ⟨by kernel_rfl, by intro u hSw; (try dsimp only at hSw); go_simp⟩) (by assumption) ?_
  try simp only [Act.put, List.setIfInBounds_toArray, List.set_cons_zero, List.set_cons_succ]
  refine take_at 30 (i := 7) (v := .int .i64 (a : Int)) rfl (by kernel_rfl) (by kernel_rfl) (by kernel_rfl) (by kernel_rfl) (fun _ _ _ h => h) (Or.inl ⟨by kernel_rfl, by intro u hSw; (try dsimp only at hSw); go_simp⟩) (by assumption) ?_
  try simp only [Act.put, List.setIfInBounds_toArray, List.set_cons_zero, List.set_cons_succ]
  refine take_at 31 (i := 8) (v := .pointer (some ⟨g, 0, none⟩)) rfl (by kernel_rfl) (by kernel_rfl) (by kernel_rfl) (by kernel_rfl) (fun _ _ _ h => h) (Or.inl ⟨by kernel_rfl, by intro u hSw; (try dsimp only at hSw); go_simp⟩) (by assumption) ?_
  try simp only [Act.put, List.setIfInBounds_toArray, List.set_cons_zero, List.set_cons_succ]
  refine take_at 32 (i := 9) (v := .pointer (some ⟨g, 2, none⟩)) rfl (by kernel_rfl) (by kernel_rfl) (by kernel_rfl) (by kernel_rfl) (fun _ _ _ h => h) (Or.inl ⟨by kernel_rfl, by intro u hSw; (try dsimp only at hSw); go_simp⟩) (by assumption) ?_
  try simp only [Act.put, List.setIfInBounds_toArray, List.set_cons_zero, List.set_cons_succ]
  refine take_at 33 (i := 10) (v := .pointer (some ⟨g, 2 + a * 17, none⟩)) rfl (by kernel_rfl) (by kernel_rfl) (by kernel_rfl) (by kernel_rfl) (fun _ _ _ h => h) (Or.inl ⟨by kernel_rfl, by intro u hSw; (try dsimp only at hSw); go_simp⟩) (by assumption) ?_
  try simp only [Act.put, List.setIfInBounds_toArray, List.set_cons_zero, List.set_cons_succ]
  refine take_at 34 (i := 11) (v := .agg #[x0, x1, x2, x3, x4, x5, x6, x7, x8, x9, x10, x11, x12, x13, x14, x15, x16]) rfl (by kernel_rfl) (by kernel_rfl) (by kernel_rfl) (by kernel_rfl) (fun _ _ _ h => h) (Or.inl ⟨by kernel_rfl, fun u hSw => yields_load_part 51 (.tmp 33) rfl g (2 + a * 17) rfl [x0, x1, x2, x3, x4, x5, x6, x7, x8, x9, x10, x11, x12, x13, x14, x15, x16] hSw HX.out.1 Tryd.underlying51 rfl szSt⟩) (by assumption) ?_
  try simp only [Act.put, List.setIfInBounds_toArray, List.set_cons_zero, List.set_cons_succ]
  refine wpAnyH_ready (rs := [12]) (by kernel_rfl) (by simp) ?_
  refine AllReadyH.cons rfl (fun K hK => ?_) AllReadyH.nil
  go_simp
  refine hK.out _ _ (Is.alloc (by assumption) _) (fun hHeld2 => ?_)
  clear hK K
  try simp only [Act.put, List.setIfInBounds_toArray, List.set_cons_zero, List.set_cons_succ]
  refine wpAnyH_ready (rs := [13]) (by kernel_rfl) (by simp) ?_
  refine AllReadyH.cons rfl (fun K hK => ?_) AllReadyH.nil
  go_simp
  refine hK.out _ _ (by assumption) (fun hHeld3 => ?_)
  clear hK K
  try simp only [Act.put, List.setIfInBounds_toArray, List.set_cons_zero, List.set_cons_succ]
  refine wpAnyH_ready (rs := [14]) (by kernel_rfl) (by simp) ?_
  refine AllReadyH.cons rfl (fun K hK => ?_) AllReadyH.nil
  refine step_store_part rfl 51 (.tmp 7) (.tmp 34) rfl wo.heap.size 0 rfl (.agg #[x0, x1, x2, x3, x4, x5, x6, x7, x8, x9, x10, x11, x12, x13, x14, x15, x16]) rfl [x0, x1, x2, x3, x4, x5, x6, x7, x8, x9, x10, x11, x12, x13, x14, x15, x16] (Is.new wo.drew _ _) rfl (Nat.le_refl 17) HX.out.2 szSt _ rfl ?_
  intro w2 hi2 hc2
  have HCr : Hid (Chg none_ wo w2) := ((Chg.refl none_ wo).drew.alloc _).then hc2 fun k hk e => by omega
  refine hK.out _ _ (hHeld.chg (((Chg.refl none_ wo.drew).alloc _).then hc2 fun k hk e => absurd hk (by subst e; exact Nat.lt_irrefl _)) fun f => f) (fun _ => ?_)
  clear hK K
  try simp only [Act.put, List.setIfInBounds_toArray, List.set_cons_zero, List.set_cons_succ]
  refine wpAnyH_done (by kernel_rfl) ?_ _
  have HIr2 : Hid (Is w2 wo.heap.size 51 #[x0, x1, x2, x3, x4, x5, x6, x7, x8, x9, x10, x11, x12, x13, x14, x15, x16]) := hi2
  have HIo2 := Lib.hid (HIo.out.chg HCr.out fun f => f)
  have HC2 : Hid (Chg none_ w w2) := HCo.out.trans HCr.out
  have HRo : Hid (w.heap.size < wo.heap.size ∧ wo.heap.size < w2.heap.size) := ⟨HIo.out.lt, HIr2.out.lt⟩
  have H2 := Lib.hid (H.out.keep HC2.out)
  have HT : Hid (∀ k, T a k → k < w.heap.size) := fun k hk => (H.out.t a HA.out k hk).2.2
  have HBw : Hid (B ≤ w.heap.size) := Nat.le_trans HS.out.2.2 (Nat.le_trans H.out.hL (Nat.le_of_lt H.out.im.lt))
  have HS2 : Hid (Sen B A w2 ∧ Tab B w2) := ⟨HS.out.1.below (HC2.out.old HBw.out), HS.out.2.1.below (HC2.out.old HBw.out)⟩
  have R2 : Hid (Rn B A w2 w2 (T a) (n a) (p a) (s a)) := Rn.init HS2.out.1 HS2.out.2 (Nat.le_trans HBw.out HC2.out.size) (fun k hk => Nat.le_trans HS.out.2.2 (H2.out.t a HA.out k hk).1) (H2.out.nil a HA.out) (H2.out.sl a HA.out)
  clear hHeld hHeld2 hHeld3 hi2 hc2 HIo HIS HCr HCo
  have hf0 : w2.cell? ⟨w.heap.size, 0, none⟩ = some (.int .i64 7) := HIo2.out.at_ 0 _ rfl
  have hf3 : w2.cell? ⟨w.heap.size, 3, none⟩ = some (.slice A2 len cap) := HIo2.out.at_ 3 _ rfl
  have hf5 : w2.cell? ⟨w.heap.size, 5, none⟩ = some (.bool fl) := HIo2.out.at_ 5 _ rfl
  go_wp2_with fail
  have HD2 : Hid (Rd w2.drew A2 len fun i => .int .u8 (zs.getD i 0)) := HZr.out w2.drew (HC2.out.old HBw.out).drew
  refine wp_region_held_drew (S := fun u => u.cell? ⟨w.heap.size, 3, none⟩ = some (.slice A2 len cap) ∧ u.cell? ⟨w.heap.size, 5, none⟩ = some (.bool fl)) (by kernel_rfl) ⟨hf3, hf5⟩ (fun hHeld => ?_)
  refine take_at 90 (i := 0) (v := p a) rfl (by kernel_rfl) (by kernel_rfl) (by kernel_rfl) (by kernel_rfl) (fun _ _ _ h => h) (Or.inl ⟨by kernel_rfl, by intro u hSw; (try dsimp only at hSw); go_simp⟩) (by assumption) ?_
  try simp only [Act.put, List.setIfInBounds_toArray, List.set_cons_zero, List.set_cons_succ]
  refine take_at 91 (i := 1) (v := .pointer (some ⟨w.heap.size, 3, none⟩)) rfl (by kernel_rfl) (by kernel_rfl) (by kernel_rfl) (by kernel_rfl) (fun _ _ _ h => h) (Or.inl ⟨by kernel_rfl, by intro u hSw; (try dsimp only at hSw); go_simp⟩) (by assumption) ?_
  try simp only [Act.put, List.setIfInBounds_toArray, List.set_cons_zero, List.set_cons_succ]
  refine take_at 92 (i := 2) (v := .slice A2 len cap) rfl (by kernel_rfl) (by kernel_rfl) (by kernel_rfl) (by kernel_rfl) (fun _ _ _ h => h) (Or.inl ⟨by kernel_rfl, by intro u hSw; (try dsimp only at hSw); go_simp⟩) (by assumption) ?_
  try simp only [Act.put, List.setIfInBounds_toArray, List.set_cons_zero, List.set_cons_succ]
  refine take_at 94 (i := 4) (v := .pointer (some ⟨w.heap.size, 5, none⟩)) rfl (by kernel_rfl) (by kernel_rfl) (by kernel_rfl) (by kernel_rfl) (fun _ _ _ h => h) (Or.inl ⟨by kernel_rfl, by intro u hSw; (try dsimp only at hSw); go_simp⟩) (by assumption) ?_
  try simp only [Act.put, List.setIfInBounds_toArray, List.set_cons_zero, List.set_cons_succ]
  refine take_at 95 (i := 5) (v := .bool fl) rfl (by kernel_rfl) (by kernel_rfl) (by kernel_rfl) (by kernel_rfl) (fun _ _ _ h => h) (Or.inl ⟨by kernel_rfl, by intro u hSw; (try dsimp only at hSw); go_simp⟩) (by assumption) ?_
  try simp only [Act.put, List.setIfInBounds_toArray, List.set_cons_zero, List.set_cons_succ]
  refine wpAnyH_ready (rs := [3]) (by kernel_rfl) (by simp) ?_
  refine AllReadyH.cons rfl (fun K hK => ?_) AllReadyH.nil
  go_simp
  refine (copied_any w2.drew A2 len cap zs HZ.out.1 HD2.out HZ.out.2.2.1).mono ?_
  rintro e wc ⟨v, rfl, hv, cc⟩
  have HV := Lib.hid hv
  have HCc := Lib.hid cc
  clear hv cc
  try go_simp
  refine hK.out _ _ ⟨HCc.out.cell (World.block_lt_of_cell? w2 _ hf3) (fun f => f) |>.trans hf3, HCc.out.cell (World.block_lt_of_cell? w2 _ hf5) (fun f => f) |>.trans hf5⟩ (fun hHeld2 => ?_)
  clear hK K
  try simp only [Act.put, List.setIfInBounds_toArray, List.set_cons_zero, List.set_cons_succ]
  refine wpAnyH_ready (rs := [6]) (by kernel_rfl) (by simp) ?_
  refine AllReadyH.cons rfl (fun K hK => ?_) AllReadyH.nil
  go_simp
  have R2d : Hid (Rn B A w2.drew w2.drew (T a) (n a) (p a) (s a)) := Rn.init (HS2.out.1.drewN 1) (HS2.out.2.below ((Chg.refl none_ w2).drew.old (Nat.le_trans HBw.out HC2.out.size))) (Nat.le_trans HBw.out HC2.out.size) (fun k hk => Nat.le_trans HS.out.2.2 (H2.out.t a HA.out k hk).1) (H2.out.nil a HA.out) (fun e => by obtain ⟨q, e1, e2⟩ := H2.out.sl a HA.out e; exact ⟨q, e1, e2.keep (Chg.refl none_ w2).drew⟩)
  refine (rn_arrive R2d.out HCc.out HV.out HZ.out.2.1 (by rw [HZ.out.1]; exact HZ.out.2.2.1) fl).mono ?_
  rintro e w3 ⟨rfl, r3⟩
  have R3d := Lib.hid r3
  clear r3
  have HIr3 := Lib.hid (HIr2.out.chg (((Chg.refl (T a) w2).drew).trans R3d.out.chg) fun hk => by have := HT.out _ hk; have := HRo.out; omega)
  have HIo3 := Lib.hid (HIo2.out.chg (((Chg.refl (T a) w2).drew).trans R3d.out.chg) fun hk => by have := HT.out _ hk; have := HRo.out; omega)
  have R3 := Lib.hid R3d.out.undrew
  have hf3 : w3.cell? ⟨w.heap.size, 3, none⟩ = some (.slice A2 len cap) := HIo3.out.at_ 3 _ rfl
  have hf5 : w3.cell? ⟨w.heap.size, 5, none⟩ = some (.bool fl) := HIo3.out.at_ 5 _ rfl
  try go_simp
  refine hK.out _ _ ⟨hf3, hf5⟩ (fun hHeld3 => ?_)
  clear hK K
  try simp only [Act.put, List.setIfInBounds_toArray, List.set_cons_zero, List.set_cons_succ]
  refine wpAnyH_ready (rs := [7]) (by kernel_rfl) (by simp) ?_
  refine AllReadyH.cons rfl (fun K hK => ?_) AllReadyH.nil
  go_simp
  refine hK.out _ _ (by assumption) (fun hHeld4 => ?_)
  clear hK K
  try simp only [Act.put, List.setIfInBounds_toArray, List.set_cons_zero, List.set_cons_succ]
  refine wpAnyH_done (by kernel_rfl) ?_ _
  clear HIr2 HIo2 hHeld hHeld2 hHeld3 hHeld4 R2d R3d
  have hf := H2.out.us R3.out.chg HA.out
  have HUN := Lib.hid (H2.out.usN R3.out.chg H2.out.im.lt)
  rw [HXa.out] at hf
  have HF := Lib.hid hf
  clear hf
  have HD3 : Hid (Rd w3 A2 len fun i => .int .u8 (zs.getD i 0)) := HZr.out w3 ((HC2.out.old HBw.out).trans (R3.out.chg.below (fun k _ hk => R2.out.hTB k hk) R2.out.hB))
  go_wp2_with (refine wpList_load_part rfl 51 (.tmp 7) rfl wo.heap.size 0 rfl [x0, x1, x2, x3, x4, x5, x6, x7, x8, x9, x10, x11, x12, x13, x14, x15, x16] HIr3.out rfl Tryd.underlying51 rfl szSt ?_)
  refine (m_arrive HF.out HUN.out A2 len cap zs HZ.out.1 HZ.out.2.1 HD3.out HZ.out.2.2.1 fl).mono ?_
  rintro e w4 ⟨y, rfl, hy, c4⟩
  obtain ⟨y0, y1, y2, y3, y4, y5, y6, y7, y8, y9, y10, y11, y12, y13, y14, y15, y16, rfl, hy1⟩ := rf_x17 hy
  have HY := Lib.hid (And.intro hy hy1)
  have HC4 := Lib.hid c4
  clear hy hy1 c4
  go_wp2_with (refine wpList_store_part rfl 51 (.tmp 15) (.tmp 104) rfl w4.heap.size 0 rfl (.agg #[y0, y1, y2, y3, y4, y5, y6, y7, y8, y9, y10, y11, y12, y13, y14, y15, y16]) rfl [y0, y1, y2, y3, y4, y5, y6, y7, y8, y9, y10, y11, y12, y13, y14, y15, y16] (Is.new w4 _ _) rfl (Nat.le_refl 17) HY.out.2 szSt _ rfl ?_)
  intro w5 hi5 hc5
  have HI5 : Hid (Is w5 w4.heap.size 51 #[y0, y1, y2, y3, y4, y5, y6, y7, y8, y9, y10, y11, y12, y13, y14, y15, y16]) := hi5
  have HC5 : Hid (Chg none_ w4 w5) := ((Chg.refl none_ w4).alloc _).then hc5 fun k hk e => by omega
  clear hi5 hc5
  go_wp2_with fail
  have HCt : Hid (Chg none_ w3 w5) := HC4.out.trans HC5.out
  have HSt : Hid (Sen B A w5) := (R3.out.grow HCt.out).sen
  have hk : nC (n a) (avC (s a) zs.length) ≤ 42 := nC_le (avC_le _ _)
  have HGt : Hid (Is w5 g 55 (prV p x n)) := (H2.out.im.chg R3.out.chg fun hk => (H2.out.t a HA.out g hk).2.1 rfl).chg HCt.out fun f => f
  go_still_tail 6, (by kernel_rfl)
  still_call ((code_any w5.drew (HSt.out.drewN 1) (nC (n a) (avC (s a) zs.length)) hk).mono fun e w' h => ⟨h.1, h.2.symm⟩)
  repeat still_step
  refine still_load_part rfl 51 (.tmp 15) rfl w4.heap.size 0 rfl [y0, y1, y2, y3, y4, y5, y6, y7, y8, y9, y10, y11, y12, y13, y14, y15, y16] HI5.out.dr1 rfl Tryd.underlying51 rfl szSt ?_
  repeat still_step
  refine wpStill_nil ?_
  change wpList _ _ _ _ _ w5.drew
  go_wp2_with fail
  refine (is_both w5.drew HA.out HGt.out.dr1 H2.out.x17 (avC (s a) zs.length) _ (rf17 HY.out.1) (true) (fun _ => rfl)).mono ?_
  rintro e w9 ⟨rfl, i1, i2, i3⟩
  have HE := Lib.hid (And.intro i1 (And.intro i2 i3))
  clear i1 i2 i3
  go_wp2
  go_ret
  have hfin := H2.out.step HA.out R3.out HCt.out.drew HE.out.2.2 (fun e => ⟨by rw [e]; rfl, HE.out.1 e⟩) (fun e => ⟨HE.out.2.1 e, by rw [e]; exact HY.out.1.keep HC5.out.drew⟩)
  exact ⟨rfl, hfin.1, (HC2.out.more fun _ _ f => f.elim).trans hfin.2⟩
set_option maxRecDepth 100000 in
set_option maxHeartbeats 4000000 in
theorem wire_grant (w : World) {L g : Nat} {T : Nat → Nat → Prop} {p x : Nat → Value} {n : Nat → Bool} {s : Nat → Sm} (h : Pri w L g T p x n s) (hs : Sen B A w) (ht : Tab B w) (hBL : B ≤ L) (xx nn : Int) (A2 : Option Addr) (len cap : Nat) (dl : Int) (fl : Bool) (c0 c1 c2 c3 c4 c5 c6 c7 : Value) {a : Nat} (ha : a < 2) (hbits : bits .and .i64 xx 1 = (a : Int)) (n0 : 0 ≤ dl) (n1 : dl ≤ 4294967295) :
    Calls Tryd.prog 53 #[.pointer (some ⟨g, 0, none⟩), .agg #[.int .i64 8, .int .i64 xx, .int .i64 nn, .slice A2 len cap, .int .u32 dl, .bool fl, c0, c1, c2, c3, c4, c5, c6, c7]] w fun e w' => e = .returned (.bool true) ∧ Inv w' L g ∧ Chg (fun k => L ≤ k) w w' := by
  have H := Lib.hid h
  have HS := Lib.hid (And.intro hs (And.intro ht hBL))
  have HA := Lib.hid ha
  have ha0 : (0 : Int) ≤ (a : Int) := by omega
  have ha2 : (a : Int) < 2 := by omega
  clear h hs ht hBL
  have HX0 := H.out.rf a ha
  obtain ⟨x0, x1, x2, x3, x4, x5, x6, x7, x8, x9, x10, x11, x12, x13, x14, x15, x16, hxa, hx1⟩ := rf_x17 HX0
  have HX : Hid (((prV p x n).toList.drop (2 + a * 17)).take [x0, x1, x2, x3, x4, x5, x6, x7, x8, x9, x10, x11, x12, x13, x14, x15, x16].length = [x0, x1, x2, x3, x4, x5, x6, x7, x8, x9, x10, x11, x12, x13, x14, x15, x16] ∧ [x0, x1, x2, x3, x4, x5, x6, x7, x8, x9, x10, x11, x12, x13, x14, x15, x16].all (·.oneCell') = true) := ⟨by
    have h1 := prV_x (p := p) (n := n) H.out.x17 ha
    rw [hxa] at h1
    exact h1, hx1⟩
  have HXa := Lib.hid hxa
  clear hxa hx1 HX0
  clear ha
  go_enter Tryd.func53, Tryd.ntmps53
  go_wp2_with fail
  obtain ⟨wo, hwo⟩ : ∃ y, w.alloc (.cells #[.int .i64 8, .int .i64 xx, .int .i64 nn, .slice A2 len cap, .int .u32 dl, .bool fl, c0, c1, c2, c3, c4, c5, c6, c7] 45) = y := ⟨_, rfl⟩
  have HIo := Lib.hid (Is.new w 45 #[.int .i64 8, .int .i64 xx, .int .i64 nn, .slice A2 len cap, .int .u32 dl, .bool fl, c0, c1, c2, c3, c4, c5, c6, c7])
  have HCo : Hid (Chg none_ w (w.alloc (.cells #[.int .i64 8, .int .i64 xx, .int .i64 nn, .slice A2 len cap, .int .u32 dl, .bool fl, c0, c1, c2, c3, c4, c5, c6, c7] 45))) := (Chg.refl none_ w).alloc _
  rw [hwo] at HIo HCo ⊢
  clear hwo
  have HIS : Hid (Is wo.drew g 55 (prV p x n)) := (H.out.im.chg HCo.out fun f => f).dr1
  refine wp_region_held_drew (S := fun u => Is u g 55 (prV p x n)) (by kernel_rfl) HIS.out (fun hHeld => ?_)
  refine take_at 23 (i := 0) (v := .pointer (some ⟨g, 0, none⟩)) rfl (by kernel_rfl) (by kernel_rfl) (by kernel_rfl) (by kernel_rfl) (fun _ _ _ h => h) (Or.inl ⟨by kernel_rfl, by intro u hSw; (try dsimp only at hSw); go_simp⟩) (by assumption) ?_
  try simp only [Act.put, List.setIfInBounds_toArray, List.set_cons_zero, List.set_cons_succ]
  refine take_at 24 (i := 1) (v := .int .i64 (a : Int)) rfl (by kernel_rfl) (by kernel_rfl) (by kernel_rfl) (by kernel_rfl) (fun _ _ _ h => h) (Or.inl ⟨by kernel_rfl, by intro u hSw; (try dsimp only at hSw); go_simp⟩) (by assumption) ?_
  try simp only [Act.put, List.setIfInBounds_toArray, List.set_cons_zero, List.set_cons_succ]
  refine take_at 25 (i := 2) (v := .pointer (some ⟨g, 0, none⟩)) rfl (by kernel_rfl) (by kernel_rfl) (by kernel_rfl) (by kernel_rfl) (fun _ _ _ h => h) (Or.inl ⟨by kernel_rfl, by intro u hSw; (try dsimp only at hSw); go_simp⟩) (by assumption) ?_
  try simp only [Act.put, List.setIfInBounds_toArray, List.set_cons_zero, List.set_cons_succ]
  refine take_at 26 (i := 3) (v := .pointer (some ⟨g, 0, none⟩)) rfl (by kernel_rfl) (by kernel_rfl) (by kernel_rfl) (by kernel_rfl) (fun _ _ _ h => h) (Or.inl ⟨by kernel_rfl, by intro u hSw; (try dsimp only at hSw); go_simp⟩) (by assumption) ?_
  try simp only [Act.put, List.setIfInBounds_toArray, List.set_cons_zero, List.set_cons_succ]
  refine take_at 27 (i := 4) (v := .pointer (some ⟨g, a, none⟩)) rfl (by kernel_rfl) (by kernel_rfl) (by kernel_rfl) (by kernel_rfl) (fun _ _ _ h => h) (Or.inl ⟨by kernel_rfl, by intro u hSw; (try dsimp only at hSw); go_simp⟩) (by assumption) ?_
  try simp only [Act.put, List.setIfInBounds_toArray, List.set_cons_zero, List.set_cons_succ]
  refine take_at 28 (i := 5) (v := p a) rfl (by kernel_rfl) (by kernel_rfl) (by kernel_rfl) (by kernel_rfl) (fun _ _ _ h => h) (Or.inl ⟨by kernel_rfl, by intro u hSw; have hc := hSw.at_ a _ (prV_p HA.out); go_simp⟩) (by assumption) ?_
  try simp only [Act.put, List.setIfInBounds_toArray, List.set_cons_zero, List.set_cons_succ]
  refine take_at 29 (i := 6) (v := .pointer (some ⟨g, 0, none⟩)) rfl (by kernel_rfl) (by kernel_rfl) (by kernel_rfl) (by kernel_rfl) (fun _ _ _ h => h) (Or.inl ⟨by kernel_rfl, by intro u hSw; (try dsimp only at hSw); go_simp⟩) (by assumption) ?_
  try simp only [Act.put, List.setIfInBounds_toArray, List.set_cons_zero, List.set_cons_succ]
  refine take_at 30 (i := 7) (v := .int .i64 (a : Int)) rfl (by kernel_rfl) (by kernel_rfl) (by kernel_rfl) (by kernel_rfl) (fun _ _ _ h => h) (Or.inl ⟨by kernel_rfl, by intro u hSw; (try dsimp only at hSw); go_simp⟩) (by assumption) ?_
  try simp only [Act.put, List.setIfInBounds_toArray, List.set_cons_zero, List.set_cons_succ]
  refine take_at 31 (i := 8) (v := .pointer (some ⟨g, 0, none⟩)) rfl (by kernel_rfl) (by kernel_rfl) (by kernel_rfl) (by kernel_rfl) (fun _ _ _ h => h) (Or.inl ⟨by kernel_rfl, by intro u hSw; (try dsimp only at hSw); go_simp⟩) (by assumption) ?_
  try simp only [Act.put, List.setIfInBounds_toArray, List.set_cons_zero, List.set_cons_succ]
  refine take_at 32 (i := 9) (v := .pointer (some ⟨g, 2, none⟩)) rfl (by kernel_rfl) (by kernel_rfl) (by kernel_rfl) (by kernel_rfl) (fun _ _ _ h => h) (Or.inl ⟨by kernel_rfl, by intro u hSw; (try dsimp only at hSw); go_simp⟩) (by assumption) ?_
  try simp only [Act.put, List.setIfInBounds_toArray, List.set_cons_zero, List.set_cons_succ]
  refine take_at 33 (i := 10) (v := .pointer (some ⟨g, 2 + a * 17, none⟩)) rfl (by kernel_rfl) (by kernel_rfl) (by kernel_rfl) (by kernel_rfl) (fun _ _ _ h => h) (Or.inl ⟨by kernel_rfl, by intro u hSw; (try dsimp only at hSw); go_simp⟩) (by assumption) ?_
  try simp only [Act.put, List.setIfInBounds_toArray, List.set_cons_zero, List.set_cons_succ]
  refine take_at 34 (i := 11) (v := .agg #[x0, x1, x2, x3, x4, x5, x6, x7, x8, x9, x10, x11, x12, x13, x14, x15, x16]) rfl (by kernel_rfl) (by kernel_rfl) (by kernel_rfl) (by kernel_rfl) (fun _ _ _ h => h) (Or.inl ⟨by kernel_rfl, fun u hSw => yields_load_part 51 (.tmp 33) rfl g (2 + a * 17) rfl [x0, x1, x2, x3, x4, x5, x6, x7, x8, x9, x10, x11, x12, x13, x14, x15, x16] hSw HX.out.1 Tryd.underlying51 rfl szSt⟩) (by assumption) ?_
  try simp only [Act.put, List.setIfInBounds_toArray, List.set_cons_zero, List.set_cons_succ]
  refine wpAnyH_ready (rs := [12]) (by kernel_rfl) (by simp) ?_
  refine AllReadyH.cons rfl (fun K hK => ?_) AllReadyH.nil
  go_simp
  refine hK.out _ _ (Is.alloc (by assumption) _) (fun hHeld2 => ?_)
  clear hK K
  try simp only [Act.put, List.setIfInBounds_toArray, List.set_cons_zero, List.set_cons_succ]
  refine wpAnyH_ready (rs := [13]) (by kernel_rfl) (by simp) ?_
  refine AllReadyH.cons rfl (fun K hK => ?_) AllReadyH.nil
  go_simp
  refine hK.out _ _ (by assumption) (fun hHeld3 => ?_)
  clear hK K
  try simp only [Act.put, List.setIfInBounds_toArray, List.set_cons_zero, List.set_cons_succ]
  refine wpAnyH_ready (rs := [14]) (by kernel_rfl) (by simp) ?_
  refine AllReadyH.cons rfl (fun K hK => ?_) AllReadyH.nil
  refine step_store_part rfl 51 (.tmp 7) (.tmp 34) rfl wo.heap.size 0 rfl (.agg #[x0, x1, x2, x3, x4, x5, x6, x7, x8, x9, x10, x11, x12, x13, x14, x15, x16]) rfl [x0, x1, x2, x3, x4, x5, x6, x7, x8, x9, x10, x11, x12, x13, x14, x15, x16] (Is.new wo.drew _ _) rfl (Nat.le_refl 17) HX.out.2 szSt _ rfl ?_
  intro w2 hi2 hc2
  have HCr : Hid (Chg none_ wo w2) := ((Chg.refl none_ wo).drew.alloc _).then hc2 fun k hk e => by omega
  refine hK.out _ _ (hHeld.chg (((Chg.refl none_ wo.drew).alloc _).then hc2 fun k hk e => absurd hk (by subst e; exact Nat.lt_irrefl _)) fun f => f) (fun _ => ?_)
  clear hK K
  try simp only [Act.put, List.setIfInBounds_toArray, List.set_cons_zero, List.set_cons_succ]
  refine wpAnyH_done (by kernel_rfl) ?_ _
  have HIr2 : Hid (Is w2 wo.heap.size 51 #[x0, x1, x2, x3, x4, x5, x6, x7, x8, x9, x10, x11, x12, x13, x14, x15, x16]) := hi2
  have HIo2 := Lib.hid (HIo.out.chg HCr.out fun f => f)
  have HC2 : Hid (Chg none_ w w2) := HCo.out.trans HCr.out
  have HRo : Hid (w.heap.size < wo.heap.size ∧ wo.heap.size < w2.heap.size) := ⟨HIo.out.lt, HIr2.out.lt⟩
  have H2 := Lib.hid (H.out.keep HC2.out)
  have HT : Hid (∀ k, T a k → k < w.heap.size) := fun k hk => (H.out.t a HA.out k hk).2.2
  have HBw : Hid (B ≤ w.heap.size) := Nat.le_trans HS.out.2.2 (Nat.le_trans H.out.hL (Nat.le_of_lt H.out.im.lt))
  have HS2 : Hid (Sen B A w2 ∧ Tab B w2) := ⟨HS.out.1.below (HC2.out.old HBw.out), HS.out.2.1.below (HC2.out.old HBw.out)⟩
  have R2 : Hid (Rn B A w2 w2 (T a) (n a) (p a) (s a)) := Rn.init HS2.out.1 HS2.out.2 (Nat.le_trans HBw.out HC2.out.size) (fun k hk => Nat.le_trans HS.out.2.2 (H2.out.t a HA.out k hk).1) (H2.out.nil a HA.out) (H2.out.sl a HA.out)
  clear hHeld hHeld2 hHeld3 hi2 hc2 HIo HIS HCr HCo
  have HN := Lib.hid (And.intro n0 n1)
  clear n0 n1
  have hf0 : w2.cell? ⟨w.heap.size, 0, none⟩ = some (.int .i64 8) := HIo2.out.at_ 0 _ rfl
  have hf4 : w2.cell? ⟨w.heap.size, 4, none⟩ = some (.int .u32 dl) := HIo2.out.at_ 4 _ rfl
  have hf5 : w2.cell? ⟨w.heap.size, 5, none⟩ = some (.bool fl) := HIo2.out.at_ 5 _ rfl
  go_wp2_with fail
  refine (rn_grant R2.out dl HN.out.1 HN.out.2 fl).mono ?_
  rintro e w3 ⟨rfl, r3⟩
  have R3 := Lib.hid r3
  clear r3
  have HIr3 := Lib.hid (HIr2.out.chg R3.out.chg fun hk => by have := HT.out _ hk; have := HRo.out; omega)
  have HIo3 := Lib.hid (HIo2.out.chg R3.out.chg fun hk => by have := HT.out _ hk; have := HRo.out; omega)
  clear HIr2 HIo2
  have hf := H2.out.us R3.out.chg HA.out
  have HUN := Lib.hid (H2.out.usN R3.out.chg H2.out.im.lt)
  rw [HXa.out] at hf
  have HF := Lib.hid hf
  clear hf
  have hf4 : w3.cell? ⟨w.heap.size, 4, none⟩ = some (.int .u32 dl) := HIo3.out.at_ 4 _ rfl
  have hf5 : w3.cell? ⟨w.heap.size, 5, none⟩ = some (.bool fl) := HIo3.out.at_ 5 _ rfl
  go_wp2_with (refine wpList_load_part rfl 51 (.tmp 7) rfl wo.heap.size 0 rfl [x0, x1, x2, x3, x4, x5, x6, x7, x8, x9, x10, x11, x12, x13, x14, x15, x16] HIr3.out rfl Tryd.underlying51 rfl szSt ?_)
  refine (m_grant HF.out dl HN.out.1 HN.out.2 fl).mono ?_
  rintro e w4 ⟨y, rfl, hy, c4⟩
  obtain ⟨y0, y1, y2, y3, y4, y5, y6, y7, y8, y9, y10, y11, y12, y13, y14, y15, y16, rfl, hy1⟩ := rf_x17 hy
  have HY := Lib.hid (And.intro hy hy1)
  have HC4 := Lib.hid c4
  clear hy hy1 c4
  go_wp2_with (refine wpList_store_part rfl 51 (.tmp 18) (.tmp 128) rfl w4.heap.size 0 rfl (.agg #[y0, y1, y2, y3, y4, y5, y6, y7, y8, y9, y10, y11, y12, y13, y14, y15, y16]) rfl [y0, y1, y2, y3, y4, y5, y6, y7, y8, y9, y10, y11, y12, y13, y14, y15, y16] (Is.new w4 _ _) rfl (Nat.le_refl 17) HY.out.2 szSt _ rfl ?_)
  intro w5 hi5 hc5
  have HI5 : Hid (Is w5 w4.heap.size 51 #[y0, y1, y2, y3, y4, y5, y6, y7, y8, y9, y10, y11, y12, y13, y14, y15, y16]) := hi5
  have HC5 : Hid (Chg none_ w4 w5) := ((Chg.refl none_ w4).alloc _).then hc5 fun k hk e => by omega
  clear hi5 hc5
  go_wp2_with fail
  have HCt : Hid (Chg none_ w3 w5) := HC4.out.trans HC5.out
  have HSt : Hid (Sen B A w5) := (R3.out.grow HCt.out).sen
  have hk : nC (n a) (gnC (s a) dl) ≤ 42 := nC_le (gnC_le _ _)
  have HGt : Hid (Is w5 g 55 (prV p x n)) := (H2.out.im.chg R3.out.chg fun hk => (H2.out.t a HA.out g hk).2.1 rfl).chg HCt.out fun f => f
  go_still_tail 6, (by kernel_rfl)
  still_call ((code_any w5.drew (HSt.out.drewN 1) (nC (n a) (gnC (s a) dl)) hk).mono fun e w' h => ⟨h.1, h.2.symm⟩)
  repeat still_step
  refine still_load_part rfl 51 (.tmp 18) rfl w4.heap.size 0 rfl [y0, y1, y2, y3, y4, y5, y6, y7, y8, y9, y10, y11, y12, y13, y14, y15, y16] HI5.out.dr1 rfl Tryd.underlying51 rfl szSt ?_
  repeat still_step
  refine wpStill_nil ?_
  change wpList _ _ _ _ _ w5.drew
  go_wp2_with fail
  refine (is_both w5.drew HA.out HGt.out.dr1 H2.out.x17 (gnC (s a) dl) _ (rf17 HY.out.1) (true) (fun _ => rfl)).mono ?_
  rintro e w9 ⟨rfl, i1, i2, i3⟩
  have HE := Lib.hid (And.intro i1 (And.intro i2 i3))
  clear i1 i2 i3
  go_wp2
  go_ret
  have hfin := H2.out.step HA.out R3.out HCt.out.drew HE.out.2.2 (fun e => ⟨by rw [e]; rfl, HE.out.1 e⟩) (fun e => ⟨HE.out.2.1 e, by rw [e]; exact HY.out.1.keep HC5.out.drew⟩)
  exact ⟨rfl, hfin.1, (HC2.out.more fun _ _ f => f.elim).trans hfin.2⟩
set_option maxRecDepth 100000 in
set_option maxHeartbeats 4000000 in
theorem wire_reset (w : World) {L g : Nat} {T : Nat → Nat → Prop} {p x : Nat → Value} {n : Nat → Bool} {s : Nat → Sm} (h : Pri w L g T p x n s) (hs : Sen B A w) (ht : Tab B w) (hBL : B ≤ L) (xx nn : Int) (A2 : Option Addr) (len cap : Nat) (dl : Int) (fl : Bool) (c0 c1 c2 c3 c4 c5 c6 c7 : Value) {a : Nat} (ha : a < 2) (hbits : bits .and .i64 xx 1 = (a : Int)) :
    Calls Tryd.prog 53 #[.pointer (some ⟨g, 0, none⟩), .agg #[.int .i64 9, .int .i64 xx, .int .i64 nn, .slice A2 len cap, .int .u32 dl, .bool fl, c0, c1, c2, c3, c4, c5, c6, c7]] w fun e w' => e = .returned (.bool true) ∧ Inv w' L g ∧ Chg (fun k => L ≤ k) w w' := by
  have H := Lib.hid h
  have HS := Lib.hid (And.intro hs (And.intro ht hBL))
  have HA := Lib.hid ha
  have ha0 : (0 : Int) ≤ (a : Int) := by omega
  have ha2 : (a : Int) < 2 := by omega
  clear h hs ht hBL
  have HX0 := H.out.rf a ha
  obtain ⟨x0, x1, x2, x3, x4, x5, x6, x7, x8, x9, x10, x11, x12, x13, x14, x15, x16, hxa, hx1⟩ := rf_x17 HX0
  have HX : Hid (((prV p x n).toList.drop (2 + a * 17)).take [x0, x1, x2, x3, x4, x5, x6, x7, x8, x9, x10, x11, x12, x13, x14, x15, x16].length = [x0, x1, x2, x3, x4, x5, x6, x7, x8, x9, x10, x11, x12, x13, x14, x15, x16] ∧ [x0, x1, x2, x3, x4, x5, x6, x7, x8, x9, x10, x11, x12, x13, x14, x15, x16].all (·.oneCell') = true) := ⟨by
    have h1 := prV_x (p := p) (n := n) H.out.x17 ha
    rw [hxa] at h1
    exact h1, hx1⟩
  have HXa := Lib.hid hxa
  clear hxa hx1 HX0
  clear ha
  go_enter Tryd.func53, Tryd.ntmps53
  go_wp2_with fail
  obtain ⟨wo, hwo⟩ : ∃ y, w.alloc (.cells #[.int .i64 9, .int .i64 xx, .int .i64 nn, .slice A2 len cap, .int .u32 dl, .bool fl, c0, c1, c2, c3, c4, c5, c6, c7] 45) = y := ⟨_, rfl⟩
  have HIo := Lib.hid (Is.new w 45 #[.int .i64 9, .int .i64 xx, .int .i64 nn, .slice A2 len cap, .int .u32 dl, .bool fl, c0, c1, c2, c3, c4, c5, c6, c7])
  have HCo : Hid (Chg none_ w (w.alloc (.cells #[.int .i64 9, .int .i64 xx, .int .i64 nn, .slice A2 len cap, .int .u32 dl, .bool fl, c0, c1, c2, c3, c4, c5, c6, c7] 45))) := (Chg.refl none_ w).alloc _
  rw [hwo] at HIo HCo ⊢
  clear hwo
  have HIS : Hid (Is wo.drew g 55 (prV p x n)) := (H.out.im.chg HCo.out fun f => f).dr1
  refine wp_region_held_drew (S := fun u => Is u g 55 (prV p x n)) (by kernel_rfl) HIS.out (fun hHeld => ?_)
  refine take_at 23 (i := 0) (v := .pointer (some ⟨g, 0, none⟩)) rfl (by kernel_rfl) (by kernel_rfl) (by kernel_rfl) (by kernel_rfl) (fun _ _ _ h => h) (Or.inl ⟨by kernel_rfl, by intro u hSw; (try dsimp only at hSw); go_simp⟩) (by assumption) ?_
  try simp only [Act.put, List.setIfInBounds_toArray, List.set_cons_zero, List.set_cons_succ]
  refine take_at 24 (i := 1) (v := .int .i64 (a : Int)) rfl (by kernel_rfl) (by kernel_rfl) (by kernel_rfl) (by kernel_rfl) (fun _ _ _ h => h) (Or.inl ⟨by kernel_rfl, by intro u hSw; (try dsimp only at hSw); go_simp⟩) (by assumption) ?_
  try simp only [Act.put, List.setIfInBounds_toArray, List.set_cons_zero, List.set_cons_succ]
  refine take_at 25 (i := 2) (v := .pointer (some ⟨g, 0, none⟩)) rfl (by kernel_rfl) (by kernel_rfl) (by kernel_rfl) (by kernel_rfl) (fun _ _ _ h => h) (Or.inl ⟨by kernel_rfl, by intro u hSw; (try dsimp only at hSw); go_simp⟩) (by assumption) ?_
  try simp only [Act.put, List.setIfInBounds_toArray, List.set_cons_zero, List.set_cons_succ]
  refine take_at 26 (i := 3) (v := .pointer (some ⟨g, 0, none⟩)) rfl (by kernel_rfl) (by kernel_rfl) (by kernel_rfl) (by kernel_rfl) (fun _ _ _ h => h) (Or.inl ⟨by kernel_rfl, by intro u hSw; (try dsimp only at hSw); go_simp⟩) (by assumption) ?_
  try simp only [Act.put, List.setIfInBounds_toArray, List.set_cons_zero, List.set_cons_succ]
  refine take_at 27 (i := 4) (v := .pointer (some ⟨g, a, none⟩)) rfl (by kernel_rfl) (by kernel_rfl) (by kernel_rfl) (by kernel_rfl) (fun _ _ _ h => h) (Or.inl ⟨by kernel_rfl, by intro u hSw; (try dsimp only at hSw); go_simp⟩) (by assumption) ?_
  try simp only [Act.put, List.setIfInBounds_toArray, List.set_cons_zero, List.set_cons_succ]
  refine take_at 28 (i := 5) (v := p a) rfl (by kernel_rfl) (by kernel_rfl) (by kernel_rfl) (by kernel_rfl) (fun _ _ _ h => h) (Or.inl ⟨by kernel_rfl, by intro u hSw; have hc := hSw.at_ a _ (prV_p HA.out); go_simp⟩) (by assumption) ?_
  try simp only [Act.put, List.setIfInBounds_toArray, List.set_cons_zero, List.set_cons_succ]
  refine take_at 29 (i := 6) (v := .pointer (some ⟨g, 0, none⟩)) rfl (by kernel_rfl) (by kernel_rfl) (by kernel_rfl) (by kernel_rfl) (fun _ _ _ h => h) (Or.inl ⟨by kernel_rfl, by intro u hSw; (try dsimp only at hSw); go_simp⟩) (by assumption) ?_
  try simp only [Act.put, List.setIfInBounds_toArray, List.set_cons_zero, List.set_cons_succ]
  refine take_at 30 (i := 7) (v := .int .i64 (a : Int)) rfl (by kernel_rfl) (by kernel_rfl) (by kernel_rfl) (by kernel_rfl) (fun _ _ _ h => h) (Or.inl ⟨by kernel_rfl, by intro u hSw; (try dsimp only at hSw); go_simp⟩) (by assumption) ?_
  try simp only [Act.put, List.setIfInBounds_toArray, List.set_cons_zero, List.set_cons_succ]
  refine take_at 31 (i := 8) (v := .pointer (some ⟨g, 0, none⟩)) rfl (by kernel_rfl) (by kernel_rfl) (by kernel_rfl) (by kernel_rfl) (fun _ _ _ h => h) (Or.inl ⟨by kernel_rfl, by intro u hSw; (try dsimp only at hSw); go_simp⟩) (by assumption) ?_
  try simp only [Act.put, List.setIfInBounds_toArray, List.set_cons_zero, List.set_cons_succ]
  refine take_at 32 (i := 9) (v := .pointer (some ⟨g, 2, none⟩)) rfl (by kernel_rfl) (by kernel_rfl) (by kernel_rfl) (by kernel_rfl) (fun _ _ _ h => h) (Or.inl ⟨by kernel_rfl, by intro u hSw; (try dsimp only at hSw); go_simp⟩) (by assumption) ?_
  try simp only [Act.put, List.setIfInBounds_toArray, List.set_cons_zero, List.set_cons_succ]
  refine take_at 33 (i := 10) (v := .pointer (some ⟨g, 2 + a * 17, none⟩)) rfl (by kernel_rfl) (by kernel_rfl) (by kernel_rfl) (by kernel_rfl) (fun _ _ _ h => h) (Or.inl ⟨by kernel_rfl, by intro u hSw; (try dsimp only at hSw); go_simp⟩) (by assumption) ?_
  try simp only [Act.put, List.setIfInBounds_toArray, List.set_cons_zero, List.set_cons_succ]
  refine take_at 34 (i := 11) (v := .agg #[x0, x1, x2, x3, x4, x5, x6, x7, x8, x9, x10, x11, x12, x13, x14, x15, x16]) rfl (by kernel_rfl) (by kernel_rfl) (by kernel_rfl) (by kernel_rfl) (fun _ _ _ h => h) (Or.inl ⟨by kernel_rfl, fun u hSw => yields_load_part 51 (.tmp 33) rfl g (2 + a * 17) rfl [x0, x1, x2, x3, x4, x5, x6, x7, x8, x9, x10, x11, x12, x13, x14, x15, x16] hSw HX.out.1 Tryd.underlying51 rfl szSt⟩) (by assumption) ?_
  try simp only [Act.put, List.setIfInBounds_toArray, List.set_cons_zero, List.set_cons_succ]
  refine wpAnyH_ready (rs := [12]) (by kernel_rfl) (by simp) ?_
  refine AllReadyH.cons rfl (fun K hK => ?_) AllReadyH.nil
  go_simp
  refine hK.out _ _ (Is.alloc (by assumption) _) (fun hHeld2 => ?_)
  clear hK K
  try simp only [Act.put, List.setIfInBounds_toArray, List.set_cons_zero, List.set_cons_succ]
  refine wpAnyH_ready (rs := [13]) (by kernel_rfl) (by simp) ?_
  refine AllReadyH.cons rfl (fun K hK => ?_) AllReadyH.nil
  go_simp
  refine hK.out _ _ (by assumption) (fun hHeld3 => ?_)
  clear hK K
  try simp only [Act.put, List.setIfInBounds_toArray, List.set_cons_zero, List.set_cons_succ]
  refine wpAnyH_ready (rs := [14]) (by kernel_rfl) (by simp) ?_
  refine AllReadyH.cons rfl (fun K hK => ?_) AllReadyH.nil
  refine step_store_part rfl 51 (.tmp 7) (.tmp 34) rfl wo.heap.size 0 rfl (.agg #[x0, x1, x2, x3, x4, x5, x6, x7, x8, x9, x10, x11, x12, x13, x14, x15, x16]) rfl [x0, x1, x2, x3, x4, x5, x6, x7, x8, x9, x10, x11, x12, x13, x14, x15, x16] (Is.new wo.drew _ _) rfl (Nat.le_refl 17) HX.out.2 szSt _ rfl ?_
  intro w2 hi2 hc2
  have HCr : Hid (Chg none_ wo w2) := ((Chg.refl none_ wo).drew.alloc _).then hc2 fun k hk e => by omega
  refine hK.out _ _ (hHeld.chg (((Chg.refl none_ wo.drew).alloc _).then hc2 fun k hk e => absurd hk (by subst e; exact Nat.lt_irrefl _)) fun f => f) (fun _ => ?_)
  clear hK K
  try simp only [Act.put, List.setIfInBounds_toArray, List.set_cons_zero, List.set_cons_succ]
  refine wpAnyH_done (by kernel_rfl) ?_ _
  have HIr2 : Hid (Is w2 wo.heap.size 51 #[x0, x1, x2, x3, x4, x5, x6, x7, x8, x9, x10, x11, x12, x13, x14, x15, x16]) := hi2
  have HIo2 := Lib.hid (HIo.out.chg HCr.out fun f => f)
  have HC2 : Hid (Chg none_ w w2) := HCo.out.trans HCr.out
  have HRo : Hid (w.heap.size < wo.heap.size ∧ wo.heap.size < w2.heap.size) := ⟨HIo.out.lt, HIr2.out.lt⟩
  have H2 := Lib.hid (H.out.keep HC2.out)
  have HT : Hid (∀ k, T a k → k < w.heap.size) := fun k hk => (H.out.t a HA.out k hk).2.2
  have HBw : Hid (B ≤ w.heap.size) := Nat.le_trans HS.out.2.2 (Nat.le_trans H.out.hL (Nat.le_of_lt H.out.im.lt))
  have HS2 : Hid (Sen B A w2 ∧ Tab B w2) := ⟨HS.out.1.below (HC2.out.old HBw.out), HS.out.2.1.below (HC2.out.old HBw.out)⟩
  have R2 : Hid (Rn B A w2 w2 (T a) (n a) (p a) (s a)) := Rn.init HS2.out.1 HS2.out.2 (Nat.le_trans HBw.out HC2.out.size) (fun k hk => Nat.le_trans HS.out.2.2 (H2.out.t a HA.out k hk).1) (H2.out.nil a HA.out) (H2.out.sl a HA.out)
  clear hHeld hHeld2 hHeld3 hi2 hc2 HIo HIS HCr HCo
  have hf0 : w2.cell? ⟨w.heap.size, 0, none⟩ = some (.int .i64 9) := HIo2.out.at_ 0 _ rfl
  go_wp2_with fail
  refine (rn_reset R2.out).mono ?_
  rintro e w3 ⟨⟨r, rfl⟩, r3⟩
  have R3 := Lib.hid r3
  clear r3
  have HIr3 := Lib.hid (HIr2.out.chg R3.out.chg fun hk => by have := HT.out _ hk; have := HRo.out; omega)
  have HIo3 := Lib.hid (HIo2.out.chg R3.out.chg fun hk => by have := HT.out _ hk; have := HRo.out; omega)
  clear HIr2 HIo2
  have hf := H2.out.us R3.out.chg HA.out
  have HUN := Lib.hid (H2.out.usN R3.out.chg H2.out.im.lt)
  rw [HXa.out] at hf
  have HF := Lib.hid hf
  clear hf
  go_wp2_with fail
  have HG3 : Hid (Is w3.drew g 55 (prV p x n)) := ((H2.out.im.chg R3.out.chg fun hk => (H2.out.t a HA.out g hk).2.1 rfl)).dr1
  have hgr : g < wo.heap.size := Nat.lt_of_lt_of_le H.out.im.lt (Nat.le_of_lt HRo.out.1)
  refine wp_region_held_drew (S := fun u => Is u wo.heap.size 51 #[x0, x1, x2, x3, x4, x5, x6, x7, x8, x9, x10, x11, x12, x13, x14, x15, x16]) (by kernel_rfl) HIr3.out.dr1 (fun hHeld => ?_)
  refine take_at 141 (i := 0) (v := .pointer (some ⟨g, 0, none⟩)) rfl (by kernel_rfl) (by kernel_rfl) (by kernel_rfl) (by kernel_rfl) (fun _ _ _ h => h) (Or.inl ⟨by kernel_rfl, by intro u hSw; (try dsimp only at hSw); go_simp⟩) (by assumption) ?_
  try simp only [Act.put, List.setIfInBounds_toArray, List.set_cons_zero, List.set_cons_succ]
  refine take_at 142 (i := 1) (v := .int .i64 (a : Int)) rfl (by kernel_rfl) (by kernel_rfl) (by kernel_rfl) (by kernel_rfl) (fun _ _ _ h => h) (Or.inl ⟨by kernel_rfl, by intro u hSw; (try dsimp only at hSw); go_simp⟩) (by assumption) ?_
  try simp only [Act.put, List.setIfInBounds_toArray, List.set_cons_zero, List.set_cons_succ]
  refine take_at 143 (i := 2) (v := .agg #[x0, x1, x2, x3, x4, x5, x6, x7, x8, x9, x10, x11, x12, x13, x14, x15, x16]) rfl (by kernel_rfl) (by kernel_rfl) (by kernel_rfl) (by kernel_rfl) (fun _ _ _ h => h) (Or.inl ⟨by kernel_rfl, fun u hSw => yields_load_part 51 (.tmp 7) rfl wo.heap.size 0 rfl [x0, x1, x2, x3, x4, x5, x6, x7, x8, x9, x10, x11, x12, x13, x14, x15, x16] hSw rfl Tryd.underlying51 rfl szSt⟩) (by assumption) ?_
  try simp only [Act.put, List.setIfInBounds_toArray, List.set_cons_zero, List.set_cons_succ]
  refine take_at 145 (i := 4) (v := .pointer (some ⟨g, 0, none⟩)) rfl (by kernel_rfl) (by kernel_rfl) (by kernel_rfl) (by kernel_rfl) (fun _ _ _ h => h) (Or.inl ⟨by kernel_rfl, by intro u hSw; (try dsimp only at hSw); go_simp⟩) (by assumption) ?_
  try simp only [Act.put, List.setIfInBounds_toArray, List.set_cons_zero, List.set_cons_succ]
  refine take_at 146 (i := 5) (v := .pointer (some ⟨g, 2, none⟩)) rfl (by kernel_rfl) (by kernel_rfl) (by kernel_rfl) (by kernel_rfl) (fun _ _ _ h => h) (Or.inl ⟨by kernel_rfl, by intro u hSw; (try dsimp only at hSw); go_simp⟩) (by assumption) ?_
  try simp only [Act.put, List.setIfInBounds_toArray, List.set_cons_zero, List.set_cons_succ]
  refine wpAnyH_ready (rs := [3]) (by kernel_rfl) (by simp) ?_
  refine AllReadyH.cons rfl (fun K hK => ?_) AllReadyH.nil
  go_simp
  refine (m_drop (HF.out.keep (Chg.refl none_ w3).drew)).mono ?_
  rintro e w4 ⟨y, rfl, hy, c4⟩
  obtain ⟨y0, y1, y2, y3, y4, y5, y6, y7, y8, y9, y10, y11, y12, y13, y14, y15, y16, rfl, hy1⟩ := rf_x17 hy
  have HY := Lib.hid (And.intro hy hy1)
  have HC4 := Lib.hid c4
  clear hy hy1 c4
  have HI4 := Lib.hid (HG3.out.chg HC4.out fun f => f)
  try go_simp
  refine hK.out _ _ (HIr3.out.dr1.chg HC4.out fun f => f) (fun hHeld2 => ?_)
  clear hK K
  try simp only [Act.put, List.setIfInBounds_toArray, List.set_cons_zero, List.set_cons_succ]
  refine take_at 147 (i := 6) (v := .pointer (some ⟨g, 2 + a * 17, none⟩)) rfl (by kernel_rfl) (by kernel_rfl) (by kernel_rfl) (by kernel_rfl) (fun _ _ _ h => h) (Or.inl ⟨by kernel_rfl, by intro u hSw; (try dsimp only at hSw); go_simp⟩) (by assumption) ?_
  try simp only [Act.put, List.setIfInBounds_toArray, List.set_cons_zero, List.set_cons_succ]
  refine wpAnyH_ready (rs := [7]) (by kernel_rfl) (by simp) ?_
  refine AllReadyH.cons rfl (fun K hK => ?_) AllReadyH.nil
  refine step_store_part rfl 51 (.tmp 147) (.tmp 144) rfl g (2 + a * 17) rfl (.agg #[y0, y1, y2, y3, y4, y5, y6, y7, y8, y9, y10, y11, y12, y13, y14, y15, y16]) rfl [y0, y1, y2, y3, y4, y5, y6, y7, y8, y9, y10, y11, y12, y13, y14, y15, y16] HI4.out rfl (by rw [prV_size H.out.x17]; have := HA.out; simp only [List.length_cons, List.length_nil]; omega) HY.out.2 szSt _ (prV_putx (p := p) (n := n) H.out.x17 HA.out (y := .agg #[y0, y1, y2, y3, y4, y5, y6, y7, y8, y9, y10, y11, y12, y13, y14, y15, y16]) (vs := [y0, y1, y2, y3, y4, y5, y6, y7, y8, y9, y10, y11, y12, y13, y14, y15, y16]) rfl rfl) ?_
  intro w5 hi5 hc5
  have HI5 := Lib.hid hi5
  have HC5 := Lib.hid hc5
  clear hi5 hc5
  refine hK.out _ _ (hHeld2.chg HC5.out fun e => by omega) (fun _ => ?_)
  clear hK K
  try simp only [Act.put, List.setIfInBounds_toArray, List.set_cons_zero, List.set_cons_succ]
  refine wpAnyH_done (by kernel_rfl) ?_ _
  go_wp2
  go_ret
  have hfin := H2.out.stepR HA.out R3.out (((Chg.refl none_ w3).drew).trans HC4.out) HC5.out HI5.out HY.out.1
  exact ⟨rfl, hfin.1, (HC2.out.more fun _ _ f => f.elim).trans hfin.2⟩
set_option maxRecDepth 100000 in
set_option maxHeartbeats 4000000 in
theorem wire_cut (w : World) {L g : Nat} {T : Nat → Nat → Prop} {p x : Nat → Value} {n : Nat → Bool} {s : Nat → Sm} (h : Pri w L g T p x n s) (hs : Sen B A w) (ht : Tab B w) (hBL : B ≤ L) (xx nn : Int) (A2 : Option Addr) (len cap : Nat) (dl : Int) (fl : Bool) (c0 c1 c2 c3 c4 c5 c6 c7 : Value) {a : Nat} (ha : a < 2) (hbits : bits .and .i64 xx 1 = (a : Int)) :
    Calls Tryd.prog 53 #[.pointer (some ⟨g, 0, none⟩), .agg #[.int .i64 10, .int .i64 xx, .int .i64 nn, .slice A2 len cap, .int .u32 dl, .bool fl, c0, c1, c2, c3, c4, c5, c6, c7]] w fun e w' => e = .returned (.bool true) ∧ Inv w' L g ∧ Chg (fun k => L ≤ k) w w' := by
  have H := Lib.hid h
  have HS := Lib.hid (And.intro hs (And.intro ht hBL))
  have HA := Lib.hid ha
  have ha0 : (0 : Int) ≤ (a : Int) := by omega
  have ha2 : (a : Int) < 2 := by omega
  clear h hs ht hBL
  have HX0 := H.out.rf a ha
  obtain ⟨x0, x1, x2, x3, x4, x5, x6, x7, x8, x9, x10, x11, x12, x13, x14, x15, x16, hxa, hx1⟩ := rf_x17 HX0
  have HX : Hid (((prV p x n).toList.drop (2 + a * 17)).take [x0, x1, x2, x3, x4, x5, x6, x7, x8, x9, x10, x11, x12, x13, x14, x15, x16].length = [x0, x1, x2, x3, x4, x5, x6, x7, x8, x9, x10, x11, x12, x13, x14, x15, x16] ∧ [x0, x1, x2, x3, x4, x5, x6, x7, x8, x9, x10, x11, x12, x13, x14, x15, x16].all (·.oneCell') = true) := ⟨by
    have h1 := prV_x (p := p) (n := n) H.out.x17 ha
    rw [hxa] at h1
    exact h1, hx1⟩
  have HXa := Lib.hid hxa
  clear hxa hx1 HX0
  clear ha
  go_enter Tryd.func53, Tryd.ntmps53
  go_wp2_with fail
  obtain ⟨wo, hwo⟩ : ∃ y, w.alloc (.cells #[.int .i64 10, .int .i64 xx, .int .i64 nn, .slice A2 len cap, .int .u32 dl, .bool fl, c0, c1, c2, c3, c4, c5, c6, c7] 45) = y := ⟨_, rfl⟩
  have HIo := Lib.hid (Is.new w 45 #[.int .i64 10, .int .i64 xx, .int .i64 nn, .slice A2 len cap, .int .u32 dl, .bool fl, c0, c1, c2, c3, c4, c5, c6, c7])
  have HCo : Hid (Chg none_ w (w.alloc (.cells #[.int .i64 10, .int .i64 xx, .int .i64 nn, .slice A2 len cap, .int .u32 dl, .bool fl, c0, c1, c2, c3, c4, c5, c6, c7] 45))) := (Chg.refl none_ w).alloc _
  rw [hwo] at HIo HCo ⊢
  clear hwo
  have HIS : Hid (Is wo.drew g 55 (prV p x n)) := (H.out.im.chg HCo.out fun f => f).dr1
  refine wp_region_held_drew (S := fun u => Is u g 55 (prV p x n)) (by kernel_rfl) HIS.out (fun hHeld => ?_)
  refine take_at 23 (i := 0) (v := .pointer (some ⟨g, 0, none⟩)) rfl (by kernel_rfl) (by kernel_rfl) (by kernel_rfl) (by kernel_rfl) (fun _ _ _ h => h) (Or.inl ⟨by kernel_rfl, by intro u hSw; (try dsimp only at hSw); go_simp⟩) (by assumption) ?_
  try simp only [Act.put, List.setIfInBounds_toArray, List.set_cons_zero, List.set_cons_succ]
  refine take_at 24 (i := 1) (v := .int .i64 (a : Int)) rfl (by kernel_rfl) (by kernel_rfl) (by kernel_rfl) (by kernel_rfl) (fun _ _ _ h => h) (Or.inl ⟨by kernel_rfl, by intro u hSw; (try dsimp only at hSw); go_simp⟩) (by assumption) ?_
  try simp only [Act.put, List.setIfInBounds_toArray, List.set_cons_zero, List.set_cons_succ]
  refine take_at 25 (i := 2) (v := .pointer (some ⟨g, 0, none⟩)) rfl (by kernel_rfl) (by kernel_rfl) (by kernel_rfl) (by kernel_rfl) (fun _ _ _ h => h) (Or.inl ⟨by kernel_rfl, by intro u hSw; (try dsimp only at hSw); go_simp⟩) (by assumption) ?_
  try simp only [Act.put, List.setIfInBounds_toArray, List.set_cons_zero, List.set_cons_succ]
  refine take_at 26 (i := 3) (v := .pointer (some ⟨g, 0, none⟩)) rfl (by kernel_rfl) (by kernel_rfl) (by kernel_rfl) (by kernel_rfl) (fun _ _ _ h => h) (Or.inl ⟨by kernel_rfl, by intro u hSw; (try dsimp only at hSw); go_simp⟩) (by assumption) ?_
  try simp only [Act.put, List.setIfInBounds_toArray, List.set_cons_zero, List.set_cons_succ]
  refine take_at 27 (i := 4) (v := .pointer (some ⟨g, a, none⟩)) rfl (by kernel_rfl) (by kernel_rfl) (by kernel_rfl) (by kernel_rfl) (fun _ _ _ h => h) (Or.inl ⟨by kernel_rfl, by intro u hSw; (try dsimp only at hSw); go_simp⟩) (by assumption) ?_
  try simp only [Act.put, List.setIfInBounds_toArray, List.set_cons_zero, List.set_cons_succ]
  refine take_at 28 (i := 5) (v := p a) rfl (by kernel_rfl) (by kernel_rfl) (by kernel_rfl) (by kernel_rfl) (fun _ _ _ h => h) (Or.inl ⟨by kernel_rfl, by intro u hSw; have hc := hSw.at_ a _ (prV_p HA.out); go_simp⟩) (by assumption) ?_
  try simp only [Act.put, List.setIfInBounds_toArray, List.set_cons_zero, List.set_cons_succ]
  refine take_at 29 (i := 6) (v := .pointer (some ⟨g, 0, none⟩)) rfl (by kernel_rfl) (by kernel_rfl) (by kernel_rfl) (by kernel_rfl) (fun _ _ _ h => h) (Or.inl ⟨by kernel_rfl, by intro u hSw; (try dsimp only at hSw); go_simp⟩) (by assumption) ?_
  try simp only [Act.put, List.setIfInBounds_toArray, List.set_cons_zero, List.set_cons_succ]
  refine take_at 30 (i := 7) (v := .int .i64 (a : Int)) rfl (by kernel_rfl) (by kernel_rfl) (by kernel_rfl) (by kernel_rfl) (fun _ _ _ h => h) (Or.inl ⟨by kernel_rfl, by intro u hSw; (try dsimp only at hSw); go_simp⟩) (by assumption) ?_
  try simp only [Act.put, List.setIfInBounds_toArray, List.set_cons_zero, List.set_cons_succ]
  refine take_at 31 (i := 8) (v := .pointer (some ⟨g, 0, none⟩)) rfl (by kernel_rfl) (by kernel_rfl) (by kernel_rfl) (by kernel_rfl) (fun _ _ _ h => h) (Or.inl ⟨by kernel_rfl, by intro u hSw; (try dsimp only at hSw); go_simp⟩) (by assumption) ?_
  try simp only [Act.put, List.setIfInBounds_toArray, List.set_cons_zero, List.set_cons_succ]
  refine take_at 32 (i := 9) (v := .pointer (some ⟨g, 2, none⟩)) rfl (by kernel_rfl) (by kernel_rfl) (by kernel_rfl) (by kernel_rfl) (fun _ _ _ h => h) (Or.inl ⟨by kernel_rfl, by intro u hSw; (try dsimp only at hSw); go_simp⟩) (by assumption) ?_
  try simp only [Act.put, List.setIfInBounds_toArray, List.set_cons_zero, List.set_cons_succ]
  refine take_at 33 (i := 10) (v := .pointer (some ⟨g, 2 + a * 17, none⟩)) rfl (by kernel_rfl) (by kernel_rfl) (by kernel_rfl) (by kernel_rfl) (fun _ _ _ h => h) (Or.inl ⟨by kernel_rfl, by intro u hSw; (try dsimp only at hSw); go_simp⟩) (by assumption) ?_
  try simp only [Act.put, List.setIfInBounds_toArray, List.set_cons_zero, List.set_cons_succ]
  refine take_at 34 (i := 11) (v := .agg #[x0, x1, x2, x3, x4, x5, x6, x7, x8, x9, x10, x11, x12, x13, x14, x15, x16]) rfl (by kernel_rfl) (by kernel_rfl) (by kernel_rfl) (by kernel_rfl) (fun _ _ _ h => h) (Or.inl ⟨by kernel_rfl, fun u hSw => yields_load_part 51 (.tmp 33) rfl g (2 + a * 17) rfl [x0, x1, x2, x3, x4, x5, x6, x7, x8, x9, x10, x11, x12, x13, x14, x15, x16] hSw HX.out.1 Tryd.underlying51 rfl szSt⟩) (by assumption) ?_
  try simp only [Act.put, List.setIfInBounds_toArray, List.set_cons_zero, List.set_cons_succ]
  refine wpAnyH_ready (rs := [12]) (by kernel_rfl) (by simp) ?_
  refine AllReadyH.cons rfl (fun K hK => ?_) AllReadyH.nil
  go_simp
  refine hK.out _ _ (Is.alloc (by assumption) _) (fun hHeld2 => ?_)
  clear hK K
  try simp only [Act.put, List.setIfInBounds_toArray, List.set_cons_zero, List.set_cons_succ]
  refine wpAnyH_ready (rs := [13]) (by kernel_rfl) (by simp) ?_
  refine AllReadyH.cons rfl (fun K hK => ?_) AllReadyH.nil
  go_simp
  refine hK.out _ _ (by assumption) (fun hHeld3 => ?_)
  clear hK K
  try simp only [Act.put, List.setIfInBounds_toArray, List.set_cons_zero, List.set_cons_succ]
  refine wpAnyH_ready (rs := [14]) (by kernel_rfl) (by simp) ?_
  refine AllReadyH.cons rfl (fun K hK => ?_) AllReadyH.nil
  refine step_store_part rfl 51 (.tmp 7) (.tmp 34) rfl wo.heap.size 0 rfl (.agg #[x0, x1, x2, x3, x4, x5, x6, x7, x8, x9, x10, x11, x12, x13, x14, x15, x16]) rfl [x0, x1, x2, x3, x4, x5, x6, x7, x8, x9, x10, x11, x12, x13, x14, x15, x16] (Is.new wo.drew _ _) rfl (Nat.le_refl 17) HX.out.2 szSt _ rfl ?_
  intro w2 hi2 hc2
  have HCr : Hid (Chg none_ wo w2) := ((Chg.refl none_ wo).drew.alloc _).then hc2 fun k hk e => by omega
  refine hK.out _ _ (hHeld.chg (((Chg.refl none_ wo.drew).alloc _).then hc2 fun k hk e => absurd hk (by subst e; exact Nat.lt_irrefl _)) fun f => f) (fun _ => ?_)
  clear hK K
  try simp only [Act.put, List.setIfInBounds_toArray, List.set_cons_zero, List.set_cons_succ]
  refine wpAnyH_done (by kernel_rfl) ?_ _
  have HIr2 : Hid (Is w2 wo.heap.size 51 #[x0, x1, x2, x3, x4, x5, x6, x7, x8, x9, x10, x11, x12, x13, x14, x15, x16]) := hi2
  have HIo2 := Lib.hid (HIo.out.chg HCr.out fun f => f)
  have HC2 : Hid (Chg none_ w w2) := HCo.out.trans HCr.out
  have HRo : Hid (w.heap.size < wo.heap.size ∧ wo.heap.size < w2.heap.size) := ⟨HIo.out.lt, HIr2.out.lt⟩
  have H2 := Lib.hid (H.out.keep HC2.out)
  have HT : Hid (∀ k, T a k → k < w.heap.size) := fun k hk => (H.out.t a HA.out k hk).2.2
  have HBw : Hid (B ≤ w.heap.size) := Nat.le_trans HS.out.2.2 (Nat.le_trans H.out.hL (Nat.le_of_lt H.out.im.lt))
  have HS2 : Hid (Sen B A w2 ∧ Tab B w2) := ⟨HS.out.1.below (HC2.out.old HBw.out), HS.out.2.1.below (HC2.out.old HBw.out)⟩
  have R2 : Hid (Rn B A w2 w2 (T a) (n a) (p a) (s a)) := Rn.init HS2.out.1 HS2.out.2 (Nat.le_trans HBw.out HC2.out.size) (fun k hk => Nat.le_trans HS.out.2.2 (H2.out.t a HA.out k hk).1) (H2.out.nil a HA.out) (H2.out.sl a HA.out)
  clear hHeld hHeld2 hHeld3 hi2 hc2 HIo HIS HCr HCo
  have hf0 : w2.cell? ⟨w.heap.size, 0, none⟩ = some (.int .i64 10) := HIo2.out.at_ 0 _ rfl
  go_wp2_with fail
  refine (rn_cut R2.out).mono ?_
  rintro e w3 ⟨⟨r, rfl⟩, r3⟩
  have R3 := Lib.hid r3
  clear r3
  have HIr3 := Lib.hid (HIr2.out.chg R3.out.chg fun hk => by have := HT.out _ hk; have := HRo.out; omega)
  have HIo3 := Lib.hid (HIo2.out.chg R3.out.chg fun hk => by have := HT.out _ hk; have := HRo.out; omega)
  clear HIr2 HIo2
  have hf := H2.out.us R3.out.chg HA.out
  have HUN := Lib.hid (H2.out.usN R3.out.chg H2.out.im.lt)
  rw [HXa.out] at hf
  have HF := Lib.hid hf
  clear hf
  go_wp2_with fail
  have HG3 : Hid (Is w3.drew g 55 (prV p x n)) := ((H2.out.im.chg R3.out.chg fun hk => (H2.out.t a HA.out g hk).2.1 rfl)).dr1
  have hgr : g < wo.heap.size := Nat.lt_of_lt_of_le H.out.im.lt (Nat.le_of_lt HRo.out.1)
  refine wp_region_held_drew (S := fun u => Is u wo.heap.size 51 #[x0, x1, x2, x3, x4, x5, x6, x7, x8, x9, x10, x11, x12, x13, x14, x15, x16]) (by kernel_rfl) HIr3.out.dr1 (fun hHeld => ?_)
  refine take_at 152 (i := 0) (v := .pointer (some ⟨g, 0, none⟩)) rfl (by kernel_rfl) (by kernel_rfl) (by kernel_rfl) (by kernel_rfl) (fun _ _ _ h => h) (Or.inl ⟨by kernel_rfl, by intro u hSw; (try dsimp only at hSw); go_simp⟩) (by assumption) ?_
  try simp only [Act.put, List.setIfInBounds_toArray, List.set_cons_zero, List.set_cons_succ]
  refine take_at 153 (i := 1) (v := .int .i64 (a : Int)) rfl (by kernel_rfl) (by kernel_rfl) (by kernel_rfl) (by kernel_rfl) (fun _ _ _ h => h) (Or.inl ⟨by kernel_rfl, by intro u hSw; (try dsimp only at hSw); go_simp⟩) (by assumption) ?_
  try simp only [Act.put, List.setIfInBounds_toArray, List.set_cons_zero, List.set_cons_succ]
  refine take_at 154 (i := 2) (v := .agg #[x0, x1, x2, x3, x4, x5, x6, x7, x8, x9, x10, x11, x12, x13, x14, x15, x16]) rfl (by kernel_rfl) (by kernel_rfl) (by kernel_rfl) (by kernel_rfl) (fun _ _ _ h => h) (Or.inl ⟨by kernel_rfl, fun u hSw => yields_load_part 51 (.tmp 7) rfl wo.heap.size 0 rfl [x0, x1, x2, x3, x4, x5, x6, x7, x8, x9, x10, x11, x12, x13, x14, x15, x16] hSw rfl Tryd.underlying51 rfl szSt⟩) (by assumption) ?_
  try simp only [Act.put, List.setIfInBounds_toArray, List.set_cons_zero, List.set_cons_succ]
  refine take_at 156 (i := 4) (v := .pointer (some ⟨g, 0, none⟩)) rfl (by kernel_rfl) (by kernel_rfl) (by kernel_rfl) (by kernel_rfl) (fun _ _ _ h => h) (Or.inl ⟨by kernel_rfl, by intro u hSw; (try dsimp only at hSw); go_simp⟩) (by assumption) ?_
  try simp only [Act.put, List.setIfInBounds_toArray, List.set_cons_zero, List.set_cons_succ]
  refine take_at 157 (i := 5) (v := .pointer (some ⟨g, 2, none⟩)) rfl (by kernel_rfl) (by kernel_rfl) (by kernel_rfl) (by kernel_rfl) (fun _ _ _ h => h) (Or.inl ⟨by kernel_rfl, by intro u hSw; (try dsimp only at hSw); go_simp⟩) (by assumption) ?_
  try simp only [Act.put, List.setIfInBounds_toArray, List.set_cons_zero, List.set_cons_succ]
  refine wpAnyH_ready (rs := [3]) (by kernel_rfl) (by simp) ?_
  refine AllReadyH.cons rfl (fun K hK => ?_) AllReadyH.nil
  go_simp
  refine (m_sever (HF.out.keep (Chg.refl none_ w3).drew)).mono ?_
  rintro e w4 ⟨y, rfl, hy, c4⟩
  obtain ⟨y0, y1, y2, y3, y4, y5, y6, y7, y8, y9, y10, y11, y12, y13, y14, y15, y16, rfl, hy1⟩ := rf_x17 hy
  have HY := Lib.hid (And.intro hy hy1)
  have HC4 := Lib.hid c4
  clear hy hy1 c4
  have HI4 := Lib.hid (HG3.out.chg HC4.out fun f => f)
  try go_simp
  refine hK.out _ _ (HIr3.out.dr1.chg HC4.out fun f => f) (fun hHeld2 => ?_)
  clear hK K
  try simp only [Act.put, List.setIfInBounds_toArray, List.set_cons_zero, List.set_cons_succ]
  refine take_at 158 (i := 6) (v := .pointer (some ⟨g, 2 + a * 17, none⟩)) rfl (by kernel_rfl) (by kernel_rfl) (by kernel_rfl) (by kernel_rfl) (fun _ _ _ h => h) (Or.inl ⟨by kernel_rfl, by intro u hSw; (try dsimp only at hSw); go_simp⟩) (by assumption) ?_
  try simp only [Act.put, List.setIfInBounds_toArray, List.set_cons_zero, List.set_cons_succ]
  refine wpAnyH_ready (rs := [7]) (by kernel_rfl) (by simp) ?_
  refine AllReadyH.cons rfl (fun K hK => ?_) AllReadyH.nil
  refine step_store_part rfl 51 (.tmp 158) (.tmp 155) rfl g (2 + a * 17) rfl (.agg #[y0, y1, y2, y3, y4, y5, y6, y7, y8, y9, y10, y11, y12, y13, y14, y15, y16]) rfl [y0, y1, y2, y3, y4, y5, y6, y7, y8, y9, y10, y11, y12, y13, y14, y15, y16] HI4.out rfl (by rw [prV_size H.out.x17]; have := HA.out; simp only [List.length_cons, List.length_nil]; omega) HY.out.2 szSt _ (prV_putx (p := p) (n := n) H.out.x17 HA.out (y := .agg #[y0, y1, y2, y3, y4, y5, y6, y7, y8, y9, y10, y11, y12, y13, y14, y15, y16]) (vs := [y0, y1, y2, y3, y4, y5, y6, y7, y8, y9, y10, y11, y12, y13, y14, y15, y16]) rfl rfl) ?_
  intro w5 hi5 hc5
  have HI5 := Lib.hid hi5
  have HC5 := Lib.hid hc5
  clear hi5 hc5
  refine hK.out _ _ (hHeld2.chg HC5.out fun e => by omega) (fun _ => ?_)
  clear hK K
  try simp only [Act.put, List.setIfInBounds_toArray, List.set_cons_zero, List.set_cons_succ]
  refine wpAnyH_done (by kernel_rfl) ?_ _
  go_wp2
  go_ret
  have hfin := H2.out.stepR HA.out R3.out (((Chg.refl none_ w3).drew).trans HC4.out) HC5.out HI5.out HY.out.1
  exact ⟨rfl, hfin.1, (HC2.out.more fun _ _ f => f.elim).trans hfin.2⟩
set_option maxRecDepth 100000 in
set_option maxHeartbeats 4000000 in
theorem wire_frame_nil (w : World) {L g : Nat} {T : Nat → Nat → Prop} {p x : Nat → Value} {n : Nat → Bool} {s : Nat → Sm} (h : Pri w L g T p x n s) (hs : Sen B A w) (ht : Tab B w) (hBL : B ≤ L) (xx nn : Int) (A2 : Option Addr) (len cap : Nat) (dl : Int) (fl : Bool) (c0 c1 c2 c3 c4 c5 c6 c7 : Value) {a : Nat} (ha : a < 2) (hbits : bits .and .i64 xx 1 = (a : Int)) (hn : n a = true) :
    Calls Tryd.prog 53 #[.pointer (some ⟨g, 0, none⟩), .agg #[.int .i64 6, .int .i64 xx, .int .i64 nn, .slice A2 len cap, .int .u32 dl, .bool fl, c0, c1, c2, c3, c4, c5, c6, c7]] w fun e w' => e = .returned (.bool true) ∧ Inv w' L g ∧ Chg (fun k => L ≤ k) w w' := by
  have H := Lib.hid h
  have HS := Lib.hid (And.intro hs (And.intro ht hBL))
  have HA := Lib.hid ha
  have ha0 : (0 : Int) ≤ (a : Int) := by omega
  have ha2 : (a : Int) < 2 := by omega
  clear h hs ht hBL
  have HX0 := H.out.rf a ha
  obtain ⟨x0, x1, x2, x3, x4, x5, x6, x7, x8, x9, x10, x11, x12, x13, x14, x15, x16, hxa, hx1⟩ := rf_x17 HX0
  have HX : Hid (((prV p x n).toList.drop (2 + a * 17)).take [x0, x1, x2, x3, x4, x5, x6, x7, x8, x9, x10, x11, x12, x13, x14, x15, x16].length = [x0, x1, x2, x3, x4, x5, x6, x7, x8, x9, x10, x11, x12, x13, x14, x15, x16] ∧ [x0, x1, x2, x3, x4, x5, x6, x7, x8, x9, x10, x11, x12, x13, x14, x15, x16].all (·.oneCell') = true) := ⟨by
    have h1 := prV_x (p := p) (n := n) H.out.x17 ha
    rw [hxa] at h1
    exact h1, hx1⟩
  have HXa := Lib.hid hxa
  clear hxa hx1 HX0
  clear ha
  go_enter Tryd.func53, Tryd.ntmps53
  go_wp2_with fail
  obtain ⟨wo, hwo⟩ : ∃ y, w.alloc (.cells #[.int .i64 6, .int .i64 xx, .int .i64 nn, .slice A2 len cap, .int .u32 dl, .bool fl, c0, c1, c2, c3, c4, c5, c6, c7] 45) = y := ⟨_, rfl⟩
  have HIo := Lib.hid (Is.new w 45 #[.int .i64 6, .int .i64 xx, .int .i64 nn, .slice A2 len cap, .int .u32 dl, .bool fl, c0, c1, c2, c3, c4, c5, c6, c7])
  have HCo : Hid (Chg none_ w (w.alloc (.cells #[.int .i64 6, .int .i64 xx, .int .i64 nn, .slice A2 len cap, .int .u32 dl, .bool fl, c0, c1, c2, c3, c4, c5, c6, c7] 45))) := (Chg.refl none_ w).alloc _
  rw [hwo] at HIo HCo ⊢
  clear hwo
  have HIS : Hid (Is wo.drew g 55 (prV p x n)) := (H.out.im.chg HCo.out fun f => f).dr1
  refine wp_region_held_drew (S := fun u => Is u g 55 (prV p x n)) (by kernel_rfl) HIS.out (fun hHeld => ?_)
  refine take_at 23 (i := 0) (v := .pointer (some ⟨g, 0, none⟩)) rfl (by kernel_rfl) (by kernel_rfl) (by kernel_rfl) (by kernel_rfl) (fun _ _ _ h => h) (Or.inl ⟨by kernel_rfl, by intro u hSw; (try dsimp only at hSw); go_simp⟩) (by assumption) ?_
  try simp only [Act.put, List.setIfInBounds_toArray, List.set_cons_zero, List.set_cons_succ]
  refine take_at 24 (i := 1) (v := .int .i64 (a : Int)) rfl (by kernel_rfl) (by kernel_rfl) (by kernel_rfl) (by kernel_rfl) (fun _ _ _ h => h) (Or.inl ⟨by kernel_rfl, by intro u hSw; (try dsimp only at hSw); go_simp⟩) (by assumption) ?_
  try simp only [Act.put, List.setIfInBounds_toArray, List.set_cons_zero, List.set_cons_succ]
  refine take_at 25 (i := 2) (v := .pointer (some ⟨g, 0, none⟩)) rfl (by kernel_rfl) (by kernel_rfl) (by kernel_rfl) (by kernel_rfl) (fun _ _ _ h => h) (Or.inl ⟨by kernel_rfl, by intro u hSw; (try dsimp only at hSw); go_simp⟩) (by assumption) ?_
  try simp only [Act.put, List.setIfInBounds_toArray, List.set_cons_zero, List.set_cons_succ]
  refine take_at 26 (i := 3) (v := .pointer (some ⟨g, 0, none⟩)) rfl (by kernel_rfl) (by kernel_rfl) (by kernel_rfl) (by kernel_rfl) (fun _ _ _ h => h) (Or.inl ⟨by kernel_rfl, by intro u hSw; (try dsimp only at hSw); go_simp⟩) (by assumption) ?_
  try simp only [Act.put, List.setIfInBounds_toArray, List.set_cons_zero, List.set_cons_succ]
  refine take_at 27 (i := 4) (v := .pointer (some ⟨g, a, none⟩)) rfl (by kernel_rfl) (by kernel_rfl) (by kernel_rfl) (by kernel_rfl) (fun _ _ _ h => h) (Or.inl ⟨by kernel_rfl, by intro u hSw; (try dsimp only at hSw); go_simp⟩) (by assumption) ?_
  try simp only [Act.put, List.setIfInBounds_toArray, List.set_cons_zero, List.set_cons_succ]
  refine take_at 28 (i := 5) (v := p a) rfl (by kernel_rfl) (by kernel_rfl) (by kernel_rfl) (by kernel_rfl) (fun _ _ _ h => h) (Or.inl ⟨by kernel_rfl, by intro u hSw; have hc := hSw.at_ a _ (prV_p HA.out); go_simp⟩) (by assumption) ?_
  try simp only [Act.put, List.setIfInBounds_toArray, List.set_cons_zero, List.set_cons_succ]
  refine take_at 29 (i := 6) (v := .pointer (some ⟨g, 0, none⟩)) rfl (by kernel_rfl) (by kernel_rfl) (by kernel_rfl) (by kernel_rfl) (fun _ _ _ h => h) (Or.inl ⟨by kernel_rfl, by intro u hSw; (try dsimp only at hSw); go_simp⟩) (by assumption) ?_
  try simp only [Act.put, List.setIfInBounds_toArray, List.set_cons_zero, List.set_cons_succ]
  refine take_at 30 (i := 7) (v := .int .i64 (a : Int)) rfl (by kernel_rfl) (by kernel_rfl) (by kernel_rfl) (by kernel_rfl) (fun _ _ _ h => h) (Or.inl ⟨by kernel_rfl, by intro u hSw; (try dsimp only at hSw); go_simp⟩) (by assumption) ?_
  try simp only [Act.put, List.setIfInBounds_toArray, List.set_cons_zero, List.set_cons_succ]
  refine take_at 31 (i := 8) (v := .pointer (some ⟨g, 0, none⟩)) rfl (by kernel_rfl) (by kernel_rfl) (by kernel_rfl) (by kernel_rfl) (fun _ _ _ h => h) (Or.inl ⟨by kernel_rfl, by intro u hSw; (try dsimp only at hSw); go_simp⟩) (by assumption) ?_
  try simp only [Act.put, List.setIfInBounds_toArray, List.set_cons_zero, List.set_cons_succ]
  refine take_at 32 (i := 9) (v := .pointer (some ⟨g, 2, none⟩)) rfl (by kernel_rfl) (by kernel_rfl) (by kernel_rfl) (by kernel_rfl) (fun _ _ _ h => h) (Or.inl ⟨by kernel_rfl, by intro u hSw; (try dsimp only at hSw); go_simp⟩) (by assumption) ?_
  try simp only [Act.put, List.setIfInBounds_toArray, List.set_cons_zero, List.set_cons_succ]
  refine take_at 33 (i := 10) (v := .pointer (some ⟨g, 2 + a * 17, none⟩)) rfl (by kernel_rfl) (by kernel_rfl) (by kernel_rfl) (by kernel_rfl) (fun _ _ _ h => h) (Or.inl ⟨by kernel_rfl, by intro u hSw; (try dsimp only at hSw); go_simp⟩) (by assumption) ?_
  try simp only [Act.put, List.setIfInBounds_toArray, List.set_cons_zero, List.set_cons_succ]
  refine take_at 34 (i := 11) (v := .agg #[x0, x1, x2, x3, x4, x5, x6, x7, x8, x9, x10, x11, x12, x13, x14, x15, x16]) rfl (by kernel_rfl) (by kernel_rfl) (by kernel_rfl) (by kernel_rfl) (fun _ _ _ h => h) (Or.inl ⟨by kernel_rfl, fun u hSw => yields_load_part 51 (.tmp 33) rfl g (2 + a * 17) rfl [x0, x1, x2, x3, x4, x5, x6, x7, x8, x9, x10, x11, x12, x13, x14, x15, x16] hSw HX.out.1 Tryd.underlying51 rfl szSt⟩) (by assumption) ?_
  try simp only [Act.put, List.setIfInBounds_toArray, List.set_cons_zero, List.set_cons_succ]
  refine wpAnyH_ready (rs := [12]) (by kernel_rfl) (by simp) ?_
  refine AllReadyH.cons rfl (fun K hK => ?_) AllReadyH.nil
  go_simp
  refine hK.out _ _ (Is.alloc (by assumption) _) (fun hHeld2 => ?_)
  clear hK K
  try simp only [Act.put, List.setIfInBounds_toArray, List.set_cons_zero, List.set_cons_succ]
  refine wpAnyH_ready (rs := [13]) (by kernel_rfl) (by simp) ?_
  refine AllReadyH.cons rfl (fun K hK => ?_) AllReadyH.nil
  go_simp
  refine hK.out _ _ (by assumption) (fun hHeld3 => ?_)
  clear hK K
  try simp only [Act.put, List.setIfInBounds_toArray, List.set_cons_zero, List.set_cons_succ]
  refine wpAnyH_ready (rs := [14]) (by kernel_rfl) (by simp) ?_
  refine AllReadyH.cons rfl (fun K hK => ?_) AllReadyH.nil
  refine step_store_part rfl 51 (.tmp 7) (.tmp 34) rfl wo.heap.size 0 rfl (.agg #[x0, x1, x2, x3, x4, x5, x6, x7, x8, x9, x10, x11, x12, x13, x14, x15, x16]) rfl [x0, x1, x2, x3, x4, x5, x6, x7, x8, x9, x10, x11, x12, x13, x14, x15, x16] (Is.new wo.drew _ _) rfl (Nat.le_refl 17) HX.out.2 szSt _ rfl ?_
  intro w2 hi2 hc2
  have HCr : Hid (Chg none_ wo w2) := ((Chg.refl none_ wo).drew.alloc _).then hc2 fun k hk e => by omega
  refine hK.out _ _ (hHeld.chg (((Chg.refl none_ wo.drew).alloc _).then hc2 fun k hk e => absurd hk (by subst e; exact Nat.lt_irrefl _)) fun f => f) (fun _ => ?_)
  clear hK K
  try simp only [Act.put, List.setIfInBounds_toArray, List.set_cons_zero, List.set_cons_succ]
  refine wpAnyH_done (by kernel_rfl) ?_ _
  have HIr2 : Hid (Is w2 wo.heap.size 51 #[x0, x1, x2, x3, x4, x5, x6, x7, x8, x9, x10, x11, x12, x13, x14, x15, x16]) := hi2
  have HIo2 := Lib.hid (HIo.out.chg HCr.out fun f => f)
  have HC2 : Hid (Chg none_ w w2) := HCo.out.trans HCr.out
  have HRo : Hid (w.heap.size < wo.heap.size ∧ wo.heap.size < w2.heap.size) := ⟨HIo.out.lt, HIr2.out.lt⟩
  have H2 := Lib.hid (H.out.keep HC2.out)
  have HT : Hid (∀ k, T a k → k < w.heap.size) := fun k hk => (H.out.t a HA.out k hk).2.2
  have HBw : Hid (B ≤ w.heap.size) := Nat.le_trans HS.out.2.2 (Nat.le_trans H.out.hL (Nat.le_of_lt H.out.im.lt))
  have HS2 : Hid (Sen B A w2 ∧ Tab B w2) := ⟨HS.out.1.below (HC2.out.old HBw.out), HS.out.2.1.below (HC2.out.old HBw.out)⟩
  have R2 : Hid (Rn B A w2 w2 (T a) (n a) (p a) (s a)) := Rn.init HS2.out.1 HS2.out.2 (Nat.le_trans HBw.out HC2.out.size) (fun k hk => Nat.le_trans HS.out.2.2 (H2.out.t a HA.out k hk).1) (H2.out.nil a HA.out) (H2.out.sl a HA.out)
  clear hHeld hHeld2 hHeld3 hi2 hc2 HIo HIS HCr HCo
  have HN : Hid (n a = true) := hn
  clear hn
  have hf0 : w2.cell? ⟨w.heap.size, 0, none⟩ = some (.int .i64 6) := HIo2.out.at_ 0 _ rfl
  obtain ⟨flg, fid, fk, us, b, t, hrd, CF, CN⟩ := fr_both (s a)
  have HCF := Lib.hid CF
  have HCN := Lib.hid CN
  clear CF CN
  have CR : Calls Tryd.prog 56 #[p a] w2 fun e wj => e = .returned (.bool false) ∧ w2 = wj := by
    have := rn_ready R2.out
    rw [HN.out, hrd] at this
    exact this
  clear hrd
  have R2n := R2.out
  rw [HN.out] at R2n
  have CF := rn_frame_nil R2n
  clear R2n
  have HCf := Lib.hid CF
  have HCr := Lib.hid CR
  clear CF CR
  clear HCF
  go_wp2_with fail
  refine HCr.out.mono ?_
  rintro e w' ⟨rfl, rfl⟩
  go_wp2_with fail
  refine HCf.out.mono ?_
  rintro e w3 ⟨rfl, r3⟩
  have R3 : Hid (Rn B A w2 w3 (T a) (n a) (p a) (s a)) := by
    show Rn _ _ _ _ _ _ _ _
    rw [HN.out]
    exact r3
  clear r3
  have HIr3 := Lib.hid (HIr2.out.chg R3.out.chg fun hk => by have := HT.out _ hk; have := HRo.out; omega)
  have HIo3 := Lib.hid (HIo2.out.chg R3.out.chg fun hk => by have := HT.out _ hk; have := HRo.out; omega)
  clear HIr2 HIo2 hf0 HCr HCf
  have hf := H2.out.us R3.out.chg HA.out
  have HUN := Lib.hid (H2.out.usN R3.out.chg H2.out.im.lt)
  rw [HXa.out] at hf
  have HF := Lib.hid hf
  clear hf
  go_wp2_with (refine wpList_store_part rfl 72 (.tmp 9) (.tmp 44) rfl w3.heap.size 0 rfl (.agg #[.int .u8 0, .int .u8 0, .int .u16 0, .int .u32 0, .int .u32 0, .slice none 0 0]) rfl [.int .u8 0, .int .u8 0, .int .u16 0, .int .u32 0, .int .u32 0, .slice none 0 0] (Is.new w3 _ _) rfl (Nat.le_refl 6) rfl szFr' _ rfl ?_)
  intro w4 hi4 hc4
  have HF4 : Hid (Is w4 w3.heap.size 72 #[.int .u8 0, .int .u8 0, .int .u16 0, .int .u32 0, .int .u32 0, .slice none 0 0]) := hi4
  have HC4 : Hid (Chg none_ w3 w4) := ((Chg.refl none_ w3).alloc _).then hc4 fun k hk e => by omega
  clear hi4 hc4
  have HIr4 := Lib.hid (HIr3.out.chg HC4.out fun f => f)
  have HIo4 := Lib.hid (HIo3.out.chg HC4.out fun f => f)
  go_wp2_with (refine wpList_load_part rfl 51 (.tmp 7) rfl wo.heap.size 0 rfl [x0, x1, x2, x3, x4, x5, x6, x7, x8, x9, x10, x11, x12, x13, x14, x15, x16] HIr4.out rfl Tryd.underlying51 rfl szSt ?_)
  refine (HCN.out w4 (Us w2 w3 L g T) _ (HF.out.keep HC4.out) (fun q hq => HUN.out q (Nat.le_trans HC4.out.size hq))).mono ?_
  rintro e w5 ⟨y, A5, n5, k5, rfl, hb5, hr5, hy, c5⟩
  have HV5 := Lib.hid (And.intro hb5 hr5)
  clear hb5 hr5
  obtain ⟨y0, y1, y2, y3, y4, y5, y6, y7, y8, y9, y10, y11, y12, y13, y14, y15, y16, rfl, hy1⟩ := rf_x17 hy
  have HY := Lib.hid (And.intro hy hy1)
  have HC5 := Lib.hid c5
  clear hy hy1 c5
  go_wp2_with (refine wpList_store_part rfl 51 (.tmp 11) (.tmp 49) rfl w5.heap.size 0 rfl (.agg #[y0, y1, y2, y3, y4, y5, y6, y7, y8, y9, y10, y11, y12, y13, y14, y15, y16]) rfl [y0, y1, y2, y3, y4, y5, y6, y7, y8, y9, y10, y11, y12, y13, y14, y15, y16] ((Is.new w5 _ _).alloc _) rfl (Nat.le_refl 17) HY.out.2 szSt _ rfl ?_)
  intro w6 hi6 hc6
  have HI6 : Hid (Is w6 w5.heap.size 51 #[y0, y1, y2, y3, y4, y5, y6, y7, y8, y9, y10, y11, y12, y13, y14, y15, y16]) := hi6
  have HC6 : Hid (Chg none_ w5 w6) := (((Chg.refl none_ w5).alloc _).alloc _).then hc6 fun k hk e => by omega
  have HZ6 : Hid (Is w6 (w5.heap.size + 1) 72 #[.int .u8 0, .int .u8 0, .int .u16 0, .int .u32 0, .int .u32 0, .slice none 0 0]) := (isn2' w5 _ _ _).chg hc6 (Nat.succ_ne_self _)
  clear hi6 hc6
  go_wp2_with (refine wpList_store_part rfl 72 (.tmp 12) (.tmp 50) rfl (w5.heap.size + 1) 0 rfl (.agg #[.int .u8 0, .int .u8 0, .int .u16 flg, .int .u32 fid, .int .u32 fk, .slice A5 n5 k5]) rfl [.int .u8 0, .int .u8 0, .int .u16 flg, .int .u32 fid, .int .u32 fk, .slice A5 n5 k5] HZ6.out rfl (Nat.le_refl 6) rfl szFr' _ rfl ?_)
  intro w7 hi7 hc7
  have HG7 : Hid (Is w7 (w5.heap.size + 1) 72 #[.int .u8 0, .int .u8 0, .int .u16 flg, .int .u32 fid, .int .u32 fk, .slice A5 n5 k5]) := hi7
  have HI7 := Lib.hid (HI6.out.chg hc7 (fun e => by omega))
  have HC57 : Hid (Chg none_ w5 w7) := HC6.out.then hc7 fun k hk e => by omega
  clear hi7 hc7 HZ6
  have HC37 : Hid (Chg none_ w3 w7) := (HC4.out.trans HC5.out).trans HC57.out
  have HF7 := Lib.hid ((HF4.out.chg HC5.out fun f => f).chg HC57.out fun f => f)
  have HP7 : Hid (Is w7 g 55 (prV p x n)) := (H2.out.im.chg R3.out.chg fun hk => (H2.out.t a HA.out g hk).2.1 rfl).chg HC37.out fun f => f
  have hnc : w7.cell? ⟨g, 36 + a, none⟩ = some (.bool true) := by
    rw [← HN.out]
    exact HP7.out.at_ _ _ (prV_n H.out.x17 HA.out)
  have hf70 : w7.cell? ⟨w3.heap.size, 0, none⟩ = some (.int .u8 0) := HF7.out.at_ 0 _ rfl
  have hf71 : w7.cell? ⟨w3.heap.size, 1, none⟩ = some (.int .u8 0) := HF7.out.at_ 1 _ rfl
  have hf72 : w7.cell? ⟨w3.heap.size, 2, none⟩ = some (.int .u16 0) := HF7.out.at_ 2 _ rfl
  have hf73 : w7.cell? ⟨w3.heap.size, 3, none⟩ = some (.int .u32 0) := HF7.out.at_ 3 _ rfl
  have hf74 : w7.cell? ⟨w3.heap.size, 4, none⟩ = some (.int .u32 0) := HF7.out.at_ 4 _ rfl
  have hf75 : w7.cell? ⟨w3.heap.size, 5, none⟩ = some (.slice none 0 0) := HF7.out.at_ 5 _ rfl
  go_wp2_with fail
  refine (fsame_eq w7 0 0 0 none none 0 0 0 [] rfl (Rd.zero _ _ _) (Rd.zero _ _ _)).mono ?_
  rintro e w8 ⟨rfl, c8⟩
  have HC8 := Lib.hid c8
  clear c8
  go_wp2
  go_ret
  have hfin := H2.out.step (y := .nilIface) HA.out R3.out (HC37.out.trans HC8.out) (Chg.refl _ w8) (fun _ => ⟨rfl, HP7.out.chg HC8.out fun f => f⟩) (fun e => by rw [HN.out] at e; cases e)
  exact ⟨rfl, hfin.1, (HC2.out.more fun _ _ f => f.elim).trans hfin.2⟩
set_option maxRecDepth 100000 in
set_option maxHeartbeats 4000000 in
theorem wire_frame (w : World) {L g : Nat} {T : Nat → Nat → Prop} {p x : Nat → Value} {n : Nat → Bool} {s : Nat → Sm} (h : Pri w L g T p x n s) (hs : Sen B A w) (ht : Tab B w) (hBL : B ≤ L) (xx nn : Int) (A2 : Option Addr) (len cap : Nat) (dl : Int) (fl : Bool) (c0 c1 c2 c3 c4 c5 c6 c7 : Value) {a : Nat} (ha : a < 2) (hbits : bits .and .i64 xx 1 = (a : Int)) (hn : n a = false) :
    Calls Tryd.prog 53 #[.pointer (some ⟨g, 0, none⟩), .agg #[.int .i64 6, .int .i64 xx, .int .i64 nn, .slice A2 len cap, .int .u32 dl, .bool fl, c0, c1, c2, c3, c4, c5, c6, c7]] w fun e w' => e = .returned (.bool true) ∧ Inv w' L g ∧ Chg (fun k => L ≤ k) w w' := by
  have H := Lib.hid h
  have HS := Lib.hid (And.intro hs (And.intro ht hBL))
  have HA := Lib.hid ha
  have ha0 : (0 : Int) ≤ (a : Int) := by omega
  have ha2 : (a : Int) < 2 := by omega
  clear h hs ht hBL
  have HX0 := H.out.rf a ha
  obtain ⟨x0, x1, x2, x3, x4, x5, x6, x7, x8, x9, x10, x11, x12, x13, x14, x15, x16, hxa, hx1⟩ := rf_x17 HX0
  have HX : Hid (((prV p x n).toList.drop (2 + a * 17)).take [x0, x1, x2, x3, x4, x5, x6, x7, x8, x9, x10, x11, x12, x13, x14, x15, x16].length = [x0, x1, x2, x3, x4, x5, x6, x7, x8, x9, x10, x11, x12, x13, x14, x15, x16] ∧ [x0, x1, x2, x3, x4, x5, x6, x7, x8, x9, x10, x11, x12, x13, x14, x15, x16].all (·.oneCell') = true) := ⟨by
    have h1 := prV_x (p := p) (n := n) H.out.x17 ha
    rw [hxa] at h1
    exact h1, hx1⟩
  have HXa := Lib.hid hxa
  clear hxa hx1 HX0
  clear ha
  go_enter Tryd.func53, Tryd.ntmps53
  go_wp2_with fail
  obtain ⟨wo, hwo⟩ : ∃ y, w.alloc (.cells #[.int .i64 6, .int .i64 xx, .int .i64 nn, .slice A2 len cap, .int .u32 dl, .bool fl, c0, c1, c2, c3, c4, c5, c6, c7] 45) = y := ⟨_, rfl⟩
  have HIo := Lib.hid (Is.new w 45 #[.int .i64 6, .int .i64 xx, .int .i64 nn, .slice A2 len cap, .int .u32 dl, .bool fl, c0, c1, c2, c3, c4, c5, c6, c7])
  have HCo : Hid (Chg none_ w (w.alloc (.cells #[.int .i64 6, .int .i64 xx, .int .i64 nn, .slice A2 len cap, .int .u32 dl, .bool fl, c0, c1, c2, c3, c4, c5, c6, c7] 45))) := (Chg.refl none_ w).alloc _
  rw [hwo] at HIo HCo ⊢
  clear hwo
  have HIS : Hid (Is wo.drew g 55 (prV p x n)) := (H.out.im.chg HCo.out fun f => f).dr1
  refine wp_region_held_drew (S := fun u => Is u g 55 (prV p x n)) (by kernel_rfl) HIS.out (fun hHeld => ?_)
  refine take_at 23 (i := 0) (v := .pointer (some ⟨g, 0, none⟩)) rfl (by kernel_rfl) (by kernel_rfl) (by kernel_rfl) (by kernel_rfl) (fun _ _ _ h => h) (Or.inl ⟨by kernel_rfl, by intro u hSw; (try dsimp only at hSw); go_simp⟩) (by assumption) ?_
  try simp only [Act.put, List.setIfInBounds_toArray, List.set_cons_zero, List.set_cons_succ]
  refine take_at 24 (i := 1) (v := .int .i64 (a : Int)) rfl (by kernel_rfl) (by kernel_rfl) (by kernel_rfl) (by kernel_rfl) (fun _ _ _ h => h) (Or.inl ⟨by kernel_rfl, by intro u hSw; (try dsimp only at hSw); go_simp⟩) (by assumption) ?_
  try simp only [Act.put, List.setIfInBounds_toArray, List.set_cons_zero, List.set_cons_succ]
  refine take_at 25 (i := 2) (v := .pointer (some ⟨g, 0, none⟩)) rfl (by kernel_rfl) (by kernel_rfl) (by kernel_rfl) (by kernel_rfl) (fun _ _ _ h => h) (Or.inl ⟨by kernel_rfl, by intro u hSw; (try dsimp only at hSw); go_simp⟩) (by assumption) ?_
  try simp only [Act.put, List.setIfInBounds_toArray, List.set_cons_zero, List.set_cons_succ]
  refine take_at 26 (i := 3) (v := .pointer (some ⟨g, 0, none⟩)) rfl (by kernel_rfl) (by kernel_rfl) (by kernel_rfl) (by kernel_rfl) (fun _ _ _ h => h) (Or.inl ⟨by kernel_rfl, by intro u hSw; (try dsimp only at hSw); go_simp⟩) (by assumption) ?_
  try simp only [Act.put, List.setIfInBounds_toArray, List.set_cons_zero, List.set_cons_succ]
  refine take_at 27 (i := 4) (v := .pointer (some ⟨g, a, none⟩)) rfl (by kernel_rfl) (by kernel_rfl) (by kernel_rfl) (by kernel_rfl) (fun _ _ _ h => h) (Or.inl ⟨by kernel_rfl, by intro u hSw; (try dsimp only at hSw); go_simp⟩) (by assumption) ?_
  try simp only [Act.put, List.setIfInBounds_toArray, List.set_cons_zero, List.set_cons_succ]
  refine take_at 28 (i := 5) (v := p a) rfl (by kernel_rfl) (by kernel_rfl) (by kernel_rfl) (by kernel_rfl) (fun _ _ _ h => h) (Or.inl ⟨by kernel_rfl, by intro u hSw; have hc := hSw.at_ a _ (prV_p HA.out); go_simp⟩) (by assumption) ?_
  try simp only [Act.put, List.setIfInBounds_toArray, List.set_cons_zero, List.set_cons_succ]
  refine take_at 29 (i := 6) (v := .pointer (some ⟨g, 0, none⟩)) rfl (by kernel_rfl) (by kernel_rfl) (by kernel_rfl) (by kernel_rfl) (fun _ _ _ h => h) (Or.inl ⟨by kernel_rfl, by intro u hSw; (try dsimp only at hSw); go_simp⟩) (by assumption) ?_
  try simp only [Act.put, List.setIfInBounds_toArray, List.set_cons_zero, List.set_cons_succ]
  refine take_at 30 (i := 7) (v := .int .i64 (a : Int)) rfl (by kernel_rfl) (by kernel_rfl) (by kernel_rfl) (by kernel_rfl) (fun _ _ _ h => h) (Or.inl ⟨by kernel_rfl, by intro u hSw; (try dsimp only at hSw); go_simp⟩) (by assumption) ?_
  try simp only [Act.put, List.setIfInBounds_toArray, List.set_cons_zero, List.set_cons_succ]
  refine take_at 31 (i := 8) (v := .pointer (some ⟨g, 0, none⟩)) rfl (by kernel_rfl) (by kernel_rfl) (by kernel_rfl) (by kernel_rfl) (fun _ _ _ h => h) (Or.inl ⟨by kernel_rfl, by intro u hSw; (try dsimp only at hSw); go_simp⟩) (by assumption) ?_
  try simp only [Act.put, List.setIfInBounds_toArray, List.set_cons_zero, List.set_cons_succ]
  refine take_at 32 (i := 9) (v := .pointer (some ⟨g, 2, none⟩)) rfl (by kernel_rfl) (by kernel_rfl) (by kernel_rfl) (by kernel_rfl) (fun _ _ _ h => h) (Or.inl ⟨by kernel_rfl, by intro u hSw; (try dsimp only at hSw); go_simp⟩) (by assumption) ?_
  try simp only [Act.put, List.setIfInBounds_toArray, List.set_cons_zero, List.set_cons_succ]
  refine take_at 33 (i := 10) (v := .pointer (some ⟨g, 2 + a * 17, none⟩)) rfl (by kernel_rfl) (by kernel_rfl) (by kernel_rfl) (by kernel_rfl) (fun _ _ _ h => h) (Or.inl ⟨by kernel_rfl, by intro u hSw; (try dsimp only at hSw); go_simp⟩) (by assumption) ?_
  try simp only [Act.put, List.setIfInBounds_toArray, List.set_cons_zero, List.set_cons_succ]
  refine take_at 34 (i := 11) (v := .agg #[x0, x1, x2, x3, x4, x5, x6, x7, x8, x9, x10, x11, x12, x13, x14, x15, x16]) rfl (by kernel_rfl) (by kernel_rfl) (by kernel_rfl) (by kernel_rfl) (fun _ _ _ h => h) (Or.inl ⟨by kernel_rfl, fun u hSw => yields_load_part 51 (.tmp 33) rfl g (2 + a * 17) rfl [x0, x1, x2, x3, x4, x5, x6, x7, x8, x9, x10, x11, x12, x13, x14, x15, x16] hSw HX.out.1 Tryd.underlying51 rfl szSt⟩) (by assumption) ?_
  try simp only [Act.put, List.setIfInBounds_toArray, List.set_cons_zero, List.set_cons_succ]
  refine wpAnyH_ready (rs := [12]) (by kernel_rfl) (by simp) ?_
  refine AllReadyH.cons rfl (fun K hK => ?_) AllReadyH.nil
  go_simp
  refine hK.out _ _ (Is.alloc (by assumption) _) (fun hHeld2 => ?_)
  clear hK K
  try simp only [Act.put, List.setIfInBounds_toArray, List.set_cons_zero, List.set_cons_succ]
  refine wpAnyH_ready (rs := [13]) (by kernel_rfl) (by simp) ?_
  refine AllReadyH.cons rfl (fun K hK => ?_) AllReadyH.nil
  go_simp
  refine hK.out _ _ (by assumption) (fun hHeld3 => ?_)
  clear hK K
  try simp only [Act.put, List.setIfInBounds_toArray, List.set_cons_zero, List.set_cons_succ]
  refine wpAnyH_ready (rs := [14]) (by kernel_rfl) (by simp) ?_
  refine AllReadyH.cons rfl (fun K hK => ?_) AllReadyH.nil
  refine step_store_part rfl 51 (.tmp 7) (.tmp 34) rfl wo.heap.size 0 rfl (.agg #[x0, x1, x2, x3, x4, x5, x6, x7, x8, x9, x10, x11, x12, x13, x14, x15, x16]) rfl [x0, x1, x2, x3, x4, x5, x6, x7, x8, x9, x10, x11, x12, x13, x14, x15, x16] (Is.new wo.drew _ _) rfl (Nat.le_refl 17) HX.out.2 szSt _ rfl ?_
  intro w2 hi2 hc2
  have HCr : Hid (Chg none_ wo w2) := ((Chg.refl none_ wo).drew.alloc _).then hc2 fun k hk e => by omega
  refine hK.out _ _ (hHeld.chg (((Chg.refl none_ wo.drew).alloc _).then hc2 fun k hk e => absurd hk (by subst e; exact Nat.lt_irrefl _)) fun f => f) (fun _ => ?_)
  clear hK K
  try simp only [Act.put, List.setIfInBounds_toArray, List.set_cons_zero, List.set_cons_succ]
  refine wpAnyH_done (by kernel_rfl) ?_ _
  have HIr2 : Hid (Is w2 wo.heap.size 51 #[x0, x1, x2, x3, x4, x5, x6, x7, x8, x9, x10, x11, x12, x13, x14, x15, x16]) := hi2
  have HIo2 := Lib.hid (HIo.out.chg HCr.out fun f => f)
  have HC2 : Hid (Chg none_ w w2) := HCo.out.trans HCr.out
  have HRo : Hid (w.heap.size < wo.heap.size ∧ wo.heap.size < w2.heap.size) := ⟨HIo.out.lt, HIr2.out.lt⟩
  have H2 := Lib.hid (H.out.keep HC2.out)
  have HT : Hid (∀ k, T a k → k < w.heap.size) := fun k hk => (H.out.t a HA.out k hk).2.2
  have HBw : Hid (B ≤ w.heap.size) := Nat.le_trans HS.out.2.2 (Nat.le_trans H.out.hL (Nat.le_of_lt H.out.im.lt))
  have HS2 : Hid (Sen B A w2 ∧ Tab B w2) := ⟨HS.out.1.below (HC2.out.old HBw.out), HS.out.2.1.below (HC2.out.old HBw.out)⟩
  have R2 : Hid (Rn B A w2 w2 (T a) (n a) (p a) (s a)) := Rn.init HS2.out.1 HS2.out.2 (Nat.le_trans HBw.out HC2.out.size) (fun k hk => Nat.le_trans HS.out.2.2 (H2.out.t a HA.out k hk).1) (H2.out.nil a HA.out) (H2.out.sl a HA.out)
  clear hHeld hHeld2 hHeld3 hi2 hc2 HIo HIS HCr HCo
  have HN : Hid (n a = false) := hn
  clear hn
  have hf0 : w2.cell? ⟨w.heap.size, 0, none⟩ = some (.int .i64 6) := HIo2.out.at_ 0 _ rfl
  obtain ⟨flg, fid, fk, us, b, t, hrd, CF, CN⟩ := fr_both (s a)
  have HCF := Lib.hid CF
  have HCN := Lib.hid CN
  clear CF CN
  have CR : Calls Tryd.prog 56 #[p a] w2 fun e wj => e = .returned (.bool b) ∧ w2 = wj := by
    have := rn_ready R2.out
    rw [HN.out, hrd] at this
    exact this
  clear hrd
  have R2n := R2.out
  rw [HN.out] at R2n
  have CF := HCF.out B A w2 w2 (T a) (p a) (H2.out.rf a HA.out).bytS R2n
  clear R2n
  have HCf := Lib.hid CF
  have HCr := Lib.hid CR
  clear CF CR
  clear HCF
  go_wp2_with fail
  refine HCr.out.mono ?_
  rintro e w' ⟨rfl, rfl⟩
  go_wp2_with fail
  refine HCf.out.mono ?_
  rintro e w3 ⟨A4, n4, k4, rfl, hb4, hr4, r3⟩
  have HV := Lib.hid (And.intro hb4 hr4)
  clear hb4 hr4
  have R3 : Hid (Rn B A w2 w3 (T a) (n a) (p a) (t)) := by
    show Rn _ _ _ _ _ _ _ _
    rw [HN.out]
    exact r3
  clear r3
  have HIr3 := Lib.hid (HIr2.out.chg R3.out.chg fun hk => by have := HT.out _ hk; have := HRo.out; omega)
  have HIo3 := Lib.hid (HIo2.out.chg R3.out.chg fun hk => by have := HT.out _ hk; have := HRo.out; omega)
  clear HIr2 HIo2 hf0 HCr HCf
  have hf := H2.out.us R3.out.chg HA.out
  have HUN := Lib.hid (H2.out.usN R3.out.chg H2.out.im.lt)
  rw [HXa.out] at hf
  have HF := Lib.hid hf
  clear hf
  go_wp2_with (refine wpList_store_part rfl 72 (.tmp 9) (.tmp 44) rfl w3.heap.size 0 rfl (.agg #[.int .u8 0, .int .u8 0, .int .u16 flg, .int .u32 fid, .int .u32 fk, .slice A4 n4 k4]) rfl [.int .u8 0, .int .u8 0, .int .u16 flg, .int .u32 fid, .int .u32 fk, .slice A4 n4 k4] (Is.new w3 _ _) rfl (Nat.le_refl 6) rfl szFr' _ rfl ?_)
  intro w4 hi4 hc4
  have HF4 : Hid (Is w4 w3.heap.size 72 #[.int .u8 0, .int .u8 0, .int .u16 flg, .int .u32 fid, .int .u32 fk, .slice A4 n4 k4]) := hi4
  have HC4 : Hid (Chg none_ w3 w4) := ((Chg.refl none_ w3).alloc _).then hc4 fun k hk e => by omega
  clear hi4 hc4
  have HIr4 := Lib.hid (HIr3.out.chg HC4.out fun f => f)
  have HIo4 := Lib.hid (HIo3.out.chg HC4.out fun f => f)
  go_wp2_with (refine wpList_load_part rfl 51 (.tmp 7) rfl wo.heap.size 0 rfl [x0, x1, x2, x3, x4, x5, x6, x7, x8, x9, x10, x11, x12, x13, x14, x15, x16] HIr4.out rfl Tryd.underlying51 rfl szSt ?_)
  refine (HCN.out w4 (Us w2 w3 L g T) _ (HF.out.keep HC4.out) (fun q hq => HUN.out q (Nat.le_trans HC4.out.size hq))).mono ?_
  rintro e w5 ⟨y, A5, n5, k5, rfl, hb5, hr5, hy, c5⟩
  have HV5 := Lib.hid (And.intro hb5 hr5)
  clear hb5 hr5
  obtain ⟨y0, y1, y2, y3, y4, y5, y6, y7, y8, y9, y10, y11, y12, y13, y14, y15, y16, rfl, hy1⟩ := rf_x17 hy
  have HY := Lib.hid (And.intro hy hy1)
  have HC5 := Lib.hid c5
  clear hy hy1 c5
  go_wp2_with (refine wpList_store_part rfl 51 (.tmp 11) (.tmp 49) rfl w5.heap.size 0 rfl (.agg #[y0, y1, y2, y3, y4, y5, y6, y7, y8, y9, y10, y11, y12, y13, y14, y15, y16]) rfl [y0, y1, y2, y3, y4, y5, y6, y7, y8, y9, y10, y11, y12, y13, y14, y15, y16] ((Is.new w5 _ _).alloc _) rfl (Nat.le_refl 17) HY.out.2 szSt _ rfl ?_)
  intro w6 hi6 hc6
  have HI6 : Hid (Is w6 w5.heap.size 51 #[y0, y1, y2, y3, y4, y5, y6, y7, y8, y9, y10, y11, y12, y13, y14, y15, y16]) := hi6
  have HC6 : Hid (Chg none_ w5 w6) := (((Chg.refl none_ w5).alloc _).alloc _).then hc6 fun k hk e => by omega
  have HZ6 : Hid (Is w6 (w5.heap.size + 1) 72 #[.int .u8 0, .int .u8 0, .int .u16 0, .int .u32 0, .int .u32 0, .slice none 0 0]) := (isn2' w5 _ _ _).chg hc6 (Nat.succ_ne_self _)
  clear hi6 hc6
  go_wp2_with (refine wpList_store_part rfl 72 (.tmp 12) (.tmp 50) rfl (w5.heap.size + 1) 0 rfl (.agg #[.int .u8 0, .int .u8 0, .int .u16 flg, .int .u32 fid, .int .u32 fk, .slice A5 n5 k5]) rfl [.int .u8 0, .int .u8 0, .int .u16 flg, .int .u32 fid, .int .u32 fk, .slice A5 n5 k5] HZ6.out rfl (Nat.le_refl 6) rfl szFr' _ rfl ?_)
  intro w7 hi7 hc7
  have HG7 : Hid (Is w7 (w5.heap.size + 1) 72 #[.int .u8 0, .int .u8 0, .int .u16 flg, .int .u32 fid, .int .u32 fk, .slice A5 n5 k5]) := hi7
  have HI7 := Lib.hid (HI6.out.chg hc7 (fun e => by omega))
  have HC57 : Hid (Chg none_ w5 w7) := HC6.out.then hc7 fun k hk e => by omega
  clear hi7 hc7 HZ6
  have HC37 : Hid (Chg none_ w3 w7) := (HC4.out.trans HC5.out).trans HC57.out
  have HF7 := Lib.hid ((HF4.out.chg HC5.out fun f => f).chg HC57.out fun f => f)
  have HP7 : Hid (Is w7 g 55 (prV p x n)) := (H2.out.im.chg R3.out.chg fun hk => (H2.out.t a HA.out g hk).2.1 rfl).chg HC37.out fun f => f
  have hnc : w7.cell? ⟨g, 36 + a, none⟩ = some (.bool false) := by
    rw [← HN.out]
    exact HP7.out.at_ _ _ (prV_n H.out.x17 HA.out)
  go_wp2_with fail
  go_still_tail 6, (by kernel_rfl)
  refine still_load_part rfl 51 (.tmp 11) rfl w5.heap.size 0 rfl [y0, y1, y2, y3, y4, y5, y6, y7, y8, y9, y10, y11, y12, y13, y14, y15, y16] HI7.out.dr1 rfl Tryd.underlying51 rfl szSt ?_
  repeat still_step
  refine wpStill_nil ?_
  change wpList _ _ _ _ _ w7.drew
  refine wpList_store_part rfl 51 (.tmp 74) (.tmp 71) rfl g (2 + a * 17) rfl (.agg #[y0, y1, y2, y3, y4, y5, y6, y7, y8, y9, y10, y11, y12, y13, y14, y15, y16]) rfl [y0, y1, y2, y3, y4, y5, y6, y7, y8, y9, y10, y11, y12, y13, y14, y15, y16] HP7.out.dr1 rfl (by rw [prV_size H.out.x17]; have := HA.out; simp only [List.length_cons, List.length_nil]; omega) HY.out.2 szSt _ (prV_putx (p := p) (n := n) H.out.x17 HA.out (y := .agg #[y0, y1, y2, y3, y4, y5, y6, y7, y8, y9, y10, y11, y12, y13, y14, y15, y16]) (vs := [y0, y1, y2, y3, y4, y5, y6, y7, y8, y9, y10, y11, y12, y13, y14, y15, y16]) rfl rfl) ?_
  intro w8 hi8 hc8
  have HP8 := Lib.hid hi8
  have HC8 := Lib.hid hc8
  clear hi8 hc8
  have hgl := H2.out.im.lt
  have hz3 := R3.out.chg.size
  have hz4 := HC4.out.size
  have hz5 := HC5.out.size
  have HF8 := Lib.hid (HF7.out.dr1.chg HC8.out (fun e => by omega))
  have HG8 := Lib.hid (HG7.out.dr1.chg HC8.out (fun e => by omega))
  obtain ⟨q1, q2, q3, q4⟩ := bso_fact ((HV.out.1.chg (HC37.out.drew) fun k hk => ⟨(HV.out.2 k hk).2, fun f => f⟩))
  obtain ⟨q5, q6, q7, q8⟩ := bso_fact ((HV5.out.1.chg (HC57.out.drew) fun k hk => ⟨(HV5.out.2 k hk).2, fun f => f⟩))
  have hb4 : Rd w8 A4 n4 fun i => .int .u8 (us.getD i 0) := q4.same (c := k4) fun k hk => HC8.out.block k (by have := (HV.out.2 k hk).2; show k < w7.heap.size; have := HC37.out.size; omega) (fun e => by have := (HV.out.2 k hk).1; omega)
  have hb5 : Rd w8 A5 n5 fun i => .int .u8 (us.getD i 0) := q8.same (c := k5) fun k hk => HC8.out.block k (by have := (HV5.out.2 k hk).2; show k < w7.heap.size; have := HC57.out.size; omega) (fun e => by have := (HV5.out.2 k hk).1; omega)
  have hn5 : n5 = n4 := by omega
  subst hn5
  have HQ := Lib.hid (And.intro q1 (And.intro hb4 hb5))
  clear q1 q2 q3 q4 q5 q6 q7 q8 hb4 hb5 hgl hz3 hz4 hz5
  have hf80 : w8.cell? ⟨w3.heap.size, 0, none⟩ = some (.int .u8 0) := HF8.out.at_ 0 _ rfl
  have hf81 : w8.cell? ⟨w3.heap.size, 1, none⟩ = some (.int .u8 0) := HF8.out.at_ 1 _ rfl
  have hf82 : w8.cell? ⟨w3.heap.size, 2, none⟩ = some (.int .u16 flg) := HF8.out.at_ 2 _ rfl
  have hf83 : w8.cell? ⟨w3.heap.size, 3, none⟩ = some (.int .u32 fid) := HF8.out.at_ 3 _ rfl
  have hf84 : w8.cell? ⟨w3.heap.size, 4, none⟩ = some (.int .u32 fk) := HF8.out.at_ 4 _ rfl
  have hf85 : w8.cell? ⟨w3.heap.size, 5, none⟩ = some (.slice A4 n5 k4) := HF8.out.at_ 5 _ rfl
  have hg80 : w8.cell? ⟨(w5.heap.size + 1), 0, none⟩ = some (.int .u8 0) := HG8.out.at_ 0 _ rfl
  have hg81 : w8.cell? ⟨(w5.heap.size + 1), 1, none⟩ = some (.int .u8 0) := HG8.out.at_ 1 _ rfl
  have hg82 : w8.cell? ⟨(w5.heap.size + 1), 2, none⟩ = some (.int .u16 flg) := HG8.out.at_ 2 _ rfl
  have hg83 : w8.cell? ⟨(w5.heap.size + 1), 3, none⟩ = some (.int .u32 fid) := HG8.out.at_ 3 _ rfl
  have hg84 : w8.cell? ⟨(w5.heap.size + 1), 4, none⟩ = some (.int .u32 fk) := HG8.out.at_ 4 _ rfl
  have hg85 : w8.cell? ⟨(w5.heap.size + 1), 5, none⟩ = some (.slice A5 n5 k5) := HG8.out.at_ 5 _ rfl
  go_wp2_with fail
  refine (fsame_eq w8 flg fid fk A4 A5 n5 k4 k5 us HQ.out.1 HQ.out.2.1 HQ.out.2.2).mono ?_
  rintro e w9 ⟨rfl, c9⟩
  have HC9 := Lib.hid c9
  clear c9
  go_wp2
  go_ret
  have hfin := H2.out.step HA.out R3.out HC37.out.drew (HC8.out.trans (HC9.out.more fun _ _ f => f.elim)) (fun e => by rw [HN.out] at e; cases e) (fun _ => ⟨HP8.out.chg HC9.out fun f => f, (HY.out.1.keep HC57.out).keep (Chg.refl none_ w7).drew⟩)
  exact ⟨rfl, hfin.1, (HC2.out.more fun _ _ f => f.elim).trans hfin.2⟩
end
end Go.Proofs.YthalmjjbamglgaaDoor
