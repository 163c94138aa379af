/-
  culvertlaw10.Pair.calls by contract, kind by kind.
  No condition of its own: the facts 'Sen' and 'Tab' on the world; everything lawful (Pri).
-/
import Derived.Test.YthalmjjbamglgaaDoorPlP
import Derived.Test.YthalmjjbamglgaaDoorPlI
import Derived.Test.YthalmjjbamglgaaDoorPlT
import Derived.Deep.RegionHeld3
namespace Go.Proofs.YthalmjjbamglgaaDoor
open Go.RowKit
set_option linter.unusedSimpArgs false
set_option linter.unusedVariables false
theorem gnC_le (s : Sm) (d : Int) : gnC s d ≤ 42 := by
  unfold gnC gaC
  repeat' split
  all_goals decide
/-- 'wpAnyH_take' with the slot given. -/
theorem take_at {P : Program} {md : Region.Mode} {ops : Array Oper} {Q : Exit → Act → World → Prop} {S : World → Prop} {i : Nat} (d : Nat) {oi : Oper} {v : Value} {fuel : Nat} {listed : Array Bool} {a : Act} {w : World} (hi : ops[i]? = some oi) (hd : oi.dst = some d)
    (hs : Region.noSelect ops = true) (hf : Region.free md ops listed i = true) (hr : (Region.ready md ops listed).contains i = true)
    (hQ : ∀ c a w, Q (.panic c) (a.put (some d) v) w → Q (.panic c) a w) (hy : YieldsIf P ops S oi v a) (hS : S w)
    (h : wpAnyH P md ops Q S fuel (listed.setIfInBounds i true) (a.put (some d) v) w) : wpAnyH P md ops Q S (fuel + 1) listed a w :=
  wpAnyH_take hi hs hf hr (by rw [hd]; exact hQ) hy hS (by rw [hd]; exact h)
theorem yields_load_part {P : Program} {o : Oper} {a : Act} {u : World} (ty : TypeId) (x : Operand) (ho : o.op = .load ty x) (g off : Nat) (hx : a.eval x = .pointer (some ⟨g, off, none⟩)) {t : TypeId} {cs : Array Value} (vs : List Value) (hi : Is u g t cs) (hv : (cs.toList.drop off).take vs.length = vs)
    {d : TypeDesc} (hu : P.underlying ty = some d) (hd : (match d with | .struct _ | .array _ _ => true | _ => false) = true) (hz : (P.info? ty).map (·.size) = some vs.length) : (execOp a.eval o).run P u = .ok (.value (.agg vs.toArray)) u := by
  have hr := run_load_part (P := P) hi hv hu hd hz
  unfold execOp
  simp only [ho, hx, Instr.loadAt, Instr.sureAddr, Sem.run_bind, Sem.run_pure, Result.andThen_ok, hr]
theorem is_both (w : World) {g a : Nat} {p x : Nat → Value} {n : Nat → Bool} (ha : a < 2) (hi : Is w g 55 (prV p x n)) (h17 : X17 x) (k : Nat) (y : Value) (hy : ∃ u : List Value, u.length = 17 ∧ y.cells.toList = u ∧ y = .agg u.toArray ∧ u.all (·.oneCell') = true) (b : Bool) (hb : n a = false → b = true) :
    Calls Tryd.prog 87 #[.pointer (some ⟨g, 0, none⟩), .int .i64 (a : Int), .int .i64 ((nC (n a) k : Nat) : Int), .int .i64 (k : Int), y, .bool b] w fun e w' => e = .returned (.bool true) ∧ (n a = true → Is w' g 55 (prV p x n)) ∧ (n a = false → Is w' g 55 (prV p (upd x a y) n)) ∧ Chg (fun k => k = g) w w' := by
  cases hn : n a
  · obtain rfl := hb hn
    exact (is_yes w ha hi h17 k y hy hn).mono fun e w' ⟨h1, h2, h3⟩ => ⟨h1, (fun h => by cases h), fun _ => h2, h3⟩
  · exact (is_nil_ w ha hi h17 k y hy b hn).mono fun e w' ⟨h1, h2, h3⟩ => ⟨h1, fun _ => h2, (fun h => by cases h), h3.more fun _ _ f => f.elim⟩
theorem rf_x17 {w : World} {U : Nat → Prop} {s : Sm} {x : Value} (h : Rf w U s x) : ∃ x0 x1 x2 x3 x4 x5 x6 x7 x8 x9 x10 x11 x12 x13 x14 x15 x16, x = .agg #[x0, x1, x2, x3, x4, x5, x6, x7, x8, x9, x10, x11, x12, x13, x14, x15, x16] ∧ [x0, x1, x2, x3, x4, x5, x6, x7, x8, x9, x10, x11, x12, x13, x14, x15, x16].all (·.oneCell') = true := by
  obtain ⟨c, l, o, A1, n1, k1, A2, n2, k2, rfl, _⟩ := h
  exact ⟨_, _, _, _, _, _, _, _, _, _, _, _, _, _, _, _, _, rfl, rfl⟩
theorem Rf.byt {w : World} {U : Nat → Prop} {s : Sm} {x : Value} (h : Rf w U s x) : Byt s.un := by
  obtain ⟨c, l, o, A1, n1, k1, A2, n2, k2, rfl, _, _, b2⟩ := h
  exact b2.fact.2.2.1
theorem nC_le {nl : Bool} {k : Nat} (h : k ≤ 42) : nC nl k ≤ 42 := by
  unfold nC
  split
  · decide
  · exact h
theorem bso_fact {w : World} {A : Option Addr} {n k : Nat} {xs : List Int} (h : BsO w (.slice A n k) xs) : xs.length = n ∧ n ≤ k ∧ Byt xs ∧ Rd w A n fun i => .int .u8 (xs.getD i 0) := by
  obtain ⟨A', n', c', e, hl, hb, hnc, h0⟩ := h
  cases e
  refine ⟨hl, hnc, hb, fun hp => ?_⟩
  obtain ⟨g, rfl, h1⟩ := h0 hp
  refine ⟨_, rfl, fun i hi => ?_⟩
  rw [add_off, Nat.zero_add, h1 i hi]
  simp [u8s, List.getElem?_map, List.getD_eq_getElem?_getD, List.getElem?_eq_getElem (show i < xs.length by omega)]
theorem sbytes_any (w : World) (A B : Option Addr) (n c m d : Nat) (xs ys : List Int) (hx : xs.length = n) (hy : ys.length = m) (bx : Byt xs) (hby : Byt ys) (ha : Rd w A n fun i => .int .u8 (xs.getD i 0)) (hb : Rd w B m fun i => .int .u8 (ys.getD i 0)) :
    Calls Tryd.prog 91 #[.slice A n c, .slice B m d] w fun e w' => e = .returned (.bool (decide (xs = ys))) ∧ w = w' := by
  have k1 := run_str (P := Tryd.prog) (c := c) 23 5 Tryd.underlying23 Tryd.underlying5 hx ha 9 Tryd.underlying9
  have k2 := run_str (P := Tryd.prog) (c := d) 23 5 Tryd.underlying23 Tryd.underlying5 hy hb 9 Tryd.underlying9
  have hbq := str_beq bx hby
  have HB := Lib.hid hbq
  clear hx hy ha hb bx hby hbq
  go_enter Tryd.func91, Tryd.ntmps91
  go_wp2
  go_ret
  exact ⟨by rw [← HB.out]; rfl, rfl⟩
section
variable {B : Nat} {A : Nat → Addr}
set_option maxRecDepth 100000 in
set_option maxHeartbeats 4000000 in
theorem calls_acc (w : World) {L g : Nat} {T : Nat → Nat → Prop} {p x : Nat → Value} {n : Nat → Bool} {s : Nat → Sm} (h : Pri w L g T p x n s) (hs : Sen B A w) (ht : Tab B w) (hBL : B ≤ L) (xx nn : Int) (A2 : Option Addr) (len cap : Nat) (dl : Int) (fl : Bool) (c0 c1 c2 c3 c4 c5 c6 c7 : Value) {a : Nat} (ha : a < 2) (hbits : bits .and .i64 xx 1 = (a : Int)) :
    Calls Tryd.prog 52 #[.pointer (some ⟨g, 0, none⟩), .agg #[.int .i64 2, .int .i64 xx, .int .i64 nn, .slice A2 len cap, .int .u32 dl, .bool fl, c0, c1, c2, c3, c4, c5, c6, c7]] w fun e w' => e = .returned (.bool true) ∧ Inv w' L g ∧ Chg (fun k => L ≤ k) w w' := by
  have H := Lib.hid h
  have HS := Lib.hid (And.intro hs (And.intro ht hBL))
  have HA := Lib.hid ha
  have ha0 : (0 : Int) ≤ (a : Int) := by omega
  have ha2 : (a : Int) < 2 := by omega
  clear h hs ht hBL
  have HX0 := H.out.rf a ha
  obtain ⟨x0, x1, x2, x3, x4, x5, x6, x7, x8, x9, x10, x11, x12, x13, x14, x15, x16, hxa, hx1⟩ := rf_x17 HX0
  have HX : Hid (((prV p x n).toList.drop (2 + a * 17)).take [x0, x1, x2, x3, x4, x5, x6, x7, x8, x9, x10, x11, x12, x13, x14, x15, x16].length = [x0, x1, x2, x3, x4, x5, x6, x7, x8, x9, x10, x11, x12, x13, x14, x15, x16] ∧ [x0, x1, x2, x3, x4, x5, x6, x7, x8, x9, x10, x11, x12, x13, x14, x15, x16].all (·.oneCell') = true) := ⟨by
    have h1 := prV_x (p := p) (n := n) H.out.x17 ha
    rw [hxa] at h1
    exact h1, hx1⟩
  have HXa := Lib.hid hxa
  clear hxa hx1 HX0
  clear ha
  go_enter Tryd.func52, Tryd.ntmps52
  go_wp2_with fail
  obtain ⟨wo, hwo⟩ : ∃ y, w.alloc (.cells #[.int .i64 2, .int .i64 xx, .int .i64 nn, .slice A2 len cap, .int .u32 dl, .bool fl, c0, c1, c2, c3, c4, c5, c6, c7] 45) = y := ⟨_, rfl⟩
  have HIo := Lib.hid (Is.new w 45 #[.int .i64 2, .int .i64 xx, .int .i64 nn, .slice A2 len cap, .int .u32 dl, .bool fl, c0, c1, c2, c3, c4, c5, c6, c7])
  have HCo : Hid (Chg none_ w (w.alloc (.cells #[.int .i64 2, .int .i64 xx, .int .i64 nn, .slice A2 len cap, .int .u32 dl, .bool fl, c0, c1, c2, c3, c4, c5, c6, c7] 45))) := (Chg.refl none_ w).alloc _
  rw [hwo] at HIo HCo ⊢
  clear hwo
  have HIS : Hid (Is wo.drew g 55 (prV p x n)) := (H.out.im.chg HCo.out fun f => f).dr1
  refine wp_region_held_drew (S := fun u => Is u g 55 (prV p x n)) (by kernel_rfl) HIS.out (fun hHeld => ?_)
  refine take_at 29 (i := 0) (v := .pointer (some ⟨g, 0, none⟩)) rfl (by kernel_rfl) (by kernel_rfl) (by kernel_rfl) (by kernel_rfl) (fun _ _ _ h => h) (Or.inl ⟨by kernel_rfl, by intro u hSw; (try dsimp only at hSw); go_simp⟩) (by assumption) ?_
  try simp only [Act.put, List.setIfInBounds_toArray, List.set_cons_zero, List.set_cons_succ]
  refine take_at 30 (i := 1) (v := .int .i64 (a : Int)) rfl (by kernel_rfl) (by kernel_rfl) (by kernel_rfl) (by kernel_rfl) (fun _ _ _ h => h) (Or.inl ⟨by kernel_rfl, by intro u hSw; (try dsimp only at hSw); go_simp⟩) (by assumption) ?_
  try simp only [Act.put, List.setIfInBounds_toArray, List.set_cons_zero, List.set_cons_succ]
  refine take_at 31 (i := 2) (v := .pointer (some ⟨g, 0, none⟩)) rfl (by kernel_rfl) (by kernel_rfl) (by kernel_rfl) (by kernel_rfl) (fun _ _ _ h => h) (Or.inl ⟨by kernel_rfl, by intro u hSw; (try dsimp only at hSw); go_simp⟩) (by assumption) ?_
  try simp only [Act.put, List.setIfInBounds_toArray, List.set_cons_zero, List.set_cons_succ]
  refine take_at 32 (i := 3) (v := .pointer (some ⟨g, 0, none⟩)) rfl (by kernel_rfl) (by kernel_rfl) (by kernel_rfl) (by kernel_rfl) (fun _ _ _ h => h) (Or.inl ⟨by kernel_rfl, by intro u hSw; (try dsimp only at hSw); go_simp⟩) (by assumption) ?_
  try simp only [Act.put, List.setIfInBounds_toArray, List.set_cons_zero, List.set_cons_succ]
  refine take_at 33 (i := 4) (v := .pointer (some ⟨g, a, none⟩)) rfl (by kernel_rfl) (by kernel_rfl) (by kernel_rfl) (by kernel_rfl) (fun _ _ _ h => h) (Or.inl ⟨by kernel_rfl, by intro u hSw; (try dsimp only at hSw); go_simp⟩) (by assumption) ?_
  try simp only [Act.put, List.setIfInBounds_toArray, List.set_cons_zero, List.set_cons_succ]
  refine take_at 34 (i := 5) (v := p a) rfl (by kernel_rfl) (by kernel_rfl) (by kernel_rfl) (by kernel_rfl) (fun _ _ _ h => h) (Or.inl ⟨by kernel_rfl, by intro u hSw; have hc := hSw.at_ a _ (prV_p HA.out); go_simp⟩) (by assumption) ?_
  try simp only [Act.put, List.setIfInBounds_toArray, List.set_cons_zero, List.set_cons_succ]
  refine take_at 35 (i := 6) (v := .pointer (some ⟨g, 0, none⟩)) rfl (by kernel_rfl) (by kernel_rfl) (by kernel_rfl) (by kernel_rfl) (fun _ _ _ h => h) (Or.inl ⟨by kernel_rfl, by intro u hSw; (try dsimp only at hSw); go_simp⟩) (by assumption) ?_
  try simp only [Act.put, List.setIfInBounds_toArray, List.set_cons_zero, List.set_cons_succ]
  refine take_at 36 (i := 7) (v := .int .i64 (a : Int)) rfl (by kernel_rfl) (by kernel_rfl) (by kernel_rfl) (by kernel_rfl) (fun _ _ _ h => h) (Or.inl ⟨by kernel_rfl, by intro u hSw; (try dsimp only at hSw); go_simp⟩) (by assumption) ?_
  try simp only [Act.put, List.setIfInBounds_toArray, List.set_cons_zero, List.set_cons_succ]
  refine take_at 37 (i := 8) (v := .pointer (some ⟨g, 0, none⟩)) rfl (by kernel_rfl) (by kernel_rfl) (by kernel_rfl) (by kernel_rfl) (fun _ _ _ h => h) (Or.inl ⟨by kernel_rfl, by intro u hSw; (try dsimp only at hSw); go_simp⟩) (by assumption) ?_
  try simp only [Act.put, List.setIfInBounds_toArray, List.set_cons_zero, List.set_cons_succ]
  refine take_at 38 (i := 9) (v := .pointer (some ⟨g, 2, none⟩)) rfl (by kernel_rfl) (by kernel_rfl) (by kernel_rfl) (by kernel_rfl) (fun _ _ _ h => h) (Or.inl ⟨by kernel_rfl, by intro u hSw; (try dsimp only at hSw); go_simp⟩) (by assumption) ?_
  try simp only [Act.put, List.setIfInBounds_toArray, List.set_cons_zero, List.set_cons_succ]
  refine take_at 39 (i := 10) (v := .pointer (some ⟨g, 2 + a * 17, none⟩)) rfl (by kernel_rfl) (by kernel_rfl) (by kernel_rfl) (by kernel_rfl) (fun _ _ _ h => h) (Or.inl ⟨by kernel_rfl, by intro u hSw; (try dsimp only at hSw); go_simp⟩) (by assumption) ?_
  try simp only [Act.put, List.setIfInBounds_toArray, List.set_cons_zero, List.set_cons_succ]
  refine take_at 40 (i := 11) (v := .agg #[x0, x1, x2, x3, x4, x5, x6, x7, x8, x9, x10, x11, x12, x13, x14, x15, x16]) rfl (by kernel_rfl) (by kernel_rfl) (by kernel_rfl) (by kernel_rfl) (fun _ _ _ h => h) (Or.inl ⟨by kernel_rfl, fun u hSw => yields_load_part 51 (.tmp 39) rfl g (2 + a * 17) rfl [x0, x1, x2, x3, x4, x5, x6, x7, x8, x9, x10, x11, x12, x13, x14, x15, x16] hSw HX.out.1 Tryd.underlying51 rfl szSt⟩) (by assumption) ?_
  try simp only [Act.put, List.setIfInBounds_toArray, List.set_cons_zero, List.set_cons_succ]
  refine wpAnyH_ready (rs := [12]) (by kernel_rfl) (by simp) ?_
  refine AllReadyH.cons rfl (fun K hK => ?_) AllReadyH.nil
  go_simp
  refine hK.out _ _ (Is.alloc (by assumption) _) (fun hHeld2 => ?_)
  clear hK K
  try simp only [Act.put, List.setIfInBounds_toArray, List.set_cons_zero, List.set_cons_succ]
  refine wpAnyH_ready (rs := [13]) (by kernel_rfl) (by simp) ?_
  refine AllReadyH.cons rfl (fun K hK => ?_) AllReadyH.nil
  go_simp
  refine hK.out _ _ (by assumption) (fun hHeld3 => ?_)
  clear hK K
  try simp only [Act.put, List.setIfInBounds_toArray, List.set_cons_zero, List.set_cons_succ]
  refine wpAnyH_ready (rs := [14]) (by kernel_rfl) (by simp) ?_
  refine AllReadyH.cons rfl (fun K hK => ?_) AllReadyH.nil
  refine step_store_part rfl 51 (.tmp 7) (.tmp 40) rfl wo.heap.size 0 rfl (.agg #[x0, x1, x2, x3, x4, x5, x6, x7, x8, x9, x10, x11, x12, x13, x14, x15, x16]) rfl [x0, x1, x2, x3, x4, x5, x6, x7, x8, x9, x10, x11, x12, x13, x14, x15, x16] (Is.new wo.drew _ _) rfl (Nat.le_refl 17) HX.out.2 szSt _ rfl ?_
  intro w2 hi2 hc2
  have HCr : Hid (Chg none_ wo w2) := ((Chg.refl none_ wo).drew.alloc _).then hc2 fun k hk e => by omega
  refine hK.out _ _ (hHeld.chg (((Chg.refl none_ wo.drew).alloc _).then hc2 fun k hk e => absurd hk (by subst e; exact Nat.lt_irrefl _)) fun f => f) (fun _ => ?_)
  clear hK K
  try simp only [Act.put, List.setIfInBounds_toArray, List.set_cons_zero, List.set_cons_succ]
  refine wpAnyH_done (by kernel_rfl) ?_ _
  have HIr2 : Hid (Is w2 wo.heap.size 51 #[x0, x1, x2, x3, x4, x5, x6, x7, x8, x9, x10, x11, x12, x13, x14, x15, x16]) := hi2
  have HIo2 := Lib.hid (HIo.out.chg HCr.out fun f => f)
  have HC2 : Hid (Chg none_ w w2) := HCo.out.trans HCr.out
  have HRo : Hid (w.heap.size < wo.heap.size ∧ wo.heap.size < w2.heap.size) := ⟨HIo.out.lt, HIr2.out.lt⟩
  have H2 := Lib.hid (H.out.keep HC2.out)
  have HT : Hid (∀ k, T a k → k < w.heap.size) := fun k hk => (H.out.t a HA.out k hk).2.2
  have HBw : Hid (B ≤ w.heap.size) := Nat.le_trans HS.out.2.2 (Nat.le_trans H.out.hL (Nat.le_of_lt H.out.im.lt))
  have HS2 : Hid (Sen B A w2 ∧ Tab B w2) := ⟨HS.out.1.below (HC2.out.old HBw.out), HS.out.2.1.below (HC2.out.old HBw.out)⟩
  have R2 : Hid (Rn B A w2 w2 (T a) (n a) (p a) (s a)) := Rn.init HS2.out.1 HS2.out.2 (Nat.le_trans HBw.out HC2.out.size) (fun k hk => Nat.le_trans HS.out.2.2 (H2.out.t a HA.out k hk).1) (H2.out.nil a HA.out) (H2.out.sl a HA.out)
  clear hHeld hHeld2 hHeld3 hi2 hc2 HIo HIS HCr HCo
  have hf0 : w2.cell? ⟨w.heap.size, 0, none⟩ = some (.int .i64 2) := HIo2.out.at_ 0 _ rfl
  go_wp2_with fail
  refine (rn_accept R2.out).mono ?_
  rintro e w3 ⟨rfl, r3⟩
  have R3 := Lib.hid r3
  clear r3
  have HIr3 := Lib.hid (HIr2.out.chg R3.out.chg fun hk => by have := HT.out _ hk; have := HRo.out; omega)
  have HIo3 := Lib.hid (HIo2.out.chg R3.out.chg fun hk => by have := HT.out _ hk; have := HRo.out; omega)
  clear HIr2 HIo2
  have hf := H2.out.us R3.out.chg HA.out
  have HUN := Lib.hid (H2.out.usN R3.out.chg H2.out.im.lt)
  rw [HXa.out] at hf
  have HF := Lib.hid hf
  clear hf
  go_wp2_with (refine wpList_load_part rfl 51 (.tmp 7) rfl wo.heap.size 0 rfl [x0, x1, x2, x3, x4, x5, x6, x7, x8, x9, x10, x11, x12, x13, x14, x15, x16] HIr3.out rfl Tryd.underlying51 rfl szSt ?_)
  refine (m_accept HF.out).mono ?_
  rintro e w4 ⟨y, rfl, hy, c4⟩
  obtain ⟨y0, y1, y2, y3, y4, y5, y6, y7, y8, y9, y10, y11, y12, y13, y14, y15, y16, rfl, hy1⟩ := rf_x17 hy
  have HY := Lib.hid (And.intro hy hy1)
  have HC4 := Lib.hid c4
  clear hy hy1 c4
  go_wp2_with (refine wpList_store_part rfl 51 (.tmp 9) (.tmp 50) rfl w4.heap.size 0 rfl (.agg #[y0, y1, y2, y3, y4, y5, y6, y7, y8, y9, y10, y11, y12, y13, y14, y15, y16]) rfl [y0, y1, y2, y3, y4, y5, y6, y7, y8, y9, y10, y11, y12, y13, y14, y15, y16] (Is.new w4 _ _) rfl (Nat.le_refl 17) HY.out.2 szSt _ rfl ?_)
  intro w5 hi5 hc5
  have HI5 : Hid (Is w5 w4.heap.size 51 #[y0, y1, y2, y3, y4, y5, y6, y7, y8, y9, y10, y11, y12, y13, y14, y15, y16]) := hi5
  have HC5 : Hid (Chg none_ w4 w5) := ((Chg.refl none_ w4).alloc _).then hc5 fun k hk e => by omega
  clear hi5 hc5
  go_wp2_with fail
  have HCt : Hid (Chg none_ w3 w5) := HC4.out.trans HC5.out
  have HSt : Hid (Sen B A w5) := (R3.out.grow HCt.out).sen
  have hk : nC (n a) (acC (s a)) ≤ 42 := nC_le (acC_le _)
  have HGt : Hid (Is w5 g 55 (prV p x n)) := (H2.out.im.chg R3.out.chg fun hk => (H2.out.t a HA.out g hk).2.1 rfl).chg HCt.out fun f => f
  go_still_tail 6, (by kernel_rfl)
  still_call ((code_any w5.drew (HSt.out.drewN 1) (nC (n a) (acC (s a))) hk).mono fun e w' h => ⟨h.1, h.2.symm⟩)
  repeat still_step
  refine still_load_part rfl 51 (.tmp 9) rfl w4.heap.size 0 rfl [y0, y1, y2, y3, y4, y5, y6, y7, y8, y9, y10, y11, y12, y13, y14, y15, y16] HI5.out.dr1 rfl Tryd.underlying51 rfl szSt ?_
  repeat still_step
  refine wpStill_nil ?_
  change wpList _ _ _ _ _ w5.drew
  go_wp2_with fail
  refine (is_both w5.drew HA.out HGt.out.dr1 H2.out.x17 (acC (s a)) _ (rf17 HY.out.1) (true) (fun _ => rfl)).mono ?_
  rintro e w9 ⟨rfl, i1, i2, i3⟩
  have HE := Lib.hid (And.intro i1 (And.intro i2 i3))
  clear i1 i2 i3
  go_wp2
  go_ret
  have hfin := H2.out.step HA.out R3.out HCt.out.drew HE.out.2.2 (fun e => ⟨by rw [e]; rfl, HE.out.1 e⟩) (fun e => ⟨HE.out.2.1 e, by rw [e]; exact HY.out.1.keep HC5.out.drew⟩)
  exact ⟨rfl, hfin.1, (HC2.out.more fun _ _ f => f.elim).trans hfin.2⟩
set_option maxRecDepth 100000 in
set_option maxHeartbeats 4000000 in
theorem calls_close (w : World) {L g : Nat} {T : Nat → Nat → Prop} {p x : Nat → Value} {n : Nat → Bool} {s : Nat → Sm} (h : Pri w L g T p x n s) (hs : Sen B A w) (ht : Tab B w) (hBL : B ≤ L) (xx nn : Int) (A2 : Option Addr) (len cap : Nat) (dl : Int) (fl : Bool) (c0 c1 c2 c3 c4 c5 c6 c7 : Value) {a : Nat} (ha : a < 2) (hbits : bits .and .i64 xx 1 = (a : Int)) :
    Calls Tryd.prog 52 #[.pointer (some ⟨g, 0, none⟩), .agg #[.int .i64 4, .int .i64 xx, .int .i64 nn, .slice A2 len cap, .int .u32 dl, .bool fl, c0, c1, c2, c3, c4, c5, c6, c7]] w fun e w' => e = .returned (.bool true) ∧ Inv w' L g ∧ Chg (fun k => L ≤ k) w w' := by
  have H := Lib.hid h
  have HS := Lib.hid (And.intro hs (And.intro ht hBL))
  have HA := Lib.hid ha
  have ha0 : (0 : Int) ≤ (a : Int) := by omega
  have ha2 : (a : Int) < 2 := by omega
  clear h hs ht hBL
  have HX0 := H.out.rf a ha
  obtain ⟨x0, x1, x2, x3, x4, x5, x6, x7, x8, x9, x10, x11, x12, x13, x14, x15, x16, hxa, hx1⟩ := rf_x17 HX0
  have HX : Hid (((prV p x n).toList.drop (2 + a * 17)).take [x0, x1, x2, x3, x4, x5, x6, x7, x8, x9, x10, x11, x12, x13, x14, x15, x16].length = [x0, x1, x2, x3, x4, x5, x6, x7, x8, x9, x10, x11, x12, x13, x14, x15, x16] ∧ [x0, x1, x2, x3, x4, x5, x6, x7, x8, x9, x10, x11, x12, x13, x14, x15, x16].all (·.oneCell') = true) := ⟨by
    have h1 := prV_x (p := p) (n := n) H.out.x17 ha
    rw [hxa] at h1
    exact h1, hx1⟩
  have HXa := Lib.hid hxa
  clear hxa hx1 HX0
  clear ha
  go_enter Tryd.func52, Tryd.ntmps52
  go_wp2_with fail
  obtain ⟨wo, hwo⟩ : ∃ y, w.alloc (.cells #[.int .i64 4, .int .i64 xx, .int .i64 nn, .slice A2 len cap, .int .u32 dl, .bool fl, c0, c1, c2, c3, c4, c5, c6, c7] 45) = y := ⟨_, rfl⟩
  have HIo := Lib.hid (Is.new w 45 #[.int .i64 4, .int .i64 xx, .int .i64 nn, .slice A2 len cap, .int .u32 dl, .bool fl, c0, c1, c2, c3, c4, c5, c6, c7])
  have HCo : Hid (Chg none_ w (w.alloc (.cells #[.int .i64 4, .int .i64 xx, .int .i64 nn, .slice A2 len cap, .int .u32 dl, .bool fl, c0, c1, c2, c3, c4, c5, c6, c7] 45))) := (Chg.refl none_ w).alloc _
  rw [hwo] at HIo HCo ⊢
  clear hwo
  have HIS : Hid (Is wo.drew g 55 (prV p x n)) := (H.out.im.chg HCo.out fun f => f).dr1
  refine wp_region_held_drew (S := fun u => Is u g 55 (prV p x n)) (by kernel_rfl) HIS.out (fun hHeld => ?_)
  refine take_at 29 (i := 0) (v := .pointer (some ⟨g, 0, none⟩)) rfl (by kernel_rfl) (by kernel_rfl) (by kernel_rfl) (by kernel_rfl) (fun _ _ _ h => h) (Or.inl ⟨by kernel_rfl, by intro u hSw; (try dsimp only at hSw); go_simp⟩) (by assumption) ?_
  try simp only [Act.put, List.setIfInBounds_toArray, List.set_cons_zero, List.set_cons_succ]
  refine take_at 30 (i := 1) (v := .int .i64 (a : Int)) rfl (by kernel_rfl) (by kernel_rfl) (by kernel_rfl) (by kernel_rfl) (fun _ _ _ h => h) (Or.inl ⟨by kernel_rfl, by intro u hSw; (try dsimp only at hSw); go_simp⟩) (by assumption) ?_
  try simp only [Act.put, List.setIfInBounds_toArray, List.set_cons_zero, List.set_cons_succ]
  refine take_at 31 (i := 2) (v := .pointer (some ⟨g, 0, none⟩)) rfl (by kernel_rfl) (by kernel_rfl) (by kernel_rfl) (by kernel_rfl) (fun _ _ _ h => h) (Or.inl ⟨by kernel_rfl, by intro u hSw; (try dsimp only at hSw); go_simp⟩) (by assumption) ?_
  try simp only [Act.put, List.setIfInBounds_toArray, List.set_cons_zero, List.set_cons_succ]
  refine take_at 32 (i := 3) (v := .pointer (some ⟨g, 0, none⟩)) rfl (by kernel_rfl) (by kernel_rfl) (by kernel_rfl) (by kernel_rfl) (fun _ _ _ h => h) (Or.inl ⟨by kernel_rfl, by intro u hSw; (try dsimp only at hSw); go_simp⟩) (by assumption) ?_
  try simp only [Act.put, List.setIfInBounds_toArray, List.set_cons_zero, List.set_cons_succ]
  refine take_at 33 (i := 4) (v := .pointer (some ⟨g, a, none⟩)) rfl (by kernel_rfl) (by kernel_rfl) (by kernel_rfl) (by kernel_rfl) (fun _ _ _ h => h) (Or.inl ⟨by kernel_rfl, by intro u hSw; (try dsimp only at hSw); go_simp⟩) (by assumption) ?_
  try simp only [Act.put, List.setIfInBounds_toArray, List.set_cons_zero, List.set_cons_succ]
  refine take_at 34 (i := 5) (v := p a) rfl (by kernel_rfl) (by kernel_rfl) (by kernel_rfl) (by kernel_rfl) (fun _ _ _ h => h) (Or.inl ⟨by kernel_rfl, by intro u hSw; have hc := hSw.at_ a _ (prV_p HA.out); go_simp⟩) (by assumption) ?_
  try simp only [Act.put, List.setIfInBounds_toArray, List.set_cons_zero, List.set_cons_succ]
  refine take_at 35 (i := 6) (v := .pointer (some ⟨g, 0, none⟩)) rfl (by kernel_rfl) (by kernel_rfl) (by kernel_rfl) (by kernel_rfl) (fun _ _ _ h => h) (Or.inl ⟨by kernel_rfl, by intro u hSw; (try dsimp only at hSw); go_simp⟩) (by assumption) ?_
  try simp only [Act.put, List.setIfInBounds_toArray, List.set_cons_zero, List.set_cons_succ]
  refine take_at 36 (i := 7) (v := .int .i64 (a : Int)) rfl (by kernel_rfl) (by kernel_rfl) (by kernel_rfl) (by kernel_rfl) (fun _ _ _ h => h) (Or.inl ⟨by kernel_rfl, by intro u hSw; (try dsimp only at hSw); go_simp⟩) (by assumption) ?_
  try simp only [Act.put, List.setIfInBounds_toArray, List.set_cons_zero, List.set_cons_succ]
  refine take_at 37 (i := 8) (v := .pointer (some ⟨g, 0, none⟩)) rfl (by kernel_rfl) (by kernel_rfl) (by kernel_rfl) (by kernel_rfl) (fun _ _ _ h => h) (Or.inl ⟨by kernel_rfl, by intro u hSw; (try dsimp only at hSw); go_simp⟩) (by assumption) ?_
  try simp only [Act.put, List.setIfInBounds_toArray, List.set_cons_zero, List.set_cons_succ]
  refine take_at 38 (i := 9) (v := .pointer (some ⟨g, 2, none⟩)) rfl (by kernel_rfl) (by kernel_rfl) (by kernel_rfl) (by kernel_rfl) (fun _ _ _ h => h) (Or.inl ⟨by kernel_rfl, by intro u hSw; (try dsimp only at hSw); go_simp⟩) (by assumption) ?_
  try simp only [Act.put, List.setIfInBounds_toArray, List.set_cons_zero, List.set_cons_succ]
  refine take_at 39 (i := 10) (v := .pointer (some ⟨g, 2 + a * 17, none⟩)) rfl (by kernel_rfl) (by kernel_rfl) (by kernel_rfl) (by kernel_rfl) (fun _ _ _ h => h) (Or.inl ⟨by kernel_rfl, by intro u hSw; (try dsimp only at hSw); go_simp⟩) (by assumption) ?_
  try simp only [Act.put, List.setIfInBounds_toArray, List.set_cons_zero, List.set_cons_succ]
  refine take_at 40 (i := 11) (v := .agg #[x0, x1, x2, x3, x4, x5, x6, x7, x8, x9, x10, x11, x12, x13, x14, x15, x16]) rfl (by kernel_rfl) (by kernel_rfl) (by kernel_rfl) (by kernel_rfl) (fun _ _ _ h => h) (Or.inl ⟨by kernel_rfl, fun u hSw => yields_load_part 51 (.tmp 39) rfl g (2 + a * 17) rfl [x0, x1, x2, x3, x4, x5, x6, x7, x8, x9, x10, x11, x12, x13, x14, x15, x16] hSw HX.out.1 Tryd.underlying51 rfl szSt⟩) (by assumption) ?_
  try simp only [Act.put, List.setIfInBounds_toArray, List.set_cons_zero, List.set_cons_succ]
  refine wpAnyH_ready (rs := [12]) (by kernel_rfl) (by simp) ?_
  refine AllReadyH.cons rfl (fun K hK => ?_) AllReadyH.nil
  go_simp
  refine hK.out _ _ (Is.alloc (by assumption) _) (fun hHeld2 => ?_)
  clear hK K
  try simp only [Act.put, List.setIfInBounds_toArray, List.set_cons_zero, List.set_cons_succ]
  refine wpAnyH_ready (rs := [13]) (by kernel_rfl) (by simp) ?_
  refine AllReadyH.cons rfl (fun K hK => ?_) AllReadyH.nil
  go_simp
  refine hK.out _ _ (by assumption) (fun hHeld3 => ?_)
  clear hK K
  try simp only [Act.put, List.setIfInBounds_toArray, List.set_cons_zero, List.set_cons_succ]
  refine wpAnyH_ready (rs := [14]) (by kernel_rfl) (by simp) ?_
  refine AllReadyH.cons rfl (fun K hK => ?_) AllReadyH.nil
  refine step_store_part rfl 51 (.tmp 7) (.tmp 40) rfl wo.heap.size 0 rfl (.agg #[x0, x1, x2, x3, x4, x5, x6, x7, x8, x9, x10, x11, x12, x13, x14, x15, x16]) rfl [x0, x1, x2, x3, x4, x5, x6, x7, x8, x9, x10, x11, x12, x13, x14, x15, x16] (Is.new wo.drew _ _) rfl (Nat.le_refl 17) HX.out.2 szSt _ rfl ?_
  intro w2 hi2 hc2
  have HCr : Hid (Chg none_ wo w2) := ((Chg.refl none_ wo).drew.alloc _).then hc2 fun k hk e => by omega
  refine hK.out _ _ (hHeld.chg (((Chg.refl none_ wo.drew).alloc _).then hc2 fun k hk e => absurd hk (by subst e; exact Nat.lt_irrefl _)) fun f => f) (fun _ => ?_)
  clear hK K
  try simp only [Act.put, List.setIfInBounds_toArray, List.set_cons_zero, List.set_cons_succ]
  refine wpAnyH_done (by kernel_rfl) ?_ _
  have HIr2 : Hid (Is w2 wo.heap.size 51 #[x0, x1, x2, x3, x4, x5, x6, x7, x8, x9, x10, x11, x12, x13, x14, x15, x16]) := hi2
  have HIo2 := Lib.hid (HIo.out.chg HCr.out fun f => f)
  have HC2 : Hid (Chg none_ w w2) := HCo.out.trans HCr.out
  have HRo : Hid (w.heap.size < wo.heap.size ∧ wo.heap.size < w2.heap.size) := ⟨HIo.out.lt, HIr2.out.lt⟩
  have H2 := Lib.hid (H.out.keep HC2.out)
  have HT : Hid (∀ k, T a k → k < w.heap.size) := fun k hk => (H.out.t a HA.out k hk).2.2
  have HBw : Hid (B ≤ w.heap.size) := Nat.le_trans HS.out.2.2 (Nat.le_trans H.out.hL (Nat.le_of_lt H.out.im.lt))
  have HS2 : Hid (Sen B A w2 ∧ Tab B w2) := ⟨HS.out.1.below (HC2.out.old HBw.out), HS.out.2.1.below (HC2.out.old HBw.out)⟩
  have R2 : Hid (Rn B A w2 w2 (T a) (n a) (p a) (s a)) := Rn.init HS2.out.1 HS2.out.2 (Nat.le_trans HBw.out HC2.out.size) (fun k hk => Nat.le_trans HS.out.2.2 (H2.out.t a HA.out k hk).1) (H2.out.nil a HA.out) (H2.out.sl a HA.out)
  clear hHeld hHeld2 hHeld3 hi2 hc2 HIo HIS HCr HCo
  have hf0 : w2.cell? ⟨w.heap.size, 0, none⟩ = some (.int .i64 4) := HIo2.out.at_ 0 _ rfl
  go_wp2_with fail
  refine (rn_close R2.out).mono ?_
  rintro e w3 ⟨rfl, r3⟩
  have R3 := Lib.hid r3
  clear r3
  have HIr3 := Lib.hid (HIr2.out.chg R3.out.chg fun hk => by have := HT.out _ hk; have := HRo.out; omega)
  have HIo3 := Lib.hid (HIo2.out.chg R3.out.chg fun hk => by have := HT.out _ hk; have := HRo.out; omega)
  clear HIr2 HIo2
  have hf := H2.out.us R3.out.chg HA.out
  have HUN := Lib.hid (H2.out.usN R3.out.chg H2.out.im.lt)
  rw [HXa.out] at hf
  have HF := Lib.hid hf
  clear hf
  go_wp2_with (refine wpList_load_part rfl 51 (.tmp 7) rfl wo.heap.size 0 rfl [x0, x1, x2, x3, x4, x5, x6, x7, x8, x9, x10, x11, x12, x13, x14, x15, x16] HIr3.out rfl Tryd.underlying51 rfl szSt ?_)
  refine (m_close HF.out).mono ?_
  rintro e w4 ⟨y, rfl, hy, c4⟩
  obtain ⟨y0, y1, y2, y3, y4, y5, y6, y7, y8, y9, y10, y11, y12, y13, y14, y15, y16, rfl, hy1⟩ := rf_x17 hy
  have HY := Lib.hid (And.intro hy hy1)
  have HC4 := Lib.hid c4
  clear hy hy1 c4
  go_wp2_with (refine wpList_store_part rfl 51 (.tmp 17) (.tmp 94) rfl w4.heap.size 0 rfl (.agg #[y0, y1, y2, y3, y4, y5, y6, y7, y8, y9, y10, y11, y12, y13, y14, y15, y16]) rfl [y0, y1, y2, y3, y4, y5, y6, y7, y8, y9, y10, y11, y12, y13, y14, y15, y16] (Is.new w4 _ _) rfl (Nat.le_refl 17) HY.out.2 szSt _ rfl ?_)
  intro w5 hi5 hc5
  have HI5 : Hid (Is w5 w4.heap.size 51 #[y0, y1, y2, y3, y4, y5, y6, y7, y8, y9, y10, y11, y12, y13, y14, y15, y16]) := hi5
  have HC5 : Hid (Chg none_ w4 w5) := ((Chg.refl none_ w4).alloc _).then hc5 fun k hk e => by omega
  clear hi5 hc5
  go_wp2_with fail
  have HCt : Hid (Chg none_ w3 w5) := HC4.out.trans HC5.out
  have HSt : Hid (Sen B A w5) := (R3.out.grow HCt.out).sen
  have hk : nC (n a) (wrC (s a)) ≤ 42 := nC_le (wrC_le _)
  have HGt : Hid (Is w5 g 55 (prV p x n)) := (H2.out.im.chg R3.out.chg fun hk => (H2.out.t a HA.out g hk).2.1 rfl).chg HCt.out fun f => f
  go_still_tail 6, (by kernel_rfl)
  still_call ((code_any w5.drew (HSt.out.drewN 1) (nC (n a) (wrC (s a))) hk).mono fun e w' h => ⟨h.1, h.2.symm⟩)
  repeat still_step
  refine still_load_part rfl 51 (.tmp 17) rfl w4.heap.size 0 rfl [y0, y1, y2, y3, y4, y5, y6, y7, y8, y9, y10, y11, y12, y13, y14, y15, y16] HI5.out.dr1 rfl Tryd.underlying51 rfl szSt ?_
  repeat still_step
  refine wpStill_nil ?_
  change wpList _ _ _ _ _ w5.drew
  go_wp2_with fail
  refine (is_both w5.drew HA.out HGt.out.dr1 H2.out.x17 (wrC (s a)) _ (rf17 HY.out.1) (true) (fun _ => rfl)).mono ?_
  rintro e w9 ⟨rfl, i1, i2, i3⟩
  have HE := Lib.hid (And.intro i1 (And.intro i2 i3))
  clear i1 i2 i3
  go_wp2
  go_ret
  have hfin := H2.out.step HA.out R3.out HCt.out.drew HE.out.2.2 (fun e => ⟨by rw [e]; rfl, HE.out.1 e⟩) (fun e => ⟨HE.out.2.1 e, by rw [e]; exact HY.out.1.keep HC5.out.drew⟩)
  exact ⟨rfl, hfin.1, (HC2.out.more fun _ _ f => f.elim).trans hfin.2⟩
set_option maxRecDepth 100000 in
set_option maxHeartbeats 4000000 in
theorem calls_write (w : World) {L g : Nat} {T : Nat → Nat → Prop} {p x : Nat → Value} {n : Nat → Bool} {s : Nat → Sm} (h : Pri w L g T p x n s) (hs : Sen B A w) (ht : Tab B w) (hBL : B ≤ L) (xx nn : Int) (A2 : Option Addr) (len cap : Nat) (dl : Int) (fl : Bool) (c0 c1 c2 c3 c4 c5 c6 c7 : Value) {a : Nat} (ha : a < 2) (hbits : bits .and .i64 xx 1 = (a : Int)) (zs : List Int) (hz : zs.length = len) (hzb : Byt zs) (hzr : ∀ u, Below B w u → Rd u A2 len fun i => .int .u8 (zs.getD i 0)) (hzm : len ≤ 140737488355328) (hzc : len ≤ cap) :
    Calls Tryd.prog 52 #[.pointer (some ⟨g, 0, none⟩), .agg #[.int .i64 3, .int .i64 xx, .int .i64 nn, .slice A2 len cap, .int .u32 dl, .bool fl, c0, c1, c2, c3, c4, c5, c6, c7]] w fun e w' => e = .returned (.bool true) ∧ Inv w' L g ∧ Chg (fun k => L ≤ k) w w' := by
  have H := Lib.hid h
  have HS := Lib.hid (And.intro hs (And.intro ht hBL))
  have HA := Lib.hid ha
  have HZ := Lib.hid (And.intro hz (And.intro hzb (And.intro hzm hzc)))
  have HZr := Lib.hid hzr
  clear hz hzb hzr hzm hzc
  have ha0 : (0 : Int) ≤ (a : Int) := by omega
  have ha2 : (a : Int) < 2 := by omega
  clear h hs ht hBL
  have HX0 := H.out.rf a ha
  obtain ⟨x0, x1, x2, x3, x4, x5, x6, x7, x8, x9, x10, x11, x12, x13, x14, x15, x16, hxa, hx1⟩ := rf_x17 HX0
  have HX : Hid (((prV p x n).toList.drop (2 + a * 17)).take [x0, x1, x2, x3, x4, x5, x6, x7, x8, x9, x10, x11, x12, x13, x14, x15, x16].length = [x0, x1, x2, x3, x4, x5, x6, x7, x8, x9, x10, x11, x12, x13, x14, x15, x16] ∧ [x0, x1, x2, x3, x4, x5, x6, x7, x8, x9, x10, x11, x12, x13, x14, x15, x16].all (·.oneCell') = true) := ⟨by
    have h1 := prV_x (p := p) (n := n) H.out.x17 ha
    rw [hxa] at h1
    exact h1, hx1⟩
  have HXa := Lib.hid hxa
  clear hxa hx1 HX0
  clear ha
  go_enter Tryd.func52, Tryd.ntmps52
  go_wp2_with fail
  obtain ⟨wo, hwo⟩ : ∃ y, w.alloc (.cells #[.int .i64 3, .int .i64 xx, .int .i64 nn, .slice A2 len cap, .int .u32 dl, .bool fl, c0, c1, c2, c3, c4, c5, c6, c7] 45) = y := ⟨_, rfl⟩
  have HIo := Lib.hid (Is.new w 45 #[.int .i64 3, .int .i64 xx, .int .i64 nn, .slice A2 len cap, .int .u32 dl, .bool fl, c0, c1, c2, c3, c4, c5, c6, c7])
  have HCo : Hid (Chg none_ w (w.alloc (.cells #[.int .i64 3, .int .i64 xx, .int .i64 nn, .slice A2 len cap, .int .u32 dl, .bool fl, c0, c1, c2, c3, c4, c5, c6, c7] 45))) := (Chg.refl none_ w).alloc _
  rw [hwo] at HIo HCo ⊢
  clear hwo
  have HIS : Hid (Is wo.drew g 55 (prV p x n)) := (H.out.im.chg HCo.out fun f => f).dr1
  refine wp_region_held_drew (S := fun u => Is u g 55 (prV p x n)) (by kernel_rfl) HIS.out (fun hHeld => ?_)
  refine take_at 29 (i := 0) (v := .pointer (some ⟨g, 0, none⟩)) rfl (by kernel_rfl) (by kernel_rfl) (by kernel_rfl) (by kernel_rfl) (fun _ _ _ h => h) (Or.inl ⟨by kernel_rfl, by intro u hSw; (try dsimp only at hSw); go_simp⟩) (by assumption) ?_
  try simp only [Act.put, List.setIfInBounds_toArray, List.set_cons_zero, List.set_cons_succ]
  refine take_at 30 (i := 1) (v := .int .i64 (a : Int)) rfl (by kernel_rfl) (by kernel_rfl) (by kernel_rfl) (by kernel_rfl) (fun _ _ _ h => h) (Or.inl ⟨by kernel_rfl, by intro u hSw; (try dsimp only at hSw); go_simp⟩) (by assumption) ?_
  try simp only [Act.put, List.setIfInBounds_toArray, List.set_cons_zero, List.set_cons_succ]
  refine take_at 31 (i := 2) (v := .pointer (some ⟨g, 0, none⟩)) rfl (by kernel_rfl) (by kernel_rfl) (by kernel_rfl) (by kernel_rfl) (fun _ _ _ h => h) (Or.inl ⟨by kernel_rfl, by intro u hSw; (try dsimp only at hSw); go_simp⟩) (by assumption) ?_
  try simp only [Act.put, List.setIfInBounds_toArray, List.set_cons_zero, List.set_cons_succ]
  refine take_at 32 (i := 3) (v := .pointer (some ⟨g, 0, none⟩)) rfl (by kernel_rfl) (by kernel_rfl) (by kernel_rfl) (by kernel_rfl) (fun _ _ _ h => h) (Or.inl ⟨by kernel_rfl, by intro u hSw; (try dsimp only at hSw); go_simp⟩) (by assumption) ?_
  try simp only [Act.put, List.setIfInBounds_toArray, List.set_cons_zero, List.set_cons_succ]
  refine take_at 33 (i := 4) (v := .pointer (some ⟨g, a, none⟩)) rfl (by kernel_rfl) (by kernel_rfl) (by kernel_rfl) (by kernel_rfl) (fun _ _ _ h => h) (Or.inl ⟨by kernel_rfl, by intro u hSw; (try dsimp only at hSw); go_simp⟩) (by assumption) ?_
  try simp only [Act.put, List.setIfInBounds_toArray, List.set_cons_zero, List.set_cons_succ]
  refine take_at 34 (i := 5) (v := p a) rfl (by kernel_rfl) (by kernel_rfl) (by kernel_rfl) (by kernel_rfl) (fun _ _ _ h => h) (Or.inl ⟨by kernel_rfl, by intro u hSw; have hc := hSw.at_ a _ (prV_p HA.out); go_simp⟩) (by assumption) ?_
  try simp only [Act.put, List.setIfInBounds_toArray, List.set_cons_zero, List.set_cons_succ]
  refine take_at 35 (i := 6) (v := .pointer (some ⟨g, 0, none⟩)) rfl (by kernel_rfl) (by kernel_rfl) (by kernel_rfl) (by kernel_rfl) (fun _ _ _ h => h) (Or.inl ⟨by kernel_rfl, by intro u hSw; (try dsimp only at hSw); go_simp⟩) (by assumption) ?_
  try simp only [Act.put, List.setIfInBounds_toArray, List.set_cons_zero, List.set_cons_succ]
  refine take_at 36 (i := 7) (v := .int .i64 (a : Int)) rfl (by kernel_rfl) (by kernel_rfl) (by kernel_rfl) (by kernel_rfl) (fun _ _ _ h => h) (Or.inl ⟨by kernel_rfl, by intro u hSw; (try dsimp only at hSw); go_simp⟩) (by assumption) ?_
  try simp only [Act.put, List.setIfInBounds_toArray, List.set_cons_zero, List.set_cons_succ]
  refine take_at 37 (i := 8) (v := .pointer (some ⟨g, 0, none⟩)) rfl (by kernel_rfl) (by kernel_rfl) (by kernel_rfl) (by kernel_rfl) (fun _ _ _ h => h) (Or.inl ⟨by kernel_rfl, by intro u hSw; (try dsimp only at hSw); go_simp⟩) (by assumption) ?_
  try simp only [Act.put, List.setIfInBounds_toArray, List.set_cons_zero, List.set_cons_succ]
  refine take_at 38 (i := 9) (v := .pointer (some ⟨g, 2, none⟩)) rfl (by kernel_rfl) (by kernel_rfl) (by kernel_rfl) (by kernel_rfl) (fun _ _ _ h => h) (Or.inl ⟨by kernel_rfl, by intro u hSw; (try dsimp only at hSw); go_simp⟩) (by assumption) ?_
  try simp only [Act.put, List.setIfInBounds_toArray, List.set_cons_zero, List.set_cons_succ]
  refine take_at 39 (i := 10) (v := .pointer (some ⟨g, 2 + a * 17, none⟩)) rfl (by kernel_rfl) (by kernel_rfl) (by kernel_rfl) (by kernel_rfl) (fun _ _ _ h => h) (Or.inl ⟨by kernel_rfl, by intro u hSw; (try dsimp only at hSw); go_simp⟩) (by assumption) ?_
  try simp only [Act.put, List.setIfInBounds_toArray, List.set_cons_zero, List.set_cons_succ]
  refine take_at 40 (i := 11) (v := .agg #[x0, x1, x2, x3, x4, x5, x6, x7, x8, x9, x10, x11, x12, x13, x14, x15, x16]) rfl (by kernel_rfl) (by kernel_rfl) (by kernel_rfl) (by kernel_rfl) (fun _ _ _ h => h) (Or.inl ⟨by kernel_rfl, fun u hSw => yields_load_part 51 (.tmp 39) rfl g (2 + a * 17) rfl [x0, x1, x2, x3, x4, x5, x6, x7, x8, x9, x10, x11, x12, x13, x14, x15, x16] hSw HX.out.1 Tryd.underlying51 rfl szSt⟩) (by assumption) ?_
  try simp only [Act.put, List.setIfInBounds_toArray, List.set_cons_zero, List.set_cons_succ]
  refine wpAnyH_ready (rs := [12]) (by kernel_rfl) (by simp) ?_
  refine AllReadyH.cons rfl (fun K hK => ?_) AllReadyH.nil
  go_simp
  refine hK.out _ _ (Is.alloc (by assumption) _) (fun hHeld2 => ?_)
  clear hK K
  try simp only [Act.put, List.setIfInBounds_toArray, List.set_cons_zero, List.set_cons_succ]
  refine wpAnyH_ready (rs := [13]) (by kernel_rfl) (by simp) ?_
  refine AllReadyH.cons rfl (fun K hK => ?_) AllReadyH.nil
  go_simp
  refine hK.out _ _ (by assumption) (fun hHeld3 => ?_)
  clear hK K
  try simp only [Act.put, List.setIfInBounds_toArray, List.set_cons_zero, List.set_cons_succ]
  refine wpAnyH_ready (rs := [14]) (by kernel_rfl) (by simp) ?_
  refine AllReadyH.cons rfl (fun K hK => ?_) AllReadyH.nil
  refine step_store_part rfl 51 (.tmp 7) (.tmp 40) rfl wo.heap.size 0 rfl (.agg #[x0, x1, x2, x3, x4, x5, x6, x7, x8, x9, x10, x11, x12, x13, x14, x15, x16]) rfl [x0, x1, x2, x3, x4, x5, x6, x7, x8, x9, x10, x11, x12, x13, x14, x15, x16] (Is.new wo.drew _ _) rfl (Nat.le_refl 17) HX.out.2 szSt _ rfl ?_
  intro w2 hi2 hc2
  have HCr : Hid (Chg none_ wo w2) := ((Chg.refl none_ wo).drew.alloc _).then hc2 fun k hk e => by omega
  refine hK.out _ _ (hHeld.chg (((Chg.refl none_ wo.drew).alloc _).then hc2 fun k hk e => absurd hk (by subst e; exact Nat.lt_irrefl _)) fun f => f) (fun _ => ?_)
  clear hK K
  try simp only [Act.put, List.setIfInBounds_toArray, List.set_cons_zero, List.set_cons_succ]
  refine wpAnyH_done (by kernel_rfl) ?_ _
  have HIr2 : Hid (Is w2 wo.heap.size 51 #[x0, x1, x2, x3, x4, x5, x6, x7, x8, x9, x10, x11, x12, x13, x14, x15, x16]) := hi2
  have HIo2 := Lib.hid (HIo.out.chg HCr.out fun f => f)
  have HC2 : Hid (Chg none_ w w2) := HCo.out.trans HCr.out
  have HRo : Hid (w.heap.size < wo.heap.size ∧ wo.heap.size < w2.heap.size) := ⟨HIo.out.lt, HIr2.out.lt⟩
  have H2 := Lib.hid (H.out.keep HC2.out)
  have HT : Hid (∀ k, T a k → k < w.heap.size) := fun k hk => (H.out.t a HA.out k hk).2.2
  have HBw : Hid (B ≤ w.heap.size) := Nat.le_trans HS.out.2.2 (Nat.le_trans H.out.hL (Nat.le_of_lt H.out.im.lt))
  have HS2 : Hid (Sen B A w2 ∧ Tab B w2) := ⟨HS.out.1.below (HC2.out.old HBw.out), HS.out.2.1.below (HC2.out.old HBw.out)⟩
  have R2 : Hid (Rn B A w2 w2 (T a) (n a) (p a) (s a)) := Rn.init HS2.out.1 HS2.out.2 (Nat.le_trans HBw.out HC2.out.size) (fun k hk => Nat.le_trans HS.out.2.2 (H2.out.t a HA.out k hk).1) (H2.out.nil a HA.out) (H2.out.sl a HA.out)
  clear hHeld hHeld2 hHeld3 hi2 hc2 HIo HIS HCr HCo
  have hf0 : w2.cell? ⟨w.heap.size, 0, none⟩ = some (.int .i64 3) := HIo2.out.at_ 0 _ rfl
  have hf3 : w2.cell? ⟨w.heap.size, 3, none⟩ = some (.slice A2 len cap) := HIo2.out.at_ 3 _ rfl
  go_wp2_with fail
  have HD2 : Hid (Rd w2 A2 len fun i => .int .u8 (zs.getD i 0)) := HZr.out w2 (HC2.out.old HBw.out)
  refine (copied_any w2 A2 len cap zs HZ.out.1 HD2.out HZ.out.2.2.1).mono ?_
  rintro e wc ⟨v, rfl, hv, cc⟩
  have HV := Lib.hid hv
  have HCc := Lib.hid cc
  clear hv cc
  go_wp2_with fail
  refine (rn_write R2.out HCc.out HV.out HZ.out.2.1 (by rw [HZ.out.1]; exact HZ.out.2.2.1)).mono ?_
  rintro e w3 ⟨rfl, r3⟩
  have R3 := Lib.hid r3
  clear r3
  have HIr3 := Lib.hid (HIr2.out.chg R3.out.chg fun hk => by have := HT.out _ hk; have := HRo.out; omega)
  have HIo3 := Lib.hid (HIo2.out.chg R3.out.chg fun hk => by have := HT.out _ hk; have := HRo.out; omega)
  clear HIr2 HIo2 hf3
  have hf := H2.out.us R3.out.chg HA.out
  have HUN := Lib.hid (H2.out.usN R3.out.chg H2.out.im.lt)
  rw [HXa.out] at hf
  have HF := Lib.hid hf
  clear hf
  have hf3 : w3.cell? ⟨w.heap.size, 3, none⟩ = some (.slice A2 len cap) := HIo3.out.at_ 3 _ rfl
  have HD3 : Hid (Rd w3 A2 len fun i => .int .u8 (zs.getD i 0)) := HZr.out w3 ((HC2.out.old HBw.out).trans (R3.out.chg.below (fun k _ hk => R2.out.hTB k hk) R2.out.hB))
  go_wp2_with (refine wpList_load_part rfl 51 (.tmp 7) rfl wo.heap.size 0 rfl [x0, x1, x2, x3, x4, x5, x6, x7, x8, x9, x10, x11, x12, x13, x14, x15, x16] HIr3.out rfl Tryd.underlying51 rfl szSt ?_)
  refine (m_write HF.out HUN.out A2 len cap zs HZ.out.1 HZ.out.2.1 HD3.out HZ.out.2.2.1 HZ.out.2.2.2).mono ?_
  rintro e w4 ⟨y, rfl, hy, c4⟩
  obtain ⟨y0, y1, y2, y3, y4, y5, y6, y7, y8, y9, y10, y11, y12, y13, y14, y15, y16, rfl, hy1⟩ := rf_x17 hy
  have HY := Lib.hid (And.intro hy hy1)
  have HC4 := Lib.hid c4
  clear hy hy1 c4
  go_wp2_with (refine wpList_store_part rfl 51 (.tmp 13) (.tmp 74) rfl w4.heap.size 0 rfl (.agg #[y0, y1, y2, y3, y4, y5, y6, y7, y8, y9, y10, y11, y12, y13, y14, y15, y16]) rfl [y0, y1, y2, y3, y4, y5, y6, y7, y8, y9, y10, y11, y12, y13, y14, y15, y16] (Is.new w4 _ _) rfl (Nat.le_refl 17) HY.out.2 szSt _ rfl ?_)
  intro w5 hi5 hc5
  have HI5 : Hid (Is w5 w4.heap.size 51 #[y0, y1, y2, y3, y4, y5, y6, y7, y8, y9, y10, y11, y12, y13, y14, y15, y16]) := hi5
  have HC5 : Hid (Chg none_ w4 w5) := ((Chg.refl none_ w4).alloc _).then hc5 fun k hk e => by omega
  clear hi5 hc5
  go_wp2_with fail
  have HCt : Hid (Chg none_ w3 w5) := HC4.out.trans HC5.out
  have HSt : Hid (Sen B A w5) := (R3.out.grow HCt.out).sen
  have hk : nC (n a) (wrC (s a)) ≤ 42 := nC_le (wrC_le _)
  have HGt : Hid (Is w5 g 55 (prV p x n)) := (H2.out.im.chg R3.out.chg fun hk => (H2.out.t a HA.out g hk).2.1 rfl).chg HCt.out fun f => f
  have HSm : Hid (n a = false → nV (n a) (wrN (s a) zs) = wrN (s a) zs) := fun e => by rw [e]; rfl
  generalize nV (n a) (wrN (s a) zs) = v1 at HSm ⊢
  generalize wrN (s a) zs = v2 at HSm ⊢
  by_cases hsm : v1 = v2
  · subst hsm
    go_still_tail 9, (by kernel_rfl)
    still_call ((code_any w5.drew (HSt.out.drewN 1) (nC (n a) (wrC (s a))) hk).mono fun e w' h => ⟨h.1, h.2.symm⟩)
    repeat still_step
    refine still_load_part rfl 51 (.tmp 13) rfl w4.heap.size 0 rfl [y0, y1, y2, y3, y4, y5, y6, y7, y8, y9, y10, y11, y12, y13, y14, y15, y16] HI5.out.dr1 rfl Tryd.underlying51 rfl szSt ?_
    repeat still_step
    refine wpStill_nil ?_
    change wpList _ _ _ _ _ w5.drew
    go_wp2_with fail
    refine (is_both w5.drew HA.out HGt.out.dr1 H2.out.x17 (wrC (s a)) _ (rf17 HY.out.1) (_) (fun e => by simp)).mono ?_
    rintro e w9 ⟨rfl, i1, i2, i3⟩
    have HE := Lib.hid (And.intro i1 (And.intro i2 i3))
    clear i1 i2 i3
    go_wp2
    go_ret
    have hfin := H2.out.step HA.out R3.out HCt.out.drew HE.out.2.2 (fun e => ⟨by rw [e]; rfl, HE.out.1 e⟩) (fun e => ⟨HE.out.2.1 e, by rw [e]; exact HY.out.1.keep HC5.out.drew⟩)
    exact ⟨rfl, hfin.1, (HC2.out.more fun _ _ f => f.elim).trans hfin.2⟩
  · have hd : ((v1 : Int) == (v2 : Int)) = false := by simp; omega
    have hd2 : ¬ (v1 : Int) = (v2 : Int) := by omega
    have hd3 : decide ((v1 : Int) = (v2 : Int)) = false := decide_eq_false hd2
    have HNa : Hid (n a = true) := by
      show n a = true
      cases hna : n a
      · exact absurd (HSm.out hna) hsm
      · rfl
    go_still_tail 9, (by kernel_rfl)
    still_call ((code_any w5.drew (HSt.out.drewN 1) (nC (n a) (wrC (s a))) hk).mono fun e w' h => ⟨h.1, h.2.symm⟩)
    repeat still_step
    refine still_load_part rfl 51 (.tmp 13) rfl w4.heap.size 0 rfl [y0, y1, y2, y3, y4, y5, y6, y7, y8, y9, y10, y11, y12, y13, y14, y15, y16] HI5.out.dr1 rfl Tryd.underlying51 rfl szSt ?_
    repeat still_step
    refine wpStill_nil ?_
    change wpList _ _ _ _ _ w5.drew
    go_wp2_with fail
    refine (is_both w5.drew HA.out HGt.out.dr1 H2.out.x17 (wrC (s a)) _ (rf17 HY.out.1) (_) (fun e => by rw [HNa.out] at e; cases e)).mono ?_
    rintro e w9 ⟨rfl, i1, i2, i3⟩
    have HE := Lib.hid (And.intro i1 (And.intro i2 i3))
    clear i1 i2 i3
    go_wp2
    go_ret
    have hfin := H2.out.step HA.out R3.out HCt.out.drew HE.out.2.2 (fun e => ⟨by rw [e]; rfl, HE.out.1 e⟩) (fun e => ⟨HE.out.2.1 e, by rw [e]; exact HY.out.1.keep HC5.out.drew⟩)
    exact ⟨rfl, hfin.1, (HC2.out.more fun _ _ f => f.elim).trans hfin.2⟩
set_option maxRecDepth 100000 in
set_option maxHeartbeats 4000000 in
theorem calls_read (w : World) {L g : Nat} {T : Nat → Nat → Prop} {p x : Nat → Value} {n : Nat → Bool} {s : Nat → Sm} (h : Pri w L g T p x n s) (hs : Sen B A w) (ht : Tab B w) (hBL : B ≤ L) (xx nn : Int) (A2 : Option Addr) (len cap : Nat) (dl : Int) (fl : Bool) (c0 c1 c2 c3 c4 c5 c6 c7 : Value) {a : Nat} (ha : a < 2) (hbits : bits .and .i64 xx 1 = (a : Int)) (n0 : -9223372036854775808 ≤ nn) (n1 : nn ≤ 9223372036854775807) :
    Calls Tryd.prog 52 #[.pointer (some ⟨g, 0, none⟩), .agg #[.int .i64 5, .int .i64 xx, .int .i64 nn, .slice A2 len cap, .int .u32 dl, .bool fl, c0, c1, c2, c3, c4, c5, c6, c7]] w fun e w' => e = .returned (.bool true) ∧ Inv w' L g ∧ Chg (fun k => L ≤ k) w w' := by
  have H := Lib.hid h
  have HS := Lib.hid (And.intro hs (And.intro ht hBL))
  have HA := Lib.hid ha
  have ha0 : (0 : Int) ≤ (a : Int) := by omega
  have ha2 : (a : Int) < 2 := by omega
  clear h hs ht hBL
  have HX0 := H.out.rf a ha
  obtain ⟨x0, x1, x2, x3, x4, x5, x6, x7, x8, x9, x10, x11, x12, x13, x14, x15, x16, hxa, hx1⟩ := rf_x17 HX0
  have HX : Hid (((prV p x n).toList.drop (2 + a * 17)).take [x0, x1, x2, x3, x4, x5, x6, x7, x8, x9, x10, x11, x12, x13, x14, x15, x16].length = [x0, x1, x2, x3, x4, x5, x6, x7, x8, x9, x10, x11, x12, x13, x14, x15, x16] ∧ [x0, x1, x2, x3, x4, x5, x6, x7, x8, x9, x10, x11, x12, x13, x14, x15, x16].all (·.oneCell') = true) := ⟨by
    have h1 := prV_x (p := p) (n := n) H.out.x17 ha
    rw [hxa] at h1
    exact h1, hx1⟩
  have HXa := Lib.hid hxa
  clear hxa hx1 HX0
  clear ha
  go_enter Tryd.func52, Tryd.ntmps52
  go_wp2_with fail
  obtain ⟨wo, hwo⟩ : ∃ y, w.alloc (.cells #[.int .i64 5, .int .i64 xx, .int .i64 nn, .slice A2 len cap, .int .u32 dl, .bool fl, c0, c1, c2, c3, c4, c5, c6, c7] 45) = y := ⟨_, rfl⟩
  have HIo := Lib.hid (Is.new w 45 #[.int .i64 5, .int .i64 xx, .int .i64 nn, .slice A2 len cap, .int .u32 dl, .bool fl, c0, c1, c2, c3, c4, c5, c6, c7])
  have HCo : Hid (Chg none_ w (w.alloc (.cells #[.int .i64 5, .int .i64 xx, .int .i64 nn, .slice A2 len cap, .int .u32 dl, .bool fl, c0, c1, c2, c3, c4, c5, c6, c7] 45))) := (Chg.refl none_ w).alloc _
  rw [hwo] at HIo HCo ⊢
  clear hwo
  have HIS : Hid (Is wo.drew g 55 (prV p x n)) := (H.out.im.chg HCo.out fun f => f).dr1
  refine wp_region_held_drew (S := fun u => Is u g 55 (prV p x n)) (by kernel_rfl) HIS.out (fun hHeld => ?_)
  refine take_at 29 (i := 0) (v := .pointer (some ⟨g, 0, none⟩)) rfl (by kernel_rfl) (by kernel_rfl) (by kernel_rfl) (by kernel_rfl) (fun _ _ _ h => h) (Or.inl ⟨by kernel_rfl, by intro u hSw; (try dsimp only at hSw); go_simp⟩) (by assumption) ?_
  try simp only [Act.put, List.setIfInBounds_toArray, List.set_cons_zero, List.set_cons_succ]
  refine take_at 30 (i := 1) (v := .int .i64 (a : Int)) rfl (by kernel_rfl) (by kernel_rfl) (by kernel_rfl) (by kernel_rfl) (fun _ _ _ h => h) (Or.inl ⟨by kernel_rfl, by intro u hSw; (try dsimp only at hSw); go_simp⟩) (by assumption) ?_
  try simp only [Act.put, List.setIfInBounds_toArray, List.set_cons_zero, List.set_cons_succ]
  refine take_at 31 (i := 2) (v := .pointer (some ⟨g, 0, none⟩)) rfl (by kernel_rfl) (by kernel_rfl) (by kernel_rfl) (by kernel_rfl) (fun _ _ _ h => h) (Or.inl ⟨by kernel_rfl, by intro u hSw; (try dsimp only at hSw); go_simp⟩) (by assumption) ?_
  try simp only [Act.put, List.setIfInBounds_toArray, List.set_cons_zero, List.set_cons_succ]
  refine take_at 32 (i := 3) (v := .pointer (some ⟨g, 0, none⟩)) rfl (by kernel_rfl) (by kernel_rfl) (by kernel_rfl) (by kernel_rfl) (fun _ _ _ h => h) (Or.inl ⟨by kernel_rfl, by intro u hSw; (try dsimp only at hSw); go_simp⟩) (by assumption) ?_
  try simp only [Act.put, List.setIfInBounds_toArray, List.set_cons_zero, List.set_cons_succ]
  refine take_at 33 (i := 4) (v := .pointer (some ⟨g, a, none⟩)) rfl (by kernel_rfl) (by kernel_rfl) (by kernel_rfl) (by kernel_rfl) (fun _ _ _ h => h) (Or.inl ⟨by kernel_rfl, by intro u hSw; (try dsimp only at hSw); go_simp⟩) (by assumption) ?_
  try simp only [Act.put, List.setIfInBounds_toArray, List.set_cons_zero, List.set_cons_succ]
  refine take_at 34 (i := 5) (v := p a) rfl (by kernel_rfl) (by kernel_rfl) (by kernel_rfl) (by kernel_rfl) (fun _ _ _ h => h) (Or.inl ⟨by kernel_rfl, by intro u hSw; have hc := hSw.at_ a _ (prV_p HA.out); go_simp⟩) (by assumption) ?_
  try simp only [Act.put, List.setIfInBounds_toArray, List.set_cons_zero, List.set_cons_succ]
  refine take_at 35 (i := 6) (v := .pointer (some ⟨g, 0, none⟩)) rfl (by kernel_rfl) (by kernel_rfl) (by kernel_rfl) (by kernel_rfl) (fun _ _ _ h => h) (Or.inl ⟨by kernel_rfl, by intro u hSw; (try dsimp only at hSw); go_simp⟩) (by assumption) ?_
  try simp only [Act.put, List.setIfInBounds_toArray, List.set_cons_zero, List.set_cons_succ]
  refine take_at 36 (i := 7) (v := .int .i64 (a : Int)) rfl (by kernel_rfl) (by kernel_rfl) (by kernel_rfl) (by kernel_rfl) (fun _ _ _ h => h) (Or.inl ⟨by kernel_rfl, by intro u hSw; (try dsimp only at hSw); go_simp⟩) (by assumption) ?_
  try simp only [Act.put, List.setIfInBounds_toArray, List.set_cons_zero, List.set_cons_succ]
  refine take_at 37 (i := 8) (v := .pointer (some ⟨g, 0, none⟩)) rfl (by kernel_rfl) (by kernel_rfl) (by kernel_rfl) (by kernel_rfl) (fun _ _ _ h => h) (Or.inl ⟨by kernel_rfl, by intro u hSw; (try dsimp only at hSw); go_simp⟩) (by assumption) ?_
  try simp only [Act.put, List.setIfInBounds_toArray, List.set_cons_zero, List.set_cons_succ]
  refine take_at 38 (i := 9) (v := .pointer (some ⟨g, 2, none⟩)) rfl (by kernel_rfl) (by kernel_rfl) (by kernel_rfl) (by kernel_rfl) (fun _ _ _ h => h) (Or.inl ⟨by kernel_rfl, by intro u hSw; (try dsimp only at hSw); go_simp⟩) (by assumption) ?_
  try simp only [Act.put, List.setIfInBounds_toArray, List.set_cons_zero, List.set_cons_succ]
  refine take_at 39 (i := 10) (v := .pointer (some ⟨g, 2 + a * 17, none⟩)) rfl (by kernel_rfl) (by kernel_rfl) (by kernel_rfl) (by kernel_rfl) (fun _ _ _ h => h) (Or.inl ⟨by kernel_rfl, by intro u hSw; (try dsimp only at hSw); go_simp⟩) (by assumption) ?_
  try simp only [Act.put, List.setIfInBounds_toArray, List.set_cons_zero, List.set_cons_succ]
  refine take_at 40 (i := 11) (v := .agg #[x0, x1, x2, x3, x4, x5, x6, x7, x8, x9, x10, x11, x12, x13, x14, x15, x16]) rfl (by kernel_rfl) (by kernel_rfl) (by kernel_rfl) (by kernel_rfl) (fun _ _ _ h => h) (Or.inl ⟨by kernel_rfl, fun u hSw => yields_load_part 51 (.tmp 39) rfl g (2 + a * 17) rfl [x0, x1, x2, x3, x4, x5, x6, x7, x8, x9, x10, x11, x12, x13, x14, x15, x16] hSw HX.out.1 Tryd.underlying51 rfl szSt⟩) (by assumption) ?_
  try simp only [Act.put, List.setIfInBounds_toArray, List.set_cons_zero, List.set_cons_succ]
  refine wpAnyH_ready (rs := [12]) (by kernel_rfl) (by simp) ?_
  refine AllReadyH.cons rfl (fun K hK => ?_) AllReadyH.nil
  go_simp
  refine hK.out _ _ (Is.alloc (by assumption) _) (fun hHeld2 => ?_)
  clear hK K
  try simp only [Act.put, List.setIfInBounds_toArray, List.set_cons_zero, List.set_cons_succ]
  refine wpAnyH_ready (rs := [13]) (by kernel_rfl) (by simp) ?_
  refine AllReadyH.cons rfl (fun K hK => ?_) AllReadyH.nil
  go_simp
  refine hK.out _ _ (by assumption) (fun hHeld3 => ?_)
  clear hK K
  try simp only [Act.put, List.setIfInBounds_toArray, List.set_cons_zero, List.set_cons_succ]
  refine wpAnyH_ready (rs := [14]) (by kernel_rfl) (by simp) ?_
  refine AllReadyH.cons rfl (fun K hK => ?_) AllReadyH.nil
  refine step_store_part rfl 51 (.tmp 7) (.tmp 40) rfl wo.heap.size 0 rfl (.agg #[x0, x1, x2, x3, x4, x5, x6, x7, x8, x9, x10, x11, x12, x13, x14, x15, x16]) rfl [x0, x1, x2, x3, x4, x5, x6, x7, x8, x9, x10, x11, x12, x13, x14, x15, x16] (Is.new wo.drew _ _) rfl (Nat.le_refl 17) HX.out.2 szSt _ rfl ?_
  intro w2 hi2 hc2
  have HCr : Hid (Chg none_ wo w2) := ((Chg.refl none_ wo).drew.alloc _).then hc2 fun k hk e => by omega
  refine hK.out _ _ (hHeld.chg (((Chg.refl none_ wo.drew).alloc _).then hc2 fun k hk e => absurd hk (by subst e; exact Nat.lt_irrefl _)) fun f => f) (fun _ => ?_)
  clear hK K
  try simp only [Act.put, List.setIfInBounds_toArray, List.set_cons_zero, List.set_cons_succ]
  refine wpAnyH_done (by kernel_rfl) ?_ _
  have HIr2 : Hid (Is w2 wo.heap.size 51 #[x0, x1, x2, x3, x4, x5, x6, x7, x8, x9, x10, x11, x12, x13, x14, x15, x16]) := hi2
  have HIo2 := Lib.hid (HIo.out.chg HCr.out fun f => f)
  have HC2 : Hid (Chg none_ w w2) := HCo.out.trans HCr.out
  have HRo : Hid (w.heap.size < wo.heap.size ∧ wo.heap.size < w2.heap.size) := ⟨HIo.out.lt, HIr2.out.lt⟩
  have H2 := Lib.hid (H.out.keep HC2.out)
  have HT : Hid (∀ k, T a k → k < w.heap.size) := fun k hk => (H.out.t a HA.out k hk).2.2
  have HBw : Hid (B ≤ w.heap.size) := Nat.le_trans HS.out.2.2 (Nat.le_trans H.out.hL (Nat.le_of_lt H.out.im.lt))
  have HS2 : Hid (Sen B A w2 ∧ Tab B w2) := ⟨HS.out.1.below (HC2.out.old HBw.out), HS.out.2.1.below (HC2.out.old HBw.out)⟩
  have R2 : Hid (Rn B A w2 w2 (T a) (n a) (p a) (s a)) := Rn.init HS2.out.1 HS2.out.2 (Nat.le_trans HBw.out HC2.out.size) (fun k hk => Nat.le_trans HS.out.2.2 (H2.out.t a HA.out k hk).1) (H2.out.nil a HA.out) (H2.out.sl a HA.out)
  clear hHeld hHeld2 hHeld3 hi2 hc2 HIo HIS HCr HCo
  have HN := Lib.hid (And.intro n0 n1)
  clear n0 n1
  have hf0 : w2.cell? ⟨w.heap.size, 0, none⟩ = some (.int .i64 5) := HIo2.out.at_ 0 _ rfl
  have hf2 : w2.cell? ⟨w.heap.size, 2, none⟩ = some (.int .i64 nn) := HIo2.out.at_ 2 _ rfl
  have hby := (H2.out.rf a HA.out).byt
  go_wp2_with fail
  refine (rn_read R2.out hby nn HN.out.1 HN.out.2).mono ?_
  rintro e w3 ⟨A4, n4, k4, rfl, hb4, hr4, r3⟩
  have R3 := Lib.hid r3
  have HV := Lib.hid (And.intro hb4 hr4)
  clear r3 hb4 hr4 hby
  have HIr3 := Lib.hid (HIr2.out.chg R3.out.chg fun hk => by have := HT.out _ hk; have := HRo.out; omega)
  have HIo3 := Lib.hid (HIo2.out.chg R3.out.chg fun hk => by have := HT.out _ hk; have := HRo.out; omega)
  clear HIr2 HIo2 hf2
  have hf := H2.out.us R3.out.chg HA.out
  have HUN := Lib.hid (H2.out.usN R3.out.chg H2.out.im.lt)
  rw [HXa.out] at hf
  have HF := Lib.hid hf
  clear hf
  have hf2 : w3.cell? ⟨w.heap.size, 2, none⟩ = some (.int .i64 nn) := HIo3.out.at_ 2 _ rfl
  go_wp2_with (refine wpList_load_part rfl 51 (.tmp 7) rfl wo.heap.size 0 rfl [x0, x1, x2, x3, x4, x5, x6, x7, x8, x9, x10, x11, x12, x13, x14, x15, x16] HIr3.out rfl Tryd.underlying51 rfl szSt ?_)
  refine (m_read HF.out HUN.out nn).mono ?_
  rintro e w4 ⟨y, A5, n5, k5, rfl, hb5, hr5, hy, c4⟩
  have HV5 := Lib.hid (And.intro hb5 hr5)
  clear hb5 hr5
  obtain ⟨y0, y1, y2, y3, y4, y5, y6, y7, y8, y9, y10, y11, y12, y13, y14, y15, y16, rfl, hy1⟩ := rf_x17 hy
  have HY := Lib.hid (And.intro hy hy1)
  have HC4 := Lib.hid c4
  clear hy hy1 c4
  go_wp2_with (refine wpList_store_part rfl 51 (.tmp 22) (.tmp 116) rfl w4.heap.size 0 rfl (.agg #[y0, y1, y2, y3, y4, y5, y6, y7, y8, y9, y10, y11, y12, y13, y14, y15, y16]) rfl [y0, y1, y2, y3, y4, y5, y6, y7, y8, y9, y10, y11, y12, y13, y14, y15, y16] (Is.new w4 _ _) rfl (Nat.le_refl 17) HY.out.2 szSt _ rfl ?_)
  intro w5 hi5 hc5
  have HI5 : Hid (Is w5 w4.heap.size 51 #[y0, y1, y2, y3, y4, y5, y6, y7, y8, y9, y10, y11, y12, y13, y14, y15, y16]) := hi5
  have HC5 : Hid (Chg none_ w4 w5) := ((Chg.refl none_ w4).alloc _).then hc5 fun k hk e => by omega
  clear hi5 hc5
  go_wp2_with fail
  have HCt : Hid (Chg none_ w3 w5) := HC4.out.trans HC5.out
  have HSt : Hid (Sen B A w5) := (R3.out.grow HCt.out).sen
  have hk : nC (n a) (rtC (s a) nn) ≤ 42 := nC_le (rtC_le _ _)
  have HGt : Hid (Is w5 g 55 (prV p x n)) := (H2.out.im.chg R3.out.chg fun hk => (H2.out.t a HA.out g hk).2.1 rfl).chg HCt.out fun f => f
  obtain ⟨q1, q2, q3, q4⟩ := bso_fact ((HV.out.1.chg (HCt.out.drew) fun k hk => ⟨(HV.out.2 k hk).2, fun f => f⟩))
  obtain ⟨q5, q6, q7, q8⟩ := bso_fact ((HV5.out.1.chg (HC5.out.drew) fun k hk => ⟨(HV5.out.2 k hk).2, fun f => f⟩))
  have HQ := Lib.hid (And.intro q1 (And.intro q3 (And.intro q4 (And.intro q5 (And.intro q7 q8)))))
  clear q1 q2 q3 q4 q5 q6 q7 q8
  have HSm : Hid (n a = false → nL (n a) (List.take (rtN (s a) nn) (s a).un) = List.take (rtN (s a) nn) (s a).un ∧ nG (n a) (rtG (s a) nn) = rtG (s a) nn) := fun e => by rw [e]; exact ⟨rfl, rfl⟩
  generalize nL (n a) (List.take (rtN (s a) nn) (s a).un) = us at HQ HSm
  generalize List.take (rtN (s a) nn) (s a).un = vs at HQ HSm
  generalize nG (n a) (rtG (s a) nn) = gg at HSm ⊢
  generalize rtG (s a) nn = gh at HSm ⊢
  by_cases hsm : us = vs
  · have hd : decide (us = vs) = true := decide_eq_true hsm
    go_still_tail 14, (by kernel_rfl)
    still_call ((code_any w5.drew (HSt.out.drewN 1) (nC (n a) (rtC (s a) nn)) hk).mono fun e w' h => ⟨h.1, h.2.symm⟩)
    repeat still_step
    refine still_load_part rfl 51 (.tmp 22) rfl w4.heap.size 0 rfl [y0, y1, y2, y3, y4, y5, y6, y7, y8, y9, y10, y11, y12, y13, y14, y15, y16] HI5.out.dr1 rfl Tryd.underlying51 rfl szSt ?_
    repeat still_step
    still_call ((sbytes_any w5.drew A4 A5 n4 k4 n5 k5 us vs HQ.out.1 HQ.out.2.2.2.1 HQ.out.2.1 HQ.out.2.2.2.2.1 HQ.out.2.2.1 HQ.out.2.2.2.2.2).mono fun e w' h => ⟨h.1.trans (by rw [hd]), h.2.symm⟩)
    repeat still_step
    refine wpStill_nil ?_
    change wpList _ _ _ _ _ w5.drew
    go_wp2_with fail
    refine (is_both w5.drew HA.out HGt.out.dr1 H2.out.x17 (rtC (s a) nn) _ (rf17 HY.out.1) (_) (fun e => by simp [(HSm.out e).2])).mono ?_
    rintro e w9 ⟨rfl, i1, i2, i3⟩
    have HE := Lib.hid (And.intro i1 (And.intro i2 i3))
    clear i1 i2 i3
    go_wp2
    go_ret
    have hfin := H2.out.step HA.out R3.out HCt.out.drew HE.out.2.2 (fun e => ⟨by rw [e]; rfl, HE.out.1 e⟩) (fun e => ⟨HE.out.2.1 e, by rw [e]; exact HY.out.1.keep HC5.out.drew⟩)
    exact ⟨rfl, hfin.1, (HC2.out.more fun _ _ f => f.elim).trans hfin.2⟩
  · have hd : decide (us = vs) = false := decide_eq_false hsm
    have HNa : Hid (n a = true) := by
      show n a = true
      cases hna : n a
      · exact absurd (HSm.out hna).1 hsm
      · rfl
    go_still_tail 14, (by kernel_rfl)
    still_call ((code_any w5.drew (HSt.out.drewN 1) (nC (n a) (rtC (s a) nn)) hk).mono fun e w' h => ⟨h.1, h.2.symm⟩)
    repeat still_step
    refine still_load_part rfl 51 (.tmp 22) rfl w4.heap.size 0 rfl [y0, y1, y2, y3, y4, y5, y6, y7, y8, y9, y10, y11, y12, y13, y14, y15, y16] HI5.out.dr1 rfl Tryd.underlying51 rfl szSt ?_
    repeat still_step
    still_call ((sbytes_any w5.drew A4 A5 n4 k4 n5 k5 us vs HQ.out.1 HQ.out.2.2.2.1 HQ.out.2.1 HQ.out.2.2.2.2.1 HQ.out.2.2.1 HQ.out.2.2.2.2.2).mono fun e w' h => ⟨h.1.trans (by rw [hd]), h.2.symm⟩)
    repeat still_step
    refine wpStill_nil ?_
    change wpList _ _ _ _ _ w5.drew
    go_wp2_with fail
    refine (is_both w5.drew HA.out HGt.out.dr1 H2.out.x17 (rtC (s a) nn) _ (rf17 HY.out.1) (_) (fun e => by rw [HNa.out] at e; cases e)).mono ?_
    rintro e w9 ⟨rfl, i1, i2, i3⟩
    have HE := Lib.hid (And.intro i1 (And.intro i2 i3))
    clear i1 i2 i3
    go_wp2
    go_ret
    have hfin := H2.out.step HA.out R3.out HCt.out.drew HE.out.2.2 (fun e => ⟨by rw [e]; rfl, HE.out.1 e⟩) (fun e => ⟨HE.out.2.1 e, by rw [e]; exact HY.out.1.keep HC5.out.drew⟩)
    exact ⟨rfl, hfin.1, (HC2.out.more fun _ _ f => f.elim).trans hfin.2⟩
end
end Go.Proofs.YthalmjjbamglgaaDoor
