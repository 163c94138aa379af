/-
  stream.Frame by contract.
  No condition of its own: the facts 'Sen' and 'Tab' on the world.
-/
import Derived.Test.YthalmjjbamglgaaDoorStr5
namespace Go.Proofs.YthalmjjbamglgaaDoor
open Go.RowKit

section
variable {B : Nat} {a : Nat → Addr}
theorem spS_W (s : Cr) (n : Int) : (spS s n).W = s.W := by
  unfold spS
  split <;> rfl
def frV (fl : Int) (id : Int) (k : Nat) (v : Value) : Value := .agg #[.int .u8 0, .int .u8 0, .int .u16 fl, .int .u32 id, .int .u32 (k : Int), v]
def frZ : Value := .agg #[.int .u8 0, .int .u8 0, .int .u16 0, .int .u32 0, .int .u32 0, .slice none 0 0]
/-- How many bytes the next frame bears. -/
def frK (s : Sm) : Nat := Nat.min (Nat.min s.frame s.cr.h.toNat) s.sg.length
def frE (s : Sm) : Bool := s.cl && decide (s.sg.length ≤ frK s)
def frS (s : Sm) : Sm := { s with sg := s.sg.drop (frK s), cr := spS s.cr (frK s), lo := s.lo || frE s }
theorem sframe_no (w : World) (hs : Sen B a w) (hB : B ≤ w.heap.size) {T : Nat → Prop} {g : Nat} {s : Sm} (h : Pst w T g s) (hr : rdyB s = false) :
    Calls Tryd.prog 29 #[.pointer (some ⟨g, 0, none⟩)] w fun e w' => e = .returned (.tuple #[frZ, .bool false]) ∧ Pst w' T g s ∧ Chg none_ w w' := by
  obtain ⟨S1, S2, g1, g2, g3, g4, hp⟩ := h
  have HP := Lib.hid hp
  have HS := Lib.hid hs
  have HR := Lib.hid hr
  have HB := Lib.hid hB
  clear hp hs hr hB
  go_enter Tryd.func29, Tryd.ntmps29
  go_wp2_with fail
  refine (sready_any _ (HS.out.below (((Chg.refl none_ w).alloc _).old HB.out)) ⟨S1, S2, g1, g2, g3, g4, HP.out.keep ((Chg.refl none_ w).alloc _)⟩).mono ?_
  rintro e w' ⟨rfl, rfl⟩
  rw [HR.out]
  go_wp2
  go_returns
  exact ⟨rfl, ⟨S1, S2, g1, g2, g3, g4, HP.out.keep ((Chg.refl none_ w).alloc _)⟩, (Chg.refl none_ w).alloc _⟩
theorem rdy_lo {s : Sm} (h : rdyB s = true) : s.lo = false ∧ s.rs = false := by
  unfold rdyB at h
  rcases barC_cases s with ⟨hb, hr, _⟩ | ⟨hb, _⟩ | ⟨hb, _, _⟩
  · refine ⟨?_, hr⟩
    cases hl : s.lo with
    | false => rfl
    | true =>
      rw [if_pos hb, hl, Bool.not_true, Bool.and_false, if_neg (by decide)] at h
      cases h
  · rw [if_neg (by rw [hb]; decide)] at h
    cases h
  · rw [if_neg (by rw [hb]; decide)] at h
    cases h
theorem fr_end {w W FW : World} {T T0 S1 S2 : Nat → Prop} {g g1 g2 g3 g4 rb lo k : Nat} {s' : Sm} {v : Value} {xs : List Value} (hT : ∀ q, T0 q → T q ∧ q < rb) (hrb : w.heap.size = rb) (hp : Pso W T0 S1 S2 g g1 g2 g3 g4 s') (hc : Chg T0 w W) (ho : Ob W lo 5 v k xs) (hlo : rb < lo) (hf : Chg (fun q => q = rb) W FW) :
    Ob FW rb 5 v k xs ∧ Pst FW T g s' ∧ Chg T w FW := by
  refine ⟨(ho.chg hf fun q hq e => by have := (ho.block q hq).1; omega).low fun q hq => by have := (ho.block q hq).1; omega, ⟨S1, S2, g1, g2, g3, g4, ?_⟩, (hc.more fun q _ h => (hT q h).1).then hf fun q hq e => by omega⟩
  have h := hp.chg hf fun q hq _ e => by have := (hT q hq).2; omega
  exact h.wide (fun q hq => (hT q (h.d1 q hq).2.2.2.2.1).1) (fun q hq => (hT q (h.d2 q hq).2.2.2.1).1) (hT _ h.d3.2.2.2.1).1 (hT _ h.d3.2.2.2.2.1).1 (hT _ h.d3.2.2.2.2.2.1).1
set_option maxRecDepth 100000 in
set_option maxHeartbeats 4000000 in
theorem sframe_yes (w : World) (hs : Sen B a w) (ht : Tab B w) (hB : B ≤ w.heap.size) {T : Nat → Prop} {g : Nat} {s : Sm} (h : Pst w T g s) (hTB : ∀ k, T k → B ≤ k) (hr : rdyB s = true) :
    Calls Tryd.prog 29 #[.pointer (some ⟨g, 0, none⟩)] w fun e w' => ∃ v, e = .returned (.tuple #[frV (if frE s then 4 else 0) s.id (frK s) v, .bool true]) ∧ Ob w' w.heap.size 5 v (frK s) (u8s (s.sg.take (frK s))) ∧ Pst w' T g (frS s) ∧ Chg T w w' := by
  obtain ⟨S1, S2, g1, g2, g3, g4, hp⟩ := h
  obtain ⟨T0, hT0⟩ : ∃ T0 : Nat → Prop, (fun k => T k ∧ k < w.heap.size) = T0 := ⟨_, rfl⟩
  have hT0a : ∀ k, T0 k → T k ∧ k < w.heap.size := fun k hk => by rw [← hT0] at hk; exact hk
  replace hp : Pso w T0 S1 S2 g g1 g2 g3 g4 s := by
    rw [← hT0]
    exact hp.wide (fun k hk => (hp.d1 k hk).2.2.2.2) (fun k hk => (hp.d2 k hk).2.2.2) ⟨hp.d3.2.2.2.1, hp.d3.2.2.2.2.2.2.1⟩ ⟨hp.d3.2.2.2.2.1, hp.d3.2.2.2.2.2.2.2.1⟩ ⟨hp.d3.2.2.2.2.2.1, hp.d3.2.2.2.2.2.2.2.2⟩
  have HTB := Lib.hid (And.intro (fun k hk => hTB k (hT0a k hk).1 : ∀ k, T0 k → B ≤ k) hT0a)
  clear hT0 hT0a
  obtain ⟨w0, hw0⟩ : ∃ w0, w.alloc (.cells #[.int .u8 0, .int .u8 0, .int .u16 0, .int .u32 0, .int .u32 0, .slice none 0 0] 72) = w0 := ⟨_, rfl⟩
  have hc0 : Chg none_ w w0 := by rw [← hw0]; exact (Chg.refl none_ w).alloc _
  have HC0 := Lib.hid hc0
  have HR0 : Hid (Is w0 w.heap.size 72 #[.int .u8 0, .int .u8 0, .int .u16 0, .int .u32 0, .int .u32 0, .slice none 0 0]) := by show Is _ _ _ _; rw [← hw0]; exact Is.new w _ _
  have hp0 := hp.keep hc0
  have HP := Lib.hid hp0
  have HS : Hid (Sen B a w0) := hs.below (hc0.old hB)
  have HT : Hid (Tab B w0) := ht.below (hc0.old hB)
  have HB : Hid (B ≤ w0.heap.size) := Nat.le_trans hB hc0.size
  have HR := Lib.hid hr
  have c3 : ∀ Q, (w0.drewN Q).cell? ⟨g, 3, none⟩ = some (.int .i64 (s.frame : Int)) := fun Q => hp0.im.at_ 3 _ rfl
  have c5 : ∀ Q, (w0.drewN Q).cell? ⟨g, 5, none⟩ = some (.pointer (some ⟨g1, 0, none⟩)) := fun Q => hp0.im.at_ 5 _ rfl
  have c8 : ∀ Q, (w0.drewN Q).cell? ⟨g, 8, none⟩ = some (.pointer (some ⟨g3, 0, none⟩)) := fun Q => hp0.im.at_ 8 _ rfl
  have d3 : w0.cell? ⟨g, 3, none⟩ = some (.int .i64 (s.frame : Int)) := hp0.im.at_ 3 _ rfl
  have d5 : w0.cell? ⟨g, 5, none⟩ = some (.pointer (some ⟨g1, 0, none⟩)) := hp0.im.at_ 5 _ rfl
  have d8 : w0.cell? ⟨g, 8, none⟩ = some (.pointer (some ⟨g3, 0, none⟩)) := hp0.im.at_ 8 _ rfl
  obtain ⟨hh, hhe⟩ : ∃ hh : Nat, s.cr.h = (hh : Int) := ⟨s.cr.h.toNat, by have := hp.ok.cr.h0; omega⟩
  obtain ⟨fr, hfr⟩ : ∃ fr, s.frame = fr := ⟨_, rfl⟩
  obtain ⟨mm, hmm⟩ : ∃ mm, Nat.min fr hh = mm := ⟨_, rfl⟩
  have hmI : (if hh < fr then (hh : Int) else (fr : Int)) = (mm : Int) := by
    obtain ⟨e1, e2, e3⟩ := nat_min hmm.symm
    split <;> omega
  have hmI2 : (if (hh : Int) < (fr : Int) then (hh : Int) else (fr : Int)) = (mm : Int) := by
    obtain ⟨e1, e2, e3⟩ := nat_min hmm.symm
    split <;> omega
  have hh31 : hh ≤ 2147483647 := by have := hp.ok.cr.h1; have := hp.ok.cr.W2; omega
  have HH := Lib.hid (And.intro hhe (And.intro hfr hmm))
  rw [hfr] at c3 d3
  clear hp hp0 hs ht hB hr hTB hhe hfr hmm hc0
  obtain ⟨fl, hfl⟩ : ∃ fl : Int, (if frE s = true then 4 else 0) = fl := ⟨_, rfl⟩
  have HFl := Lib.hid hfl
  rw [hfl]
  clear hfl
  go_enter Tryd.func29, Tryd.ntmps29
  go_wp2_with fail
  clear hw0
  refine (sready_any w0 HS.out ⟨S1, S2, g1, g2, g3, g4, HP.out⟩).mono ?_
  rintro e w' ⟨rfl, rfl⟩
  rw [HR.out]
  go_wp2_with fail
  go_still_tail 15, (by kernel_rfl)
  have hhav := (crhave_any w0.drew _ _ (HP.out.cd.keep ((Chg.refl none_ w0).drew)))
  rw [HH.out.1] at hhav
  still_call (hhav.mono fun e w' h => ⟨h.1, h.2.symm⟩)
  clear hhav
  repeat still_step
  try refine wpStill_nil ?_
  have hwr : IntKind.i64.wrap (hh : Int) = (hh : Int) := IntWalk.i64_in _ (by omega)
  simp only [hwr, hmI2]
  change wpList _ _ _ _ _ w0.drew
  obtain ⟨w1, hw1⟩ : ∃ w1, w0.drew = w1 := ⟨_, rfl⟩
  have HC1 : Hid (Chg none_ w0 w1) := by show Chg _ _ _; rw [← hw1]; exact (Chg.refl none_ w0).drew
  have HP1 := Lib.hid (HP.out.keep HC1.out)
  rw [hw1]
  clear hw1
  go_wp2_with fail
  obtain ⟨k, hk⟩ : ∃ k, Nat.min mm s.sg.length = k := ⟨_, rfl⟩
  have hkf : frK s = k := by
    unfold frK
    rw [HH.out.2.1, ← hk, ← HH.out.2.2]
    have : s.cr.h.toNat = hh := by rw [HH.out.1]; rfl
    rw [this]
  obtain ⟨e1, e2, e3⟩ := nat_min hk.symm
  have hmh : mm ≤ hh ∧ mm ≤ fr := by obtain ⟨x1, x2, _⟩ := nat_min HH.out.2.2.symm; exact ⟨x2, x1⟩
  refine (pop_any w1 HP1.out.r1 (fun q hq => (HP1.out.d1 q hq).2.2.2.2.2) mm).mono ?_
  rintro e w2 ⟨v, rfl, j1, j2, j3⟩
  rw [hk] at j1 j2
  obtain ⟨A, c, rfl, hkc, _⟩ := j1.slice
  have hp2 := HP1.out.ring1' j2 j3
  have HP2 := Lib.hid hp2
  have J1 := Lib.hid j1
  have HC2 : Hid (Chg T0 w w2) := ((HC0.out.trans HC1.out).more fun _ _ f => f.elim).then j3 fun q _ h => (HP1.out.d1 q h).2.2.2.2.1
  have HS2 : Hid (Sen B a w2 ∧ Tab B w2 ∧ B ≤ w2.heap.size) := by
    have hbl := ((HC1.out.more fun _ _ f => f.elim).then j3 fun q _ h => (HP1.out.d1 q h).2.2.2.2.1 : Chg T0 w0 w2).below (fun q _ h => HTB.out.1 q h) HB.out
    exact ⟨HS.out.below hbl, HT.out.below hbl, by have := HC1.out.size; have := j3.size; have := HB.out; omega⟩
  have HR2 : Hid (Is w2 w.heap.size 72 #[.int .u8 0, .int .u8 0, .int .u16 0, .int .u32 0, .int .u32 0, .slice none 0 0]) := (HR0.out.chg HC1.out fun f => f).chg j3 fun h => by have := (HTB.out.2 _ (HP1.out.d1 _ h).2.2.2.2.1).2; omega
  have b8 : w2.cell? ⟨g, 8, none⟩ = some (.pointer (some ⟨g3, 0, none⟩)) := hp2.im.at_ 8 _ rfl
  have HK := Lib.hid (And.intro hkf (And.intro e2 (And.intro hmh.1 hmh.2)))
  have hk31 : k ≤ 65536 := by have := HP.out.ok.f2; have := HH.out.2.1; omega
  have hw2 : w.heap.size ≤ w1.heap.size := by have := HC0.out.size; have := HC1.out.size; omega
  have HW2 := Lib.hid hw2
  have HW3 : Hid (w1.heap.size ≤ w2.heap.size ∧ w.heap.size < w0.heap.size) := ⟨j3.size, HR0.out.lt⟩
  have hsp : spC s.cr k = 0 := by
    have hW : s.cr.W ≠ 0 := by have := HP.out.ok.cr.W1; omega
    unfold spC
    rw [if_neg hW]
    have := HH.out.1
    split <;> first | omega | (split <;> first | omega | rfl | (split <;> first | omega | rfl))
  have HSp := Lib.hid hsp
  clear hk hkf e1 e2 e3 hmh j1 j2 j3 hp2 hw2 hsp c3 c5 c8 d3 d5 d8
  go_wp2_with fail
  refine (spend_any w2 HS2.out.1 _ s.cr HP2.out.cd k).mono ?_
  rintro e w3 ⟨rfl, l1, l2⟩
  rw [HSp.out, show errv a 0 = Value.nilIface from rfl]
  have hp3 := HP2.out.credit (spS s.cr k) l1 l2 ⟨HP.out.ok.id1, HP.out.ok.id2, HP.out.ok.f1, HP.out.ok.f2, HP.out.ok.g2, spS_ok HP.out.ok.cr k, HP.out.ok.gr, by show (spS s.cr k).W = _; rw [spS_W]; exact HP.out.ok.W, HP.out.ok.un⟩
  have HP3 := Lib.hid hp3
  have ha : ∀ q, at_ (some ⟨g3, 0, none⟩) q → q = g3 := fun q ⟨x, hq, hb⟩ => by cases hq; exact hb
  have HC3 : Hid (Chg T0 w w3) := HC2.out.then l2 fun q _ h => by rw [ha q h]; exact HP.out.d3.2.2.2.2.1
  have hg3 := (HTB.out.2 _ HP.out.d3.2.2.2.2.1).2
  have HR3 : Hid (Is w3 w.heap.size 72 #[.int .u8 0, .int .u8 0, .int .u16 0, .int .u32 0, .int .u32 0, .slice none 0 0]) := HR2.out.chg l2 fun h => by rw [ha _ h] at hg3; omega
  have J3 : Hid (Ob w3 w1.heap.size 5 (.slice A k c) k (u8s (s.sg.take k))) := J1.out.chg l2 fun q hq h => by rw [ha q h] at hq; have := (J1.out.block _ hq).1; have := HW2.out; omega
  have HS3 : Hid (Sen B a w3 ∧ Tab B w3 ∧ B ≤ w3.heap.size) := by
    have hbl := l2.below (fun q _ h => by rw [ha q h]; exact HTB.out.1 _ HP.out.d3.2.2.2.2.1) HS2.out.2.2
    exact ⟨HS2.out.1.below hbl, HS2.out.2.1.below hbl, by have := l2.size; have := HS2.out.2.2; omega⟩
  have HZ3 : Hid (w2.heap.size ≤ w3.heap.size) := l2.size
  have a0 : w3.cell? ⟨g, 0, none⟩ = some (.int .u32 s.id) := hp3.im.at_ 0 _ rfl
  have a5 : w3.cell? ⟨g, 5, none⟩ = some (.pointer (some ⟨g1, 0, none⟩)) := hp3.im.at_ 5 _ rfl
  have a6 : w3.cell? ⟨g, 6, none⟩ = some (.bool s.cl) := hp3.im.at_ 6 _ rfl
  clear l1 l2 hp3 ha hg3 b8
  obtain ⟨w4, hw4⟩ : ∃ y, w3.alloc (.cells #[.int .u8 0, .int .u8 0, .int .u16 0, .int .u32 s.id, .int .u32 (k : Int), .slice A k c] 72) = y := ⟨_, rfl⟩
  obtain ⟨b5, hb5⟩ : ∃ g, w3.heap.size = g := ⟨_, rfl⟩
  have HC4 : Hid (Chg none_ w3 w4) := by show Chg _ _ _; rw [← hw4]; exact (Chg.refl none_ w3).alloc _
  have HI4 : Hid (Is w4 b5 72 #[.int .u8 0, .int .u8 0, .int .u16 0, .int .u32 s.id, .int .u32 (k : Int), .slice A k c]) := by show Is _ _ _ _; rw [← hw4, ← hb5]; exact Is.new w3 _ _
  have HB5 : Hid (w3.heap.size = b5 ∧ w.heap.size < b5) := ⟨hb5, by have := HR3.out.lt; omega⟩
  have HR4 : Hid (Is w4 w.heap.size 72 #[.int .u8 0, .int .u8 0, .int .u16 0, .int .u32 0, .int .u32 0, .slice none 0 0]) := HR3.out.chg HC4.out fun f => f
  have HP4 := Lib.hid (HP3.out.keep HC4.out)
  have J4 : Hid (Ob w4 w1.heap.size 5 (.slice A k c) k (u8s (s.sg.take k))) := J3.out.chg HC4.out fun _ _ f => f
  have HCw4 : Hid (Chg T0 w w4) := HC3.out.trans (HC4.out.more fun _ _ f => f.elim)
  have HS4 : Hid (Sen B a w4 ∧ Tab B w4 ∧ B ≤ w4.heap.size) := ⟨HS3.out.1.below (HC4.out.old HS3.out.2.2), HS3.out.2.1.below (HC4.out.old HS3.out.2.2), Nat.le_trans HS3.out.2.2 HC4.out.size⟩
  have x5 : w4.cell? ⟨g, 5, none⟩ = some (.pointer (some ⟨g1, 0, none⟩)) := HP4.out.im.at_ 5 _ rfl
  have x6 : w4.cell? ⟨g, 6, none⟩ = some (.bool s.cl) := HP4.out.im.at_ 6 _ rfl
  obtain ⟨rb, hrb⟩ : ∃ rb, w.heap.size = rb := ⟨_, rfl⟩
  have HRb := Lib.hid hrb
  have y0 : w4.cell? ⟨b5, 0, none⟩ = some (.int .u8 0) := HI4.out.at_ 0 _ rfl
  have y1 : w4.cell? ⟨b5, 1, none⟩ = some (.int .u8 0) := HI4.out.at_ 1 _ rfl
  have y2 : w4.cell? ⟨b5, 2, none⟩ = some (.int .u16 0) := HI4.out.at_ 2 _ rfl
  have y3 : w4.cell? ⟨b5, 3, none⟩ = some (.int .u32 s.id) := HI4.out.at_ 3 _ rfl
  have y4 : w4.cell? ⟨b5, 4, none⟩ = some (.int .u32 (k : Int)) := HI4.out.at_ 4 _ rfl
  have y5 : w4.cell? ⟨b5, 5, none⟩ = some (.slice A k c) := HI4.out.at_ 5 _ rfl
  rw [hrb] at HR4
  have z0 : w4.cell? ⟨rb, 0, none⟩ = some (.int .u8 0) := HR4.out.at_ 0 _ rfl
  have z1 : w4.cell? ⟨rb, 1, none⟩ = some (.int .u8 0) := HR4.out.at_ 1 _ rfl
  have z2 : w4.cell? ⟨rb, 2, none⟩ = some (.int .u16 0) := HR4.out.at_ 2 _ rfl
  have z3 : w4.cell? ⟨rb, 3, none⟩ = some (.int .u32 0) := HR4.out.at_ 3 _ rfl
  have z4 : w4.cell? ⟨rb, 4, none⟩ = some (.int .u32 0) := HR4.out.at_ 4 _ rfl
  have z5 : w4.cell? ⟨rb, 5, none⟩ = some (.slice none 0 0) := HR4.out.at_ 5 _ rfl
  have q0 : w4.frozen? ⟨rb, 0, none⟩ = false := HR4.out.frozen 0
  have q1 : w4.frozen? ⟨rb, 1, none⟩ = false := HR4.out.frozen 1
  have q2 : w4.frozen? ⟨rb, 2, none⟩ = false := HR4.out.frozen 2
  have q3 : w4.frozen? ⟨rb, 3, none⟩ = false := HR4.out.frozen 3
  have q4 : w4.frozen? ⟨rb, 4, none⟩ = false := HR4.out.frozen 4
  have q5 : w4.frozen? ⟨rb, 5, none⟩ = false := HR4.out.frozen 5
  clear a5 a6
  cases hcl : s.cl with
  | false =>
    rw [hcl] at x6
    have eE : frE s = false := by unfold frE; rw [hcl]; rfl
    have HE := Lib.hid eE
    have eS : frS s = { s with sg := s.sg.drop k, cr := spS s.cr k } := by
      unfold frS
      rw [HK.out.1, eE, Bool.or_false]
    have HES := Lib.hid eS
    have HEnd : Hid (∀ FW, Chg (fun q => q = rb) w4 FW → Ob FW rb 5 (.slice A k c) k (u8s (s.sg.take k)) ∧ Pst FW T g (frS s) ∧ Chg T w FW) := fun FW hf => by
      rw [HES.out]
      exact fr_end (fun q hq => ⟨(HTB.out.2 q hq).1, by have := (HTB.out.2 q hq).2; have := HRb.out; omega⟩) HRb.out HP4.out HCw4.out J4.out (by have := HW3.out; have := HC1.out.size; have := HRb.out; omega) hf
    clear hcl eE eS
    have HF0 : Hid (fl = 0) := by show _ = _; rw [← HFl.out, HE.out]; rfl
    obtain ⟨FW, hFW⟩ : ∃ y, ((((((w4.setCell ⟨rb, 0, none⟩ (.int .u8 0)).setCell ⟨rb, 1, none⟩ (.int .u8 0)).setCell ⟨rb, 2, none⟩ (.int .u16 0)).setCell ⟨rb, 3, none⟩ (.int .u32 s.id)).setCell ⟨rb, 4, none⟩ (.int .u32 (k : Int))).setCell ⟨rb, 5, none⟩ (.slice A k c)) = y := ⟨_, rfl⟩
    have hIF : Is FW rb 72 #[.int .u8 0, .int .u8 0, .int .u16 0, .int .u32 s.id, .int .u32 (k : Int), .slice A k c] := by rw [← hFW]; exact ((((((HR4.out.put 0 _).put 1 _).put 2 _).put 3 _).put 4 _).put 5 _)
    have HCF : Hid (Chg (fun q => q = rb) w4 FW) := by show Chg _ _ _; rw [← hFW]; exact (((((((Chg.refl (fun q => q = rb) w4).setCell (p := ⟨rb, 0, none⟩) (fun _ => rfl) _).setCell (p := ⟨rb, 1, none⟩) (fun _ => rfl) _).setCell (p := ⟨rb, 2, none⟩) (fun _ => rfl) _).setCell (p := ⟨rb, 3, none⟩) (fun _ => rfl) _).setCell (p := ⟨rb, 4, none⟩) (fun _ => rfl) _).setCell (p := ⟨rb, 5, none⟩) (fun _ => rfl) _)
    have r0 : FW.cell? ⟨rb, 0, none⟩ = some (.int .u8 0) := hIF.at_ 0 _ rfl
    have r1 : FW.cell? ⟨rb, 1, none⟩ = some (.int .u8 0) := hIF.at_ 1 _ rfl
    have r2 : FW.cell? ⟨rb, 2, none⟩ = some (.int .u16 0) := hIF.at_ 2 _ rfl
    have r3 : FW.cell? ⟨rb, 3, none⟩ = some (.int .u32 s.id) := hIF.at_ 3 _ rfl
    have r4 : FW.cell? ⟨rb, 4, none⟩ = some (.int .u32 (k : Int)) := hIF.at_ 4 _ rfl
    have r5 : FW.cell? ⟨rb, 5, none⟩ = some (.slice A k c) := hIF.at_ 5 _ rfl
    clear hIF
    go_wp2_with fail
    clear hFW
    (try simp only [Exit.inBlock, Exit.then])
    refine bodyPost_ret (by simp [results, Tryd.results29, go_sem, r0, r1, r2, r3, r4, r5]; try rfl) rfl ?_
    refine ⟨_, by rw [HK.out.1, HF0.out]; rfl, ?_⟩
    rw [HK.out.1, HRb.out]
    exact HEnd.out _ HCF.out
  | true =>
    rw [hcl] at x6
    obtain ⟨rl, hrl⟩ : ∃ rl, (s.sg.drop k).length = rl := ⟨_, rfl⟩
    have HRl := Lib.hid hrl
    have HCl := Lib.hid hcl
    clear hcl hrl
    go_wp2_with fail
    refine (rlen_any w4 HP4.out.r1).mono ?_
    rintro e w' ⟨rfl, rfl⟩
    rw [HRl.out]
    by_cases hz : rl = 0
    · subst hz
      have eE : frE s = true := by
        unfold frE
        rw [HCl.out, HK.out.1]
        have h := HRl.out
        rw [List.length_drop] at h
        simp
        omega
      have HE := Lib.hid eE
      have HF0 : Hid (fl = 4) := by show _ = _; rw [← HFl.out, HE.out]; rfl
      have hlo := rdy_lo HR.out
      have HLo := Lib.hid hlo
      have y2f : w4.frozen? ⟨b5, 2, none⟩ = false := HI4.out.frozen 2
      obtain ⟨w5, hw5⟩ : ∃ y, w4.setCell ⟨b5, 2, none⟩ (.int .u16 4) = y := ⟨_, rfl⟩
      have hc5 : Chg (fun q => q = b5) w4 w5 := by rw [← hw5]; exact (Chg.refl (fun q => q = b5) w4).setCell (p := ⟨b5, 2, none⟩) (fun _ => rfl) _
      have HC5 := Lib.hid hc5
      have HI5 : Hid (Is w5 b5 72 #[.int .u8 0, .int .u8 0, .int .u16 4, .int .u32 s.id, .int .u32 (k : Int), .slice A k c]) := by show Is _ _ _ _; rw [← hw5]; exact HI4.out.put 2 _
      have hb5T : ∀ q, T0 q → q ≠ b5 := fun q hq e => by have := (HTB.out.2 q hq).2; have := HB5.out.2; omega
      have HP5 := Lib.hid (HP4.out.chg hc5 fun q hq _ e => hb5T q hq e)
      have HR5 : Hid (Is w5 rb 72 #[.int .u8 0, .int .u8 0, .int .u16 0, .int .u32 0, .int .u32 0, .slice none 0 0]) := HR4.out.chg hc5 fun e => by have := HB5.out.2; have := HRb.out; omega
      have hb5c : ∀ q, obk (.slice A k c) = some q → q ≠ b5 := fun q hq e => by have := (J3.out.block q hq).2; have := HB5.out.1; omega
      have J5 : Hid (Ob w5 w1.heap.size 5 (.slice A k c) k (u8s (s.sg.take k))) := J4.out.chg hc5 hb5c
      have HS5 : Hid (Sen B a w5 ∧ Tab B w5 ∧ B ≤ w5.heap.size) := by
        have hbl : Below B w4 w5 := hc5.below (fun q hq e => by have := HB5.out.1; have := HS3.out.2.2; omega) HS4.out.2.2
        exact ⟨HS4.out.1.below hbl, HS4.out.2.1.below hbl, Nat.le_trans HS4.out.2.2 hc5.size⟩
      have HZ5 : Hid (w4.heap.size ≤ w5.heap.size ∧ b5 < w4.heap.size) := ⟨hc5.size, HI4.out.lt⟩
      clear hc5 hb5T hb5c eE hlo
      go_wp2_with fail
      clear hw5 y0 y1 y2 y3 y4 y5 z0 z1 z2 z3 z4 z5 q0 q1 q2 q3 q4 q5 y2f
      refine (happen_out w5 HS5.out.1 HS5.out.2.1 (s := { s with sg := s.sg.drop k, cr := spS s.cr k }) ⟨S1, S2, g1, g2, g3, g4, HP5.out⟩ HLo.out.1 HLo.out.2).mono ?_
      rintro e w6 ⟨⟨r, rfl⟩, ⟨S1', S2', h1, h2, h3, h4, m1⟩, m2⟩
      have hT6 : ∀ q, T0 q → q < rb := fun q hq => by have := (HTB.out.2 q hq).2; have := HRb.out; omega
      have hI6 : Is w6 b5 72 #[.int .u8 0, .int .u8 0, .int .u16 4, .int .u32 s.id, .int .u32 (k : Int), .slice A k c] := HI5.out.chg m2 fun h => by have := hT6 _ h; have := HB5.out.2; have := HRb.out; omega
      have hR6 : Is w6 rb 72 #[.int .u8 0, .int .u8 0, .int .u16 0, .int .u32 0, .int .u32 0, .slice none 0 0] := HR5.out.chg m2 fun h => by have := hT6 _ h; omega
      have HR6 := Lib.hid hR6
      have J6 : Hid (Ob w6 w1.heap.size 5 (.slice A k c) k (u8s (s.sg.take k))) := J5.out.chg m2 fun q hq h => by have := hT6 _ h; have := (J5.out.block q hq).1; have := HW2.out; have := HRb.out; omega
      have HP6 := Lib.hid m1
      have HCw6 : Hid (Chg T0 w w6) := (HCw4.out.then HC5.out fun q hq e => by have := HB5.out.2; omega).trans m2
      have eS : frS s = { ({ s with sg := s.sg.drop k, cr := spS s.cr k } : Sm) with lo := true } := by
        unfold frS
        rw [HK.out.1, HE.out, Bool.or_true]
      have HES := Lib.hid eS
      have HEnd : Hid (∀ FW, Chg (fun q => q = rb) w6 FW → Ob FW rb 5 (.slice A k c) k (u8s (s.sg.take k)) ∧ Pst FW T g (frS s) ∧ Chg T w FW) := fun FW hf => by
        rw [HES.out]
        exact fr_end (fun q hq => ⟨(HTB.out.2 q hq).1, by have := (HTB.out.2 q hq).2; have := HRb.out; omega⟩) HRb.out HP6.out HCw6.out J6.out (by have := HW3.out; have := HC1.out.size; have := HRb.out; omega) hf
      have y0 : w6.cell? ⟨b5, 0, none⟩ = some (.int .u8 0) := hI6.at_ 0 _ rfl
      have y1 : w6.cell? ⟨b5, 1, none⟩ = some (.int .u8 0) := hI6.at_ 1 _ rfl
      have y2 : w6.cell? ⟨b5, 2, none⟩ = some (.int .u16 4) := hI6.at_ 2 _ rfl
      have y3 : w6.cell? ⟨b5, 3, none⟩ = some (.int .u32 s.id) := hI6.at_ 3 _ rfl
      have y4 : w6.cell? ⟨b5, 4, none⟩ = some (.int .u32 (k : Int)) := hI6.at_ 4 _ rfl
      have y5 : w6.cell? ⟨b5, 5, none⟩ = some (.slice A k c) := hI6.at_ 5 _ rfl
      have z0 : w6.cell? ⟨rb, 0, none⟩ = some (.int .u8 0) := hR6.at_ 0 _ rfl
      have z1 : w6.cell? ⟨rb, 1, none⟩ = some (.int .u8 0) := hR6.at_ 1 _ rfl
      have z2 : w6.cell? ⟨rb, 2, none⟩ = some (.int .u16 0) := hR6.at_ 2 _ rfl
      have z3 : w6.cell? ⟨rb, 3, none⟩ = some (.int .u32 0) := hR6.at_ 3 _ rfl
      have z4 : w6.cell? ⟨rb, 4, none⟩ = some (.int .u32 0) := hR6.at_ 4 _ rfl
      have z5 : w6.cell? ⟨rb, 5, none⟩ = some (.slice none 0 0) := hR6.at_ 5 _ rfl
      have q0 : w6.frozen? ⟨rb, 0, none⟩ = false := hR6.frozen 0
      have q1 : w6.frozen? ⟨rb, 1, none⟩ = false := hR6.frozen 1
      have q2 : w6.frozen? ⟨rb, 2, none⟩ = false := hR6.frozen 2
      have q3 : w6.frozen? ⟨rb, 3, none⟩ = false := hR6.frozen 3
      have q4 : w6.frozen? ⟨rb, 4, none⟩ = false := hR6.frozen 4
      have q5 : w6.frozen? ⟨rb, 5, none⟩ = false := hR6.frozen 5
      clear m1 m2 hT6 hI6 hR6 eS
      obtain ⟨FW, hFW⟩ : ∃ y, ((((((w6.setCell ⟨rb, 0, none⟩ (.int .u8 0)).setCell ⟨rb, 1, none⟩ (.int .u8 0)).setCell ⟨rb, 2, none⟩ (.int .u16 4)).setCell ⟨rb, 3, none⟩ (.int .u32 s.id)).setCell ⟨rb, 4, none⟩ (.int .u32 (k : Int))).setCell ⟨rb, 5, none⟩ (.slice A k c)) = y := ⟨_, rfl⟩
      have hIF : Is FW rb 72 #[.int .u8 0, .int .u8 0, .int .u16 4, .int .u32 s.id, .int .u32 (k : Int), .slice A k c] := by rw [← hFW]; exact ((((((HR6.out.put 0 _).put 1 _).put 2 _).put 3 _).put 4 _).put 5 _)
      have HCF : Hid (Chg (fun q => q = rb) w6 FW) := by show Chg _ _ _; rw [← hFW]; exact (((((((Chg.refl (fun q => q = rb) w6).setCell (p := ⟨rb, 0, none⟩) (fun _ => rfl) _).setCell (p := ⟨rb, 1, none⟩) (fun _ => rfl) _).setCell (p := ⟨rb, 2, none⟩) (fun _ => rfl) _).setCell (p := ⟨rb, 3, none⟩) (fun _ => rfl) _).setCell (p := ⟨rb, 4, none⟩) (fun _ => rfl) _).setCell (p := ⟨rb, 5, none⟩) (fun _ => rfl) _)
      have r0 : FW.cell? ⟨rb, 0, none⟩ = some (.int .u8 0) := hIF.at_ 0 _ rfl
      have r1 : FW.cell? ⟨rb, 1, none⟩ = some (.int .u8 0) := hIF.at_ 1 _ rfl
      have r2 : FW.cell? ⟨rb, 2, none⟩ = some (.int .u16 4) := hIF.at_ 2 _ rfl
      have r3 : FW.cell? ⟨rb, 3, none⟩ = some (.int .u32 s.id) := hIF.at_ 3 _ rfl
      have r4 : FW.cell? ⟨rb, 4, none⟩ = some (.int .u32 (k : Int)) := hIF.at_ 4 _ rfl
      have r5 : FW.cell? ⟨rb, 5, none⟩ = some (.slice A k c) := hIF.at_ 5 _ rfl
      clear hIF
      go_wp2_with fail
      clear hFW
      (try simp only [Exit.inBlock, Exit.then])
      refine bodyPost_ret (by simp [results, Tryd.results29, go_sem, r0, r1, r2, r3, r4, r5]; try rfl) rfl ?_
      refine ⟨_, by rw [HK.out.1, HF0.out]; rfl, ?_⟩
      rw [HK.out.1, HRb.out]
      exact HEnd.out _ HCF.out
    · have hz2 : ¬ (rl : Int) = 0 := by omega
      have eE : frE s = false := by
        unfold frE
        rw [HCl.out, HK.out.1]
        have h := HRl.out
        rw [List.length_drop] at h
        simp
        omega
      have HE := Lib.hid eE
      have HF0 : Hid (fl = 0) := by show _ = _; rw [← HFl.out, HE.out]; rfl
      have eS : frS s = { s with sg := s.sg.drop k, cr := spS s.cr k } := by
        unfold frS
        rw [HK.out.1, eE, Bool.or_false]
      have HES := Lib.hid eS
      have HEnd : Hid (∀ FW, Chg (fun q => q = rb) w4 FW → Ob FW rb 5 (.slice A k c) k (u8s (s.sg.take k)) ∧ Pst FW T g (frS s) ∧ Chg T w FW) := fun FW hf => by
        rw [HES.out]
        exact fr_end (fun q hq => ⟨(HTB.out.2 q hq).1, by have := (HTB.out.2 q hq).2; have := HRb.out; omega⟩) HRb.out HP4.out HCw4.out J4.out (by have := HW3.out; have := HC1.out.size; have := HRb.out; omega) hf
      clear eE eS
      obtain ⟨FW, hFW⟩ : ∃ y, ((((((w4.setCell ⟨rb, 0, none⟩ (.int .u8 0)).setCell ⟨rb, 1, none⟩ (.int .u8 0)).setCell ⟨rb, 2, none⟩ (.int .u16 0)).setCell ⟨rb, 3, none⟩ (.int .u32 s.id)).setCell ⟨rb, 4, none⟩ (.int .u32 (k : Int))).setCell ⟨rb, 5, none⟩ (.slice A k c)) = y := ⟨_, rfl⟩
      have hIF : Is FW rb 72 #[.int .u8 0, .int .u8 0, .int .u16 0, .int .u32 s.id, .int .u32 (k : Int), .slice A k c] := by rw [← hFW]; exact ((((((HR4.out.put 0 _).put 1 _).put 2 _).put 3 _).put 4 _).put 5 _)
      have HCF : Hid (Chg (fun q => q = rb) w4 FW) := by show Chg _ _ _; rw [← hFW]; exact (((((((Chg.refl (fun q => q = rb) w4).setCell (p := ⟨rb, 0, none⟩) (fun _ => rfl) _).setCell (p := ⟨rb, 1, none⟩) (fun _ => rfl) _).setCell (p := ⟨rb, 2, none⟩) (fun _ => rfl) _).setCell (p := ⟨rb, 3, none⟩) (fun _ => rfl) _).setCell (p := ⟨rb, 4, none⟩) (fun _ => rfl) _).setCell (p := ⟨rb, 5, none⟩) (fun _ => rfl) _)
      have r0 : FW.cell? ⟨rb, 0, none⟩ = some (.int .u8 0) := hIF.at_ 0 _ rfl
      have r1 : FW.cell? ⟨rb, 1, none⟩ = some (.int .u8 0) := hIF.at_ 1 _ rfl
      have r2 : FW.cell? ⟨rb, 2, none⟩ = some (.int .u16 0) := hIF.at_ 2 _ rfl
      have r3 : FW.cell? ⟨rb, 3, none⟩ = some (.int .u32 s.id) := hIF.at_ 3 _ rfl
      have r4 : FW.cell? ⟨rb, 4, none⟩ = some (.int .u32 (k : Int)) := hIF.at_ 4 _ rfl
      have r5 : FW.cell? ⟨rb, 5, none⟩ = some (.slice A k c) := hIF.at_ 5 _ rfl
      clear hIF
      go_wp2_with fail
      clear hFW
      (try simp only [Exit.inBlock, Exit.then])
      refine bodyPost_ret (by simp [results, Tryd.results29, go_sem, r0, r1, r2, r3, r4, r5]; try rfl) rfl ?_
      refine ⟨_, by rw [HK.out.1, HF0.out]; rfl, ?_⟩
      rw [HK.out.1, HRb.out]
      exact HEnd.out _ HCF.out
end
end Go.Proofs.YthalmjjbamglgaaDoor
