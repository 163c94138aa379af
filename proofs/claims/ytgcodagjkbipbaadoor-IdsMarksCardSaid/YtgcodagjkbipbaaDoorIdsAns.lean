/-
  The walk of culvertlaw14.IdsAnswers (printed by gen_idsans.py).
  No condition of its own: the facts 'Sen' and 'Par' on the world; the script reads as rows.
-/
import Derived.Test.YtgcodagjkbipbaaDoorIdsBegin3
import Derived.Test.YtgcodagjkbipbaaDoorRecs
import Derived.Deep.RegionHeld3
namespace Go.Proofs.YtgcodagjkbipbaaDoor
open Go.RowKit

def aggA (s : St) : Array Value := #[.int .i64 s.F, .int .i64 s.R, .int .i64 s.X, .int .i64 s.M, .int .i64 s.T]
/-- The document's numbers lie in block gm. -/
abbrev Mm (w : World) (gm : Nat) (s : St) : Prop := Is w gm 53 (aggA s)
theorem mm5 {u : World} {gm : Nat} {s : St} (h : Mm u gm s) : u.cell? ⟨gm, 0, none⟩ = some (.int .i64 s.F) ∧ u.cell? ⟨gm, 1, none⟩ = some (.int .i64 s.R) ∧ u.cell? ⟨gm, 2, none⟩ = some (.int .i64 s.X) ∧ u.cell? ⟨gm, 3, none⟩ = some (.int .i64 s.M) ∧ u.cell? ⟨gm, 4, none⟩ = some (.int .i64 s.T) :=
  ⟨h.at_ 0 _ rfl, h.at_ 1 _ rfl, h.at_ 2 _ rfl, h.at_ 3 _ rfl, h.at_ 4 _ rfl⟩
theorem mm_put {u : World} {gm : Nat} {s : St} (h : Mm u gm s) (s' : St) :
    Mm (((((u.setCell ⟨gm, 0, none⟩ (.int .i64 s'.F)).setCell ⟨gm, 1, none⟩ (.int .i64 s'.R)).setCell ⟨gm, 2, none⟩ (.int .i64 s'.X)).setCell ⟨gm, 3, none⟩ (.int .i64 s'.M)).setCell ⟨gm, 4, none⟩ (.int .i64 s'.T)) gm s' :=
  ((((h.put 0 _).put 1 _).put 2 _).put 3 _).put 4 _
theorem mm_chg {S : Nat → Prop} {u u' : World} {gm : Nat} (h : Chg S u u') (hg : gm < u.heap.size → S gm) (a b c d e : Value) :
    Chg S u (((((u'.setCell ⟨gm, 0, none⟩ a).setCell ⟨gm, 1, none⟩ b).setCell ⟨gm, 2, none⟩ c).setCell ⟨gm, 3, none⟩ d).setCell ⟨gm, 4, none⟩ e) :=
  ((((h.setCell (p := ⟨gm, 0, none⟩) hg _).setCell (p := ⟨gm, 1, none⟩) hg _).setCell (p := ⟨gm, 2, none⟩) hg _).setCell (p := ⟨gm, 3, none⟩) hg _).setCell (p := ⟨gm, 4, none⟩) hg _
theorem obj_put5 {w : World} {p : Option Addr} {s : St} {gm : Nat} (h : Obj w p s) (hb : ∀ g, p = some ⟨g, 0, none⟩ → g ≠ gm) (a b c d e : Value) :
    Obj (((((w.setCell ⟨gm, 0, none⟩ a).setCell ⟨gm, 1, none⟩ b).setCell ⟨gm, 2, none⟩ c).setCell ⟨gm, 3, none⟩ d).setCell ⟨gm, 4, none⟩ e) p s :=
  ((((h.put hb _).put hb _).put hb _).put hb _).put hb _
/-- Changed: nothing below n but the object's own block; the object lies at n or behind. -/
theorem at_far {n : Nat} {p : Option Addr} (hf : ∀ g, p = some ⟨g, 0, none⟩ → n ≤ g) {w w1 w2 : World} (hn : w.heap.size = n) (h : Chg none_ w w1) (k : Chg (at_ p) w1 w2) : Chg none_ w w2 :=
  h.then k fun b hb hs => by
    obtain ⟨g, e, rfl⟩ := hs
    have := hf b e
    omega
theorem Is.drew1 {w : World} {g : Nat} {t : TypeId} {cs : Array Value} (h : Is w g t cs) : Is w.drew g t cs := h
theorem Obj.drew1 {w : World} {p : Option Addr} {s : St} (h : Obj w p s) : Obj w.drew p s := h
theorem Obj.sok {w : World} {p : Option Addr} {s : St} (h : Obj w p s) : Sok s := by
  rcases h with ⟨rfl, _⟩ | ⟨h, _⟩
  · exact .inl rfl
  · exact .inr h
theorem Obj.low {w : World} {p : Option Addr} {s : St} (h : Obj w p s) (g : Nat) (e : p = some ⟨g, 0, none⟩) : g < w.heap.size := by
  subst e
  exact h.lt
theorem nxC_le (s : St) : nxC s ≤ 42 := by unfold nxC; split <;> (try split) <;> omega
theorem seC_le (s : St) (id : Int) : seC s id ≤ 42 := by unfold seC; repeat' split <;> try omega
theorem heC_le (s : St) (id : Int) : heC s id ≤ 42 := by unfold heC; repeat' split <;> try omega
theorem nxV_bd {s : St} (h : Sok s) : 0 ≤ nxV s ∧ nxV s ≤ 4294967295 := by
  have := h.bd
  unfold nxV
  split
  · omega
  · split <;> omega
theorem off_of {p : Option Addr} {b : Nat} (h : ∀ g, p = some ⟨g, 0, none⟩ → g ≠ b) : ¬ at_ p b := fun ⟨g, e, hb⟩ => h g e hb.symm

theorem rtake_v (w : World) (s : St) (hs : Sok s) :
    Calls Tryd.prog 32 #[aggS s] w fun e w' => e = .returned (.tuple #[.agg #[.int .i64 (nxS s).F, .int .i64 (nxS s).R, .int .i64 (nxS s).X, .int .i64 (nxS s).M, .int .i64 (nxS s).T], .int .i64 (nxV s), .int .i64 (nxC s)]) ∧ Chg none_ w w' := rtake_o w s hs
theorem rsent_v (w : World) (s : St) (hs : Sok s) (id : Int) (i0 : 0 ≤ id) (i1 : id ≤ 4294967295) :
    Calls Tryd.prog 33 #[aggS s, .int .i64 id] w fun e w' => e = .returned (.tuple #[.agg #[.int .i64 (seS s id).F, .int .i64 (seS s id).R, .int .i64 (seS s id).X, .int .i64 (seS s id).M, .int .i64 (seS s id).T], .int .i64 (seC s id)]) ∧ Chg none_ w w' := rsent_o w s hs id i0 i1
theorem rhear_v (w : World) (s : St) (hs : Sok s) (id : Int) (i0 : 0 ≤ id) (i1 : id ≤ 4294967295) :
    Calls Tryd.prog 34 #[aggS s, .int .i64 id] w fun e w' => e = .returned (.tuple #[.agg #[.int .i64 (heS s id).F, .int .i64 (heS s id).R, .int .i64 (heS s id).X, .int .i64 (heS s id).M, .int .i64 (heS s id).T], .int .i64 (heC s id)]) ∧ Chg none_ w w' := rhear_o w s hs id i0 i1

/-- What holds behind each round. -/
structure Rel (w wr : World) (p : Option Addr) (gm : Nat) (s : St) : Prop where
  ob : Obj wr p s
  mm : Mm wr gm s
  ch : Chg none_ w wr

set_option maxRecDepth 100000 in
set_option maxHeartbeats 8000000 in
theorem answers_walk {a : Nat → Addr} (w : World) (hs : Sen w.heap.size a w) (hp : Par w.heap.size w) (cl no : Bool) (kk : Int) (A : Option Addr) (n c : Nat) (F : Nat → Nat → Value) (K0 K1 : Nat → Int) (hr : Rds w A n 2 F) (h0 : ∀ i, i < n → F i 0 = .int .i64 (K0 i)) (h1 : ∀ i, i < n → F i 1 = .int .u32 (K1 i))
    (hb : ∀ i, i < n → 0 ≤ K1 i ∧ K1 i ≤ 4294967295) (hm : n ≤ 8796093022208) :
    Calls Tryd.prog 6 #[whV cl no kk, .slice A n c] w fun e w' => e = .returned (.bool true) ∧ Below w.heap.size w w' := by
  have hB : w.heap.size ≤ w.heap.size := Nat.le_refl _
  have HS := Lib.hid hs
  have HP := Lib.hid hp
  have HR := Lib.hid hr
  have HF := Lib.hid (And.intro h0 (And.intro h1 hb))
  clear hs hp hr h0 h1 hb
  have c0 : Chg none_ w (w.alloc (.cells #[.bool cl, .bool no, .int .i64 kk] 49)) := (Chg.refl none_ w).alloc _
  have b0 : Is (w.alloc (.cells #[.bool cl, .bool no, .int .i64 kk] 49)) w.heap.size 49 #[.bool cl, .bool no, .int .i64 kk] := Is.new w _ _
  unfold whV
  go_enter Tryd.func6, Tryd.ntmps6
  go_wp2_with fail
  refine (fixed_any _ (HS.out.below (c0.old hB)) (HP.out.below (c0.old hB)) c0.size).mono ?_
  rintro e w1 ⟨rfl, k1⟩
  have c1 := c0.trans k1
  have b1 := b0.chg k1 (fun f => f)
  clear c0 b0 k1
  have q0 := b1.at_ 0 _ rfl
  have q1 := b1.at_ 1 _ rfl
  have q2 := b1.at_ 2 _ rfl
  have HC1 := Lib.hid c1
  have hsz := c1.size
  clear b1 c1
  go_wp2_with fail
  refine (begin_any w1 (HS.out.below (HC1.out.old hB)) (HP.out.below (HC1.out.old hB)) hsz cl no kk).mono ?_
  rintro e w2 ⟨p, s0, rfl, o2, far, k2⟩
  have HC2 := Lib.hid (HC1.out.trans k2)
  have HFar : Hid (∀ g, p = some ⟨g, 0, none⟩ → w.heap.size ≤ g ∧ g ≠ w2.heap.size) := fun g e => by
    have h1 := far g e
    have h2 := o2.low g e
    omega
  have HO2 := Lib.hid o2
  clear o2 far k2 HC1 hsz q0 q1 q2
  have HR3 : Hid (Rel w (w2.alloc (.cells (aggA s0) 53)) p w2.heap.size s0) := ⟨HO2.out.alloc _, Is.new w2 _ _, HC2.out.alloc _⟩
  have hgw : w.heap.size ≤ w2.heap.size := HC2.out.size
  unfold aggS
  unfold aggA at HR3
  clear HC2 HO2
  go_wp2_with fail
  generalize w2.heap.size = gm at HR3 HFar hgw ⊢
  go_loopw [34] (fun xi wr => ∃ (k : Nat) (s : St), k ≤ n ∧ xi = .int .i64 k ∧ Rel w wr p gm s) (fun xi _ => n - (intOf xi).toNat)
  case atStart => exact ⟨0, s0, by omega, rfl, HR3.out⟩
  case round =>
    clear HR3
    obtain ⟨k, s, hk, rfl, hrel⟩ := hrel
    have HRel := Lib.hid hrel
    clear hrel
    by_cases hkn : k < n
    · obtain ⟨ad, rfl, hcell⟩ := HR.out (by omega)
      clear hcell
      have x0 := HR.out.f0 rfl (HRel.out.ch.old hB) (by decide) hkn
      have x1 := HR.out.fj rfl (HRel.out.ch.old hB) hkn (j := 1) (by decide) (by decide)
      rw [HF.out.1 k hkn] at x0
      rw [HF.out.2.1 k hkn] at x1
      obtain ⟨i0, i1⟩ := HF.out.2.2 k hkn
      generalize K0 k = kd at x0
      generalize K1 k = id at x1 i0 i1
      have wi : IntKind.i64.wrap id = id := IntWalk.i64_in _ (by omega)
      have hgl : Hid (gm ≠ wr.heap.size) := by have := HRel.out.mm.lt; exact Nat.ne_of_lt this
      have HIo : Hid (Is (wr.alloc (.cells #[.int .i64 kd, .int .u32 id] 57)) wr.heap.size 57 #[.int .i64 kd, .int .u32 id]) := Is.new wr _ _
      have HO := Lib.hid (HRel.out.ob.alloc (.cells #[.int .i64 kd, .int .u32 id] 57))
      have HM : Hid (Mm (wr.alloc (.cells #[.int .i64 kd, .int .u32 id] 57)) gm s) := HRel.out.mm.alloc _
      have HG := Lib.hid (HRel.out.ch.alloc (.cells #[.int .i64 kd, .int .u32 id] 57))
      have HPo : Hid (∀ g, p = some ⟨g, 0, none⟩ → w.heap.size ≤ g ∧ g ≠ gm ∧ g ≠ wr.heap.size) := fun g e => by
        have h1 := HFar.out g e
        have h2 := HRel.out.ob.low g e
        exact ⟨h1.1, h1.2, by omega⟩
      have HSok := Lib.hid HRel.out.ob.sok
      by_cases e0 : kd = 0
      · subst e0
        obtain ⟨m0, m1, m2, m3, m4⟩ := mm5 HM.out
        go_wp2_with fail
        refine (rtake_v _ s HSok.out).mono ?_
        rintro e w3 ⟨rfl, k3⟩
        clear m0 m1 m2 m3 m4
        have HI4 : Hid (Mm (w3.alloc (.cells (aggA (nxS s)) 53)) w3.heap.size (nxS s)) := Is.new w3 _ _
        have HO4 := Lib.hid ((HO.out.keep k3).alloc (.cells (aggA (nxS s)) 53))
        have HM4 : Hid (Mm (w3.alloc (.cells (aggA (nxS s)) 53)) gm s) := (HM.out.chg k3 (fun f => f)).alloc _
        have HG4 := Lib.hid ((HG.out.trans k3).alloc (.cells (aggA (nxS s)) 53))
        have hp3 : Hid (∀ g, p = some ⟨g, 0, none⟩ → g ≠ w3.heap.size) := fun g e => by have := (HO.out.keep k3).low g e; omega
        have hg3 : Hid (gm ≠ w3.heap.size) := by have := (HM.out.chg k3 (fun f => f) : Mm w3 gm s).lt; exact Nat.ne_of_lt this
        unfold aggA at HI4 HO4 HM4 HG4
        clear k3
        go_wp2_with fail
        refine (next_o _ (HS.out.below (HG4.out.old hB)) p s HO4.out).mono ?_
        rintro e w5 ⟨rfl, o5, k5⟩
        have HM5 : Hid (Mm w5 gm s) := HM4.out.chg k5 (off_of fun g e => (HPo.out g e).2.1)
        have HI5 : Hid (Mm w5 w3.heap.size (nxS s)) := HI4.out.chg k5 (off_of hp3.out)
        have HG5 := Lib.hid (at_far (fun g e => (HPo.out g e).1) rfl HG4.out k5)
        have HO5 := Lib.hid o5
        clear o5 k5
        obtain ⟨y0, y1, y2, y3, y4⟩ := mm5 HI5.out
        have z0 := HM5.out.at_ 0 _ rfl
        have z1 := HM5.out.at_ 1 _ rfl
        have z2 := HM5.out.at_ 2 _ rfl
        have z3 := HM5.out.at_ 3 _ rfl
        have z4 := HM5.out.at_ 4 _ rfl
        have f0 := HM5.out.frozen 0
        have f1 := HM5.out.frozen 1
        have f2 := HM5.out.frozen 2
        have f3 := HM5.out.frozen 3
        have f4 := HM5.out.frozen 4
        have HO : Hid (Obj ((((((w5).setCell ⟨gm, 0, none⟩ (.int .i64 ((nxS s)).F)).setCell ⟨gm, 1, none⟩ (.int .i64 ((nxS s)).R)).setCell ⟨gm, 2, none⟩ (.int .i64 ((nxS s)).X)).setCell ⟨gm, 3, none⟩ (.int .i64 ((nxS s)).M)).setCell ⟨gm, 4, none⟩ (.int .i64 ((nxS s)).T)) p (nxS s)) := obj_put5 HO5.out (fun g e => (HPo.out g e).2.1) _ _ _ _ _
        have HM : Hid (Mm ((((((w5).setCell ⟨gm, 0, none⟩ (.int .i64 ((nxS s)).F)).setCell ⟨gm, 1, none⟩ (.int .i64 ((nxS s)).R)).setCell ⟨gm, 2, none⟩ (.int .i64 ((nxS s)).X)).setCell ⟨gm, 3, none⟩ (.int .i64 ((nxS s)).M)).setCell ⟨gm, 4, none⟩ (.int .i64 ((nxS s)).T)) gm (nxS s)) := mm_put HM5.out _
        have HG : Hid (Chg none_ w ((((((w5).setCell ⟨gm, 0, none⟩ (.int .i64 ((nxS s)).F)).setCell ⟨gm, 1, none⟩ (.int .i64 ((nxS s)).R)).setCell ⟨gm, 2, none⟩ (.int .i64 ((nxS s)).X)).setCell ⟨gm, 3, none⟩ (.int .i64 ((nxS s)).M)).setCell ⟨gm, 4, none⟩ (.int .i64 ((nxS s)).T))) := mm_chg HG5.out (fun h => absurd h (by omega)) _ _ _ _ _
        obtain ⟨v0, v1⟩ := nxV_bd HSok.out
        have wv : IntKind.i64.wrap (nxV s) = nxV s := IntWalk.i64_in _ (by omega)
        go_wp2_with fail
        refine (code_any _ (HS.out.below (HG.out.old hB)) _ (nxC_le s)).mono ?_
        rintro e w' ⟨rfl, rfl⟩
        clear y0 y1 y2 y3 y4 z0 z1 z2 z3 z4 f0 f1 f2 f3 f4 HM5 HI5 HG5 HO5 HI4 HO4 HM4 HG4
        go_wp2_with fail
        refine (marks_o _ p _ HO.out).mono ?_
        rintro e wm ⟨rfl, dm⟩
        have HOm := Lib.hid (HO.out.dr dm)
        have HMm := Lib.hid (HM.out.chg (Dr.chg (S := none_) dm) (fun f => f) : Mm wm gm _)
        have HGm := Lib.hid (HG.out.trans dm.chg)
        clear dm HO HM HG
        obtain ⟨_, _, _, _, _, _, bM0, bM1, bT0, bT1⟩ := HOm.out.sok.bd
        have wM : IntKind.i64.wrap (nxS s).M = (nxS s).M := IntWalk.i64_in _ (by omega)
        have wT : IntKind.i64.wrap (nxS s).T = (nxS s).T := IntWalk.i64_in _ (by omega)
        go_wp2_with fail
        go_region_held3 (fun u => u.cell? ⟨gm, 0, none⟩ = some (.int .i64 (nxS s).F) ∧ u.cell? ⟨gm, 1, none⟩ = some (.int .i64 (nxS s).R) ∧ u.cell? ⟨gm, 2, none⟩ = some (.int .i64 (nxS s).X) ∧ u.cell? ⟨gm, 3, none⟩ = some (.int .i64 (nxS s).M) ∧ u.cell? ⟨gm, 4, none⟩ = some (.int .i64 (nxS s).T))
          (first | exact mm5 (u := World.drew _) HMm.out | exact mm5 HM1.out | exact mm5 HM2.out)
          (first
            | (go_at_call 26; refine (left_o _ p _ (HOm.out.drew1)).mono ?_; rintro e w1 ⟨rfl, d1⟩; have HO1 := Lib.hid (Obj.dr (HOm.out.drew1) d1); have HM1 := Lib.hid ((Is.drew1 HMm.out).chg (Dr.chg (S := none_) d1) (fun f => f) : Mm w1 gm _); have HG1 := Lib.hid (HGm.out.drew.trans d1.chg))
            | (go_at_call 37; refine (rleft_o _ (nxS s) HOm.out.sok).mono ?_; rintro e w2 ⟨rfl, k2⟩; have HO2 := Lib.hid (HO1.out.keep k2); have HM2 := Lib.hid (HM1.out.chg k2 (fun f => f) : Mm w2 gm _); have HG2 := Lib.hid (HG1.out.trans k2)))
        go_wp2_with fail
        go_roundw
        case rel => exact ⟨k + 1, _, by omega, by go_num, HO2.out, HM2.out, HG2.out⟩
        case measure => simp [intOf]; omega
      · have n0 : (kd == 0) = false := by simp [e0]
        by_cases e1 : kd = 1
        · subst e1
          obtain ⟨m0, m1, m2, m3, m4⟩ := mm5 HM.out
          go_wp2_with fail
          refine (rsent_v _ s HSok.out id i0 i1).mono ?_
          rintro e w3 ⟨rfl, k3⟩
          clear m0 m1 m2 m3 m4
          have HI4 : Hid (Mm (w3.alloc (.cells (aggA (seS s id)) 53)) w3.heap.size (seS s id)) := Is.new w3 _ _
          have HO4 := Lib.hid ((HO.out.keep k3).alloc (.cells (aggA (seS s id)) 53))
          have HM5 : Hid (Mm (w3.alloc (.cells (aggA (seS s id)) 53)) gm s) := (HM.out.chg k3 (fun f => f)).alloc _
          have HG4 := Lib.hid ((HG.out.trans k3).alloc (.cells (aggA (seS s id)) 53))
          have HIo4 := Lib.hid ((HIo.out.chg k3 (fun f => f)).alloc (.cells (aggA (seS s id)) 53))
          have hg3 : Hid (gm ≠ w3.heap.size) := by have := (HM.out.chg k3 (fun f => f) : Mm w3 gm s).lt; exact Nat.ne_of_lt this
          unfold aggA at HI4 HO4 HM5 HG4 HIo4
          clear k3
          obtain ⟨y0, y1, y2, y3, y4⟩ := mm5 HI4.out
          have z0 := HM5.out.at_ 0 _ rfl
          have z1 := HM5.out.at_ 1 _ rfl
          have z2 := HM5.out.at_ 2 _ rfl
          have z3 := HM5.out.at_ 3 _ rfl
          have z4 := HM5.out.at_ 4 _ rfl
          have f0 := HM5.out.frozen 0
          have f1 := HM5.out.frozen 1
          have f2 := HM5.out.frozen 2
          have f3 := HM5.out.frozen 3
          have f4 := HM5.out.frozen 4
          have HO5 : Hid (Obj ((((((w3.alloc (.cells #[.int .i64 ((seS s id)).F, .int .i64 ((seS s id)).R, .int .i64 ((seS s id)).X, .int .i64 ((seS s id)).M, .int .i64 ((seS s id)).T] 53)).setCell ⟨gm, 0, none⟩ (.int .i64 ((seS s id)).F)).setCell ⟨gm, 1, none⟩ (.int .i64 ((seS s id)).R)).setCell ⟨gm, 2, none⟩ (.int .i64 ((seS s id)).X)).setCell ⟨gm, 3, none⟩ (.int .i64 ((seS s id)).M)).setCell ⟨gm, 4, none⟩ (.int .i64 ((seS s id)).T)) p s) := obj_put5 HO4.out (fun g e => (HPo.out g e).2.1) _ _ _ _ _
          have HM6 : Hid (Mm ((((((w3.alloc (.cells #[.int .i64 ((seS s id)).F, .int .i64 ((seS s id)).R, .int .i64 ((seS s id)).X, .int .i64 ((seS s id)).M, .int .i64 ((seS s id)).T] 53)).setCell ⟨gm, 0, none⟩ (.int .i64 ((seS s id)).F)).setCell ⟨gm, 1, none⟩ (.int .i64 ((seS s id)).R)).setCell ⟨gm, 2, none⟩ (.int .i64 ((seS s id)).X)).setCell ⟨gm, 3, none⟩ (.int .i64 ((seS s id)).M)).setCell ⟨gm, 4, none⟩ (.int .i64 ((seS s id)).T)) gm (seS s id)) := mm_put HM5.out _
          have HG5 : Hid (Chg none_ w ((((((w3.alloc (.cells #[.int .i64 ((seS s id)).F, .int .i64 ((seS s id)).R, .int .i64 ((seS s id)).X, .int .i64 ((seS s id)).M, .int .i64 ((seS s id)).T] 53)).setCell ⟨gm, 0, none⟩ (.int .i64 ((seS s id)).F)).setCell ⟨gm, 1, none⟩ (.int .i64 ((seS s id)).R)).setCell ⟨gm, 2, none⟩ (.int .i64 ((seS s id)).X)).setCell ⟨gm, 3, none⟩ (.int .i64 ((seS s id)).M)).setCell ⟨gm, 4, none⟩ (.int .i64 ((seS s id)).T))) := mm_chg HG4.out (fun h => absurd h (by omega)) _ _ _ _ _
          have HIo5 : Hid (Is ((((((w3.alloc (.cells #[.int .i64 ((seS s id)).F, .int .i64 ((seS s id)).R, .int .i64 ((seS s id)).X, .int .i64 ((seS s id)).M, .int .i64 ((seS s id)).T] 53)).setCell ⟨gm, 0, none⟩ (.int .i64 ((seS s id)).F)).setCell ⟨gm, 1, none⟩ (.int .i64 ((seS s id)).R)).setCell ⟨gm, 2, none⟩ (.int .i64 ((seS s id)).X)).setCell ⟨gm, 3, none⟩ (.int .i64 ((seS s id)).M)).setCell ⟨gm, 4, none⟩ (.int .i64 ((seS s id)).T)) wr.heap.size 57 _) := ((((HIo4.out.far (p := ⟨gm, 0, none⟩) hgl.out.symm _).far (p := ⟨gm, 1, none⟩) hgl.out.symm _).far (p := ⟨gm, 2, none⟩) hgl.out.symm _).far (p := ⟨gm, 3, none⟩) hgl.out.symm _).far (p := ⟨gm, 4, none⟩) hgl.out.symm _
          have oid : ((((((w3.alloc (.cells #[.int .i64 ((seS s id)).F, .int .i64 ((seS s id)).R, .int .i64 ((seS s id)).X, .int .i64 ((seS s id)).M, .int .i64 ((seS s id)).T] 53)).setCell ⟨gm, 0, none⟩ (.int .i64 ((seS s id)).F)).setCell ⟨gm, 1, none⟩ (.int .i64 ((seS s id)).R)).setCell ⟨gm, 2, none⟩ (.int .i64 ((seS s id)).X)).setCell ⟨gm, 3, none⟩ (.int .i64 ((seS s id)).M)).setCell ⟨gm, 4, none⟩ (.int .i64 ((seS s id)).T)).cell? ⟨wr.heap.size, 1, none⟩ = some (.int .u32 id) := HIo5.out.at_ 1 _ rfl
          go_wp2_with fail
          refine (sent_o _ (HS.out.below (HG5.out.old hB)) p s HO5.out id i0 i1).mono ?_
          rintro e w5 ⟨rfl, o5, k5⟩
          have HO := Lib.hid o5
          have HM : Hid (Mm w5 gm (seS s id)) := HM6.out.chg k5 (off_of fun g e => (HPo.out g e).2.1)
          have HG := Lib.hid (at_far (fun g e => (HPo.out g e).1) rfl HG5.out k5)
          clear o5 k5 oid y0 y1 y2 y3 y4 z0 z1 z2 z3 z4 f0 f1 f2 f3 f4 HM5 HM6 HG5 HO5 HI4 HO4 HG4 HIo4 HIo5
          go_wp2_with fail
          refine (code_any _ (HS.out.below (HG.out.old hB)) _ (seC_le s id)).mono ?_
          rintro e w' ⟨rfl, rfl⟩
          go_wp2_with fail
          refine (marks_o _ p _ HO.out).mono ?_
          rintro e wm ⟨rfl, dm⟩
          have HOm := Lib.hid (HO.out.dr dm)
          have HMm := Lib.hid (HM.out.chg (Dr.chg (S := none_) dm) (fun f => f) : Mm wm gm _)
          have HGm := Lib.hid (HG.out.trans dm.chg)
          clear dm HO HM HG
          obtain ⟨_, _, _, _, _, _, bM0, bM1, bT0, bT1⟩ := HOm.out.sok.bd
          have wM : IntKind.i64.wrap (seS s id).M = (seS s id).M := IntWalk.i64_in _ (by omega)
          have wT : IntKind.i64.wrap (seS s id).T = (seS s id).T := IntWalk.i64_in _ (by omega)
          go_wp2_with fail
          go_region_held3 (fun u => u.cell? ⟨gm, 0, none⟩ = some (.int .i64 (seS s id).F) ∧ u.cell? ⟨gm, 1, none⟩ = some (.int .i64 (seS s id).R) ∧ u.cell? ⟨gm, 2, none⟩ = some (.int .i64 (seS s id).X) ∧ u.cell? ⟨gm, 3, none⟩ = some (.int .i64 (seS s id).M) ∧ u.cell? ⟨gm, 4, none⟩ = some (.int .i64 (seS s id).T))
            (first | exact mm5 (u := World.drew _) HMm.out | exact mm5 HM1.out | exact mm5 HM2.out)
            (first
              | (go_at_call 26; refine (left_o _ p _ (HOm.out.drew1)).mono ?_; rintro e w1 ⟨rfl, d1⟩; have HO1 := Lib.hid (Obj.dr (HOm.out.drew1) d1); have HM1 := Lib.hid ((Is.drew1 HMm.out).chg (Dr.chg (S := none_) d1) (fun f => f) : Mm w1 gm _); have HG1 := Lib.hid (HGm.out.drew.trans d1.chg))
              | (go_at_call 37; refine (rleft_o _ (seS s id) HOm.out.sok).mono ?_; rintro e w2 ⟨rfl, k2⟩; have HO2 := Lib.hid (HO1.out.keep k2); have HM2 := Lib.hid (HM1.out.chg k2 (fun f => f) : Mm w2 gm _); have HG2 := Lib.hid (HG1.out.trans k2)))
          go_wp2_with fail
          go_roundw
          case rel => exact ⟨k + 1, _, by omega, by go_num, HO2.out, HM2.out, HG2.out⟩
          case measure => simp [intOf]; omega
        · have n1 : (kd == 1) = false := by simp [e1]
          by_cases e2 : kd = 2
          · subst e2
            obtain ⟨m0, m1, m2, m3, m4⟩ := mm5 HM.out
            go_wp2_with fail
            refine (rhear_v _ s HSok.out id i0 i1).mono ?_
            rintro e w3 ⟨rfl, k3⟩
            clear m0 m1 m2 m3 m4
            have HI4 : Hid (Mm (w3.alloc (.cells (aggA (heS s id)) 53)) w3.heap.size (heS s id)) := Is.new w3 _ _
            have HO4 := Lib.hid ((HO.out.keep k3).alloc (.cells (aggA (heS s id)) 53))
            have HM5 : Hid (Mm (w3.alloc (.cells (aggA (heS s id)) 53)) gm s) := (HM.out.chg k3 (fun f => f)).alloc _
            have HG4 := Lib.hid ((HG.out.trans k3).alloc (.cells (aggA (heS s id)) 53))
            have HIo4 := Lib.hid ((HIo.out.chg k3 (fun f => f)).alloc (.cells (aggA (heS s id)) 53))
            have hg3 : Hid (gm ≠ w3.heap.size) := by have := (HM.out.chg k3 (fun f => f) : Mm w3 gm s).lt; exact Nat.ne_of_lt this
            unfold aggA at HI4 HO4 HM5 HG4 HIo4
            clear k3
            obtain ⟨y0, y1, y2, y3, y4⟩ := mm5 HI4.out
            have z0 := HM5.out.at_ 0 _ rfl
            have z1 := HM5.out.at_ 1 _ rfl
            have z2 := HM5.out.at_ 2 _ rfl
            have z3 := HM5.out.at_ 3 _ rfl
            have z4 := HM5.out.at_ 4 _ rfl
            have f0 := HM5.out.frozen 0
            have f1 := HM5.out.frozen 1
            have f2 := HM5.out.frozen 2
            have f3 := HM5.out.frozen 3
            have f4 := HM5.out.frozen 4
            have HO5 : Hid (Obj ((((((w3.alloc (.cells #[.int .i64 ((heS s id)).F, .int .i64 ((heS s id)).R, .int .i64 ((heS s id)).X, .int .i64 ((heS s id)).M, .int .i64 ((heS s id)).T] 53)).setCell ⟨gm, 0, none⟩ (.int .i64 ((heS s id)).F)).setCell ⟨gm, 1, none⟩ (.int .i64 ((heS s id)).R)).setCell ⟨gm, 2, none⟩ (.int .i64 ((heS s id)).X)).setCell ⟨gm, 3, none⟩ (.int .i64 ((heS s id)).M)).setCell ⟨gm, 4, none⟩ (.int .i64 ((heS s id)).T)) p s) := obj_put5 HO4.out (fun g e => (HPo.out g e).2.1) _ _ _ _ _
            have HM6 : Hid (Mm ((((((w3.alloc (.cells #[.int .i64 ((heS s id)).F, .int .i64 ((heS s id)).R, .int .i64 ((heS s id)).X, .int .i64 ((heS s id)).M, .int .i64 ((heS s id)).T] 53)).setCell ⟨gm, 0, none⟩ (.int .i64 ((heS s id)).F)).setCell ⟨gm, 1, none⟩ (.int .i64 ((heS s id)).R)).setCell ⟨gm, 2, none⟩ (.int .i64 ((heS s id)).X)).setCell ⟨gm, 3, none⟩ (.int .i64 ((heS s id)).M)).setCell ⟨gm, 4, none⟩ (.int .i64 ((heS s id)).T)) gm (heS s id)) := mm_put HM5.out _
            have HG5 : Hid (Chg none_ w ((((((w3.alloc (.cells #[.int .i64 ((heS s id)).F, .int .i64 ((heS s id)).R, .int .i64 ((heS s id)).X, .int .i64 ((heS s id)).M, .int .i64 ((heS s id)).T] 53)).setCell ⟨gm, 0, none⟩ (.int .i64 ((heS s id)).F)).setCell ⟨gm, 1, none⟩ (.int .i64 ((heS s id)).R)).setCell ⟨gm, 2, none⟩ (.int .i64 ((heS s id)).X)).setCell ⟨gm, 3, none⟩ (.int .i64 ((heS s id)).M)).setCell ⟨gm, 4, none⟩ (.int .i64 ((heS s id)).T))) := mm_chg HG4.out (fun h => absurd h (by omega)) _ _ _ _ _
            have HIo5 : Hid (Is ((((((w3.alloc (.cells #[.int .i64 ((heS s id)).F, .int .i64 ((heS s id)).R, .int .i64 ((heS s id)).X, .int .i64 ((heS s id)).M, .int .i64 ((heS s id)).T] 53)).setCell ⟨gm, 0, none⟩ (.int .i64 ((heS s id)).F)).setCell ⟨gm, 1, none⟩ (.int .i64 ((heS s id)).R)).setCell ⟨gm, 2, none⟩ (.int .i64 ((heS s id)).X)).setCell ⟨gm, 3, none⟩ (.int .i64 ((heS s id)).M)).setCell ⟨gm, 4, none⟩ (.int .i64 ((heS s id)).T)) wr.heap.size 57 _) := ((((HIo4.out.far (p := ⟨gm, 0, none⟩) hgl.out.symm _).far (p := ⟨gm, 1, none⟩) hgl.out.symm _).far (p := ⟨gm, 2, none⟩) hgl.out.symm _).far (p := ⟨gm, 3, none⟩) hgl.out.symm _).far (p := ⟨gm, 4, none⟩) hgl.out.symm _
            have oid : ((((((w3.alloc (.cells #[.int .i64 ((heS s id)).F, .int .i64 ((heS s id)).R, .int .i64 ((heS s id)).X, .int .i64 ((heS s id)).M, .int .i64 ((heS s id)).T] 53)).setCell ⟨gm, 0, none⟩ (.int .i64 ((heS s id)).F)).setCell ⟨gm, 1, none⟩ (.int .i64 ((heS s id)).R)).setCell ⟨gm, 2, none⟩ (.int .i64 ((heS s id)).X)).setCell ⟨gm, 3, none⟩ (.int .i64 ((heS s id)).M)).setCell ⟨gm, 4, none⟩ (.int .i64 ((heS s id)).T)).cell? ⟨wr.heap.size, 1, none⟩ = some (.int .u32 id) := HIo5.out.at_ 1 _ rfl
            go_wp2_with fail
            refine (hear_o _ (HS.out.below (HG5.out.old hB)) p s HO5.out id i0 i1).mono ?_
            rintro e w5 ⟨rfl, o5, k5⟩
            have HO := Lib.hid o5
            have HM : Hid (Mm w5 gm (heS s id)) := HM6.out.chg k5 (off_of fun g e => (HPo.out g e).2.1)
            have HG := Lib.hid (at_far (fun g e => (HPo.out g e).1) rfl HG5.out k5)
            clear o5 k5 oid y0 y1 y2 y3 y4 z0 z1 z2 z3 z4 f0 f1 f2 f3 f4 HM5 HM6 HG5 HO5 HI4 HO4 HG4 HIo4 HIo5
            go_wp2_with fail
            refine (code_any _ (HS.out.below (HG.out.old hB)) _ (heC_le s id)).mono ?_
            rintro e w' ⟨rfl, rfl⟩
            go_wp2_with fail
            refine (marks_o _ p _ HO.out).mono ?_
            rintro e wm ⟨rfl, dm⟩
            have HOm := Lib.hid (HO.out.dr dm)
            have HMm := Lib.hid (HM.out.chg (Dr.chg (S := none_) dm) (fun f => f) : Mm wm gm _)
            have HGm := Lib.hid (HG.out.trans dm.chg)
            clear dm HO HM HG
            obtain ⟨_, _, _, _, _, _, bM0, bM1, bT0, bT1⟩ := HOm.out.sok.bd
            have wM : IntKind.i64.wrap (heS s id).M = (heS s id).M := IntWalk.i64_in _ (by omega)
            have wT : IntKind.i64.wrap (heS s id).T = (heS s id).T := IntWalk.i64_in _ (by omega)
            go_wp2_with fail
            go_region_held3 (fun u => u.cell? ⟨gm, 0, none⟩ = some (.int .i64 (heS s id).F) ∧ u.cell? ⟨gm, 1, none⟩ = some (.int .i64 (heS s id).R) ∧ u.cell? ⟨gm, 2, none⟩ = some (.int .i64 (heS s id).X) ∧ u.cell? ⟨gm, 3, none⟩ = some (.int .i64 (heS s id).M) ∧ u.cell? ⟨gm, 4, none⟩ = some (.int .i64 (heS s id).T))
              (first | exact mm5 (u := World.drew _) HMm.out | exact mm5 HM1.out | exact mm5 HM2.out)
              (first
                | (go_at_call 26; refine (left_o _ p _ (HOm.out.drew1)).mono ?_; rintro e w1 ⟨rfl, d1⟩; have HO1 := Lib.hid (Obj.dr (HOm.out.drew1) d1); have HM1 := Lib.hid ((Is.drew1 HMm.out).chg (Dr.chg (S := none_) d1) (fun f => f) : Mm w1 gm _); have HG1 := Lib.hid (HGm.out.drew.trans d1.chg))
                | (go_at_call 37; refine (rleft_o _ (heS s id) HOm.out.sok).mono ?_; rintro e w2 ⟨rfl, k2⟩; have HO2 := Lib.hid (HO1.out.keep k2); have HM2 := Lib.hid (HM1.out.chg k2 (fun f => f) : Mm w2 gm _); have HG2 := Lib.hid (HG1.out.trans k2)))
            go_wp2_with fail
            go_roundw
            case rel => exact ⟨k + 1, _, by omega, by go_num, HO2.out, HM2.out, HG2.out⟩
            case measure => simp [intOf]; omega
          · have n2 : (kd == 2) = false := by simp [e2]
            by_cases e3 : kd = 3
            · subst e3
              go_wp2_with fail
              go_region_held3 (fun u => u.cell? ⟨wr.heap.size, 1, none⟩ = some (.int .u32 id) ∧ u.cell? ⟨gm, 0, none⟩ = some (.int .i64 s.F) ∧ u.cell? ⟨gm, 1, none⟩ = some (.int .i64 s.R) ∧ u.cell? ⟨gm, 2, none⟩ = some (.int .i64 s.X) ∧ u.cell? ⟨gm, 3, none⟩ = some (.int .i64 s.M) ∧ u.cell? ⟨gm, 4, none⟩ = some (.int .i64 s.T))
                (first | exact ⟨HIo.out.at_ 1 _ rfl, mm5 (u := World.drew _) HM.out⟩ | exact ⟨HI1.out.at_ 1 _ rfl, mm5 HM1.out⟩)
                (first
                  | (go_at_call 27; refine (known_o _ p _ (HO.out.drew1) id i0 i1).mono ?_; rintro e w1 ⟨rfl, rfl⟩)
                  | (go_at_call 35; refine (rknown_o _ s HSok.out id i0 i1).mono ?_; rintro e w1 ⟨rfl, k1⟩; have HO1 := Lib.hid ((HO.out.drew1).keep k1); have HM1 := Lib.hid ((Is.drew1 HM.out).chg k1 (fun f => f) : Mm w1 gm _); have HI1 := Lib.hid ((Is.drew1 HIo.out).chg k1 (fun f => f)); have HG1 := Lib.hid (HG.out.drew.trans k1)))
              clear HO HM HG
              have HO := HO1
              have HM := HM1
              have HG := HG1
              clear HO1 HM1 HG1 HI1
              go_wp2_with fail
              refine (marks_o _ p _ HO.out).mono ?_
              rintro e wm ⟨rfl, dm⟩
              have HOm := Lib.hid (HO.out.dr dm)
              have HMm := Lib.hid (HM.out.chg (Dr.chg (S := none_) dm) (fun f => f) : Mm wm gm _)
              have HGm := Lib.hid (HG.out.trans dm.chg)
              clear dm HO HM HG
              obtain ⟨_, _, _, _, _, _, bM0, bM1, bT0, bT1⟩ := HOm.out.sok.bd
              have wM : IntKind.i64.wrap s.M = s.M := IntWalk.i64_in _ (by omega)
              have wT : IntKind.i64.wrap s.T = s.T := IntWalk.i64_in _ (by omega)
              go_wp2_with fail
              go_region_held3 (fun u => u.cell? ⟨gm, 0, none⟩ = some (.int .i64 s.F) ∧ u.cell? ⟨gm, 1, none⟩ = some (.int .i64 s.R) ∧ u.cell? ⟨gm, 2, none⟩ = some (.int .i64 s.X) ∧ u.cell? ⟨gm, 3, none⟩ = some (.int .i64 s.M) ∧ u.cell? ⟨gm, 4, none⟩ = some (.int .i64 s.T))
                (first | exact mm5 (u := World.drew _) HMm.out | exact mm5 HM1.out | exact mm5 HM2.out)
                (first
                  | (go_at_call 26; refine (left_o _ p _ (HOm.out.drew1)).mono ?_; rintro e w1 ⟨rfl, d1⟩; have HO1 := Lib.hid (Obj.dr (HOm.out.drew1) d1); have HM1 := Lib.hid ((Is.drew1 HMm.out).chg (Dr.chg (S := none_) d1) (fun f => f) : Mm w1 gm _); have HG1 := Lib.hid (HGm.out.drew.trans d1.chg))
                  | (go_at_call 37; refine (rleft_o _ s HOm.out.sok).mono ?_; rintro e w2 ⟨rfl, k2⟩; have HO2 := Lib.hid (HO1.out.keep k2); have HM2 := Lib.hid (HM1.out.chg k2 (fun f => f) : Mm w2 gm _); have HG2 := Lib.hid (HG1.out.trans k2)))
              go_wp2_with fail
              go_roundw
              case rel => exact ⟨k + 1, _, by omega, by go_num, HO2.out, HM2.out, HG2.out⟩
              case measure => simp [intOf]; omega
            · have n3 : (kd == 3) = false := by simp [e3]
              go_wp2_with fail
              go_region_held3 (fun u => u.cell? ⟨wr.heap.size, 1, none⟩ = some (.int .u32 id) ∧ u.cell? ⟨gm, 0, none⟩ = some (.int .i64 s.F) ∧ u.cell? ⟨gm, 1, none⟩ = some (.int .i64 s.R) ∧ u.cell? ⟨gm, 2, none⟩ = some (.int .i64 s.X) ∧ u.cell? ⟨gm, 3, none⟩ = some (.int .i64 s.M) ∧ u.cell? ⟨gm, 4, none⟩ = some (.int .i64 s.T))
                (first | exact ⟨HIo.out.at_ 1 _ rfl, mm5 (u := World.drew _) HM.out⟩ | exact ⟨HI1.out.at_ 1 _ rfl, mm5 HM1.out⟩)
                (first
                  | (go_at_call 31; refine (mine_o _ p _ (HO.out.drew1) id i0 i1).mono ?_; rintro e w1 ⟨rfl, rfl⟩)
                  | (go_at_call 36; refine (rown_o _ s HSok.out id i0 i1).mono ?_; rintro e w1 ⟨rfl, k1⟩; have HO1 := Lib.hid ((HO.out.drew1).keep k1); have HM1 := Lib.hid ((Is.drew1 HM.out).chg k1 (fun f => f) : Mm w1 gm _); have HI1 := Lib.hid ((Is.drew1 HIo.out).chg k1 (fun f => f)); have HG1 := Lib.hid (HG.out.drew.trans k1)))
              clear HO HM HG
              have HO := HO1
              have HM := HM1
              have HG := HG1
              clear HO1 HM1 HG1 HI1
              go_wp2_with fail
              refine (marks_o _ p _ HO.out).mono ?_
              rintro e wm ⟨rfl, dm⟩
              have HOm := Lib.hid (HO.out.dr dm)
              have HMm := Lib.hid (HM.out.chg (Dr.chg (S := none_) dm) (fun f => f) : Mm wm gm _)
              have HGm := Lib.hid (HG.out.trans dm.chg)
              clear dm HO HM HG
              obtain ⟨_, _, _, _, _, _, bM0, bM1, bT0, bT1⟩ := HOm.out.sok.bd
              have wM : IntKind.i64.wrap s.M = s.M := IntWalk.i64_in _ (by omega)
              have wT : IntKind.i64.wrap s.T = s.T := IntWalk.i64_in _ (by omega)
              go_wp2_with fail
              go_region_held3 (fun u => u.cell? ⟨gm, 0, none⟩ = some (.int .i64 s.F) ∧ u.cell? ⟨gm, 1, none⟩ = some (.int .i64 s.R) ∧ u.cell? ⟨gm, 2, none⟩ = some (.int .i64 s.X) ∧ u.cell? ⟨gm, 3, none⟩ = some (.int .i64 s.M) ∧ u.cell? ⟨gm, 4, none⟩ = some (.int .i64 s.T))
                (first | exact mm5 (u := World.drew _) HMm.out | exact mm5 HM1.out | exact mm5 HM2.out)
                (first
                  | (go_at_call 26; refine (left_o _ p _ (HOm.out.drew1)).mono ?_; rintro e w1 ⟨rfl, d1⟩; have HO1 := Lib.hid (Obj.dr (HOm.out.drew1) d1); have HM1 := Lib.hid ((Is.drew1 HMm.out).chg (Dr.chg (S := none_) d1) (fun f => f) : Mm w1 gm _); have HG1 := Lib.hid (HGm.out.drew.trans d1.chg))
                  | (go_at_call 37; refine (rleft_o _ s HOm.out.sok).mono ?_; rintro e w2 ⟨rfl, k2⟩; have HO2 := Lib.hid (HO1.out.keep k2); have HM2 := Lib.hid (HM1.out.chg k2 (fun f => f) : Mm w2 gm _); have HG2 := Lib.hid (HG1.out.trans k2)))
              go_wp2_with fail
              go_roundw
              case rel => exact ⟨k + 1, _, by omega, by go_num, HO2.out, HM2.out, HG2.out⟩
              case measure => simp [intOf]; omega
    · obtain rfl : n = k := by omega
      have HOm := Lib.hid HRel.out.ob
      have HMm := Lib.hid HRel.out.mm
      have HGm := Lib.hid HRel.out.ch
      go_wp2_with fail
      go_region_held3 (fun u => u.cell? ⟨gm, 0, none⟩ = some (.int .i64 s.F) ∧ u.cell? ⟨gm, 1, none⟩ = some (.int .i64 s.R) ∧ u.cell? ⟨gm, 2, none⟩ = some (.int .i64 s.X) ∧ u.cell? ⟨gm, 3, none⟩ = some (.int .i64 s.M) ∧ u.cell? ⟨gm, 4, none⟩ = some (.int .i64 s.T))
        (first | exact mm5 (u := World.drew _) HMm.out | exact mm5 HM1.out | exact mm5 HM2.out)
        (first
          | (go_at_call 26; refine (left_o _ p _ (HOm.out.drew1)).mono ?_; rintro e w1 ⟨rfl, d1⟩; have HO1 := Lib.hid (Obj.dr (HOm.out.drew1) d1); have HM1 := Lib.hid ((Is.drew1 HMm.out).chg (Dr.chg (S := none_) d1) (fun f => f) : Mm w1 gm _); have HG1 := Lib.hid (HGm.out.drew.trans d1.chg))
          | (go_at_call 37; refine (rleft_o _ s HOm.out.sok).mono ?_; rintro e w2 ⟨rfl, k2⟩; have HM2 := Lib.hid (HM1.out.chg k2 (fun f => f) : Mm w2 gm _); have HG2 := Lib.hid (HG1.out.trans k2)))
      go_wp2
      go_ret
      exact ⟨rfl, HG2.out.old hB⟩
end Go.Proofs.YtgcodagjkbipbaaDoor
