/-
  The law StreamFrames: what its loop keeps, what a frame takes.
  No condition.
-/
import Derived.Test.YthalmjjbamglgaaDoorRefL
import Derived.Test.YthalmjjbamglgaaDoorStrK
namespace Go.Proofs.YthalmjjbamglgaaDoor
open Go.RowKit

theorem rd_take {kd : IntKind} {w : World} {A : Option Addr} {n : Nat} {zs : List Int} (h : Rd w A n fun i => .int kd (zs.getD i 0)) {k : Nat} (hk : k ≤ n) : Rd w A k fun i => .int kd ((zs.take k).getD i 0) := fun hn => by
  obtain ⟨ad, e, h⟩ := h (by omega)
  refine ⟨ad, e, fun i hi => ?_⟩
  have e1 : (zs.take k).getD i 0 = zs.getD i 0 := by rw [List.getD_eq_getElem?_getD, List.getD_eq_getElem?_getD, List.getElem?_take, if_pos hi]
  show _ = some (Value.int kd ((zs.take k).getD i 0))
  rw [e1]
  exact h i (by omega)
theorem Pst.ok {w : World} {T : Nat → Prop} {g : Nat} {s : Sm} (h : Pst w T g s) : s.Ok := by
  obtain ⟨_, _, _, _, _, _, hp⟩ := h
  exact hp.ok
theorem Pst.sgl {w : World} {T : Nat → Prop} {g : Nat} {s : Sm} (h : Pst w T g s) : s.sg.length ≤ s.stage := by
  obtain ⟨_, _, _, _, _, _, hp⟩ := h
  exact hp.r1.len
theorem Pst.byt {w : World} {T : Nat → Prop} {g : Nat} {s : Sm} (h : Pst w T g s) : Byt s.sg := by
  obtain ⟨_, _, _, _, _, _, hp⟩ := h
  exact hp.r1.byt
/-- What a frame takes. -/
theorem fr_facts {s : Sm} (hok : s.Ok) (hr : rdyB s = true) : frK s ≤ s.frame ∧ (frK s : Int) ≤ s.cr.h ∧ frK s ≤ s.sg.length ∧ s.lo = false ∧ (frS s).cr.h = s.cr.h - frK s ∧ (frS s).cr.W = s.cr.W ∧ (frK s = 0 → frE s = true) ∧ frE s = (s.cl && decide (frK s = s.sg.length)) := by
  obtain ⟨m, hm⟩ : ∃ m, Nat.min s.frame s.cr.h.toNat = m := ⟨_, rfl⟩
  obtain ⟨k, hk⟩ : ∃ k, Nat.min m s.sg.length = k := ⟨_, rfl⟩
  obtain ⟨m1, m2, m3⟩ := nat_min hm.symm
  obtain ⟨k1, k2, k3⟩ := nat_min hk.symm
  have ek : frK s = k := by unfold frK; rw [hm, hk]
  have h0 := hok.cr.h0
  have hW : s.cr.W ≠ 0 := by have := hok.cr.W1; omega
  have hkh : (k : Int) ≤ s.cr.h := by omega
  have hsp : spC s.cr k = 0 := by unfold spC; rw [if_neg hW, if_neg (by omega), if_neg (by omega)]
  have hf := hok.f1
  unfold rdyB at hr
  by_cases hb : barC s = 0
  · rw [if_pos hb] at hr
    by_cases hc : ((s.mine || s.acc) && !s.lo) = true
    · rw [if_pos hc] at hr
      have hlo : s.lo = false := by
        cases h : s.lo with
        | false => rfl
        | true => rw [h] at hc; simp at hc
      have hE : frE s = (s.cl && decide (k = s.sg.length)) := by
        unfold frE
        rw [ek]
        congr 1
        simp only [decide_eq_decide]
        omega
      rw [ek]
      refine ⟨by omega, hkh, k2, hlo, ?_, ?_, fun h => ?_, hE⟩
      · show (spS s.cr (frK s)).h = _
        rw [ek]
        unfold spS
        rw [if_pos hsp]
      · show (spS s.cr (frK s)).W = _
        exact spS_W _ _
      · by_cases hsg : s.sg = []
        · rw [if_pos hsg] at hr
          rw [hE, hr, h, hsg]
          rfl
        · rw [if_neg hsg] at hr
          have : 0 < s.cr.h := of_decide_eq_true hr
          have hl : s.sg.length ≠ 0 := fun e => hsg (List.eq_nil_of_length_eq_zero e)
          omega
    · rw [if_neg hc] at hr
      cases hr
  · rw [if_neg hb] at hr
    cases hr
/-- What the loop keeps: the stream, what was written (wl), what the frames bore (bo), the configuration's block. -/
structure FrR (w wr : World) (cs : Array Value) (W : Int) (frame g rc : Nat) (s : Sm) (wl bo : List Int) (vw vb : Value) : Prop where
  chg : Chg none_ w wr
  pst : ∃ T, Pst wr T g s ∧ ∀ k, T k → (w.heap.size ≤ k ∧ k < wr.heap.size) ∧ k ≠ rc ∧ obk vw ≠ some k ∧ obk vb ≠ some k
  ow : Ob wr w.heap.size 5 vw wl.length (u8s wl)
  ob : Ob wr w.heap.size 5 vb bo.length (u8s bo)
  ne : ∀ q, obk vw = some q → obk vb ≠ some q
  rw_ : obk vw ≠ some rc
  rb : obk vb ≠ some rc
  cfg : Is wr rc 43 cs
  up : s.Up
  fr : s.frame = frame
  cw : s.cr.W = W
section
variable {w wr wx : World} {cs : Array Value} {W : Int} {frame g rc : Nat} {s s' : Sm} {wl bo wl' bo' : List Int} {vw vb v' : Value}
theorem FrR.grow (h : FrR w wr cs W frame g rc s wl bo vw vb) (hc : Chg none_ wr wx) : FrR w wx cs W frame g rc s wl bo vw vb := by
  obtain ⟨T, p1, p2⟩ := h.pst
  have hz := hc.size
  exact ⟨h.chg.trans hc, ⟨T, p1.keep hc, fun k hk => by have := p2 k hk; exact ⟨by omega, this.2⟩⟩, h.ow.chg hc fun _ _ f => f, h.ob.chg hc fun _ _ f => f, h.ne, h.rw_, h.rb, h.cfg.chg hc fun f => f, h.up, h.fr, h.cw⟩
/-- A step of the stream. -/
theorem FrR.run {B : Nat} {a : Nat → Addr} {T : Nat → Prop} (h : FrR w wr cs W frame g rc s wl bo vw vb) (p2 : ∀ k, T k → (w.heap.size ≤ k ∧ k < wr.heap.size) ∧ k ≠ rc ∧ obk vw ≠ some k ∧ obk vb ≠ some k) (r : Run B a wr wx T g s') (hup : s'.Up) (hf : s'.frame = s.frame) (hw : s'.cr.W = s.cr.W) : FrR w wx cs W frame g rc s' wl bo vw vb := by
  obtain ⟨Ti, q1, q2⟩ := r.ex
  have hz := r.chg.size
  have hz0 := h.chg.size
  refine ⟨h.chg.then r.chg fun k hk ht => by have := (p2 k ht).1; omega, ⟨Ti, q1, fun k hk => ?_⟩, h.ow.chg r.chg fun k hk ht => (p2 k ht).2.2.1 hk, h.ob.chg r.chg fun k hk ht => (p2 k ht).2.2.2 hk, h.ne, h.rw_, h.rb, h.cfg.chg r.chg fun ht => (p2 _ ht).2.1 rfl, hup, hf.trans h.fr, hw.trans h.cw⟩
  have hk2 := (q2 k hk).2
  rcases (q2 k hk).1 with ht | ht
  · exact ⟨⟨(p2 k ht).1.1, hk2⟩, (p2 k ht).2⟩
  · refine ⟨⟨by omega, hk2⟩, fun e => ?_, fun e => ?_, fun e => ?_⟩
    · have := h.cfg.lt; omega
    · have := (h.ow.block k e).2; omega
    · have := (h.ob.block k e).2; omega
theorem FrR.appw {n' : Nat} (h : FrR w wr cs W frame g rc s wl bo vw vb) (hg : wr.grownBy wx (obk vw)) (ho : Ob wx w.heap.size 5 v' n' (u8s wl')) (hn : n' = wl'.length) (hb : obk v' = obk vw ∨ obk v' = some wr.heap.size) : FrR w wx cs W frame g rc s wl' bo v' vb := by
  subst hn
  have hc : Chg (fun k => obk vw = some k) wr wx := (Chg.refl _ wr).grown hg fun k hk _ => hk
  have hz := hc.size
  obtain ⟨T, p1, p2⟩ := h.pst
  refine ⟨h.chg.then hc fun k hk e => by have := (h.ow.block k e).1; omega, ⟨T, p1.chg hc fun k hk _ e => (p2 k hk).2.2.1 e, fun k hk => ?_⟩, ho, h.ob.chg hc fun k hk e => h.ne k e hk, fun q hq e => ?_, fun e => ?_, h.rb, h.cfg.chg hc fun e => h.rw_ e, h.up, h.fr, h.cw⟩
  · have := p2 k hk
    refine ⟨by omega, this.2.1, fun e => ?_, this.2.2.2⟩
    rcases hb with hb | hb
    · exact this.2.2.1 (hb ▸ e)
    · rw [hb] at e
      have := Option.some.inj e
      omega
  · rcases hb with hb | hb
    · exact h.ne q (hb ▸ hq) e
    · rw [hb] at hq
      have := Option.some.inj hq
      have := (h.ob.block q e).2
      omega
  · rcases hb with hb | hb
    · exact h.rw_ (hb ▸ e)
    · rw [hb] at e
      have := Option.some.inj e
      have := h.cfg.lt
      omega
theorem FrR.appb {n' : Nat} (h : FrR w wr cs W frame g rc s wl bo vw vb) (hg : wr.grownBy wx (obk vb)) (ho : Ob wx w.heap.size 5 v' n' (u8s bo')) (hn : n' = bo'.length) (hb : obk v' = obk vb ∨ obk v' = some wr.heap.size) : FrR w wx cs W frame g rc s wl bo' vw v' := by
  subst hn
  have hc : Chg (fun k => obk vb = some k) wr wx := (Chg.refl _ wr).grown hg fun k hk _ => hk
  have hz := hc.size
  obtain ⟨T, p1, p2⟩ := h.pst
  refine ⟨h.chg.then hc fun k hk e => by have := (h.ob.block k e).1; omega, ⟨T, p1.chg hc fun k hk _ e => (p2 k hk).2.2.2 e, fun k hk => ?_⟩, h.ow.chg hc fun k hk e => h.ne k hk e, ho, fun q hq e => ?_, h.rw_, fun e => ?_, h.cfg.chg hc fun e => h.rb e, h.up, h.fr, h.cw⟩
  · have := p2 k hk
    refine ⟨by omega, this.2.1, this.2.2.1, fun e => ?_⟩
    rcases hb with hb | hb
    · exact this.2.2.2 (hb ▸ e)
    · rw [hb] at e
      have := Option.some.inj e
      omega
  · rcases hb with hb | hb
    · exact h.ne q hq (hb ▸ e)
    · rw [hb] at e
      have := Option.some.inj e
      have := (h.ow.block q hq).2
      omega
  · rcases hb with hb | hb
    · exact h.rb (hb ▸ e)
    · rw [hb] at e
      have := Option.some.inj e
      have := h.cfg.lt
      omega
end
theorem wrN_le (s : Sm) (ys : List Int) : wrN s ys ≤ ys.length ∧ wrN s ys ≤ s.stage := by
  unfold wrN
  by_cases h : wrC s = 0
  · rw [if_pos h]
    obtain ⟨k, hk⟩ : ∃ k, Nat.min ys.length (s.stage - s.sg.length) = k := ⟨_, rfl⟩
    obtain ⟨k1, k2, k3⟩ := nat_min hk.symm
    rw [hk]
    omega
  · rw [if_neg h]
    omega
theorem clS_facts {s : Sm} (h : s.Up) : (clS s).cl = true ∧ (clS s).lo = s.lo ∧ (clS s).cr = s.cr ∧ (clS s).sg = s.sg ∧ (clS s).frame = s.frame := by
  have hb : barC s = 0 := by unfold barC; rw [if_neg (by rw [h.1]; decide), if_neg (by rw [h.2]; decide)]
  unfold clS
  by_cases hc : wrC s = 0
  · rw [if_pos hc]
    exact ⟨rfl, rfl, rfl, rfl, rfl⟩
  · rw [if_neg hc]
    refine ⟨?_, rfl, rfl, rfl, rfl⟩
    unfold wrC at hc
    rw [if_pos hb] at hc
    cases h2 : s.cl with
    | true => rfl
    | false => rw [h2] at hc; exact absurd rfl hc
theorem gn_facts {s : Sm} (h : s.Up) (hok : s.Ok) (d : Int) : (gnS s d false).cl = s.cl ∧ (gnS s d false).lo = s.lo ∧ (gnS s d false).sg = s.sg ∧ (gnS s d false).frame = s.frame ∧ (gnS s d false).cr.W = s.cr.W ∧
    (gnS s d false).cr.h = (if gnC s d = 0 then (if s.lo then s.cr.h else s.cr.h + d) else s.cr.h) ∧ (gnC s d = 0 → s.lo = false → s.cr.h + d ≤ s.cr.W) := by
  have hW : s.cr.W ≠ 0 := by have := hok.cr.W1; omega
  by_cases h0 : gnC s d = 0
  · rw [gnS_ok h.1 h.2 h0, if_neg (by simp), if_pos h0]
    unfold gnL
    cases hl : s.lo with
    | true =>
      rw [if_pos rfl, if_pos rfl]
      exact ⟨rfl, hl, rfl, rfl, rfl, rfl, fun _ e => by cases e⟩
    | false =>
      rw [if_neg (by decide), if_neg (by decide)]
      have hg : gaC s.cr d = 0 := by
        unfold gnC at h0
        rw [h.1, h.2, hl] at h0
        exact h0
      refine ⟨rfl, rfl, rfl, rfl, gaS_W _ _, ?_, fun _ _ => ?_⟩
      · show (gaS s.cr d).h = _
        unfold gaS
        rw [if_pos hg]
      · unfold gaC at hg
        rw [if_neg hW] at hg
        by_cases h1 : s.cr.W < s.cr.h + d
        · rw [if_pos h1] at hg; cases hg
        · omega
  · rw [gnS_no h0, if_neg h0]
    exact ⟨rfl, rfl, rfl, rfl, rfl, rfl, fun e => absurd e h0⟩
section
variable {B : Nat} {a : Nat → Addr} {w wi : World} {T : Nat → Prop} {g : Nat} {s : Sm}
theorem run_fno (h : Run B a w wi T g s) (hr : rdyB s = false) : Calls Tryd.prog 29 #[.pointer (some ⟨g, 0, none⟩)] wi fun e wj => e = .returned (.tuple #[frZ, .bool false]) ∧ Run B a w wj T g s := by
  obtain ⟨Ti, h1, h2⟩ := h.ex
  exact (sframe_no wi h.sen h.hBi h1 hr).mono fun e wj ⟨e1, _, e3⟩ => ⟨e1, h.grow e3⟩
theorem run_fyes (h : Run B a w wi T g s) (hr : rdyB s = true) : Calls Tryd.prog 29 #[.pointer (some ⟨g, 0, none⟩)] wi fun e wj => ∃ v, e = .returned (.tuple #[frV (if frE s then 4 else 0) s.id (frK s) v, .bool true]) ∧ Ob wj wi.heap.size 5 v (frK s) (u8s (s.sg.take (frK s))) ∧ Run B a w wj T g (frS s) := by
  obtain ⟨Ti, h1, h2⟩ := h.ex
  exact (sframe_yes wi h.sen h.tab h.hBi h1 (h.low h2) hr).mono fun e wj ⟨v, e1, e2, e3, e4⟩ => ⟨v, e1, e2, h.step h2 (Stp.of e3 e4)⟩
end
end Go.Proofs.YthalmjjbamglgaaDoor
