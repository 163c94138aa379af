/-
  stream.Write and stream.Arrive by contracts; what an event makes of a stream.
  No condition of its own: the facts 'Sen' and 'Tab' on the world.
-/
import Derived.Test.YthalmjjbamglgaaDoorStr1
namespace Go.Proofs.YthalmjjbamglgaaDoor
open Go.RowKit

section
variable {B : Nat} {a : Nat → Addr}
theorem Pso.obj {w w' : World} {T S1 S2 : Nat → Prop} {g g1 g2 g3 g4 : Nat} {s : Sm} (h : Pso w T S1 S2 g g1 g2 g3 g4 s) (s' : Sm) (hc : Chg (fun k => k = g) w w') (hi : Is w' g 129 (smC s' g1 g2 g3 g4)) (e1 : s'.sg = s.sg) (e2 : s'.un = s.un) (e3 : s'.cr = s.cr) (e4 : s'.gr = s.gr) (e5 : s'.stage = s.stage) (ok : s'.Ok) :
    Pso w' T S1 S2 g g1 g2 g3 g4 s' := by
  have hz := hc.size
  obtain ⟨n1, n2, n3, t0, t3, t4, l0, l3, l4⟩ := h.d3
  have ew : s'.win = s.win := by unfold Sm.win; rw [e4]
  refine ⟨hi, by rw [e1, e5]; exact h.r1.chg hc fun k hk => (h.d1 k hk).2.1, by rw [e2, ew]; exact h.r2.chg hc fun k hk => (h.d2 k hk).1,
    by rw [e3]; exact h.cd.chg hc fun b ⟨q, hq, hb⟩ => by cases hq; subst hb; exact fun e => n1 e.symm, by rw [e4]; exact h.rc.chg hc fun b ⟨q, hq, hb⟩ => by cases hq; subst hb; exact fun e => n2 e.symm,
    fun k hk => by have := h.d1 k hk; exact ⟨this.1, this.2.1, this.2.2.1, this.2.2.2.1, this.2.2.2.2.1, by omega⟩, fun k hk => by have := h.d2 k hk; exact ⟨this.1, this.2.1, this.2.2.1, this.2.2.2.1, by omega⟩, ⟨n1, n2, n3, t0, t3, t4, by omega, by omega, by omega⟩, ok⟩
/-- An event of the other end's last frame. -/
theorem happen_in (w : World) (hs : Sen B a w) (ht : Tab B w) {T : Nat → Prop} {g : Nat} {s : Sm} (h : Pst w T g s) (h1 : s.li = false) (h2 : s.rs = false) :
    Calls Tryd.prog 68 #[.pointer (some ⟨g, 0, none⟩), .int .i64 5] w fun e w' => (∃ r, e = .returned r) ∧ Pst w' T g { s with li := true } ∧ Chg T w w' := by
  obtain ⟨S1, S2, g1, g2, g3, g4, hp⟩ := h
  have hn : ∀ m ac lo : Bool, nst (stOf m ac lo false false) 5 = stOf m ac lo true false ∧ ncd (stOf m ac lo false false) 5 = 0 := by
    intro m ac lo
    cases m <;> cases ac <;> cases lo <;> decide
  have hst : s.st = stOf s.mine s.acc s.lo false false := by unfold Sm.st; rw [h1, h2]
  refine (hap_in w hs ht hp.im rfl (x := s.st) (y := ({ s with li := true } : Sm).st) rfl (by rw [hst, (hn _ _ _).1]; unfold Sm.st; rw [h2]) (by rw [hst, (hn _ _ _).2])).mono ?_
  rintro e w' ⟨he, hi, hc⟩
  refine ⟨he, ⟨S1, S2, g1, g2, g3, g4, hp.obj { s with li := true } hc hi rfl rfl rfl rfl rfl ⟨hp.ok.id1, hp.ok.id2, hp.ok.f1, hp.ok.f2, hp.ok.g2, hp.ok.cr, hp.ok.gr, hp.ok.W, fun h => by cases h⟩⟩, hc.more fun k hk e => by rw [e]; exact hp.d3.2.2.2.1⟩
theorem happen_out (w : World) (hs : Sen B a w) (ht : Tab B w) {T : Nat → Prop} {g : Nat} {s : Sm} (h : Pst w T g s) (h1 : s.lo = false) (h2 : s.rs = false) :
    Calls Tryd.prog 68 #[.pointer (some ⟨g, 0, none⟩), .int .i64 4] w fun e w' => (∃ r, e = .returned r) ∧ Pst w' T g { s with lo := true } ∧ Chg T w w' := by
  obtain ⟨S1, S2, g1, g2, g3, g4, hp⟩ := h
  have hn : ∀ m ac li : Bool, nst (stOf m ac false li false) 4 = stOf m ac true li false ∧ ncd (stOf m ac false li false) 4 = 0 := by
    intro m ac li
    cases m <;> cases ac <;> cases li <;> decide
  have hst : s.st = stOf s.mine s.acc false s.li false := by unfold Sm.st; rw [h1, h2]
  refine (hap_out w hs ht hp.im rfl (x := s.st) (y := ({ s with lo := true } : Sm).st) rfl (by rw [hst, (hn _ _ _).1]; unfold Sm.st; rw [h2]) (by rw [hst, (hn _ _ _).2])).mono ?_
  rintro e w' ⟨he, hi, hc⟩
  refine ⟨he, ⟨S1, S2, g1, g2, g3, g4, hp.obj { s with lo := true } hc hi rfl rfl rfl rfl rfl ⟨hp.ok.id1, hp.ok.id2, hp.ok.f1, hp.ok.f2, hp.ok.g2, hp.ok.cr, hp.ok.gr, hp.ok.W, hp.ok.un⟩⟩, hc.more fun k hk e => by rw [e]; exact hp.d3.2.2.2.1⟩

def wrC (s : Sm) : Nat := if barC s = 0 then (if s.cl then 24 else 0) else barC s
def wrN (s : Sm) (ys : List Int) : Nat := if wrC s = 0 then Nat.min ys.length (s.stage - s.sg.length) else 0
def wrS (s : Sm) (ys : List Int) : Sm := { s with sg := s.sg ++ ys.take (wrN s ys) }
theorem barC_cases (s : Sm) : barC s = 0 ∧ s.rs = false ∧ s.ct = false ∨ barC s = 26 ∧ s.rs = true ∨ barC s = 27 ∧ s.rs = false ∧ s.ct = true := by
  unfold barC
  cases h1 : s.rs <;> cases h2 : s.ct <;> simp
set_option maxRecDepth 100000 in
theorem write_any (w : World) (hs : Sen B a w) {T : Nat → Prop} {g : Nat} {s : Sm} (h : Pst w T g s) (hT : ∀ k, w.heap.size ≤ k → T k) (v : Value) (ys : List Int) (hv : BsO w v ys) (hvT : ∀ k, rdk v = some k → k < w.heap.size ∧ ¬ T k) (hy : ys.length ≤ 140737488355328) :
    Calls Tryd.prog 22 #[.pointer (some ⟨g, 0, none⟩), v] w fun e w' => e = .returned (.tuple #[.int .i64 (wrN s ys : Int), errv a (wrC s)]) ∧ Pst w' T g (wrS s ys) ∧ Chg T w w' := by
  have H := Lib.hid h
  have HS := Lib.hid hs
  have HT := Lib.hid hT
  have HV := Lib.hid (And.intro hv (And.intro hvT hy))
  have hsame : wrC s ≠ 0 → wrS s ys = s ∧ wrN s ys = 0 := fun h0 => by
    have e : wrN s ys = 0 := by unfold wrN; rw [if_neg h0]
    refine ⟨?_, e⟩
    unfold wrS
    rw [e, List.take_zero, List.append_nil]
  obtain ⟨S1, S2, g1, g2, g3, g4, hp⟩ := h
  have c5 : w.cell? ⟨g, 5, none⟩ = some (.pointer (some ⟨g1, 0, none⟩)) := hp.im.at_ 5 _ rfl
  have c6 : w.cell? ⟨g, 6, none⟩ = some (.bool s.cl) := hp.im.at_ 6 _ rfl
  have c6' : ∀ Q, (w.drewN Q).cell? ⟨g, 6, none⟩ = some (.bool s.cl) := fun Q => hp.im.at_ 6 _ rfl
  have h24 : ∀ Q, (w.drewN Q).cell? ⟨2, 0, none⟩ = some (.iface 200 (.pointer (some (a 24)))) := fun Q => hs.cell 24 (by decide) (by decide)
  have HP := Lib.hid hp
  clear hs hT hv hvT hy hp
  rcases barC_cases s with ⟨hb, hr, hct⟩ | ⟨hb, hr⟩ | ⟨hb, hr, hct⟩
  · cases hcl : s.cl with
    | true =>
      have hc : wrC s = 24 := by unfold wrC; rw [if_pos hb, if_pos hcl]
      obtain ⟨e1, e2⟩ := hsame (by rw [hc]; decide)
      rw [hc, e1, e2, show errv a 24 = .iface 200 (.pointer (some (a 24))) from rfl]
      rw [hcl] at c6 c6'
      have HB := Lib.hid hb
      clear hb hr hct hcl hc e1 e2 hsame
      go_enter Tryd.func22, Tryd.ntmps22
      go_wp2_with fail
      refine (bars_any w HS.out H.out).mono ?_
      rintro e w' ⟨rfl, rfl⟩
      rw [HB.out, show errv a 0 = Value.nilIface from rfl]
      go_wp2_with fail
      go_quiet (fail)
      go_wp2
      go_ret2
      exact ⟨rfl, ⟨S1, S2, g1, g2, g3, g4, HP.out.keep ((Chg.refl none_ w).drewN _)⟩, (Chg.refl T w).drewN _⟩
    | false =>
      have hc : wrC s = 0 := by unfold wrC; rw [if_pos hb, hcl]; rfl
      have hN : wrN s ys = Nat.min ys.length (s.stage - s.sg.length) := by unfold wrN; rw [if_pos hc]
      have HNn := Lib.hid hN
      rw [hc, show errv a 0 = Value.nilIface from rfl]
      rw [hcl] at c6
      have HB := Lib.hid hb
      clear hb hr hct hcl hc hsame c6' hN
      go_enter Tryd.func22, Tryd.ntmps22
      go_wp2_with fail
      refine (bars_any w HS.out H.out).mono ?_
      rintro e w' ⟨rfl, rfl⟩
      rw [HB.out, show errv a 0 = Value.nilIface from rfl]
      go_wp2_with fail
      refine (push_any w HP.out.r1 v HV.out.1 (fun k hk => ⟨(HV.out.2.1 k hk).1, fun h => (HV.out.2.1 k hk).2 (HP.out.d1 k h).2.2.2.2.1⟩) HV.out.2.2).mono ?_
      rintro e w' ⟨rfl, k1, k2⟩
      have K1 := Lib.hid k1
      have K2 := Lib.hid k2
      clear k1 k2
      go_wp2
      go_ret2
      refine ⟨by rw [HNn.out]; rfl, ⟨fun k => S1 k ∨ w.heap.size ≤ k ∧ k < w'.heap.size, S2, g1, g2, g3, g4, ?_⟩, K2.out.more fun k hk h => (HP.out.d1 k h).2.2.2.2.1⟩
      unfold wrS
      rw [HNn.out]
      exact HP.out.ring1 HT.out K1.out K2.out fun k hk => hk
  · have hc : wrC s = 26 := by unfold wrC; rw [if_neg (by rw [hb]; decide), hb]
    obtain ⟨e1, e2⟩ := hsame (by rw [hc]; decide)
    rw [hc, e1, e2, show errv a 26 = .iface 200 (.pointer (some (a 26))) from rfl]
    have HB := Lib.hid hb
    clear hb hr hc e1 e2 hsame
    go_enter Tryd.func22, Tryd.ntmps22
    go_wp2_with fail
    refine (bars_any w HS.out H.out).mono ?_
    rintro e w' ⟨rfl, rfl⟩
    rw [HB.out, show errv a 26 = .iface 200 (.pointer (some (a 26))) from rfl]
    go_wp2
    go_ret2
    exact ⟨rfl, H.out, Chg.refl _ _⟩
  · have hc : wrC s = 27 := by unfold wrC; rw [if_neg (by rw [hb]; decide), hb]
    obtain ⟨e1, e2⟩ := hsame (by rw [hc]; decide)
    rw [hc, e1, e2, show errv a 27 = .iface 200 (.pointer (some (a 27))) from rfl]
    have HB := Lib.hid hb
    clear hb hr hct hc e1 e2 hsame
    go_enter Tryd.func22, Tryd.ntmps22
    go_wp2_with fail
    refine (bars_any w HS.out H.out).mono ?_
    rintro e w' ⟨rfl, rfl⟩
    rw [HB.out, show errv a 27 = .iface 200 (.pointer (some (a 27))) from rfl]
    go_wp2
    go_ret2
    exact ⟨rfl, H.out, Chg.refl _ _⟩
end
end Go.Proofs.YthalmjjbamglgaaDoor
