/-
  stream.Reset, Cut, Quiet, Done and Held by contracts.
  No condition of its own: the facts 'Sen' and 'Tab' on the world.
-/
import Derived.Test.YthalmjjbamglgaaDoorStrA
namespace Go.Proofs.YthalmjjbamglgaaDoor
open Go.RowKit

section
variable {B : Nat} {a : Nat → Addr}
def rsS (s : Sm) : Sm := { s with sg := [], un := [], rs := true }
def ctS (s : Sm) : Sm := if (s.rs || s.ct) = true then s else { s with sg := [], ct := true }
def quB (s : Sm) : Bool := !s.rs && s.lo && s.li
def dnB (s : Sm) : Bool := if s.rs then true else if s.ct then s.td else quB s && s.td
theorem nst_reset (m ac lo li rs : Bool) : nst (stOf m ac lo li rs) 6 = 7 ∧ ncd (stOf m ac lo li rs) 6 = 0 := by
  cases m <;> cases ac <;> cases lo <;> cases li <;> cases rs <;> decide
set_option maxRecDepth 100000 in
set_option maxHeartbeats 1000000 in
theorem happen_reset (w : World) (hs : Sen B a w) (ht : Tab B w) {T : Nat → Prop} {g : Nat} {s : Sm} (h : Pst w T g s) :
    Calls Tryd.prog 68 #[.pointer (some ⟨g, 0, none⟩), .int .i64 6] w fun e w' => (∃ r, e = .returned r) ∧ Pst w' T g (rsS s) ∧ Chg T w w' := by
  obtain ⟨S1, S2, g1, g2, g3, g4, hp⟩ := h
  have d4 : ∀ Q, (w.drewN Q).cell? ⟨g, 4, none⟩ = some (.int .i64 s.st) := fun Q => hp.im.at_ 4 _ rfl
  have c4 : w.cell? ⟨g, 4, none⟩ = some (.int .i64 s.st) := hp.im.at_ 4 _ rfl
  have f4 : ∀ Q, (w.drewN Q).frozen? ⟨g, 4, none⟩ = false := fun Q => hp.im.frozen 4
  have f13 : ∀ Q, (w.drewN Q).frozen? ⟨g, 13, none⟩ = false := fun Q => hp.im.frozen 13
  have d13 : ∀ Q, (w.drewN Q).cell? ⟨g, 13, none⟩ = some (.bool s.rs) := fun Q => hp.im.at_ 13 _ rfl
  have d5 : ∀ Q, (w.drewN Q).cell? ⟨g, 5, none⟩ = some (.pointer (some ⟨g1, 0, none⟩)) := fun Q => hp.im.at_ 5 _ rfl
  obtain ⟨x, hx⟩ : ∃ x, s.st = x := ⟨_, rfl⟩
  have HN : Hid (nst x 6 = 7 ∧ ncd x 6 = 0) := by
    show _ ∧ _
    rw [← hx]
    exact nst_reset _ _ _ _ _
  have hpq : ∀ q, Pso (((w.drewN q).setCell ⟨g, 4, none⟩ (.int .i64 7)).setCell ⟨g, 13, none⟩ (.bool true)) T S1 S2 g g1 g2 g3 g4 { s with rs := true } := fun q =>
    hp.obj { s with rs := true } ((((Chg.refl (fun k => k = g) w).drewN q).setCell (p := ⟨g, 4, none⟩) (fun _ => rfl) _).setCell (p := ⟨g, 13, none⟩) (fun _ => rfl) _) (((hp.im.drewN q).put 4 (.int .i64 7)).put 13 (.bool true)) rfl rfl rfl rfl rfl ⟨hp.ok.id1, hp.ok.id2, hp.ok.f1, hp.ok.f2, hp.ok.g2, hp.ok.cr, hp.ok.gr, hp.ok.W, fun _ _ h => by cases h⟩
  have hcq : ∀ q, Chg T w (((w.drewN q).setCell ⟨g, 4, none⟩ (.int .i64 7)).setCell ⟨g, 13, none⟩ (.bool true)) := fun q =>
    ((((Chg.refl (fun k => k = g) w).drewN q).setCell (p := ⟨g, 4, none⟩) (fun _ => rfl) _).setCell (p := ⟨g, 13, none⟩) (fun _ => rfl) _).more fun k _ e => by rw [e]; exact hp.d3.2.2.2.1
  have HPQ := Lib.hid hpq
  have HCQ := Lib.hid hcq
  have HS := Lib.hid hs
  have HT := Lib.hid ht
  rw [hx] at d4 c4
  clear hs ht hp hx hpq hcq
  go_enter Tryd.func68, Tryd.ntmps68
  go_wp2_with fail
  refine (next_any w HS.out HT.out x 6).mono ?_
  rintro e w' ⟨rfl, q, rfl⟩
  rw [HN.out.1, HN.out.2, show errv a 0 = Value.nilIface from rfl]
  go_wp2_with fail
  refine (clear_any _ (HPQ.out q).r1).mono ?_
  rintro e w1 ⟨⟨r1, rfl⟩, j1, j2⟩
  have hp1 := (HPQ.out q).ring1' j1 j2
  have hc1 := (HCQ.out q).trans (j2.more fun k _ h => ((HPQ.out q).d1 k h).2.2.2.2.1)
  have e9 : w1.cell? ⟨g, 9, none⟩ = some (.pointer (some ⟨g2, 0, none⟩)) := hp1.im.at_ 9 _ rfl
  have HP1 := Lib.hid hp1
  have HC1 := Lib.hid hc1
  clear j1 j2 hp1 hc1
  go_wp2_with fail
  refine (clear_any _ HP1.out.r2).mono ?_
  rintro e w2 ⟨⟨r2, rfl⟩, j1, j2⟩
  have hp2 := HP1.out.ring2' j1 (j2.more fun k _ h => .inl h) s.gr (HP1.out.rc.chg j2 fun b ⟨q, hq, hb⟩ h => by cases hq; subst hb; exact (HP1.out.d2 _ h).2.2.1 rfl) rfl ⟨HP1.out.ok.id1, HP1.out.ok.id2, HP1.out.ok.f1, HP1.out.ok.f2, HP1.out.ok.g2, HP1.out.ok.cr, HP1.out.ok.gr, HP1.out.ok.W, fun _ _ h => by cases h⟩
  have hc2 := HC1.out.trans (j2.more fun k _ h => (HP1.out.d2 k h).2.2.2.1)
  have HP2 := Lib.hid hp2
  have HC2 := Lib.hid hc2
  clear j1 j2 hp2 hc2
  go_wp2
  first | go_end0 | refine bodyPost_ret (results_none rfl _ _ _) rfl ?_
  exact ⟨⟨_, rfl⟩, ⟨S1, S2, g1, g2, g3, g4, HP2.out⟩, HC2.out⟩
theorem sreset_any (w : World) (hs : Sen B a w) (ht : Tab B w) {T : Nat → Prop} {g : Nat} {s : Sm} (h : Pst w T g s) :
    Calls Tryd.prog 78 #[.pointer (some ⟨g, 0, none⟩)] w fun e w' => (∃ r, e = .returned r) ∧ Pst w' T g (rsS s) ∧ Chg T w w' := by
  have HH := Lib.hid (happen_reset w hs ht h)
  clear hs ht h
  go_enter Tryd.func78, Tryd.ntmps78
  go_wp2_with fail
  refine HH.out.mono ?_
  rintro e w1 ⟨⟨r1, rfl⟩, j1, j2⟩
  have J := Lib.hid (And.intro j1 j2)
  clear j1 j2
  go_wp2
  first | go_end0 | refine bodyPost_ret (results_none rfl _ _ _) rfl ?_
  exact ⟨⟨_, rfl⟩, J.out⟩
set_option maxRecDepth 100000 in
theorem scut_any (w : World) {T : Nat → Prop} {g : Nat} {s : Sm} (h : Pst w T g s) :
    Calls Tryd.prog 77 #[.pointer (some ⟨g, 0, none⟩)] w fun e w' => (∃ r, e = .returned r) ∧ Pst w' T g (ctS s) ∧ Chg T w w' := by
  have H := Lib.hid h
  obtain ⟨S1, S2, g1, g2, g3, g4, hp⟩ := h
  have c5 : w.cell? ⟨g, 5, none⟩ = some (.pointer (some ⟨g1, 0, none⟩)) := hp.im.at_ 5 _ rfl
  have c13 : w.cell? ⟨g, 13, none⟩ = some (.bool s.rs) := hp.im.at_ 13 _ rfl
  have c14 : w.cell? ⟨g, 14, none⟩ = some (.bool s.ct) := hp.im.at_ 14 _ rfl
  have f14 : w.frozen? ⟨g, 14, none⟩ = false := hp.im.frozen 14
  have HP := Lib.hid hp
  clear hp
  cases hr : s.rs with
  | true =>
    have e1 : ctS s = s := by unfold ctS; rw [hr]; rfl
    rw [e1]
    rw [hr] at c13
    clear hr e1
    go_enter Tryd.func77, Tryd.ntmps77
    go_wp2
    first | go_end0 | refine bodyPost_ret (results_none rfl _ _ _) rfl ?_
    exact ⟨⟨_, rfl⟩, H.out, Chg.refl _ _⟩
  | false =>
    rw [hr] at c13
    cases hc : s.ct with
    | true =>
      have e1 : ctS s = s := by unfold ctS; rw [hr, hc]; rfl
      rw [e1]
      rw [hc] at c14
      clear hr hc e1
      go_enter Tryd.func77, Tryd.ntmps77
      go_wp2
      first | go_end0 | refine bodyPost_ret (results_none rfl _ _ _) rfl ?_
      exact ⟨⟨_, rfl⟩, H.out, Chg.refl _ _⟩
    | false =>
      have e1 : ctS s = { s with sg := [], ct := true } := by unfold ctS; rw [hr, hc]; rfl
      rw [e1]
      rw [hc] at c14
      have hq : Pso (w.setCell ⟨g, 14, none⟩ (.bool true)) T S1 S2 g g1 g2 g3 g4 { s with ct := true } :=
        HP.out.set 14 (.bool true) { s with ct := true } rfl rfl rfl rfl rfl rfl ⟨HP.out.ok.id1, HP.out.ok.id2, HP.out.ok.f1, HP.out.ok.f2, HP.out.ok.g2, HP.out.ok.cr, HP.out.ok.gr, HP.out.ok.W, fun _ h => by cases h⟩
      have hcq : Chg T w (w.setCell ⟨g, 14, none⟩ (.bool true)) := ((Chg.refl (fun k => k = g) w).setCell (p := ⟨g, 14, none⟩) (fun _ => rfl) _).more fun k _ e => by rw [e]; exact HP.out.d3.2.2.2.1
      have HQ := Lib.hid hq
      have HCQ := Lib.hid hcq
      clear hr hc e1 hq hcq
      go_enter Tryd.func77, Tryd.ntmps77
      go_wp2_with fail
      refine (clear_any _ HQ.out.r1).mono ?_
      rintro e w1 ⟨⟨r1, rfl⟩, j1, j2⟩
      have hp1 := HQ.out.ring1' j1 j2
      have hc1 := HCQ.out.trans (j2.more fun k _ h => (HQ.out.d1 k h).2.2.2.2.1)
      have HP1 := Lib.hid hp1
      have HC1 := Lib.hid hc1
      clear j1 j2 hp1 hc1
      go_wp2
      first | go_end0 | refine bodyPost_ret (results_none rfl _ _ _) rfl ?_
      exact ⟨⟨_, rfl⟩, ⟨S1, S2, g1, g2, g3, g4, HP1.out⟩, HC1.out⟩
theorem squiet_any (w : World) {T : Nat → Prop} {g : Nat} {s : Sm} (h : Pst w T g s) :
    Calls Tryd.prog 54 #[.pointer (some ⟨g, 0, none⟩)] w fun e w' => e = .returned (.bool (quB s)) ∧ w = w' := by
  obtain ⟨S1, S2, g1, g2, g3, g4, hp⟩ := h
  have c7 : w.cell? ⟨g, 7, none⟩ = some (.bool s.lo) := hp.im.at_ 7 _ rfl
  have c10 : w.cell? ⟨g, 10, none⟩ = some (.bool s.li) := hp.im.at_ 10 _ rfl
  have c13 : w.cell? ⟨g, 13, none⟩ = some (.bool s.rs) := hp.im.at_ 13 _ rfl
  clear hp
  unfold quB
  generalize s.lo = lo at c7 ⊢
  generalize s.li = li at c10 ⊢
  generalize s.rs = rs at c13 ⊢
  cases rs <;> cases lo <;> cases li <;>
    (go_enter Tryd.func54, Tryd.ntmps54
     go_wp2
     go_ret
     exact ⟨rfl, rfl⟩)
theorem sdone_any (w : World) {T : Nat → Prop} {g : Nat} {s : Sm} (h : Pst w T g s) :
    Calls Tryd.prog 55 #[.pointer (some ⟨g, 0, none⟩)] w fun e w' => e = .returned (.bool (dnB s)) ∧ w = w' := by
  have H := Lib.hid h
  obtain ⟨S1, S2, g1, g2, g3, g4, hp⟩ := h
  have c11 : w.cell? ⟨g, 11, none⟩ = some (.bool s.td) := hp.im.at_ 11 _ rfl
  have c13 : w.cell? ⟨g, 13, none⟩ = some (.bool s.rs) := hp.im.at_ 13 _ rfl
  have c14 : w.cell? ⟨g, 14, none⟩ = some (.bool s.ct) := hp.im.at_ 14 _ rfl
  have HQ := Lib.hid (squiet_any w H.out)
  clear hp
  unfold dnB
  generalize s.td = td at c11 ⊢
  generalize s.rs = rs at c13 ⊢
  generalize s.ct = ct at c14 ⊢
  generalize quB s = qu at HQ ⊢
  cases rs with
  | true =>
    go_enter Tryd.func55, Tryd.ntmps55
    go_wp2
    go_ret
    exact ⟨rfl, rfl⟩
  | false =>
    cases ct with
    | true =>
      go_enter Tryd.func55, Tryd.ntmps55
      go_wp2
      go_ret
      exact ⟨rfl, rfl⟩
    | false =>
      cases qu <;>
        (go_enter Tryd.func55, Tryd.ntmps55
         go_wp2_with fail
         refine HQ.out.mono ?_
         rintro e w' ⟨rfl, rfl⟩
         go_wp2
         go_ret
         exact ⟨rfl, rfl⟩)
end
end Go.Proofs.YthalmjjbamglgaaDoor
