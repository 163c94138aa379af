/-
  stream.Ready and Frame by contracts.
  No condition of its own: the facts 'Sen' and 'Tab' on the world.
-/
import Derived.Test.YthalmjjbamglgaaDoorG5
import Derived.StillTailTactics
import Derived.Deep.RegionHeld3
namespace Go.Proofs.YthalmjjbamglgaaDoor
open Go.RowKit

section
variable {B : Nat} {a : Nat → Addr}
def rdyB (s : Sm) : Bool := if barC s = 0 then (if (s.mine || s.acc) && !s.lo then (if s.sg = [] then s.cl else decide (0 < s.cr.h)) else false) else false
set_option maxRecDepth 100000 in
set_option maxHeartbeats 2000000 in
theorem sready_any (w : World) (hs : Sen B a w) {T : Nat → Prop} {g : Nat} {s : Sm} (h : Pst w T g s) :
    Calls Tryd.prog 56 #[.pointer (some ⟨g, 0, none⟩)] w fun e w' => e = .returned (.bool (rdyB s)) ∧ w = w' := by
  have H := Lib.hid h
  have HS := Lib.hid hs
  obtain ⟨S1, S2, g1, g2, g3, g4, hp⟩ := h
  have c1 : w.cell? ⟨g, 1, none⟩ = some (.bool s.mine) := hp.im.at_ 1 _ rfl
  have c2 : w.cell? ⟨g, 2, none⟩ = some (.bool s.acc) := hp.im.at_ 2 _ rfl
  have c5 : w.cell? ⟨g, 5, none⟩ = some (.pointer (some ⟨g1, 0, none⟩)) := hp.im.at_ 5 _ rfl
  have c6 : w.cell? ⟨g, 6, none⟩ = some (.bool s.cl) := hp.im.at_ 6 _ rfl
  have c7 : w.cell? ⟨g, 7, none⟩ = some (.bool s.lo) := hp.im.at_ 7 _ rfl
  have c8 : w.cell? ⟨g, 8, none⟩ = some (.pointer (some ⟨g3, 0, none⟩)) := hp.im.at_ 8 _ rfl
  have HP := Lib.hid hp
  clear hp hs
  rcases barC_cases s with ⟨hb, _, _⟩ | hb
  · have HB := Lib.hid hb
    have hrd : rdyB s = if (s.mine || s.acc) && !s.lo then (if s.sg = [] then s.cl else decide (0 < s.cr.h)) else false := by unfold rdyB; rw [if_pos hb]
    rw [hrd]
    clear hb hrd
    generalize hmi : s.mine = mi at c1 ⊢
    generalize hac : s.acc = ac at c2 ⊢
    generalize hlo : s.lo = lo at c7 ⊢
    clear hmi hac hlo
    have fin : ∀ (lo mi ac : Bool), w.cell? ⟨g, 1, none⟩ = some (.bool mi) → w.cell? ⟨g, 2, none⟩ = some (.bool ac) → w.cell? ⟨g, 7, none⟩ = some (.bool lo) → ((mi || ac) && !lo) = true →
        Calls Tryd.prog 56 #[.pointer (some ⟨g, 0, none⟩)] w fun e w' => e = .returned (.bool (if s.sg = [] then s.cl else decide (0 < s.cr.h))) ∧ w = w' := by
      clear c1 c2 c7
      intro lo mi ac c1 c2 c7 hok
      obtain ⟨n, hn⟩ : ∃ n, s.sg.length = n := ⟨_, rfl⟩
      have HN := Lib.hid hn
      by_cases hz : n = 0
      · have e : s.sg = [] := List.eq_nil_of_length_eq_zero (by omega)
        rw [if_pos e]
        subst hz
        clear e hn
        cases mi <;> cases ac <;> cases lo <;> first
          | (exfalso; revert hok; decide)
          | (clear hok
             go_enter Tryd.func56, Tryd.ntmps56
             go_wp2_with fail
             refine (bars_any w HS.out H.out).mono ?_
             rintro e w' ⟨rfl, rfl⟩
             rw [HB.out, show errv a 0 = Value.nilIface from rfl]
             go_wp2_with fail
             refine (rlen_any w HP.out.r1).mono ?_
             rintro e w' ⟨rfl, rfl⟩
             rw [HN.out]
             go_wp2
             go_ret
             exact ⟨rfl, rfl⟩)
      · have e : s.sg ≠ [] := fun e => by rw [e] at hn; simp at hn; omega
        rw [if_neg e]
        have hnz : ¬ (n : Int) = 0 := by omega
        clear e hn
        cases mi <;> cases ac <;> cases lo <;> first
          | (exfalso; revert hok; decide)
          | (clear hok
             go_enter Tryd.func56, Tryd.ntmps56
             go_wp2_with fail
             refine (bars_any w HS.out H.out).mono ?_
             rintro e w' ⟨rfl, rfl⟩
             rw [HB.out, show errv a 0 = Value.nilIface from rfl]
             go_wp2_with fail
             refine (rlen_any w HP.out.r1).mono ?_
             rintro e w' ⟨rfl, rfl⟩
             rw [HN.out]
             go_wp2_with fail
             refine (crhave_any w _ _ HP.out.cd).mono ?_
             rintro e w' ⟨rfl, rfl⟩
             go_wp2
             go_ret
             exact ⟨rfl, rfl⟩)
    by_cases hok : ((mi || ac) && !lo) = true
    · rw [if_pos hok]
      exact fin lo mi ac c1 c2 c7 hok
    · rw [if_neg hok]
      clear fin
      cases mi <;> cases ac <;> cases lo <;> first
        | (exfalso; revert hok; decide)
        | (clear hok
           go_enter Tryd.func56, Tryd.ntmps56
           go_wp2_with fail
           refine (bars_any w HS.out H.out).mono ?_
           rintro e w' ⟨rfl, rfl⟩
           rw [HB.out, show errv a 0 = Value.nilIface from rfl]
           go_wp2
           go_ret
           exact ⟨rfl, rfl⟩)
  · have hrd : rdyB s = false := by
      unfold rdyB
      rw [if_neg (by rcases hb with hb | hb <;> rw [hb.1] <;> decide)]
    rw [hrd]
    obtain ⟨c, hc, hc0⟩ : ∃ c, barC s = c + 1 ∧ True := by
      rcases hb with hb | hb
      · exact ⟨25, hb.1, trivial⟩
      · exact ⟨26, hb.1, trivial⟩
    have HB := Lib.hid hc
    clear hb hrd hc hc0
    go_enter Tryd.func56, Tryd.ntmps56
    go_wp2_with fail
    refine (bars_any w HS.out H.out).mono ?_
    rintro e w' ⟨rfl, rfl⟩
    rw [HB.out, show errv a (c + 1) = .iface 200 (.pointer (some (a (c + 1)))) from rfl]
    go_wp2
    go_ret
    exact ⟨rfl, rfl⟩
end
end Go.Proofs.YthalmjjbamglgaaDoor
