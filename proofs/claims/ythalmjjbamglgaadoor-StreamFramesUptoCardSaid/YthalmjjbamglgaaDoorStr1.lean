/-
  stream.happen by contracts, event by event; bars.
  No condition of its own: the facts 'Sen' and 'Tab' on the world.
-/
import Derived.Test.YthalmjjbamglgaaDoorStm
namespace Go.Proofs.YthalmjjbamglgaaDoor
open Go.RowKit

section
variable {B : Nat} {a : Nat → Addr}
set_option maxRecDepth 100000 in
theorem hap_open (w : World) (hs : Sen B a w) (ht : Tab B w) {g : Nat} {cs : Array Value} (hi : Is w g 129 cs) (_hsz : cs.size = 15) {x y : Int} (hx : cs[4]? = some (.int .i64 x)) (hn : nst x 0 = y) (hc : ncd x 0 = 0) :
    Calls Tryd.prog 68 #[.pointer (some ⟨g, 0, none⟩), .int .i64 0] w fun e w' => (∃ r, e = .returned r) ∧ Is w' g 129 (cs.setIfInBounds 4 (.int .i64 y)) ∧ Chg (fun k => k = g) w w' := by
  have d4 : ∀ Q, (w.drewN Q).cell? ⟨g, 4, none⟩ = some (.int .i64 x) := fun Q => hi.at_ 4 _ hx
  have c4 : w.cell? ⟨g, 4, none⟩ = some (.int .i64 x) := hi.at_ 4 _ hx
  have f4 : ∀ Q, (w.drewN Q).frozen? ⟨g, 4, none⟩ = false := fun Q => hi.frozen 4
  have HI := Lib.hid hi
  have HS := Lib.hid hs
  have HT := Lib.hid ht
  have HN := Lib.hid (And.intro hn hc)
  clear hi _hsz hx hn hc hs ht
  go_enter Tryd.func68, Tryd.ntmps68
  go_wp2_with fail
  refine (next_any w HS.out HT.out x 0).mono ?_
  rintro e w' ⟨rfl, q, rfl⟩
  rw [HN.out.1, HN.out.2, show errv a 0 = Value.nilIface from rfl]
  go_wp2
  first | go_end0 | refine bodyPost_ret (results_none rfl _ _ _) rfl ?_
  exact ⟨⟨_, rfl⟩, HI.out.put 4 _, (((Chg.refl (fun k => k = g) w).drewN q).setCell (p := ⟨g, 4, none⟩) (fun _ => rfl) _)⟩
set_option maxRecDepth 100000 in
theorem hap_syn (w : World) (hs : Sen B a w) (ht : Tab B w) {g : Nat} {cs : Array Value} (hi : Is w g 129 cs) (_hsz : cs.size = 15) {x y : Int} (hx : cs[4]? = some (.int .i64 x)) (hn : nst x 1 = y) (hc : ncd x 1 = 0) :
    Calls Tryd.prog 68 #[.pointer (some ⟨g, 0, none⟩), .int .i64 1] w fun e w' => (∃ r, e = .returned r) ∧ Is w' g 129 (cs.setIfInBounds 4 (.int .i64 y)) ∧ Chg (fun k => k = g) w w' := by
  have d4 : ∀ Q, (w.drewN Q).cell? ⟨g, 4, none⟩ = some (.int .i64 x) := fun Q => hi.at_ 4 _ hx
  have c4 : w.cell? ⟨g, 4, none⟩ = some (.int .i64 x) := hi.at_ 4 _ hx
  have f4 : ∀ Q, (w.drewN Q).frozen? ⟨g, 4, none⟩ = false := fun Q => hi.frozen 4
  have HI := Lib.hid hi
  have HS := Lib.hid hs
  have HT := Lib.hid ht
  have HN := Lib.hid (And.intro hn hc)
  clear hi _hsz hx hn hc hs ht
  go_enter Tryd.func68, Tryd.ntmps68
  go_wp2_with fail
  refine (next_any w HS.out HT.out x 1).mono ?_
  rintro e w' ⟨rfl, q, rfl⟩
  rw [HN.out.1, HN.out.2, show errv a 0 = Value.nilIface from rfl]
  go_wp2
  first | go_end0 | refine bodyPost_ret (results_none rfl _ _ _) rfl ?_
  exact ⟨⟨_, rfl⟩, HI.out.put 4 _, (((Chg.refl (fun k => k = g) w).drewN q).setCell (p := ⟨g, 4, none⟩) (fun _ => rfl) _)⟩
set_option maxRecDepth 100000 in
theorem hap_accept (w : World) (hs : Sen B a w) (ht : Tab B w) {g : Nat} {cs : Array Value} (hi : Is w g 129 cs) (hsz : cs.size = 15) {x y : Int} (hx : cs[4]? = some (.int .i64 x)) (hn : nst x 2 = y) (hc : ncd x 2 = 0) :
    Calls Tryd.prog 68 #[.pointer (some ⟨g, 0, none⟩), .int .i64 2] w fun e w' => (∃ r, e = .returned r) ∧ Is w' g 129 ((cs.setIfInBounds 4 (.int .i64 y)).setIfInBounds 2 (.bool true)) ∧ Chg (fun k => k = g) w w' := by
  have d4 : ∀ Q, (w.drewN Q).cell? ⟨g, 4, none⟩ = some (.int .i64 x) := fun Q => hi.at_ 4 _ hx
  have c4 : w.cell? ⟨g, 4, none⟩ = some (.int .i64 x) := hi.at_ 4 _ hx
  have f4 : ∀ Q, (w.drewN Q).frozen? ⟨g, 4, none⟩ = false := fun Q => hi.frozen 4
  have f2 : ∀ Q, (w.drewN Q).frozen? ⟨g, 2, none⟩ = false := fun Q => hi.frozen 2
  obtain ⟨v2, hv2⟩ : ∃ v, cs[2]? = some v := ⟨_, Array.getElem?_eq_getElem (by omega)⟩
  have d2 : ∀ Q, (w.drewN Q).cell? ⟨g, 2, none⟩ = some v2 := fun Q => hi.at_ 2 _ hv2
  have HI := Lib.hid hi
  have HS := Lib.hid hs
  have HT := Lib.hid ht
  have HN := Lib.hid (And.intro hn hc)
  clear hi hsz hx hn hc hs ht hv2
  go_enter Tryd.func68, Tryd.ntmps68
  go_wp2_with fail
  refine (next_any w HS.out HT.out x 2).mono ?_
  rintro e w' ⟨rfl, q, rfl⟩
  rw [HN.out.1, HN.out.2, show errv a 0 = Value.nilIface from rfl]
  go_wp2
  first | go_end0 | refine bodyPost_ret (results_none rfl _ _ _) rfl ?_
  exact ⟨⟨_, rfl⟩, (HI.out.put 4 _).put 2 _, ((((Chg.refl (fun k => k = g) w).drewN q).setCell (p := ⟨g, 4, none⟩) (fun _ => rfl) _).setCell (p := ⟨g, 2, none⟩) (fun _ => rfl) _)⟩
set_option maxRecDepth 100000 in
theorem hap_ack (w : World) (hs : Sen B a w) (ht : Tab B w) {g : Nat} {cs : Array Value} (hi : Is w g 129 cs) (hsz : cs.size = 15) {x y : Int} (hx : cs[4]? = some (.int .i64 x)) (hn : nst x 3 = y) (hc : ncd x 3 = 0) :
    Calls Tryd.prog 68 #[.pointer (some ⟨g, 0, none⟩), .int .i64 3] w fun e w' => (∃ r, e = .returned r) ∧ Is w' g 129 ((cs.setIfInBounds 4 (.int .i64 y)).setIfInBounds 2 (.bool true)) ∧ Chg (fun k => k = g) w w' := by
  have d4 : ∀ Q, (w.drewN Q).cell? ⟨g, 4, none⟩ = some (.int .i64 x) := fun Q => hi.at_ 4 _ hx
  have c4 : w.cell? ⟨g, 4, none⟩ = some (.int .i64 x) := hi.at_ 4 _ hx
  have f4 : ∀ Q, (w.drewN Q).frozen? ⟨g, 4, none⟩ = false := fun Q => hi.frozen 4
  have f2 : ∀ Q, (w.drewN Q).frozen? ⟨g, 2, none⟩ = false := fun Q => hi.frozen 2
  obtain ⟨v2, hv2⟩ : ∃ v, cs[2]? = some v := ⟨_, Array.getElem?_eq_getElem (by omega)⟩
  have d2 : ∀ Q, (w.drewN Q).cell? ⟨g, 2, none⟩ = some v2 := fun Q => hi.at_ 2 _ hv2
  have HI := Lib.hid hi
  have HS := Lib.hid hs
  have HT := Lib.hid ht
  have HN := Lib.hid (And.intro hn hc)
  clear hi hsz hx hn hc hs ht hv2
  go_enter Tryd.func68, Tryd.ntmps68
  go_wp2_with fail
  refine (next_any w HS.out HT.out x 3).mono ?_
  rintro e w' ⟨rfl, q, rfl⟩
  rw [HN.out.1, HN.out.2, show errv a 0 = Value.nilIface from rfl]
  go_wp2
  first | go_end0 | refine bodyPost_ret (results_none rfl _ _ _) rfl ?_
  exact ⟨⟨_, rfl⟩, (HI.out.put 4 _).put 2 _, ((((Chg.refl (fun k => k = g) w).drewN q).setCell (p := ⟨g, 4, none⟩) (fun _ => rfl) _).setCell (p := ⟨g, 2, none⟩) (fun _ => rfl) _)⟩
set_option maxRecDepth 100000 in
theorem hap_out (w : World) (hs : Sen B a w) (ht : Tab B w) {g : Nat} {cs : Array Value} (hi : Is w g 129 cs) (hsz : cs.size = 15) {x y : Int} (hx : cs[4]? = some (.int .i64 x)) (hn : nst x 4 = y) (hc : ncd x 4 = 0) :
    Calls Tryd.prog 68 #[.pointer (some ⟨g, 0, none⟩), .int .i64 4] w fun e w' => (∃ r, e = .returned r) ∧ Is w' g 129 ((cs.setIfInBounds 4 (.int .i64 y)).setIfInBounds 7 (.bool true)) ∧ Chg (fun k => k = g) w w' := by
  have d4 : ∀ Q, (w.drewN Q).cell? ⟨g, 4, none⟩ = some (.int .i64 x) := fun Q => hi.at_ 4 _ hx
  have c4 : w.cell? ⟨g, 4, none⟩ = some (.int .i64 x) := hi.at_ 4 _ hx
  have f4 : ∀ Q, (w.drewN Q).frozen? ⟨g, 4, none⟩ = false := fun Q => hi.frozen 4
  have f2 : ∀ Q, (w.drewN Q).frozen? ⟨g, 7, none⟩ = false := fun Q => hi.frozen 7
  obtain ⟨v2, hv2⟩ : ∃ v, cs[7]? = some v := ⟨_, Array.getElem?_eq_getElem (by omega)⟩
  have d2 : ∀ Q, (w.drewN Q).cell? ⟨g, 7, none⟩ = some v2 := fun Q => hi.at_ 7 _ hv2
  have HI := Lib.hid hi
  have HS := Lib.hid hs
  have HT := Lib.hid ht
  have HN := Lib.hid (And.intro hn hc)
  clear hi hsz hx hn hc hs ht hv2
  go_enter Tryd.func68, Tryd.ntmps68
  go_wp2_with fail
  refine (next_any w HS.out HT.out x 4).mono ?_
  rintro e w' ⟨rfl, q, rfl⟩
  rw [HN.out.1, HN.out.2, show errv a 0 = Value.nilIface from rfl]
  go_wp2
  first | go_end0 | refine bodyPost_ret (results_none rfl _ _ _) rfl ?_
  exact ⟨⟨_, rfl⟩, (HI.out.put 4 _).put 7 _, ((((Chg.refl (fun k => k = g) w).drewN q).setCell (p := ⟨g, 4, none⟩) (fun _ => rfl) _).setCell (p := ⟨g, 7, none⟩) (fun _ => rfl) _)⟩
set_option maxRecDepth 100000 in
theorem hap_in (w : World) (hs : Sen B a w) (ht : Tab B w) {g : Nat} {cs : Array Value} (hi : Is w g 129 cs) (hsz : cs.size = 15) {x y : Int} (hx : cs[4]? = some (.int .i64 x)) (hn : nst x 5 = y) (hc : ncd x 5 = 0) :
    Calls Tryd.prog 68 #[.pointer (some ⟨g, 0, none⟩), .int .i64 5] w fun e w' => (∃ r, e = .returned r) ∧ Is w' g 129 ((cs.setIfInBounds 4 (.int .i64 y)).setIfInBounds 10 (.bool true)) ∧ Chg (fun k => k = g) w w' := by
  have d4 : ∀ Q, (w.drewN Q).cell? ⟨g, 4, none⟩ = some (.int .i64 x) := fun Q => hi.at_ 4 _ hx
  have c4 : w.cell? ⟨g, 4, none⟩ = some (.int .i64 x) := hi.at_ 4 _ hx
  have f4 : ∀ Q, (w.drewN Q).frozen? ⟨g, 4, none⟩ = false := fun Q => hi.frozen 4
  have f2 : ∀ Q, (w.drewN Q).frozen? ⟨g, 10, none⟩ = false := fun Q => hi.frozen 10
  obtain ⟨v2, hv2⟩ : ∃ v, cs[10]? = some v := ⟨_, Array.getElem?_eq_getElem (by omega)⟩
  have d2 : ∀ Q, (w.drewN Q).cell? ⟨g, 10, none⟩ = some v2 := fun Q => hi.at_ 10 _ hv2
  have HI := Lib.hid hi
  have HS := Lib.hid hs
  have HT := Lib.hid ht
  have HN := Lib.hid (And.intro hn hc)
  clear hi hsz hx hn hc hs ht hv2
  go_enter Tryd.func68, Tryd.ntmps68
  go_wp2_with fail
  refine (next_any w HS.out HT.out x 5).mono ?_
  rintro e w' ⟨rfl, q, rfl⟩
  rw [HN.out.1, HN.out.2, show errv a 0 = Value.nilIface from rfl]
  go_wp2
  first | go_end0 | refine bodyPost_ret (results_none rfl _ _ _) rfl ?_
  exact ⟨⟨_, rfl⟩, (HI.out.put 4 _).put 10 _, ((((Chg.refl (fun k => k = g) w).drewN q).setCell (p := ⟨g, 4, none⟩) (fun _ => rfl) _).setCell (p := ⟨g, 10, none⟩) (fun _ => rfl) _)⟩

/-- Why its user's calls fail. -/
def barC (s : Sm) : Nat := if s.rs then 26 else if s.ct then 27 else 0
theorem bars_nil (w : World) (hs : Sen B a w) : Calls Tryd.prog 67 #[.pointer none] w fun e w' => e = .returned (errv a 1) ∧ w = w' := by
  have hc : w.cell? ⟨3, 0, none⟩ = some (.iface 200 (.pointer (some (a 1)))) := hs.cell 1 (by decide) (by decide)
  clear hs
  go_enter Tryd.func67, Tryd.ntmps67
  go_wp2
  go_ret
  exact ⟨rfl, rfl⟩
theorem bars_any (w : World) (hs : Sen B a w) {T : Nat → Prop} {g : Nat} {s : Sm} (h : Pst w T g s) : Calls Tryd.prog 67 #[.pointer (some ⟨g, 0, none⟩)] w fun e w' => e = .returned (errv a (barC s)) ∧ w = w' := by
  obtain ⟨S1, S2, g1, g2, g3, g4, hp⟩ := h
  have c13 : w.cell? ⟨g, 13, none⟩ = some (.bool s.rs) := hp.im.at_ 13 _ rfl
  have c14 : w.cell? ⟨g, 14, none⟩ = some (.bool s.ct) := hp.im.at_ 14 _ rfl
  have h26 : w.cell? ⟨5, 0, none⟩ = some (.iface 200 (.pointer (some (a 26)))) := hs.cell 26 (by decide) (by decide)
  have h27 : w.cell? ⟨7, 0, none⟩ = some (.iface 200 (.pointer (some (a 27)))) := hs.cell 27 (by decide) (by decide)
  clear hp hs
  unfold barC
  cases h1 : s.rs with
  | true =>
    rw [h1] at c13
    rw [if_pos rfl, show errv a 26 = .iface 200 (.pointer (some (a 26))) from rfl]
    clear h1
    go_enter Tryd.func67, Tryd.ntmps67
    go_wp2
    go_ret
    exact ⟨rfl, rfl⟩
  | false =>
    rw [h1] at c13
    rw [if_neg (by decide)]
    clear h1
    cases h2 : s.ct with
    | true =>
      rw [h2] at c14
      rw [if_pos rfl, show errv a 27 = .iface 200 (.pointer (some (a 27))) from rfl]
      clear h2
      go_enter Tryd.func67, Tryd.ntmps67
      go_wp2
      go_ret
      exact ⟨rfl, rfl⟩
    | false =>
      rw [h2] at c14
      rw [if_neg (by decide), show errv a 0 = Value.nilIface from rfl]
      clear h2
      go_enter Tryd.func67, Tryd.ntmps67
      go_wp2
      go_ret
      exact ⟨rfl, rfl⟩
end
end Go.Proofs.YthalmjjbamglgaaDoor
