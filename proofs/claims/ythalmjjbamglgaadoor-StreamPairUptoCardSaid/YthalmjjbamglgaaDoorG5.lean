/-
  stream.happen by contracts, event by event; bars.
  stream.Write and stream.Arrive by contracts; what an event makes of a stream.
  stream.Arrive, Read and Ready by contracts.
  stream.Read by contract (a count above nought, no reset behind it).
  No condition of its own.
-/
import Derived.Test.YthalmjjbamglgaaDoorStm
namespace Go.Proofs.YthalmjjbamglgaaDoor
open Go.RowKit

section
variable {B : Nat} {a : Nat → Addr}
set_option maxRecDepth 100000 in
theorem hap_open (w : World) (hs : Sen B a w) (ht : Tab B w) {g : Nat} {cs : Array Value} (hi : Is w g 129 cs) (_hsz : cs.size = 15) {x y : Int} (hx : cs[4]? = some (.int .i64 x)) (hn : nst x 0 = y) (hc : ncd x 0 = 0) :
    Calls Tryd.prog 68 #[.pointer (some ⟨g, 0, none⟩), .int .i64 0] w fun e w' => (∃ r, e = .returned r) ∧ Is w' g 129 (cs.setIfInBounds 4 (.int .i64 y)) ∧ Chg (fun k => k = g) w w' := by
  have d4 : ∀ Q, (w.drewN Q).cell? ⟨g, 4, none⟩ = some (.int .i64 x) := fun Q => hi.at_ 4 _ hx
  have c4 : w.cell? ⟨g, 4, none⟩ = some (.int .i64 x) := hi.at_ 4 _ hx
  have f4 : ∀ Q, (w.drewN Q).frozen? ⟨g, 4, none⟩ = false := fun Q => hi.frozen 4
  have HI := Lib.hid hi
  have HS := Lib.hid hs
  have HT := Lib.hid ht
  have HN := Lib.hid (And.intro hn hc)
  clear hi _hsz hx hn hc hs ht
  go_enter Tryd.func68, Tryd.ntmps68
  go_wp2_with fail
  refine (next_any w HS.out HT.out x 0).mono ?_
  rintro e w' ⟨rfl, q, rfl⟩
  rw [HN.out.1, HN.out.2, show errv a 0 = Value.nilIface from rfl]
  go_wp2
  first | go_end0 | refine bodyPost_ret (results_none rfl _ _ _) rfl ?_
  exact ⟨⟨_, rfl⟩, HI.out.put 4 _, (((Chg.refl (fun k => k = g) w).drewN q).setCell (p := ⟨g, 4, none⟩) (fun _ => rfl) _)⟩
set_option maxRecDepth 100000 in
theorem hap_syn (w : World) (hs : Sen B a w) (ht : Tab B w) {g : Nat} {cs : Array Value} (hi : Is w g 129 cs) (_hsz : cs.size = 15) {x y : Int} (hx : cs[4]? = some (.int .i64 x)) (hn : nst x 1 = y) (hc : ncd x 1 = 0) :
    Calls Tryd.prog 68 #[.pointer (some ⟨g, 0, none⟩), .int .i64 1] w fun e w' => (∃ r, e = .returned r) ∧ Is w' g 129 (cs.setIfInBounds 4 (.int .i64 y)) ∧ Chg (fun k => k = g) w w' := by
  have d4 : ∀ Q, (w.drewN Q).cell? ⟨g, 4, none⟩ = some (.int .i64 x) := fun Q => hi.at_ 4 _ hx
  have c4 : w.cell? ⟨g, 4, none⟩ = some (.int .i64 x) := hi.at_ 4 _ hx
  have f4 : ∀ Q, (w.drewN Q).frozen? ⟨g, 4, none⟩ = false := fun Q => hi.frozen 4
  have HI := Lib.hid hi
  have HS := Lib.hid hs
  have HT := Lib.hid ht
  have HN := Lib.hid (And.intro hn hc)
  clear hi _hsz hx hn hc hs ht
  go_enter Tryd.func68, Tryd.ntmps68
  go_wp2_with fail
  refine (next_any w HS.out HT.out x 1).mono ?_
  rintro e w' ⟨rfl, q, rfl⟩
  rw [HN.out.1, HN.out.2, show errv a 0 = Value.nilIface from rfl]
  go_wp2
  first | go_end0 | refine bodyPost_ret (results_none rfl _ _ _) rfl ?_
  exact ⟨⟨_, rfl⟩, HI.out.put 4 _, (((Chg.refl (fun k => k = g) w).drewN q).setCell (p := ⟨g, 4, none⟩) (fun _ => rfl) _)⟩
set_option maxRecDepth 100000 in
theorem hap_accept (w : World) (hs : Sen B a w) (ht : Tab B w) {g : Nat} {cs : Array Value} (hi : Is w g 129 cs) (hsz : cs.size = 15) {x y : Int} (hx : cs[4]? = some (.int .i64 x)) (hn : nst x 2 = y) (hc : ncd x 2 = 0) :
    Calls Tryd.prog 68 #[.pointer (some ⟨g, 0, none⟩), .int .i64 2] w fun e w' => (∃ r, e = .returned r) ∧ Is w' g 129 ((cs.setIfInBounds 4 (.int .i64 y)).setIfInBounds 2 (.bool true)) ∧ Chg (fun k => k = g) w w' := by
  have d4 : ∀ Q, (w.drewN Q).cell? ⟨g, 4, none⟩ = some (.int .i64 x) := fun Q => hi.at_ 4 _ hx
  have c4 : w.cell? ⟨g, 4, none⟩ = some (.int .i64 x) := hi.at_ 4 _ hx
  have f4 : ∀ Q, (w.drewN Q).frozen? ⟨g, 4, none⟩ = false := fun Q => hi.frozen 4
  have f2 : ∀ Q, (w.drewN Q).frozen? ⟨g, 2, none⟩ = false := fun Q => hi.frozen 2
  obtain ⟨v2, hv2⟩ : ∃ v, cs[2]? = some v := ⟨_, Array.getElem?_eq_getElem (by omega)⟩
  have d2 : ∀ Q, (w.drewN Q).cell? ⟨g, 2, none⟩ = some v2 := fun Q => hi.at_ 2 _ hv2
  have HI := Lib.hid hi
  have HS := Lib.hid hs
  have HT := Lib.hid ht
  have HN := Lib.hid (And.intro hn hc)
  clear hi hsz hx hn hc hs ht hv2
  go_enter Tryd.func68, Tryd.ntmps68
  go_wp2_with fail
  refine (next_any w HS.out HT.out x 2).mono ?_
  rintro e w' ⟨rfl, q, rfl⟩
  rw [HN.out.1, HN.out.2, show errv a 0 = Value.nilIface from rfl]
  go_wp2
  first | go_end0 | refine bodyPost_ret (results_none rfl _ _ _) rfl ?_
  exact ⟨⟨_, rfl⟩, (HI.out.put 4 _).put 2 _, ((((Chg.refl (fun k => k = g) w).drewN q).setCell (p := ⟨g, 4, none⟩) (fun _ => rfl) _).setCell (p := ⟨g, 2, none⟩) (fun _ => rfl) _)⟩
set_option maxRecDepth 100000 in
theorem hap_ack (w : World) (hs : Sen B a w) (ht : Tab B w) {g : Nat} {cs : Array Value} (hi : Is w g 129 cs) (hsz : cs.size = 15) {x y : Int} (hx : cs[4]? = some (.int .i64 x)) (hn : nst x 3 = y) (hc : ncd x 3 = 0) :
    Calls Tryd.prog 68 #[.pointer (some ⟨g, 0, none⟩), .int .i64 3] w fun e w' => (∃ r, e = .returned r) ∧ Is w' g 129 ((cs.setIfInBounds 4 (.int .i64 y)).setIfInBounds 2 (.bool true)) ∧ Chg (fun k => k = g) w w' := by
  have d4 : ∀ Q, (w.drewN Q).cell? ⟨g, 4, none⟩ = some (.int .i64 x) := fun Q => hi.at_ 4 _ hx
  have c4 : w.cell? ⟨g, 4, none⟩ = some (.int .i64 x) := hi.at_ 4 _ hx
  have f4 : ∀ Q, (w.drewN Q).frozen? ⟨g, 4, none⟩ = false := fun Q => hi.frozen 4
  have f2 : ∀ Q, (w.drewN Q).frozen? ⟨g, 2, none⟩ = false := fun Q => hi.frozen 2
  obtain ⟨v2, hv2⟩ : ∃ v, cs[2]? = some v := ⟨_, Array.getElem?_eq_getElem (by omega)⟩
  have d2 : ∀ Q, (w.drewN Q).cell? ⟨g, 2, none⟩ = some v2 := fun Q => hi.at_ 2 _ hv2
  have HI := Lib.hid hi
  have HS := Lib.hid hs
  have HT := Lib.hid ht
  have HN := Lib.hid (And.intro hn hc)
  clear hi hsz hx hn hc hs ht hv2
  go_enter Tryd.func68, Tryd.ntmps68
  go_wp2_with fail
  refine (next_any w HS.out HT.out x 3).mono ?_
  rintro e w' ⟨rfl, q, rfl⟩
  rw [HN.out.1, HN.out.2, show errv a 0 = Value.nilIface from rfl]
  go_wp2
  first | go_end0 | refine bodyPost_ret (results_none rfl _ _ _) rfl ?_
  exact ⟨⟨_, rfl⟩, (HI.out.put 4 _).put 2 _, ((((Chg.refl (fun k => k = g) w).drewN q).setCell (p := ⟨g, 4, none⟩) (fun _ => rfl) _).setCell (p := ⟨g, 2, none⟩) (fun _ => rfl) _)⟩
set_option maxRecDepth 100000 in
theorem hap_out (w : World) (hs : Sen B a w) (ht : Tab B w) {g : Nat} {cs : Array Value} (hi : Is w g 129 cs) (hsz : cs.size = 15) {x y : Int} (hx : cs[4]? = some (.int .i64 x)) (hn : nst x 4 = y) (hc : ncd x 4 = 0) :
    Calls Tryd.prog 68 #[.pointer (some ⟨g, 0, none⟩), .int .i64 4] w fun e w' => (∃ r, e = .returned r) ∧ Is w' g 129 ((cs.setIfInBounds 4 (.int .i64 y)).setIfInBounds 7 (.bool true)) ∧ Chg (fun k => k = g) w w' := by
  have d4 : ∀ Q, (w.drewN Q).cell? ⟨g, 4, none⟩ = some (.int .i64 x) := fun Q => hi.at_ 4 _ hx
  have c4 : w.cell? ⟨g, 4, none⟩ = some (.int .i64 x) := hi.at_ 4 _ hx
  have f4 : ∀ Q, (w.drewN Q).frozen? ⟨g, 4, none⟩ = false := fun Q => hi.frozen 4
  have f2 : ∀ Q, (w.drewN Q).frozen? ⟨g, 7, none⟩ = false := fun Q => hi.frozen 7
  obtain ⟨v2, hv2⟩ : ∃ v, cs[7]? = some v := ⟨_, Array.getElem?_eq_getElem (by omega)⟩
  have d2 : ∀ Q, (w.drewN Q).cell? ⟨g, 7, none⟩ = some v2 := fun Q => hi.at_ 7 _ hv2
  have HI := Lib.hid hi
  have HS := Lib.hid hs
  have HT := Lib.hid ht
  have HN := Lib.hid (And.intro hn hc)
  clear hi hsz hx hn hc hs ht hv2
  go_enter Tryd.func68, Tryd.ntmps68
  go_wp2_with fail
  refine (next_any w HS.out HT.out x 4).mono ?_
  rintro e w' ⟨rfl, q, rfl⟩
  rw [HN.out.1, HN.out.2, show errv a 0 = Value.nilIface from rfl]
  go_wp2
  first | go_end0 | refine bodyPost_ret (results_none rfl _ _ _) rfl ?_
  exact ⟨⟨_, rfl⟩, (HI.out.put 4 _).put 7 _, ((((Chg.refl (fun k => k = g) w).drewN q).setCell (p := ⟨g, 4, none⟩) (fun _ => rfl) _).setCell (p := ⟨g, 7, none⟩) (fun _ => rfl) _)⟩
set_option maxRecDepth 100000 in
theorem hap_in (w : World) (hs : Sen B a w) (ht : Tab B w) {g : Nat} {cs : Array Value} (hi : Is w g 129 cs) (hsz : cs.size = 15) {x y : Int} (hx : cs[4]? = some (.int .i64 x)) (hn : nst x 5 = y) (hc : ncd x 5 = 0) :
    Calls Tryd.prog 68 #[.pointer (some ⟨g, 0, none⟩), .int .i64 5] w fun e w' => (∃ r, e = .returned r) ∧ Is w' g 129 ((cs.setIfInBounds 4 (.int .i64 y)).setIfInBounds 10 (.bool true)) ∧ Chg (fun k => k = g) w w' := by
  have d4 : ∀ Q, (w.drewN Q).cell? ⟨g, 4, none⟩ = some (.int .i64 x) := fun Q => hi.at_ 4 _ hx
  have c4 : w.cell? ⟨g, 4, none⟩ = some (.int .i64 x) := hi.at_ 4 _ hx
  have f4 : ∀ Q, (w.drewN Q).frozen? ⟨g, 4, none⟩ = false := fun Q => hi.frozen 4
  have f2 : ∀ Q, (w.drewN Q).frozen? ⟨g, 10, none⟩ = false := fun Q => hi.frozen 10
  obtain ⟨v2, hv2⟩ : ∃ v, cs[10]? = some v := ⟨_, Array.getElem?_eq_getElem (by omega)⟩
  have d2 : ∀ Q, (w.drewN Q).cell? ⟨g, 10, none⟩ = some v2 := fun Q => hi.at_ 10 _ hv2
  have HI := Lib.hid hi
  have HS := Lib.hid hs
  have HT := Lib.hid ht
  have HN := Lib.hid (And.intro hn hc)
  clear hi hsz hx hn hc hs ht hv2
  go_enter Tryd.func68, Tryd.ntmps68
  go_wp2_with fail
  refine (next_any w HS.out HT.out x 5).mono ?_
  rintro e w' ⟨rfl, q, rfl⟩
  rw [HN.out.1, HN.out.2, show errv a 0 = Value.nilIface from rfl]
  go_wp2
  first | go_end0 | refine bodyPost_ret (results_none rfl _ _ _) rfl ?_
  exact ⟨⟨_, rfl⟩, (HI.out.put 4 _).put 10 _, ((((Chg.refl (fun k => k = g) w).drewN q).setCell (p := ⟨g, 4, none⟩) (fun _ => rfl) _).setCell (p := ⟨g, 10, none⟩) (fun _ => rfl) _)⟩

/-- Why its user's calls fail. -/
def barC (s : Sm) : Nat := if s.rs then 26 else if s.ct then 27 else 0
theorem bars_nil (w : World) (hs : Sen B a w) : Calls Tryd.prog 67 #[.pointer none] w fun e w' => e = .returned (errv a 1) ∧ w = w' := by
  have hc : w.cell? ⟨3, 0, none⟩ = some (.iface 200 (.pointer (some (a 1)))) := hs.cell 1 (by decide) (by decide)
  clear hs
  go_enter Tryd.func67, Tryd.ntmps67
  go_wp2
  go_ret
  exact ⟨rfl, rfl⟩
theorem bars_any (w : World) (hs : Sen B a w) {T : Nat → Prop} {g : Nat} {s : Sm} (h : Pst w T g s) : Calls Tryd.prog 67 #[.pointer (some ⟨g, 0, none⟩)] w fun e w' => e = .returned (errv a (barC s)) ∧ w = w' := by
  obtain ⟨S1, S2, g1, g2, g3, g4, hp⟩ := h
  have c13 : w.cell? ⟨g, 13, none⟩ = some (.bool s.rs) := hp.im.at_ 13 _ rfl
  have c14 : w.cell? ⟨g, 14, none⟩ = some (.bool s.ct) := hp.im.at_ 14 _ rfl
  have h26 : w.cell? ⟨5, 0, none⟩ = some (.iface 200 (.pointer (some (a 26)))) := hs.cell 26 (by decide) (by decide)
  have h27 : w.cell? ⟨7, 0, none⟩ = some (.iface 200 (.pointer (some (a 27)))) := hs.cell 27 (by decide) (by decide)
  clear hp hs
  unfold barC
  cases h1 : s.rs with
  | true =>
    rw [h1] at c13
    rw [if_pos rfl, show errv a 26 = .iface 200 (.pointer (some (a 26))) from rfl]
    clear h1
    go_enter Tryd.func67, Tryd.ntmps67
    go_wp2
    go_ret
    exact ⟨rfl, rfl⟩
  | false =>
    rw [h1] at c13
    rw [if_neg (by decide)]
    clear h1
    cases h2 : s.ct with
    | true =>
      rw [h2] at c14
      rw [if_pos rfl, show errv a 27 = .iface 200 (.pointer (some (a 27))) from rfl]
      clear h2
      go_enter Tryd.func67, Tryd.ntmps67
      go_wp2
      go_ret
      exact ⟨rfl, rfl⟩
    | false =>
      rw [h2] at c14
      rw [if_neg (by decide), show errv a 0 = Value.nilIface from rfl]
      clear h2
      go_enter Tryd.func67, Tryd.ntmps67
      go_wp2
      go_ret
      exact ⟨rfl, rfl⟩
end
end Go.Proofs.YthalmjjbamglgaaDoor
namespace Go.Proofs.YthalmjjbamglgaaDoor
open Go.RowKit

section
variable {B : Nat} {a : Nat → Addr}
theorem Pso.obj {w w' : World} {T S1 S2 : Nat → Prop} {g g1 g2 g3 g4 : Nat} {s : Sm} (h : Pso w T S1 S2 g g1 g2 g3 g4 s) (s' : Sm) (hc : Chg (fun k => k = g) w w') (hi : Is w' g 129 (smC s' g1 g2 g3 g4)) (e1 : s'.sg = s.sg) (e2 : s'.un = s.un) (e3 : s'.cr = s.cr) (e4 : s'.gr = s.gr) (e5 : s'.stage = s.stage) (ok : s'.Ok) :
    Pso w' T S1 S2 g g1 g2 g3 g4 s' := by
  have hz := hc.size
  obtain ⟨n1, n2, n3, t0, t3, t4, l0, l3, l4⟩ := h.d3
  have ew : s'.win = s.win := by unfold Sm.win; rw [e4]
  refine ⟨hi, by rw [e1, e5]; exact h.r1.chg hc fun k hk => (h.d1 k hk).2.1, by rw [e2, ew]; exact h.r2.chg hc fun k hk => (h.d2 k hk).1,
    by rw [e3]; exact h.cd.chg hc fun b ⟨q, hq, hb⟩ => by cases hq; subst hb; exact fun e => n1 e.symm, by rw [e4]; exact h.rc.chg hc fun b ⟨q, hq, hb⟩ => by cases hq; subst hb; exact fun e => n2 e.symm,
    fun k hk => by have := h.d1 k hk; exact ⟨this.1, this.2.1, this.2.2.1, this.2.2.2.1, this.2.2.2.2.1, by omega⟩, fun k hk => by have := h.d2 k hk; exact ⟨this.1, this.2.1, this.2.2.1, this.2.2.2.1, by omega⟩, ⟨n1, n2, n3, t0, t3, t4, by omega, by omega, by omega⟩, ok⟩
/-- An event of the other end's last frame. -/
theorem happen_in (w : World) (hs : Sen B a w) (ht : Tab B w) {T : Nat → Prop} {g : Nat} {s : Sm} (h : Pst w T g s) (h1 : s.li = false) (h2 : s.rs = false) :
    Calls Tryd.prog 68 #[.pointer (some ⟨g, 0, none⟩), .int .i64 5] w fun e w' => (∃ r, e = .returned r) ∧ Pst w' T g { s with li := true } ∧ Chg T w w' := by
  obtain ⟨S1, S2, g1, g2, g3, g4, hp⟩ := h
  have hn : ∀ m ac lo : Bool, nst (stOf m ac lo false false) 5 = stOf m ac lo true false ∧ ncd (stOf m ac lo false false) 5 = 0 := by
    intro m ac lo
    cases m <;> cases ac <;> cases lo <;> decide
  have hst : s.st = stOf s.mine s.acc s.lo false false := by unfold Sm.st; rw [h1, h2]
  refine (hap_in w hs ht hp.im rfl (x := s.st) (y := ({ s with li := true } : Sm).st) rfl (by rw [hst, (hn _ _ _).1]; unfold Sm.st; rw [h2]) (by rw [hst, (hn _ _ _).2])).mono ?_
  rintro e w' ⟨he, hi, hc⟩
  refine ⟨he, ⟨S1, S2, g1, g2, g3, g4, hp.obj { s with li := true } hc hi rfl rfl rfl rfl rfl ⟨hp.ok.id1, hp.ok.id2, hp.ok.f1, hp.ok.f2, hp.ok.g2, hp.ok.cr, hp.ok.gr, hp.ok.W, fun h => by cases h⟩⟩, hc.more fun k hk e => by rw [e]; exact hp.d3.2.2.2.1⟩
theorem happen_out (w : World) (hs : Sen B a w) (ht : Tab B w) {T : Nat → Prop} {g : Nat} {s : Sm} (h : Pst w T g s) (h1 : s.lo = false) (h2 : s.rs = false) :
    Calls Tryd.prog 68 #[.pointer (some ⟨g, 0, none⟩), .int .i64 4] w fun e w' => (∃ r, e = .returned r) ∧ Pst w' T g { s with lo := true } ∧ Chg T w w' := by
  obtain ⟨S1, S2, g1, g2, g3, g4, hp⟩ := h
  have hn : ∀ m ac li : Bool, nst (stOf m ac false li false) 4 = stOf m ac true li false ∧ ncd (stOf m ac false li false) 4 = 0 := by
    intro m ac li
    cases m <;> cases ac <;> cases li <;> decide
  have hst : s.st = stOf s.mine s.acc false s.li false := by unfold Sm.st; rw [h1, h2]
  refine (hap_out w hs ht hp.im rfl (x := s.st) (y := ({ s with lo := true } : Sm).st) rfl (by rw [hst, (hn _ _ _).1]; unfold Sm.st; rw [h2]) (by rw [hst, (hn _ _ _).2])).mono ?_
  rintro e w' ⟨he, hi, hc⟩
  refine ⟨he, ⟨S1, S2, g1, g2, g3, g4, hp.obj { s with lo := true } hc hi rfl rfl rfl rfl rfl ⟨hp.ok.id1, hp.ok.id2, hp.ok.f1, hp.ok.f2, hp.ok.g2, hp.ok.cr, hp.ok.gr, hp.ok.W, hp.ok.un⟩⟩, hc.more fun k hk e => by rw [e]; exact hp.d3.2.2.2.1⟩

def wrC (s : Sm) : Nat := if barC s = 0 then (if s.cl then 24 else 0) else barC s
def wrN (s : Sm) (ys : List Int) : Nat := if wrC s = 0 then Nat.min ys.length (s.stage - s.sg.length) else 0
def wrS (s : Sm) (ys : List Int) : Sm := { s with sg := s.sg ++ ys.take (wrN s ys) }
theorem barC_cases (s : Sm) : barC s = 0 ∧ s.rs = false ∧ s.ct = false ∨ barC s = 26 ∧ s.rs = true ∨ barC s = 27 ∧ s.rs = false ∧ s.ct = true := by
  unfold barC
  cases h1 : s.rs <;> cases h2 : s.ct <;> simp
set_option maxRecDepth 100000 in
theorem write_any (w : World) (hs : Sen B a w) {T : Nat → Prop} {g : Nat} {s : Sm} (h : Pst w T g s) (hT : ∀ k, w.heap.size ≤ k → T k) (v : Value) (ys : List Int) (hv : BsO w v ys) (hvT : ∀ k, rdk v = some k → k < w.heap.size ∧ ¬ T k) (hy : ys.length ≤ 140737488355328) :
    Calls Tryd.prog 22 #[.pointer (some ⟨g, 0, none⟩), v] w fun e w' => e = .returned (.tuple #[.int .i64 (wrN s ys : Int), errv a (wrC s)]) ∧ Pst w' T g (wrS s ys) ∧ Chg T w w' := by
  have H := Lib.hid h
  have HS := Lib.hid hs
  have HT := Lib.hid hT
  have HV := Lib.hid (And.intro hv (And.intro hvT hy))
  have hsame : wrC s ≠ 0 → wrS s ys = s ∧ wrN s ys = 0 := fun h0 => by
    have e : wrN s ys = 0 := by unfold wrN; rw [if_neg h0]
    refine ⟨?_, e⟩
    unfold wrS
    rw [e, List.take_zero, List.append_nil]
  obtain ⟨S1, S2, g1, g2, g3, g4, hp⟩ := h
  have c5 : w.cell? ⟨g, 5, none⟩ = some (.pointer (some ⟨g1, 0, none⟩)) := hp.im.at_ 5 _ rfl
  have c6 : w.cell? ⟨g, 6, none⟩ = some (.bool s.cl) := hp.im.at_ 6 _ rfl
  have c6' : ∀ Q, (w.drewN Q).cell? ⟨g, 6, none⟩ = some (.bool s.cl) := fun Q => hp.im.at_ 6 _ rfl
  have h24 : ∀ Q, (w.drewN Q).cell? ⟨2, 0, none⟩ = some (.iface 200 (.pointer (some (a 24)))) := fun Q => hs.cell 24 (by decide) (by decide)
  have HP := Lib.hid hp
  clear hs hT hv hvT hy hp
  rcases barC_cases s with ⟨hb, hr, hct⟩ | ⟨hb, hr⟩ | ⟨hb, hr, hct⟩
  · cases hcl : s.cl with
    | true =>
      have hc : wrC s = 24 := by unfold wrC; rw [if_pos hb, if_pos hcl]
      obtain ⟨e1, e2⟩ := hsame (by rw [hc]; decide)
      rw [hc, e1, e2, show errv a 24 = .iface 200 (.pointer (some (a 24))) from rfl]
      rw [hcl] at c6 c6'
      have HB := Lib.hid hb
      clear hb hr hct hcl hc e1 e2 hsame
      go_enter Tryd.func22, Tryd.ntmps22
      go_wp2_with fail
      refine (bars_any w HS.out H.out).mono ?_
      rintro e w' ⟨rfl, rfl⟩
      rw [HB.out, show errv a 0 = Value.nilIface from rfl]
      go_wp2_with fail
      go_quiet (fail)
      go_wp2
      go_ret2
      exact ⟨rfl, ⟨S1, S2, g1, g2, g3, g4, HP.out.keep ((Chg.refl none_ w).drewN _)⟩, (Chg.refl T w).drewN _⟩
    | false =>
      have hc : wrC s = 0 := by unfold wrC; rw [if_pos hb, hcl]; rfl
      have hN : wrN s ys = Nat.min ys.length (s.stage - s.sg.length) := by unfold wrN; rw [if_pos hc]
      have HNn := Lib.hid hN
      rw [hc, show errv a 0 = Value.nilIface from rfl]
      rw [hcl] at c6
      have HB := Lib.hid hb
      clear hb hr hct hcl hc hsame c6' hN
      go_enter Tryd.func22, Tryd.ntmps22
      go_wp2_with fail
      refine (bars_any w HS.out H.out).mono ?_
      rintro e w' ⟨rfl, rfl⟩
      rw [HB.out, show errv a 0 = Value.nilIface from rfl]
      go_wp2_with fail
      refine (push_any w HP.out.r1 v HV.out.1 (fun k hk => ⟨(HV.out.2.1 k hk).1, fun h => (HV.out.2.1 k hk).2 (HP.out.d1 k h).2.2.2.2.1⟩) HV.out.2.2).mono ?_
      rintro e w' ⟨rfl, k1, k2⟩
      have K1 := Lib.hid k1
      have K2 := Lib.hid k2
      clear k1 k2
      go_wp2
      go_ret2
      refine ⟨by rw [HNn.out]; rfl, ⟨fun k => S1 k ∨ w.heap.size ≤ k ∧ k < w'.heap.size, S2, g1, g2, g3, g4, ?_⟩, K2.out.more fun k hk h => (HP.out.d1 k h).2.2.2.2.1⟩
      unfold wrS
      rw [HNn.out]
      exact HP.out.ring1 HT.out K1.out K2.out fun k hk => hk
  · have hc : wrC s = 26 := by unfold wrC; rw [if_neg (by rw [hb]; decide), hb]
    obtain ⟨e1, e2⟩ := hsame (by rw [hc]; decide)
    rw [hc, e1, e2, show errv a 26 = .iface 200 (.pointer (some (a 26))) from rfl]
    have HB := Lib.hid hb
    clear hb hr hc e1 e2 hsame
    go_enter Tryd.func22, Tryd.ntmps22
    go_wp2_with fail
    refine (bars_any w HS.out H.out).mono ?_
    rintro e w' ⟨rfl, rfl⟩
    rw [HB.out, show errv a 26 = .iface 200 (.pointer (some (a 26))) from rfl]
    go_wp2
    go_ret2
    exact ⟨rfl, H.out, Chg.refl _ _⟩
  · have hc : wrC s = 27 := by unfold wrC; rw [if_neg (by rw [hb]; decide), hb]
    obtain ⟨e1, e2⟩ := hsame (by rw [hc]; decide)
    rw [hc, e1, e2, show errv a 27 = .iface 200 (.pointer (some (a 27))) from rfl]
    have HB := Lib.hid hb
    clear hb hr hct hc e1 e2 hsame
    go_enter Tryd.func22, Tryd.ntmps22
    go_wp2_with fail
    refine (bars_any w HS.out H.out).mono ?_
    rintro e w' ⟨rfl, rfl⟩
    rw [HB.out, show errv a 27 = .iface 200 (.pointer (some (a 27))) from rfl]
    go_wp2
    go_ret2
    exact ⟨rfl, H.out, Chg.refl _ _⟩
end
end Go.Proofs.YthalmjjbamglgaaDoor
namespace Go.Proofs.YthalmjjbamglgaaDoor
open Go.RowKit

section
variable {B : Nat} {a : Nat → Addr}
def avC (s : Sm) (n : Nat) : Nat := if s.rs || s.ct || s.li then 0 else if s.gr.l < (n : Int) then 16 else 0
def avS (s : Sm) (ys : List Int) (fin : Bool) : Sm := if s.rs || s.ct || s.li then s else if s.gr.l < (ys.length : Int) then s else { s with un := s.un ++ ys, gr := { s.gr with l := s.gr.l - ys.length, u := s.gr.u + ys.length }, li := fin }
set_option maxRecDepth 100000 in
set_option maxHeartbeats 2000000 in
theorem sarrive_any (w : World) (hs : Sen B a w) (ht : Tab B w) (hB : B ≤ w.heap.size) {T : Nat → Prop} {g : Nat} {s : Sm} (h : Pst w T g s) (hTB : ∀ k, T k → B ≤ k) (hT : ∀ k, w.heap.size ≤ k → T k) (v : Value) (ys : List Int) (hv : BsO w v ys) (hvT : ∀ k, rdk v = some k → k < w.heap.size ∧ ¬ T k) (hy : ys.length ≤ 140737488355328) (fin : Bool) :
    Calls Tryd.prog 27 #[.pointer (some ⟨g, 0, none⟩), v, .bool fin] w fun e w' => e = .returned (errv a (avC s ys.length)) ∧ Pst w' T g (avS s ys fin) ∧ Chg T w w' := by
  have H := Lib.hid h
  have HS := Lib.hid hs
  have HTb := Lib.hid ht
  have HT := Lib.hid hT
  have HTB := Lib.hid (And.intro hTB hB)
  have HV := Lib.hid (And.intro hv (And.intro hvT hy))
  obtain ⟨S1, S2, g1, g2, g3, g4, hp⟩ := h
  have c9 : w.cell? ⟨g, 9, none⟩ = some (.pointer (some ⟨g2, 0, none⟩)) := hp.im.at_ 9 _ rfl
  have c10 : w.cell? ⟨g, 10, none⟩ = some (.bool s.li) := hp.im.at_ 10 _ rfl
  have c12 : w.cell? ⟨g, 12, none⟩ = some (.pointer (some ⟨g4, 0, none⟩)) := hp.im.at_ 12 _ rfl
  have c13 : w.cell? ⟨g, 13, none⟩ = some (.bool s.rs) := hp.im.at_ 13 _ rfl
  have c14 : w.cell? ⟨g, 14, none⟩ = some (.bool s.ct) := hp.im.at_ 14 _ rfl
  have HP := Lib.hid hp
  obtain ⟨A, n, c, rfl, hl, hby, hnc, _⟩ := hv
  have HL := Lib.hid hl
  clear hs ht hT hvT hp hby hTB hB
  unfold avC avS
  cases hr : s.rs with
  | true =>
    rw [hr] at c13
    simp only [Bool.true_or, if_true]
    rw [show errv a 0 = Value.nilIface from rfl]
    clear hr hl hy
    go_enter Tryd.func27, Tryd.ntmps27
    go_wp2
    go_ret
    exact ⟨rfl, H.out, Chg.refl _ _⟩
  | false =>
    rw [hr] at c13
    cases hc : s.ct with
    | true =>
      rw [hc] at c14
      simp only [Bool.or_true, Bool.true_or, if_true]
      rw [show errv a 0 = Value.nilIface from rfl]
      clear hr hc hl hy
      go_enter Tryd.func27, Tryd.ntmps27
      go_wp2
      go_ret
      exact ⟨rfl, H.out, Chg.refl _ _⟩
    | false =>
      rw [hc] at c14
      cases hli : s.li with
      | true =>
        rw [hli] at c10
        simp only [Bool.or_true, if_true]
        rw [show errv a 0 = Value.nilIface from rfl]
        clear hr hc hli hl hy
        go_enter Tryd.func27, Tryd.ntmps27
        go_wp2
        go_ret
        exact ⟨rfl, H.out, Chg.refl _ _⟩
      | false =>
        rw [hli] at c10
        simp only [Bool.or_false, Bool.false_eq_true, if_false]
        have hW : s.gr.W ≠ 0 := by have := HP.out.ok.gr.W1; omega
        have hn0 : ¬ ((n : Nat) : Int) < 0 := by omega
        have hn63 : (n : Int) ≤ 9223372036854775807 := by omega
        have hn64 : -9223372036854775808 ≤ (n : Int) := by omega
        by_cases hlt : s.gr.l < (n : Int)
        · have hac : arC s.gr n = 16 := by unfold arC; rw [if_neg hW, if_neg hn0, if_pos hlt]
          have hS : arS s.gr n = s.gr := by unfold arS; rw [hac, if_neg (by decide)]
          have HAc := Lib.hid (And.intro hac hS)
          rw [hl, if_pos hlt, if_pos hlt, show errv a 16 = .iface 200 (.pointer (some (a 16))) from rfl]
          clear hr hc hli hl hy hW hac hS hlt
          go_enter Tryd.func27, Tryd.ntmps27
          go_wp2_with fail
          refine (arrive_any w HS.out _ s.gr HP.out.rc n hn64 hn63).mono ?_
          rintro e w1 ⟨rfl, k1, k2⟩
          rw [HAc.out.1, show errv a 16 = .iface 200 (.pointer (some (a 16))) from rfl]
          rw [HAc.out.2] at k1
          have K1 := Lib.hid k1
          have K2 := Lib.hid k2
          clear k1 k2
          go_wp2
          go_ret
          have hp' : Pso w1 T S1 S2 g g1 g2 g3 g4 { s with un := s.un, gr := s.gr } := HP.out.ring2 HT.out ((HP.out.recv s.gr K1.out K2.out rfl).2.2.1) (K2.out.more fun k _ ⟨q, hq, hb⟩ => by cases hq; exact .inr hb) (fun k hk => .inl hk) s.gr K1.out rfl HP.out.ok
          exact ⟨rfl, ⟨S1, S2, g1, g2, g3, g4, hp'⟩, K2.out.more fun k _ ⟨q, hq, hb⟩ => by cases hq; subst hb; exact HP.out.d3.2.2.2.2.2.1⟩
        · have hac : arC s.gr n = 0 := by unfold arC; rw [if_neg hW, if_neg hn0, if_neg hlt]
          have hS : arS s.gr n = { s.gr with l := s.gr.l - n, u := s.gr.u + n } := by unfold arS; rw [hac, if_pos rfl]
          have hok : (arS s.gr n).Ok := arS_ok HP.out.ok.gr n
          have hun := HP.out.ok.un hli hc hr
          have hfit : Nat.min ys.length (s.win - s.un.length) = ys.length := by
            have h1 : Nat.min ys.length (s.win - s.un.length) = min ys.length (s.win - s.un.length) := rfl
            have h2 := HP.out.ok.gr.sum
            have h3 := HP.out.ok.gr.o0
            have h4 := HP.out.ok.gr.W1
            have h5 : (s.win : Int) = s.gr.W := by unfold Sm.win; omega
            omega
          have HAc := Lib.hid (And.intro hac (And.intro hS (And.intro hok (And.intro hun hfit))))
          have HFl := Lib.hid (And.intro hli (And.intro hc hr))
          rw [hl, if_neg hlt, if_neg hlt, show errv a 0 = Value.nilIface from rfl]
          clear hr hc hli hl hy hW hac hS hlt hok hun hfit
          go_enter Tryd.func27, Tryd.ntmps27
          go_wp2_with fail
          refine (arrive_any w HS.out _ s.gr HP.out.rc n hn64 hn63).mono ?_
          rintro e w1 ⟨rfl, k1, k2⟩
          rw [HAc.out.1, show errv a 0 = Value.nilIface from rfl]
          have K1 := Lib.hid k1
          have K2 := Lib.hid k2
          have hrv := HP.out.recv (arS s.gr n) k1 k2 (by rw [HAc.out.2.1])
          have d9 : w1.cell? ⟨g, 9, none⟩ = some (.pointer (some ⟨g2, 0, none⟩)) := hrv.1.at_ 9 _ rfl
          have HRv := Lib.hid hrv
          have ha : ∀ k, at_ (some ⟨g4, 0, none⟩) k → k = g4 := fun k ⟨q, hq, hb⟩ => by cases hq; exact hb
          have HV1 : Hid (BsO w1 (.slice A n c) ys) := HV.out.1.chg k2 fun k hk => ⟨(HV.out.2.1 k hk).1, fun h => (HV.out.2.1 k hk).2 (by rw [ha k h]; exact HP.out.d3.2.2.2.2.2.1)⟩
          have hz1 : w.heap.size ≤ w1.heap.size := k2.size
          have HZ1 := Lib.hid hz1
          clear k1 k2 hrv hz1
          go_wp2_with fail
          refine (push_any w1 HRv.out.2.2.1 _ HV1.out (fun k hk => ⟨by have := (HV.out.2.1 k hk).1; have := HZ1.out; omega, fun h => (HV.out.2.1 k hk).2 (HP.out.d2 k h).2.2.2.1⟩) HV.out.2.2).mono ?_
          rintro e w2 ⟨rfl, j1, j2⟩
          rw [HAc.out.2.2.2.2, List.take_length] at j1
          have hp2 : Pso w2 T S1 (fun k => S2 k ∨ w1.heap.size ≤ k ∧ k < w2.heap.size) g g1 g2 g3 g4 { s with un := s.un ++ ys, gr := { s.gr with l := s.gr.l - n, u := s.gr.u + n } } := by
            rw [← HAc.out.2.1]
            refine HP.out.ring2 HT.out j1 ((K2.out.more fun k _ h => .inr (ha k h)).then j2 fun k _ h => .inl h) (fun k hk => ?_) (arS s.gr n) (K1.out.chg j2 fun b ⟨q, hq, hb⟩ h => by cases hq; subst hb; exact (HP.out.d2 _ h).2.2.1 rfl) (by rw [HAc.out.2.1]) ?_
            · rcases hk with h | h
              · exact .inl h
              · exact .inr ⟨Nat.le_trans HZ1.out h.1, h.2⟩
            · refine ⟨HP.out.ok.id1, HP.out.ok.id2, HP.out.ok.f1, HP.out.ok.f2, HP.out.ok.g2, HP.out.ok.cr, HAc.out.2.2.1, ?_, fun _ _ _ => ?_⟩
              · show s.cr.W = (arS s.gr n).W
                rw [HAc.out.2.1]
                exact HP.out.ok.W
              · show (arS s.gr n).u = ((s.un ++ ys).length : Int)
                rw [HAc.out.2.1, List.length_append, HL.out]
                show s.gr.u + n = _
                have := HAc.out.2.2.2.1
                omega
          have HP2 := Lib.hid hp2
          have HC2 : Hid (Chg T w w2) := (K2.out.more fun k _ ⟨q, hq, hb⟩ => by cases hq; subst hb; exact HP.out.d3.2.2.2.2.2.1).then j2 fun k _ h => (HP.out.d2 k h).2.2.2.1
          have HS2 : Hid (Sen B a w2 ∧ Tab B w2) := by
            have hbl := HC2.out.below (fun k _ h => HTB.out.1 k h) HTB.out.2
            exact ⟨HS.out.below hbl, HTb.out.below hbl⟩
          clear j1 j2 hp2
          cases fin with
          | false =>
            go_wp2
            go_ret
            have h : Pst w2 T g { s with un := s.un ++ ys, gr := { s.gr with l := s.gr.l - n, u := s.gr.u + n } } := ⟨S1, _, g1, g2, g3, g4, HP2.out⟩
            exact ⟨rfl, cast (congrArg (Pst w2 T g) (by simp only [HFl.out.1, HFl.out.2.1, HFl.out.2.2])) h, HC2.out⟩
          | true =>
            go_wp2_with fail
            refine (happen_in w2 HS2.out.1 HS2.out.2 (s := { s with un := s.un ++ ys, gr := { s.gr with l := s.gr.l - n, u := s.gr.u + n } }) ⟨S1, _, g1, g2, g3, g4, HP2.out⟩ HFl.out.1 HFl.out.2.2).mono ?_
            rintro e w3 ⟨⟨r, rfl⟩, j1, j2⟩
            have J1 := Lib.hid j1
            have J2 := Lib.hid j2
            clear j1 j2
            go_wp2
            go_ret
            exact ⟨rfl, cast (congrArg (Pst w3 T g) (by simp only [HFl.out.2.1, HFl.out.2.2])) J1.out, HC2.out.trans J2.out⟩
end
end Go.Proofs.YthalmjjbamglgaaDoor
namespace Go.Proofs.YthalmjjbamglgaaDoor
open Go.RowKit

theorem Sen.of_chg {B : Nat} {a : Nat → Addr} {w w' : World} {T : Nat → Prop} (hs : Sen B a w) (hc : Chg T w w') (hT : ∀ k, T k → B ≤ k) (hB : B ≤ w.heap.size) : Sen B a w' := hs.below (hc.below (fun k _ h => hT k h) hB)
theorem rdS_u {s : Gr} {n : Int} (h : rdC s n = 0) : (rdS s n).u = s.u - n ∧ (rdS s n).W = s.W := by
  unfold rdS
  rw [if_pos h]
  split <;> exact ⟨rfl, rfl⟩
section
variable {B : Nat} {a : Nat → Addr}
/-- The code, the grant, the stream behind a Read of nn bytes. -/
def srC (s : Sm) : Nat := if s.un = [] then (if s.li then 25 else if s.ct then 27 else 0) else 0
def srG (s : Sm) (nn : Nat) : Int := if s.un = [] then 0 else if s.li || s.ct then 0 else rdV s.gr (Nat.min nn s.un.length : Nat)
def srS (s : Sm) (nn : Nat) : Sm := if s.un = [] then (if s.li then { s with td := true } else s) else { s with un := s.un.drop (Nat.min nn s.un.length), gr := if s.li || s.ct then s.gr else rdS s.gr (Nat.min nn s.un.length : Nat) }
theorem Pso.wide {w : World} {T T' S1 S2 : Nat → Prop} {g g1 g2 g3 g4 : Nat} {s : Sm} (h : Pso w T S1 S2 g g1 g2 g3 g4 s) (h1 : ∀ k, S1 k → T' k) (h2 : ∀ k, S2 k → T' k) (h3 : T' g) (h4 : T' g3) (h5 : T' g4) : Pso w T' S1 S2 g g1 g2 g3 g4 s := by
  obtain ⟨n1, n2, n3, t0, t3, t4, l0, l3, l4⟩ := h.d3
  exact ⟨h.im, h.r1, h.r2, h.cd, h.rc, fun k hk => by have := h.d1 k hk; exact ⟨this.1, this.2.1, this.2.2.1, this.2.2.2.1, h1 k hk, this.2.2.2.2.2⟩, fun k hk => by have := h.d2 k hk; exact ⟨this.1, this.2.1, this.2.2.1, h2 k hk, this.2.2.2.2⟩, ⟨n1, n2, n3, h3, h4, h5, l0, l3, l4⟩, h.ok⟩
theorem Pso.ring2' {w w' : World} {T S1 S2 : Nat → Prop} {g g1 g2 g3 g4 : Nat} {s : Sm} {un' : List Int} (h : Pso w T S1 S2 g g1 g2 g3 g4 s) (hr : Rgo w' S2 g2 s.win un') (hc : Chg (fun k => S2 k ∨ k = g4) w w') (gr' : Gr) (hg : Rc w' (some ⟨g4, 0, none⟩) gr') (hW : gr'.W = s.gr.W) (ok : ({ s with un := un', gr := gr' } : Sm).Ok) :
    Pso w' T S1 S2 g g1 g2 g3 g4 { s with un := un', gr := gr' } := by
  have h' : Pso w (fun k => T k ∨ w.heap.size ≤ k) S1 S2 g g1 g2 g3 g4 s := h.wide (fun k hk => .inl (h.d1 k hk).2.2.2.2.1) (fun k hk => .inl (h.d2 k hk).2.2.2.1) (.inl h.d3.2.2.2.1) (.inl h.d3.2.2.2.2.1) (.inl h.d3.2.2.2.2.2.1)
  exact (h'.ring2 (fun k hk => .inr hk) hr hc (fun k hk => .inl hk) gr' hg hW ok).wide (fun k hk => (h.d1 k hk).2.2.2.2.1) (fun k hk => (h.d2 k hk).2.2.2.1) h.d3.2.2.2.1 h.d3.2.2.2.2.1 h.d3.2.2.2.2.2.1
theorem Pso.ring1' {w w' : World} {T S1 S2 : Nat → Prop} {g g1 g2 g3 g4 : Nat} {s : Sm} {sg' : List Int} (h : Pso w T S1 S2 g g1 g2 g3 g4 s) (hr : Rgo w' S1 g1 s.stage sg') (hc : Chg S1 w w') : Pso w' T S1 S2 g g1 g2 g3 g4 { s with sg := sg' } := by
  have h' : Pso w (fun k => T k ∨ w.heap.size ≤ k) S1 S2 g g1 g2 g3 g4 s := h.wide (fun k hk => .inl (h.d1 k hk).2.2.2.2.1) (fun k hk => .inl (h.d2 k hk).2.2.2.1) (.inl h.d3.2.2.2.1) (.inl h.d3.2.2.2.2.1) (.inl h.d3.2.2.2.2.2.1)
  exact (h'.ring1 (fun k hk => .inr hk) hr hc (fun k hk => .inl hk)).wide (fun k hk => (h.d1 k hk).2.2.2.2.1) (fun k hk => (h.d2 k hk).2.2.2.1) h.d3.2.2.2.1 h.d3.2.2.2.2.1 h.d3.2.2.2.2.2.1
set_option maxRecDepth 100000 in
set_option maxHeartbeats 2000000 in
theorem sread_any (w : World) (hs : Sen B a w) (hB : B ≤ w.heap.size) {T : Nat → Prop} {g : Nat} {s : Sm} (h : Pst w T g s) (hTB : ∀ k, T k → B ≤ k) (hr : s.rs = false) (nn : Nat) (hn : 0 < nn) :
    Calls Tryd.prog 25 #[.pointer (some ⟨g, 0, none⟩), .int .i64 (nn : Int)] w fun e w' => ∃ v, e = .returned (.tuple #[v, .int .u32 (srG s nn), errv a (srC s)]) ∧ Ob w' w.heap.size 5 v (Nat.min nn s.un.length) (u8s (s.un.take (Nat.min nn s.un.length))) ∧ Pst w' T g (srS s nn) ∧ Chg T w w' := by
  have H := Lib.hid h
  have HS := Lib.hid hs
  have HTB := Lib.hid (And.intro hTB hB)
  obtain ⟨S1, S2, g1, g2, g3, g4, hp⟩ := h
  have c9 : w.cell? ⟨g, 9, none⟩ = some (.pointer (some ⟨g2, 0, none⟩)) := hp.im.at_ 9 _ rfl
  have c13 : w.cell? ⟨g, 13, none⟩ = some (.bool s.rs) := hp.im.at_ 13 _ rfl
  rw [hr] at c13
  have HP := Lib.hid hp
  have hn0 : ¬ (nn : Int) < 0 := by omega
  have hn1 : ¬ (nn : Int) = 0 := by omega
  have HF := Lib.hid hr
  obtain ⟨k, hk⟩ : ∃ k, Nat.min nn s.un.length = k := ⟨_, rfl⟩
  obtain ⟨k1, k2, k3⟩ := nat_min hk.symm
  have HK := Lib.hid hk
  rw [hk]
  clear hs hTB hB hp hr hk
  go_enter Tryd.func25, Tryd.ntmps25
  go_wp2_with fail
  refine (pop_any w HP.out.r2 (fun k hk => (HP.out.d2 k hk).2.2.2.2) nn).mono ?_
  rintro e w1 ⟨v, rfl, j1, j2, j3⟩
  rw [HK.out] at j1 j2
  obtain ⟨A, c, rfl, hkc, _⟩ := j1.slice
  have hp1 := HP.out.ring2' j2 (j3.more fun k _ h => .inl h) s.gr (HP.out.rc.chg j3 fun b ⟨q, hq, hb⟩ h => by cases hq; subst hb; exact (HP.out.d2 _ h).2.2.1 rfl) rfl
  have J1 := Lib.hid j1
  have J2 := Lib.hid j2
  have J3 := Lib.hid j3
  have HSn : Hid (Sen B a w1) := HS.out.of_chg j3 (fun k h => HTB.out.1 k (HP.out.d2 k h).2.2.2.1) HTB.out.2
  have HC1 : Hid (Chg T w w1) := j3.more fun k _ h => (HP.out.d2 k h).2.2.2.1
  have him : Is w1 g 129 (smC s g1 g2 g3 g4) := HP.out.im.chg j3 fun h => (HP.out.d2 g h).1 rfl
  have HIm := Lib.hid him
  have d10 : w1.cell? ⟨g, 10, none⟩ = some (.bool s.li) := him.at_ 10 _ rfl
  have d14 : w1.cell? ⟨g, 14, none⟩ = some (.bool s.ct) := him.at_ 14 _ rfl
  have d12 : w1.cell? ⟨g, 12, none⟩ = some (.pointer (some ⟨g4, 0, none⟩)) := him.at_ 12 _ rfl
  have HRc : Hid (Rc w1 (some ⟨g4, 0, none⟩) s.gr) := HP.out.rc.chg j3 fun b ⟨q, hq, hb⟩ h => by cases hq; subst hb; exact (HP.out.d2 _ h).2.2.1 rfl
  have HP1 := Lib.hid hp1
  clear j1 j2 j3 him hp1
  by_cases hk0 : k = 0
  · have hun : s.un = [] := by
      apply List.eq_nil_of_length_eq_zero
      omega
    subst hk0
    have HUn := Lib.hid hun
    have hok : ({ s with un := s.un.drop 0, gr := s.gr } : Sm).Ok := HP.out.ok
    have hp1 : Pso w1 T S1 S2 g g1 g2 g3 g4 s := HP1.out hok
    have HP2 := Lib.hid hp1
    have eG : srG s nn = 0 := by unfold srG; rw [if_pos hun]
    have eO : Ob w1 w.heap.size 5 (.slice none 0 0) 0 (u8s (s.un.take 0)) := by rw [List.take_zero]; exact ob_nil _ _ _ _
    have HE := Lib.hid (And.intro eG eO)
    clear hok hp1 HP1 eG eO
    cases hli : s.li with
    | true =>
      rw [hli] at d10
      have eC : srC s = 25 := by unfold srC; rw [if_pos hun, if_pos hli]
      have eS : srS s nn = { s with td := true } := by unfold srS; rw [if_pos hun, if_pos hli]
      have HE2 := Lib.hid (And.intro eC eS)
      have f11 : w1.frozen? ⟨g, 11, none⟩ = false := HIm.out.frozen 11
      have d11 : w1.cell? ⟨g, 11, none⟩ = some (.bool s.td) := HIm.out.at_ 11 _ rfl
      have hc : Chg (fun k => k = g) w1 (w1.setCell ⟨g, 11, none⟩ (.bool true)) := (Chg.refl (fun k => k = g) w1).setCell (p := ⟨g, 11, none⟩) (fun _ => rfl) _
      have HS2 : Hid (Sen B a (w1.setCell ⟨g, 11, none⟩ (.bool true))) := HSn.out.of_chg (T := T) (hc.more fun k _ e => by rw [e]; exact HP.out.d3.2.2.2.1) HTB.out.1 (Nat.le_trans HTB.out.2 HC1.out.size)
      have HC2 := Lib.hid hc
      have h25' : ∀ Q, ((w1.setCell ⟨g, 11, none⟩ (.bool true)).drewN Q).cell? ⟨6, 0, none⟩ = some (.iface 200 (.pointer (some (a 25)))) := fun Q => HS2.out.cell 25 (by decide) (by decide)
      have h25 : (w1.setCell ⟨g, 11, none⟩ (.bool true)).cell? ⟨6, 0, none⟩ = some (.iface 200 (.pointer (some (a 25)))) := HS2.out.cell 25 (by decide) (by decide)
      clear hli hun eC eS hc
      go_wp2_with fail
      go_quiet (fail)
      go_wp2
      go_ret3
      refine ⟨_, by rw [HE.out.1, HE2.out.1]; rfl, HE.out.2.chg ((HC2.out.drewN _)) (fun k hk => by simp [obk] at hk), ?_, (HC1.out.then HC2.out fun k _ e => by rw [e]; exact HP.out.d3.2.2.2.1).drewN _⟩
      rw [HE2.out.2]
      exact ⟨S1, S2, g1, g2, g3, g4, (HP2.out.set 11 (.bool true) { s with td := true } rfl rfl rfl rfl rfl rfl ⟨HP2.out.ok.id1, HP2.out.ok.id2, HP2.out.ok.f1, HP2.out.ok.f2, HP2.out.ok.g2, HP2.out.ok.cr, HP2.out.ok.gr, HP2.out.ok.W, HP2.out.ok.un⟩).keep ((Chg.refl none_ _).drewN _)⟩
    | false =>
      rw [hli] at d10
      have eS : srS s nn = s := by unfold srS; rw [if_pos hun, if_neg (by rw [hli]; decide)]
      cases hct : s.ct with
      | true =>
        rw [hct] at d14
        have eC : srC s = 27 := by unfold srC; rw [if_pos hun, if_neg (by rw [hli]; decide), if_pos hct]
        have HE2 := Lib.hid (And.intro eC eS)
        have h27 : w1.cell? ⟨7, 0, none⟩ = some (.iface 200 (.pointer (some (a 27)))) := HSn.out.cell 27 (by decide) (by decide)
        have h27' : ∀ Q, (w1.drewN Q).cell? ⟨7, 0, none⟩ = some (.iface 200 (.pointer (some (a 27)))) := fun Q => HSn.out.cell 27 (by decide) (by decide)
        clear hli hct hun eC eS
        go_wp2_with fail
        go_quiet (fail)
        go_wp2
        go_ret3
        refine ⟨_, by rw [HE.out.1, HE2.out.1]; rfl, HE.out.2.chg ((Chg.refl none_ w1).drewN _) (fun k hk => by simp [obk] at hk), ?_, HC1.out.drewN _⟩
        rw [HE2.out.2]
        exact ⟨S1, S2, g1, g2, g3, g4, HP2.out.keep ((Chg.refl none_ _).drewN _)⟩
      | false =>
        rw [hct] at d14
        have eC : srC s = 0 := by unfold srC; rw [if_pos hun, if_neg (by rw [hli]; decide), if_neg (by rw [hct]; decide)]
        have HE2 := Lib.hid (And.intro eC eS)
        clear hli hct hun eC eS
        go_wp2
        go_ret3
        refine ⟨_, by rw [HE.out.1, HE2.out.1]; rfl, HE.out.2, ?_, HC1.out⟩
        rw [HE2.out.2]
        exact ⟨S1, S2, g1, g2, g3, g4, HP2.out⟩
  · have hkz : (0 : Int) < (k : Int) := by omega
    have hune : s.un ≠ [] := fun e => by rw [e] at k2; simp at k2; omega
    have eC : srC s = 0 := by unfold srC; rw [if_neg hune]
    have HE := Lib.hid (And.intro eC hune)
    clear eC hune
    cases hlc : (s.li || s.ct) with
    | true =>
      have eG : srG s nn = 0 := by unfold srG; rw [if_neg HE.out.2, hlc]; rfl
      have eS : srS s nn = { s with un := s.un.drop k, gr := s.gr } := by unfold srS; rw [if_neg HE.out.2, hlc, HK.out]; rfl
      have hok : ({ s with un := s.un.drop k, gr := s.gr } : Sm).Ok := ⟨HP.out.ok.id1, HP.out.ok.id2, HP.out.ok.f1, HP.out.ok.f2, HP.out.ok.g2, HP.out.ok.cr, HP.out.ok.gr, HP.out.ok.W, fun h1 h2 _ => by
        have h1' : s.li = false := h1
        have h2' : s.ct = false := h2
        rw [h1', h2'] at hlc
        cases hlc⟩
      have HP2 := Lib.hid (HP1.out hok)
      have HE2 := Lib.hid (And.intro eG eS)
      clear eG eS hok HP1
      cases hli : s.li with
      | true =>
        rw [hli] at d10
        clear hlc hli
        go_wp2
        go_ret3
        refine ⟨_, by rw [HE.out.1, HE2.out.1]; rfl, J1.out, ?_, HC1.out⟩
        rw [HE2.out.2]
        exact ⟨S1, S2, g1, g2, g3, g4, HP2.out⟩
      | false =>
        rw [hli] at d10
        have hct : s.ct = true := by rw [hli] at hlc; simpa using hlc
        rw [hct] at d14
        clear hlc hli hct
        go_wp2
        go_ret3
        refine ⟨_, by rw [HE.out.1, HE2.out.1]; rfl, J1.out, ?_, HC1.out⟩
        rw [HE2.out.2]
        exact ⟨S1, S2, g1, g2, g3, g4, HP2.out⟩
    | false =>
      have hli : s.li = false := by cases h1 : s.li <;> simp_all
      have hct : s.ct = false := by cases h1 : s.ct <;> simp_all
      rw [hli] at d10
      rw [hct] at d14
      have hu := HP.out.ok.un hli hct HF.out
      have hW : s.gr.W ≠ 0 := by have := HP.out.ok.gr.W1; omega
      have hC : rdC s.gr k = 0 := by unfold rdC; rw [if_neg hW, if_neg (by omega), if_neg (by omega)]
      have eG : srG s nn = rdV s.gr k := by unfold srG; rw [if_neg HE.out.2, hlc, HK.out]; rfl
      have eS : srS s nn = { s with un := s.un.drop k, gr := rdS s.gr k } := by unfold srS; rw [if_neg HE.out.2, hlc, HK.out]; rfl
      have hok : ({ s with un := s.un.drop k, gr := rdS s.gr k } : Sm).Ok := ⟨HP.out.ok.id1, HP.out.ok.id2, HP.out.ok.f1, HP.out.ok.f2, HP.out.ok.g2, HP.out.ok.cr, rdS_ok HP.out.ok.gr k, by show s.cr.W = _; rw [(rdS_u hC).2]; exact HP.out.ok.W, fun _ _ _ => by
        show (rdS s.gr k).u = ((s.un.drop k).length : Int)
        rw [(rdS_u hC).1, List.length_drop]
        omega⟩
      have HOk := Lib.hid (And.intro hok (And.intro hC (rdS_u hC).2))
      have HE2 := Lib.hid (And.intro eG eS)
      have hk63 : (k : Int) ≤ 9223372036854775807 := by have := HP.out.ok.gr.sum; have := HP.out.ok.gr.l0; have := HP.out.ok.gr.o0; have := HP.out.ok.gr.W2; omega
      have hk64 : -9223372036854775808 ≤ (k : Int) := by omega
      clear hlc hli hct hu hW hC eG eS hok HP1
      go_wp2_with fail
      refine (read_any w1 HSn.out _ s.gr HRc.out k hk64 hk63).mono ?_
      rintro e w2 ⟨rfl, l1, l2⟩
      rw [HOk.out.2.1, show errv a 0 = Value.nilIface from rfl]
      have L1 := Lib.hid l1
      have L2 := Lib.hid l2
      clear l1 l2
      go_wp2
      go_ret3
      have ha : ∀ k, at_ (some ⟨g4, 0, none⟩) k → k = g4 := fun k ⟨q, hq, hb⟩ => by cases hq; exact hb
      refine ⟨_, by rw [HE.out.1, HE2.out.1]; rfl, J1.out.chg L2.out fun q hq h => by rw [ha q h] at hq; have := (J1.out.block _ hq).1; have := HP.out.d3.2.2.2.2.2.2.2.2; omega, ?_, HC1.out.then L2.out fun k _ h => by rw [ha k h]; exact HP.out.d3.2.2.2.2.2.1⟩
      rw [HE2.out.2]
      refine ⟨S1, S2, g1, g2, g3, g4, HP.out.ring2' (J2.out.chg L2.out fun k hk h => (HP.out.d2 k hk).2.2.1 (ha k h)) ((J3.out.more fun k _ h => .inl h).then L2.out fun k _ h => .inr (ha k h)) (rdS s.gr k) L1.out HOk.out.2.2 HOk.out.1⟩
end
end Go.Proofs.YthalmjjbamglgaaDoor
