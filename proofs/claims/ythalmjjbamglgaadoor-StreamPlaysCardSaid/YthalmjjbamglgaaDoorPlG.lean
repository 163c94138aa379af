/-
  A stream of the program, or none: every call by contract.
  No condition of its own: the facts 'Sen' and 'Tab' on the world.
-/
import Derived.Test.YthalmjjbamglgaaDoorPlN
import Derived.Test.YthalmjjbamglgaaDoorRefL
namespace Go.Proofs.YthalmjjbamglgaaDoor
open Go.RowKit

section
variable {B : Nat} {a : Nat → Addr} {w wi wj : World} {T : Nat → Prop} {g : Nat} {s : Sm} {p : Value} {nl : Bool}
def nC (nl : Bool) (k : Nat) : Nat := if nl then 1 else k
def nS (nl : Bool) (s t : Sm) : Sm := if nl then s else t
def nV (nl : Bool) (k : Nat) : Nat := if nl then 0 else k
def nG (nl : Bool) (k : Int) : Int := if nl then 0 else k
def nL (nl : Bool) (k : List Int) : List Int := if nl then [] else k
theorem run_quiet (h : Run B a w wi T g s) : Calls Tryd.prog 54 #[.pointer (some ⟨g, 0, none⟩)] wi fun e wj => e = .returned (.bool (quB s)) ∧ wi = wj := by
  obtain ⟨Ti, h1, h2⟩ := h.ex
  exact squiet_any wi h1
theorem run_frame_yes (h : Run B a w wi T g s) (hr : rdyB s = true) : Calls Tryd.prog 29 #[.pointer (some ⟨g, 0, none⟩)] wi fun e wj => ∃ v, e = .returned (.tuple #[frV (if frE s then 4 else 0) s.id (frK s) v, .bool true]) ∧ Ob wj wi.heap.size 5 v (frK s) (u8s (s.sg.take (frK s))) ∧ Run B a w wj T g (frS s) := by
  obtain ⟨Ti, h1, h2⟩ := h.ex
  exact (sframe_yes wi h.sen h.tab h.hBi h1 (h.low h2) hr).mono fun e wj ⟨v, e1, e2, e3, e4⟩ => ⟨v, e1, e2, h.step h2 (Stp.of e3 e4)⟩
theorem run_frame_no (h : Run B a w wi T g s) (hr : rdyB s = false) : Calls Tryd.prog 29 #[.pointer (some ⟨g, 0, none⟩)] wi fun e wj => e = .returned (.tuple #[frZ, .bool false]) ∧ Run B a w wj T g s := by
  obtain ⟨Ti, h1, h2⟩ := h.ex
  exact (sframe_no wi h.sen h.hBi h1 hr).mono fun e wj ⟨e1, _, e3⟩ => ⟨e1, h.grow e3⟩

/-- A run of a stream, or of none. -/
structure Rn (B : Nat) (a : Nat → Addr) (w wi : World) (T : Nat → Prop) (nl : Bool) (p : Value) (s : Sm) : Prop where
  chg : Chg T w wi
  sen : Sen B a wi
  tab : Tab B wi
  hB : B ≤ w.heap.size
  hTB : ∀ k, T k → B ≤ k
  nil : nl = true → p = .pointer none
  run : nl = false → ∃ g, p = .pointer (some ⟨g, 0, none⟩) ∧ Run B a w wi T g s
theorem Rn.of_run (h : Run B a w wi T g s) : Rn B a w wi T false (.pointer (some ⟨g, 0, none⟩)) s := ⟨h.chg, h.sen, h.tab, h.hB, h.hTB, (fun e => by cases e), fun _ => ⟨g, rfl, h⟩⟩
theorem Rn.init (hs : Sen B a w) (ht : Tab B w) (hB : B ≤ w.heap.size) (hTB : ∀ k, T k → B ≤ k) (h1 : nl = true → p = .pointer none) (h2 : nl = false → ∃ g, p = .pointer (some ⟨g, 0, none⟩) ∧ Pst w T g s) : Rn B a w w T nl p s :=
  ⟨Chg.refl _ _, hs, ht, hB, hTB, h1, fun e => by
    obtain ⟨g, e1, e2⟩ := h2 e
    exact ⟨g, e1, Run.init hs ht hB e2 hTB⟩⟩
theorem Rn.hBi (h : Rn B a w wi T nl p s) : B ≤ wi.heap.size := Nat.le_trans h.hB h.chg.size
theorem Rn.grow (h : Rn B a w wi T nl p s) (hc : Chg none_ wi wj) : Rn B a w wj T nl p s :=
  ⟨h.chg.then hc fun _ _ f => f.elim, h.sen.below (hc.old h.hBi), h.tab.below (hc.old h.hBi), h.hB, h.hTB, h.nil, fun e => by
    obtain ⟨g, e1, e2⟩ := h.run e
    exact ⟨g, e1, e2.grow hc⟩⟩
theorem Run.undrew (h : Run B a w.drew wi T g s) : Run B a w wi T g s := ⟨h.ex, ((Chg.refl T w).drew).trans h.chg, h.sen, h.tab, h.hB, h.hTB⟩
theorem Rn.undrew (h : Rn B a w.drew wi T nl p s) : Rn B a w wi T nl p s := ⟨((Chg.refl T w).drew).trans h.chg, h.sen, h.tab, h.hB, h.hTB, h.nil, fun e => by
  obtain ⟨g, e1, e2⟩ := h.run e
  exact ⟨g, e1, e2.undrew⟩⟩
theorem Rn.ptr (h : Rn B a w wi T nl p s) : ∃ q, p = .pointer q := by
  cases nl
  · obtain ⟨g, e, _⟩ := h.run rfl
    exact ⟨_, e⟩
  · exact ⟨_, h.nil rfl⟩
theorem rn_accept (h : Rn B a w wi T nl p s) : Calls Tryd.prog 21 #[p] wi fun e wj => e = .returned (errv a (nC nl (acC s))) ∧ Rn B a w wj T nl p (nS nl s (acS s)) := by
  cases nl
  · obtain ⟨g, rfl, r⟩ := h.run rfl
    exact (run_accept r).mono fun e wj ⟨e1, e2⟩ => ⟨e1, Rn.of_run e2⟩
  · obtain rfl := h.nil rfl
    exact (nacc wi h.sen).mono fun e wj ⟨e1, e2⟩ => by subst e2; exact ⟨e1, h⟩
theorem rn_close (h : Rn B a w wi T nl p s) : Calls Tryd.prog 24 #[p] wi fun e wj => e = .returned (errv a (nC nl (wrC s))) ∧ Rn B a w wj T nl p (nS nl s (clS s)) := by
  cases nl
  · obtain ⟨g, rfl, r⟩ := h.run rfl
    exact (run_close r).mono fun e wj ⟨e1, e2⟩ => ⟨e1, Rn.of_run e2⟩
  · obtain rfl := h.nil rfl
    exact (nclose wi h.sen).mono fun e wj ⟨e1, e2⟩ => by subst e2; exact ⟨e1, h⟩
theorem rn_write (h : Rn B a w wi T nl p s) (hc : Chg none_ wi wj) {n : Nat} {v : Value} {ys : List Int} (hv : Ob wj wi.heap.size 5 v n (u8s ys)) (hb : Byt ys) (hy : ys.length ≤ 140737488355328) :
    Calls Tryd.prog 22 #[p, v] wj fun e wk => e = .returned (.tuple #[.int .i64 ((nV nl (wrN s ys) : Nat) : Int), errv a (nC nl (wrC s))]) ∧ Rn B a w wk T nl p (nS nl s (wrS s ys)) := by
  cases nl
  · obtain ⟨g, rfl, r⟩ := h.run rfl
    exact (run_write (r.grow hc) v ys (BsO.of_ob hv hb) hc.size (r.old hc) (fun k hk => hv.block k (hv.rdk k hk)) hy).mono fun e wj ⟨e1, e2⟩ => ⟨e1, Rn.of_run e2⟩
  · obtain rfl := h.nil rfl
    exact (nwrite wj (h.grow hc).sen v).mono fun e wk ⟨e1, e2⟩ => by subst e2; exact ⟨e1, h.grow hc⟩
theorem rn_arrive (h : Rn B a w wi T nl p s) (hc : Chg none_ wi wj) {n : Nat} {v : Value} {ys : List Int} (hv : Ob wj wi.heap.size 5 v n (u8s ys)) (hb : Byt ys) (hy : ys.length ≤ 140737488355328) (fin : Bool) :
    Calls Tryd.prog 27 #[p, v, .bool fin] wj fun e wk => e = .returned (errv a (nC nl (avC s ys.length))) ∧ Rn B a w wk T nl p (nS nl s (avS s ys fin)) := by
  cases nl
  · obtain ⟨g, rfl, r⟩ := h.run rfl
    exact (run_arrive (r.grow hc) v ys (BsO.of_ob hv hb) hc.size (r.old hc) (fun k hk => hv.block k (hv.rdk k hk)) hy fin).mono fun e wj ⟨e1, e2⟩ => ⟨e1, Rn.of_run e2⟩
  · obtain rfl := h.nil rfl
    exact (narrive wj (h.grow hc).sen v fin).mono fun e wk ⟨e1, e2⟩ => by subst e2; exact ⟨e1, h.grow hc⟩
theorem rn_grant (h : Rn B a w wi T nl p s) (d : Int) (d0 : 0 ≤ d) (d1 : d ≤ 4294967295) (fin : Bool) : Calls Tryd.prog 28 #[p, .int .u32 d, .bool fin] wi fun e wj => e = .returned (errv a (nC nl (gnC s d))) ∧ Rn B a w wj T nl p (nS nl s (gnS s d fin)) := by
  cases nl
  · obtain ⟨g, rfl, r⟩ := h.run rfl
    exact (run_grant r d d0 d1 fin).mono fun e wj ⟨e1, e2⟩ => ⟨e1, Rn.of_run e2⟩
  · obtain rfl := h.nil rfl
    exact (ngrant wi h.sen d fin).mono fun e wj ⟨e1, e2⟩ => by subst e2; exact ⟨e1, h⟩
theorem bso_nil0 (w : World) : BsO w (.slice none 0 0) [] := ⟨none, 0, 0, rfl, rfl, (fun _ h => by cases h), Nat.le_refl _, fun h => absurd h (Nat.lt_irrefl 0)⟩
theorem rn_read (h : Rn B a w wi T nl p s) (hb : Byt s.un) (n : Int) (n0 : -9223372036854775808 ≤ n) (n1 : n ≤ 9223372036854775807) : Calls Tryd.prog 25 #[p, .int .i64 n] wi fun e wj => ∃ A4 n4 k4, e = .returned (.tuple #[.slice A4 n4 k4, .int .u32 (nG nl (rtG s n)), errv a (nC nl (rtC s n))]) ∧ BsO wj (.slice A4 n4 k4) (nL nl (s.un.take (rtN s n))) ∧ (∀ q, rdk (.slice A4 n4 k4) = some q → wi.heap.size ≤ q ∧ q < wj.heap.size) ∧ Rn B a w wj T nl p (nS nl s (rtS s n)) := by
  cases nl
  · obtain ⟨g, rfl, r⟩ := h.run rfl
    refine (run_read r n n0 n1).mono fun e wj ⟨v, e1, e2, e3⟩ => ?_
    obtain ⟨A4, k4, rfl, _⟩ := e2.slice
    exact ⟨_, _, _, e1, BsO.of_ob e2 (hb.take _), fun q hq => e2.block q (e2.rdk q hq), Rn.of_run e3⟩
  · obtain rfl := h.nil rfl
    exact (nread wi h.sen n).mono fun e wj ⟨e1, e2⟩ => ⟨_, _, _, e1, bso_nil0 _, (fun q hq => by simp [rdk] at hq), h.grow e2⟩
theorem rn_reset (h : Rn B a w wi T nl p s) : Calls Tryd.prog 78 #[p] wi fun e wj => (∃ r, e = .returned r) ∧ Rn B a w wj T nl p (nS nl s (rsS s)) := by
  cases nl
  · obtain ⟨g, rfl, r⟩ := h.run rfl
    exact (run_reset r).mono fun e wj ⟨e1, e2⟩ => ⟨e1, Rn.of_run e2⟩
  · obtain rfl := h.nil rfl
    exact (nreset wi).mono fun e wj ⟨e1, e2⟩ => by subst e2; exact ⟨e1, h⟩
theorem rn_cut (h : Rn B a w wi T nl p s) : Calls Tryd.prog 77 #[p] wi fun e wj => (∃ r, e = .returned r) ∧ Rn B a w wj T nl p (nS nl s (ctS s)) := by
  cases nl
  · obtain ⟨g, rfl, r⟩ := h.run rfl
    exact (run_cut r).mono fun e wj ⟨e1, e2⟩ => ⟨e1, Rn.of_run e2⟩
  · obtain rfl := h.nil rfl
    exact (ncut wi).mono fun e wj ⟨e1, e2⟩ => by subst e2; exact ⟨e1, h⟩
theorem rn_ready (h : Rn B a w wi T nl p s) : Calls Tryd.prog 56 #[p] wi fun e wj => e = .returned (.bool (!nl && rdyB s)) ∧ wi = wj := by
  cases nl
  · obtain ⟨g, rfl, r⟩ := h.run rfl
    exact run_ready r
  · obtain rfl := h.nil rfl
    exact nready wi h.sen
theorem rn_frame_yes (h : Rn B a w wi T false p s) (hr : rdyB s = true) : Calls Tryd.prog 29 #[p] wi fun e wj => ∃ A4 k4, e = .returned (.tuple #[frV (if frE s then 4 else 0) s.id (frK s) (.slice A4 (frK s) k4), .bool true]) ∧ Ob wj wi.heap.size 5 (.slice A4 (frK s) k4) (frK s) (u8s (s.sg.take (frK s))) ∧ Rn B a w wj T false p (frS s) := by
  obtain ⟨g, rfl, r⟩ := h.run rfl
  refine (run_frame_yes r hr).mono fun e wj ⟨v, e1, e2, e3⟩ => ?_
  obtain ⟨A4, k4, rfl, _⟩ := e2.slice
  exact ⟨_, _, e1, e2, Rn.of_run e3⟩
theorem rn_frame_no (h : Rn B a w wi T false p s) (hr : rdyB s = false) : Calls Tryd.prog 29 #[p] wi fun e wj => e = .returned (.tuple #[frZ, .bool false]) ∧ Rn B a w wj T false p s := by
  obtain ⟨g, rfl, r⟩ := h.run rfl
  exact (run_frame_no r hr).mono fun e wj ⟨e1, e2⟩ => ⟨e1, Rn.of_run e2⟩
theorem rn_frame_nil (h : Rn B a w wi T true p s) : Calls Tryd.prog 29 #[p] wi fun e wj => e = .returned (.tuple #[frZ, .bool false]) ∧ Rn B a w wj T true p s := by
  obtain rfl := h.nil rfl
  exact (nframe wi h.sen h.hBi).mono fun e wj ⟨e1, e2⟩ => ⟨e1, h.grow e2⟩
end
end Go.Proofs.YthalmjjbamglgaaDoor
