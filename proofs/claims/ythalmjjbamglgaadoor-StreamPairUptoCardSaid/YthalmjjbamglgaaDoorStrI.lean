/-
  stream.Held by contract; culvertlaw10.behind.
  No condition of its own: the facts 'Sen' and 'Tab' on the world.
-/
import Derived.Test.YthalmjjbamglgaaDoorStrH
namespace Go.Proofs.YthalmjjbamglgaaDoor
open Go.RowKit

section
variable {B : Nat} {a : Nat → Addr}
set_option maxRecDepth 100000 in
set_option maxHeartbeats 1000000 in
theorem sheld_any (w : World) {T : Nat → Prop} {g : Nat} {s : Sm} (h : Pst w T g s) :
    Calls Tryd.prog 57 #[.pointer (some ⟨g, 0, none⟩)] w fun e w' => e = .returned (.int .i64 ((s.sg.length : Int) + (s.un.length : Int))) ∧ Chg none_ w w' := by
  obtain ⟨S1, S2, g1, g2, g3, g4, hp⟩ := h
  have l1 := hp.r1.len
  have l2 := hp.r2.len
  have l3 := hp.r1.cap2
  have l4 := hp.r2.cap2
  have c5 : w.cell? ⟨g, 5, none⟩ = some (.pointer (some ⟨g1, 0, none⟩)) := hp.im.at_ 5 _ rfl
  have c9 : w.cell? ⟨g, 9, none⟩ = some (.pointer (some ⟨g2, 0, none⟩)) := hp.im.at_ 9 _ rfl
  have HP := Lib.hid hp
  have hw : Hid (IntKind.i64.wrap ((s.sg.length : Int) + (s.un.length : Int)) = (s.sg.length : Int) + (s.un.length : Int)) := IntWalk.i64_in _ (by omega)
  obtain ⟨m, hm⟩ : ∃ m : Int, (s.sg.length : Int) = m := ⟨_, rfl⟩
  obtain ⟨n, hn⟩ : ∃ n : Int, (s.un.length : Int) = n := ⟨_, rfl⟩
  have HL1 : Hid (∀ q, Calls Tryd.prog 63 #[.pointer (some ⟨g1, 0, none⟩)] (w.drewN q) fun e w' => e = .returned (.int .i64 m) ∧ w' = w.drewN q) := fun q => by
    rw [← hm]
    exact (rlen_any _ (hp.keep ((Chg.refl none_ w).drewN q)).r1).mono fun e w' h => ⟨h.1, h.2.symm⟩
  have HL2 : Hid (∀ q, Calls Tryd.prog 63 #[.pointer (some ⟨g2, 0, none⟩)] (w.drewN q) fun e w' => e = .returned (.int .i64 n) ∧ w' = w.drewN q) := fun q => by
    rw [← hn]
    exact (rlen_any _ (hp.keep ((Chg.refl none_ w).drewN q)).r2).mono fun e w' h => ⟨h.1, h.2.symm⟩
  rw [hm, hn] at hw ⊢
  clear hm hn HP
  clear hp l1 l2 l3 l4
  go_enter Tryd.func57, Tryd.ntmps57
  go_wp2_with fail
  go_quiet (first
    | (go_at_call 63; exact Calls.quiet_of_same (HL1.out _))
    | (go_at_call 63; exact Calls.quiet_of_same (HL2.out _)))
  go_wp2
  go_ret
  have e : wrap64 (m + n) = m + n := (IntWalk.i64_left _).symm.trans hw.out
  exact ⟨by show Ending.returned (.int .i64 (wrap64 (m + n))) = _; rw [e], (Chg.refl _ _).drewN _⟩

/-- A stream's run from world w on: all of it within T or new. -/
structure Run (B : Nat) (a : Nat → Addr) (w wi : World) (T : Nat → Prop) (g : Nat) (s : Sm) : Prop where
  ex : ∃ Ti, Pst wi Ti g s ∧ (∀ k, Ti k → (T k ∨ w.heap.size ≤ k) ∧ k < wi.heap.size)
  chg : Chg T w wi
  sen : Sen B a wi
  tab : Tab B wi
  hB : B ≤ w.heap.size
  hTB : ∀ k, T k → B ≤ k
variable {w wi : World} {T : Nat → Prop} {g : Nat} {s : Sm}
theorem Run.init (hs : Sen B a w) (ht : Tab B w) (hB : B ≤ w.heap.size) (h : Pst w T g s) (hTB : ∀ k, T k → B ≤ k) : Run B a w w T g s := ⟨⟨_, h.cut, fun _ hk => ⟨.inl hk.1, hk.2⟩⟩, Chg.refl _ _, hs, ht, hB, hTB⟩
theorem Run.hBi (h : Run B a w wi T g s) : B ≤ wi.heap.size := Nat.le_trans h.hB h.chg.size
theorem Run.step {wj : World} {Ti : Nat → Prop} {s' : Sm} (h : Run B a w wi T g s) (hT : ∀ k, Ti k → (T k ∨ w.heap.size ≤ k) ∧ k < wi.heap.size) (hs : Stp wi wj Ti g s') : Run B a w wj T g s' := by
  obtain ⟨Tj, h1, h2, h3⟩ := hs
  have hz := h.chg.size
  have hc : Chg T w wj := h.chg.then h3 fun k hk ht => by
    rcases (hT k ht).1 with h' | h'
    · exact h'
    · omega
  have hb := hc.below (B := B) (fun k _ ht => h.hTB k ht) h.hB
  have hb' : Below B wi wj := h3.below (fun k _ ht => by
    rcases (hT k ht).1 with h' | h'
    · exact h.hTB k h'
    · have := h.hB; omega) h.hBi
  refine ⟨⟨Tj, h1, fun k hk => ⟨?_, (h2 k hk).2⟩⟩, hc, h.sen.below hb', h.tab.below hb', h.hB, h.hTB⟩
  rcases (h2 k hk).1 with h' | h'
  · exact (hT k h').1
  · exact .inr (by omega)
theorem Run.grow {wj : World} (h : Run B a w wi T g s) (hc : Chg none_ wi wj) : Run B a w wj T g s := by
  obtain ⟨Ti, h1, h2⟩ := h.ex
  exact h.step h2 (Stp.of (h1.keep hc) (hc.more fun _ _ f => f.elim))
/-- The stream lies in blocks that were there. -/
theorem Run.old {wj : World} (h : Run B a w wi T g s) (hc : Chg none_ wi wj) : ∃ Tj, Pst wj Tj g s ∧ ∀ k, Tj k → (T k ∨ w.heap.size ≤ k) ∧ k < wi.heap.size := by
  obtain ⟨Ti, h1, h2⟩ := h.ex
  exact ⟨Ti, h1.keep hc, h2⟩

theorem run_view (h : Run B a w wi T g s) : Calls Tryd.prog 20 #[.pointer (some ⟨g, 0, none⟩)] wi fun e wj => e = .returned (vwV s) ∧ Run B a w wj T g s := by
  obtain ⟨Ti, h1, h2⟩ := h.ex
  exact (sview_any wi h1).mono fun e wj ⟨e1, e2⟩ => ⟨e1, h.grow e2⟩
theorem run_held (h : Run B a w wi T g s) : Calls Tryd.prog 57 #[.pointer (some ⟨g, 0, none⟩)] wi fun e wj => e = .returned (.int .i64 ((s.sg.length : Int) + (s.un.length : Int))) ∧ Run B a w wj T g s := by
  obtain ⟨Ti, h1, h2⟩ := h.ex
  exact (sheld_any wi h1).mono fun e wj ⟨e1, e2⟩ => ⟨e1, h.grow e2⟩
theorem run_done (h : Run B a w wi T g s) : Calls Tryd.prog 55 #[.pointer (some ⟨g, 0, none⟩)] wi fun e wj => e = .returned (.bool (dnB s)) ∧ wi = wj := by
  obtain ⟨Ti, h1, h2⟩ := h.ex
  exact sdone_any wi h1
theorem run_ready (h : Run B a w wi T g s) : Calls Tryd.prog 56 #[.pointer (some ⟨g, 0, none⟩)] wi fun e wj => e = .returned (.bool (rdyB s)) ∧ wi = wj := by
  obtain ⟨Ti, h1, h2⟩ := h.ex
  exact sready_any wi h.sen h1
theorem run_accept (h : Run B a w wi T g s) : Calls Tryd.prog 21 #[.pointer (some ⟨g, 0, none⟩)] wi fun e wj => e = .returned (errv a (acC s)) ∧ Run B a w wj T g (acS s) := by
  obtain ⟨Ti, h1, h2⟩ := h.ex
  exact (accept_any wi h.sen h.tab h1).mono fun e wj ⟨e1, e2, e3⟩ => ⟨e1, h.step h2 (Stp.of e2 e3)⟩
theorem run_close (h : Run B a w wi T g s) : Calls Tryd.prog 24 #[.pointer (some ⟨g, 0, none⟩)] wi fun e wj => e = .returned (errv a (wrC s)) ∧ Run B a w wj T g (clS s) := by
  obtain ⟨Ti, h1, h2⟩ := h.ex
  exact (close_any wi h.sen h1).mono fun e wj ⟨e1, e2, e3⟩ => ⟨e1, h.step h2 (Stp.of e2 e3)⟩
theorem run_reset (h : Run B a w wi T g s) : Calls Tryd.prog 78 #[.pointer (some ⟨g, 0, none⟩)] wi fun e wj => (∃ r, e = .returned r) ∧ Run B a w wj T g (rsS s) := by
  obtain ⟨Ti, h1, h2⟩ := h.ex
  exact (sreset_any wi h.sen h.tab h1).mono fun e wj ⟨e1, e2, e3⟩ => ⟨e1, h.step h2 (Stp.of e2 e3)⟩
theorem run_cut (h : Run B a w wi T g s) : Calls Tryd.prog 77 #[.pointer (some ⟨g, 0, none⟩)] wi fun e wj => (∃ r, e = .returned r) ∧ Run B a w wj T g (ctS s) := by
  obtain ⟨Ti, h1, h2⟩ := h.ex
  exact (scut_any wi h1).mono fun e wj ⟨e1, e2, e3⟩ => ⟨e1, h.step h2 (Stp.of e2 e3)⟩
theorem Run.low {Ti : Nat → Prop} (h : Run B a w wi T g s) (h2 : ∀ k, Ti k → (T k ∨ w.heap.size ≤ k) ∧ k < wi.heap.size) : ∀ k, Ti k → B ≤ k := fun k hk => by
  rcases (h2 k hk).1 with h' | h'
  · exact h.hTB k h'
  · have := h.hB; omega
theorem run_grant (h : Run B a w wi T g s) (d : Int) (d0 : 0 ≤ d) (d1 : d ≤ 4294967295) (fin : Bool) : Calls Tryd.prog 28 #[.pointer (some ⟨g, 0, none⟩), .int .u32 d, .bool fin] wi fun e wj => e = .returned (errv a (gnC s d)) ∧ Run B a w wj T g (gnS s d fin) := by
  obtain ⟨Ti, h1, h2⟩ := h.ex
  exact (sgrant_any wi h.sen h.tab h.hBi h1 (h.low h2) d d0 d1 fin).mono fun e wj ⟨e1, e2, e3⟩ => ⟨e1, h.step h2 (Stp.of e2 e3)⟩
theorem run_read (h : Run B a w wi T g s) (n : Int) (n0 : -9223372036854775808 ≤ n) (n1 : n ≤ 9223372036854775807) : Calls Tryd.prog 25 #[.pointer (some ⟨g, 0, none⟩), .int .i64 n] wi fun e wj => ∃ v, e = .returned (.tuple #[v, .int .u32 (rtG s n), errv a (rtC s n)]) ∧ Ob wj wi.heap.size 5 v (rtN s n) (u8s (s.un.take (rtN s n))) ∧ Run B a w wj T g (rtS s n) := by
  obtain ⟨Ti, h1, h2⟩ := h.ex
  exact (sreadt_any wi h.sen h.hBi h1 (h.low h2) n n0 n1).mono fun e wj ⟨v, e1, e2, e3, e4⟩ => ⟨v, e1, e2, h.step h2 (Stp.of e3 e4)⟩
theorem run_frame (h : Run B a w wi T g s) : Calls Tryd.prog 29 #[.pointer (some ⟨g, 0, none⟩)] wi fun e wj => ∃ (x2 x3 x4 : Int) (v : Value) (ok : Bool), e = .returned (.tuple #[.agg #[.int .u8 0, .int .u8 0, .int .u16 x2, .int .u32 x3, .int .u32 x4, v], .bool ok]) ∧ Ob wj wi.heap.size 5 v (fxK s) (u8s (s.sg.take (fxK s))) ∧ Run B a w wj T g (fxS s) := by
  obtain ⟨Ti, h1, h2⟩ := h.ex
  exact (sframe_any wi h.sen h.tab h.hBi h1 (h.low h2)).mono fun e wj ⟨x2, x3, x4, v, ok, e1, e2, e3, e4⟩ => ⟨x2, x3, x4, v, ok, e1, e2, h.step h2 (Stp.of e3 e4)⟩
theorem run_write (h : Run B a w wi T g s) (v : Value) (ys : List Int) (hv : BsO wi v ys) {z : Nat} (hz : z ≤ wi.heap.size) (hO : ∃ Tj, Pst wi Tj g s ∧ ∀ k, Tj k → (T k ∨ w.heap.size ≤ k) ∧ k < z) (hvT : ∀ k, rdk v = some k → z ≤ k ∧ k < wi.heap.size) (hy : ys.length ≤ 140737488355328) :
    Calls Tryd.prog 22 #[.pointer (some ⟨g, 0, none⟩), v] wi fun e wj => e = .returned (.tuple #[.int .i64 (wrN s ys : Int), errv a (wrC s)]) ∧ Run B a w wj T g (wrS s ys) := by
  obtain ⟨Tj, j1, j2⟩ := hO
  exact (write_any wi h.sen (T := fun k => Tj k ∨ wi.heap.size ≤ k) (j1.wide fun k hk => .inl hk) (fun k hk => .inr hk) v ys hv (fun k hk => ⟨(hvT k hk).2, fun hx => hx.elim (fun h' => by have := (j2 k h').2; have := hvT k hk; omega) fun h' => by have := hvT k hk; omega⟩) hy).mono
    fun e wj ⟨e1, e2, e3⟩ => ⟨e1, h.step (Ti := Tj) (fun k hk => ⟨(j2 k hk).1, by have := (j2 k hk).2; omega⟩) (Stp.of_wide e2 e3)⟩
theorem run_arrive (h : Run B a w wi T g s) (v : Value) (ys : List Int) (hv : BsO wi v ys) {z : Nat} (hz : z ≤ wi.heap.size) (hO : ∃ Tj, Pst wi Tj g s ∧ ∀ k, Tj k → (T k ∨ w.heap.size ≤ k) ∧ k < z) (hvT : ∀ k, rdk v = some k → z ≤ k ∧ k < wi.heap.size) (hy : ys.length ≤ 140737488355328) (fin : Bool) :
    Calls Tryd.prog 27 #[.pointer (some ⟨g, 0, none⟩), v, .bool fin] wi fun e wj => e = .returned (errv a (avC s ys.length)) ∧ Run B a w wj T g (avS s ys fin) := by
  obtain ⟨Tj, j1, j2⟩ := hO
  have j2' : ∀ k, Tj k → (T k ∨ w.heap.size ≤ k) ∧ k < wi.heap.size := fun k hk => ⟨(j2 k hk).1, by have := (j2 k hk).2; omega⟩
  have hlo := h.low j2'
  have hBi := h.hBi
  exact (sarrive_any wi h.sen h.tab hBi (T := fun k => Tj k ∨ wi.heap.size ≤ k) (j1.wide fun k hk => .inl hk) (fun k hk => hk.elim (fun h' => hlo k h') fun h' => by omega) (fun k hk => .inr hk) v ys hv (fun k hk => ⟨(hvT k hk).2, fun hx => hx.elim (fun h' => by have := (j2 k h').2; have := hvT k hk; omega) fun h' => by have := hvT k hk; omega⟩) hy fin).mono
    fun e wj ⟨e1, e2, e3⟩ => ⟨e1, h.step (Ti := Tj) j2' (Stp.of_wide e2 e3)⟩
end
end Go.Proofs.YthalmjjbamglgaaDoor
