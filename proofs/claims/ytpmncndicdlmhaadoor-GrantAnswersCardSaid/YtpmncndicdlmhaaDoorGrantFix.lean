/-
  culvertlaw08.fixed by contract; the walks of GrantNames and GrantThreshold.
  No condition of its own.
-/
import Derived.Test.YtpmncndicdlmhaaDoorGrant2
namespace Go.Proofs.YtpmncndicdlmhaaDoor
open Go.RowKit

/-- Changed: nothing below n but the object's own block; the object lies at n or behind. -/
theorem at_new {g n : Nat} (hg : n ≤ g) {w w1 w2 : World} (hn : w.heap.size = n) (h : Chg none_ w w1) (k : Chg (at_ (some ⟨g, 0, none⟩)) w1 w2) : Chg none_ w w2 :=
  h.then k fun b hb hs => by
    obtain ⟨g', e, rfl⟩ := hs
    injection e with e
    injection e with e _
    omega
theorem arrive_c {B : Nat} {a : Nat → Addr} (w : World) (hs : Sen B a w) (p : Option Addr) (s : Gr) (h : Rc w p s) (n : Int) (n0 : -9223372036854775808 ≤ n) (n1 : n ≤ 9223372036854775807) (er : Value) (s' : Gr) (he : errv a (arC s n) = er) (h' : arS s n = s') :
    Calls Tryd.prog 20 #[.pointer p, .int .i64 n] w fun e w' => e = .returned er ∧ Rc w' p s' ∧ Chg (at_ p) w w' := by
  subst he h'
  exact arrive_any w hs p s h n n0 n1
theorem read_c {B : Nat} {a : Nat → Addr} (w : World) (hs : Sen B a w) (p : Option Addr) (s : Gr) (h : Rc w p s) (n : Int) (n0 : -9223372036854775808 ≤ n) (n1 : n ≤ 9223372036854775807) (v : Int) (er : Value) (s' : Gr) (hv : rdV s n = v) (he : errv a (rdC s n) = er) (h' : rdS s n = s') :
    Calls Tryd.prog 21 #[.pointer p, .int .i64 n] w fun e w' => e = .returned (.tuple #[.int .u32 v, er]) ∧ Rc w' p s' ∧ Chg (at_ p) w w' := by
  subst hv he h'
  exact read_any w hs p s h n n0 n1
theorem thr_c (w : World) (W v : Int) (hv : thr W = v) : Calls Tryd.prog 22 #[.int .i64 W] w fun e w' => e = .returned (.int .i64 v) ∧ w = w' := by
  subst hv
  exact thr_any w W

theorem gfixed_any {B : Nat} {a : Nat → Addr} (w : World) (hs : Sen B a w) (hB : B ≤ w.heap.size) :
    Calls Tryd.prog 15 #[] w fun e w' => e = .returned (.bool true) ∧ Chg none_ w w' := by
  go_enter Tryd.func15, Tryd.ntmps15
  go_wp2_with fail
  refine (grnew_ok w 5 (by decide) (by decide)).mono ?_
  rintro e w1 ⟨g, rfl, hg, o1, c1⟩
  go_wp2_with fail
  refine (arrive_c w1 (hs.below (c1.old hB)) _ _ o1 4 (by decide) (by decide) .nilIface ⟨1, 4, 0, 5⟩ rfl rfl).mono ?_
  rintro e w2 ⟨rfl, o2, k2⟩
  have c2 := at_new hg rfl c1 k2
  clear o1 k2 c1
  go_wp2_with fail
  refine (read_c w2 (hs.below (c2.old hB)) _ _ o2 2 (by decide) (by decide) 0 .nilIface ⟨1, 2, 2, 5⟩ rfl rfl rfl).mono ?_
  rintro e w3 ⟨rfl, o3, k3⟩
  have c3 := at_new hg rfl c2 k3
  clear o2 k3 c2
  go_wp2_with fail
  refine (read_c w3 (hs.below (c3.old hB)) _ _ o3 1 (by decide) (by decide) 3 .nilIface ⟨4, 1, 0, 5⟩ rfl rfl rfl).mono ?_
  rintro e w4 ⟨rfl, o4, k4⟩
  have c4 := at_new hg rfl c3 k4
  clear o3 k4 c3
  go_wp2_with fail
  refine (gleft_any w4 _ _ o4).mono ?_
  rintro e w' ⟨rfl, rfl⟩
  go_wp2_with fail
  refine (gunread_any w4 _ _ o4).mono ?_
  rintro e w' ⟨rfl, rfl⟩
  go_wp2_with fail
  refine (gowed_any w4 _ _ o4).mono ?_
  rintro e w' ⟨rfl, rfl⟩
  go_wp2_with fail
  refine (thr_c w4 5 3 rfl).mono ?_
  rintro e w' ⟨rfl, rfl⟩
  go_wp2
  go_ret
  exact ⟨rfl, c4⟩


end Go.Proofs.YtpmncndicdlmhaaDoor
