/-
  culvertlaw14.fixed by contract.
  No condition of its own.
-/
import Derived.Test.YtgcodagjkbipbaaDoorIdsRef3
namespace Go.Proofs.YtgcodagjkbipbaaDoor
open Go.RowKit

theorem next_c {B : Nat} {a : Nat → Addr} (w : World) (hs : Sen B a w) (p : Option Addr) (s : St) (ho : Obj w p s) (v : Int) (er : Value) (s' : St) (hv : nxV s = v) (he : errv a (nxC s) = er) (h' : nxS s = s') :
    Calls Tryd.prog 28 #[.pointer p] w fun e w' => e = .returned (.tuple #[.int .u32 v, er]) ∧ Obj w' p s' ∧ Chg (at_ p) w w' := by
  subst hv he h'
  exact next_o w hs p s ho
theorem sent_c {B : Nat} {a : Nat → Addr} (w : World) (hs : Sen B a w) (p : Option Addr) (s : St) (ho : Obj w p s) (id : Int) (i0 : 0 ≤ id) (i1 : id ≤ 4294967295) (er : Value) (s' : St) (he : errv a (seC s id) = er) (h' : seS s id = s') :
    Calls Tryd.prog 29 #[.pointer p, .int .u32 id] w fun e w' => e = .returned er ∧ Obj w' p s' ∧ Chg (at_ p) w w' := by
  subst he h'
  exact sent_o w hs p s ho id i0 i1
theorem hear_c {B : Nat} {a : Nat → Addr} (w : World) (hs : Sen B a w) (p : Option Addr) (s : St) (ho : Obj w p s) (id : Int) (i0 : 0 ≤ id) (i1 : id ≤ 4294967295) (er : Value) (s' : St) (he : errv a (heC s id) = er) (h' : heS s id = s') :
    Calls Tryd.prog 30 #[.pointer p, .int .u32 id] w fun e w' => e = .returned er ∧ Obj w' p s' ∧ Chg (at_ p) w w' := by
  subst he h'
  exact hear_o w hs p s ho id i0 i1
theorem known_c (w : World) (p : Option Addr) (s : St) (ho : Obj w p s) (id : Int) (i0 : 0 ≤ id) (i1 : id ≤ 4294967295) (b : Bool) (hb : knB s id = b) :
    Calls Tryd.prog 27 #[.pointer p, .int .u32 id] w fun e w' => e = .returned (.bool b) ∧ w = w' := by
  subst hb
  exact known_o w p s ho id i0 i1
theorem mine_c (w : World) (p : Option Addr) (s : St) (ho : Obj w p s) (id : Int) (i0 : 0 ≤ id) (i1 : id ≤ 4294967295) (b : Bool) (hb : owB s id = b) :
    Calls Tryd.prog 31 #[.pointer p, .int .u32 id] w fun e w' => e = .returned (.bool b) ∧ w = w' := by
  subst hb
  exact mine_o w p s ho id i0 i1
theorem left_c (w : World) (p : Option Addr) (s : St) (ho : Obj w p s) (v : Int) (hv : lfV s = v) :
    Calls Tryd.prog 26 #[.pointer p] w fun e w' => e = .returned (.int .i64 v) ∧ Dr w w' := by
  subst hv
  exact left_o w p s ho

/-- Changed: nothing below n but the object's own block; the object lies at n or behind. -/
theorem at_new {g n : Nat} (hg : n ≤ g) {w w1 w2 : World} (hn : w.heap.size = n) (h : Chg none_ w w1) (k : Chg (at_ (some ⟨g, 0, none⟩)) w1 w2) : Chg none_ w w2 :=
  h.then k fun b hb hs => by
    obtain ⟨g', e, rfl⟩ := hs
    injection e with e
    injection e with e _
    omega

theorem fixed_any {B : Nat} {a : Nat → Addr} (w : World) (hs : Sen B a w) (hp : Par B w) (hB : B ≤ w.heap.size) :
    Calls Tryd.prog 23 #[] w fun e w' => e = .returned (.bool true) ∧ Chg none_ w w' := by
  have e19 : errv a 19 = .iface 123 (.pointer (some (a 19))) := rfl
  go_enter Tryd.func23, Tryd.ntmps23
  go_wp2_with fail
  refine (new_o w hp true 0 (by decide) (by decide)).mono ?_
  rintro e w1 ⟨g, rfl, hg, o1, c1⟩
  go_wp2_with fail
  refine (next_c w1 (hs.below (c1.old hB)) _ _ o1 1 .nilIface ⟨1, 1, 3, 0, 0⟩ rfl rfl rfl).mono ?_
  rintro e w2 ⟨rfl, o2, k2⟩
  have c2 := at_new hg rfl c1 k2
  clear o1 k2 c1
  go_wp2_with fail
  refine (next_c w2 (hs.below (c2.old hB)) _ _ o2 3 .nilIface ⟨1, 1, 5, 0, 0⟩ rfl rfl rfl).mono ?_
  rintro e w3 ⟨rfl, o3, k3⟩
  have c3 := at_new hg rfl c2 k3
  clear o2 k3 c2
  go_wp2_with fail
  refine (sent_c w3 (hs.below (c3.old hB)) _ _ o3 3 (by decide) (by decide) .nilIface ⟨1, 1, 5, 3, 0⟩ rfl rfl).mono ?_
  rintro e w4 ⟨rfl, o4, k4⟩
  have c4 := at_new hg rfl c3 k4
  clear o3 k4 c3
  go_wp2_with fail
  refine (hear_c w4 (hs.below (c4.old hB)) _ _ o4 4 (by decide) (by decide) .nilIface ⟨1, 1, 5, 3, 4⟩ rfl rfl).mono ?_
  rintro e w5 ⟨rfl, o5, k5⟩
  have c5 := at_new hg rfl c4 k5
  clear o4 k5 c4
  go_wp2_with fail
  refine (marks_o w5 _ _ o5).mono ?_
  rintro e w6 ⟨rfl, d6⟩
  have o6 := o5.dr d6
  have c6 := c5.trans d6.chg
  clear o5 c5 d6
  go_wp2_with fail
  refine (known_c w6 _ _ o6 1 (by decide) (by decide) true rfl).mono ?_
  rintro e w7 ⟨rfl, rfl⟩
  go_wp2_with fail
  refine (known_c w6 _ _ o6 2 (by decide) (by decide) true rfl).mono ?_
  rintro e w7 ⟨rfl, rfl⟩
  go_wp2_with fail
  refine (known_c w6 _ _ o6 5 (by decide) (by decide) false rfl).mono ?_
  rintro e w7 ⟨rfl, rfl⟩
  go_wp2_with fail
  refine (hear_c w6 (hs.below (c6.old hB)) _ _ o6 4 (by decide) (by decide) (errv a 19) ⟨1, 1, 5, 3, 4⟩ rfl rfl).mono ?_
  rintro e w7 ⟨rfl, o7, k7⟩
  have c7 := at_new hg rfl c6 k7
  clear o6 k7 c6
  go_wp2_with fail
  refine (code_any w7 (hs.below (c7.old hB)) 19 (by decide)).mono ?_
  rintro e w8 ⟨rfl, rfl⟩
  go_wp2_with fail
  refine (left_c w7 _ _ o7 2147483646 rfl).mono ?_
  rintro e w8 ⟨rfl, d8⟩
  go_wp2
  go_ret
  exact ⟨rfl, c7.trans d8.chg⟩
end Go.Proofs.YtgcodagjkbipbaaDoor
