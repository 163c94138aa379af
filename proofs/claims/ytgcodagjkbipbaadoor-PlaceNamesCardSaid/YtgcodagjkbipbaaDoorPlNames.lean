/-
  The walk of culvertlaw21.PlaceNames.
  No condition of its own: the fact 'Sen' on the world.
-/
import Derived.Test.YtgcodagjkbipbaaDoorPlFix
namespace Go.Proofs.YtgcodagjkbipbaaDoor
open Go.RowKit

abbrev dC : Array Value := #[.bool true, .bool true, .int .i64 0, .int .i64 9]
theorem four_d {u : World} {g : Nat} (h : Is u g 72 dC) : u.cell? ⟨g, 0, none⟩ = some (.bool true) ∧ u.cell? ⟨g, 1, none⟩ = some (.bool true) ∧ u.cell? ⟨g, 2, none⟩ = some (.int .i64 0) ∧ u.cell? ⟨g, 3, none⟩ = some (.int .i64 9) :=
  ⟨h.at_ 0 _ rfl, h.at_ 1 _ rfl, h.at_ 2 _ rfl, h.at_ 3 _ rfl⟩

set_option maxRecDepth 100000 in
set_option maxHeartbeats 4000000 in
theorem pnames_walk {a : Nat → Addr} (w : World) (hs : Sen w.heap.size a w) :
    Calls Tryd.prog 7 #[] w fun e w' => e = .returned (.bool true) ∧ Below w.heap.size w w' := by
  have hB : w.heap.size ≤ w.heap.size := Nat.le_refl _
  have HS := Lib.hid hs
  clear hs
  have c0 : Chg none_ w (w.alloc (.cells dC 72)) := (Chg.refl none_ w).alloc _
  have d0 : Is (w.alloc (.cells dC 72)) w.heap.size 72 dC := Is.new w _ _
  generalize hg : w.heap.size = g at d0
  have HG := Lib.hid hg
  go_enter Tryd.func7, Tryd.ntmps7
  go_wp2_with fail
  refine (load_v _ 2 9).mono ?_
  rintro e w1 ⟨rfl, k1⟩
  have c1 := c0.trans k1
  have d1 := d0.chg k1 (fun f => f)
  clear c0 d0 k1
  go_wp2_with fail
  refine (load_v _ 1 0).mono ?_
  rintro e w2 ⟨rfl, k2⟩
  have c2 := c1.trans k2
  have d2 := d1.chg k2 (fun f => f)
  clear c1 d1 k2
  go_wp2_with fail
  refine (load_v _ 1 3).mono ?_
  rintro e w3 ⟨rfl, k3⟩
  have c3 := c2.trans k3
  have d3 := d2.chg k3 (fun f => f)
  clear c2 d2 k3
  go_wp2_with fail
  have h3 := Lib.hid (lds_flat (xs := [⟨true, false, 2, 9⟩, ⟨true, false, 1, 0⟩, ⟨true, false, 1, 3⟩]) (Is.new w3 72 _))
  refine (pick_c _ (HS.out.below ((c3.alloc _).old hB)) (Nat.le_trans hB (c3.alloc _).size) _ 3 3 _ 2 (by decide) h3.out 2 .nilIface rfl rfl).mono ?_
  rintro e w4 ⟨rfl, k4⟩
  have c4 := Lib.hid ((c3.alloc _).trans k4)
  have d4 := Lib.hid ((d3.alloc _).chg k4 (fun f => f))
  clear c3 k4 h3 d3
  go_wp2_with fail
  go_region_held3 (fun u => u.cell? ⟨g, 0, none⟩ = some (.bool true) ∧ u.cell? ⟨g, 1, none⟩ = some (.bool true) ∧ u.cell? ⟨g, 2, none⟩ = some (.int .i64 0) ∧ u.cell? ⟨g, 3, none⟩ = some (.int .i64 9))
    (first | exact four_d (u := World.drew _) d4.out | exact four_d d5.out | exact four_d (d5.out.alloc _) | exact four_d d6.out)
    (first
      | (go_at_call 39; refine (load_v _ 1 9).mono ?_; rintro e w5 ⟨rfl, k5⟩; have c5 := Lib.hid (c4.out.drew.trans k5); have d5 := Lib.hid (Is.chg (w := World.drew _) d4.out k5 (fun f => f)))
      | (go_at_call 38; refine (pick_c _ (HS.out.below ((c5.out.alloc _).old hB)) (Nat.le_trans hB (c5.out.alloc _).size) _ 3 3 _ 2 (by decide) (lds_flat (xs := [⟨false, false, 0, 0⟩, ⟨true, false, 1, 9⟩, ⟨true, true, 0, 9⟩]) (Is.new w5 72 _)) 1 .nilIface rfl rfl).mono ?_; rintro e w6 ⟨rfl, k6⟩; have c6 := Lib.hid ((c5.out.alloc _).trans k6); have d6 := Lib.hid ((d5.out.alloc _).chg k6 (fun f => f))))
  clear c4 d4 c5 d5 k5 k6
  go_wp2_with fail
  have h6 := Lib.hid (lds_flat (xs := [⟨false, false, 0, 0⟩, ⟨true, true, 0, 9⟩, ⟨true, true, 5, 0⟩]) (Is.new w6 72 _))
  refine (pick_c _ (HS.out.below ((c6.out.alloc _).old hB)) (Nat.le_trans hB (c6.out.alloc _).size) _ 3 3 _ 2 (by decide) h6.out 0 (errv a 36) rfl rfl).mono ?_
  rintro e w7 ⟨rfl, k7⟩
  have c7 := Lib.hid ((c6.out.alloc _).trans k7)
  have d7 := Lib.hid ((d6.out.alloc _).chg k7 (fun f => f))
  clear c6 k7 h6 d6
  go_wp2_with fail
  go_region_held3 (fun u => u.cell? ⟨g, 0, none⟩ = some (.bool true) ∧ u.cell? ⟨g, 1, none⟩ = some (.bool true) ∧ u.cell? ⟨g, 2, none⟩ = some (.int .i64 0) ∧ u.cell? ⟨g, 3, none⟩ = some (.int .i64 9))
    (first | exact four_d (u := World.drew _) d7.out | exact four_d d8.out | exact four_d d9.out | exact four_d (d9.out.alloc _) | exact four_d d10.out)
    (first
      | (go_at_call_of 39 (Value.int .i64 2); refine (load_v _ 2 9).mono ?_; rintro e w8 ⟨rfl, k8⟩; have c8 := Lib.hid (c7.out.drew.trans k8); have d8 := Lib.hid (Is.chg (w := World.drew _) d7.out k8 (fun f => f)))
      | (go_at_call_of 39 (Value.int .i64 3); refine (load_v _ 3 0).mono ?_; rintro e w9 ⟨rfl, k9⟩; have c9 := Lib.hid (c8.out.trans k9); have d9 := Lib.hid (d8.out.chg k9 (fun f => f)))
      | (go_at_call 38; refine (pick_c _ (HS.out.below ((c9.out.alloc _).old hB)) (Nat.le_trans hB (c9.out.alloc _).size) _ 4 4 _ 2 (by decide) (lds_flat (xs := [⟨true, false, 2, 9⟩, ⟨true, true, 0, 9⟩, ⟨true, false, 3, 0⟩, ⟨false, false, 0, 0⟩]) (Is.new w9 72 _)) 0 (errv a 31) rfl rfl).mono ?_; rintro e w10 ⟨rfl, k10⟩; have c10 := Lib.hid ((c9.out.alloc _).trans k10); have d10 := Lib.hid ((d9.out.alloc _).chg k10 (fun f => f))))
  clear c7 d7 c8 d8 k8 c9 d9 k9 d10 k10
  go_wp2_with fail
  refine (load_v _ 2 9).mono ?_
  rintro e w11 ⟨rfl, k11⟩
  have c11 := Lib.hid (c10.out.trans k11)
  clear c10 k11
  go_wp2_with fail
  refine (load_v _ 0 0).mono ?_
  rintro e w12 ⟨rfl, k12⟩
  have c12 := Lib.hid (c11.out.trans k12)
  clear c11 k12
  go_wp2_with fail
  have h12 := Lib.hid (lds_flat (xs := [⟨true, false, 2, 9⟩, ⟨true, false, 0, 0⟩]) (Is.new w12 72 _))
  refine (pick_c _ (HS.out.below ((c12.out.alloc _).old hB)) (Nat.le_trans hB (c12.out.alloc _).size) _ 2 2 _ 2 (by decide) h12.out 0 (errv a 32) rfl rfl).mono ?_
  rintro e w13 ⟨rfl, k13⟩
  have c13 := Lib.hid ((c12.out.alloc _).trans k13)
  clear c12 k13 h12
  go_wp2_with fail
  refine (pfixed_any w13 (HS.out.below (c13.out.old hB)) (Nat.le_trans hB c13.out.size)).mono ?_
  rintro e w14 ⟨rfl, k14⟩
  have c14 := Lib.hid (c13.out.trans k14)
  clear c13 k14
  have HC := Lib.hid (fun k hk => code_any w14 (HS.out.below (c14.out.old hB)) k hk)
  go_wp2_with fail
  refine (HC.out 36 (by decide)).mono ?_
  rintro e w' ⟨rfl, rfl⟩
  go_wp2_with fail
  refine (HC.out 31 (by decide)).mono ?_
  rintro e w' ⟨rfl, rfl⟩
  go_wp2_with fail
  refine (HC.out 32 (by decide)).mono ?_
  rintro e w' ⟨rfl, rfl⟩
  go_wp2
  go_ret
  exact ⟨rfl, c14.out.old (Nat.le_of_eq HG.out.symm)⟩
end Go.Proofs.YtgcodagjkbipbaaDoor
