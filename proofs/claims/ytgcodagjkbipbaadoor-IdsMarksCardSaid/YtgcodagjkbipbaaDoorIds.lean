/-
  ids.IDs by contracts: each call at an object whose six cells are known.
  No condition of its own: the fact 'Sen' on the world; the object's numbers within their kinds.
-/
import Derived.Test.YtgcodagjkbipbaaDoorCode
import Derived.Test.YtgcodagjkbipbaaDoorMore
import Derived.Deep.QuietTactic
import Derived.BigQuiet
import Derived.Lib.Hide
namespace Go.Proofs.YtgcodagjkbipbaaDoor
open Go.RowKit

/-- The six cells of an IDs. -/
def idsC (L G f x m t : Int) : Array Value := #[.int .u64 L, .int .u64 G, .int .u64 f, .int .u64 x, .int .u32 m, .int .u32 t]
/-- Block g is such an object. -/
def IdsIs (w : World) (g : Nat) (L G f x m t : Int) : Prop := Is w g 100 (idsC L G f x m t)
/-- Its numbers. -/
structure IdsOk (L G f x m t : Int) : Prop where
  L1 : 1 ≤ L
  L2 : L ≤ 2
  G1 : 4294967294 ≤ G
  G2 : G ≤ 4294967295
  f1 : 1 ≤ f
  fx : f ≤ x
  xG : x ≤ G + 2
  m0 : 0 ≤ m
  m1 : m ≤ 4294967295
  t0 : 0 ≤ t
  t1 : t ≤ 4294967295

def ownB (L id : Int) : Bool := !(id == 0) && (id % 2 == L % 2)
def leftV (G x : Int) : Int := if G < x then 0 else (G - x) / 2 + 1

section
variable {w : World} {g : Nat} {L G f x m t : Int}
theorem IdsIs.c0 (h : IdsIs w g L G f x m t) : w.cell? ⟨g, 0, none⟩ = some (.int .u64 L) := h.at_ 0 _ rfl
theorem IdsIs.c1 (h : IdsIs w g L G f x m t) : w.cell? ⟨g, 1, none⟩ = some (.int .u64 G) := h.at_ 1 _ rfl
theorem IdsIs.c2 (h : IdsIs w g L G f x m t) : w.cell? ⟨g, 2, none⟩ = some (.int .u64 f) := h.at_ 2 _ rfl
theorem IdsIs.c3 (h : IdsIs w g L G f x m t) : w.cell? ⟨g, 3, none⟩ = some (.int .u64 x) := h.at_ 3 _ rfl
theorem IdsIs.c4 (h : IdsIs w g L G f x m t) : w.cell? ⟨g, 4, none⟩ = some (.int .u32 m) := h.at_ 4 _ rfl
theorem IdsIs.c5 (h : IdsIs w g L G f x m t) : w.cell? ⟨g, 5, none⟩ = some (.int .u32 t) := h.at_ 5 _ rfl
end

theorem Dr.step {w w1 : World} (h : Dr w w1) (n : Nat) : Dr w (w1.drewN n) := by
  obtain ⟨k, rfl⟩ := h
  exact ⟨k + n, (World.drewN_drewN w k n).symm⟩
theorem chg_cell (w : World) (g i : Nat) (u : Value) : Chg (· = g) w (w.setCell ⟨g, i, none⟩ u) := (Chg.refl (· = g) w).setCell (p := ⟨g, i, none⟩) (fun _ => rfl) u

theorem chg_cellD (w : World) (n g i : Nat) (u : Value) : Chg (· = g) w ((w.drewN n).setCell ⟨g, i, none⟩ u) := ((Chg.refl (· = g) w).drewN n).setCell (p := ⟨g, i, none⟩) (fun _ => rfl) u

theorem mine_any (w : World) (g : Nat) (L G f x m t id : Int) (ho : IdsOk L G f x m t) (h : IdsIs w g L G f x m t) (i0 : 0 ≤ id) (i1 : id ≤ 4294967295) :
    Calls Tryd.prog 31 #[.pointer (some ⟨g, 0, none⟩), .int .u32 id] w fun e w' => e = .returned (.bool (ownB L id)) ∧ w = w' := by
  have c0 := h.c0
  have L1 := ho.L1
  have L2 := ho.L2
  clear h ho
  by_cases hz : id = 0
  · subst hz
    go_enter Tryd.func31, Tryd.ntmps31
    go_wp2
    go_ret
    exact ⟨rfl, rfl⟩
  · have hb : (id != 0) = true := by simp [hz]
    have hb2 : (id == 0) = false := by simp [hz]
    have HB := Lib.hid hb2
    clear hz hb2
    go_enter Tryd.func31, Tryd.ntmps31
    go_wp2
    go_ret
    exact ⟨by unfold ownB; rw [HB.out]; rfl, rfl⟩

theorem next_no {B : Nat} {a : Nat → Addr} (w : World) (hs : Sen B a w) (g : Nat) (L G f x m t : Int) (h : IdsIs w g L G f x m t) (hx : G < x) :
    Calls Tryd.prog 28 #[.pointer (some ⟨g, 0, none⟩)] w fun e w' => e = .returned (.tuple #[.int .u32 0, errv a 32]) ∧ Dr w w' := by
  have hc : w.cell? ⟨2, 0, none⟩ = some (.iface 123 (.pointer (some (a 32)))) := hs.cell 32 (by decide) (by decide)
  have c1 := h.c1
  have c3 := h.c3
  clear h hs
  go_enter Tryd.func28, Tryd.ntmps28
  go_wp2
  go_quiet (fail)
  go_wp2
  go_quiet (fail)
  go_wp2
  go_ret2
  exact ⟨rfl, ((Dr.refl w).step _).step _⟩

theorem next_ok (w : World) (g : Nat) (L G f x m t : Int) (ho : IdsOk L G f x m t) (h : IdsIs w g L G f x m t) (hx : x ≤ G) :
    Calls Tryd.prog 28 #[.pointer (some ⟨g, 0, none⟩)] w fun e w' => e = .returned (.tuple #[.int .u32 x, .nilIface]) ∧ IdsIs w' g L G f (x + 2) m t ∧ Chg (· = g) w w' := by
  have c1 := h.c1
  have c3 := h.c3
  have hf : w.frozen? ⟨g, 3, none⟩ = false := Is.frozen h 3
  have hp : IdsIs (w.setCell ⟨g, 3, none⟩ (.int .u64 (x + 2))) g L G f (x + 2) m t := Is.put h 3 _
  have hch : Chg (· = g) w (w.setCell ⟨g, 3, none⟩ (.int .u64 (x + 2))) := chg_cell w g 3 _
  have f1 := ho.f1
  have fx := ho.fx
  have G2 := ho.G2
  have HP := Lib.hid hp
  clear h ho hp
  have x1 : 1 ≤ x := by omega
  have x2 : x ≤ 4294967295 := by omega
  have hxx : x + 2 - 2 = x := by omega
  have HX := Lib.hid hxx
  clear hxx
  go_enter Tryd.func28, Tryd.ntmps28
  go_wp2
  go_quiet (fail)
  go_wp2
  go_ret2
  exact ⟨rfl, HP.out, chg_cellD w _ g 3 _⟩

theorem left_any (w : World) (g : Nat) (L G f x m t : Int) (ho : IdsOk L G f x m t) (h : IdsIs w g L G f x m t) :
    Calls Tryd.prog 26 #[.pointer (some ⟨g, 0, none⟩)] w fun e w' => e = .returned (.int .i64 (leftV G x)) ∧ Dr w w' := by
  have c1 := h.c1
  have c3 := h.c3
  have f1 := ho.f1
  have fx := ho.fx
  have G1 := ho.G1
  have G2 := ho.G2
  have xG := ho.xG
  clear h ho
  by_cases hx : G < x
  · rw [show leftV G x = 0 from if_pos hx]
    have hd : decide (G < x) = true := by simp [hx]
    go_enter Tryd.func26, Tryd.ntmps26
    go_wp2
    go_quiet (fail)
    go_wp2
    go_ret
    exact ⟨rfl, _, rfl⟩
  · rw [show leftV G x = (G - x) / 2 + 1 from if_neg hx]
    have hd : decide (G < x) = false := by simp; omega
    have hx' : x ≤ G := by omega
    have x1 : 1 ≤ x := by omega
    have d0 : 0 ≤ G - x := by omega
    have d1 : G - x ≤ 4294967295 := by omega
    have e1 : IntKind.u64.wrap (G - x) = G - x := by rw [IntKind.wrap_u64]; omega
    have e2 : IntKind.i64.wrap ((G - x) / 2) = (G - x) / 2 := IntWalk.i64_in _ (by omega)
    have e3 : IntKind.i64.wrap ((G - x) / 2 + 1) = (G - x) / 2 + 1 := IntWalk.i64_in _ (by omega)
    have e4 : IntKind.u64.wrap ((G - x) / 2) = (G - x) / 2 := by rw [IntKind.wrap_u64]; omega
    have e5 : (G - x).tdiv 2 = (G - x) / 2 := Int.tdiv_eq_ediv_of_nonneg d0
    go_enter Tryd.func26, Tryd.ntmps26
    go_wp2
    go_quiet (fail)
    go_wp2
    go_quiet (fail)
    go_wp2
    go_ret
    exact ⟨rfl, ((Dr.refl w).step _).step _⟩

theorem marks_any (w : World) (g : Nat) (L G f x m t : Int) (h : IdsIs w g L G f x m t) :
    Calls Tryd.prog 25 #[.pointer (some ⟨g, 0, none⟩)] w fun e w' => e = .returned (.tuple #[.int .u32 m, .int .u32 t]) ∧ Dr w w' := by
  have c4 := h.c4
  have c5 := h.c5
  clear h
  go_enter Tryd.func25, Tryd.ntmps25
  go_wp2
  go_quiet (fail)
  go_wp2
  go_ret2
  exact ⟨rfl, _, rfl⟩

def sentC (L f x m id : Int) : Nat := if ownB L id = false then 18 else if id < f ∨ x ≤ id then 9 else if id ≤ m then 19 else 0
def hearC (L t id : Int) : Nat := if id = 0 then 14 else if ownB L id = true then 18 else if id ≤ t then 19 else 0
def knownB (L m t id : Int) : Bool := if id = 0 then false else if ownB L id = true then decide (id ≤ m) else decide (id ≤ t)

theorem sent_any' {B : Nat} {a : Nat → Addr} (w : World) (hs : Sen B a w) (g : Nat) (L G f x m t id : Int) (ho : IdsOk L G f x m t) (h : IdsIs w g L G f x m t) (i0 : 0 ≤ id) (i1 : id ≤ 4294967295) :
    Calls Tryd.prog 29 #[.pointer (some ⟨g, 0, none⟩), .int .u32 id] w fun e w' => e = .returned (errv a (sentC L f x m id)) ∧ IdsIs w' g L G f x (if sentC L f x m id = 0 then id else m) t ∧ Chg (· = g) w w' := by
  have k18 : w.cell? ⟨3, 0, none⟩ = some (.iface 123 (.pointer (some (a 18)))) := hs.cell 18 (by decide) (by decide)
  have k9 : w.cell? ⟨4, 0, none⟩ = some (.iface 123 (.pointer (some (a 9)))) := hs.cell 9 (by decide) (by decide)
  have k19 : w.cell? ⟨5, 0, none⟩ = some (.iface 123 (.pointer (some (a 19)))) := hs.cell 19 (by decide) (by decide)
  have c2 := h.c2
  have c3 := h.c3
  have c4 := h.c4
  have hf : w.frozen? ⟨g, 4, none⟩ = false := Is.frozen h 4
  have HP := Lib.hid (show IdsIs (w.setCell ⟨g, 4, none⟩ (.int .u32 id)) g L G f x id t from Is.put h 4 _)
  have hm := Lib.hid (mine_any w g L G f x m t id ho h i0 i1)
  have HI := Lib.hid h
  clear hs h ho
  by_cases h1 : ownB L id = false
  · rw [show sentC L f x m id = 18 from if_pos h1]
    go_enter Tryd.func29, Tryd.ntmps29
    go_wp2_with (go_at_call 31; refine hm.out.mono ?_; rintro e w' ⟨rfl, rfl⟩)
    go_ret
    exact ⟨rfl, HI.out, Chg.refl _ _⟩
  · have h1' : ownB L id = true := by simpa using h1
    by_cases h2 : id < f ∨ x ≤ id
    · rw [show sentC L f x m id = 9 from by unfold sentC; rw [if_neg h1, if_pos h2]]
      clear h1
      by_cases h3 : id < f
      · go_enter Tryd.func29, Tryd.ntmps29
        go_wp2_with (go_at_call 31; refine hm.out.mono ?_; rintro e w' ⟨rfl, rfl⟩)
        go_ret
        exact ⟨rfl, HI.out, Chg.refl _ _⟩
      · have h4 : x ≤ id := by omega
        have h3' : f ≤ id := by omega
        clear h2
        go_enter Tryd.func29, Tryd.ntmps29
        go_wp2_with (go_at_call 31; refine hm.out.mono ?_; rintro e w' ⟨rfl, rfl⟩)
        go_ret
        exact ⟨rfl, HI.out, Chg.refl _ _⟩
    · have h3 : f ≤ id := by omega
      have h4 : id < x := by omega
      by_cases h5 : id ≤ m
      · rw [show sentC L f x m id = 19 from by unfold sentC; rw [if_neg h1, if_neg h2, if_pos h5]]
        clear h1 h2
        go_enter Tryd.func29, Tryd.ntmps29
        go_wp2_with (go_at_call 31; refine hm.out.mono ?_; rintro e w' ⟨rfl, rfl⟩)
        go_ret
        exact ⟨rfl, HI.out, Chg.refl _ _⟩
      · rw [show sentC L f x m id = 0 from by unfold sentC; rw [if_neg h1, if_neg h2, if_neg h5]]
        have h5' : m < id := by omega
        clear h1 h2 h5
        go_enter Tryd.func29, Tryd.ntmps29
        go_wp2_with (go_at_call 31; refine hm.out.mono ?_; rintro e w' ⟨rfl, rfl⟩)
        go_ret
        exact ⟨rfl, HP.out, chg_cell w g 4 _⟩

theorem hear_any {B : Nat} {a : Nat → Addr} (w : World) (hs : Sen B a w) (g : Nat) (L G f x m t id : Int) (ho : IdsOk L G f x m t) (h : IdsIs w g L G f x m t) (i0 : 0 ≤ id) (i1 : id ≤ 4294967295) :
    Calls Tryd.prog 30 #[.pointer (some ⟨g, 0, none⟩), .int .u32 id] w fun e w' => e = .returned (errv a (hearC L t id)) ∧ IdsIs w' g L G f x m (if hearC L t id = 0 then id else t) ∧ Chg (· = g) w w' := by
  have k14 : w.cell? ⟨6, 0, none⟩ = some (.iface 123 (.pointer (some (a 14)))) := hs.cell 14 (by decide) (by decide)
  have k18 : w.cell? ⟨3, 0, none⟩ = some (.iface 123 (.pointer (some (a 18)))) := hs.cell 18 (by decide) (by decide)
  have k19 : w.cell? ⟨5, 0, none⟩ = some (.iface 123 (.pointer (some (a 19)))) := hs.cell 19 (by decide) (by decide)
  have c5 := h.c5
  have hf : w.frozen? ⟨g, 5, none⟩ = false := Is.frozen h 5
  have HP := Lib.hid (show IdsIs (w.setCell ⟨g, 5, none⟩ (.int .u32 id)) g L G f x m id from Is.put h 5 _)
  have hm := Lib.hid (mine_any w g L G f x m t id ho h i0 i1)
  have HI := Lib.hid h
  clear hs h ho
  by_cases h0 : id = 0
  · rw [show hearC L t id = 14 from if_pos h0]
    have hb : (id == 0) = true := by simp [h0]
    clear h0
    go_enter Tryd.func30, Tryd.ntmps30
    go_wp2
    go_ret
    exact ⟨rfl, HI.out, Chg.refl _ _⟩
  · have hb : (id == 0) = false := by simp [h0]
    by_cases h1 : ownB L id = true
    · rw [show hearC L t id = 18 from by unfold hearC; rw [if_neg h0, if_pos h1]]
      clear h0
      go_enter Tryd.func30, Tryd.ntmps30
      go_wp2_with (go_at_call 31; refine hm.out.mono ?_; rintro e w' ⟨rfl, rfl⟩)
      go_ret
      exact ⟨rfl, HI.out, Chg.refl _ _⟩
    · have h1' : ownB L id = false := by simpa using h1
      by_cases h2 : id ≤ t
      · rw [show hearC L t id = 19 from by unfold hearC; rw [if_neg h0, if_neg h1, if_pos h2]]
        clear h0 h1
        go_enter Tryd.func30, Tryd.ntmps30
        go_wp2_with (go_at_call 31; refine hm.out.mono ?_; rintro e w' ⟨rfl, rfl⟩)
        go_ret
        exact ⟨rfl, HI.out, Chg.refl _ _⟩
      · rw [show hearC L t id = 0 from by unfold hearC; rw [if_neg h0, if_neg h1, if_neg h2]]
        have h2' : t < id := by omega
        clear h0 h1 h2
        go_enter Tryd.func30, Tryd.ntmps30
        go_wp2_with (go_at_call 31; refine hm.out.mono ?_; rintro e w' ⟨rfl, rfl⟩)
        go_ret
        exact ⟨rfl, HP.out, chg_cell w g 5 _⟩

theorem known_any (w : World) (g : Nat) (L G f x m t id : Int) (ho : IdsOk L G f x m t) (h : IdsIs w g L G f x m t) (i0 : 0 ≤ id) (i1 : id ≤ 4294967295) :
    Calls Tryd.prog 27 #[.pointer (some ⟨g, 0, none⟩), .int .u32 id] w fun e w' => e = .returned (.bool (knownB L m t id)) ∧ w = w' := by
  have c4 := h.c4
  have c5 := h.c5
  have hm := Lib.hid (mine_any w g L G f x m t id ho h i0 i1)
  clear h ho
  by_cases h0 : id = 0
  · rw [show knownB L m t id = false from if_pos h0]
    have hb : (id == 0) = true := by simp [h0]
    clear h0
    go_enter Tryd.func27, Tryd.ntmps27
    go_wp2
    go_ret
    exact ⟨rfl, rfl⟩
  · have hb : (id == 0) = false := by simp [h0]
    by_cases h1 : ownB L id = true
    · rw [show knownB L m t id = decide (id ≤ m) from by unfold knownB; rw [if_neg h0, if_pos h1]]
      clear h0
      go_enter Tryd.func27, Tryd.ntmps27
      go_wp2_with (go_at_call 31; refine hm.out.mono ?_; rintro e w' ⟨rfl, rfl⟩)
      go_ret
      exact ⟨rfl, rfl⟩
    · have h1' : ownB L id = false := by simpa using h1
      rw [show knownB L m t id = decide (id ≤ t) from by unfold knownB; rw [if_neg h0, if_neg h1]]
      clear h0 h1
      go_enter Tryd.func27, Tryd.ntmps27
      go_wp2_with (go_at_call 31; refine hm.out.mono ?_; rintro e w' ⟨rfl, rfl⟩)
      go_ret
      exact ⟨rfl, rfl⟩
end Go.Proofs.YtgcodagjkbipbaaDoor
