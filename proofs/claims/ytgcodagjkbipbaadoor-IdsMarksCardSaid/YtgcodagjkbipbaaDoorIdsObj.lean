/-
  ids.IDs by contracts at any pointer, nil too: each call answers as the document's numbers say; ids.New.
  No condition of its own.
-/
import Derived.Test.YtgcodagjkbipbaaDoorPar
namespace Go.Proofs.YtgcodagjkbipbaaDoor
open Go.RowKit

/-! ### The nil one -/
theorem mine_nil (w : World) (id : Int) : Calls Tryd.prog 31 #[.pointer none, .int .u32 id] w fun e w' => e = .returned (.bool false) ∧ w = w' := by
  go_enter Tryd.func31, Tryd.ntmps31
  go_wp2
  go_ret
  exact ⟨rfl, rfl⟩
theorem next_nil {B : Nat} {a : Nat → Addr} (w : World) (hs : Sen B a w) : Calls Tryd.prog 28 #[.pointer none] w fun e w' => e = .returned (.tuple #[.int .u32 0, errv a 1]) ∧ Dr w w' := by
  have hc : w.cell? ⟨1, 0, none⟩ = some (.iface 123 (.pointer (some (a 1)))) := hs.cell 1 (by decide) (by decide)
  clear hs
  go_enter Tryd.func28, Tryd.ntmps28
  go_wp2
  go_quiet (fail)
  go_wp2
  go_ret2
  exact ⟨rfl, _, rfl⟩
theorem left_nil (w : World) : Calls Tryd.prog 26 #[.pointer none] w fun e w' => e = .returned (.int .i64 0) ∧ Dr w w' := by
  go_enter Tryd.func26, Tryd.ntmps26
  go_wp2
  go_quiet (fail)
  go_wp2
  go_ret
  exact ⟨rfl, _, rfl⟩
theorem marks_nil (w : World) : Calls Tryd.prog 25 #[.pointer none] w fun e w' => e = .returned (.tuple #[.int .u32 0, .int .u32 0]) ∧ Dr w w' := by
  go_enter Tryd.func25, Tryd.ntmps25
  go_wp2
  go_ret2
  exact ⟨rfl, Dr.refl w⟩
theorem sent_nil {B : Nat} {a : Nat → Addr} (w : World) (hs : Sen B a w) (id : Int) : Calls Tryd.prog 29 #[.pointer none, .int .u32 id] w fun e w' => e = .returned (errv a 1) ∧ w = w' := by
  have hc : w.cell? ⟨1, 0, none⟩ = some (.iface 123 (.pointer (some (a 1)))) := hs.cell 1 (by decide) (by decide)
  clear hs
  go_enter Tryd.func29, Tryd.ntmps29
  go_wp2
  go_ret
  exact ⟨rfl, rfl⟩
theorem hear_nil {B : Nat} {a : Nat → Addr} (w : World) (hs : Sen B a w) (id : Int) : Calls Tryd.prog 30 #[.pointer none, .int .u32 id] w fun e w' => e = .returned (errv a 1) ∧ w = w' := by
  have hc : w.cell? ⟨1, 0, none⟩ = some (.iface 123 (.pointer (some (a 1)))) := hs.cell 1 (by decide) (by decide)
  clear hs
  go_enter Tryd.func30, Tryd.ntmps30
  go_wp2
  go_ret
  exact ⟨rfl, rfl⟩
theorem known_nil (w : World) (id : Int) : Calls Tryd.prog 27 #[.pointer none, .int .u32 id] w fun e w' => e = .returned (.bool false) ∧ w = w' := by
  go_enter Tryd.func27, Tryd.ntmps27
  go_wp2
  go_ret
  exact ⟨rfl, rfl⟩

/-! ### Any one -/
theorem Dr.chg {S : Nat → Prop} {w w' : World} (h : Dr w w') : Chg S w w' := by
  obtain ⟨n, rfl⟩ := h
  exact (Chg.refl S w).drewN n
theorem Obj.dr {w w' : World} {p : Option Addr} {s : St} (h : Obj w p s) (hd : Dr w w') : Obj w' p s := by
  obtain ⟨n, rfl⟩ := hd
  exact h.drewN n
theorem mine_o (w : World) (p : Option Addr) (s : St) (ho : Obj w p s) (id : Int) (i0 : 0 ≤ id) (i1 : id ≤ 4294967295) :
    Calls Tryd.prog 31 #[.pointer p, .int .u32 id] w fun e w' => e = .returned (.bool (owB s id)) ∧ w = w' := by
  rcases ho with ⟨rfl, rfl⟩ | ⟨ok, g, rfl, hi⟩
  · exact (mine_nil w id).mono fun e w' h => ⟨by rw [h.1]; rfl, h.2⟩
  · exact (mine_any w g _ _ _ _ _ _ id ok.ids hi i0 i1).mono fun e w' h => ⟨by rw [h.1, own_eq ok id i0], h.2⟩
theorem left_o (w : World) (p : Option Addr) (s : St) (ho : Obj w p s) :
    Calls Tryd.prog 26 #[.pointer p] w fun e w' => e = .returned (.int .i64 (lfV s)) ∧ Dr w w' := by
  rcases ho with ⟨rfl, rfl⟩ | ⟨ok, g, rfl, hi⟩
  · exact left_nil w
  · exact (left_any w g _ _ _ _ _ _ ok.ids hi).mono fun e w' h => ⟨by rw [h.1, left_eq ok], h.2⟩
theorem marks_o (w : World) (p : Option Addr) (s : St) (ho : Obj w p s) :
    Calls Tryd.prog 25 #[.pointer p] w fun e w' => e = .returned (.tuple #[.int .u32 s.M, .int .u32 s.T]) ∧ Dr w w' := by
  rcases ho with ⟨rfl, rfl⟩ | ⟨ok, g, rfl, hi⟩
  · exact marks_nil w
  · exact marks_any w g _ _ _ _ _ _ hi
theorem known_o (w : World) (p : Option Addr) (s : St) (ho : Obj w p s) (id : Int) (i0 : 0 ≤ id) (i1 : id ≤ 4294967295) :
    Calls Tryd.prog 27 #[.pointer p, .int .u32 id] w fun e w' => e = .returned (.bool (knB s id)) ∧ w = w' := by
  rcases ho with ⟨rfl, rfl⟩ | ⟨ok, g, rfl, hi⟩
  · exact (known_nil w id).mono fun e w' h => ⟨by rw [h.1]; rfl, h.2⟩
  · exact (known_any w g _ _ _ _ _ _ id ok.ids hi i0 i1).mono fun e w' h => ⟨by rw [h.1, knownB_eq ok id i0], h.2⟩
theorem next_o {B : Nat} {a : Nat → Addr} (w : World) (hs : Sen B a w) (p : Option Addr) (s : St) (ho : Obj w p s) :
    Calls Tryd.prog 28 #[.pointer p] w fun e w' => e = .returned (.tuple #[.int .u32 (nxV s), errv a (nxC s)]) ∧ Obj w' p (nxS s) ∧ Chg (at_ p) w w' := by
  rcases ho with ⟨rfl, rfl⟩ | ⟨ok, g, rfl, hi⟩
  · exact (next_nil w hs).mono fun e w' h => ⟨h.1, .inl ⟨rfl, rfl⟩, h.2.chg⟩
  · have hF : s.F ≠ 0 := by rcases ok.F with h | h <;> omega
    by_cases hx : 4294967295 < s.X
    · refine (next_no w hs g _ _ _ _ _ _ hi ((top_iff ok).2 hx)).mono fun e w' h => ⟨?_, ?_, h.2.chg⟩
      · rw [h.1]
        unfold nxV nxC
        rw [if_neg hF, if_neg hF, if_pos hx, if_pos hx]
      · unfold nxS
        rw [if_neg hF, if_pos hx]
        exact Obj.dr (.inr ⟨ok, g, rfl, hi⟩) h.2
    · have hx' : s.X ≤ top s.F := by
        have := mt (top_iff ok).1 hx
        omega
      refine (next_ok w g _ _ _ _ _ _ ok.ids hi hx').mono fun e w' h => ⟨?_, ?_, h.2.2.more fun k _ e => ⟨g, rfl, e⟩⟩
      · rw [h.1]
        unfold nxV nxC
        rw [if_neg hF, if_neg hF, if_neg hx, if_neg hx]
        rfl
      · unfold nxS
        rw [if_neg hF, if_neg hx]
        have hp := ok.par
        exact .inr ⟨⟨ok.F, ok.R1, by have := ok.RX; simp only; omega, by simp only; omega, by simp only; omega, ok.parR, ok.M0, ok.M1, ok.T0, ok.T1⟩, g, rfl, h.2.1⟩
theorem seS_ok {s : St} (h : s.Ok) (id : Int) (i0 : 0 ≤ id) (i1 : id ≤ 4294967295) : (seS s id).Ok := by
  unfold seS
  split
  · exact ⟨h.F, h.R1, h.RX, h.XG, h.par, h.parR, i0, i1, h.T0, h.T1⟩
  · exact h
theorem heS_ok {s : St} (h : s.Ok) (id : Int) (i0 : 0 ≤ id) (i1 : id ≤ 4294967295) : (heS s id).Ok := by
  unfold heS
  split
  · exact ⟨h.F, h.R1, h.RX, h.XG, h.par, h.parR, h.M0, h.M1, i0, i1⟩
  · exact h
theorem sent_o {B : Nat} {a : Nat → Addr} (w : World) (hs : Sen B a w) (p : Option Addr) (s : St) (ho : Obj w p s) (id : Int) (i0 : 0 ≤ id) (i1 : id ≤ 4294967295) :
    Calls Tryd.prog 29 #[.pointer p, .int .u32 id] w fun e w' => e = .returned (errv a (seC s id)) ∧ Obj w' p (seS s id) ∧ Chg (at_ p) w w' := by
  rcases ho with ⟨rfl, rfl⟩ | ⟨ok, g, rfl, hi⟩
  · exact (sent_nil w hs id).mono fun e w' h => ⟨h.1, .inl ⟨rfl, rfl⟩, by rw [← h.2]; exact Chg.refl _ _⟩
  · refine (sent_any' w hs g _ _ _ _ _ _ id ok.ids hi i0 i1).mono fun e w' h => ⟨by rw [h.1, sentC_eq ok id i0], ?_, h.2.2.more fun k _ e => ⟨g, rfl, e⟩⟩
    refine .inr ⟨seS_ok ok id i0 i1, g, rfl, ?_⟩
    have h1 := h.2.1
    rw [sentC_eq ok id i0] at h1
    unfold seS
    split
    · rename_i hc
      rw [if_pos hc] at h1
      exact h1
    · rename_i hc
      rw [if_neg hc] at h1
      exact h1
theorem hear_o {B : Nat} {a : Nat → Addr} (w : World) (hs : Sen B a w) (p : Option Addr) (s : St) (ho : Obj w p s) (id : Int) (i0 : 0 ≤ id) (i1 : id ≤ 4294967295) :
    Calls Tryd.prog 30 #[.pointer p, .int .u32 id] w fun e w' => e = .returned (errv a (heC s id)) ∧ Obj w' p (heS s id) ∧ Chg (at_ p) w w' := by
  rcases ho with ⟨rfl, rfl⟩ | ⟨ok, g, rfl, hi⟩
  · exact (hear_nil w hs id).mono fun e w' h => ⟨h.1, .inl ⟨rfl, rfl⟩, by rw [← h.2]; exact Chg.refl _ _⟩
  · refine (hear_any w hs g _ _ _ _ _ _ id ok.ids hi i0 i1).mono fun e w' h => ⟨by rw [h.1, hearC_eq ok id i0], ?_, h.2.2.more fun k _ e => ⟨g, rfl, e⟩⟩
    refine .inr ⟨heS_ok ok id i0 i1, g, rfl, ?_⟩
    have h1 := h.2.1
    rw [hearC_eq ok id i0] at h1
    unfold heS
    split
    · rename_i hc
      rw [if_pos hc] at h1
      exact h1
    · rename_i hc
      rw [if_neg hc] at h1
      exact h1
end Go.Proofs.YtgcodagjkbipbaaDoor
