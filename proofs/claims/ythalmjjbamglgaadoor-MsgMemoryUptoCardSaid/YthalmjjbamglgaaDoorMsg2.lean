/-
  msg.Reader: New, Held, Done, size, and the reference's New and size, by contracts.
  No condition of its own: the fact 'Sen' on the world.
-/
import Derived.Test.YthalmjjbamglgaaDoorMsg1
namespace Go.Proofs.YthalmjjbamglgaaDoor
open Go.RowKit

/-- The reader behind block g: its most, its state (none: dead), the slice that it holds. -/
structure Rdr (w : World) (base g : Nat) (most : Int) (st : Option (List Int)) (hv : Value) : Prop where
  is : Is w g 142 #[.int .i64 most, hv, .bool st.isNone]
  ob : Ob w base 5 hv (st.getD []).length ((st.getD []).map (Value.int .u8))
  byt : Byt (st.getD [])
  ne : obk hv ≠ some g
  no : st = none → hv = .slice none 0 0
theorem Rdr.chg {S : Nat → Prop} {w w' : World} {base g : Nat} {most : Int} {st : Option (List Int)} {hv : Value} (h : Rdr w base g most st hv) (hc : Chg S w w') (hg : ¬ S g) (hs : ∀ k, obk hv = some k → ¬ S k) : Rdr w' base g most st hv :=
  ⟨h.is.chg hc hg, h.ob.chg hc hs, h.byt, h.ne, h.no⟩
theorem Rdr.keep {w w' : World} {base g : Nat} {most : Int} {st : Option (List Int)} {hv : Value} (h : Rdr w base g most st hv) (hc : Chg none_ w w') : Rdr w' base g most st hv := h.chg hc (fun f => f) fun _ _ f => f

theorem mnew_ok (w : World) (most : Int) (h0 : 0 ≤ most) (h1 : most ≤ 1048576) :
    Calls Tryd.prog 32 #[.int .i64 most] w fun e w' => ∃ g, e = .returned (.tuple #[.pointer (some ⟨g, 0, none⟩), .nilIface]) ∧ w.heap.size ≤ g ∧ Rdr w' w.heap.size g most (some []) (.slice none 0 0) ∧ Chg none_ w w' := by
  go_enter Tryd.func32, Tryd.ntmps32
  go_wp2
  go_ret2
  exact ⟨w.heap.size, rfl, Nat.le_refl _, ⟨Is.new w _ _, ob_nil _ _ _ _, (fun z hz => by simp at hz), (by simp [obk]), fun h => by cases h⟩, (Chg.refl none_ w).alloc _⟩
section
variable {B : Nat} {a : Nat → Addr}
theorem mnew_no (w : World) (hs : Sen B a w) (most : Int) (h : most < 0 ∨ 1048576 < most) :
    Calls Tryd.prog 32 #[.int .i64 most] w fun e w' => e = .returned (.tuple #[.pointer none, errv a 2]) ∧ Chg none_ w w' := by
  have hc : w.cell? ⟨4, 0, none⟩ = some (.iface 200 (.pointer (some (a 2)))) := hs.cell 2 (by decide) (by decide)
  have HG := Lib.hid (Chg.refl none_ w)
  clear hs
  by_cases h0 : most < 0
  · clear h
    go_enter Tryd.func32, Tryd.ntmps32
    go_wp2
    go_quiet (fail)
    go_wp2
    go_ret2
    exact ⟨rfl, HG.out.drewN _⟩
  · have h1 : 1048576 < most := by omega
    clear h
    go_enter Tryd.func32, Tryd.ntmps32
    go_wp2
    go_quiet (fail)
    go_wp2
    go_ret2
    exact ⟨rfl, HG.out.drewN _⟩
theorem mheld_nil (w : World) : Calls Tryd.prog 37 #[.pointer none] w fun e w' => e = .returned (.int .i64 0) ∧ w = w' := by
  go_enter Tryd.func37, Tryd.ntmps37
  go_wp2
  go_ret
  exact ⟨rfl, rfl⟩
theorem mheld_any (w : World) {base g : Nat} {most : Int} {st : Option (List Int)} {hv : Value} (h : Rdr w base g most st hv) :
    Calls Tryd.prog 37 #[.pointer (some ⟨g, 0, none⟩)] w fun e w' => e = .returned (.int .i64 (hldS st : Int)) ∧ w = w' := by
  obtain ⟨A, c, rfl, _, _⟩ := h.ob.slice
  have c1 := h.is.at_ 1 (.slice A (st.getD []).length c) rfl
  have e : hldS st = (st.getD []).length := by cases st <;> rfl
  rw [e]
  clear h e
  generalize (st.getD []).length = n at c1
  go_enter Tryd.func37, Tryd.ntmps37
  go_wp2
  go_ret
  exact ⟨rfl, rfl⟩
theorem mdone_nil (w : World) (hs : Sen B a w) : Calls Tryd.prog 39 #[.pointer none] w fun e w' => e = .returned (errv a 1) ∧ w = w' := by
  have hc : w.cell? ⟨3, 0, none⟩ = some (.iface 200 (.pointer (some (a 1)))) := hs.cell 1 (by decide) (by decide)
  clear hs
  go_enter Tryd.func39, Tryd.ntmps39
  go_wp2
  go_ret
  exact ⟨rfl, rfl⟩
theorem mdone_any (w : World) (hs : Sen B a w) {base g : Nat} {most : Int} {st : Option (List Int)} {hv : Value} (h : Rdr w base g most st hv) :
    Calls Tryd.prog 39 #[.pointer (some ⟨g, 0, none⟩)] w fun e w' => e = .returned (errv a (dnC st)) ∧ w = w' := by
  obtain ⟨A, c, rfl, _, _⟩ := h.ob.slice
  have hc3 : w.cell? ⟨0, 0, none⟩ = some (.iface 200 (.pointer (some (a 3)))) := hs.cell 3 (by decide) (by decide)
  have hc34 : w.cell? ⟨8, 0, none⟩ = some (.iface 200 (.pointer (some (a 34)))) := hs.cell 34 (by decide) (by decide)
  have c1 := h.is.at_ 1 (.slice A (st.getD []).length c) rfl
  have c2 := h.is.at_ 2 (.bool st.isNone) rfl
  clear h hs
  cases st with
  | none =>
    simp only [Option.isNone, Option.getD, List.length_nil] at c1 c2
    show Calls _ _ _ w fun e w' => e = .returned (errv a 34) ∧ w = w'
    go_enter Tryd.func39, Tryd.ntmps39
    go_wp2
    go_ret
    exact ⟨rfl, rfl⟩
  | some H =>
    simp only [Option.isNone, Option.getD] at c1 c2
    have ed : ∀ n, H.length = n → dnC (some H) = if 0 < n then 3 else 0 := fun n hn => by rw [← hn]; rfl
    generalize H.length = n at c1 ed
    rw [ed n rfl]
    clear ed
    by_cases h : 0 < n
    · rw [if_pos h]
      go_enter Tryd.func39, Tryd.ntmps39
      go_wp2
      go_ret
      exact ⟨rfl, rfl⟩
    · rw [if_neg h]
      have h0 : n = 0 := by omega
      subst h0
      go_enter Tryd.func39, Tryd.ntmps39
      go_wp2
      go_ret
      exact ⟨rfl, rfl⟩
end

end Go.Proofs.YthalmjjbamglgaaDoor
