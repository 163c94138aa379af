/-
  stream.Read by contract, of every count, behind a reset too.
  No condition of its own: the fact 'Sen' on the world.
-/
import Derived.Test.YthalmjjbamglgaaDoorStrB
namespace Go.Proofs.YthalmjjbamglgaaDoor
open Go.RowKit

section
variable {B : Nat} {a : Nat → Addr}
def rtC (s : Sm) (n : Int) : Nat := if n < 0 then 2 else if s.rs then 26 else if n = 0 then 0 else srC s
def rtG (s : Sm) (n : Int) : Int := if n ≤ 0 ∨ s.rs = true then 0 else srG s n.toNat
def rtS (s : Sm) (n : Int) : Sm := if n ≤ 0 ∨ s.rs = true then s else srS s n.toNat
def rtN (s : Sm) (n : Int) : Nat := if n ≤ 0 ∨ s.rs = true then 0 else Nat.min n.toNat s.un.length
set_option maxRecDepth 100000 in
theorem sreadt_any (w : World) (hs : Sen B a w) (hB : B ≤ w.heap.size) {T : Nat → Prop} {g : Nat} {s : Sm} (h : Pst w T g s) (hTB : ∀ k, T k → B ≤ k) (n : Int) (n0 : -9223372036854775808 ≤ n) (n1 : n ≤ 9223372036854775807) :
    Calls Tryd.prog 25 #[.pointer (some ⟨g, 0, none⟩), .int .i64 n] w fun e w' => ∃ v, e = .returned (.tuple #[v, .int .u32 (rtG s n), errv a (rtC s n)]) ∧ Ob w' w.heap.size 5 v (rtN s n) (u8s (s.un.take (rtN s n))) ∧ Pst w' T g (rtS s n) ∧ Chg T w w' := by
  by_cases hp : n ≤ 0 ∨ s.rs = true
  · have eG : rtG s n = 0 := if_pos hp
    have eS : rtS s n = s := if_pos hp
    have eN : rtN s n = 0 := if_pos hp
    rw [eG, eS, eN, List.take_zero]
    have H := Lib.hid h
    obtain ⟨S1, S2, g1, g2, g3, g4, hpo⟩ := h
    have c13 : w.cell? ⟨g, 13, none⟩ = some (.bool s.rs) := hpo.im.at_ 13 _ rfl
    have h2 : w.cell? ⟨4, 0, none⟩ = some (.iface 200 (.pointer (some (a 2)))) := hs.cell 2 (by decide) (by decide)
    have h26 : w.cell? ⟨5, 0, none⟩ = some (.iface 200 (.pointer (some (a 26)))) := hs.cell 26 (by decide) (by decide)
    clear hpo hs hB hTB eG eS eN
    by_cases hn : n < 0
    · have eC : rtC s n = 2 := if_pos hn
      rw [eC, show errv a 2 = .iface 200 (.pointer (some (a 2))) from rfl]
      clear eC hp
      go_enter Tryd.func25, Tryd.ntmps25
      go_wp2_with fail
      go_quiet (fail)
      go_wp2
      go_ret3
      exact ⟨_, rfl, ob_nil _ _ _ _, H.out.keep ((Chg.refl none_ w).drewN _), (Chg.refl _ _).drewN _⟩
    · by_cases hr : s.rs = true
      · have eC : rtC s n = 26 := by unfold rtC; rw [if_neg hn, if_pos hr]
        rw [eC, show errv a 26 = .iface 200 (.pointer (some (a 26))) from rfl]
        rw [hr] at c13
        clear eC hp hr
        go_enter Tryd.func25, Tryd.ntmps25
        go_wp2_with fail
        go_quiet (fail)
        go_wp2
        go_ret3
        exact ⟨_, rfl, ob_nil _ _ _ _, H.out.keep ((Chg.refl none_ w).drewN _), (Chg.refl _ _).drewN _⟩
      · have hr' : s.rs = false := by simpa using hr
        obtain rfl : n = 0 := by
          rcases hp with hp | hp
          · omega
          · exact absurd hp hr
        have eC : rtC s 0 = 0 := by unfold rtC; rw [if_neg hn, if_neg hr, if_pos rfl]
        rw [eC, show errv a 0 = Value.nilIface from rfl]
        rw [hr'] at c13
        clear eC hp hr hr'
        go_enter Tryd.func25, Tryd.ntmps25
        go_wp2
        go_ret3
        exact ⟨_, rfl, ob_nil _ _ _ _, H.out, Chg.refl _ _⟩
  · have hr' : s.rs = false := by
      cases hr : s.rs with
      | true => exact absurd (.inr hr) hp
      | false => rfl
    have hpos : 0 < n := by
      by_cases h0 : 0 < n
      · exact h0
      · exact absurd (.inl (by omega)) hp
    obtain ⟨nn, rfl⟩ : ∃ nn : Nat, n = (nn : Int) := ⟨n.toNat, by omega⟩
    have eG : rtG s nn = srG s nn := if_neg hp
    have eS : rtS s nn = srS s nn := if_neg hp
    have eN : rtN s nn = Nat.min nn s.un.length := if_neg hp
    have eC : rtC s nn = srC s := by unfold rtC; rw [if_neg (by omega), if_neg (by rw [hr']; decide), if_neg (by omega)]
    rw [eG, eS, eN, eC]
    exact sread_any w hs hB h hTB hr' nn (by omega)
end
end Go.Proofs.YthalmjjbamglgaaDoor
