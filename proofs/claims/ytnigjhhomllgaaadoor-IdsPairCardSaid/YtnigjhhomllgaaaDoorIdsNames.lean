/-
  The walk of culvertlaw14.IdsNames.
  No condition of its own.
-/
import Derived.Test.YtnigjhhomllgaaaDoorIdsFix
namespace Go.Proofs.YtnigjhhomllgaaaDoor
open Go.RowKit

theorem Obj.lt {w : World} {g : Nat} {s : St} (h : Obj w (some ⟨g, 0, none⟩) s) : g < w.heap.size := by
  rcases h with ⟨_, h⟩ | ⟨_, g', e, hi⟩
  · cases h
  · injection e with e
    injection e with e _
    subst e
    exact Is.lt hi
theorem Obj.keep {w w' : World} {p : Option Addr} {s : St} (h : Obj w p s) (hc : Chg none_ w w') : Obj w' p s := h.chg hc fun _ _ hf => hf
theorem Obj.off {w w' : World} {g g' : Nat} {s : St} (h : Obj w (some ⟨g, 0, none⟩) s) (hn : g ≠ g') (hc : Chg (at_ (some ⟨g', 0, none⟩)) w w') : Obj w' (some ⟨g, 0, none⟩) s := h.chg hc fun b hb hf => by
  obtain ⟨x, e, rfl⟩ := hb
  obtain ⟨y, e', rfl⟩ := hf
  injection e with e
  injection e with e _
  injection e' with e'
  injection e' with e' _
  omega

theorem names_walk {a : Nat → Addr} (w : World) (hs : Sen w.heap.size a w) (hp : Par w.heap.size w) :
    Calls Tryd.prog 3 #[] w fun e w' => e = .returned (.bool true) ∧ Below w.heap.size w w' := by
  have hB : w.heap.size ≤ w.heap.size := Nat.le_refl _
  have e32 : errv a 32 = .iface 82 (.pointer (some (a 32))) := rfl
  have e2 : errv a 2 = .iface 82 (.pointer (some (a 2))) := rfl
  go_enter Tryd.func3, Tryd.ntmps3
  go_wp2_with fail
  refine (new_no w hs true (-1) (.inl (by decide))).mono ?_
  rintro e w1 ⟨rfl, k1⟩
  have c1 := k1
  clear k1
  go_wp2_with fail
  refine (new_no w1 (hs.below (c1.old hB)) false 2147483648 (.inr (by decide))).mono ?_
  rintro e w2 ⟨rfl, k2⟩
  have c2 := c1.trans k2
  clear k2 c1
  go_wp2_with fail
  refine (new_o w2 (hp.below (c2.old hB)) true 2147483647 (by decide) (by decide)).mono ?_
  rintro e w3 ⟨gC, rfl, hgC, oC, k3⟩
  have hGC : w.heap.size ≤ gC := by have := c2.size; omega
  have c3 := c2.trans k3
  clear k3 hgC c2
  go_wp2_with fail
  refine (new_o w3 (hp.below (c3.old hB)) false 2147483647 (by decide) (by decide)).mono ?_
  rintro e w4 ⟨gD, rfl, hgD, oD, k4⟩
  have nCD : gC ≠ gD := by have := oC.lt; omega
  replace oC := oC.keep k4
  have hGD : w.heap.size ≤ gD := by have := c3.size; omega
  have c4 := c3.trans k4
  clear k4 hgD c3
  go_wp2_with fail
  refine (new_o w4 (hp.below (c4.old hB)) false 2147483646 (by decide) (by decide)).mono ?_
  rintro e w5 ⟨gE, rfl, hgE, oE, k5⟩
  have nCE : gC ≠ gE := by have := oC.lt; omega
  replace oC := oC.keep k5
  have nDE : gD ≠ gE := by have := oD.lt; omega
  replace oD := oD.keep k5
  have hGE : w.heap.size ≤ gE := by have := c4.size; omega
  have c5 := c4.trans k5
  clear k5 hgE c4
  go_wp2_with fail
  refine (code_any w5 (hs.below (c5.old hB)) 2 (by decide)).mono ?_
  rintro e w' ⟨rfl, rfl⟩
  go_wp2_with fail
  refine (code_any w5 (hs.below (c5.old hB)) 2 (by decide)).mono ?_
  rintro e w' ⟨rfl, rfl⟩
  go_wp2_with fail
  refine (left_c w5 _ _ oC 1 rfl).mono ?_
  rintro e w6 ⟨rfl, d6⟩
  replace oC := oC.dr d6
  replace oD := oD.dr d6
  replace oE := oE.dr d6
  have c6 := c5.trans d6.chg
  clear d6 c5
  go_wp2_with fail
  refine (left_c w6 _ _ oD 0 rfl).mono ?_
  rintro e w7 ⟨rfl, d7⟩
  replace oC := oC.dr d7
  replace oD := oD.dr d7
  replace oE := oE.dr d7
  have c7 := c6.trans d7.chg
  clear d7 c6
  go_wp2_with fail
  refine (left_c w7 _ _ oE 1 rfl).mono ?_
  rintro e w8 ⟨rfl, d8⟩
  replace oC := oC.dr d8
  replace oD := oD.dr d8
  replace oE := oE.dr d8
  have c8 := c7.trans d8.chg
  clear d8 c7
  go_wp2_with fail
  refine (next_c w8 (hs.below (c8.old hB)) _ _ oC 4294967295 .nilIface ⟨1, 4294967295, 4294967297, 0, 0⟩ rfl rfl rfl).mono ?_
  clear oC
  rintro e w9 ⟨rfl, oC, k9⟩
  replace oD := oD.off nCD.symm k9
  replace oE := oE.off nCE.symm k9
  have c9 := at_new hGC rfl c8 k9
  clear k9 c8
  go_wp2_with fail
  refine (next_c w9 (hs.below (c9.old hB)) _ _ oC 0 (errv a 32) ⟨1, 4294967295, 4294967297, 0, 0⟩ rfl rfl rfl).mono ?_
  clear oC
  rintro e w10 ⟨rfl, oC, k10⟩
  replace oD := oD.off nCD.symm k10
  replace oE := oE.off nCE.symm k10
  have c10 := at_new hGC rfl c9 k10
  clear k10 c9
  go_wp2_with fail
  refine (next_c w10 (hs.below (c10.old hB)) _ _ oD 0 (errv a 32) ⟨2, 4294967296, 4294967296, 0, 0⟩ rfl rfl rfl).mono ?_
  clear oD
  rintro e w11 ⟨rfl, oD, k11⟩
  replace oC := oC.off nCD k11
  replace oE := oE.off nDE.symm k11
  have c11 := at_new hGD rfl c10 k11
  clear k11 c10
  go_wp2_with fail
  refine (next_c w11 (hs.below (c11.old hB)) _ _ oE 4294967294 .nilIface ⟨2, 4294967294, 4294967296, 0, 0⟩ rfl rfl rfl).mono ?_
  clear oE
  rintro e w12 ⟨rfl, oE, k12⟩
  replace oC := oC.off nCE k12
  replace oD := oD.off nDE k12
  have c12 := at_new hGE rfl c11 k12
  clear k12 c11
  go_wp2_with fail
  refine (code_any w12 (hs.below (c12.old hB)) 32 (by decide)).mono ?_
  rintro e w' ⟨rfl, rfl⟩
  go_wp2_with fail
  refine (code_any w12 (hs.below (c12.old hB)) 32 (by decide)).mono ?_
  rintro e w' ⟨rfl, rfl⟩
  go_wp2_with fail
  refine (left_c w12 _ _ oC 0 rfl).mono ?_
  rintro e w13 ⟨rfl, d13⟩
  replace oC := oC.dr d13
  replace oD := oD.dr d13
  replace oE := oE.dr d13
  have c13 := c12.trans d13.chg
  clear d13 c12
  go_wp2
  go_ret
  exact ⟨rfl, c13.old hB⟩
end Go.Proofs.YtnigjhhomllgaaaDoor
