/-
  Six sentinels of package api: what the row of culvertlaw08.GrantPair lists.
  No condition of its own: every contract takes the fact 'Sen6' on the world.
-/
import Derived.Test.YthalmjjbamglgaaDoorSen
import Derived.Deep.QuietTactic
import Derived.BigQuiet
import Derived.Deep.RegionWith
import Derived.Deep.LoopGhost
namespace Go.Proofs.YthalmjjbamglgaaDoor
open Go.RowKit Go.Extern.Stop Go.Stop Go.Extern

def codes6 : List Nat := [1, 2, 5, 10, 16, 23, 24, 25, 26, 27]
def six (k : Nat) : Bool := codes6.contains k
def idx6 : Nat → Nat
  | 1 => 0 | 2 => 1 | 5 => 2 | 10 => 3 | 16 => 4 | 23 => 5 | 24 => 6 | 25 => 7 | 26 => 8 | _ => 9
theorem six_cases {k : Nat} (h : six k = true) : k = 1 ∨ k = 2 ∨ k = 5 ∨ k = 10 ∨ k = 16 ∨ k = 23 ∨ k = 24 ∨ k = 25 ∨ k = 26 ∨ k = 27 := by
  simpa [six, codes6] using h
theorem idx6_get {k : Nat} (h : six k = true) : codes6[idx6 k]? = some k := by
  rcases six_cases h with rfl | rfl | rfl | rfl | rfl | rfl | rfl | rfl | rfl | rfl <;> rfl
theorem idx6_lt {k : Nat} (h : six k = true) : idx6 k < 10 := by
  rcases six_cases h with rfl | rfl | rfl | rfl | rfl | rfl | rfl | rfl | rfl | rfl <;> decide
theorem idx6_ne {i j : Nat} (hi : six i = true) (hj : six j = true) (h : i ≠ j) : idx6 i ≠ idx6 j := fun e => by
  have h1 := idx6_get hi
  rw [e, idx6_get hj] at h1
  exact h (Option.some.inj h1).symm

/-- The world holds the six sentinels, below block B. -/
structure Sen6 (B : Nat) (a : Nat → Addr) (w : World) : Prop where
  cell : ∀ k, 1 ≤ k → six k = true → w.cell? ⟨gl k, 0, none⟩ = some (.iface 200 (.pointer (some (a k))))
  row : ∀ k, 1 ≤ k → six k = true → ∃ c t, w.heap[(a k).block]? = some (.cells c t (0, 0))
  ne : ∀ i j, 1 ≤ i → six i = true → 1 ≤ j → six j = true → i ≠ j → a i ≠ a j
  low : ∀ k, 1 ≤ k → six k = true → gl k < B ∧ (a k).block < B

theorem Sen6.below {B : Nat} {a : Nat → Addr} {w w' : World} (h : Sen6 B a w) (hb : Below B w w') : Sen6 B a w' :=
  ⟨fun k h1 h2 => (hb.cell (p := ⟨gl k, 0, none⟩) (h.low k h1 h2).1).trans (h.cell k h1 h2),
   fun k h1 h2 => by
     obtain ⟨c, t, hc⟩ := h.row k h1 h2
     exact ⟨c, t, (hb.block _ (h.low k h1 h2).2).trans hc⟩, h.ne, h.low⟩
theorem Sen6.drewN {B : Nat} {a : Nat → Addr} {w : World} (h : Sen6 B a w) (n : Nat) : Sen6 B a (w.drewN n) := ⟨h.cell, h.row, h.ne, h.low⟩

def glist6 : List Nat := codes6.map gl
set_option maxRecDepth 100000 in
theorem Tryd.gtypes6 : ∀ g, g ∈ glist6 → (Tryd.prog.globals[g]?).map (·.type) = some 30 := by
  have h : glist6.all (fun g => (Tryd.prog.globals[g]?).map (·.type) == some 30) = true := by kernel_rfl
  intro g hg
  exact beq_iff_eq.1 (List.all_eq_true.1 h g hg)
set_option maxRecDepth 100000 in
theorem sen6_of_laid {W : World} {laid : List (String × DataW Unit)} (hm : laidMet Tryd.prog laid W)
    (h1 : ((laid.take 10).map fun x => Tryd.prog.globalNamed x.1) = glist6.map some) (h2 : (laid.take 10).all (fun x => sentB x.2) = true) : ∃ a, Sen6 W.heap.size a W := by
  obtain ⟨ps, hv, hnd, hrows⟩ := hm
  rw [← List.take_append_drop 10 laid] at hv
  obtain ⟨ads, hl, hcell, hsub, hsub2⟩ := sen_list Tryd.underlying30 Tryd.rowES Tryd.underlying200 Tryd.underlying224 rfl rfl Tryd.underlying9 Tryd.cellsES Tryd.cellsS
    (laid.take 10) glist6 (laid.drop 10) ps hv h1 Tryd.gtypes6 h2 (fun b off hm => (hrows b off hm).2)
  have hlen : ads.length = 10 := by
    rw [hl]
    have := congrArg List.length h1
    simpa [glist6, codes6] using this
  have hnd2 : (ads.map fun a => MemPlace.cell a.block a.off).Nodup := List.Nodup.sublist hsub hnd
  have hg : ∀ k, six k = true → glist6[idx6 k]? = some (gl k) := by
    intro k h
    unfold glist6
    rw [List.getElem?_map, idx6_get h]
    rfl
  have ha : ∀ k, six k = true → ads[idx6 k]? = some (ads.getD (idx6 k) default) := by
    intro k h
    have := idx6_lt h
    rw [List.getD_eq_getElem?_getD, List.getElem?_eq_getElem (by omega)]
    rfl
  have hc : ∀ k, 1 ≤ k → six k = true → W.cell? ⟨gl k, 0, none⟩ = some (.iface 200 (.pointer (some (ads.getD (idx6 k) default)))) := by
    intro k _ h2
    obtain ⟨a, h3, h4⟩ := hcell (idx6 k) (gl k) (hg k h2)
    rw [ha k h2] at h3
    rw [Option.some.inj h3]
    exact h4
  have hr : ∀ k, 1 ≤ k → six k = true → ∃ c t, W.heap[(ads.getD (idx6 k) default).block]? = some (.cells c t (0, 0)) := by
    intro k _ h2
    refine (hrows _ (ads.getD (idx6 k) default).off (hsub.subset ?_)).1
    exact List.mem_map.2 ⟨_, List.mem_of_getElem? (ha k h2), rfl⟩
  refine ⟨fun k => ads.getD (idx6 k) default, hc, hr, ?_, ?_⟩
  · intro i j _ i2 _ j2 hij e
    have hi := ha i i2
    have hj := ha j j2
    have hne := idx6_ne i2 j2 hij
    rw [show ads.getD (idx6 i) default = ads.getD (idx6 j) default from e] at hi
    have hp := List.pairwise_iff_getElem.1 hnd2
    obtain ⟨li, ei⟩ := List.getElem?_eq_some_iff.1 hi
    obtain ⟨lj, ej⟩ := List.getElem?_eq_some_iff.1 hj
    rcases Nat.lt_or_ge (idx6 i) (idx6 j) with h | h
    · refine hp (idx6 i) (idx6 j) (by simp; omega) (by simp; omega) (by omega) ?_
      rw [List.getElem_map, List.getElem_map, ei, ej]
    · refine hp (idx6 j) (idx6 i) (by simp; omega) (by simp; omega) (by omega) ?_
      rw [List.getElem_map, List.getElem_map, ei, ej]
  · intro k h1 h2
    refine ⟨World.block_lt_of_cell? W ⟨gl k, 0, none⟩ (hc k h1 h2), ?_⟩
    obtain ⟨c, t, h⟩ := hr k h1 h2
    exact (Array.getElem?_eq_some_iff.1 h).1

theorem is_any {B : Nat} {a : Nat → Addr} (w : World) (hs : Sen6 B a w) (i j : Nat) (h1 : 1 ≤ i) (h2 : six i = true) (h3 : 1 ≤ j) (h4 : six j = true) :
    Calls Tryd.prog 72 #[.iface 200 (.pointer (some (a i))), .iface 200 (.pointer (some (a j)))] w fun e w' => e = .returned (.bool (decide (i = j))) ∧ w = w' := by
  by_cases h : i = j
  · subst h
    rw [decide_eq_true rfl]
    exact is_same (a i) w
  · rw [decide_eq_false h]
    obtain ⟨ca, ta, ha⟩ := hs.row i h1 h2
    obtain ⟨cb, tb, hb⟩ := hs.row j h3 h4
    exact is_other (a i) (a j) ca cb ta tb w (hs.ne i j h1 h2 h3 h4 h) ha hb

theorem is_hit {B : Nat} {a : Nat → Addr} (w : World) (hs : Sen6 B a w) (i : Nat) (h1 : 1 ≤ i) (h2 : six i = true) :
    Calls Tryd.prog 72 #[.iface 200 (.pointer (some (a i))), .iface 200 (.pointer (some (a i)))] w fun e w' => e = .returned (.bool true) ∧ w = w' := by
  have h := is_any w hs i i h1 h2 h1 h2
  rwa [decide_eq_true rfl] at h
theorem is_miss {B : Nat} {a : Nat → Addr} (w : World) (hs : Sen6 B a w) (i j : Nat) (h1 : 1 ≤ i) (h2 : six i = true) (h3 : 1 ≤ j) (h4 : six j = true) (h : i ≠ j) :
    Calls Tryd.prog 72 #[.iface 200 (.pointer (some (a i))), .iface 200 (.pointer (some (a j)))] w fun e w' => e = .returned (.bool false) ∧ w = w' := by
  have h' := is_any w hs i j h1 h2 h3 h4
  rwa [decide_eq_false h] at h'
end Go.Proofs.YthalmjjbamglgaaDoor
