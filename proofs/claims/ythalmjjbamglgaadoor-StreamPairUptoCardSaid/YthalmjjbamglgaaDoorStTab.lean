/-
  The table of states out of the row's list of laid variables.
  No condition.
-/
import Derived.Test.YthalmjjbamglgaaDoorStNext
import Derived.Test.YthalmjjbamglgaaDoorG1
import Derived.Test.YthalmjjbamglgaaDoorSen
import Derived.Lib.LaidTab
import Derived.OpenShut
namespace Go.Proofs.YthalmjjbamglgaaDoor
open Go.RowKit

theorem laidMet_drop {P : Program} {W : World} : ∀ (k : Nat) {l : List (String × DataW Unit)}, laidMet P l W → laidMet P (l.drop k) W
  | 0, _, h => h
  | k + 1, [], h => by simpa using h
  | k + 1, _ :: _, h => laidMet_drop k h.tail

def rowsT : List (List Int) := [[1, 2, -1, -1, -1, -1, -1], [-1, -1, -1, 3, 4, 5, 7], [-1, -1, 3, -1, 4, 5, 7], [-1, -1, -1, -1, 4, 5, 7], [-1, -1, 4, 4, -1, 6, 7], [-1, -1, 5, 5, 6, -1, 7], [-1, -1, 6, 6, -1, -1, 7], [-1, -1, -1, -1, -1, -1, 7]]
def dataT : DataW Unit := .agg (rowsT.map (Lib.tabData .i64))

theorem Tryd.gT : Tryd.prog.globalNamed "culvert/states.table" = some 42 := by kernel_rfl
theorem Tryd.gTt : (Tryd.prog.globals[42]?).map (·.type) = some 187 := by kernel_rfl
theorem Tryd.cells7 : Tryd.prog.cellsOf 186 = 7 := by kernel_rfl
theorem Tryd.cellsI : Tryd.prog.cellsOf 3 = 1 := by kernel_rfl

theorem rows_at : ∀ j, j < 56 → (((rowsT.getD (j / 7) []).map (Value.int .i64))[j % 7]? = some (.int .i64 (tab.getD j 0))) := by
  have h : ∀ j, j < 56 → (rowsT.getD (j / 7) [])[j % 7]? = some (tab.getD j 0) := by decide
  intro j hj
  rw [List.getElem?_map, h j hj]
  rfl

theorem tab_of_laid {W : World} {laid : List (String × DataW Unit)} (hm : laidMet Tryd.prog laid W) (hl : laid.drop 42 = [("culvert/states.table", dataT)]) : Tab W.heap.size W := by
  have h := laidMet_drop 42 hm
  rw [hl] at h
  obtain ⟨ps, ⟨g, t, cs, fuel, p, q, hg, ht, hv, hd, _, _⟩, _, _⟩ := h
  obtain rfl := Option.some.inj (Tryd.gT.symm.trans hg)
  obtain rfl := Option.some.inj (Tryd.gTt.symm.trans ht)
  obtain ⟨xs, m, _, hx, hlen, hxl, hrow⟩ := DataW.trod_array Tryd.underlying187 hd
  simp only [dataT, Prod.mk.injEq, DataW.agg.injEq] at hx
  rw [Tryd.cells7] at hrow
  have hcell : ∀ i, i < 56 → W.cell? ⟨42, i, none⟩ = some (.int .i64 (tab.getD i 0)) := by
    intro j hj
    rw [World.var?_cell hg hv j, ← rows_at j hj]
    have hi : j / 7 < 8 := by omega
    have hr := hrow (j / 7) hi
    have hxi : xs[j / 7]? = some (xs[j / 7]'(by omega)) := List.getElem?_eq_getElem (by omega)
    have hd1 : (xs[j / 7]'(by omega)).1 = Lib.tabData .i64 (rowsT.getD (j / 7) []) := by
      have h1 : (xs.map (·.1))[j / 7]? = (rowsT.map (Lib.tabData (H := Unit) .i64))[j / 7]? := by rw [← hx.1]
      rw [List.getElem?_map, hxi, List.getElem?_map] at h1
      have h8 : rowsT.length = 8 := rfl
      have h2 : rowsT[j / 7]? = some (rowsT.getD (j / 7) []) := by
        rw [List.getD_eq_getElem?_getD, List.getElem?_eq_getElem (by omega)]
        rfl
      rw [h2] at h1
      simpa using h1
    rw [hxi] at hr
    have hr' : DataW.trod (fun _ => ()) Tryd.prog W 0 (fun _ => true) false m 186 ((cs.toList.drop (j / 7 * 7)).take 7) = some (Lib.tabData .i64 (rowsT.getD (j / 7) []), (xs[j / 7]'(by omega)).2) := by
      rw [hr, ← hd1]
    have hc := Lib.cells_of_tab Tryd.underlying186 Tryd.underlying3 Tryd.cellsI Tryd.cells7 hr'
    rw [← hc, List.getElem?_take, if_pos (by omega), List.getElem?_drop, show j / 7 * 7 + j % 7 = j by omega]
    simp
  exact ⟨hcell, World.block_lt_of_cell? W ⟨42, 0, none⟩ (hcell 0 (by decide))⟩
end Go.Proofs.YthalmjjbamglgaaDoor
