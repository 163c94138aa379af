/-
  The sentinels of package api: what the row's list of laid variables gives (42 different pointers), errors.Is by contracts at them, culvertlaw01.sentinel.
  No condition of its own: every contract takes the fact 'Sen' on the world.
-/
import Derived.Test.YthalmjjbamglgaaDoorRows
import Derived.WalkKit
import Derived.LaidEql
import Derived.Stop.Asserts
import Derived.Stop.LaidErr
import Derived.RowKitTokens
import Derived.Deep.Draws
namespace Go.Proofs.YthalmjjbamglgaaDoor
open Go.RowKit Go.Extern.Stop Go.Stop Go.Extern

/-- The variables that hold the sentinels, by code 1 to 42. -/
def glist : List Nat := [3, 4, 0, 11, 12, 13, 14, 15, 16, 10, 17, 18, 19, 20, 9, 21, 22, 23, 24, 25, 26, 27, 1, 2, 6, 5, 7, 28, 29, 30, 31, 32, 33, 8, 34, 35, 36, 37, 38, 39, 40, 41]
def gl (k : Nat) : Nat := glist.getD (k - 1) 0

/-- An error value by its code. -/
def errv (a : Nat → Addr) : Nat → Value
  | 0 => .nilIface
  | k + 1 => .iface 200 (.pointer (some (a (k + 1))))

/-- The world holds the 42 sentinels, below block B. -/
structure Sen (B : Nat) (a : Nat → Addr) (w : World) : Prop where
  cell : ∀ k, 1 ≤ k → k ≤ 42 → w.cell? ⟨gl k, 0, none⟩ = some (.iface 200 (.pointer (some (a k))))
  row : ∀ k, 1 ≤ k → k ≤ 42 → ∃ c t, w.heap[(a k).block]? = some (.cells c t (0, 0))
  ne : ∀ i j, 1 ≤ i → i ≤ 42 → 1 ≤ j → j ≤ 42 → i ≠ j → a i ≠ a j
  low : ∀ k, 1 ≤ k → k ≤ 42 → gl k < B ∧ (a k).block < B

theorem Sen.below {B : Nat} {a : Nat → Addr} {w w' : World} (h : Sen B a w) (hb : Below B w w') : Sen B a w' :=
  ⟨fun k h1 h2 => (hb.cell (p := ⟨gl k, 0, none⟩) (h.low k h1 h2).1).trans (h.cell k h1 h2),
   fun k h1 h2 => by
     obtain ⟨c, t, hc⟩ := h.row k h1 h2
     exact ⟨c, t, (hb.block _ (h.low k h1 h2).2).trans hc⟩, h.ne, h.low⟩

theorem Sen.drewN {B : Nat} {a : Nat → Addr} {w : World} (h : Sen B a w) (n : Nat) : Sen B a (w.drewN n) := ⟨h.cell, h.row, h.ne, h.low⟩

/-! ### What the list gives -/
def sentB : DataW Unit → Bool
  | .iface nm (.ptr (.agg [.lit (.string _)])) => nm == "*errors.errorString"
  | _ => false

theorem sent_of {d : DataW Unit} (h : sentB d = true) : ∃ text, d = .iface "*errors.errorString" (.ptr (.agg [.lit (.string text)])) := by
  unfold sentB at h
  split at h
  · rename_i nm text
    exact ⟨text, by rw [beq_iff_eq.1 h]⟩
  · cases h

theorem row_one (a : Addr) : MemPlace.row a 1 = [MemPlace.cell a.block a.off] := by simp [MemPlace.row]

theorem sen_list {P : Program} {W : World} {ti tp te ts : TypeId} {ms : Array (String × TypeId)} {f : Field}
    (hi : P.underlying ti = some (.interface ms)) (hrow : ∀ u, P.typeName? 3 u = some "*errors.errorString" → u = tp)
    (hp : P.underlying tp = some (.pointer te)) (he : P.underlying te = some (.struct #[f])) (hft : f.type = ts) (hfo : f.offset = 0) (hs : P.underlying ts = some .string) (hc : P.cellsOf te = 1) (hcs : P.cellsOf ts = 1) :
    ∀ (l : List (String × DataW Unit)) (gs : List Nat) (r : List (String × DataW Unit)) (ps : List MemPlace), DataW.LaidVars P W (l ++ r) ps → l.map (fun x => P.globalNamed x.1) = gs.map some →
      (∀ g, g ∈ gs → (P.globals[g]?).map (·.type) = some ti) → l.all (fun x => sentB x.2) = true →
      (∀ b off, MemPlace.cell b off ∈ ps → ∀ u v, W.cell? ⟨b, off, none⟩ = some (.iface u v) → Value.okWide P W .any 0 u v) →
      ∃ ads : List Addr, ads.length = l.length ∧ (∀ (i g : Nat), gs[i]? = some g → ∃ a, ads[i]? = some a ∧ W.cell? ⟨g, 0, none⟩ = some (.iface tp (.pointer (some a)))) ∧
        (ads.map fun a => MemPlace.cell a.block a.off).Sublist ps ∧ (gs.map fun g => MemPlace.cell g 0).Sublist ps := by
  intro l
  induction l with
  | nil =>
    intro gs r ps _ hg _ _ _
    have : gs = [] := by simpa using hg.symm
    subst this
    exact ⟨[], rfl, fun i g h => by simp at h, List.nil_sublist _, List.nil_sublist _⟩
  | cons x l ih =>
    intro gs r ps hv hg ht hall hok
    cases gs with
    | nil => simp at hg
    | cons g gs =>
      obtain ⟨n, d⟩ := x
      obtain ⟨g0, t0, cs0, f0, p0, q0, hg0, ht0, hv0, hd0, hq, e0⟩ := hv
      simp only [List.map_cons, List.cons.injEq] at hg
      obtain ⟨hgn, hg⟩ := hg
      obtain rfl := Option.some.inj (hg0.symm.trans hgn)
      obtain rfl := Option.some.inj (ht0.symm.trans (ht _ (List.mem_cons_self ..)))
      simp only [List.all_cons, Bool.and_eq_true] at hall
      obtain ⟨text, hd⟩ := sent_of hall.1
      subst hd
      obtain ⟨l0⟩ := cs0
      have hin : ∀ m, m ∈ q0 → m ∈ ps := fun m hm => by rw [e0]; exact List.mem_append_right _ hm
      have ok0 : ∀ u v, l0 = [.iface u v] → Value.okWide P W .any 0 u v := fun u v e => by
        subst e
        exact hok g0 0 (by rw [e0]; simp [MemPlace.row]) u v (by simpa using World.var?_cell hg0 hv0 0)
      obtain ⟨a0, s0, rfl, hc0, _, _, rfl⟩ := errorString_of_trod hi hrow hp he hft hfo hs hc hcs hd0 ok0
      obtain ⟨ads, hl, hcell, hsub, hsub2⟩ := ih gs r q0 hq hg (fun g hg => ht g (List.mem_cons_of_mem _ hg)) hall.2 (fun b off hm => hok b off (hin _ hm))
      have e1 : MemPlace.row ⟨g0, 0, none⟩ #[Value.iface tp (.pointer (some a0))].size = [MemPlace.cell g0 0] := by simp [MemPlace.row]
      have e0' : ps = MemPlace.cell g0 0 :: MemPlace.cell a0.block a0.off :: q0 := by
        rw [e0, row_one]
        show MemPlace.row ⟨g0, 0, none⟩ #[Value.iface tp (.pointer (some a0))].size ++ _ ++ q0 = _
        rw [e1]
        rfl
      refine ⟨a0 :: ads, by simp [hl], ?_, ?_, ?_⟩
      · intro i g h
        cases i with
        | zero =>
          simp only [List.getElem?_cons_zero, Option.some.injEq] at h
          subst h
          exact ⟨a0, rfl, by simpa using World.var?_cell hg0 hv0 0⟩
        | succ i => exact hcell i g (by simpa using h)
      · rw [e0', List.map_cons]
        exact List.Sublist.cons _ (List.Sublist.cons_cons _ hsub)
      · rw [e0', List.map_cons]
        exact List.Sublist.cons_cons _ (List.Sublist.cons _ hsub2)

theorem Tryd.cellsES : Tryd.prog.cellsOf 224 = 1 := by kernel_rfl
theorem Tryd.cellsS : Tryd.prog.cellsOf 9 = 1 := by kernel_rfl
theorem Tryd.star : "*" ++ "errors.errorString" = "*errors.errorString" := by decide
theorem Tryd.rowES (u : TypeId) (h : Tryd.prog.typeName? 3 u = some "*errors.errorString") : u = 200 :=
  typeName_ptr_named (nm := "errors.errorString") (by rw [Tryd.star]; kernel_rfl) (by kernel_rfl) (by decide) u (by rw [Tryd.star]; exact h)
theorem Tryd.gtypes : ∀ g, g ∈ glist → (Tryd.prog.globals[g]?).map (·.type) = some 30 := by
  have h : glist.all (fun g => (Tryd.prog.globals[g]?).map (·.type) == some 30) = true := by kernel_rfl
  intro g hg
  exact beq_iff_eq.1 (List.all_eq_true.1 h g hg)

set_option maxRecDepth 100000 in
/-- FROM A ROW's LIST (its first 42 are the sentinels by code) TO WHAT THE WALKS ASK. -/
theorem sen_of_laid {W : World} {laid : List (String × DataW Unit)} (hm : laidMet Tryd.prog laid W)
    (h1 : ((laid.take 42).map fun x => Tryd.prog.globalNamed x.1) = glist.map some) (h2 : (laid.take 42).all (fun x => sentB x.2) = true) : ∃ a, Sen W.heap.size a W := by
  obtain ⟨ps, hv, hnd, hrows⟩ := hm
  rw [← List.take_append_drop 42 laid] at hv
  obtain ⟨ads, hl, hcell, hsub, hsub2⟩ := sen_list Tryd.underlying30 Tryd.rowES Tryd.underlying200 Tryd.underlying224 rfl rfl Tryd.underlying9 Tryd.cellsES Tryd.cellsS
    (laid.take 42) glist (laid.drop 42) ps hv h1 Tryd.gtypes h2 (fun b off hm => (hrows b off hm).2)
  have hlen : ads.length = 42 := by
    rw [hl]
    have := congrArg List.length h1
    simpa [glist] using this
  have hnd2 : (ads.map fun a => MemPlace.cell a.block a.off).Nodup := List.Nodup.sublist hsub hnd
  have hg : ∀ k, 1 ≤ k → k ≤ 42 → glist[k - 1]? = some (gl k) := by
    intro k h1 h2
    have h42 : glist.length = 42 := rfl
    unfold gl
    rw [List.getD_eq_getElem?_getD, List.getElem?_eq_getElem (by omega)]
    rfl
  have ha : ∀ k, 1 ≤ k → k ≤ 42 → ads[k - 1]? = some (ads.getD (k - 1) default) := by
    intro k h1 h2
    rw [List.getD_eq_getElem?_getD, List.getElem?_eq_getElem (by omega)]
    rfl
  have hc : ∀ k, 1 ≤ k → k ≤ 42 → W.cell? ⟨gl k, 0, none⟩ = some (.iface 200 (.pointer (some (ads.getD (k - 1) default)))) := by
    intro k h1 h2
    obtain ⟨a, h3, h4⟩ := hcell (k - 1) (gl k) (hg k h1 h2)
    rw [ha k h1 h2] at h3
    rw [Option.some.inj h3]
    exact h4
  have hr : ∀ k, 1 ≤ k → k ≤ 42 → ∃ c t, W.heap[(ads.getD (k - 1) default).block]? = some (.cells c t (0, 0)) := by
    intro k h1 h2
    refine (hrows _ (ads.getD (k - 1) default).off (hsub.subset ?_)).1
    exact List.mem_map.2 ⟨_, List.mem_of_getElem? (ha k h1 h2), rfl⟩
  refine ⟨fun k => ads.getD (k - 1) default, hc, hr, ?_, ?_⟩
  · intro i j i1 i2 j1 j2 hij e
    have hi := ha i i1 i2
    have hj := ha j j1 j2
    rw [e] at hi
    have hp := List.pairwise_iff_getElem.1 hnd2
    obtain ⟨li, ei⟩ := List.getElem?_eq_some_iff.1 hi
    obtain ⟨lj, ej⟩ := List.getElem?_eq_some_iff.1 hj
    rcases Nat.lt_or_ge i j with h | h
    · refine hp (i - 1) (j - 1) (by simp; omega) (by simp; omega) (by omega) ?_
      rw [List.getElem_map, List.getElem_map, ei, ej]
    · refine hp (j - 1) (i - 1) (by simp; omega) (by simp; omega) (by omega) ?_
      rw [List.getElem_map, List.getElem_map, ei, ej]
  · intro k h1 h2
    refine ⟨World.block_lt_of_cell? W ⟨gl k, 0, none⟩ (hc k h1 h2), ?_⟩
    obtain ⟨c, t, h⟩ := hr k h1 h2
    exact (Array.getElem?_eq_some_iff.1 h).1

/-! ### errors.Is -/
theorem Tryd.isTypeOf (v : Value) (w : World) : (Extern.ReflectliteType.typeOf #[.iface 200 v]).run Tryd.prog w = .ok (.iface 191 (.agg #[.pointer (some ⟨43, 200, none⟩)])) w := by kernel_rfl
/-- What the model does at reflectlite's Comparable. -/
def cmpE : Array Value → Sem Value := Extern.ReflectliteType.method fun t => do Extern.Rtype.noPackHeld "Comparable" t; pure (.bool (← typeInfo t).comparable)
theorem Tryd.isComparable (w : World) : (cmpE #[.agg #[.pointer (some ⟨43, 200, none⟩)]]).run Tryd.prog w = .ok (.bool true) w := by kernel_rfl
theorem Tryd.isMethodComparable (v : Value) (w : World) : (Go.method 335 191 v "Comparable").run Tryd.prog w = .ok (138, v) w := by kernel_rfl
theorem Tryd.isComp : (Tryd.prog.info? 200).map (·.comparable) = some true := by kernel_rfl
theorem Tryd.isSize : (Tryd.prog.info? 224).map (·.size) = some 1 := by kernel_rfl
theorem Tryd.noIsE (v : Value) (xT : TypeId) (w : World) : (Instr.typeAssert (.iface 200 v) xT 193 true).run Tryd.prog w = .ok (.tuple #[.nilIface, .bool false]) w := run_typeAssert_lacksB Tryd.underlying193 (by kernel_rfl) (by kernel_rfl) v xT w
theorem Tryd.noUnwrapE (v : Value) (xT : TypeId) (w : World) : (Instr.typeAssert (.iface 200 v) xT 196 true).run Tryd.prog w = .ok (.tuple #[.nilIface, .bool false]) w := run_typeAssert_lacksB Tryd.underlying196 (by kernel_rfl) (by kernel_rfl) v xT w
theorem Tryd.noUnwrapsE (v : Value) (xT : TypeId) (w : World) : (Instr.typeAssert (.iface 200 v) xT 197 true).run Tryd.prog w = .ok (.tuple #[.nilIface, .bool false]) w := run_typeAssert_lacksB Tryd.underlying197 (by kernel_rfl) (by kernel_rfl) v xT w

/-- errors.Is(x, x). -/
theorem is_same (a : Addr) (w : World) :
    Calls Tryd.prog 72 #[.iface 200 (.pointer (some a)), .iface 200 (.pointer (some a))] w fun e w' => e = .returned (.bool true) ∧ w = w' := by
  obtain ⟨i, hi, hcmp⟩ := Option.map_eq_some_iff.1 Tryd.isComp
  obtain ⟨j, hj, hjs⟩ := Option.map_eq_some_iff.1 Tryd.isSize
  have h8 := @run_callFunc_extern Tryd.prog 108 _ Extern.ReflectliteType.typeOf Tryd.func108 (by kernel_rfl) (by kernel_rfl) (by kernel_rfl) (by kernel_rfl)
  have h32 := @run_callFunc_extern Tryd.prog 138 _ cmpE Tryd.func138 (by kernel_rfl) (by kernel_rfl) (by kernel_rfl) (by kernel_rfl)
  have tT := Tryd.isTypeOf
  have cT := Tryd.isComparable
  have mR := Tryd.isMethodComparable
  have heq := run_eql_iface_ptr_same (P := Tryd.prog) w a Tryd.underlying30 Tryd.underlying200 hi hcmp hj
  go_enter Tryd.func72, Tryd.ntmps72
  go_wp2
  refine wp_loop_rounds 1 ?_
  rw [rounds_succ]
  go_wp2
  go_ret
  exact ⟨rfl, rfl⟩

/-- errors.Is(x, y), two different pointers. -/
theorem is_other (a b : Addr) (ca cb : Array Value) (ta tb : TypeId) (w : World) (hne : a ≠ b) (ha : w.heap[a.block]? = some (.cells ca ta (0, 0))) (hb : w.heap[b.block]? = some (.cells cb tb (0, 0))) :
    Calls Tryd.prog 72 #[.iface 200 (.pointer (some a)), .iface 200 (.pointer (some b))] w fun e w' => e = .returned (.bool false) ∧ w = w' := by
  obtain ⟨i, hi, hcmp⟩ := Option.map_eq_some_iff.1 Tryd.isComp
  obtain ⟨j, hj, hjs⟩ := Option.map_eq_some_iff.1 Tryd.isSize
  have h8 := @run_callFunc_extern Tryd.prog 108 _ Extern.ReflectliteType.typeOf Tryd.func108 (by kernel_rfl) (by kernel_rfl) (by kernel_rfl) (by kernel_rfl)
  have h32 := @run_callFunc_extern Tryd.prog 138 _ cmpE Tryd.func138 (by kernel_rfl) (by kernel_rfl) (by kernel_rfl) (by kernel_rfl)
  have tT := Tryd.isTypeOf
  have cT := Tryd.isComparable
  have mR := Tryd.isMethodComparable
  have nE := Tryd.noIsE
  have uE := Tryd.noUnwrapE
  have vE := Tryd.noUnwrapsE
  have heq := run_eql_iface_ptr_other (P := Tryd.prog) w Tryd.underlying30 Tryd.underlying200 hi hcmp hj (by rw [hjs]; decide) hne ha hb
  go_enter Tryd.func72, Tryd.ntmps72
  go_wp2
  refine wp_loop_rounds 1 ?_
  rw [rounds_succ]
  go_wp2
  go_ret
  exact ⟨rfl, rfl⟩

/-- errors.Is(nil, x). -/
theorem is_nil (b : Addr) (w : World) :
    Calls Tryd.prog 72 #[.nilIface, .iface 200 (.pointer (some b))] w fun e w' => e = .returned (.bool false) ∧ w = w' := by
  have hn := run_eql_iface_nil_left (P := Tryd.prog) w 200 (.pointer (some b)) Tryd.underlying30
  go_enter Tryd.func72, Tryd.ntmps72
  go_wp2
  go_ret
  exact ⟨rfl, rfl⟩
end Go.Proofs.YthalmjjbamglgaaDoor
