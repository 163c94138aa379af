/-
  The document's stream (culvertref10) by contracts, field by field.
  No condition of its own.
-/
import Derived.Test.YthalmjjbamglgaaDoorStrI
import Derived.Test.YthalmjjbamglgaaDoorG1
import Derived.Deep.DeepCutAuto
import Derived.Deep.CutBlock
import Derived.Test.YthalmjjbamglgaaDoorG2
import Derived.Deep.RegionHeld3
namespace Go.Proofs.YthalmjjbamglgaaDoor
open Go.RowKit
set_option linter.unusedSimpArgs false
set_option linter.unusedVariables false

theorem szS : (Tryd.prog.info? 51).map (·.size) = some 17 := by kernel_rfl
theorem sz8 : (Tryd.prog.info? 4).map (·.size) = some 1 := by kernel_rfl
theorem szI : (Tryd.prog.info? 3).map (·.size) = some 1 := by kernel_rfl
theorem szB : (Tryd.prog.info? 23).map (·.size) = some 1 := by kernel_rfl
section
variable {w : World} {ops : Array Oper} {rest : List Oper} {o : Oper} {a : Act} {Q : Exit → Act → World → Prop} {g : Nat} {cs : Array Value}
theorem ldS (hgd : o.guard = none) (x : Operand) (ho : o.op = .load 51 x) (hx : a.eval x = .pointer (some ⟨g, 0, none⟩)) (hi : Is w g 51 cs) (hn : cs.size = 17) (h : wpList Tryd.prog ops Q rest (a.put o.dst (.agg cs)) w) : wpList Tryd.prog ops Q (o :: rest) a w :=
  wpList_load_row hgd 51 x ho g hx 51 cs (0, 0) _ hi Tryd.underlying51 rfl (by rw [hn]; exact szS) h
theorem stS (hgd : o.guard = none) (x y : Operand) (ho : o.op = .store 51 x y) (hx : a.eval x = .pointer (some ⟨g, 0, none⟩)) {vs : Array Value} (hy : a.eval y = .agg vs) (hi : Is w g 51 cs) (hn : cs.size = 17) (hm : vs.size = 17) (h1 : vs.toList.all (·.oneCell') = true)
    (h : ∀ w', Is w' g 51 vs → Chg (fun k => k = g) w w' → wpList Tryd.prog ops Q rest (a.put o.dst undef) w') : wpList Tryd.prog ops Q (o :: rest) a w :=
  wpList_store_part hgd 51 x y ho g 0 hx _ hy vs.toList hi rfl (by rw [Array.length_toList]; omega) h1 (by rw [Array.length_toList, hm]; exact szS) vs (by rw [List.drop_eq_nil_of_le (by simp; omega)]; simp) h
/-- A field stored. -/
theorem stF (hgd : o.guard = none) (ty : TypeId) (hz : (Tryd.prog.info? ty).map (·.size) = some 1) (x y : Operand) (ho : o.op = .store ty x y) (i : Nat) (hx : a.eval x = .pointer (some ⟨g, i, none⟩)) {t : TypeId} {v : Value} (hy : a.eval y = v) (hi : Is w g t cs) (hv : v.cells.toList = [v]) (hl : i + 1 ≤ cs.size) (h1 : v.oneCell' = true) (cs' : Array Value)
    (hcs : (cs.toList.take i ++ [v] ++ cs.toList.drop (i + 1)).toArray = cs')
    (h : ∀ w', Is w' g t cs' → Chg (fun k => k = g) w w' → wpList Tryd.prog ops Q rest (a.put o.dst undef) w') : wpList Tryd.prog ops Q (o :: rest) a w :=
  wpList_store_part hgd ty x y ho g i hx v hy [v] hi hv hl (by simp [h1]) hz cs' hcs h
end
section
theorem isn2 (w : World) (x : Obj) (t : TypeId) (cs : Array Value) : Is ((w.alloc x).alloc (.cells cs t)) (w.heap.size + 1) t cs := by
  have h := Is.new (w.alloc x) t cs
  have e : (w.alloc x).heap.size = w.heap.size + 1 := Array.size_push _
  rwa [e] at h
theorem chg2 {w w1 w2 : World} {g : Nat} (h : Chg none_ w w1) (hc : Chg (fun k => k = g) w1 w2) (hg : w.heap.size ≤ g) : Chg none_ w w2 := h.then hc fun k hk e => by omega
variable (w : World) (id W st fr c l o : Int) (mine acc cl lo li td rs ct : Bool) (A1 A2 : Option Addr) (n1 k1 n2 k2 : Nat)
theorem qgone26 : Calls Tryd.prog 115 #[.agg #[.int .u32 id, .int .i64 W, .int .i64 st, .int .i64 fr, .bool mine, .bool acc, (.slice A1 n1 k1), .bool cl, .bool lo, .int .i64 c, (.slice A2 n2 k2), .int .i64 l, .int .i64 o, .bool li, .bool td, .bool true, .bool ct]] w fun e w' => e = .returned (.int .i64 26) ∧ Chg none_ w w' := by
  go_enter Tryd.func115, Tryd.ntmps115
  go_wp2
  go_ret
  exact ⟨rfl, (Chg.refl none_ w).alloc _⟩
theorem qgone27 : Calls Tryd.prog 115 #[.agg #[.int .u32 id, .int .i64 W, .int .i64 st, .int .i64 fr, .bool mine, .bool acc, (.slice A1 n1 k1), .bool cl, .bool lo, .int .i64 c, (.slice A2 n2 k2), .int .i64 l, .int .i64 o, .bool li, .bool td, .bool false, .bool true]] w fun e w' => e = .returned (.int .i64 27) ∧ Chg none_ w w' := by
  go_enter Tryd.func115, Tryd.ntmps115
  go_wp2
  go_ret
  exact ⟨rfl, (Chg.refl none_ w).alloc _⟩
theorem qgone0 : Calls Tryd.prog 115 #[.agg #[.int .u32 id, .int .i64 W, .int .i64 st, .int .i64 fr, .bool mine, .bool acc, (.slice A1 n1 k1), .bool cl, .bool lo, .int .i64 c, (.slice A2 n2 k2), .int .i64 l, .int .i64 o, .bool li, .bool td, .bool false, .bool false]] w fun e w' => e = .returned (.int .i64 0) ∧ Chg none_ w w' := by
  go_enter Tryd.func115, Tryd.ntmps115
  go_wp2
  go_ret
  exact ⟨rfl, (Chg.refl none_ w).alloc _⟩
theorem qacc26 : Calls Tryd.prog 86 #[.agg #[.int .u32 id, .int .i64 W, .int .i64 st, .int .i64 fr, .bool mine, .bool acc, (.slice A1 n1 k1), .bool cl, .bool lo, .int .i64 c, (.slice A2 n2 k2), .int .i64 l, .int .i64 o, .bool li, .bool td, .bool true, .bool ct]] w fun e w' => e = .returned (.tuple #[.agg #[.int .u32 id, .int .i64 W, .int .i64 st, .int .i64 fr, .bool mine, .bool acc, (.slice A1 n1 k1), .bool cl, .bool lo, .int .i64 c, (.slice A2 n2 k2), .int .i64 l, .int .i64 o, .bool li, .bool td, .bool true, .bool ct], .int .i64 26]) ∧ Chg none_ w w' := by
  go_enter Tryd.func86, Tryd.ntmps86
  go_wp2_with (refine ldS rfl _ rfl rfl ((Is.new w _ _).alloc _) rfl ?_)
  refine (qgone26 _ _ _ _ _ _ _ _ _ _ _ _ _ _ _ _ _ _ _ _ _ ).mono ?_
  rintro e w1 ⟨rfl, kk⟩
  have k0 : Chg none_ w w1 := (((Chg.refl none_ w).alloc _).alloc _).trans kk
  have b1 : Is w1 w.heap.size 51 #[.int .u32 id, .int .i64 W, .int .i64 st, .int .i64 fr, .bool mine, .bool acc, (.slice A1 n1 k1), .bool cl, .bool lo, .int .i64 c, (.slice A2 n2 k2), .int .i64 l, .int .i64 o, .bool li, .bool td, .bool true, .bool ct] := ((Is.new w 51 #[.int .u32 id, .int .i64 W, .int .i64 st, .int .i64 fr, .bool mine, .bool acc, (.slice A1 n1 k1), .bool cl, .bool lo, .int .i64 c, (.slice A2 n2 k2), .int .i64 l, .int .i64 o, .bool li, .bool td, .bool true, .bool ct]).alloc _).chg kk (fun f => f)
  have r1 : Is w1 (w.heap.size + 1) 51 #[.int .u32 0, .int .i64 0, .int .i64 0, .int .i64 0, .bool false, .bool false, .slice none 0 0, .bool false, .bool false, .int .i64 0, .slice none 0 0, .int .i64 0, .int .i64 0, .bool false, .bool false, .bool false, .bool false] := (isn2 w _ 51 #[.int .u32 0, .int .i64 0, .int .i64 0, .int .i64 0, .bool false, .bool false, .slice none 0 0, .bool false, .bool false, .int .i64 0, .slice none 0 0, .int .i64 0, .int .i64 0, .bool false, .bool false, .bool false, .bool false]).chg kk (fun f => f)
  have K0 := Lib.hid k0
  have B1 := Lib.hid b1
  have R1 := Lib.hid r1
  clear b1 r1 kk k0
  go_wp2_with (first
    | (refine ldS rfl _ rfl rfl B1.out rfl ?_)
    | (refine stS rfl _ _ rfl rfl rfl R1.out rfl rfl rfl ?_; intro w2 i2 c2; have I2 := Lib.hid i2; have C2 := Lib.hid c2; clear i2 c2))
  refine bodyPost_ret (results_c2 rfl _ rfl I2.out Tryd.underlying51 rfl szS rfl) rfl ?_
  exact ⟨rfl, chg2 K0.out C2.out (by omega)⟩
theorem qacc27 : Calls Tryd.prog 86 #[.agg #[.int .u32 id, .int .i64 W, .int .i64 st, .int .i64 fr, .bool mine, .bool acc, (.slice A1 n1 k1), .bool cl, .bool lo, .int .i64 c, (.slice A2 n2 k2), .int .i64 l, .int .i64 o, .bool li, .bool td, .bool false, .bool true]] w fun e w' => e = .returned (.tuple #[.agg #[.int .u32 id, .int .i64 W, .int .i64 st, .int .i64 fr, .bool mine, .bool acc, (.slice A1 n1 k1), .bool cl, .bool lo, .int .i64 c, (.slice A2 n2 k2), .int .i64 l, .int .i64 o, .bool li, .bool td, .bool false, .bool true], .int .i64 27]) ∧ Chg none_ w w' := by
  go_enter Tryd.func86, Tryd.ntmps86
  go_wp2_with (refine ldS rfl _ rfl rfl ((Is.new w _ _).alloc _) rfl ?_)
  refine (qgone27 _ _ _ _ _ _ _ _ _ _ _ _ _ _ _ _ _ _ _ _ ).mono ?_
  rintro e w1 ⟨rfl, kk⟩
  have k0 : Chg none_ w w1 := (((Chg.refl none_ w).alloc _).alloc _).trans kk
  have b1 : Is w1 w.heap.size 51 #[.int .u32 id, .int .i64 W, .int .i64 st, .int .i64 fr, .bool mine, .bool acc, (.slice A1 n1 k1), .bool cl, .bool lo, .int .i64 c, (.slice A2 n2 k2), .int .i64 l, .int .i64 o, .bool li, .bool td, .bool false, .bool true] := ((Is.new w 51 #[.int .u32 id, .int .i64 W, .int .i64 st, .int .i64 fr, .bool mine, .bool acc, (.slice A1 n1 k1), .bool cl, .bool lo, .int .i64 c, (.slice A2 n2 k2), .int .i64 l, .int .i64 o, .bool li, .bool td, .bool false, .bool true]).alloc _).chg kk (fun f => f)
  have r1 : Is w1 (w.heap.size + 1) 51 #[.int .u32 0, .int .i64 0, .int .i64 0, .int .i64 0, .bool false, .bool false, .slice none 0 0, .bool false, .bool false, .int .i64 0, .slice none 0 0, .int .i64 0, .int .i64 0, .bool false, .bool false, .bool false, .bool false] := (isn2 w _ 51 #[.int .u32 0, .int .i64 0, .int .i64 0, .int .i64 0, .bool false, .bool false, .slice none 0 0, .bool false, .bool false, .int .i64 0, .slice none 0 0, .int .i64 0, .int .i64 0, .bool false, .bool false, .bool false, .bool false]).chg kk (fun f => f)
  have K0 := Lib.hid k0
  have B1 := Lib.hid b1
  have R1 := Lib.hid r1
  clear b1 r1 kk k0
  go_wp2_with (first
    | (refine ldS rfl _ rfl rfl B1.out rfl ?_)
    | (refine stS rfl _ _ rfl rfl rfl R1.out rfl rfl rfl ?_; intro w2 i2 c2; have I2 := Lib.hid i2; have C2 := Lib.hid c2; clear i2 c2))
  refine bodyPost_ret (results_c2 rfl _ rfl I2.out Tryd.underlying51 rfl szS rfl) rfl ?_
  exact ⟨rfl, chg2 K0.out C2.out (by omega)⟩
theorem qacc23 : Calls Tryd.prog 86 #[.agg #[.int .u32 id, .int .i64 W, .int .i64 st, .int .i64 fr, .bool mine, .bool true, (.slice A1 n1 k1), .bool cl, .bool lo, .int .i64 c, (.slice A2 n2 k2), .int .i64 l, .int .i64 o, .bool li, .bool td, .bool false, .bool false]] w fun e w' => e = .returned (.tuple #[.agg #[.int .u32 id, .int .i64 W, .int .i64 st, .int .i64 fr, .bool mine, .bool true, (.slice A1 n1 k1), .bool cl, .bool lo, .int .i64 c, (.slice A2 n2 k2), .int .i64 l, .int .i64 o, .bool li, .bool td, .bool false, .bool false], .int .i64 23]) ∧ Chg none_ w w' := by
  go_enter Tryd.func86, Tryd.ntmps86
  go_wp2_with (refine ldS rfl _ rfl rfl ((Is.new w _ _).alloc _) rfl ?_)
  refine (qgone0 _ _ _ _ _ _ _ _ _ _ _ _ _ _ _ _ _ _ _ _ ).mono ?_
  rintro e w1 ⟨rfl, kk⟩
  have k0 : Chg none_ w w1 := (((Chg.refl none_ w).alloc _).alloc _).trans kk
  have b1 : Is w1 w.heap.size 51 #[.int .u32 id, .int .i64 W, .int .i64 st, .int .i64 fr, .bool mine, .bool true, (.slice A1 n1 k1), .bool cl, .bool lo, .int .i64 c, (.slice A2 n2 k2), .int .i64 l, .int .i64 o, .bool li, .bool td, .bool false, .bool false] := ((Is.new w 51 #[.int .u32 id, .int .i64 W, .int .i64 st, .int .i64 fr, .bool mine, .bool true, (.slice A1 n1 k1), .bool cl, .bool lo, .int .i64 c, (.slice A2 n2 k2), .int .i64 l, .int .i64 o, .bool li, .bool td, .bool false, .bool false]).alloc _).chg kk (fun f => f)
  have r1 : Is w1 (w.heap.size + 1) 51 #[.int .u32 0, .int .i64 0, .int .i64 0, .int .i64 0, .bool false, .bool false, .slice none 0 0, .bool false, .bool false, .int .i64 0, .slice none 0 0, .int .i64 0, .int .i64 0, .bool false, .bool false, .bool false, .bool false] := (isn2 w _ 51 #[.int .u32 0, .int .i64 0, .int .i64 0, .int .i64 0, .bool false, .bool false, .slice none 0 0, .bool false, .bool false, .int .i64 0, .slice none 0 0, .int .i64 0, .int .i64 0, .bool false, .bool false, .bool false, .bool false]).chg kk (fun f => f)
  have p5 : w1.cell? ⟨w.heap.size, 5, none⟩ = some (.bool true) := b1.at_ 5 _ rfl
  have K0 := Lib.hid k0
  have B1 := Lib.hid b1
  have R1 := Lib.hid r1
  clear b1 r1 kk k0
  go_wp2_with (first
    | (refine ldS rfl _ rfl rfl B1.out rfl ?_)
    | (refine stS rfl _ _ rfl rfl rfl R1.out rfl rfl rfl ?_; intro w2 i2 c2; have I2 := Lib.hid i2; have C2 := Lib.hid c2; clear i2 c2))
  refine bodyPost_ret (results_c2 rfl _ rfl I2.out Tryd.underlying51 rfl szS rfl) rfl ?_
  exact ⟨rfl, chg2 K0.out C2.out (by omega)⟩
theorem qacc0 : Calls Tryd.prog 86 #[.agg #[.int .u32 id, .int .i64 W, .int .i64 st, .int .i64 fr, .bool mine, .bool false, (.slice A1 n1 k1), .bool cl, .bool lo, .int .i64 c, (.slice A2 n2 k2), .int .i64 l, .int .i64 o, .bool li, .bool td, .bool false, .bool false]] w fun e w' => e = .returned (.tuple #[.agg #[.int .u32 id, .int .i64 W, .int .i64 st, .int .i64 fr, .bool mine, .bool true, (.slice A1 n1 k1), .bool cl, .bool lo, .int .i64 c, (.slice A2 n2 k2), .int .i64 l, .int .i64 o, .bool li, .bool td, .bool false, .bool false], .int .i64 0]) ∧ Chg none_ w w' := by
  go_enter Tryd.func86, Tryd.ntmps86
  go_wp2_with (refine ldS rfl _ rfl rfl ((Is.new w _ _).alloc _) rfl ?_)
  refine (qgone0 _ _ _ _ _ _ _ _ _ _ _ _ _ _ _ _ _ _ _ _ ).mono ?_
  rintro e w1 ⟨rfl, kk⟩
  have k0 : Chg none_ w w1 := (((Chg.refl none_ w).alloc _).alloc _).trans kk
  have b1 : Is w1 w.heap.size 51 #[.int .u32 id, .int .i64 W, .int .i64 st, .int .i64 fr, .bool mine, .bool false, (.slice A1 n1 k1), .bool cl, .bool lo, .int .i64 c, (.slice A2 n2 k2), .int .i64 l, .int .i64 o, .bool li, .bool td, .bool false, .bool false] := ((Is.new w 51 #[.int .u32 id, .int .i64 W, .int .i64 st, .int .i64 fr, .bool mine, .bool false, (.slice A1 n1 k1), .bool cl, .bool lo, .int .i64 c, (.slice A2 n2 k2), .int .i64 l, .int .i64 o, .bool li, .bool td, .bool false, .bool false]).alloc _).chg kk (fun f => f)
  have r1 : Is w1 (w.heap.size + 1) 51 #[.int .u32 0, .int .i64 0, .int .i64 0, .int .i64 0, .bool false, .bool false, .slice none 0 0, .bool false, .bool false, .int .i64 0, .slice none 0 0, .int .i64 0, .int .i64 0, .bool false, .bool false, .bool false, .bool false] := (isn2 w _ 51 #[.int .u32 0, .int .i64 0, .int .i64 0, .int .i64 0, .bool false, .bool false, .slice none 0 0, .bool false, .bool false, .int .i64 0, .slice none 0 0, .int .i64 0, .int .i64 0, .bool false, .bool false, .bool false, .bool false]).chg kk (fun f => f)
  have p5 : w1.cell? ⟨w.heap.size, 5, none⟩ = some (.bool false) := b1.at_ 5 _ rfl
  have K0 := Lib.hid k0
  have B1 := Lib.hid b1
  have R1 := Lib.hid r1
  clear b1 r1 kk k0
  go_wp2_with (first
    | (refine stF rfl _ sz8 _ _ rfl 5 rfl rfl B1.out rfl (Nat.le_of_ble_eq_true rfl) rfl #[.int .u32 id, .int .i64 W, .int .i64 st, .int .i64 fr, .bool mine, .bool true, (.slice A1 n1 k1), .bool cl, .bool lo, .int .i64 c, (.slice A2 n2 k2), .int .i64 l, .int .i64 o, .bool li, .bool td, .bool false, .bool false] rfl ?_; intro w2 i2 c2; have I2 := Lib.hid i2; have C2 := Lib.hid c2; clear i2 c2)
    | (refine ldS rfl _ rfl rfl I2.out rfl ?_)
    | (refine stS rfl _ _ rfl rfl rfl (R1.out.chg C2.out (Nat.succ_ne_self _)) rfl rfl rfl ?_; intro w3 i3 c3; have I3 := Lib.hid i3; have C3 := Lib.hid c3; clear i3 c3))
  refine bodyPost_ret (results_c2 rfl _ rfl I3.out Tryd.underlying51 rfl szS rfl) rfl ?_
  exact ⟨rfl, chg2 (chg2 K0.out C2.out (by omega)) C3.out (by omega)⟩
theorem qstate : Calls Tryd.prog 98 #[.agg #[.int .u32 id, .int .i64 W, .int .i64 st, .int .i64 fr, .bool mine, .bool acc, (.slice A1 n1 k1), .bool cl, .bool lo, .int .i64 c, (.slice A2 n2 k2), .int .i64 l, .int .i64 o, .bool li, .bool td, .bool rs, .bool ct]] w fun e w' => e = .returned (.int .i64 (stOf mine acc lo li rs)) ∧ Chg none_ w w' := by
  cases rs with
  | true =>
    go_enter Tryd.func98, Tryd.ntmps98
    go_wp2
    go_ret
    exact ⟨rfl, (Chg.refl none_ w).alloc _⟩
  | false =>
    cases lo with
    | true => cases li <;> (
      go_enter Tryd.func98, Tryd.ntmps98
      go_wp2
      go_ret
      exact ⟨rfl, (Chg.refl none_ w).alloc _⟩)
    | false =>
      cases li with
      | true =>
        go_enter Tryd.func98, Tryd.ntmps98
        go_wp2
        go_ret
        exact ⟨rfl, (Chg.refl none_ w).alloc _⟩
      | false =>
        cases acc with
        | true =>
          go_enter Tryd.func98, Tryd.ntmps98
          go_wp2
          go_ret
          exact ⟨rfl, (Chg.refl none_ w).alloc _⟩
        | false => cases mine <;> (
          go_enter Tryd.func98, Tryd.ntmps98
          go_wp2
          go_ret
          exact ⟨rfl, (Chg.refl none_ w).alloc _⟩)
theorem qstateX : Calls Tryd.prog 98 #[.agg #[.int .u32 id, .int .i64 W, .int .i64 st, .int .i64 fr, .bool mine, .bool acc, (.slice A1 n1 k1), .bool cl, .bool lo, .int .i64 c, (.slice A2 n2 k2), .int .i64 l, .int .i64 o, .bool li, .bool td, .bool rs, .bool ct]] w fun e w' => e = .returned (.int .i64 (stOf mine acc lo li rs)) ∧ w' = w.alloc (.cells #[.int .u32 id, .int .i64 W, .int .i64 st, .int .i64 fr, .bool mine, .bool acc, (.slice A1 n1 k1), .bool cl, .bool lo, .int .i64 c, (.slice A2 n2 k2), .int .i64 l, .int .i64 o, .bool li, .bool td, .bool rs, .bool ct] 51) := by
  cases rs with
  | true =>
    go_enter Tryd.func98, Tryd.ntmps98
    go_wp2
    go_ret
    exact ⟨rfl, rfl⟩
  | false =>
    cases lo with
    | true => cases li <;> (
      go_enter Tryd.func98, Tryd.ntmps98
      go_wp2
      go_ret
      exact ⟨rfl, rfl⟩)
    | false =>
      cases li with
      | true =>
        go_enter Tryd.func98, Tryd.ntmps98
        go_wp2
        go_ret
        exact ⟨rfl, rfl⟩
      | false =>
        cases acc with
        | true =>
          go_enter Tryd.func98, Tryd.ntmps98
          go_wp2
          go_ret
          exact ⟨rfl, rfl⟩
        | false => cases mine <;> (
          go_enter Tryd.func98, Tryd.ntmps98
          go_wp2
          go_ret
          exact ⟨rfl, rfl⟩)
theorem qquiet : Calls Tryd.prog 58 #[.agg #[.int .u32 id, .int .i64 W, .int .i64 st, .int .i64 fr, .bool mine, .bool acc, (.slice A1 n1 k1), .bool cl, .bool lo, .int .i64 c, (.slice A2 n2 k2), .int .i64 l, .int .i64 o, .bool li, .bool td, .bool rs, .bool ct]] w fun e w' => e = .returned (.bool (!rs && lo && li)) ∧ Chg none_ w w' := by
  cases rs <;> cases lo <;> cases li <;> (
    go_enter Tryd.func58, Tryd.ntmps58
    go_wp2
    go_ret
    exact ⟨rfl, (Chg.refl none_ w).alloc _⟩)
theorem qdone_rs : Calls Tryd.prog 59 #[.agg #[.int .u32 id, .int .i64 W, .int .i64 st, .int .i64 fr, .bool mine, .bool acc, (.slice A1 n1 k1), .bool cl, .bool lo, .int .i64 c, (.slice A2 n2 k2), .int .i64 l, .int .i64 o, .bool li, .bool td, .bool true, .bool ct]] w fun e w' => e = .returned (.bool true) ∧ Chg none_ w w' := by
  go_enter Tryd.func59, Tryd.ntmps59
  go_wp2
  go_ret
  exact ⟨rfl, (Chg.refl none_ w).alloc _⟩
theorem qdone_ct : Calls Tryd.prog 59 #[.agg #[.int .u32 id, .int .i64 W, .int .i64 st, .int .i64 fr, .bool mine, .bool acc, (.slice A1 n1 k1), .bool cl, .bool lo, .int .i64 c, (.slice A2 n2 k2), .int .i64 l, .int .i64 o, .bool li, .bool td, .bool false, .bool true]] w fun e w' => e = .returned (.bool td) ∧ Chg none_ w w' := by
  go_enter Tryd.func59, Tryd.ntmps59
  go_wp2
  go_ret
  exact ⟨rfl, (Chg.refl none_ w).alloc _⟩
theorem qdone_td : Calls Tryd.prog 59 #[.agg #[.int .u32 id, .int .i64 W, .int .i64 st, .int .i64 fr, .bool mine, .bool acc, (.slice A1 n1 k1), .bool cl, .bool lo, .int .i64 c, (.slice A2 n2 k2), .int .i64 l, .int .i64 o, .bool li, .bool false, .bool false, .bool false]] w fun e w' => e = .returned (.bool false) ∧ Chg none_ w w' := by
  go_enter Tryd.func59, Tryd.ntmps59
  go_wp2
  go_ret
  exact ⟨rfl, (Chg.refl none_ w).alloc _⟩
theorem qdone_q : Calls Tryd.prog 59 #[.agg #[.int .u32 id, .int .i64 W, .int .i64 st, .int .i64 fr, .bool mine, .bool acc, (.slice A1 n1 k1), .bool cl, .bool lo, .int .i64 c, (.slice A2 n2 k2), .int .i64 l, .int .i64 o, .bool li, .bool true, .bool false, .bool false]] w fun e w' => e = .returned (.bool (!false && lo && li)) ∧ Chg none_ w w' := by
  go_enter Tryd.func59, Tryd.ntmps59
  go_wp2_with (refine ldS rfl _ rfl rfl (Is.new w _ _) rfl ?_)
  refine (qquiet _ _ _ _ _ _ _ _ _ _ _ _ _ _ _ _ _ _ _ _ _ _).mono ?_
  rintro e w1 ⟨rfl, kk⟩
  have k0 := Lib.hid (((Chg.refl none_ w).alloc _).trans kk)
  clear kk
  go_wp2
  go_ret
  exact ⟨rfl, k0.out⟩
theorem qheld (h1 : n1 ≤ 4294967296) (h2 : n2 ≤ 4294967296) : Calls Tryd.prog 60 #[.agg #[.int .u32 id, .int .i64 W, .int .i64 st, .int .i64 fr, .bool mine, .bool acc, (.slice A1 n1 k1), .bool cl, .bool lo, .int .i64 c, (.slice A2 n2 k2), .int .i64 l, .int .i64 o, .bool li, .bool td, .bool rs, .bool ct]] w fun e w' => e = .returned (.int .i64 ((n1 : Int) + n2)) ∧ Chg none_ w w' := by
  have hw : wrap64 ((n1 : Int) + n2) = (n1 : Int) + n2 := (IntWalk.i64_left _).symm.trans (IntWalk.i64_in _ (by omega))
  go_enter Tryd.func60, Tryd.ntmps60
  go_wp2
  go_ret
  exact ⟨by first | rfl | (show Ending.returned (.int .i64 (wrap64 ((n1 : Int) + n2))) = _; rw [hw]), (Chg.refl none_ w).alloc _⟩
theorem qready_rs : Calls Tryd.prog 62 #[.agg #[.int .u32 id, .int .i64 W, .int .i64 st, .int .i64 fr, .bool mine, .bool acc, (.slice A1 n1 k1), .bool cl, .bool lo, .int .i64 c, (.slice A2 n2 k2), .int .i64 l, .int .i64 o, .bool li, .bool td, .bool true, .bool ct]] w fun e w' => e = .returned (.bool false) ∧ Chg none_ w w' := by
  go_enter Tryd.func62, Tryd.ntmps62
  go_wp2
  go_ret
  exact ⟨rfl, (Chg.refl none_ w).alloc _⟩
theorem qready_ct : Calls Tryd.prog 62 #[.agg #[.int .u32 id, .int .i64 W, .int .i64 st, .int .i64 fr, .bool mine, .bool acc, (.slice A1 n1 k1), .bool cl, .bool lo, .int .i64 c, (.slice A2 n2 k2), .int .i64 l, .int .i64 o, .bool li, .bool td, .bool false, .bool true]] w fun e w' => e = .returned (.bool false) ∧ Chg none_ w w' := by
  go_enter Tryd.func62, Tryd.ntmps62
  go_wp2
  go_ret
  exact ⟨rfl, (Chg.refl none_ w).alloc _⟩
theorem qready_lo : Calls Tryd.prog 62 #[.agg #[.int .u32 id, .int .i64 W, .int .i64 st, .int .i64 fr, .bool mine, .bool acc, (.slice A1 n1 k1), .bool cl, .bool true, .int .i64 c, (.slice A2 n2 k2), .int .i64 l, .int .i64 o, .bool li, .bool td, .bool false, .bool false]] w fun e w' => e = .returned (.bool false) ∧ Chg none_ w w' := by
  go_enter Tryd.func62, Tryd.ntmps62
  go_wp2
  go_ret
  exact ⟨rfl, (Chg.refl none_ w).alloc _⟩
theorem qready_no : Calls Tryd.prog 62 #[.agg #[.int .u32 id, .int .i64 W, .int .i64 st, .int .i64 fr, .bool false, .bool false, (.slice A1 n1 k1), .bool cl, .bool false, .int .i64 c, (.slice A2 n2 k2), .int .i64 l, .int .i64 o, .bool li, .bool td, .bool false, .bool false]] w fun e w' => e = .returned (.bool false) ∧ Chg none_ w w' := by
  go_enter Tryd.func62, Tryd.ntmps62
  go_wp2
  go_ret
  exact ⟨rfl, (Chg.refl none_ w).alloc _⟩
theorem qready_sm (h0 : 0 < n1) : Calls Tryd.prog 62 #[.agg #[.int .u32 id, .int .i64 W, .int .i64 st, .int .i64 fr, .bool true, .bool acc, (.slice A1 n1 k1), .bool cl, .bool false, .int .i64 c, (.slice A2 n2 k2), .int .i64 l, .int .i64 o, .bool li, .bool td, .bool false, .bool false]] w fun e w' => e = .returned (.bool (decide (0 < c))) ∧ Chg none_ w w' := by
  have h1 : (0 : Int) < (n1 : Int) := by omega
  go_enter Tryd.func62, Tryd.ntmps62
  go_wp2
  go_ret
  exact ⟨rfl, (Chg.refl none_ w).alloc _⟩
theorem qready_zm : Calls Tryd.prog 62 #[.agg #[.int .u32 id, .int .i64 W, .int .i64 st, .int .i64 fr, .bool true, .bool acc, (.slice A1 0 k1), .bool cl, .bool false, .int .i64 c, (.slice A2 n2 k2), .int .i64 l, .int .i64 o, .bool li, .bool td, .bool false, .bool false]] w fun e w' => e = .returned (.bool cl) ∧ Chg none_ w w' := by
  go_enter Tryd.func62, Tryd.ntmps62
  go_wp2
  go_ret
  exact ⟨rfl, (Chg.refl none_ w).alloc _⟩
theorem qready_sa (h0 : 0 < n1) : Calls Tryd.prog 62 #[.agg #[.int .u32 id, .int .i64 W, .int .i64 st, .int .i64 fr, .bool false, .bool true, (.slice A1 n1 k1), .bool cl, .bool false, .int .i64 c, (.slice A2 n2 k2), .int .i64 l, .int .i64 o, .bool li, .bool td, .bool false, .bool false]] w fun e w' => e = .returned (.bool (decide (0 < c))) ∧ Chg none_ w w' := by
  have h1 : (0 : Int) < (n1 : Int) := by omega
  go_enter Tryd.func62, Tryd.ntmps62
  go_wp2
  go_ret
  exact ⟨rfl, (Chg.refl none_ w).alloc _⟩
theorem qready_za : Calls Tryd.prog 62 #[.agg #[.int .u32 id, .int .i64 W, .int .i64 st, .int .i64 fr, .bool false, .bool true, (.slice A1 0 k1), .bool cl, .bool false, .int .i64 c, (.slice A2 n2 k2), .int .i64 l, .int .i64 o, .bool li, .bool td, .bool false, .bool false]] w fun e w' => e = .returned (.bool cl) ∧ Chg none_ w w' := by
  go_enter Tryd.func62, Tryd.ntmps62
  go_wp2
  go_ret
  exact ⟨rfl, (Chg.refl none_ w).alloc _⟩
theorem qcl26 : Calls Tryd.prog 89 #[.agg #[.int .u32 id, .int .i64 W, .int .i64 st, .int .i64 fr, .bool mine, .bool acc, (.slice A1 n1 k1), .bool cl, .bool lo, .int .i64 c, (.slice A2 n2 k2), .int .i64 l, .int .i64 o, .bool li, .bool td, .bool true, .bool ct]] w fun e w' => e = .returned (.tuple #[.agg #[.int .u32 id, .int .i64 W, .int .i64 st, .int .i64 fr, .bool mine, .bool acc, (.slice A1 n1 k1), .bool cl, .bool lo, .int .i64 c, (.slice A2 n2 k2), .int .i64 l, .int .i64 o, .bool li, .bool td, .bool true, .bool ct], .int .i64 26]) ∧ Chg none_ w w' := by
  go_enter Tryd.func89, Tryd.ntmps89
  go_wp2_with (refine ldS rfl _ rfl rfl ((Is.new w _ _).alloc _) rfl ?_)
  refine (qgone26 _ _ _ _ _ _ _ _ _ _ _ _ _ _ _ _ _ _ _ _ _ ).mono ?_
  rintro e w1 ⟨rfl, kk⟩
  have k0 : Chg none_ w w1 := (((Chg.refl none_ w).alloc _).alloc _).trans kk
  have b1 : Is w1 w.heap.size 51 #[.int .u32 id, .int .i64 W, .int .i64 st, .int .i64 fr, .bool mine, .bool acc, (.slice A1 n1 k1), .bool cl, .bool lo, .int .i64 c, (.slice A2 n2 k2), .int .i64 l, .int .i64 o, .bool li, .bool td, .bool true, .bool ct] := ((Is.new w 51 #[.int .u32 id, .int .i64 W, .int .i64 st, .int .i64 fr, .bool mine, .bool acc, (.slice A1 n1 k1), .bool cl, .bool lo, .int .i64 c, (.slice A2 n2 k2), .int .i64 l, .int .i64 o, .bool li, .bool td, .bool true, .bool ct]).alloc _).chg kk (fun f => f)
  have r1 : Is w1 (w.heap.size + 1) 51 #[.int .u32 0, .int .i64 0, .int .i64 0, .int .i64 0, .bool false, .bool false, .slice none 0 0, .bool false, .bool false, .int .i64 0, .slice none 0 0, .int .i64 0, .int .i64 0, .bool false, .bool false, .bool false, .bool false] := (isn2 w _ 51 #[.int .u32 0, .int .i64 0, .int .i64 0, .int .i64 0, .bool false, .bool false, .slice none 0 0, .bool false, .bool false, .int .i64 0, .slice none 0 0, .int .i64 0, .int .i64 0, .bool false, .bool false, .bool false, .bool false]).chg kk (fun f => f)
  have K0 := Lib.hid k0
  have B1 := Lib.hid b1
  have R1 := Lib.hid r1
  clear b1 r1 kk k0
  go_wp2_with (first
    | (refine ldS rfl _ rfl rfl B1.out rfl ?_)
    | (refine stS rfl _ _ rfl rfl rfl R1.out rfl rfl rfl ?_; intro w2 i2 c2; have I2 := Lib.hid i2; have C2 := Lib.hid c2; clear i2 c2))
  refine bodyPost_ret (results_c2 rfl _ rfl I2.out Tryd.underlying51 rfl szS rfl) rfl ?_
  exact ⟨rfl, chg2 K0.out C2.out (by omega)⟩
theorem qcl27 : Calls Tryd.prog 89 #[.agg #[.int .u32 id, .int .i64 W, .int .i64 st, .int .i64 fr, .bool mine, .bool acc, (.slice A1 n1 k1), .bool cl, .bool lo, .int .i64 c, (.slice A2 n2 k2), .int .i64 l, .int .i64 o, .bool li, .bool td, .bool false, .bool true]] w fun e w' => e = .returned (.tuple #[.agg #[.int .u32 id, .int .i64 W, .int .i64 st, .int .i64 fr, .bool mine, .bool acc, (.slice A1 n1 k1), .bool cl, .bool lo, .int .i64 c, (.slice A2 n2 k2), .int .i64 l, .int .i64 o, .bool li, .bool td, .bool false, .bool true], .int .i64 27]) ∧ Chg none_ w w' := by
  go_enter Tryd.func89, Tryd.ntmps89
  go_wp2_with (refine ldS rfl _ rfl rfl ((Is.new w _ _).alloc _) rfl ?_)
  refine (qgone27 _ _ _ _ _ _ _ _ _ _ _ _ _ _ _ _ _ _ _ _ ).mono ?_
  rintro e w1 ⟨rfl, kk⟩
  have k0 : Chg none_ w w1 := (((Chg.refl none_ w).alloc _).alloc _).trans kk
  have b1 : Is w1 w.heap.size 51 #[.int .u32 id, .int .i64 W, .int .i64 st, .int .i64 fr, .bool mine, .bool acc, (.slice A1 n1 k1), .bool cl, .bool lo, .int .i64 c, (.slice A2 n2 k2), .int .i64 l, .int .i64 o, .bool li, .bool td, .bool false, .bool true] := ((Is.new w 51 #[.int .u32 id, .int .i64 W, .int .i64 st, .int .i64 fr, .bool mine, .bool acc, (.slice A1 n1 k1), .bool cl, .bool lo, .int .i64 c, (.slice A2 n2 k2), .int .i64 l, .int .i64 o, .bool li, .bool td, .bool false, .bool true]).alloc _).chg kk (fun f => f)
  have r1 : Is w1 (w.heap.size + 1) 51 #[.int .u32 0, .int .i64 0, .int .i64 0, .int .i64 0, .bool false, .bool false, .slice none 0 0, .bool false, .bool false, .int .i64 0, .slice none 0 0, .int .i64 0, .int .i64 0, .bool false, .bool false, .bool false, .bool false] := (isn2 w _ 51 #[.int .u32 0, .int .i64 0, .int .i64 0, .int .i64 0, .bool false, .bool false, .slice none 0 0, .bool false, .bool false, .int .i64 0, .slice none 0 0, .int .i64 0, .int .i64 0, .bool false, .bool false, .bool false, .bool false]).chg kk (fun f => f)
  have K0 := Lib.hid k0
  have B1 := Lib.hid b1
  have R1 := Lib.hid r1
  clear b1 r1 kk k0
  go_wp2_with (first
    | (refine ldS rfl _ rfl rfl B1.out rfl ?_)
    | (refine stS rfl _ _ rfl rfl rfl R1.out rfl rfl rfl ?_; intro w2 i2 c2; have I2 := Lib.hid i2; have C2 := Lib.hid c2; clear i2 c2))
  refine bodyPost_ret (results_c2 rfl _ rfl I2.out Tryd.underlying51 rfl szS rfl) rfl ?_
  exact ⟨rfl, chg2 K0.out C2.out (by omega)⟩
theorem qcl24 : Calls Tryd.prog 89 #[.agg #[.int .u32 id, .int .i64 W, .int .i64 st, .int .i64 fr, .bool mine, .bool acc, (.slice A1 n1 k1), .bool true, .bool lo, .int .i64 c, (.slice A2 n2 k2), .int .i64 l, .int .i64 o, .bool li, .bool td, .bool false, .bool false]] w fun e w' => e = .returned (.tuple #[.agg #[.int .u32 id, .int .i64 W, .int .i64 st, .int .i64 fr, .bool mine, .bool acc, (.slice A1 n1 k1), .bool true, .bool lo, .int .i64 c, (.slice A2 n2 k2), .int .i64 l, .int .i64 o, .bool li, .bool td, .bool false, .bool false], .int .i64 24]) ∧ Chg none_ w w' := by
  go_enter Tryd.func89, Tryd.ntmps89
  go_wp2_with (refine ldS rfl _ rfl rfl ((Is.new w _ _).alloc _) rfl ?_)
  refine (qgone0 _ _ _ _ _ _ _ _ _ _ _ _ _ _ _ _ _ _ _ _ ).mono ?_
  rintro e w1 ⟨rfl, kk⟩
  have k0 : Chg none_ w w1 := (((Chg.refl none_ w).alloc _).alloc _).trans kk
  have b1 : Is w1 w.heap.size 51 #[.int .u32 id, .int .i64 W, .int .i64 st, .int .i64 fr, .bool mine, .bool acc, (.slice A1 n1 k1), .bool true, .bool lo, .int .i64 c, (.slice A2 n2 k2), .int .i64 l, .int .i64 o, .bool li, .bool td, .bool false, .bool false] := ((Is.new w 51 #[.int .u32 id, .int .i64 W, .int .i64 st, .int .i64 fr, .bool mine, .bool acc, (.slice A1 n1 k1), .bool true, .bool lo, .int .i64 c, (.slice A2 n2 k2), .int .i64 l, .int .i64 o, .bool li, .bool td, .bool false, .bool false]).alloc _).chg kk (fun f => f)
  have r1 : Is w1 (w.heap.size + 1) 51 #[.int .u32 0, .int .i64 0, .int .i64 0, .int .i64 0, .bool false, .bool false, .slice none 0 0, .bool false, .bool false, .int .i64 0, .slice none 0 0, .int .i64 0, .int .i64 0, .bool false, .bool false, .bool false, .bool false] := (isn2 w _ 51 #[.int .u32 0, .int .i64 0, .int .i64 0, .int .i64 0, .bool false, .bool false, .slice none 0 0, .bool false, .bool false, .int .i64 0, .slice none 0 0, .int .i64 0, .int .i64 0, .bool false, .bool false, .bool false, .bool false]).chg kk (fun f => f)
  have p7 : w1.cell? ⟨w.heap.size, 7, none⟩ = some (.bool true) := b1.at_ 7 _ rfl
  have K0 := Lib.hid k0
  have B1 := Lib.hid b1
  have R1 := Lib.hid r1
  clear b1 r1 kk k0
  go_wp2_with (first
    | (refine ldS rfl _ rfl rfl B1.out rfl ?_)
    | (refine stS rfl _ _ rfl rfl rfl R1.out rfl rfl rfl ?_; intro w2 i2 c2; have I2 := Lib.hid i2; have C2 := Lib.hid c2; clear i2 c2))
  refine bodyPost_ret (results_c2 rfl _ rfl I2.out Tryd.underlying51 rfl szS rfl) rfl ?_
  exact ⟨rfl, chg2 K0.out C2.out (by omega)⟩
theorem qcl0 : Calls Tryd.prog 89 #[.agg #[.int .u32 id, .int .i64 W, .int .i64 st, .int .i64 fr, .bool mine, .bool acc, (.slice A1 n1 k1), .bool false, .bool lo, .int .i64 c, (.slice A2 n2 k2), .int .i64 l, .int .i64 o, .bool li, .bool td, .bool false, .bool false]] w fun e w' => e = .returned (.tuple #[.agg #[.int .u32 id, .int .i64 W, .int .i64 st, .int .i64 fr, .bool mine, .bool acc, (.slice A1 n1 k1), .bool true, .bool lo, .int .i64 c, (.slice A2 n2 k2), .int .i64 l, .int .i64 o, .bool li, .bool td, .bool false, .bool false], .int .i64 0]) ∧ Chg none_ w w' := by
  go_enter Tryd.func89, Tryd.ntmps89
  go_wp2_with (refine ldS rfl _ rfl rfl ((Is.new w _ _).alloc _) rfl ?_)
  refine (qgone0 _ _ _ _ _ _ _ _ _ _ _ _ _ _ _ _ _ _ _ _ ).mono ?_
  rintro e w1 ⟨rfl, kk⟩
  have k0 : Chg none_ w w1 := (((Chg.refl none_ w).alloc _).alloc _).trans kk
  have b1 : Is w1 w.heap.size 51 #[.int .u32 id, .int .i64 W, .int .i64 st, .int .i64 fr, .bool mine, .bool acc, (.slice A1 n1 k1), .bool false, .bool lo, .int .i64 c, (.slice A2 n2 k2), .int .i64 l, .int .i64 o, .bool li, .bool td, .bool false, .bool false] := ((Is.new w 51 #[.int .u32 id, .int .i64 W, .int .i64 st, .int .i64 fr, .bool mine, .bool acc, (.slice A1 n1 k1), .bool false, .bool lo, .int .i64 c, (.slice A2 n2 k2), .int .i64 l, .int .i64 o, .bool li, .bool td, .bool false, .bool false]).alloc _).chg kk (fun f => f)
  have r1 : Is w1 (w.heap.size + 1) 51 #[.int .u32 0, .int .i64 0, .int .i64 0, .int .i64 0, .bool false, .bool false, .slice none 0 0, .bool false, .bool false, .int .i64 0, .slice none 0 0, .int .i64 0, .int .i64 0, .bool false, .bool false, .bool false, .bool false] := (isn2 w _ 51 #[.int .u32 0, .int .i64 0, .int .i64 0, .int .i64 0, .bool false, .bool false, .slice none 0 0, .bool false, .bool false, .int .i64 0, .slice none 0 0, .int .i64 0, .int .i64 0, .bool false, .bool false, .bool false, .bool false]).chg kk (fun f => f)
  have p7 : w1.cell? ⟨w.heap.size, 7, none⟩ = some (.bool false) := b1.at_ 7 _ rfl
  have K0 := Lib.hid k0
  have B1 := Lib.hid b1
  have R1 := Lib.hid r1
  clear b1 r1 kk k0
  go_wp2_with (first
    | (refine stF rfl _ sz8 _ _ rfl 7 rfl rfl B1.out rfl (Nat.le_of_ble_eq_true rfl) rfl #[.int .u32 id, .int .i64 W, .int .i64 st, .int .i64 fr, .bool mine, .bool acc, (.slice A1 n1 k1), .bool true, .bool lo, .int .i64 c, (.slice A2 n2 k2), .int .i64 l, .int .i64 o, .bool li, .bool td, .bool false, .bool false] rfl ?_; intro w2 i2 c2; have I2 := Lib.hid i2; have C2 := Lib.hid c2; clear i2 c2)
    | (refine ldS rfl _ rfl rfl I2.out rfl ?_)
    | (refine stS rfl _ _ rfl rfl rfl (R1.out.chg C2.out (Nat.succ_ne_self _)) rfl rfl rfl ?_; intro w3 i3 c3; have I3 := Lib.hid i3; have C3 := Lib.hid c3; clear i3 c3))
  refine bodyPost_ret (results_c2 rfl _ rfl I3.out Tryd.underlying51 rfl szS rfl) rfl ?_
  exact ⟨rfl, chg2 (chg2 K0.out C2.out (by omega)) C3.out (by omega)⟩
theorem qend : Calls Tryd.prog 116 #[.agg #[.int .u32 id, .int .i64 W, .int .i64 st, .int .i64 fr, .bool mine, .bool acc, (.slice A1 n1 k1), .bool cl, .bool lo, .int .i64 c, (.slice A2 n2 k2), .int .i64 l, .int .i64 o, .bool li, .bool td, .bool rs, .bool ct]] w fun e w' => e = .returned (.agg #[.int .u32 id, .int .i64 W, .int .i64 st, .int .i64 fr, .bool mine, .bool acc, (.slice A1 n1 k1), .bool cl, .bool lo, .int .i64 c, (.slice A2 n2 k2), .int .i64 0, .int .i64 0, .bool true, .bool td, .bool rs, .bool ct]) ∧ Chg none_ w w' := by
  obtain ⟨w1, hw1⟩ : ∃ y, (w.alloc (.cells #[.int .u32 id, .int .i64 W, .int .i64 st, .int .i64 fr, .bool mine, .bool acc, (.slice A1 n1 k1), .bool cl, .bool lo, .int .i64 c, (.slice A2 n2 k2), .int .i64 l, .int .i64 o, .bool li, .bool td, .bool rs, .bool ct] 51)).alloc (.cells #[.int .u32 0, .int .i64 0, .int .i64 0, .int .i64 0, .bool false, .bool false, .slice none 0 0, .bool false, .bool false, .int .i64 0, .slice none 0 0, .int .i64 0, .int .i64 0, .bool false, .bool false, .bool false, .bool false] 51) = y := ⟨_, rfl⟩
  have k0 : Chg none_ w w1 := by rw [← hw1]; exact ((Chg.refl none_ w).alloc _).alloc _
  have b1 : Is w1 w.heap.size 51 #[.int .u32 id, .int .i64 W, .int .i64 st, .int .i64 fr, .bool mine, .bool acc, (.slice A1 n1 k1), .bool cl, .bool lo, .int .i64 c, (.slice A2 n2 k2), .int .i64 l, .int .i64 o, .bool li, .bool td, .bool rs, .bool ct] := by rw [← hw1]; exact (Is.new w _ _).alloc _
  have r1 : Is w1 (w.heap.size + 1) 51 #[.int .u32 0, .int .i64 0, .int .i64 0, .int .i64 0, .bool false, .bool false, .slice none 0 0, .bool false, .bool false, .int .i64 0, .slice none 0 0, .int .i64 0, .int .i64 0, .bool false, .bool false, .bool false, .bool false] := by rw [← hw1]; exact isn2 w _ _ _
  have K0 := Lib.hid k0
  have B1 := Lib.hid b1
  have R1 := Lib.hid r1
  clear b1 r1 k0
  go_enter Tryd.func116, Tryd.ntmps116
  go_wp2_with (first
    | (refine stF rfl _ sz8 _ _ rfl 13 rfl rfl B1.out rfl (Nat.le_of_ble_eq_true rfl) rfl #[.int .u32 id, .int .i64 W, .int .i64 st, .int .i64 fr, .bool mine, .bool acc, (.slice A1 n1 k1), .bool cl, .bool lo, .int .i64 c, (.slice A2 n2 k2), .int .i64 l, .int .i64 o, .bool true, .bool td, .bool rs, .bool ct] rfl ?_; intro w2 i2 c2; have B2 := Lib.hid i2; have C2 := Lib.hid c2; clear i2 c2)
    | (refine stF rfl _ szI _ _ rfl 11 rfl rfl B2.out rfl (Nat.le_of_ble_eq_true rfl) rfl #[.int .u32 id, .int .i64 W, .int .i64 st, .int .i64 fr, .bool mine, .bool acc, (.slice A1 n1 k1), .bool cl, .bool lo, .int .i64 c, (.slice A2 n2 k2), .int .i64 0, .int .i64 o, .bool true, .bool td, .bool rs, .bool ct] rfl ?_; intro w3 i3 c3; have B3 := Lib.hid i3; have C3 := Lib.hid c3; clear i3 c3)
    | (refine stF rfl _ szI _ _ rfl 12 rfl rfl B3.out rfl (Nat.le_of_ble_eq_true rfl) rfl #[.int .u32 id, .int .i64 W, .int .i64 st, .int .i64 fr, .bool mine, .bool acc, (.slice A1 n1 k1), .bool cl, .bool lo, .int .i64 c, (.slice A2 n2 k2), .int .i64 0, .int .i64 0, .bool true, .bool td, .bool rs, .bool ct] rfl ?_; intro w4 i4 c4; have B4 := Lib.hid i4; have C4 := Lib.hid c4; clear i4 c4)
    | (refine ldS rfl _ rfl rfl B4.out rfl ?_)
    | (refine stS rfl _ _ rfl rfl rfl (((R1.out.chg C2.out (Nat.succ_ne_self _)).chg C3.out (Nat.succ_ne_self _)).chg C4.out (Nat.succ_ne_self _)) rfl rfl rfl ?_; intro wz iz cz; have IZ := Lib.hid iz; have CZ := Lib.hid cz; clear iz cz))
  refine bodyPost_ret (results_c1 rfl _ rfl IZ.out Tryd.underlying51 rfl szS) rfl ?_
  exact ⟨rfl, chg2 (chg2 (chg2 (chg2 K0.out C2.out (by omega)) C3.out (by omega)) C4.out (by omega)) CZ.out (by omega)⟩
theorem qdrop : Calls Tryd.prog 96 #[.agg #[.int .u32 id, .int .i64 W, .int .i64 st, .int .i64 fr, .bool mine, .bool acc, (.slice A1 n1 k1), .bool cl, .bool lo, .int .i64 c, (.slice A2 n2 k2), .int .i64 l, .int .i64 o, .bool li, .bool td, .bool rs, .bool ct]] w fun e w' => e = .returned (.agg #[.int .u32 id, .int .i64 W, .int .i64 st, .int .i64 fr, .bool mine, .bool acc, (.slice none 0 0), .bool cl, .bool lo, .int .i64 c, (.slice none 0 0), .int .i64 l, .int .i64 o, .bool li, .bool td, .bool true, .bool ct]) ∧ Chg none_ w w' := by
  obtain ⟨w1, hw1⟩ : ∃ y, (w.alloc (.cells #[.int .u32 id, .int .i64 W, .int .i64 st, .int .i64 fr, .bool mine, .bool acc, (.slice A1 n1 k1), .bool cl, .bool lo, .int .i64 c, (.slice A2 n2 k2), .int .i64 l, .int .i64 o, .bool li, .bool td, .bool rs, .bool ct] 51)).alloc (.cells #[.int .u32 0, .int .i64 0, .int .i64 0, .int .i64 0, .bool false, .bool false, .slice none 0 0, .bool false, .bool false, .int .i64 0, .slice none 0 0, .int .i64 0, .int .i64 0, .bool false, .bool false, .bool false, .bool false] 51) = y := ⟨_, rfl⟩
  have k0 : Chg none_ w w1 := by rw [← hw1]; exact ((Chg.refl none_ w).alloc _).alloc _
  have b1 : Is w1 w.heap.size 51 #[.int .u32 id, .int .i64 W, .int .i64 st, .int .i64 fr, .bool mine, .bool acc, (.slice A1 n1 k1), .bool cl, .bool lo, .int .i64 c, (.slice A2 n2 k2), .int .i64 l, .int .i64 o, .bool li, .bool td, .bool rs, .bool ct] := by rw [← hw1]; exact (Is.new w _ _).alloc _
  have r1 : Is w1 (w.heap.size + 1) 51 #[.int .u32 0, .int .i64 0, .int .i64 0, .int .i64 0, .bool false, .bool false, .slice none 0 0, .bool false, .bool false, .int .i64 0, .slice none 0 0, .int .i64 0, .int .i64 0, .bool false, .bool false, .bool false, .bool false] := by rw [← hw1]; exact isn2 w _ _ _
  have K0 := Lib.hid k0
  have B1 := Lib.hid b1
  have R1 := Lib.hid r1
  clear b1 r1 k0
  go_enter Tryd.func96, Tryd.ntmps96
  go_wp2_with (first
    | (refine stF rfl _ sz8 _ _ rfl 15 rfl rfl B1.out rfl (Nat.le_of_ble_eq_true rfl) rfl #[.int .u32 id, .int .i64 W, .int .i64 st, .int .i64 fr, .bool mine, .bool acc, (.slice A1 n1 k1), .bool cl, .bool lo, .int .i64 c, (.slice A2 n2 k2), .int .i64 l, .int .i64 o, .bool li, .bool td, .bool true, .bool ct] rfl ?_; intro w2 i2 c2; have B2 := Lib.hid i2; have C2 := Lib.hid c2; clear i2 c2)
    | (refine stF rfl _ szB _ _ rfl 6 rfl rfl B2.out rfl (Nat.le_of_ble_eq_true rfl) rfl #[.int .u32 id, .int .i64 W, .int .i64 st, .int .i64 fr, .bool mine, .bool acc, (.slice none 0 0), .bool cl, .bool lo, .int .i64 c, (.slice A2 n2 k2), .int .i64 l, .int .i64 o, .bool li, .bool td, .bool true, .bool ct] rfl ?_; intro w3 i3 c3; have B3 := Lib.hid i3; have C3 := Lib.hid c3; clear i3 c3)
    | (refine stF rfl _ szB _ _ rfl 10 rfl rfl B3.out rfl (Nat.le_of_ble_eq_true rfl) rfl #[.int .u32 id, .int .i64 W, .int .i64 st, .int .i64 fr, .bool mine, .bool acc, (.slice none 0 0), .bool cl, .bool lo, .int .i64 c, (.slice none 0 0), .int .i64 l, .int .i64 o, .bool li, .bool td, .bool true, .bool ct] rfl ?_; intro w4 i4 c4; have B4 := Lib.hid i4; have C4 := Lib.hid c4; clear i4 c4)
    | (refine ldS rfl _ rfl rfl B4.out rfl ?_)
    | (refine stS rfl _ _ rfl rfl rfl (((R1.out.chg C2.out (Nat.succ_ne_self _)).chg C3.out (Nat.succ_ne_self _)).chg C4.out (Nat.succ_ne_self _)) rfl rfl rfl ?_; intro wz iz cz; have IZ := Lib.hid iz; have CZ := Lib.hid cz; clear iz cz))
  refine bodyPost_ret (results_c1 rfl _ rfl IZ.out Tryd.underlying51 rfl szS) rfl ?_
  exact ⟨rfl, chg2 (chg2 (chg2 (chg2 K0.out C2.out (by omega)) C3.out (by omega)) C4.out (by omega)) CZ.out (by omega)⟩
theorem qsev : Calls Tryd.prog 97 #[.agg #[.int .u32 id, .int .i64 W, .int .i64 st, .int .i64 fr, .bool mine, .bool acc, (.slice A1 n1 k1), .bool cl, .bool lo, .int .i64 c, (.slice A2 n2 k2), .int .i64 l, .int .i64 o, .bool li, .bool td, .bool false, .bool ct]] w fun e w' => e = .returned (.agg #[.int .u32 id, .int .i64 W, .int .i64 st, .int .i64 fr, .bool mine, .bool acc, (.slice none 0 0), .bool cl, .bool lo, .int .i64 c, (.slice A2 n2 k2), .int .i64 l, .int .i64 o, .bool li, .bool td, .bool false, .bool true]) ∧ Chg none_ w w' := by
  obtain ⟨w1, hw1⟩ : ∃ y, (w.alloc (.cells #[.int .u32 id, .int .i64 W, .int .i64 st, .int .i64 fr, .bool mine, .bool acc, (.slice A1 n1 k1), .bool cl, .bool lo, .int .i64 c, (.slice A2 n2 k2), .int .i64 l, .int .i64 o, .bool li, .bool td, .bool false, .bool ct] 51)).alloc (.cells #[.int .u32 0, .int .i64 0, .int .i64 0, .int .i64 0, .bool false, .bool false, .slice none 0 0, .bool false, .bool false, .int .i64 0, .slice none 0 0, .int .i64 0, .int .i64 0, .bool false, .bool false, .bool false, .bool false] 51) = y := ⟨_, rfl⟩
  have k0 : Chg none_ w w1 := by rw [← hw1]; exact ((Chg.refl none_ w).alloc _).alloc _
  have b1 : Is w1 w.heap.size 51 #[.int .u32 id, .int .i64 W, .int .i64 st, .int .i64 fr, .bool mine, .bool acc, (.slice A1 n1 k1), .bool cl, .bool lo, .int .i64 c, (.slice A2 n2 k2), .int .i64 l, .int .i64 o, .bool li, .bool td, .bool false, .bool ct] := by rw [← hw1]; exact (Is.new w _ _).alloc _
  have r1 : Is w1 (w.heap.size + 1) 51 #[.int .u32 0, .int .i64 0, .int .i64 0, .int .i64 0, .bool false, .bool false, .slice none 0 0, .bool false, .bool false, .int .i64 0, .slice none 0 0, .int .i64 0, .int .i64 0, .bool false, .bool false, .bool false, .bool false] := by rw [← hw1]; exact isn2 w _ _ _
  have p15 : w1.cell? ⟨w.heap.size, 15, none⟩ = some (.bool false) := b1.at_ 15 _ rfl
  have K0 := Lib.hid k0
  have B1 := Lib.hid b1
  have R1 := Lib.hid r1
  clear b1 r1 k0
  go_enter Tryd.func97, Tryd.ntmps97
  go_wp2_with (first
    | (refine stF rfl _ sz8 _ _ rfl 16 rfl rfl B1.out rfl (Nat.le_of_ble_eq_true rfl) rfl #[.int .u32 id, .int .i64 W, .int .i64 st, .int .i64 fr, .bool mine, .bool acc, (.slice A1 n1 k1), .bool cl, .bool lo, .int .i64 c, (.slice A2 n2 k2), .int .i64 l, .int .i64 o, .bool li, .bool td, .bool false, .bool true] rfl ?_; intro w2 i2 c2; have B2 := Lib.hid i2; have C2 := Lib.hid c2; clear i2 c2)
    | (refine stF rfl _ szB _ _ rfl 6 rfl rfl B2.out rfl (Nat.le_of_ble_eq_true rfl) rfl #[.int .u32 id, .int .i64 W, .int .i64 st, .int .i64 fr, .bool mine, .bool acc, (.slice none 0 0), .bool cl, .bool lo, .int .i64 c, (.slice A2 n2 k2), .int .i64 l, .int .i64 o, .bool li, .bool td, .bool false, .bool true] rfl ?_; intro w3 i3 c3; have B3 := Lib.hid i3; have C3 := Lib.hid c3; clear i3 c3)
    | (refine ldS rfl _ rfl rfl B3.out rfl ?_)
    | (refine stS rfl _ _ rfl rfl rfl ((R1.out.chg C2.out (Nat.succ_ne_self _)).chg C3.out (Nat.succ_ne_self _)) rfl rfl rfl ?_; intro wz iz cz; have IZ := Lib.hid iz; have CZ := Lib.hid cz; clear iz cz))
  refine bodyPost_ret (results_c1 rfl _ rfl IZ.out Tryd.underlying51 rfl szS) rfl ?_
  exact ⟨rfl, chg2 (chg2 (chg2 K0.out C2.out (by omega)) C3.out (by omega)) CZ.out (by omega)⟩
theorem qsevR : Calls Tryd.prog 97 #[.agg #[.int .u32 id, .int .i64 W, .int .i64 st, .int .i64 fr, .bool mine, .bool acc, (.slice A1 n1 k1), .bool cl, .bool lo, .int .i64 c, (.slice A2 n2 k2), .int .i64 l, .int .i64 o, .bool li, .bool td, .bool true, .bool ct]] w fun e w' => e = .returned (.agg #[.int .u32 id, .int .i64 W, .int .i64 st, .int .i64 fr, .bool mine, .bool acc, (.slice A1 n1 k1), .bool cl, .bool lo, .int .i64 c, (.slice A2 n2 k2), .int .i64 l, .int .i64 o, .bool li, .bool td, .bool true, .bool ct]) ∧ Chg none_ w w' := by
  obtain ⟨w1, hw1⟩ : ∃ y, (w.alloc (.cells #[.int .u32 id, .int .i64 W, .int .i64 st, .int .i64 fr, .bool mine, .bool acc, (.slice A1 n1 k1), .bool cl, .bool lo, .int .i64 c, (.slice A2 n2 k2), .int .i64 l, .int .i64 o, .bool li, .bool td, .bool true, .bool ct] 51)).alloc (.cells #[.int .u32 0, .int .i64 0, .int .i64 0, .int .i64 0, .bool false, .bool false, .slice none 0 0, .bool false, .bool false, .int .i64 0, .slice none 0 0, .int .i64 0, .int .i64 0, .bool false, .bool false, .bool false, .bool false] 51) = y := ⟨_, rfl⟩
  have k0 : Chg none_ w w1 := by rw [← hw1]; exact ((Chg.refl none_ w).alloc _).alloc _
  have b1 : Is w1 w.heap.size 51 #[.int .u32 id, .int .i64 W, .int .i64 st, .int .i64 fr, .bool mine, .bool acc, (.slice A1 n1 k1), .bool cl, .bool lo, .int .i64 c, (.slice A2 n2 k2), .int .i64 l, .int .i64 o, .bool li, .bool td, .bool true, .bool ct] := by rw [← hw1]; exact (Is.new w _ _).alloc _
  have r1 : Is w1 (w.heap.size + 1) 51 #[.int .u32 0, .int .i64 0, .int .i64 0, .int .i64 0, .bool false, .bool false, .slice none 0 0, .bool false, .bool false, .int .i64 0, .slice none 0 0, .int .i64 0, .int .i64 0, .bool false, .bool false, .bool false, .bool false] := by rw [← hw1]; exact isn2 w _ _ _
  have p15 : w1.cell? ⟨w.heap.size, 15, none⟩ = some (.bool true) := b1.at_ 15 _ rfl
  have K0 := Lib.hid k0
  have B1 := Lib.hid b1
  have R1 := Lib.hid r1
  clear b1 r1 k0
  go_enter Tryd.func97, Tryd.ntmps97
  go_wp2_with (first
    | (refine ldS rfl _ rfl rfl B1.out rfl ?_)
    | (refine stS rfl _ _ rfl rfl rfl R1.out rfl rfl rfl ?_; intro wz iz cz; have IZ := Lib.hid iz; have CZ := Lib.hid cz; clear iz cz))
  refine bodyPost_ret (results_c1 rfl _ rfl IZ.out Tryd.underlying51 rfl szS) rfl ?_
  exact ⟨rfl, chg2 K0.out CZ.out (by omega)⟩
theorem qar_rs (A3 : Option Addr) (n3 k3 : Nat) (fin : Bool) : Calls Tryd.prog 94 #[.agg #[.int .u32 id, .int .i64 W, .int .i64 st, .int .i64 fr, .bool mine, .bool acc, (.slice A1 n1 k1), .bool cl, .bool lo, .int .i64 c, (.slice A2 n2 k2), .int .i64 l, .int .i64 o, .bool li, .bool td, .bool true, .bool ct], .slice A3 n3 k3, .bool fin] w fun e w' => e = .returned (.tuple #[.agg #[.int .u32 id, .int .i64 W, .int .i64 st, .int .i64 fr, .bool mine, .bool acc, (.slice A1 n1 k1), .bool cl, .bool lo, .int .i64 c, (.slice A2 n2 k2), .int .i64 l, .int .i64 o, .bool li, .bool td, .bool true, .bool ct], .int .i64 0]) ∧ Chg none_ w w' := by
  obtain ⟨w1, hw1⟩ : ∃ y, (w.alloc (.cells #[.int .u32 id, .int .i64 W, .int .i64 st, .int .i64 fr, .bool mine, .bool acc, (.slice A1 n1 k1), .bool cl, .bool lo, .int .i64 c, (.slice A2 n2 k2), .int .i64 l, .int .i64 o, .bool li, .bool td, .bool true, .bool ct] 51)).alloc (.cells #[.int .u32 0, .int .i64 0, .int .i64 0, .int .i64 0, .bool false, .bool false, .slice none 0 0, .bool false, .bool false, .int .i64 0, .slice none 0 0, .int .i64 0, .int .i64 0, .bool false, .bool false, .bool false, .bool false] 51) = y := ⟨_, rfl⟩
  have k0 : Chg none_ w w1 := by rw [← hw1]; exact ((Chg.refl none_ w).alloc _).alloc _
  have b1 : Is w1 w.heap.size 51 #[.int .u32 id, .int .i64 W, .int .i64 st, .int .i64 fr, .bool mine, .bool acc, (.slice A1 n1 k1), .bool cl, .bool lo, .int .i64 c, (.slice A2 n2 k2), .int .i64 l, .int .i64 o, .bool li, .bool td, .bool true, .bool ct] := by rw [← hw1]; exact (Is.new w _ _).alloc _
  have r1 : Is w1 (w.heap.size + 1) 51 #[.int .u32 0, .int .i64 0, .int .i64 0, .int .i64 0, .bool false, .bool false, .slice none 0 0, .bool false, .bool false, .int .i64 0, .slice none 0 0, .int .i64 0, .int .i64 0, .bool false, .bool false, .bool false, .bool false] := by rw [← hw1]; exact isn2 w _ _ _
  have p15 : w1.cell? ⟨w.heap.size, 15, none⟩ = some (.bool true) := b1.at_ 15 _ rfl
  have K1 := Lib.hid k0
  have B1 := Lib.hid b1
  have R1 := Lib.hid r1
  clear b1 r1 k0
  go_enter Tryd.func94, Tryd.ntmps94
  go_wp2_with (first
    | (refine ldS rfl _ rfl rfl B1.out rfl ?_)
    | (refine stS rfl _ _ rfl rfl rfl R1.out rfl rfl rfl ?_; intro w2 i2 c2; have R2 := Lib.hid i2; have B2 := Lib.hid (B1.out.chg c2 (Nat.ne_of_lt (Nat.lt_succ_self _))); have K2 := Lib.hid (chg2 K1.out c2 (by omega)); clear i2 c2))
  refine bodyPost_ret (results_c2 rfl _ rfl R2.out Tryd.underlying51 rfl szS rfl) rfl ?_
  exact ⟨rfl, K2.out⟩
theorem qar_ct (A3 : Option Addr) (n3 k3 : Nat) (fin : Bool) : Calls Tryd.prog 94 #[.agg #[.int .u32 id, .int .i64 W, .int .i64 st, .int .i64 fr, .bool mine, .bool acc, (.slice A1 n1 k1), .bool cl, .bool lo, .int .i64 c, (.slice A2 n2 k2), .int .i64 l, .int .i64 o, .bool li, .bool td, .bool false, .bool true], .slice A3 n3 k3, .bool fin] w fun e w' => e = .returned (.tuple #[.agg #[.int .u32 id, .int .i64 W, .int .i64 st, .int .i64 fr, .bool mine, .bool acc, (.slice A1 n1 k1), .bool cl, .bool lo, .int .i64 c, (.slice A2 n2 k2), .int .i64 l, .int .i64 o, .bool li, .bool td, .bool false, .bool true], .int .i64 0]) ∧ Chg none_ w w' := by
  obtain ⟨w1, hw1⟩ : ∃ y, (w.alloc (.cells #[.int .u32 id, .int .i64 W, .int .i64 st, .int .i64 fr, .bool mine, .bool acc, (.slice A1 n1 k1), .bool cl, .bool lo, .int .i64 c, (.slice A2 n2 k2), .int .i64 l, .int .i64 o, .bool li, .bool td, .bool false, .bool true] 51)).alloc (.cells #[.int .u32 0, .int .i64 0, .int .i64 0, .int .i64 0, .bool false, .bool false, .slice none 0 0, .bool false, .bool false, .int .i64 0, .slice none 0 0, .int .i64 0, .int .i64 0, .bool false, .bool false, .bool false, .bool false] 51) = y := ⟨_, rfl⟩
  have k0 : Chg none_ w w1 := by rw [← hw1]; exact ((Chg.refl none_ w).alloc _).alloc _
  have b1 : Is w1 w.heap.size 51 #[.int .u32 id, .int .i64 W, .int .i64 st, .int .i64 fr, .bool mine, .bool acc, (.slice A1 n1 k1), .bool cl, .bool lo, .int .i64 c, (.slice A2 n2 k2), .int .i64 l, .int .i64 o, .bool li, .bool td, .bool false, .bool true] := by rw [← hw1]; exact (Is.new w _ _).alloc _
  have r1 : Is w1 (w.heap.size + 1) 51 #[.int .u32 0, .int .i64 0, .int .i64 0, .int .i64 0, .bool false, .bool false, .slice none 0 0, .bool false, .bool false, .int .i64 0, .slice none 0 0, .int .i64 0, .int .i64 0, .bool false, .bool false, .bool false, .bool false] := by rw [← hw1]; exact isn2 w _ _ _
  have p15 : w1.cell? ⟨w.heap.size, 15, none⟩ = some (.bool false) := b1.at_ 15 _ rfl
  have p16 : w1.cell? ⟨w.heap.size, 16, none⟩ = some (.bool true) := b1.at_ 16 _ rfl
  have K1 := Lib.hid k0
  have B1 := Lib.hid b1
  have R1 := Lib.hid r1
  clear b1 r1 k0
  go_enter Tryd.func94, Tryd.ntmps94
  go_wp2_with (first
    | (refine ldS rfl _ rfl rfl B1.out rfl ?_)
    | (refine stS rfl _ _ rfl rfl rfl R1.out rfl rfl rfl ?_; intro w2 i2 c2; have R2 := Lib.hid i2; have B2 := Lib.hid (B1.out.chg c2 (Nat.ne_of_lt (Nat.lt_succ_self _))); have K2 := Lib.hid (chg2 K1.out c2 (by omega)); clear i2 c2))
  refine bodyPost_ret (results_c2 rfl _ rfl R2.out Tryd.underlying51 rfl szS rfl) rfl ?_
  exact ⟨rfl, K2.out⟩
theorem qar_li (A3 : Option Addr) (n3 k3 : Nat) (fin : Bool) : Calls Tryd.prog 94 #[.agg #[.int .u32 id, .int .i64 W, .int .i64 st, .int .i64 fr, .bool mine, .bool acc, (.slice A1 n1 k1), .bool cl, .bool lo, .int .i64 c, (.slice A2 n2 k2), .int .i64 l, .int .i64 o, .bool true, .bool td, .bool false, .bool false], .slice A3 n3 k3, .bool fin] w fun e w' => e = .returned (.tuple #[.agg #[.int .u32 id, .int .i64 W, .int .i64 st, .int .i64 fr, .bool mine, .bool acc, (.slice A1 n1 k1), .bool cl, .bool lo, .int .i64 c, (.slice A2 n2 k2), .int .i64 l, .int .i64 o, .bool true, .bool td, .bool false, .bool false], .int .i64 0]) ∧ Chg none_ w w' := by
  obtain ⟨w1, hw1⟩ : ∃ y, (w.alloc (.cells #[.int .u32 id, .int .i64 W, .int .i64 st, .int .i64 fr, .bool mine, .bool acc, (.slice A1 n1 k1), .bool cl, .bool lo, .int .i64 c, (.slice A2 n2 k2), .int .i64 l, .int .i64 o, .bool true, .bool td, .bool false, .bool false] 51)).alloc (.cells #[.int .u32 0, .int .i64 0, .int .i64 0, .int .i64 0, .bool false, .bool false, .slice none 0 0, .bool false, .bool false, .int .i64 0, .slice none 0 0, .int .i64 0, .int .i64 0, .bool false, .bool false, .bool false, .bool false] 51) = y := ⟨_, rfl⟩
  have k0 : Chg none_ w w1 := by rw [← hw1]; exact ((Chg.refl none_ w).alloc _).alloc _
  have b1 : Is w1 w.heap.size 51 #[.int .u32 id, .int .i64 W, .int .i64 st, .int .i64 fr, .bool mine, .bool acc, (.slice A1 n1 k1), .bool cl, .bool lo, .int .i64 c, (.slice A2 n2 k2), .int .i64 l, .int .i64 o, .bool true, .bool td, .bool false, .bool false] := by rw [← hw1]; exact (Is.new w _ _).alloc _
  have r1 : Is w1 (w.heap.size + 1) 51 #[.int .u32 0, .int .i64 0, .int .i64 0, .int .i64 0, .bool false, .bool false, .slice none 0 0, .bool false, .bool false, .int .i64 0, .slice none 0 0, .int .i64 0, .int .i64 0, .bool false, .bool false, .bool false, .bool false] := by rw [← hw1]; exact isn2 w _ _ _
  have p15 : w1.cell? ⟨w.heap.size, 15, none⟩ = some (.bool false) := b1.at_ 15 _ rfl
  have p16 : w1.cell? ⟨w.heap.size, 16, none⟩ = some (.bool false) := b1.at_ 16 _ rfl
  have p13 : w1.cell? ⟨w.heap.size, 13, none⟩ = some (.bool true) := b1.at_ 13 _ rfl
  have K1 := Lib.hid k0
  have B1 := Lib.hid b1
  have R1 := Lib.hid r1
  clear b1 r1 k0
  go_enter Tryd.func94, Tryd.ntmps94
  go_wp2_with (first
    | (refine ldS rfl _ rfl rfl B1.out rfl ?_)
    | (refine stS rfl _ _ rfl rfl rfl R1.out rfl rfl rfl ?_; intro w2 i2 c2; have R2 := Lib.hid i2; have B2 := Lib.hid (B1.out.chg c2 (Nat.ne_of_lt (Nat.lt_succ_self _))); have K2 := Lib.hid (chg2 K1.out c2 (by omega)); clear i2 c2))
  refine bodyPost_ret (results_c2 rfl _ rfl R2.out Tryd.underlying51 rfl szS rfl) rfl ?_
  exact ⟨rfl, K2.out⟩
theorem qar_no (A3 : Option Addr) (n3 k3 : Nat) (fin : Bool) (hl : l < (n3 : Int)) : Calls Tryd.prog 94 #[.agg #[.int .u32 id, .int .i64 W, .int .i64 st, .int .i64 fr, .bool mine, .bool acc, (.slice A1 n1 k1), .bool cl, .bool lo, .int .i64 c, (.slice A2 n2 k2), .int .i64 l, .int .i64 o, .bool false, .bool td, .bool false, .bool false], .slice A3 n3 k3, .bool fin] w fun e w' => e = .returned (.tuple #[.agg #[.int .u32 id, .int .i64 W, .int .i64 st, .int .i64 fr, .bool mine, .bool acc, (.slice A1 n1 k1), .bool cl, .bool lo, .int .i64 c, (.slice A2 n2 k2), .int .i64 l, .int .i64 o, .bool false, .bool td, .bool false, .bool false], .int .i64 16]) ∧ Chg none_ w w' := by
  obtain ⟨w1, hw1⟩ : ∃ y, (w.alloc (.cells #[.int .u32 id, .int .i64 W, .int .i64 st, .int .i64 fr, .bool mine, .bool acc, (.slice A1 n1 k1), .bool cl, .bool lo, .int .i64 c, (.slice A2 n2 k2), .int .i64 l, .int .i64 o, .bool false, .bool td, .bool false, .bool false] 51)).alloc (.cells #[.int .u32 0, .int .i64 0, .int .i64 0, .int .i64 0, .bool false, .bool false, .slice none 0 0, .bool false, .bool false, .int .i64 0, .slice none 0 0, .int .i64 0, .int .i64 0, .bool false, .bool false, .bool false, .bool false] 51) = y := ⟨_, rfl⟩
  have k0 : Chg none_ w w1 := by rw [← hw1]; exact ((Chg.refl none_ w).alloc _).alloc _
  have b1 : Is w1 w.heap.size 51 #[.int .u32 id, .int .i64 W, .int .i64 st, .int .i64 fr, .bool mine, .bool acc, (.slice A1 n1 k1), .bool cl, .bool lo, .int .i64 c, (.slice A2 n2 k2), .int .i64 l, .int .i64 o, .bool false, .bool td, .bool false, .bool false] := by rw [← hw1]; exact (Is.new w _ _).alloc _
  have r1 : Is w1 (w.heap.size + 1) 51 #[.int .u32 0, .int .i64 0, .int .i64 0, .int .i64 0, .bool false, .bool false, .slice none 0 0, .bool false, .bool false, .int .i64 0, .slice none 0 0, .int .i64 0, .int .i64 0, .bool false, .bool false, .bool false, .bool false] := by rw [← hw1]; exact isn2 w _ _ _
  have p15 : w1.cell? ⟨w.heap.size, 15, none⟩ = some (.bool false) := b1.at_ 15 _ rfl
  have p16 : w1.cell? ⟨w.heap.size, 16, none⟩ = some (.bool false) := b1.at_ 16 _ rfl
  have p13 : w1.cell? ⟨w.heap.size, 13, none⟩ = some (.bool false) := b1.at_ 13 _ rfl
  have p11 : w1.cell? ⟨w.heap.size, 11, none⟩ = some (.int .i64 l) := b1.at_ 11 _ rfl
  have K1 := Lib.hid k0
  have B1 := Lib.hid b1
  have R1 := Lib.hid r1
  clear b1 r1 k0
  go_enter Tryd.func94, Tryd.ntmps94
  go_wp2_with (first
    | (refine ldS rfl _ rfl rfl B1.out rfl ?_)
    | (refine stS rfl _ _ rfl rfl rfl R1.out rfl rfl rfl ?_; intro w2 i2 c2; have R2 := Lib.hid i2; have B2 := Lib.hid (B1.out.chg c2 (Nat.ne_of_lt (Nat.lt_succ_self _))); have K2 := Lib.hid (chg2 K1.out c2 (by omega)); clear i2 c2))
  refine bodyPost_ret (results_c2 rfl _ rfl R2.out Tryd.underlying51 rfl szS rfl) rfl ?_
  exact ⟨rfl, K2.out⟩
theorem Is.grown_ {w w' : World} {row : Option Nat} {g : Nat} {t : TypeId} {cs : Array Value} (h : Is w g t cs) (hg : w.grownBy w' row) (hr : row ≠ some g) : Is w' g t cs := (hg.block g h.lt fun e => hr e.symm).trans h
theorem qar_ok_false (A3 : Option Addr) (n3 k3 : Nat) (us ys : List Int) (hu : us.length = n2) (hy : ys.length = n3) (bu : Byt us) (by_ : Byt ys) (hru : Rd w A2 n2 fun i => .int .u8 (us.getD i 0)) (hry : Rd w A3 n3 fun i => .int .u8 (ys.getD i 0)) (h2 : n2 ≤ 4294967296) (h3 : n3 ≤ 140733193388032) (hl : (n3 : Int) ≤ l) (hl2 : l ≤ 4294967296) : Calls Tryd.prog 94 #[.agg #[.int .u32 id, .int .i64 W, .int .i64 st, .int .i64 fr, .bool mine, .bool acc, (.slice A1 n1 k1), .bool cl, .bool lo, .int .i64 c, (.slice A2 n2 k2), .int .i64 l, .int .i64 o, .bool false, .bool td, .bool false, .bool false], .slice A3 n3 k3, .bool false] w fun e w' => ∃ A5 k5, e = .returned (.tuple #[.agg #[.int .u32 id, .int .i64 W, .int .i64 st, .int .i64 fr, .bool mine, .bool acc, (.slice A1 n1 k1), .bool cl, .bool lo, .int .i64 c, (.slice A5 (n2 + n3) k5), .int .i64 (l - (n3 : Int)), .int .i64 o, .bool false, .bool td, .bool false, .bool false], .int .i64 0]) ∧ BsO w' (.slice A5 (n2 + n3) k5) (us ++ ys) ∧ (∀ k, rdk (.slice A5 (n2 + n3) k5) = some k → w.heap.size ≤ k ∧ k < w'.heap.size) ∧ Chg none_ w w' := by
  obtain ⟨w1, hw1⟩ : ∃ y, (w.alloc (.cells #[.int .u32 id, .int .i64 W, .int .i64 st, .int .i64 fr, .bool mine, .bool acc, (.slice A1 n1 k1), .bool cl, .bool lo, .int .i64 c, (.slice A2 n2 k2), .int .i64 l, .int .i64 o, .bool false, .bool td, .bool false, .bool false] 51)).alloc (.cells #[.int .u32 0, .int .i64 0, .int .i64 0, .int .i64 0, .bool false, .bool false, .slice none 0 0, .bool false, .bool false, .int .i64 0, .slice none 0 0, .int .i64 0, .int .i64 0, .bool false, .bool false, .bool false, .bool false] 51) = y := ⟨_, rfl⟩
  have k0 : Chg none_ w w1 := by rw [← hw1]; exact ((Chg.refl none_ w).alloc _).alloc _
  have b1 : Is w1 w.heap.size 51 #[.int .u32 id, .int .i64 W, .int .i64 st, .int .i64 fr, .bool mine, .bool acc, (.slice A1 n1 k1), .bool cl, .bool lo, .int .i64 c, (.slice A2 n2 k2), .int .i64 l, .int .i64 o, .bool false, .bool td, .bool false, .bool false] := by rw [← hw1]; exact (Is.new w _ _).alloc _
  have r1 : Is w1 (w.heap.size + 1) 51 #[.int .u32 0, .int .i64 0, .int .i64 0, .int .i64 0, .bool false, .bool false, .slice none 0 0, .bool false, .bool false, .int .i64 0, .slice none 0 0, .int .i64 0, .int .i64 0, .bool false, .bool false, .bool false, .bool false] := by rw [← hw1]; exact isn2 w _ _ _
  have p15 : w1.cell? ⟨w.heap.size, 15, none⟩ = some (.bool false) := b1.at_ 15 _ rfl
  have p16 : w1.cell? ⟨w.heap.size, 16, none⟩ = some (.bool false) := b1.at_ 16 _ rfl
  have p13 : w1.cell? ⟨w.heap.size, 13, none⟩ = some (.bool false) := b1.at_ 13 _ rfl
  have p11 : w1.cell? ⟨w.heap.size, 11, none⟩ = some (.int .i64 l) := b1.at_ 11 _ rfl
  have p10 : w1.cell? ⟨w.heap.size, 10, none⟩ = some ((.slice A2 n2 k2)) := b1.at_ 10 _ rfl
  have K1 := Lib.hid k0
  have B1 := Lib.hid b1
  have R1 := Lib.hid r1
  clear b1 r1 k0
  have hl3 : ¬ l < (n3 : Int) := by omega
  have hw : IntKind.i64.wrap (l - (n3 : Int)) = l - (n3 : Int) := IntWalk.i64_in _ (by omega)
  have HRu : Hid (∀ u, Chg none_ w u → Rd u A2 n2 fun i => .int .u8 (us.getD i 0)) := fun u hc => hru.keep (hc.old (Nat.le_refl _))
  have HRy : Hid (∀ u, Chg none_ w u → Rd u A3 n3 fun i => .int .u8 (ys.getD i 0)) := fun u hc => hry.keep (hc.old (Nat.le_refl _))
  have HBy : Hid (Byt (us ++ ys)) := fun z hz => (List.mem_append.1 hz).elim (bu z) (by_ z)
  have a10 : ∀ o : Obj, (w1.alloc o).cell? ⟨w.heap.size, 10, none⟩ = some (.slice A2 n2 k2) := fun o => (B1.out.alloc o).at_ 10 _ rfl
  have HLn := Lib.hid (And.intro hu hy)
  clear hru hry bu by_ hu hy
  go_enter Tryd.func94, Tryd.ntmps94
  go_wp2_with (first
    | (at_builtin; refine wpList_append_bytes (v := .slice (some ⟨w1.heap.size, 0, none⟩) 0 0) rfl (.tmp 25) (.tmp 27) rfl rfl (ob_nil _ (w.heap.size + 2) _ _) A2 n2 k2 us rfl HLn.out.1 (HRu.out _ (K1.out.alloc _)) (by omega) ?hz2 ?_; (case hz2 => have := R1.out.lt; simp; omega); intro v2 w2 h1 h2 h3; simp only [Nat.zero_add, List.nil_append] at h1; obtain ⟨A2_, k2_, rfl, _, _⟩ := h1.slice; have X2 := Lib.hid h1; have B2 := Lib.hid ((B1.out.alloc _).grown_ h2 (by simp [obk])); have R2 := Lib.hid ((R1.out.alloc _).grown_ h2 (by simp [obk])); have K2 := Lib.hid ((K1.out.alloc _).grown h2 fun k hk _ => by simp [obk] at hk); have p11 : w2.cell? ⟨w.heap.size, 11, none⟩ = some (.int .i64 l) := B2.out.at_ 11 _ rfl; have p10 : w2.cell? ⟨w.heap.size, 10, none⟩ = some ((.slice A2 n2 k2)) := B2.out.at_ 10 _ rfl; clear h1 h2 h3)
    | (at_builtin; refine wpList_append_bytes (v := .slice A2_ (n2) k2_) rfl (.tmp 28) (.tmp 29) rfl rfl X2.out A3 n3 k3 ys rfl HLn.out.2 (HRy.out _ K2.out) (by omega) ?hz3 ?_; (case hz3 => have := R2.out.lt; omega); intro v3 w3 h1 h2 h3; obtain ⟨A3_, k3_, rfl, _, _⟩ := h1.slice; have O3 := Lib.hid h1; have B3 := Lib.hid (B2.out.grown_ h2 (fun e => by have := (X2.out.block _ e).1; omega)); have R3 := Lib.hid (R2.out.grown_ h2 (fun e => by have := (X2.out.block _ e).1; omega)); have K3 := Lib.hid (K2.out.grown h2 fun k hk _ => by have := (X2.out.block k hk).1; omega); have p11 : w3.cell? ⟨w.heap.size, 11, none⟩ = some (.int .i64 l) := B3.out.at_ 11 _ rfl; clear h1 h2 h3)
    | (refine stF rfl _ szB _ _ rfl 10 rfl rfl B3.out rfl (Nat.le_of_ble_eq_true rfl) rfl #[.int .u32 id, .int .i64 W, .int .i64 st, .int .i64 fr, .bool mine, .bool acc, (.slice A1 n1 k1), .bool cl, .bool lo, .int .i64 c, (.slice A3_ (n2 + n3) k3_), .int .i64 l, .int .i64 o, .bool false, .bool td, .bool false, .bool false] rfl ?_; intro w4 i4 c4; have B4 := Lib.hid i4; have R4 := Lib.hid (R3.out.chg c4 (Nat.succ_ne_self _)); have K4 := Lib.hid (chg2 K3.out c4 (by omega)); have O4 := Lib.hid (O3.out.chg c4 fun k hk e => by have := (O3.out.block k hk).1; omega); clear i4 c4; have p11 : w4.cell? ⟨w.heap.size, 11, none⟩ = some (.int .i64 l) := B4.out.at_ 11 _ rfl)
    | (refine stF rfl _ szI _ _ rfl 11 rfl rfl B4.out rfl (Nat.le_of_ble_eq_true rfl) rfl #[.int .u32 id, .int .i64 W, .int .i64 st, .int .i64 fr, .bool mine, .bool acc, (.slice A1 n1 k1), .bool cl, .bool lo, .int .i64 c, (.slice A3_ (n2 + n3) k3_), .int .i64 (l - (n3 : Int)), .int .i64 o, .bool false, .bool td, .bool false, .bool false] rfl ?_; intro w5 i5 c5; have B5 := Lib.hid i5; have R5 := Lib.hid (R4.out.chg c5 (Nat.succ_ne_self _)); have K5 := Lib.hid (chg2 K4.out c5 (by omega)); have O5 := Lib.hid (O4.out.chg c5 fun k hk e => by have := (O4.out.block k hk).1; omega); clear i5 c5)
    | (refine ldS rfl _ rfl rfl B5.out rfl ?_)
    | (refine stS rfl _ _ rfl rfl rfl R5.out rfl rfl rfl ?_; intro w6 i6 c6; have R6 := Lib.hid i6; have B6 := Lib.hid (B5.out.chg c6 (Nat.ne_of_lt (Nat.lt_succ_self _))); have K6 := Lib.hid (chg2 K5.out c6 (by omega)); have O6 := Lib.hid (O5.out.chg c6 fun k hk e => by have := (O5.out.block k hk).1; omega); clear i6 c6))
  refine bodyPost_ret (results_c2 rfl _ rfl R6.out Tryd.underlying51 rfl szS rfl) rfl ?_
  have e : u8s (us ++ ys) = u8s us ++ ys.map (Value.int .u8) := List.map_append
  have HO : Ob w6 (w.heap.size + 2) 5 (.slice A3_ (n2 + n3) k3_) (n2 + n3) (u8s (us ++ ys)) := by rw [e]; exact O6.out
  exact ⟨_, _, rfl, BsO.of_ob HO HBy.out, fun k hk => by have := HO.block k (HO.rdk k hk); omega, K6.out⟩
theorem qar_ok_true (A3 : Option Addr) (n3 k3 : Nat) (us ys : List Int) (hu : us.length = n2) (hy : ys.length = n3) (bu : Byt us) (by_ : Byt ys) (hru : Rd w A2 n2 fun i => .int .u8 (us.getD i 0)) (hry : Rd w A3 n3 fun i => .int .u8 (ys.getD i 0)) (h2 : n2 ≤ 4294967296) (h3 : n3 ≤ 140733193388032) (hl : (n3 : Int) ≤ l) (hl2 : l ≤ 4294967296) : Calls Tryd.prog 94 #[.agg #[.int .u32 id, .int .i64 W, .int .i64 st, .int .i64 fr, .bool mine, .bool acc, (.slice A1 n1 k1), .bool cl, .bool lo, .int .i64 c, (.slice A2 n2 k2), .int .i64 l, .int .i64 o, .bool false, .bool td, .bool false, .bool false], .slice A3 n3 k3, .bool true] w fun e w' => ∃ A5 k5, e = .returned (.tuple #[.agg #[.int .u32 id, .int .i64 W, .int .i64 st, .int .i64 fr, .bool mine, .bool acc, (.slice A1 n1 k1), .bool cl, .bool lo, .int .i64 c, (.slice A5 (n2 + n3) k5), .int .i64 0, .int .i64 0, .bool true, .bool td, .bool false, .bool false], .int .i64 0]) ∧ BsO w' (.slice A5 (n2 + n3) k5) (us ++ ys) ∧ (∀ k, rdk (.slice A5 (n2 + n3) k5) = some k → w.heap.size ≤ k ∧ k < w'.heap.size) ∧ Chg none_ w w' := by
  obtain ⟨w1, hw1⟩ : ∃ y, (w.alloc (.cells #[.int .u32 id, .int .i64 W, .int .i64 st, .int .i64 fr, .bool mine, .bool acc, (.slice A1 n1 k1), .bool cl, .bool lo, .int .i64 c, (.slice A2 n2 k2), .int .i64 l, .int .i64 o, .bool false, .bool td, .bool false, .bool false] 51)).alloc (.cells #[.int .u32 0, .int .i64 0, .int .i64 0, .int .i64 0, .bool false, .bool false, .slice none 0 0, .bool false, .bool false, .int .i64 0, .slice none 0 0, .int .i64 0, .int .i64 0, .bool false, .bool false, .bool false, .bool false] 51) = y := ⟨_, rfl⟩
  have k0 : Chg none_ w w1 := by rw [← hw1]; exact ((Chg.refl none_ w).alloc _).alloc _
  have b1 : Is w1 w.heap.size 51 #[.int .u32 id, .int .i64 W, .int .i64 st, .int .i64 fr, .bool mine, .bool acc, (.slice A1 n1 k1), .bool cl, .bool lo, .int .i64 c, (.slice A2 n2 k2), .int .i64 l, .int .i64 o, .bool false, .bool td, .bool false, .bool false] := by rw [← hw1]; exact (Is.new w _ _).alloc _
  have r1 : Is w1 (w.heap.size + 1) 51 #[.int .u32 0, .int .i64 0, .int .i64 0, .int .i64 0, .bool false, .bool false, .slice none 0 0, .bool false, .bool false, .int .i64 0, .slice none 0 0, .int .i64 0, .int .i64 0, .bool false, .bool false, .bool false, .bool false] := by rw [← hw1]; exact isn2 w _ _ _
  have p15 : w1.cell? ⟨w.heap.size, 15, none⟩ = some (.bool false) := b1.at_ 15 _ rfl
  have p16 : w1.cell? ⟨w.heap.size, 16, none⟩ = some (.bool false) := b1.at_ 16 _ rfl
  have p13 : w1.cell? ⟨w.heap.size, 13, none⟩ = some (.bool false) := b1.at_ 13 _ rfl
  have p11 : w1.cell? ⟨w.heap.size, 11, none⟩ = some (.int .i64 l) := b1.at_ 11 _ rfl
  have p10 : w1.cell? ⟨w.heap.size, 10, none⟩ = some ((.slice A2 n2 k2)) := b1.at_ 10 _ rfl
  have K1 := Lib.hid k0
  have B1 := Lib.hid b1
  have R1 := Lib.hid r1
  clear b1 r1 k0
  have hl3 : ¬ l < (n3 : Int) := by omega
  have hw : IntKind.i64.wrap (l - (n3 : Int)) = l - (n3 : Int) := IntWalk.i64_in _ (by omega)
  have HRu : Hid (∀ u, Chg none_ w u → Rd u A2 n2 fun i => .int .u8 (us.getD i 0)) := fun u hc => hru.keep (hc.old (Nat.le_refl _))
  have HRy : Hid (∀ u, Chg none_ w u → Rd u A3 n3 fun i => .int .u8 (ys.getD i 0)) := fun u hc => hry.keep (hc.old (Nat.le_refl _))
  have HBy : Hid (Byt (us ++ ys)) := fun z hz => (List.mem_append.1 hz).elim (bu z) (by_ z)
  have a10 : ∀ o : Obj, (w1.alloc o).cell? ⟨w.heap.size, 10, none⟩ = some (.slice A2 n2 k2) := fun o => (B1.out.alloc o).at_ 10 _ rfl
  have HLn := Lib.hid (And.intro hu hy)
  clear hru hry bu by_ hu hy
  go_enter Tryd.func94, Tryd.ntmps94
  go_wp2_with (first
    | (at_builtin; refine wpList_append_bytes (v := .slice (some ⟨w1.heap.size, 0, none⟩) 0 0) rfl (.tmp 25) (.tmp 27) rfl rfl (ob_nil _ (w.heap.size + 2) _ _) A2 n2 k2 us rfl HLn.out.1 (HRu.out _ (K1.out.alloc _)) (by omega) ?hz2 ?_; (case hz2 => have := R1.out.lt; simp; omega); intro v2 w2 h1 h2 h3; simp only [Nat.zero_add, List.nil_append] at h1; obtain ⟨A2_, k2_, rfl, _, _⟩ := h1.slice; have X2 := Lib.hid h1; have B2 := Lib.hid ((B1.out.alloc _).grown_ h2 (by simp [obk])); have R2 := Lib.hid ((R1.out.alloc _).grown_ h2 (by simp [obk])); have K2 := Lib.hid ((K1.out.alloc _).grown h2 fun k hk _ => by simp [obk] at hk); have p11 : w2.cell? ⟨w.heap.size, 11, none⟩ = some (.int .i64 l) := B2.out.at_ 11 _ rfl; have p10 : w2.cell? ⟨w.heap.size, 10, none⟩ = some ((.slice A2 n2 k2)) := B2.out.at_ 10 _ rfl; clear h1 h2 h3)
    | (at_builtin; refine wpList_append_bytes (v := .slice A2_ (n2) k2_) rfl (.tmp 28) (.tmp 29) rfl rfl X2.out A3 n3 k3 ys rfl HLn.out.2 (HRy.out _ K2.out) (by omega) ?hz3 ?_; (case hz3 => have := R2.out.lt; omega); intro v3 w3 h1 h2 h3; obtain ⟨A3_, k3_, rfl, _, _⟩ := h1.slice; have O3 := Lib.hid h1; have B3 := Lib.hid (B2.out.grown_ h2 (fun e => by have := (X2.out.block _ e).1; omega)); have R3 := Lib.hid (R2.out.grown_ h2 (fun e => by have := (X2.out.block _ e).1; omega)); have K3 := Lib.hid (K2.out.grown h2 fun k hk _ => by have := (X2.out.block k hk).1; omega); have p11 : w3.cell? ⟨w.heap.size, 11, none⟩ = some (.int .i64 l) := B3.out.at_ 11 _ rfl; clear h1 h2 h3)
    | (refine stF rfl _ szB _ _ rfl 10 rfl rfl B3.out rfl (Nat.le_of_ble_eq_true rfl) rfl #[.int .u32 id, .int .i64 W, .int .i64 st, .int .i64 fr, .bool mine, .bool acc, (.slice A1 n1 k1), .bool cl, .bool lo, .int .i64 c, (.slice A3_ (n2 + n3) k3_), .int .i64 l, .int .i64 o, .bool false, .bool td, .bool false, .bool false] rfl ?_; intro w4 i4 c4; have B4 := Lib.hid i4; have R4 := Lib.hid (R3.out.chg c4 (Nat.succ_ne_self _)); have K4 := Lib.hid (chg2 K3.out c4 (by omega)); have O4 := Lib.hid (O3.out.chg c4 fun k hk e => by have := (O3.out.block k hk).1; omega); clear i4 c4; have p11 : w4.cell? ⟨w.heap.size, 11, none⟩ = some (.int .i64 l) := B4.out.at_ 11 _ rfl)
    | (refine stF rfl _ szI _ _ rfl 11 rfl rfl B4.out rfl (Nat.le_of_ble_eq_true rfl) rfl #[.int .u32 id, .int .i64 W, .int .i64 st, .int .i64 fr, .bool mine, .bool acc, (.slice A1 n1 k1), .bool cl, .bool lo, .int .i64 c, (.slice A3_ (n2 + n3) k3_), .int .i64 (l - (n3 : Int)), .int .i64 o, .bool false, .bool td, .bool false, .bool false] rfl ?_; intro w5 i5 c5; have B5 := Lib.hid i5; have R5 := Lib.hid (R4.out.chg c5 (Nat.succ_ne_self _)); have K5 := Lib.hid (chg2 K4.out c5 (by omega)); have O5 := Lib.hid (O4.out.chg c5 fun k hk e => by have := (O4.out.block k hk).1; omega); clear i5 c5)
    | (refine ldS rfl _ rfl rfl B5.out rfl ?_))
  refine (qend _ _ _ _ _ _ _ _ _ _ _ _ _ _ _ _ _ _ _ _ _ _ ).mono ?_
  rintro e w6 ⟨rfl, c6⟩
  have B6 := Lib.hid (B5.out.chg c6 fun f => f)
  have R6 := Lib.hid (R5.out.chg c6 fun f => f)
  have K6 := Lib.hid (K5.out.trans c6)
  have O6 := Lib.hid (O5.out.chg c6 fun _ _ f => f)
  clear c6
  go_wp2_with (first
    | (refine stS rfl _ _ rfl rfl rfl B6.out rfl rfl rfl ?_; intro w7 i7 c7; have B7 := Lib.hid i7; have R7 := Lib.hid (R6.out.chg c7 (Nat.succ_ne_self _)); have K7 := Lib.hid (chg2 K6.out c7 (by omega)); have O7 := Lib.hid (O6.out.chg c7 fun k hk e => by have := (O6.out.block k hk).1; omega); clear i7 c7)
    | (refine ldS rfl _ rfl rfl B7.out rfl ?_)
    | (refine stS rfl _ _ rfl rfl rfl R7.out rfl rfl rfl ?_; intro w8 i8 c8; have R8 := Lib.hid i8; have B8 := Lib.hid (B7.out.chg c8 (Nat.ne_of_lt (Nat.lt_succ_self _))); have K8 := Lib.hid (chg2 K7.out c8 (by omega)); have O8 := Lib.hid (O7.out.chg c8 fun k hk e => by have := (O7.out.block k hk).1; omega); clear i8 c8))
  refine bodyPost_ret (results_c2 rfl _ rfl R8.out Tryd.underlying51 rfl szS rfl) rfl ?_
  have e : u8s (us ++ ys) = u8s us ++ ys.map (Value.int .u8) := List.map_append
  have HO : Ob w8 (w.heap.size + 2) 5 (.slice A3_ (n2 + n3) k3_) (n2 + n3) (u8s (us ++ ys)) := by rw [e]; exact O8.out
  exact ⟨_, _, rfl, BsO.of_ob HO HBy.out, fun k hk => by have := HO.block k (HO.rdk k hk); omega, K8.out⟩
theorem qgn_rs (d : Int) (fin : Bool) : Calls Tryd.prog 95 #[.agg #[.int .u32 id, .int .i64 W, .int .i64 st, .int .i64 fr, .bool mine, .bool acc, (.slice A1 n1 k1), .bool cl, .bool lo, .int .i64 c, (.slice A2 n2 k2), .int .i64 l, .int .i64 o, .bool li, .bool td, .bool true, .bool ct], .int .u32 d, .bool fin] w fun e w' => e = .returned (.tuple #[.agg #[.int .u32 id, .int .i64 W, .int .i64 st, .int .i64 fr, .bool mine, .bool acc, (.slice A1 n1 k1), .bool cl, .bool lo, .int .i64 c, (.slice A2 n2 k2), .int .i64 l, .int .i64 o, .bool li, .bool td, .bool true, .bool ct], .int .i64 0]) ∧ Chg none_ w w' := by
  obtain ⟨w1, hw1⟩ : ∃ y, (w.alloc (.cells #[.int .u32 id, .int .i64 W, .int .i64 st, .int .i64 fr, .bool mine, .bool acc, (.slice A1 n1 k1), .bool cl, .bool lo, .int .i64 c, (.slice A2 n2 k2), .int .i64 l, .int .i64 o, .bool li, .bool td, .bool true, .bool ct] 51)).alloc (.cells #[.int .u32 0, .int .i64 0, .int .i64 0, .int .i64 0, .bool false, .bool false, .slice none 0 0, .bool false, .bool false, .int .i64 0, .slice none 0 0, .int .i64 0, .int .i64 0, .bool false, .bool false, .bool false, .bool false] 51) = y := ⟨_, rfl⟩
  have k0 : Chg none_ w w1 := by rw [← hw1]; exact ((Chg.refl none_ w).alloc _).alloc _
  have b1 : Is w1 w.heap.size 51 #[.int .u32 id, .int .i64 W, .int .i64 st, .int .i64 fr, .bool mine, .bool acc, (.slice A1 n1 k1), .bool cl, .bool lo, .int .i64 c, (.slice A2 n2 k2), .int .i64 l, .int .i64 o, .bool li, .bool td, .bool true, .bool ct] := by rw [← hw1]; exact (Is.new w _ _).alloc _
  have r1 : Is w1 (w.heap.size + 1) 51 #[.int .u32 0, .int .i64 0, .int .i64 0, .int .i64 0, .bool false, .bool false, .slice none 0 0, .bool false, .bool false, .int .i64 0, .slice none 0 0, .int .i64 0, .int .i64 0, .bool false, .bool false, .bool false, .bool false] := by rw [← hw1]; exact isn2 w _ _ _
  have p15 : w1.cell? ⟨w.heap.size, 15, none⟩ = some (.bool true) := b1.at_ 15 _ rfl
  have K1 := Lib.hid k0
  have B1 := Lib.hid b1
  have R1 := Lib.hid r1
  clear b1 r1 k0
  go_enter Tryd.func95, Tryd.ntmps95
  go_wp2_with (first
    | (refine ldS rfl _ rfl rfl B1.out rfl ?_)
    | (refine stS rfl _ _ rfl rfl rfl R1.out rfl rfl rfl ?_; intro w2 i2 c2; have R2 := Lib.hid i2; have B2 := Lib.hid (B1.out.chg c2 (Nat.ne_of_lt (Nat.lt_succ_self _))); have K2 := Lib.hid (chg2 K1.out c2 (by omega)); clear i2 c2))
  refine bodyPost_ret (results_c2 rfl _ rfl R2.out Tryd.underlying51 rfl szS rfl) rfl ?_
  exact ⟨rfl, K2.out⟩
theorem qgn_ct (d : Int) (fin : Bool) : Calls Tryd.prog 95 #[.agg #[.int .u32 id, .int .i64 W, .int .i64 st, .int .i64 fr, .bool mine, .bool acc, (.slice A1 n1 k1), .bool cl, .bool lo, .int .i64 c, (.slice A2 n2 k2), .int .i64 l, .int .i64 o, .bool li, .bool td, .bool false, .bool true], .int .u32 d, .bool fin] w fun e w' => e = .returned (.tuple #[.agg #[.int .u32 id, .int .i64 W, .int .i64 st, .int .i64 fr, .bool mine, .bool acc, (.slice A1 n1 k1), .bool cl, .bool lo, .int .i64 c, (.slice A2 n2 k2), .int .i64 l, .int .i64 o, .bool li, .bool td, .bool false, .bool true], .int .i64 0]) ∧ Chg none_ w w' := by
  obtain ⟨w1, hw1⟩ : ∃ y, (w.alloc (.cells #[.int .u32 id, .int .i64 W, .int .i64 st, .int .i64 fr, .bool mine, .bool acc, (.slice A1 n1 k1), .bool cl, .bool lo, .int .i64 c, (.slice A2 n2 k2), .int .i64 l, .int .i64 o, .bool li, .bool td, .bool false, .bool true] 51)).alloc (.cells #[.int .u32 0, .int .i64 0, .int .i64 0, .int .i64 0, .bool false, .bool false, .slice none 0 0, .bool false, .bool false, .int .i64 0, .slice none 0 0, .int .i64 0, .int .i64 0, .bool false, .bool false, .bool false, .bool false] 51) = y := ⟨_, rfl⟩
  have k0 : Chg none_ w w1 := by rw [← hw1]; exact ((Chg.refl none_ w).alloc _).alloc _
  have b1 : Is w1 w.heap.size 51 #[.int .u32 id, .int .i64 W, .int .i64 st, .int .i64 fr, .bool mine, .bool acc, (.slice A1 n1 k1), .bool cl, .bool lo, .int .i64 c, (.slice A2 n2 k2), .int .i64 l, .int .i64 o, .bool li, .bool td, .bool false, .bool true] := by rw [← hw1]; exact (Is.new w _ _).alloc _
  have r1 : Is w1 (w.heap.size + 1) 51 #[.int .u32 0, .int .i64 0, .int .i64 0, .int .i64 0, .bool false, .bool false, .slice none 0 0, .bool false, .bool false, .int .i64 0, .slice none 0 0, .int .i64 0, .int .i64 0, .bool false, .bool false, .bool false, .bool false] := by rw [← hw1]; exact isn2 w _ _ _
  have p15 : w1.cell? ⟨w.heap.size, 15, none⟩ = some (.bool false) := b1.at_ 15 _ rfl
  have p16 : w1.cell? ⟨w.heap.size, 16, none⟩ = some (.bool true) := b1.at_ 16 _ rfl
  have K1 := Lib.hid k0
  have B1 := Lib.hid b1
  have R1 := Lib.hid r1
  clear b1 r1 k0
  go_enter Tryd.func95, Tryd.ntmps95
  go_wp2_with (first
    | (refine ldS rfl _ rfl rfl B1.out rfl ?_)
    | (refine stS rfl _ _ rfl rfl rfl R1.out rfl rfl rfl ?_; intro w2 i2 c2; have R2 := Lib.hid i2; have B2 := Lib.hid (B1.out.chg c2 (Nat.ne_of_lt (Nat.lt_succ_self _))); have K2 := Lib.hid (chg2 K1.out c2 (by omega)); clear i2 c2))
  refine bodyPost_ret (results_c2 rfl _ rfl R2.out Tryd.underlying51 rfl szS rfl) rfl ?_
  exact ⟨rfl, K2.out⟩
theorem qgn_no (d : Int) (fin : Bool) (d0 : 0 ≤ d) (d1 : d ≤ 4294967295) (c0 : 0 ≤ c) (c1 : c ≤ 4294967295) (hc : W < c + d) : Calls Tryd.prog 95 #[.agg #[.int .u32 id, .int .i64 W, .int .i64 st, .int .i64 fr, .bool mine, .bool acc, (.slice A1 n1 k1), .bool cl, .bool false, .int .i64 c, (.slice A2 n2 k2), .int .i64 l, .int .i64 o, .bool li, .bool td, .bool false, .bool false], .int .u32 d, .bool fin] w fun e w' => e = .returned (.tuple #[.agg #[.int .u32 id, .int .i64 W, .int .i64 st, .int .i64 fr, .bool mine, .bool acc, (.slice A1 n1 k1), .bool cl, .bool false, .int .i64 c, (.slice A2 n2 k2), .int .i64 l, .int .i64 o, .bool li, .bool td, .bool false, .bool false], .int .i64 17]) ∧ Chg none_ w w' := by
  obtain ⟨w1, hw1⟩ : ∃ y, (w.alloc (.cells #[.int .u32 id, .int .i64 W, .int .i64 st, .int .i64 fr, .bool mine, .bool acc, (.slice A1 n1 k1), .bool cl, .bool false, .int .i64 c, (.slice A2 n2 k2), .int .i64 l, .int .i64 o, .bool li, .bool td, .bool false, .bool false] 51)).alloc (.cells #[.int .u32 0, .int .i64 0, .int .i64 0, .int .i64 0, .bool false, .bool false, .slice none 0 0, .bool false, .bool false, .int .i64 0, .slice none 0 0, .int .i64 0, .int .i64 0, .bool false, .bool false, .bool false, .bool false] 51) = y := ⟨_, rfl⟩
  have k0 : Chg none_ w w1 := by rw [← hw1]; exact ((Chg.refl none_ w).alloc _).alloc _
  have b1 : Is w1 w.heap.size 51 #[.int .u32 id, .int .i64 W, .int .i64 st, .int .i64 fr, .bool mine, .bool acc, (.slice A1 n1 k1), .bool cl, .bool false, .int .i64 c, (.slice A2 n2 k2), .int .i64 l, .int .i64 o, .bool li, .bool td, .bool false, .bool false] := by rw [← hw1]; exact (Is.new w _ _).alloc _
  have r1 : Is w1 (w.heap.size + 1) 51 #[.int .u32 0, .int .i64 0, .int .i64 0, .int .i64 0, .bool false, .bool false, .slice none 0 0, .bool false, .bool false, .int .i64 0, .slice none 0 0, .int .i64 0, .int .i64 0, .bool false, .bool false, .bool false, .bool false] := by rw [← hw1]; exact isn2 w _ _ _
  have p15 : w1.cell? ⟨w.heap.size, 15, none⟩ = some (.bool false) := b1.at_ 15 _ rfl
  have p16 : w1.cell? ⟨w.heap.size, 16, none⟩ = some (.bool false) := b1.at_ 16 _ rfl
  have p8 : w1.cell? ⟨w.heap.size, 8, none⟩ = some (.bool false) := b1.at_ 8 _ rfl
  have p9 : w1.cell? ⟨w.heap.size, 9, none⟩ = some (.int .i64 c) := b1.at_ 9 _ rfl
  have p1 : w1.cell? ⟨w.heap.size, 1, none⟩ = some (.int .i64 W) := b1.at_ 1 _ rfl
  have K1 := Lib.hid k0
  have B1 := Lib.hid b1
  have R1 := Lib.hid r1
  clear b1 r1 k0
  have hw1 : IntKind.i64.wrap d = d := IntWalk.i64_in _ (by omega)
  have hw2 : IntKind.i64.wrap (c + d) = c + d := IntWalk.i64_in _ (by omega)
  clear d0 d1 c0 c1
  go_enter Tryd.func95, Tryd.ntmps95
  go_wp2_with (first
    | (refine ldS rfl _ rfl rfl B1.out rfl ?_)
    | (refine stS rfl _ _ rfl rfl rfl R1.out rfl rfl rfl ?_; intro w2 i2 c2; have R2 := Lib.hid i2; have B2 := Lib.hid (B1.out.chg c2 (Nat.ne_of_lt (Nat.lt_succ_self _))); have K2 := Lib.hid (chg2 K1.out c2 (by omega)); clear i2 c2))
  refine bodyPost_ret (results_c2 rfl _ rfl R2.out Tryd.underlying51 rfl szS rfl) rfl ?_
  exact ⟨rfl, K2.out⟩
theorem qgn_f (d : Int) (d0 : 0 ≤ d) (d1 : d ≤ 4294967295) (c0 : 0 ≤ c) (c1 : c ≤ 4294967295) (hc : c + d ≤ W) : Calls Tryd.prog 95 #[.agg #[.int .u32 id, .int .i64 W, .int .i64 st, .int .i64 fr, .bool mine, .bool acc, (.slice A1 n1 k1), .bool cl, .bool false, .int .i64 c, (.slice A2 n2 k2), .int .i64 l, .int .i64 o, .bool li, .bool td, .bool false, .bool false], .int .u32 d, .bool false] w fun e w' => e = .returned (.tuple #[.agg #[.int .u32 id, .int .i64 W, .int .i64 st, .int .i64 fr, .bool mine, .bool acc, (.slice A1 n1 k1), .bool cl, .bool false, .int .i64 (c + d), (.slice A2 n2 k2), .int .i64 l, .int .i64 o, .bool li, .bool td, .bool false, .bool false], .int .i64 0]) ∧ Chg none_ w w' := by
  obtain ⟨w1, hw1⟩ : ∃ y, (w.alloc (.cells #[.int .u32 id, .int .i64 W, .int .i64 st, .int .i64 fr, .bool mine, .bool acc, (.slice A1 n1 k1), .bool cl, .bool false, .int .i64 c, (.slice A2 n2 k2), .int .i64 l, .int .i64 o, .bool li, .bool td, .bool false, .bool false] 51)).alloc (.cells #[.int .u32 0, .int .i64 0, .int .i64 0, .int .i64 0, .bool false, .bool false, .slice none 0 0, .bool false, .bool false, .int .i64 0, .slice none 0 0, .int .i64 0, .int .i64 0, .bool false, .bool false, .bool false, .bool false] 51) = y := ⟨_, rfl⟩
  have k0 : Chg none_ w w1 := by rw [← hw1]; exact ((Chg.refl none_ w).alloc _).alloc _
  have b1 : Is w1 w.heap.size 51 #[.int .u32 id, .int .i64 W, .int .i64 st, .int .i64 fr, .bool mine, .bool acc, (.slice A1 n1 k1), .bool cl, .bool false, .int .i64 c, (.slice A2 n2 k2), .int .i64 l, .int .i64 o, .bool li, .bool td, .bool false, .bool false] := by rw [← hw1]; exact (Is.new w _ _).alloc _
  have r1 : Is w1 (w.heap.size + 1) 51 #[.int .u32 0, .int .i64 0, .int .i64 0, .int .i64 0, .bool false, .bool false, .slice none 0 0, .bool false, .bool false, .int .i64 0, .slice none 0 0, .int .i64 0, .int .i64 0, .bool false, .bool false, .bool false, .bool false] := by rw [← hw1]; exact isn2 w _ _ _
  have p15 : w1.cell? ⟨w.heap.size, 15, none⟩ = some (.bool false) := b1.at_ 15 _ rfl
  have p16 : w1.cell? ⟨w.heap.size, 16, none⟩ = some (.bool false) := b1.at_ 16 _ rfl
  have p8 : w1.cell? ⟨w.heap.size, 8, none⟩ = some (.bool false) := b1.at_ 8 _ rfl
  have p9 : w1.cell? ⟨w.heap.size, 9, none⟩ = some (.int .i64 c) := b1.at_ 9 _ rfl
  have p1 : w1.cell? ⟨w.heap.size, 1, none⟩ = some (.int .i64 W) := b1.at_ 1 _ rfl
  have p13 : w1.cell? ⟨w.heap.size, 13, none⟩ = some (.bool li) := b1.at_ 13 _ rfl
  have K1 := Lib.hid k0
  have B1 := Lib.hid b1
  have R1 := Lib.hid r1
  clear b1 r1 k0
  have hc3 : ¬ W < c + d := by omega
  have hw1 : IntKind.i64.wrap d = d := IntWalk.i64_in _ (by omega)
  have hw2 : IntKind.i64.wrap (c + d) = c + d := IntWalk.i64_in _ (by omega)
  clear d0 d1 c0 c1
  go_enter Tryd.func95, Tryd.ntmps95
  go_wp2_with (first
    | (refine stF rfl _ szI _ _ rfl 9 rfl rfl B1.out rfl (Nat.le_of_ble_eq_true rfl) rfl #[.int .u32 id, .int .i64 W, .int .i64 st, .int .i64 fr, .bool mine, .bool acc, (.slice A1 n1 k1), .bool cl, .bool false, .int .i64 (c + d), (.slice A2 n2 k2), .int .i64 l, .int .i64 o, .bool li, .bool td, .bool false, .bool false] rfl ?_; intro w2 i2 c2; have B2 := Lib.hid i2; have R2 := Lib.hid (R1.out.chg c2 (Nat.succ_ne_self _)); have K2 := Lib.hid (chg2 K1.out c2 (by omega)); clear i2 c2; have p13 : w2.cell? ⟨w.heap.size, 13, none⟩ = some (.bool li) := B2.out.at_ 13 _ rfl)
    | (refine ldS rfl _ rfl rfl B2.out rfl ?_)
    | (refine stS rfl _ _ rfl rfl rfl R2.out rfl rfl rfl ?_; intro w3 i3 c3; have R3 := Lib.hid i3; have B3 := Lib.hid (B2.out.chg c3 (Nat.ne_of_lt (Nat.lt_succ_self _))); have K3 := Lib.hid (chg2 K2.out c3 (by omega)); clear i3 c3))
  refine bodyPost_ret (results_c2 rfl _ rfl R3.out Tryd.underlying51 rfl szS rfl) rfl ?_
  exact ⟨rfl, K3.out⟩
theorem qgn_l (d : Int) (d0 : 0 ≤ d) (d1 : d ≤ 4294967295) (c0 : 0 ≤ c) (c1 : c ≤ 4294967295) (hc : c + d ≤ W) : Calls Tryd.prog 95 #[.agg #[.int .u32 id, .int .i64 W, .int .i64 st, .int .i64 fr, .bool mine, .bool acc, (.slice A1 n1 k1), .bool cl, .bool false, .int .i64 c, (.slice A2 n2 k2), .int .i64 l, .int .i64 o, .bool true, .bool td, .bool false, .bool false], .int .u32 d, .bool true] w fun e w' => e = .returned (.tuple #[.agg #[.int .u32 id, .int .i64 W, .int .i64 st, .int .i64 fr, .bool mine, .bool acc, (.slice A1 n1 k1), .bool cl, .bool false, .int .i64 (c + d), (.slice A2 n2 k2), .int .i64 l, .int .i64 o, .bool true, .bool td, .bool false, .bool false], .int .i64 0]) ∧ Chg none_ w w' := by
  obtain ⟨w1, hw1⟩ : ∃ y, (w.alloc (.cells #[.int .u32 id, .int .i64 W, .int .i64 st, .int .i64 fr, .bool mine, .bool acc, (.slice A1 n1 k1), .bool cl, .bool false, .int .i64 c, (.slice A2 n2 k2), .int .i64 l, .int .i64 o, .bool true, .bool td, .bool false, .bool false] 51)).alloc (.cells #[.int .u32 0, .int .i64 0, .int .i64 0, .int .i64 0, .bool false, .bool false, .slice none 0 0, .bool false, .bool false, .int .i64 0, .slice none 0 0, .int .i64 0, .int .i64 0, .bool false, .bool false, .bool false, .bool false] 51) = y := ⟨_, rfl⟩
  have k0 : Chg none_ w w1 := by rw [← hw1]; exact ((Chg.refl none_ w).alloc _).alloc _
  have b1 : Is w1 w.heap.size 51 #[.int .u32 id, .int .i64 W, .int .i64 st, .int .i64 fr, .bool mine, .bool acc, (.slice A1 n1 k1), .bool cl, .bool false, .int .i64 c, (.slice A2 n2 k2), .int .i64 l, .int .i64 o, .bool true, .bool td, .bool false, .bool false] := by rw [← hw1]; exact (Is.new w _ _).alloc _
  have r1 : Is w1 (w.heap.size + 1) 51 #[.int .u32 0, .int .i64 0, .int .i64 0, .int .i64 0, .bool false, .bool false, .slice none 0 0, .bool false, .bool false, .int .i64 0, .slice none 0 0, .int .i64 0, .int .i64 0, .bool false, .bool false, .bool false, .bool false] := by rw [← hw1]; exact isn2 w _ _ _
  have p15 : w1.cell? ⟨w.heap.size, 15, none⟩ = some (.bool false) := b1.at_ 15 _ rfl
  have p16 : w1.cell? ⟨w.heap.size, 16, none⟩ = some (.bool false) := b1.at_ 16 _ rfl
  have p8 : w1.cell? ⟨w.heap.size, 8, none⟩ = some (.bool false) := b1.at_ 8 _ rfl
  have p9 : w1.cell? ⟨w.heap.size, 9, none⟩ = some (.int .i64 c) := b1.at_ 9 _ rfl
  have p1 : w1.cell? ⟨w.heap.size, 1, none⟩ = some (.int .i64 W) := b1.at_ 1 _ rfl
  have p13 : w1.cell? ⟨w.heap.size, 13, none⟩ = some (.bool true) := b1.at_ 13 _ rfl
  have K1 := Lib.hid k0
  have B1 := Lib.hid b1
  have R1 := Lib.hid r1
  clear b1 r1 k0
  have hc3 : ¬ W < c + d := by omega
  have hw1 : IntKind.i64.wrap d = d := IntWalk.i64_in _ (by omega)
  have hw2 : IntKind.i64.wrap (c + d) = c + d := IntWalk.i64_in _ (by omega)
  clear d0 d1 c0 c1
  go_enter Tryd.func95, Tryd.ntmps95
  go_wp2_with (first
    | (refine stF rfl _ szI _ _ rfl 9 rfl rfl B1.out rfl (Nat.le_of_ble_eq_true rfl) rfl #[.int .u32 id, .int .i64 W, .int .i64 st, .int .i64 fr, .bool mine, .bool acc, (.slice A1 n1 k1), .bool cl, .bool false, .int .i64 (c + d), (.slice A2 n2 k2), .int .i64 l, .int .i64 o, .bool true, .bool td, .bool false, .bool false] rfl ?_; intro w2 i2 c2; have B2 := Lib.hid i2; have R2 := Lib.hid (R1.out.chg c2 (Nat.succ_ne_self _)); have K2 := Lib.hid (chg2 K1.out c2 (by omega)); clear i2 c2; have p13 : w2.cell? ⟨w.heap.size, 13, none⟩ = some (.bool true) := B2.out.at_ 13 _ rfl)
    | (refine ldS rfl _ rfl rfl B2.out rfl ?_)
    | (refine stS rfl _ _ rfl rfl rfl R2.out rfl rfl rfl ?_; intro w3 i3 c3; have R3 := Lib.hid i3; have B3 := Lib.hid (B2.out.chg c3 (Nat.ne_of_lt (Nat.lt_succ_self _))); have K3 := Lib.hid (chg2 K2.out c3 (by omega)); clear i3 c3))
  refine bodyPost_ret (results_c2 rfl _ rfl R3.out Tryd.underlying51 rfl szS rfl) rfl ?_
  exact ⟨rfl, K3.out⟩
theorem qgn_e (d : Int) (d0 : 0 ≤ d) (d1 : d ≤ 4294967295) (c0 : 0 ≤ c) (c1 : c ≤ 4294967295) (hc : c + d ≤ W) : Calls Tryd.prog 95 #[.agg #[.int .u32 id, .int .i64 W, .int .i64 st, .int .i64 fr, .bool mine, .bool acc, (.slice A1 n1 k1), .bool cl, .bool false, .int .i64 c, (.slice A2 n2 k2), .int .i64 l, .int .i64 o, .bool false, .bool td, .bool false, .bool false], .int .u32 d, .bool true] w fun e w' => e = .returned (.tuple #[.agg #[.int .u32 id, .int .i64 W, .int .i64 st, .int .i64 fr, .bool mine, .bool acc, (.slice A1 n1 k1), .bool cl, .bool false, .int .i64 (c + d), (.slice A2 n2 k2), .int .i64 0, .int .i64 0, .bool true, .bool td, .bool false, .bool false], .int .i64 0]) ∧ Chg none_ w w' := by
  obtain ⟨w1, hw1⟩ : ∃ y, (w.alloc (.cells #[.int .u32 id, .int .i64 W, .int .i64 st, .int .i64 fr, .bool mine, .bool acc, (.slice A1 n1 k1), .bool cl, .bool false, .int .i64 c, (.slice A2 n2 k2), .int .i64 l, .int .i64 o, .bool false, .bool td, .bool false, .bool false] 51)).alloc (.cells #[.int .u32 0, .int .i64 0, .int .i64 0, .int .i64 0, .bool false, .bool false, .slice none 0 0, .bool false, .bool false, .int .i64 0, .slice none 0 0, .int .i64 0, .int .i64 0, .bool false, .bool false, .bool false, .bool false] 51) = y := ⟨_, rfl⟩
  have k0 : Chg none_ w w1 := by rw [← hw1]; exact ((Chg.refl none_ w).alloc _).alloc _
  have b1 : Is w1 w.heap.size 51 #[.int .u32 id, .int .i64 W, .int .i64 st, .int .i64 fr, .bool mine, .bool acc, (.slice A1 n1 k1), .bool cl, .bool false, .int .i64 c, (.slice A2 n2 k2), .int .i64 l, .int .i64 o, .bool false, .bool td, .bool false, .bool false] := by rw [← hw1]; exact (Is.new w _ _).alloc _
  have r1 : Is w1 (w.heap.size + 1) 51 #[.int .u32 0, .int .i64 0, .int .i64 0, .int .i64 0, .bool false, .bool false, .slice none 0 0, .bool false, .bool false, .int .i64 0, .slice none 0 0, .int .i64 0, .int .i64 0, .bool false, .bool false, .bool false, .bool false] := by rw [← hw1]; exact isn2 w _ _ _
  have p15 : w1.cell? ⟨w.heap.size, 15, none⟩ = some (.bool false) := b1.at_ 15 _ rfl
  have p16 : w1.cell? ⟨w.heap.size, 16, none⟩ = some (.bool false) := b1.at_ 16 _ rfl
  have p8 : w1.cell? ⟨w.heap.size, 8, none⟩ = some (.bool false) := b1.at_ 8 _ rfl
  have p9 : w1.cell? ⟨w.heap.size, 9, none⟩ = some (.int .i64 c) := b1.at_ 9 _ rfl
  have p1 : w1.cell? ⟨w.heap.size, 1, none⟩ = some (.int .i64 W) := b1.at_ 1 _ rfl
  have p13 : w1.cell? ⟨w.heap.size, 13, none⟩ = some (.bool false) := b1.at_ 13 _ rfl
  have K1 := Lib.hid k0
  have B1 := Lib.hid b1
  have R1 := Lib.hid r1
  clear b1 r1 k0
  have hc3 : ¬ W < c + d := by omega
  have hw1 : IntKind.i64.wrap d = d := IntWalk.i64_in _ (by omega)
  have hw2 : IntKind.i64.wrap (c + d) = c + d := IntWalk.i64_in _ (by omega)
  clear d0 d1 c0 c1
  go_enter Tryd.func95, Tryd.ntmps95
  go_wp2_with (first
    | (refine stF rfl _ szI _ _ rfl 9 rfl rfl B1.out rfl (Nat.le_of_ble_eq_true rfl) rfl #[.int .u32 id, .int .i64 W, .int .i64 st, .int .i64 fr, .bool mine, .bool acc, (.slice A1 n1 k1), .bool cl, .bool false, .int .i64 (c + d), (.slice A2 n2 k2), .int .i64 l, .int .i64 o, .bool false, .bool td, .bool false, .bool false] rfl ?_; intro w2 i2 c2; have B2 := Lib.hid i2; have R2 := Lib.hid (R1.out.chg c2 (Nat.succ_ne_self _)); have K2 := Lib.hid (chg2 K1.out c2 (by omega)); clear i2 c2; have p13 : w2.cell? ⟨w.heap.size, 13, none⟩ = some (.bool false) := B2.out.at_ 13 _ rfl)
    | (refine ldS rfl _ rfl rfl B2.out rfl ?_))
  refine (qend _ _ _ _ _ _ _ _ _ _ _ _ _ _ _ _ _ _ _ _ _ _ ).mono ?_
  rintro e w3 ⟨rfl, c3⟩
  have B3 := Lib.hid (B2.out.chg c3 fun f => f)
  have R3 := Lib.hid (R2.out.chg c3 fun f => f)
  have K3 := Lib.hid (K2.out.trans c3)
  clear c3
  go_wp2_with (first
    | (refine stS rfl _ _ rfl rfl rfl B3.out rfl rfl rfl ?_; intro w4 i4 c4; have B4 := Lib.hid i4; have R4 := Lib.hid (R3.out.chg c4 (Nat.succ_ne_self _)); have K4 := Lib.hid (chg2 K3.out c4 (by omega)); clear i4 c4)
    | (refine ldS rfl _ rfl rfl B4.out rfl ?_)
    | (refine stS rfl _ _ rfl rfl rfl R4.out rfl rfl rfl ?_; intro w5 i5 c5; have R5 := Lib.hid i5; have B5 := Lib.hid (B4.out.chg c5 (Nat.ne_of_lt (Nat.lt_succ_self _))); have K5 := Lib.hid (chg2 K4.out c5 (by omega)); clear i5 c5))
  refine bodyPost_ret (results_c2 rfl _ rfl R5.out Tryd.underlying51 rfl szS rfl) rfl ?_
  exact ⟨rfl, K5.out⟩
theorem qgn_fL (d : Int) : Calls Tryd.prog 95 #[.agg #[.int .u32 id, .int .i64 W, .int .i64 st, .int .i64 fr, .bool mine, .bool acc, (.slice A1 n1 k1), .bool cl, .bool true, .int .i64 c, (.slice A2 n2 k2), .int .i64 l, .int .i64 o, .bool li, .bool td, .bool false, .bool false], .int .u32 d, .bool false] w fun e w' => e = .returned (.tuple #[.agg #[.int .u32 id, .int .i64 W, .int .i64 st, .int .i64 fr, .bool mine, .bool acc, (.slice A1 n1 k1), .bool cl, .bool true, .int .i64 c, (.slice A2 n2 k2), .int .i64 l, .int .i64 o, .bool li, .bool td, .bool false, .bool false], .int .i64 0]) ∧ Chg none_ w w' := by
  obtain ⟨w1, hw1⟩ : ∃ y, (w.alloc (.cells #[.int .u32 id, .int .i64 W, .int .i64 st, .int .i64 fr, .bool mine, .bool acc, (.slice A1 n1 k1), .bool cl, .bool true, .int .i64 c, (.slice A2 n2 k2), .int .i64 l, .int .i64 o, .bool li, .bool td, .bool false, .bool false] 51)).alloc (.cells #[.int .u32 0, .int .i64 0, .int .i64 0, .int .i64 0, .bool false, .bool false, .slice none 0 0, .bool false, .bool false, .int .i64 0, .slice none 0 0, .int .i64 0, .int .i64 0, .bool false, .bool false, .bool false, .bool false] 51) = y := ⟨_, rfl⟩
  have k0 : Chg none_ w w1 := by rw [← hw1]; exact ((Chg.refl none_ w).alloc _).alloc _
  have b1 : Is w1 w.heap.size 51 #[.int .u32 id, .int .i64 W, .int .i64 st, .int .i64 fr, .bool mine, .bool acc, (.slice A1 n1 k1), .bool cl, .bool true, .int .i64 c, (.slice A2 n2 k2), .int .i64 l, .int .i64 o, .bool li, .bool td, .bool false, .bool false] := by rw [← hw1]; exact (Is.new w _ _).alloc _
  have r1 : Is w1 (w.heap.size + 1) 51 #[.int .u32 0, .int .i64 0, .int .i64 0, .int .i64 0, .bool false, .bool false, .slice none 0 0, .bool false, .bool false, .int .i64 0, .slice none 0 0, .int .i64 0, .int .i64 0, .bool false, .bool false, .bool false, .bool false] := by rw [← hw1]; exact isn2 w _ _ _
  have p15 : w1.cell? ⟨w.heap.size, 15, none⟩ = some (.bool false) := b1.at_ 15 _ rfl
  have p16 : w1.cell? ⟨w.heap.size, 16, none⟩ = some (.bool false) := b1.at_ 16 _ rfl
  have p8 : w1.cell? ⟨w.heap.size, 8, none⟩ = some (.bool true) := b1.at_ 8 _ rfl
  have p9 : w1.cell? ⟨w.heap.size, 9, none⟩ = some (.int .i64 c) := b1.at_ 9 _ rfl
  have p1 : w1.cell? ⟨w.heap.size, 1, none⟩ = some (.int .i64 W) := b1.at_ 1 _ rfl
  have p13 : w1.cell? ⟨w.heap.size, 13, none⟩ = some (.bool li) := b1.at_ 13 _ rfl
  have K1 := Lib.hid k0
  have B1 := Lib.hid b1
  have R1 := Lib.hid r1
  clear b1 r1 k0
  go_enter Tryd.func95, Tryd.ntmps95
  go_wp2_with (first
    | (refine ldS rfl _ rfl rfl B1.out rfl ?_)
    | (refine stS rfl _ _ rfl rfl rfl R1.out rfl rfl rfl ?_; intro w2 i2 c2; have R2 := Lib.hid i2; have B2 := Lib.hid (B1.out.chg c2 (Nat.ne_of_lt (Nat.lt_succ_self _))); have K2 := Lib.hid (chg2 K1.out c2 (by omega)); clear i2 c2))
  refine bodyPost_ret (results_c2 rfl _ rfl R2.out Tryd.underlying51 rfl szS rfl) rfl ?_
  exact ⟨rfl, K2.out⟩
theorem qgn_lL (d : Int) : Calls Tryd.prog 95 #[.agg #[.int .u32 id, .int .i64 W, .int .i64 st, .int .i64 fr, .bool mine, .bool acc, (.slice A1 n1 k1), .bool cl, .bool true, .int .i64 c, (.slice A2 n2 k2), .int .i64 l, .int .i64 o, .bool true, .bool td, .bool false, .bool false], .int .u32 d, .bool true] w fun e w' => e = .returned (.tuple #[.agg #[.int .u32 id, .int .i64 W, .int .i64 st, .int .i64 fr, .bool mine, .bool acc, (.slice A1 n1 k1), .bool cl, .bool true, .int .i64 c, (.slice A2 n2 k2), .int .i64 l, .int .i64 o, .bool true, .bool td, .bool false, .bool false], .int .i64 0]) ∧ Chg none_ w w' := by
  obtain ⟨w1, hw1⟩ : ∃ y, (w.alloc (.cells #[.int .u32 id, .int .i64 W, .int .i64 st, .int .i64 fr, .bool mine, .bool acc, (.slice A1 n1 k1), .bool cl, .bool true, .int .i64 c, (.slice A2 n2 k2), .int .i64 l, .int .i64 o, .bool true, .bool td, .bool false, .bool false] 51)).alloc (.cells #[.int .u32 0, .int .i64 0, .int .i64 0, .int .i64 0, .bool false, .bool false, .slice none 0 0, .bool false, .bool false, .int .i64 0, .slice none 0 0, .int .i64 0, .int .i64 0, .bool false, .bool false, .bool false, .bool false] 51) = y := ⟨_, rfl⟩
  have k0 : Chg none_ w w1 := by rw [← hw1]; exact ((Chg.refl none_ w).alloc _).alloc _
  have b1 : Is w1 w.heap.size 51 #[.int .u32 id, .int .i64 W, .int .i64 st, .int .i64 fr, .bool mine, .bool acc, (.slice A1 n1 k1), .bool cl, .bool true, .int .i64 c, (.slice A2 n2 k2), .int .i64 l, .int .i64 o, .bool true, .bool td, .bool false, .bool false] := by rw [← hw1]; exact (Is.new w _ _).alloc _
  have r1 : Is w1 (w.heap.size + 1) 51 #[.int .u32 0, .int .i64 0, .int .i64 0, .int .i64 0, .bool false, .bool false, .slice none 0 0, .bool false, .bool false, .int .i64 0, .slice none 0 0, .int .i64 0, .int .i64 0, .bool false, .bool false, .bool false, .bool false] := by rw [← hw1]; exact isn2 w _ _ _
  have p15 : w1.cell? ⟨w.heap.size, 15, none⟩ = some (.bool false) := b1.at_ 15 _ rfl
  have p16 : w1.cell? ⟨w.heap.size, 16, none⟩ = some (.bool false) := b1.at_ 16 _ rfl
  have p8 : w1.cell? ⟨w.heap.size, 8, none⟩ = some (.bool true) := b1.at_ 8 _ rfl
  have p9 : w1.cell? ⟨w.heap.size, 9, none⟩ = some (.int .i64 c) := b1.at_ 9 _ rfl
  have p1 : w1.cell? ⟨w.heap.size, 1, none⟩ = some (.int .i64 W) := b1.at_ 1 _ rfl
  have p13 : w1.cell? ⟨w.heap.size, 13, none⟩ = some (.bool true) := b1.at_ 13 _ rfl
  have K1 := Lib.hid k0
  have B1 := Lib.hid b1
  have R1 := Lib.hid r1
  clear b1 r1 k0
  go_enter Tryd.func95, Tryd.ntmps95
  go_wp2_with (first
    | (refine ldS rfl _ rfl rfl B1.out rfl ?_)
    | (refine stS rfl _ _ rfl rfl rfl R1.out rfl rfl rfl ?_; intro w2 i2 c2; have R2 := Lib.hid i2; have B2 := Lib.hid (B1.out.chg c2 (Nat.ne_of_lt (Nat.lt_succ_self _))); have K2 := Lib.hid (chg2 K1.out c2 (by omega)); clear i2 c2))
  refine bodyPost_ret (results_c2 rfl _ rfl R2.out Tryd.underlying51 rfl szS rfl) rfl ?_
  exact ⟨rfl, K2.out⟩
theorem qgn_eL (d : Int) : Calls Tryd.prog 95 #[.agg #[.int .u32 id, .int .i64 W, .int .i64 st, .int .i64 fr, .bool mine, .bool acc, (.slice A1 n1 k1), .bool cl, .bool true, .int .i64 c, (.slice A2 n2 k2), .int .i64 l, .int .i64 o, .bool false, .bool td, .bool false, .bool false], .int .u32 d, .bool true] w fun e w' => e = .returned (.tuple #[.agg #[.int .u32 id, .int .i64 W, .int .i64 st, .int .i64 fr, .bool mine, .bool acc, (.slice A1 n1 k1), .bool cl, .bool true, .int .i64 c, (.slice A2 n2 k2), .int .i64 0, .int .i64 0, .bool true, .bool td, .bool false, .bool false], .int .i64 0]) ∧ Chg none_ w w' := by
  obtain ⟨w1, hw1⟩ : ∃ y, (w.alloc (.cells #[.int .u32 id, .int .i64 W, .int .i64 st, .int .i64 fr, .bool mine, .bool acc, (.slice A1 n1 k1), .bool cl, .bool true, .int .i64 c, (.slice A2 n2 k2), .int .i64 l, .int .i64 o, .bool false, .bool td, .bool false, .bool false] 51)).alloc (.cells #[.int .u32 0, .int .i64 0, .int .i64 0, .int .i64 0, .bool false, .bool false, .slice none 0 0, .bool false, .bool false, .int .i64 0, .slice none 0 0, .int .i64 0, .int .i64 0, .bool false, .bool false, .bool false, .bool false] 51) = y := ⟨_, rfl⟩
  have k0 : Chg none_ w w1 := by rw [← hw1]; exact ((Chg.refl none_ w).alloc _).alloc _
  have b1 : Is w1 w.heap.size 51 #[.int .u32 id, .int .i64 W, .int .i64 st, .int .i64 fr, .bool mine, .bool acc, (.slice A1 n1 k1), .bool cl, .bool true, .int .i64 c, (.slice A2 n2 k2), .int .i64 l, .int .i64 o, .bool false, .bool td, .bool false, .bool false] := by rw [← hw1]; exact (Is.new w _ _).alloc _
  have r1 : Is w1 (w.heap.size + 1) 51 #[.int .u32 0, .int .i64 0, .int .i64 0, .int .i64 0, .bool false, .bool false, .slice none 0 0, .bool false, .bool false, .int .i64 0, .slice none 0 0, .int .i64 0, .int .i64 0, .bool false, .bool false, .bool false, .bool false] := by rw [← hw1]; exact isn2 w _ _ _
  have p15 : w1.cell? ⟨w.heap.size, 15, none⟩ = some (.bool false) := b1.at_ 15 _ rfl
  have p16 : w1.cell? ⟨w.heap.size, 16, none⟩ = some (.bool false) := b1.at_ 16 _ rfl
  have p8 : w1.cell? ⟨w.heap.size, 8, none⟩ = some (.bool true) := b1.at_ 8 _ rfl
  have p9 : w1.cell? ⟨w.heap.size, 9, none⟩ = some (.int .i64 c) := b1.at_ 9 _ rfl
  have p1 : w1.cell? ⟨w.heap.size, 1, none⟩ = some (.int .i64 W) := b1.at_ 1 _ rfl
  have p13 : w1.cell? ⟨w.heap.size, 13, none⟩ = some (.bool false) := b1.at_ 13 _ rfl
  have K1 := Lib.hid k0
  have B1 := Lib.hid b1
  have R1 := Lib.hid r1
  clear b1 r1 k0
  go_enter Tryd.func95, Tryd.ntmps95
  go_wp2_with (first
    | (refine ldS rfl _ rfl rfl B1.out rfl ?_))
  refine (qend _ _ _ _ _ _ _ _ _ _ _ _ _ _ _ _ _ _ _ _ _ _ ).mono ?_
  rintro e w2 ⟨rfl, c2⟩
  have B2 := Lib.hid (B1.out.chg c2 fun f => f)
  have R2 := Lib.hid (R1.out.chg c2 fun f => f)
  have K2 := Lib.hid (K1.out.trans c2)
  clear c2
  go_wp2_with (first
    | (refine stS rfl _ _ rfl rfl rfl B2.out rfl rfl rfl ?_; intro w3 i3 c3; have B3 := Lib.hid i3; have R3 := Lib.hid (R2.out.chg c3 (Nat.succ_ne_self _)); have K3 := Lib.hid (chg2 K2.out c3 (by omega)); clear i3 c3)
    | (refine ldS rfl _ rfl rfl B3.out rfl ?_)
    | (refine stS rfl _ _ rfl rfl rfl R3.out rfl rfl rfl ?_; intro w4 i4 c4; have R4 := Lib.hid i4; have B4 := Lib.hid (B3.out.chg c4 (Nat.ne_of_lt (Nat.lt_succ_self _))); have K4 := Lib.hid (chg2 K3.out c4 (by omega)); clear i4 c4))
  refine bodyPost_ret (results_c2 rfl _ rfl R4.out Tryd.underlying51 rfl szS rfl) rfl ?_
  exact ⟨rfl, K4.out⟩
theorem Is.drew1_ {w : World} {g : Nat} {t : TypeId} {cs : Array Value} (h : Is w g t cs) : Is w.drew g t cs := h
theorem rd_take' {kd : IntKind} {w : World} {A : Option Addr} {n : Nat} {zs : List Int} (h : Rd w A n fun i => .int kd (zs.getD i 0)) {k : Nat} (hk : k ≤ n) : Rd w A k fun i => .int kd ((zs.take k).getD i 0) := fun hn => by
  obtain ⟨ad, e, h⟩ := h (by omega)
  refine ⟨ad, e, fun i hi => ?_⟩
  have e1 : (zs.take k).getD i 0 = zs.getD i 0 := by rw [List.getD_eq_getElem?_getD, List.getD_eq_getElem?_getD, List.getElem?_take, if_pos hi]
  show _ = some (Value.int kd ((zs.take k).getD i 0))
  rw [e1]
  exact h i (by omega)
theorem step_append_b {w : World} {ops : Array Oper} {o : Oper} {a : Act} {Q : Exit → Act → World → Prop} {base : Nat} {v : Value} {n : Nat} {K : Act → World → Prop} {E : Prop} (hgd : o.guard = none) (s x : Operand) (ho : o.op = .call { callee := .builtin .append, args := #[s, x], argTypes := #[23, 23] })
    {olds : List Value} (hs : a.eval s = v) (hown : Ob w base 5 v n olds) (A : Option Addr) (m c : Nat) (xs : List Int) (hx : a.eval x = .slice A m c) (hl : xs.length = m) (hr : Rd w A m fun i => .int .u8 (xs.getD i 0))
    (hb : n + m ≤ 140737488355328) (hbase : base ≤ w.heap.size)
    (h : ∀ v' w', Ob w' base 5 v' (n + m) (olds ++ xs.map (Value.int .u8)) → w.grownBy w' (obk v) → (obk v' = obk v ∨ obk v' = some w.heap.size) → K (a.put o.dst v') w') : if Region.wanted o (yielded ops a.tmps) = true then Oper.wp Tryd.prog o a w K Q else E := by
  obtain ⟨i0, hi, hz0, hz1, hz2⟩ := info_parts Tryd.infoU8
  exact step_append_ob hgd s x _ ho i0 _ 1 Tryd.underlying23 hi hz0 hz1 hz2 rfl hs hown A m c (xs.map (Value.int .u8)) hx (by simpa using hl) (rd_ints hl hr) (ints_one _) (by simp only [maxLen]; omega) (by omega) hbase fun v' w' h1 h2 h3 _ => h v' w' h1 h2 h3
theorem qwr26 (A3 : Option Addr) (n3 k3 : Nat) : Calls Tryd.prog 88 #[.agg #[.int .u32 id, .int .i64 W, .int .i64 st, .int .i64 fr, .bool mine, .bool acc, (.slice A1 n1 k1), .bool cl, .bool lo, .int .i64 c, (.slice A2 n2 k2), .int .i64 l, .int .i64 o, .bool li, .bool td, .bool true, .bool ct], .slice A3 n3 k3] w fun e w' => e = .returned (.tuple #[.agg #[.int .u32 id, .int .i64 W, .int .i64 st, .int .i64 fr, .bool mine, .bool acc, (.slice A1 n1 k1), .bool cl, .bool lo, .int .i64 c, (.slice A2 n2 k2), .int .i64 l, .int .i64 o, .bool li, .bool td, .bool true, .bool ct], .int .i64 0, .int .i64 26]) ∧ Chg none_ w w' := by
  go_enter Tryd.func88, Tryd.ntmps88
  go_wp2_with (refine ldS rfl _ rfl rfl ((Is.new w _ _).alloc _) rfl ?_)
  refine (qgone26 _ _ _ _ _ _ _ _ _ _ _ _ _ _ _ _ _ _ _ _ _ ).mono ?_
  rintro e w1 ⟨rfl, kk⟩
  have k0 : Chg none_ w w1 := (((Chg.refl none_ w).alloc _).alloc _).trans kk
  have b1 : Is w1 w.heap.size 51 #[.int .u32 id, .int .i64 W, .int .i64 st, .int .i64 fr, .bool mine, .bool acc, (.slice A1 n1 k1), .bool cl, .bool lo, .int .i64 c, (.slice A2 n2 k2), .int .i64 l, .int .i64 o, .bool li, .bool td, .bool true, .bool ct] := ((Is.new w 51 #[.int .u32 id, .int .i64 W, .int .i64 st, .int .i64 fr, .bool mine, .bool acc, (.slice A1 n1 k1), .bool cl, .bool lo, .int .i64 c, (.slice A2 n2 k2), .int .i64 l, .int .i64 o, .bool li, .bool td, .bool true, .bool ct]).alloc _).chg kk (fun f => f)
  have r1 : Is w1 (w.heap.size + 1) 51 #[.int .u32 0, .int .i64 0, .int .i64 0, .int .i64 0, .bool false, .bool false, .slice none 0 0, .bool false, .bool false, .int .i64 0, .slice none 0 0, .int .i64 0, .int .i64 0, .bool false, .bool false, .bool false, .bool false] := (isn2 w _ 51 #[.int .u32 0, .int .i64 0, .int .i64 0, .int .i64 0, .bool false, .bool false, .slice none 0 0, .bool false, .bool false, .int .i64 0, .slice none 0 0, .int .i64 0, .int .i64 0, .bool false, .bool false, .bool false, .bool false]).chg kk (fun f => f)
  have K0 := Lib.hid k0
  have B1 := Lib.hid b1
  have R1 := Lib.hid r1
  clear b1 r1 kk k0
  have K1 := K0
  go_wp2_with (first
    | (refine ldS rfl _ rfl rfl B1.out rfl ?_)
    | (refine stS rfl _ _ rfl rfl rfl R1.out rfl rfl rfl ?_; intro w2 i2 c2; have R2 := Lib.hid i2; have B2 := Lib.hid (B1.out.chg c2 (Nat.ne_of_lt (Nat.lt_succ_self _))); have K2 := Lib.hid (chg2 K1.out c2 (by omega)); clear i2 c2))
  refine bodyPost_ret (results_c3 rfl _ rfl R2.out Tryd.underlying51 rfl szS rfl rfl) rfl ?_
  exact ⟨rfl, K2.out⟩
theorem qwr27 (A3 : Option Addr) (n3 k3 : Nat) : Calls Tryd.prog 88 #[.agg #[.int .u32 id, .int .i64 W, .int .i64 st, .int .i64 fr, .bool mine, .bool acc, (.slice A1 n1 k1), .bool cl, .bool lo, .int .i64 c, (.slice A2 n2 k2), .int .i64 l, .int .i64 o, .bool li, .bool td, .bool false, .bool true], .slice A3 n3 k3] w fun e w' => e = .returned (.tuple #[.agg #[.int .u32 id, .int .i64 W, .int .i64 st, .int .i64 fr, .bool mine, .bool acc, (.slice A1 n1 k1), .bool cl, .bool lo, .int .i64 c, (.slice A2 n2 k2), .int .i64 l, .int .i64 o, .bool li, .bool td, .bool false, .bool true], .int .i64 0, .int .i64 27]) ∧ Chg none_ w w' := by
  go_enter Tryd.func88, Tryd.ntmps88
  go_wp2_with (refine ldS rfl _ rfl rfl ((Is.new w _ _).alloc _) rfl ?_)
  refine (qgone27 _ _ _ _ _ _ _ _ _ _ _ _ _ _ _ _ _ _ _ _ ).mono ?_
  rintro e w1 ⟨rfl, kk⟩
  have k0 : Chg none_ w w1 := (((Chg.refl none_ w).alloc _).alloc _).trans kk
  have b1 : Is w1 w.heap.size 51 #[.int .u32 id, .int .i64 W, .int .i64 st, .int .i64 fr, .bool mine, .bool acc, (.slice A1 n1 k1), .bool cl, .bool lo, .int .i64 c, (.slice A2 n2 k2), .int .i64 l, .int .i64 o, .bool li, .bool td, .bool false, .bool true] := ((Is.new w 51 #[.int .u32 id, .int .i64 W, .int .i64 st, .int .i64 fr, .bool mine, .bool acc, (.slice A1 n1 k1), .bool cl, .bool lo, .int .i64 c, (.slice A2 n2 k2), .int .i64 l, .int .i64 o, .bool li, .bool td, .bool false, .bool true]).alloc _).chg kk (fun f => f)
  have r1 : Is w1 (w.heap.size + 1) 51 #[.int .u32 0, .int .i64 0, .int .i64 0, .int .i64 0, .bool false, .bool false, .slice none 0 0, .bool false, .bool false, .int .i64 0, .slice none 0 0, .int .i64 0, .int .i64 0, .bool false, .bool false, .bool false, .bool false] := (isn2 w _ 51 #[.int .u32 0, .int .i64 0, .int .i64 0, .int .i64 0, .bool false, .bool false, .slice none 0 0, .bool false, .bool false, .int .i64 0, .slice none 0 0, .int .i64 0, .int .i64 0, .bool false, .bool false, .bool false, .bool false]).chg kk (fun f => f)
  have K0 := Lib.hid k0
  have B1 := Lib.hid b1
  have R1 := Lib.hid r1
  clear b1 r1 kk k0
  have K1 := K0
  go_wp2_with (first
    | (refine ldS rfl _ rfl rfl B1.out rfl ?_)
    | (refine stS rfl _ _ rfl rfl rfl R1.out rfl rfl rfl ?_; intro w2 i2 c2; have R2 := Lib.hid i2; have B2 := Lib.hid (B1.out.chg c2 (Nat.ne_of_lt (Nat.lt_succ_self _))); have K2 := Lib.hid (chg2 K1.out c2 (by omega)); clear i2 c2))
  refine bodyPost_ret (results_c3 rfl _ rfl R2.out Tryd.underlying51 rfl szS rfl rfl) rfl ?_
  exact ⟨rfl, K2.out⟩
theorem qwr24 (A3 : Option Addr) (n3 k3 : Nat) : Calls Tryd.prog 88 #[.agg #[.int .u32 id, .int .i64 W, .int .i64 st, .int .i64 fr, .bool mine, .bool acc, (.slice A1 n1 k1), .bool true, .bool lo, .int .i64 c, (.slice A2 n2 k2), .int .i64 l, .int .i64 o, .bool li, .bool td, .bool false, .bool false], .slice A3 n3 k3] w fun e w' => e = .returned (.tuple #[.agg #[.int .u32 id, .int .i64 W, .int .i64 st, .int .i64 fr, .bool mine, .bool acc, (.slice A1 n1 k1), .bool true, .bool lo, .int .i64 c, (.slice A2 n2 k2), .int .i64 l, .int .i64 o, .bool li, .bool td, .bool false, .bool false], .int .i64 0, .int .i64 24]) ∧ Chg none_ w w' := by
  go_enter Tryd.func88, Tryd.ntmps88
  go_wp2_with (refine ldS rfl _ rfl rfl ((Is.new w _ _).alloc _) rfl ?_)
  refine (qgone0 _ _ _ _ _ _ _ _ _ _ _ _ _ _ _ _ _ _ _ _ ).mono ?_
  rintro e w1 ⟨rfl, kk⟩
  have k0 : Chg none_ w w1 := (((Chg.refl none_ w).alloc _).alloc _).trans kk
  have b1 : Is w1 w.heap.size 51 #[.int .u32 id, .int .i64 W, .int .i64 st, .int .i64 fr, .bool mine, .bool acc, (.slice A1 n1 k1), .bool true, .bool lo, .int .i64 c, (.slice A2 n2 k2), .int .i64 l, .int .i64 o, .bool li, .bool td, .bool false, .bool false] := ((Is.new w 51 #[.int .u32 id, .int .i64 W, .int .i64 st, .int .i64 fr, .bool mine, .bool acc, (.slice A1 n1 k1), .bool true, .bool lo, .int .i64 c, (.slice A2 n2 k2), .int .i64 l, .int .i64 o, .bool li, .bool td, .bool false, .bool false]).alloc _).chg kk (fun f => f)
  have r1 : Is w1 (w.heap.size + 1) 51 #[.int .u32 0, .int .i64 0, .int .i64 0, .int .i64 0, .bool false, .bool false, .slice none 0 0, .bool false, .bool false, .int .i64 0, .slice none 0 0, .int .i64 0, .int .i64 0, .bool false, .bool false, .bool false, .bool false] := (isn2 w _ 51 #[.int .u32 0, .int .i64 0, .int .i64 0, .int .i64 0, .bool false, .bool false, .slice none 0 0, .bool false, .bool false, .int .i64 0, .slice none 0 0, .int .i64 0, .int .i64 0, .bool false, .bool false, .bool false, .bool false]).chg kk (fun f => f)
  have p7 : w1.cell? ⟨w.heap.size, 7, none⟩ = some (.bool true) := b1.at_ 7 _ rfl
  have K0 := Lib.hid k0
  have B1 := Lib.hid b1
  have R1 := Lib.hid r1
  clear b1 r1 kk k0
  have K1 := K0
  go_wp2_with (first
    | (refine ldS rfl _ rfl rfl B1.out rfl ?_)
    | (refine stS rfl _ _ rfl rfl rfl R1.out rfl rfl rfl ?_; intro w2 i2 c2; have R2 := Lib.hid i2; have B2 := Lib.hid (B1.out.chg c2 (Nat.ne_of_lt (Nat.lt_succ_self _))); have K2 := Lib.hid (chg2 K1.out c2 (by omega)); clear i2 c2))
  refine bodyPost_ret (results_c3 rfl _ rfl R2.out Tryd.underlying51 rfl szS rfl rfl) rfl ?_
  exact ⟨rfl, K2.out⟩
theorem qwr_all (A3 : Option Addr) (n3 k3 : Nat) (us ys : List Int) (hu : us.length = n1) (hy : ys.length = n3) (bu : Byt us) (by_ : Byt ys) (hru : Rd w A1 n1 fun i => .int .u8 (us.getD i 0)) (hry : Rd w A3 n3 fun i => .int .u8 (ys.getD i 0)) (h2 : n1 ≤ 4294967296) (h3 : n3 ≤ 140733193388032) (h4 : n3 ≤ k3) (s0 : 0 ≤ st) (s1 : st ≤ 4294967296) (hr : (n3 : Int) ≤ st - n1) : Calls Tryd.prog 88 #[.agg #[.int .u32 id, .int .i64 W, .int .i64 st, .int .i64 fr, .bool mine, .bool acc, (.slice A1 n1 k1), .bool false, .bool lo, .int .i64 c, (.slice A2 n2 k2), .int .i64 l, .int .i64 o, .bool li, .bool td, .bool false, .bool false], .slice A3 n3 k3] w fun e w' => ∃ A5 k5, e = .returned (.tuple #[.agg #[.int .u32 id, .int .i64 W, .int .i64 st, .int .i64 fr, .bool mine, .bool acc, (.slice A5 (n1 + n3) k5), .bool false, .bool lo, .int .i64 c, (.slice A2 n2 k2), .int .i64 l, .int .i64 o, .bool li, .bool td, .bool false, .bool false], .int .i64 (n3 : Int), .int .i64 0]) ∧ BsO w' (.slice A5 (n1 + n3) k5) (us ++ ys) ∧ (∀ k, rdk (.slice A5 (n1 + n3) k5) = some k → w.heap.size ≤ k ∧ k < w'.heap.size) ∧ Chg none_ w w' := by
  have HRu : Hid (∀ u, Chg none_ w u → Rd u A1 n1 fun i => .int .u8 (us.getD i 0)) := fun u hc => hru.keep (hc.old (Nat.le_refl _))
  have HRy : Hid (∀ u, Chg none_ w u → Rd u A3 n3 fun i => .int .u8 (ys.getD i 0)) := fun u hc => hry.keep (hc.old (Nat.le_refl _))
  have HBy : Hid (Byt (us ++ ys)) := fun z hz => (List.mem_append.1 hz).elim (bu z) (by_ z)
  have HLn : Hid (us.length = n1 ∧ ys.length = n3) := ⟨hu, hy⟩
  have hw : IntKind.i64.wrap (st - (n1 : Int)) = st - (n1 : Int) := IntWalk.i64_in _ (by omega)
  have hg : ¬ st - (n1 : Int) < (n3 : Int) := by omega
  have hk1 : (n3 : Int) ≤ (k3 : Int) := by omega
  clear hru hry bu by_ hu hy s0 s1
  go_enter Tryd.func88, Tryd.ntmps88
  go_wp2_with (refine ldS rfl _ rfl rfl ((Is.new w _ _).alloc _) rfl ?_)
  refine (qgone0 _ _ _ _ _ _ _ _ _ _ _ _ _ _ _ _ _ _ _ _ ).mono ?_
  rintro e w1 ⟨rfl, kk⟩
  have k0 : Chg none_ w w1 := (((Chg.refl none_ w).alloc _).alloc _).trans kk
  have b1 : Is w1 w.heap.size 51 #[.int .u32 id, .int .i64 W, .int .i64 st, .int .i64 fr, .bool mine, .bool acc, (.slice A1 n1 k1), .bool false, .bool lo, .int .i64 c, (.slice A2 n2 k2), .int .i64 l, .int .i64 o, .bool li, .bool td, .bool false, .bool false] := ((Is.new w 51 #[.int .u32 id, .int .i64 W, .int .i64 st, .int .i64 fr, .bool mine, .bool acc, (.slice A1 n1 k1), .bool false, .bool lo, .int .i64 c, (.slice A2 n2 k2), .int .i64 l, .int .i64 o, .bool li, .bool td, .bool false, .bool false]).alloc _).chg kk (fun f => f)
  have r1 : Is w1 (w.heap.size + 1) 51 #[.int .u32 0, .int .i64 0, .int .i64 0, .int .i64 0, .bool false, .bool false, .slice none 0 0, .bool false, .bool false, .int .i64 0, .slice none 0 0, .int .i64 0, .int .i64 0, .bool false, .bool false, .bool false, .bool false] := (isn2 w _ 51 #[.int .u32 0, .int .i64 0, .int .i64 0, .int .i64 0, .bool false, .bool false, .slice none 0 0, .bool false, .bool false, .int .i64 0, .slice none 0 0, .int .i64 0, .int .i64 0, .bool false, .bool false, .bool false, .bool false]).chg kk (fun f => f)
  have p7 : w1.cell? ⟨w.heap.size, 7, none⟩ = some (.bool false) := b1.at_ 7 _ rfl
  have p2 : w1.cell? ⟨w.heap.size, 2, none⟩ = some (.int .i64 st) := b1.at_ 2 _ rfl
  have p6 : w1.cell? ⟨w.heap.size, 6, none⟩ = some ((.slice A1 n1 k1)) := b1.at_ 6 _ rfl
  have K1 := Lib.hid k0
  have B1 := Lib.hid b1
  have R1 := Lib.hid r1
  have a6 : ∀ (o : Obj), (w1.alloc o).drew.cell? ⟨w.heap.size, 6, none⟩ = some (.slice A1 n1 k1) := fun o => (Is.drew1_ (Is.alloc B1.out o)).at_ 6 _ rfl
  clear b1 r1 kk k0
  go_upto_region 9 with fail
  go_cut [] (fun wx => ∃ A3_ k3_, Is wx w.heap.size 51 #[.int .u32 id, .int .i64 W, .int .i64 st, .int .i64 fr, .bool mine, .bool acc, (.slice A3_ (n1 + n3) k3_), .bool false, .bool lo, .int .i64 c, (.slice A2 n2 k2), .int .i64 l, .int .i64 o, .bool li, .bool td, .bool false, .bool false] ∧ Is wx (w.heap.size + 1) 51 #[.int .u32 0, .int .i64 0, .int .i64 0, .int .i64 0, .bool false, .bool false, .slice none 0 0, .bool false, .bool false, .int .i64 0, .slice none 0 0, .int .i64 0, .int .i64 0, .bool false, .bool false, .bool false, .bool false] ∧ Ob wx (w.heap.size + 2) 5 (.slice A3_ (n1 + n3) k3_) (n1 + n3) (u8s us ++ ys.map (Value.int .u8)) ∧ Chg none_ w wx)
  case first =>
    go_region_law (first
      | (refine step_append_b (v := .slice (some ⟨w1.heap.size, 0, none⟩) 0 0) rfl (.tmp 34) (.tmp 36) rfl rfl (ob_nil _ (w.heap.size + 2) _ _) A1 n1 k1 us rfl HLn.out.1 (HRu.out _ (K1.out.alloc _).drew) (by omega) ?hz2 ?_
         (case hz2 => have := R1.out.lt; simp; omega)
         intro v2 w2 h1 h2 h3
         simp only [Nat.zero_add, List.nil_append] at h1
         obtain ⟨A2_, k2_, rfl, _, _⟩ := h1.slice
         have X2 := Lib.hid h1
         have B2 := Lib.hid ((Is.drew1_ (Is.alloc B1.out _)).grown_ h2 (by simp [obk]))
         have R2 := Lib.hid ((Is.drew1_ (Is.alloc R1.out _)).grown_ h2 (by simp [obk]))
         have K2 := Lib.hid ((K1.out.alloc _).drew.grown h2 fun k hk _ => by simp [obk] at hk)
         have p6 : w2.cell? ⟨w.heap.size, 6, none⟩ = some (.slice A1 n1 k1) := B2.out.at_ 6 _ rfl
         have f6 : w2.frozen? ⟨w.heap.size, 6, none⟩ = false := B2.out.frozen 6
         clear h1 h2 h3)
      | (refine step_append_b (v := .slice A2_ n1 k2_) rfl (.tmp 37) (.tmp 40) rfl rfl X2.out A3 n3 k3 ys rfl HLn.out.2 (HRy.out _ K2.out) (by omega) ?hz3 ?_
         (case hz3 => have := R2.out.lt; omega)
         intro v3 w3 h1 h2 h3
         obtain ⟨A3_, k3_, rfl, _, _⟩ := h1.slice
         have O3 := Lib.hid h1
         have B3 := Lib.hid (B2.out.grown_ h2 (fun e => by have := (X2.out.block _ e).1; omega))
         have R3 := Lib.hid (R2.out.grown_ h2 (fun e => by have := (X2.out.block _ e).1; omega))
         have K3 := Lib.hid (K2.out.grown h2 fun k hk _ => by have := (X2.out.block k hk).1; omega)
         have p6 : w3.cell? ⟨w.heap.size, 6, none⟩ = some (.slice A1 n1 k1) := B3.out.at_ 6 _ rfl
         have f6 : w3.frozen? ⟨w.heap.size, 6, none⟩ = false := B3.out.frozen 6
         clear h1 h2 h3))
    all_goals (
      go_wp2_with fail
      go_meet
      have c4 : Chg (fun k => k = w.heap.size) w3 (w3.setCell ⟨w.heap.size, 6, none⟩ (.slice A3_ (n1 + n3) k3_)) := (Chg.refl (fun k => k = w.heap.size) w3).setCell (p := ⟨w.heap.size, 6, none⟩) (fun _ => rfl) _
      exact ⟨_, _, B3.out.put 6 _, R3.out.chg c4 (Nat.succ_ne_self _), O3.out.chg c4 (fun k hk e => by have := (O3.out.block k hk).1; omega), chg2 K3.out c4 (by omega)⟩)
  case rest =>
    obtain ⟨w4, rfl⟩ : ∃ y, y = wc := ⟨_, rfl⟩
    obtain ⟨A3_, k3_, b4, r4, o4, q4⟩ := hcut
    have B4 := Lib.hid b4
    have R4 := Lib.hid r4
    have K4 := Lib.hid q4
    have O4 := Lib.hid o4
    clear b4 r4 q4 o4
    go_wp2_with (first
      | (refine ldS rfl _ rfl rfl B4.out rfl ?_)
      | (refine stS rfl _ _ rfl rfl rfl R4.out rfl rfl rfl ?_; intro w5 i5 c5; have R5 := Lib.hid i5; have B5 := Lib.hid (B4.out.chg c5 (Nat.ne_of_lt (Nat.lt_succ_self _))); have K5 := Lib.hid (chg2 K4.out c5 (by omega)); have O5 := Lib.hid (O4.out.chg c5 fun k hk e => by have := (O4.out.block k hk).1; omega); clear i5 c5))
    refine bodyPost_ret (results_c3 rfl _ rfl R5.out Tryd.underlying51 rfl szS rfl rfl) rfl ?_
    have e : u8s (us ++ ys) = u8s us ++ ys.map (Value.int .u8) := List.map_append
    have HO : Ob w5 (w.heap.size + 2) 5 (.slice A3_ (n1 + n3) k3_) (n1 + n3) (u8s (us ++ ys)) := by rw [e]; exact O5.out
    exact ⟨_, _, rfl, BsO.of_ob HO HBy.out, fun k hk => by have := HO.block k (HO.rdk k hk); omega, K5.out⟩
theorem qwr_room (A3 : Option Addr) (n3 k3 : Nat) (us ys : List Int) (hu : us.length = n1) (hy : ys.length = n3) (bu : Byt us) (by_ : Byt ys) (hru : Rd w A1 n1 fun i => .int .u8 (us.getD i 0)) (hry : Rd w A3 n3 fun i => .int .u8 (ys.getD i 0)) (h2 : n1 ≤ 4294967296) (h3 : n3 ≤ 140737488355328) (h4 : n3 ≤ k3) (s0 : 0 ≤ st) (s1 : st ≤ 4294967296) (m : Nat) (hr : st - (n1 : Int) = (m : Int)) (hm : m < n3) : Calls Tryd.prog 88 #[.agg #[.int .u32 id, .int .i64 W, .int .i64 st, .int .i64 fr, .bool mine, .bool acc, (.slice A1 n1 k1), .bool false, .bool lo, .int .i64 c, (.slice A2 n2 k2), .int .i64 l, .int .i64 o, .bool li, .bool td, .bool false, .bool false], .slice A3 n3 k3] w fun e w' => ∃ A5 k5, e = .returned (.tuple #[.agg #[.int .u32 id, .int .i64 W, .int .i64 st, .int .i64 fr, .bool mine, .bool acc, (.slice A5 (n1 + m) k5), .bool false, .bool lo, .int .i64 c, (.slice A2 n2 k2), .int .i64 l, .int .i64 o, .bool li, .bool td, .bool false, .bool false], .int .i64 (m : Int), .int .i64 0]) ∧ BsO w' (.slice A5 (n1 + m) k5) (us ++ (ys.take m)) ∧ (∀ k, rdk (.slice A5 (n1 + m) k5) = some k → w.heap.size ≤ k ∧ k < w'.heap.size) ∧ Chg none_ w w' := by
  have HRu : Hid (∀ u, Chg none_ w u → Rd u A1 n1 fun i => .int .u8 (us.getD i 0)) := fun u hc => hru.keep (hc.old (Nat.le_refl _))
  have HRy : Hid (∀ u, Chg none_ w u → Rd u A3 m fun i => .int .u8 ((ys.take m).getD i 0)) := fun u hc => rd_take' (hry.keep (hc.old (Nat.le_refl _))) (by omega)
  have HBy : Hid (Byt (us ++ ys.take m)) := fun z hz => (List.mem_append.1 hz).elim (bu z) (fun hz => by_ z (List.mem_of_mem_take hz))
  have HLn : Hid (us.length = n1 ∧ (ys.take m).length = m) := ⟨hu, by rw [List.length_take, hy]; omega⟩
  have hw : IntKind.i64.wrap (st - (n1 : Int)) = st - (n1 : Int) := IntWalk.i64_in _ (by omega)
  have hg : (m : Int) < (n3 : Int) := by omega
  have hmb : m ≤ 4294967296 := by omega
  have hk1 : (m : Int) ≤ (k3 : Int) := by omega
  have hk2 : m ≤ k3 := by omega
  clear hru hry bu by_ hu hy s0 s1
  go_enter Tryd.func88, Tryd.ntmps88
  go_wp2_with (refine ldS rfl _ rfl rfl ((Is.new w _ _).alloc _) rfl ?_)
  refine (qgone0 _ _ _ _ _ _ _ _ _ _ _ _ _ _ _ _ _ _ _ _ ).mono ?_
  rintro e w1 ⟨rfl, kk⟩
  have k0 : Chg none_ w w1 := (((Chg.refl none_ w).alloc _).alloc _).trans kk
  have b1 : Is w1 w.heap.size 51 #[.int .u32 id, .int .i64 W, .int .i64 st, .int .i64 fr, .bool mine, .bool acc, (.slice A1 n1 k1), .bool false, .bool lo, .int .i64 c, (.slice A2 n2 k2), .int .i64 l, .int .i64 o, .bool li, .bool td, .bool false, .bool false] := ((Is.new w 51 #[.int .u32 id, .int .i64 W, .int .i64 st, .int .i64 fr, .bool mine, .bool acc, (.slice A1 n1 k1), .bool false, .bool lo, .int .i64 c, (.slice A2 n2 k2), .int .i64 l, .int .i64 o, .bool li, .bool td, .bool false, .bool false]).alloc _).chg kk (fun f => f)
  have r1 : Is w1 (w.heap.size + 1) 51 #[.int .u32 0, .int .i64 0, .int .i64 0, .int .i64 0, .bool false, .bool false, .slice none 0 0, .bool false, .bool false, .int .i64 0, .slice none 0 0, .int .i64 0, .int .i64 0, .bool false, .bool false, .bool false, .bool false] := (isn2 w _ 51 #[.int .u32 0, .int .i64 0, .int .i64 0, .int .i64 0, .bool false, .bool false, .slice none 0 0, .bool false, .bool false, .int .i64 0, .slice none 0 0, .int .i64 0, .int .i64 0, .bool false, .bool false, .bool false, .bool false]).chg kk (fun f => f)
  have p7 : w1.cell? ⟨w.heap.size, 7, none⟩ = some (.bool false) := b1.at_ 7 _ rfl
  have p2 : w1.cell? ⟨w.heap.size, 2, none⟩ = some (.int .i64 st) := b1.at_ 2 _ rfl
  have p6 : w1.cell? ⟨w.heap.size, 6, none⟩ = some ((.slice A1 n1 k1)) := b1.at_ 6 _ rfl
  have K1 := Lib.hid k0
  have B1 := Lib.hid b1
  have R1 := Lib.hid r1
  have a6 : ∀ (o : Obj), (w1.alloc o).drew.cell? ⟨w.heap.size, 6, none⟩ = some (.slice A1 n1 k1) := fun o => (Is.drew1_ (Is.alloc B1.out o)).at_ 6 _ rfl
  clear b1 r1 kk k0
  go_upto_region 9 with fail
  go_cut [] (fun wx => ∃ A3_ k3_, Is wx w.heap.size 51 #[.int .u32 id, .int .i64 W, .int .i64 st, .int .i64 fr, .bool mine, .bool acc, (.slice A3_ (n1 + m) k3_), .bool false, .bool lo, .int .i64 c, (.slice A2 n2 k2), .int .i64 l, .int .i64 o, .bool li, .bool td, .bool false, .bool false] ∧ Is wx (w.heap.size + 1) 51 #[.int .u32 0, .int .i64 0, .int .i64 0, .int .i64 0, .bool false, .bool false, .slice none 0 0, .bool false, .bool false, .int .i64 0, .slice none 0 0, .int .i64 0, .int .i64 0, .bool false, .bool false, .bool false, .bool false] ∧ Ob wx (w.heap.size + 2) 5 (.slice A3_ (n1 + m) k3_) (n1 + m) (u8s us ++ (ys.take m).map (Value.int .u8)) ∧ Chg none_ w wx)
  case first =>
    go_region_law (first
      | (refine step_append_b (v := .slice (some ⟨w1.heap.size, 0, none⟩) 0 0) rfl (.tmp 34) (.tmp 36) rfl rfl (ob_nil _ (w.heap.size + 2) _ _) A1 n1 k1 us rfl HLn.out.1 (HRu.out _ (K1.out.alloc _).drew) (by omega) ?hz2 ?_
         (case hz2 => have := R1.out.lt; simp; omega)
         intro v2 w2 h1 h2 h3
         simp only [Nat.zero_add, List.nil_append] at h1
         obtain ⟨A2_, k2_, rfl, _, _⟩ := h1.slice
         have X2 := Lib.hid h1
         have B2 := Lib.hid ((Is.drew1_ (Is.alloc B1.out _)).grown_ h2 (by simp [obk]))
         have R2 := Lib.hid ((Is.drew1_ (Is.alloc R1.out _)).grown_ h2 (by simp [obk]))
         have K2 := Lib.hid ((K1.out.alloc _).drew.grown h2 fun k hk _ => by simp [obk] at hk)
         have p6 : w2.cell? ⟨w.heap.size, 6, none⟩ = some (.slice A1 n1 k1) := B2.out.at_ 6 _ rfl
         have f6 : w2.frozen? ⟨w.heap.size, 6, none⟩ = false := B2.out.frozen 6
         clear h1 h2 h3)
      | (refine step_append_b (v := .slice A2_ n1 k2_) rfl (.tmp 37) (.tmp 40) rfl rfl X2.out A3 m k3 (ys.take m) rfl HLn.out.2 (HRy.out _ K2.out) (by omega) ?hz3 ?_
         (case hz3 => have := R2.out.lt; omega)
         intro v3 w3 h1 h2 h3
         obtain ⟨A3_, k3_, rfl, _, _⟩ := h1.slice
         have O3 := Lib.hid h1
         have B3 := Lib.hid (B2.out.grown_ h2 (fun e => by have := (X2.out.block _ e).1; omega))
         have R3 := Lib.hid (R2.out.grown_ h2 (fun e => by have := (X2.out.block _ e).1; omega))
         have K3 := Lib.hid (K2.out.grown h2 fun k hk _ => by have := (X2.out.block k hk).1; omega)
         have p6 : w3.cell? ⟨w.heap.size, 6, none⟩ = some (.slice A1 n1 k1) := B3.out.at_ 6 _ rfl
         have f6 : w3.frozen? ⟨w.heap.size, 6, none⟩ = false := B3.out.frozen 6
         clear h1 h2 h3))
    all_goals (
      go_wp2_with fail
      go_meet
      have c4 : Chg (fun k => k = w.heap.size) w3 (w3.setCell ⟨w.heap.size, 6, none⟩ (.slice A3_ (n1 + m) k3_)) := (Chg.refl (fun k => k = w.heap.size) w3).setCell (p := ⟨w.heap.size, 6, none⟩) (fun _ => rfl) _
      exact ⟨_, _, B3.out.put 6 _, R3.out.chg c4 (Nat.succ_ne_self _), O3.out.chg c4 (fun k hk e => by have := (O3.out.block k hk).1; omega), chg2 K3.out c4 (by omega)⟩)
  case rest =>
    obtain ⟨w4, rfl⟩ : ∃ y, y = wc := ⟨_, rfl⟩
    obtain ⟨A3_, k3_, b4, r4, o4, q4⟩ := hcut
    have B4 := Lib.hid b4
    have R4 := Lib.hid r4
    have K4 := Lib.hid q4
    have O4 := Lib.hid o4
    clear b4 r4 q4 o4
    go_wp2_with (first
      | (refine ldS rfl _ rfl rfl B4.out rfl ?_)
      | (refine stS rfl _ _ rfl rfl rfl R4.out rfl rfl rfl ?_; intro w5 i5 c5; have R5 := Lib.hid i5; have B5 := Lib.hid (B4.out.chg c5 (Nat.ne_of_lt (Nat.lt_succ_self _))); have K5 := Lib.hid (chg2 K4.out c5 (by omega)); have O5 := Lib.hid (O4.out.chg c5 fun k hk e => by have := (O4.out.block k hk).1; omega); clear i5 c5))
    refine bodyPost_ret (results_c3 rfl _ rfl R5.out Tryd.underlying51 rfl szS rfl rfl) rfl ?_
    have e : u8s (us ++ (ys.take m)) = u8s us ++ (ys.take m).map (Value.int .u8) := List.map_append
    have HO : Ob w5 (w.heap.size + 2) 5 (.slice A3_ (n1 + m) k3_) (n1 + m) (u8s (us ++ (ys.take m))) := by rw [e]; exact O5.out
    exact ⟨_, _, rfl, BsO.of_ob HO HBy.out, fun k hk => by have := HO.block k (HO.rdk k hk); omega, K5.out⟩
theorem rd_drop {kd : IntKind} {w : World} {A : Option Addr} {n c : Nat} {zs : List Int} (h : Rd w A n fun i => .int kd (zs.getD i 0)) (hnc : n ≤ c) {k : Nat} (hk : k ≤ n) : Rd w (subA A k c) (n - k) fun i => .int kd ((zs.drop k).getD i 0) := by
  have h2 := h.subE hnc hk
  have e : (fun i => Value.int kd ((zs.drop k).getD i 0)) = fun i => Value.int kd (zs.getD (k + i) 0) := by
    funext i
    rw [List.getD_eq_getElem?_getD, List.getD_eq_getElem?_getD, List.getElem?_drop]
  rw [e]
  exact h2
theorem qrd_neg (n : Int) (hn : n < 0) : Calls Tryd.prog 90 #[.agg #[.int .u32 id, .int .i64 W, .int .i64 st, .int .i64 fr, .bool mine, .bool acc, (.slice A1 n1 k1), .bool cl, .bool lo, .int .i64 c, (.slice A2 n2 k2), .int .i64 l, .int .i64 o, .bool li, .bool td, .bool rs, .bool ct], .int .i64 n] w fun e w' => e = .returned (.tuple #[.agg #[.int .u32 id, .int .i64 W, .int .i64 st, .int .i64 fr, .bool mine, .bool acc, (.slice A1 n1 k1), .bool cl, .bool lo, .int .i64 c, (.slice A2 n2 k2), .int .i64 l, .int .i64 o, .bool li, .bool td, .bool rs, .bool ct], .slice none 0 0, .int .u32 0, .int .i64 2]) ∧ Chg none_ w w' := by
  obtain ⟨w1, hw1⟩ : ∃ y, (w.alloc (.cells #[.int .u32 id, .int .i64 W, .int .i64 st, .int .i64 fr, .bool mine, .bool acc, (.slice A1 n1 k1), .bool cl, .bool lo, .int .i64 c, (.slice A2 n2 k2), .int .i64 l, .int .i64 o, .bool li, .bool td, .bool rs, .bool ct] 51)).alloc (.cells #[.int .u32 0, .int .i64 0, .int .i64 0, .int .i64 0, .bool false, .bool false, .slice none 0 0, .bool false, .bool false, .int .i64 0, .slice none 0 0, .int .i64 0, .int .i64 0, .bool false, .bool false, .bool false, .bool false] 51) = y := ⟨_, rfl⟩
  have k0 : Chg none_ w w1 := by rw [← hw1]; exact ((Chg.refl none_ w).alloc _).alloc _
  have b1 : Is w1 w.heap.size 51 #[.int .u32 id, .int .i64 W, .int .i64 st, .int .i64 fr, .bool mine, .bool acc, (.slice A1 n1 k1), .bool cl, .bool lo, .int .i64 c, (.slice A2 n2 k2), .int .i64 l, .int .i64 o, .bool li, .bool td, .bool rs, .bool ct] := by rw [← hw1]; exact (Is.new w _ _).alloc _
  have r1 : Is w1 (w.heap.size + 1) 51 #[.int .u32 0, .int .i64 0, .int .i64 0, .int .i64 0, .bool false, .bool false, .slice none 0 0, .bool false, .bool false, .int .i64 0, .slice none 0 0, .int .i64 0, .int .i64 0, .bool false, .bool false, .bool false, .bool false] := by rw [← hw1]; exact isn2 w _ _ _
  have K1 := Lib.hid k0
  have B1 := Lib.hid b1
  have R1 := Lib.hid r1
  clear b1 r1 k0
  go_enter Tryd.func90, Tryd.ntmps90
  go_wp2_with (first
    | (refine ldS rfl _ rfl rfl B1.out rfl ?_)
    | (refine stS rfl _ _ rfl rfl rfl R1.out rfl rfl rfl ?_; intro w2 i2 c2; have R2 := Lib.hid i2; have B2 := Lib.hid (B1.out.chg c2 (Nat.ne_of_lt (Nat.lt_succ_self _))); have K2 := Lib.hid (chg2 K1.out c2 (by omega)); clear i2 c2))
  refine bodyPost_ret (results_c4 rfl _ rfl R2.out Tryd.underlying51 rfl szS rfl rfl rfl) rfl ?_
  exact ⟨rfl, K2.out⟩
theorem qrd_rs (n : Int) (hn : ¬ n < 0) : Calls Tryd.prog 90 #[.agg #[.int .u32 id, .int .i64 W, .int .i64 st, .int .i64 fr, .bool mine, .bool acc, (.slice A1 n1 k1), .bool cl, .bool lo, .int .i64 c, (.slice A2 n2 k2), .int .i64 l, .int .i64 o, .bool li, .bool td, .bool true, .bool ct], .int .i64 n] w fun e w' => e = .returned (.tuple #[.agg #[.int .u32 id, .int .i64 W, .int .i64 st, .int .i64 fr, .bool mine, .bool acc, (.slice A1 n1 k1), .bool cl, .bool lo, .int .i64 c, (.slice A2 n2 k2), .int .i64 l, .int .i64 o, .bool li, .bool td, .bool true, .bool ct], .slice none 0 0, .int .u32 0, .int .i64 26]) ∧ Chg none_ w w' := by
  obtain ⟨w1, hw1⟩ : ∃ y, (w.alloc (.cells #[.int .u32 id, .int .i64 W, .int .i64 st, .int .i64 fr, .bool mine, .bool acc, (.slice A1 n1 k1), .bool cl, .bool lo, .int .i64 c, (.slice A2 n2 k2), .int .i64 l, .int .i64 o, .bool li, .bool td, .bool true, .bool ct] 51)).alloc (.cells #[.int .u32 0, .int .i64 0, .int .i64 0, .int .i64 0, .bool false, .bool false, .slice none 0 0, .bool false, .bool false, .int .i64 0, .slice none 0 0, .int .i64 0, .int .i64 0, .bool false, .bool false, .bool false, .bool false] 51) = y := ⟨_, rfl⟩
  have k0 : Chg none_ w w1 := by rw [← hw1]; exact ((Chg.refl none_ w).alloc _).alloc _
  have b1 : Is w1 w.heap.size 51 #[.int .u32 id, .int .i64 W, .int .i64 st, .int .i64 fr, .bool mine, .bool acc, (.slice A1 n1 k1), .bool cl, .bool lo, .int .i64 c, (.slice A2 n2 k2), .int .i64 l, .int .i64 o, .bool li, .bool td, .bool true, .bool ct] := by rw [← hw1]; exact (Is.new w _ _).alloc _
  have r1 : Is w1 (w.heap.size + 1) 51 #[.int .u32 0, .int .i64 0, .int .i64 0, .int .i64 0, .bool false, .bool false, .slice none 0 0, .bool false, .bool false, .int .i64 0, .slice none 0 0, .int .i64 0, .int .i64 0, .bool false, .bool false, .bool false, .bool false] := by rw [← hw1]; exact isn2 w _ _ _
  have p15 : w1.cell? ⟨w.heap.size, 15, none⟩ = some (.bool true) := b1.at_ 15 _ rfl
  have K1 := Lib.hid k0
  have B1 := Lib.hid b1
  have R1 := Lib.hid r1
  clear b1 r1 k0
  go_enter Tryd.func90, Tryd.ntmps90
  go_wp2_with (first
    | (refine ldS rfl _ rfl rfl B1.out rfl ?_)
    | (refine stS rfl _ _ rfl rfl rfl R1.out rfl rfl rfl ?_; intro w2 i2 c2; have R2 := Lib.hid i2; have B2 := Lib.hid (B1.out.chg c2 (Nat.ne_of_lt (Nat.lt_succ_self _))); have K2 := Lib.hid (chg2 K1.out c2 (by omega)); clear i2 c2))
  refine bodyPost_ret (results_c4 rfl _ rfl R2.out Tryd.underlying51 rfl szS rfl rfl rfl) rfl ?_
  exact ⟨rfl, K2.out⟩
theorem qrd_0 : Calls Tryd.prog 90 #[.agg #[.int .u32 id, .int .i64 W, .int .i64 st, .int .i64 fr, .bool mine, .bool acc, (.slice A1 n1 k1), .bool cl, .bool lo, .int .i64 c, (.slice A2 n2 k2), .int .i64 l, .int .i64 o, .bool li, .bool td, .bool false, .bool ct], .int .i64 0] w fun e w' => e = .returned (.tuple #[.agg #[.int .u32 id, .int .i64 W, .int .i64 st, .int .i64 fr, .bool mine, .bool acc, (.slice A1 n1 k1), .bool cl, .bool lo, .int .i64 c, (.slice A2 n2 k2), .int .i64 l, .int .i64 o, .bool li, .bool td, .bool false, .bool ct], .slice none 0 0, .int .u32 0, .int .i64 0]) ∧ Chg none_ w w' := by
  obtain ⟨w1, hw1⟩ : ∃ y, (w.alloc (.cells #[.int .u32 id, .int .i64 W, .int .i64 st, .int .i64 fr, .bool mine, .bool acc, (.slice A1 n1 k1), .bool cl, .bool lo, .int .i64 c, (.slice A2 n2 k2), .int .i64 l, .int .i64 o, .bool li, .bool td, .bool false, .bool ct] 51)).alloc (.cells #[.int .u32 0, .int .i64 0, .int .i64 0, .int .i64 0, .bool false, .bool false, .slice none 0 0, .bool false, .bool false, .int .i64 0, .slice none 0 0, .int .i64 0, .int .i64 0, .bool false, .bool false, .bool false, .bool false] 51) = y := ⟨_, rfl⟩
  have k0 : Chg none_ w w1 := by rw [← hw1]; exact ((Chg.refl none_ w).alloc _).alloc _
  have b1 : Is w1 w.heap.size 51 #[.int .u32 id, .int .i64 W, .int .i64 st, .int .i64 fr, .bool mine, .bool acc, (.slice A1 n1 k1), .bool cl, .bool lo, .int .i64 c, (.slice A2 n2 k2), .int .i64 l, .int .i64 o, .bool li, .bool td, .bool false, .bool ct] := by rw [← hw1]; exact (Is.new w _ _).alloc _
  have r1 : Is w1 (w.heap.size + 1) 51 #[.int .u32 0, .int .i64 0, .int .i64 0, .int .i64 0, .bool false, .bool false, .slice none 0 0, .bool false, .bool false, .int .i64 0, .slice none 0 0, .int .i64 0, .int .i64 0, .bool false, .bool false, .bool false, .bool false] := by rw [← hw1]; exact isn2 w _ _ _
  have p15 : w1.cell? ⟨w.heap.size, 15, none⟩ = some (.bool false) := b1.at_ 15 _ rfl
  have K1 := Lib.hid k0
  have B1 := Lib.hid b1
  have R1 := Lib.hid r1
  clear b1 r1 k0
  go_enter Tryd.func90, Tryd.ntmps90
  go_wp2_with (first
    | (refine ldS rfl _ rfl rfl B1.out rfl ?_)
    | (refine stS rfl _ _ rfl rfl rfl R1.out rfl rfl rfl ?_; intro w2 i2 c2; have R2 := Lib.hid i2; have B2 := Lib.hid (B1.out.chg c2 (Nat.ne_of_lt (Nat.lt_succ_self _))); have K2 := Lib.hid (chg2 K1.out c2 (by omega)); clear i2 c2))
  refine bodyPost_ret (results_c4 rfl _ rfl R2.out Tryd.underlying51 rfl szS rfl rfl rfl) rfl ?_
  exact ⟨rfl, K2.out⟩
theorem qrd_eof (n : Int) (hn : 0 < n) : Calls Tryd.prog 90 #[.agg #[.int .u32 id, .int .i64 W, .int .i64 st, .int .i64 fr, .bool mine, .bool acc, (.slice A1 n1 k1), .bool cl, .bool lo, .int .i64 c, (.slice A2 0 k2), .int .i64 l, .int .i64 o, .bool true, .bool td, .bool false, .bool ct], .int .i64 n] w fun e w' => e = .returned (.tuple #[.agg #[.int .u32 id, .int .i64 W, .int .i64 st, .int .i64 fr, .bool mine, .bool acc, (.slice A1 n1 k1), .bool cl, .bool lo, .int .i64 c, (.slice A2 0 k2), .int .i64 l, .int .i64 o, .bool true, .bool true, .bool false, .bool ct], .slice none 0 0, .int .u32 0, .int .i64 25]) ∧ Chg none_ w w' := by
  obtain ⟨w1, hw1⟩ : ∃ y, (w.alloc (.cells #[.int .u32 id, .int .i64 W, .int .i64 st, .int .i64 fr, .bool mine, .bool acc, (.slice A1 n1 k1), .bool cl, .bool lo, .int .i64 c, (.slice A2 0 k2), .int .i64 l, .int .i64 o, .bool true, .bool td, .bool false, .bool ct] 51)).alloc (.cells #[.int .u32 0, .int .i64 0, .int .i64 0, .int .i64 0, .bool false, .bool false, .slice none 0 0, .bool false, .bool false, .int .i64 0, .slice none 0 0, .int .i64 0, .int .i64 0, .bool false, .bool false, .bool false, .bool false] 51) = y := ⟨_, rfl⟩
  have k0 : Chg none_ w w1 := by rw [← hw1]; exact ((Chg.refl none_ w).alloc _).alloc _
  have b1 : Is w1 w.heap.size 51 #[.int .u32 id, .int .i64 W, .int .i64 st, .int .i64 fr, .bool mine, .bool acc, (.slice A1 n1 k1), .bool cl, .bool lo, .int .i64 c, (.slice A2 0 k2), .int .i64 l, .int .i64 o, .bool true, .bool td, .bool false, .bool ct] := by rw [← hw1]; exact (Is.new w _ _).alloc _
  have r1 : Is w1 (w.heap.size + 1) 51 #[.int .u32 0, .int .i64 0, .int .i64 0, .int .i64 0, .bool false, .bool false, .slice none 0 0, .bool false, .bool false, .int .i64 0, .slice none 0 0, .int .i64 0, .int .i64 0, .bool false, .bool false, .bool false, .bool false] := by rw [← hw1]; exact isn2 w _ _ _
  have p15 : w1.cell? ⟨w.heap.size, 15, none⟩ = some (.bool false) := b1.at_ 15 _ rfl
  have p10 : w1.cell? ⟨w.heap.size, 10, none⟩ = some ((.slice A2 0 k2)) := b1.at_ 10 _ rfl
  have p13 : w1.cell? ⟨w.heap.size, 13, none⟩ = some (.bool true) := b1.at_ 13 _ rfl
  have K1 := Lib.hid k0
  have B1 := Lib.hid b1
  have R1 := Lib.hid r1
  clear b1 r1 k0
  have hn1 : ¬ n < 0 := by omega
  have hn2 : ¬ n = 0 := by omega
  go_enter Tryd.func90, Tryd.ntmps90
  go_wp2_with (first
    | (refine stF rfl _ sz8 _ _ rfl 14 rfl rfl B1.out rfl (Nat.le_of_ble_eq_true rfl) rfl #[.int .u32 id, .int .i64 W, .int .i64 st, .int .i64 fr, .bool mine, .bool acc, (.slice A1 n1 k1), .bool cl, .bool lo, .int .i64 c, (.slice A2 0 k2), .int .i64 l, .int .i64 o, .bool true, .bool true, .bool false, .bool ct] rfl ?_; intro w2 i2 c2; have B2 := Lib.hid i2; have R2 := Lib.hid (R1.out.chg c2 (Nat.succ_ne_self _)); have K2 := Lib.hid (chg2 K1.out c2 (by omega)); clear i2 c2)
    | (refine ldS rfl _ rfl rfl B2.out rfl ?_)
    | (refine stS rfl _ _ rfl rfl rfl R2.out rfl rfl rfl ?_; intro w3 i3 c3; have R3 := Lib.hid i3; have B3 := Lib.hid (B2.out.chg c3 (Nat.ne_of_lt (Nat.lt_succ_self _))); have K3 := Lib.hid (chg2 K2.out c3 (by omega)); clear i3 c3))
  refine bodyPost_ret (results_c4 rfl _ rfl R3.out Tryd.underlying51 rfl szS rfl rfl rfl) rfl ?_
  exact ⟨rfl, K3.out⟩
theorem qrd_ct (n : Int) (hn : 0 < n) : Calls Tryd.prog 90 #[.agg #[.int .u32 id, .int .i64 W, .int .i64 st, .int .i64 fr, .bool mine, .bool acc, (.slice A1 n1 k1), .bool cl, .bool lo, .int .i64 c, (.slice A2 0 k2), .int .i64 l, .int .i64 o, .bool false, .bool td, .bool false, .bool true], .int .i64 n] w fun e w' => e = .returned (.tuple #[.agg #[.int .u32 id, .int .i64 W, .int .i64 st, .int .i64 fr, .bool mine, .bool acc, (.slice A1 n1 k1), .bool cl, .bool lo, .int .i64 c, (.slice A2 0 k2), .int .i64 l, .int .i64 o, .bool false, .bool td, .bool false, .bool true], .slice none 0 0, .int .u32 0, .int .i64 27]) ∧ Chg none_ w w' := by
  obtain ⟨w1, hw1⟩ : ∃ y, (w.alloc (.cells #[.int .u32 id, .int .i64 W, .int .i64 st, .int .i64 fr, .bool mine, .bool acc, (.slice A1 n1 k1), .bool cl, .bool lo, .int .i64 c, (.slice A2 0 k2), .int .i64 l, .int .i64 o, .bool false, .bool td, .bool false, .bool true] 51)).alloc (.cells #[.int .u32 0, .int .i64 0, .int .i64 0, .int .i64 0, .bool false, .bool false, .slice none 0 0, .bool false, .bool false, .int .i64 0, .slice none 0 0, .int .i64 0, .int .i64 0, .bool false, .bool false, .bool false, .bool false] 51) = y := ⟨_, rfl⟩
  have k0 : Chg none_ w w1 := by rw [← hw1]; exact ((Chg.refl none_ w).alloc _).alloc _
  have b1 : Is w1 w.heap.size 51 #[.int .u32 id, .int .i64 W, .int .i64 st, .int .i64 fr, .bool mine, .bool acc, (.slice A1 n1 k1), .bool cl, .bool lo, .int .i64 c, (.slice A2 0 k2), .int .i64 l, .int .i64 o, .bool false, .bool td, .bool false, .bool true] := by rw [← hw1]; exact (Is.new w _ _).alloc _
  have r1 : Is w1 (w.heap.size + 1) 51 #[.int .u32 0, .int .i64 0, .int .i64 0, .int .i64 0, .bool false, .bool false, .slice none 0 0, .bool false, .bool false, .int .i64 0, .slice none 0 0, .int .i64 0, .int .i64 0, .bool false, .bool false, .bool false, .bool false] := by rw [← hw1]; exact isn2 w _ _ _
  have p15 : w1.cell? ⟨w.heap.size, 15, none⟩ = some (.bool false) := b1.at_ 15 _ rfl
  have p10 : w1.cell? ⟨w.heap.size, 10, none⟩ = some ((.slice A2 0 k2)) := b1.at_ 10 _ rfl
  have p13 : w1.cell? ⟨w.heap.size, 13, none⟩ = some (.bool false) := b1.at_ 13 _ rfl
  have p16 : w1.cell? ⟨w.heap.size, 16, none⟩ = some (.bool true) := b1.at_ 16 _ rfl
  have K1 := Lib.hid k0
  have B1 := Lib.hid b1
  have R1 := Lib.hid r1
  clear b1 r1 k0
  have hn1 : ¬ n < 0 := by omega
  have hn2 : ¬ n = 0 := by omega
  go_enter Tryd.func90, Tryd.ntmps90
  go_wp2_with (first
    | (refine ldS rfl _ rfl rfl B1.out rfl ?_)
    | (refine stS rfl _ _ rfl rfl rfl R1.out rfl rfl rfl ?_; intro w2 i2 c2; have R2 := Lib.hid i2; have B2 := Lib.hid (B1.out.chg c2 (Nat.ne_of_lt (Nat.lt_succ_self _))); have K2 := Lib.hid (chg2 K1.out c2 (by omega)); clear i2 c2))
  refine bodyPost_ret (results_c4 rfl _ rfl R2.out Tryd.underlying51 rfl szS rfl rfl rfl) rfl ?_
  exact ⟨rfl, K2.out⟩
set_option maxHeartbeats 2000000 in
theorem qrd_h (m : Nat) (hn : 0 < m) (hm2 : m ≤ n2) (us : List Int) (hu : us.length = n2) (bu : Byt us) (hru : Rd w A2 n2 fun i => .int .u8 (us.getD i 0)) (h2 : n2 ≤ 4294967296) (hk : n2 ≤ k2) : Calls Tryd.prog 90 #[.agg #[.int .u32 id, .int .i64 W, .int .i64 st, .int .i64 fr, .bool mine, .bool acc, (.slice A1 n1 k1), .bool cl, .bool lo, .int .i64 c, (.slice A2 n2 k2), .int .i64 l, .int .i64 o, .bool true, .bool td, .bool false, .bool ct], .int .i64 (m : Int)] w fun e w' => ∃ A4 k4 A5 k5, e = .returned (.tuple #[.agg #[.int .u32 id, .int .i64 W, .int .i64 st, .int .i64 fr, .bool mine, .bool acc, (.slice A1 n1 k1), .bool cl, .bool lo, .int .i64 c, (.slice A5 (n2 - m) k5), .int .i64 l, .int .i64 o, .bool true, .bool td, .bool false, .bool ct], .slice A4 m k4, .int .u32 0, .int .i64 0]) ∧ BsO w' (.slice A4 m k4) (us.take m) ∧ BsO w' (.slice A5 (n2 - m) k5) (us.drop m) ∧ (∀ k, rdk (.slice A4 m k4) = some k → w.heap.size ≤ k ∧ k < w'.heap.size) ∧ (∀ k, rdk (.slice A5 (n2 - m) k5) = some k → w.heap.size ≤ k ∧ k < w'.heap.size) ∧ Chg none_ w w' := by
  obtain ⟨w1, hw1⟩ : ∃ y, (w.alloc (.cells #[.int .u32 id, .int .i64 W, .int .i64 st, .int .i64 fr, .bool mine, .bool acc, (.slice A1 n1 k1), .bool cl, .bool lo, .int .i64 c, (.slice A2 n2 k2), .int .i64 l, .int .i64 o, .bool true, .bool td, .bool false, .bool ct] 51)).alloc (.cells #[.int .u32 0, .int .i64 0, .int .i64 0, .int .i64 0, .bool false, .bool false, .slice none 0 0, .bool false, .bool false, .int .i64 0, .slice none 0 0, .int .i64 0, .int .i64 0, .bool false, .bool false, .bool false, .bool false] 51) = y := ⟨_, rfl⟩
  have k0 : Chg none_ w w1 := by rw [← hw1]; exact ((Chg.refl none_ w).alloc _).alloc _
  have b1 : Is w1 w.heap.size 51 #[.int .u32 id, .int .i64 W, .int .i64 st, .int .i64 fr, .bool mine, .bool acc, (.slice A1 n1 k1), .bool cl, .bool lo, .int .i64 c, (.slice A2 n2 k2), .int .i64 l, .int .i64 o, .bool true, .bool td, .bool false, .bool ct] := by rw [← hw1]; exact (Is.new w _ _).alloc _
  have r1 : Is w1 (w.heap.size + 1) 51 #[.int .u32 0, .int .i64 0, .int .i64 0, .int .i64 0, .bool false, .bool false, .slice none 0 0, .bool false, .bool false, .int .i64 0, .slice none 0 0, .int .i64 0, .int .i64 0, .bool false, .bool false, .bool false, .bool false] := by rw [← hw1]; exact isn2 w _ _ _
  have p15 : w1.cell? ⟨w.heap.size, 15, none⟩ = some (.bool false) := b1.at_ 15 _ rfl
  have p10 : w1.cell? ⟨w.heap.size, 10, none⟩ = some ((.slice A2 n2 k2)) := b1.at_ 10 _ rfl
  have p13 : w1.cell? ⟨w.heap.size, 13, none⟩ = some (.bool true) := b1.at_ 13 _ rfl
  have p16 : w1.cell? ⟨w.heap.size, 16, none⟩ = some (.bool ct) := b1.at_ 16 _ rfl
  have K1 := Lib.hid k0
  have B1 := Lib.hid b1
  have R1 := Lib.hid r1
  clear b1 r1 k0
  have hn1 : ¬ (m : Int) < 0 := by omega
  have hn2 : ¬ (m : Int) = 0 := by omega
  have hmn : m ≤ n2 := hm2
  have hmk : m ≤ k2 := by omega
  have hmI : (m : Int) ≤ (k2 : Int) := by omega
  have hc1 : ¬ (n2 : Int) < (m : Int) := by omega
  have hz1 : ¬ n2 = 0 := by omega
  have hz2 : ¬ (n2 : Int) = 0 := by omega
  have hmz : ¬ m = 0 := by omega
  have hmz2 : ¬ (m : Int) = 0 := by omega
  have HR : Hid (∀ u, Chg none_ w u → Rd u A2 n2 fun i => .int .u8 (us.getD i 0)) := fun u hc => hru.keep (hc.old (Nat.le_refl _))
  have HB : Hid (Byt us) := bu
  have HLn : Hid (us.length = n2) := hu
  clear hru bu hu
  have a10 : ∀ o : Obj, (w1.alloc o).cell? ⟨w.heap.size, 10, none⟩ = some (.slice A2 n2 k2) := fun o => (B1.out.alloc o).at_ 10 _ rfl
  go_enter Tryd.func90, Tryd.ntmps90
  go_wp2_with (first
    | (at_builtin; refine wpList_append_bytes (v := .slice (some ⟨w1.heap.size, 0, none⟩) 0 0) rfl (.tmp 46) (.tmp 50) rfl rfl (ob_nil _ (w.heap.size + 2) _ _) A2 m k2 (us.take m) rfl (by have := HLn.out; rw [List.length_take]; omega) (rd_take' (HR.out _ (K1.out.alloc _)) (by omega)) (by omega) ?hz2 ?_; (case hz2 => have := R1.out.lt; simp; omega); intro v2 w2 h1 h2 h3; simp only [Nat.zero_add, List.nil_append] at h1; obtain ⟨A2_, k2_, rfl, _, _⟩ := h1.slice; have X2 := Lib.hid h1; have B2 := Lib.hid ((B1.out.alloc _).grown_ h2 (by simp [obk])); have R2 := Lib.hid ((R1.out.alloc _).grown_ h2 (by simp [obk])); have K2 := Lib.hid ((K1.out.alloc _).grown h2 fun k hk _ => by simp [obk] at hk); have p10 : w2.cell? ⟨w.heap.size, 10, none⟩ = some ((.slice A2 n2 k2)) := B2.out.at_ 10 _ rfl; have p13 : w2.cell? ⟨w.heap.size, 13, none⟩ = some (.bool true) := B2.out.at_ 13 _ rfl; have p16 : w2.cell? ⟨w.heap.size, 16, none⟩ = some (.bool ct) := B2.out.at_ 16 _ rfl; have p12 : w2.cell? ⟨w.heap.size, 12, none⟩ = some (.int .i64 o) := B2.out.at_ 12 _ rfl; have p1 : w2.cell? ⟨w.heap.size, 1, none⟩ = some (.int .i64 W) := B2.out.at_ 1 _ rfl; have p11 : w2.cell? ⟨w.heap.size, 11, none⟩ = some (.int .i64 l) := B2.out.at_ 11 _ rfl; have O2 := Lib.hid h1; have a10 : ∀ o : Obj, (w2.alloc o).cell? ⟨w.heap.size, 10, none⟩ = some (.slice A2 n2 k2) := fun o => (B2.out.alloc o).at_ 10 _ rfl; clear h1 h2 h3)
    | (refine wpList_subL_bytes rfl _ _ rfl A2 n2 k2 rfl _ rfl m rfl (by omega) hk ?_)
    | (at_builtin; refine wpList_append_bytes (v := .slice (some ⟨w2.heap.size, 0, none⟩) 0 0) rfl (.tmp 52) (.tmp 56) rfl rfl (ob_nil _ (w.heap.size + 2) _ _) (subA A2 m k2) (n2 - m) (k2 - m) (us.drop m) rfl (by have := HLn.out; rw [List.length_drop]; omega) (rd_drop (HR.out _ (K2.out.alloc _)) hk (by omega)) (by omega) ?hz3 ?_; (case hz3 => have := R2.out.lt; simp; omega); intro v3 w3 h1 h2 h3; simp only [Nat.zero_add, List.nil_append] at h1; obtain ⟨A3_, k3_, rfl, _, _⟩ := h1.slice; have X3 := Lib.hid h1; have B3 := Lib.hid ((B2.out.alloc _).grown_ h2 (by simp [obk])); have R3 := Lib.hid ((R2.out.alloc _).grown_ h2 (by simp [obk])); have K3 := Lib.hid ((K2.out.alloc _).grown h2 fun k hk _ => by simp [obk] at hk); have O3 := Lib.hid ((O2.out.chg ((Chg.refl none_ _).alloc _) fun _ _ f => f).chg (((Chg.refl none_ _)).grown h2 fun k hk _ => by simp [obk] at hk) fun _ _ f => f); have p10 : w3.cell? ⟨w.heap.size, 10, none⟩ = some ((.slice A2 n2 k2)) := B3.out.at_ 10 _ rfl; have p13 : w3.cell? ⟨w.heap.size, 13, none⟩ = some (.bool true) := B3.out.at_ 13 _ rfl; have p16 : w3.cell? ⟨w.heap.size, 16, none⟩ = some (.bool ct) := B3.out.at_ 16 _ rfl; have p12 : w3.cell? ⟨w.heap.size, 12, none⟩ = some (.int .i64 o) := B3.out.at_ 12 _ rfl; have p1 : w3.cell? ⟨w.heap.size, 1, none⟩ = some (.int .i64 W) := B3.out.at_ 1 _ rfl; have p11 : w3.cell? ⟨w.heap.size, 11, none⟩ = some (.int .i64 l) := B3.out.at_ 11 _ rfl; have U3 := Lib.hid h1; clear h1 h2 h3)
    | (refine stF rfl _ szB _ _ rfl 10 rfl rfl B3.out rfl (Nat.le_of_ble_eq_true rfl) rfl #[.int .u32 id, .int .i64 W, .int .i64 st, .int .i64 fr, .bool mine, .bool acc, (.slice A1 n1 k1), .bool cl, .bool lo, .int .i64 c, (.slice A3_ (n2 - m) k3_), .int .i64 l, .int .i64 o, .bool true, .bool td, .bool false, .bool ct] rfl ?_; intro w4 i4 c4; have B4 := Lib.hid i4; have R4 := Lib.hid (R3.out.chg c4 (Nat.succ_ne_self _)); have K4 := Lib.hid (chg2 K3.out c4 (by omega)); have O4 := Lib.hid (O3.out.chg c4 fun k hk e => by have := (O3.out.block k hk).1; omega); have U4 := Lib.hid (U3.out.chg c4 fun k hk e => by have := (U3.out.block k hk).1; omega); clear i4 c4; have p13 : w4.cell? ⟨w.heap.size, 13, none⟩ = some (.bool true) := B4.out.at_ 13 _ rfl; have p16 : w4.cell? ⟨w.heap.size, 16, none⟩ = some (.bool ct) := B4.out.at_ 16 _ rfl; have p12 : w4.cell? ⟨w.heap.size, 12, none⟩ = some (.int .i64 o) := B4.out.at_ 12 _ rfl; have p1 : w4.cell? ⟨w.heap.size, 1, none⟩ = some (.int .i64 W) := B4.out.at_ 1 _ rfl; have p11 : w4.cell? ⟨w.heap.size, 11, none⟩ = some (.int .i64 l) := B4.out.at_ 11 _ rfl)
    | (refine ldS rfl _ rfl rfl B4.out rfl ?_)
    | (refine stS rfl _ _ rfl rfl rfl R4.out rfl rfl rfl ?_; intro w5 i5 c5; have R5 := Lib.hid i5; have B5 := Lib.hid (B4.out.chg c5 (Nat.ne_of_lt (Nat.lt_succ_self _))); have K5 := Lib.hid (chg2 K4.out c5 (by omega)); have O5 := Lib.hid (O4.out.chg c5 fun k hk e => by have := (O4.out.block k hk).1; omega); have U5 := Lib.hid (U4.out.chg c5 fun k hk e => by have := (U4.out.block k hk).1; omega); clear i5 c5))
  refine bodyPost_ret (results_c4 rfl _ rfl R5.out Tryd.underlying51 rfl szS rfl rfl rfl) rfl ?_
  exact ⟨_, _, _, _, rfl, BsO.of_ob O5.out (fun z hz => HB.out z (List.mem_of_mem_take hz)), BsO.of_ob U5.out (fun z hz => HB.out z (List.mem_of_mem_drop hz)), fun k hk => by have := O5.out.block k (O5.out.rdk k hk); omega, fun k hk => by have := U5.out.block k (U5.out.rdk k hk); omega, K5.out⟩
set_option maxHeartbeats 2000000 in
theorem qrd_c (m : Nat) (hn : 0 < m) (hm2 : m ≤ n2) (us : List Int) (hu : us.length = n2) (bu : Byt us) (hru : Rd w A2 n2 fun i => .int .u8 (us.getD i 0)) (h2 : n2 ≤ 4294967296) (hk : n2 ≤ k2) : Calls Tryd.prog 90 #[.agg #[.int .u32 id, .int .i64 W, .int .i64 st, .int .i64 fr, .bool mine, .bool acc, (.slice A1 n1 k1), .bool cl, .bool lo, .int .i64 c, (.slice A2 n2 k2), .int .i64 l, .int .i64 o, .bool false, .bool td, .bool false, .bool true], .int .i64 (m : Int)] w fun e w' => ∃ A4 k4 A5 k5, e = .returned (.tuple #[.agg #[.int .u32 id, .int .i64 W, .int .i64 st, .int .i64 fr, .bool mine, .bool acc, (.slice A1 n1 k1), .bool cl, .bool lo, .int .i64 c, (.slice A5 (n2 - m) k5), .int .i64 l, .int .i64 o, .bool false, .bool td, .bool false, .bool true], .slice A4 m k4, .int .u32 0, .int .i64 0]) ∧ BsO w' (.slice A4 m k4) (us.take m) ∧ BsO w' (.slice A5 (n2 - m) k5) (us.drop m) ∧ (∀ k, rdk (.slice A4 m k4) = some k → w.heap.size ≤ k ∧ k < w'.heap.size) ∧ (∀ k, rdk (.slice A5 (n2 - m) k5) = some k → w.heap.size ≤ k ∧ k < w'.heap.size) ∧ Chg none_ w w' := by
  obtain ⟨w1, hw1⟩ : ∃ y, (w.alloc (.cells #[.int .u32 id, .int .i64 W, .int .i64 st, .int .i64 fr, .bool mine, .bool acc, (.slice A1 n1 k1), .bool cl, .bool lo, .int .i64 c, (.slice A2 n2 k2), .int .i64 l, .int .i64 o, .bool false, .bool td, .bool false, .bool true] 51)).alloc (.cells #[.int .u32 0, .int .i64 0, .int .i64 0, .int .i64 0, .bool false, .bool false, .slice none 0 0, .bool false, .bool false, .int .i64 0, .slice none 0 0, .int .i64 0, .int .i64 0, .bool false, .bool false, .bool false, .bool false] 51) = y := ⟨_, rfl⟩
  have k0 : Chg none_ w w1 := by rw [← hw1]; exact ((Chg.refl none_ w).alloc _).alloc _
  have b1 : Is w1 w.heap.size 51 #[.int .u32 id, .int .i64 W, .int .i64 st, .int .i64 fr, .bool mine, .bool acc, (.slice A1 n1 k1), .bool cl, .bool lo, .int .i64 c, (.slice A2 n2 k2), .int .i64 l, .int .i64 o, .bool false, .bool td, .bool false, .bool true] := by rw [← hw1]; exact (Is.new w _ _).alloc _
  have r1 : Is w1 (w.heap.size + 1) 51 #[.int .u32 0, .int .i64 0, .int .i64 0, .int .i64 0, .bool false, .bool false, .slice none 0 0, .bool false, .bool false, .int .i64 0, .slice none 0 0, .int .i64 0, .int .i64 0, .bool false, .bool false, .bool false, .bool false] := by rw [← hw1]; exact isn2 w _ _ _
  have p15 : w1.cell? ⟨w.heap.size, 15, none⟩ = some (.bool false) := b1.at_ 15 _ rfl
  have p10 : w1.cell? ⟨w.heap.size, 10, none⟩ = some ((.slice A2 n2 k2)) := b1.at_ 10 _ rfl
  have p13 : w1.cell? ⟨w.heap.size, 13, none⟩ = some (.bool false) := b1.at_ 13 _ rfl
  have p16 : w1.cell? ⟨w.heap.size, 16, none⟩ = some (.bool true) := b1.at_ 16 _ rfl
  have K1 := Lib.hid k0
  have B1 := Lib.hid b1
  have R1 := Lib.hid r1
  clear b1 r1 k0
  have hn1 : ¬ (m : Int) < 0 := by omega
  have hn2 : ¬ (m : Int) = 0 := by omega
  have hmn : m ≤ n2 := hm2
  have hmk : m ≤ k2 := by omega
  have hmI : (m : Int) ≤ (k2 : Int) := by omega
  have hc1 : ¬ (n2 : Int) < (m : Int) := by omega
  have hz1 : ¬ n2 = 0 := by omega
  have hz2 : ¬ (n2 : Int) = 0 := by omega
  have hmz : ¬ m = 0 := by omega
  have hmz2 : ¬ (m : Int) = 0 := by omega
  have HR : Hid (∀ u, Chg none_ w u → Rd u A2 n2 fun i => .int .u8 (us.getD i 0)) := fun u hc => hru.keep (hc.old (Nat.le_refl _))
  have HB : Hid (Byt us) := bu
  have HLn : Hid (us.length = n2) := hu
  clear hru bu hu
  have a10 : ∀ o : Obj, (w1.alloc o).cell? ⟨w.heap.size, 10, none⟩ = some (.slice A2 n2 k2) := fun o => (B1.out.alloc o).at_ 10 _ rfl
  go_enter Tryd.func90, Tryd.ntmps90
  go_wp2_with (first
    | (at_builtin; refine wpList_append_bytes (v := .slice (some ⟨w1.heap.size, 0, none⟩) 0 0) rfl (.tmp 46) (.tmp 50) rfl rfl (ob_nil _ (w.heap.size + 2) _ _) A2 m k2 (us.take m) rfl (by have := HLn.out; rw [List.length_take]; omega) (rd_take' (HR.out _ (K1.out.alloc _)) (by omega)) (by omega) ?hz2 ?_; (case hz2 => have := R1.out.lt; simp; omega); intro v2 w2 h1 h2 h3; simp only [Nat.zero_add, List.nil_append] at h1; obtain ⟨A2_, k2_, rfl, _, _⟩ := h1.slice; have X2 := Lib.hid h1; have B2 := Lib.hid ((B1.out.alloc _).grown_ h2 (by simp [obk])); have R2 := Lib.hid ((R1.out.alloc _).grown_ h2 (by simp [obk])); have K2 := Lib.hid ((K1.out.alloc _).grown h2 fun k hk _ => by simp [obk] at hk); have p10 : w2.cell? ⟨w.heap.size, 10, none⟩ = some ((.slice A2 n2 k2)) := B2.out.at_ 10 _ rfl; have p13 : w2.cell? ⟨w.heap.size, 13, none⟩ = some (.bool false) := B2.out.at_ 13 _ rfl; have p16 : w2.cell? ⟨w.heap.size, 16, none⟩ = some (.bool true) := B2.out.at_ 16 _ rfl; have p12 : w2.cell? ⟨w.heap.size, 12, none⟩ = some (.int .i64 o) := B2.out.at_ 12 _ rfl; have p1 : w2.cell? ⟨w.heap.size, 1, none⟩ = some (.int .i64 W) := B2.out.at_ 1 _ rfl; have p11 : w2.cell? ⟨w.heap.size, 11, none⟩ = some (.int .i64 l) := B2.out.at_ 11 _ rfl; have O2 := Lib.hid h1; have a10 : ∀ o : Obj, (w2.alloc o).cell? ⟨w.heap.size, 10, none⟩ = some (.slice A2 n2 k2) := fun o => (B2.out.alloc o).at_ 10 _ rfl; clear h1 h2 h3)
    | (refine wpList_subL_bytes rfl _ _ rfl A2 n2 k2 rfl _ rfl m rfl (by omega) hk ?_)
    | (at_builtin; refine wpList_append_bytes (v := .slice (some ⟨w2.heap.size, 0, none⟩) 0 0) rfl (.tmp 52) (.tmp 56) rfl rfl (ob_nil _ (w.heap.size + 2) _ _) (subA A2 m k2) (n2 - m) (k2 - m) (us.drop m) rfl (by have := HLn.out; rw [List.length_drop]; omega) (rd_drop (HR.out _ (K2.out.alloc _)) hk (by omega)) (by omega) ?hz3 ?_; (case hz3 => have := R2.out.lt; simp; omega); intro v3 w3 h1 h2 h3; simp only [Nat.zero_add, List.nil_append] at h1; obtain ⟨A3_, k3_, rfl, _, _⟩ := h1.slice; have X3 := Lib.hid h1; have B3 := Lib.hid ((B2.out.alloc _).grown_ h2 (by simp [obk])); have R3 := Lib.hid ((R2.out.alloc _).grown_ h2 (by simp [obk])); have K3 := Lib.hid ((K2.out.alloc _).grown h2 fun k hk _ => by simp [obk] at hk); have O3 := Lib.hid ((O2.out.chg ((Chg.refl none_ _).alloc _) fun _ _ f => f).chg (((Chg.refl none_ _)).grown h2 fun k hk _ => by simp [obk] at hk) fun _ _ f => f); have p10 : w3.cell? ⟨w.heap.size, 10, none⟩ = some ((.slice A2 n2 k2)) := B3.out.at_ 10 _ rfl; have p13 : w3.cell? ⟨w.heap.size, 13, none⟩ = some (.bool false) := B3.out.at_ 13 _ rfl; have p16 : w3.cell? ⟨w.heap.size, 16, none⟩ = some (.bool true) := B3.out.at_ 16 _ rfl; have p12 : w3.cell? ⟨w.heap.size, 12, none⟩ = some (.int .i64 o) := B3.out.at_ 12 _ rfl; have p1 : w3.cell? ⟨w.heap.size, 1, none⟩ = some (.int .i64 W) := B3.out.at_ 1 _ rfl; have p11 : w3.cell? ⟨w.heap.size, 11, none⟩ = some (.int .i64 l) := B3.out.at_ 11 _ rfl; have U3 := Lib.hid h1; clear h1 h2 h3)
    | (refine stF rfl _ szB _ _ rfl 10 rfl rfl B3.out rfl (Nat.le_of_ble_eq_true rfl) rfl #[.int .u32 id, .int .i64 W, .int .i64 st, .int .i64 fr, .bool mine, .bool acc, (.slice A1 n1 k1), .bool cl, .bool lo, .int .i64 c, (.slice A3_ (n2 - m) k3_), .int .i64 l, .int .i64 o, .bool false, .bool td, .bool false, .bool true] rfl ?_; intro w4 i4 c4; have B4 := Lib.hid i4; have R4 := Lib.hid (R3.out.chg c4 (Nat.succ_ne_self _)); have K4 := Lib.hid (chg2 K3.out c4 (by omega)); have O4 := Lib.hid (O3.out.chg c4 fun k hk e => by have := (O3.out.block k hk).1; omega); have U4 := Lib.hid (U3.out.chg c4 fun k hk e => by have := (U3.out.block k hk).1; omega); clear i4 c4; have p13 : w4.cell? ⟨w.heap.size, 13, none⟩ = some (.bool false) := B4.out.at_ 13 _ rfl; have p16 : w4.cell? ⟨w.heap.size, 16, none⟩ = some (.bool true) := B4.out.at_ 16 _ rfl; have p12 : w4.cell? ⟨w.heap.size, 12, none⟩ = some (.int .i64 o) := B4.out.at_ 12 _ rfl; have p1 : w4.cell? ⟨w.heap.size, 1, none⟩ = some (.int .i64 W) := B4.out.at_ 1 _ rfl; have p11 : w4.cell? ⟨w.heap.size, 11, none⟩ = some (.int .i64 l) := B4.out.at_ 11 _ rfl)
    | (refine ldS rfl _ rfl rfl B4.out rfl ?_)
    | (refine stS rfl _ _ rfl rfl rfl R4.out rfl rfl rfl ?_; intro w5 i5 c5; have R5 := Lib.hid i5; have B5 := Lib.hid (B4.out.chg c5 (Nat.ne_of_lt (Nat.lt_succ_self _))); have K5 := Lib.hid (chg2 K4.out c5 (by omega)); have O5 := Lib.hid (O4.out.chg c5 fun k hk e => by have := (O4.out.block k hk).1; omega); have U5 := Lib.hid (U4.out.chg c5 fun k hk e => by have := (U4.out.block k hk).1; omega); clear i5 c5))
  refine bodyPost_ret (results_c4 rfl _ rfl R5.out Tryd.underlying51 rfl szS rfl rfl rfl) rfl ?_
  exact ⟨_, _, _, _, rfl, BsO.of_ob O5.out (fun z hz => HB.out z (List.mem_of_mem_take hz)), BsO.of_ob U5.out (fun z hz => HB.out z (List.mem_of_mem_drop hz)), fun k hk => by have := O5.out.block k (O5.out.rdk k hk); omega, fun k hk => by have := U5.out.block k (U5.out.rdk k hk); omega, K5.out⟩
set_option maxHeartbeats 2000000 in
theorem qrd_k (m : Nat) (hn : 0 < m) (hm2 : m ≤ n2) (us : List Int) (hu : us.length = n2) (bu : Byt us) (hru : Rd w A2 n2 fun i => .int .u8 (us.getD i 0)) (h2 : n2 ≤ 4294967296) (hk : n2 ≤ k2) (o0 : 0 ≤ o) (o1 : o ≤ 4294967296) (W0 : 0 ≤ W) (W1 : W ≤ 4294967296) (ht : o + (m : Int) < (W + 1) / 2) : Calls Tryd.prog 90 #[.agg #[.int .u32 id, .int .i64 W, .int .i64 st, .int .i64 fr, .bool mine, .bool acc, (.slice A1 n1 k1), .bool cl, .bool lo, .int .i64 c, (.slice A2 n2 k2), .int .i64 l, .int .i64 o, .bool false, .bool td, .bool false, .bool false], .int .i64 (m : Int)] w fun e w' => ∃ A4 k4 A5 k5, e = .returned (.tuple #[.agg #[.int .u32 id, .int .i64 W, .int .i64 st, .int .i64 fr, .bool mine, .bool acc, (.slice A1 n1 k1), .bool cl, .bool lo, .int .i64 c, (.slice A5 (n2 - m) k5), .int .i64 l, .int .i64 (o + (m : Int)), .bool false, .bool td, .bool false, .bool false], .slice A4 m k4, .int .u32 0, .int .i64 0]) ∧ BsO w' (.slice A4 m k4) (us.take m) ∧ BsO w' (.slice A5 (n2 - m) k5) (us.drop m) ∧ (∀ k, rdk (.slice A4 m k4) = some k → w.heap.size ≤ k ∧ k < w'.heap.size) ∧ (∀ k, rdk (.slice A5 (n2 - m) k5) = some k → w.heap.size ≤ k ∧ k < w'.heap.size) ∧ Chg none_ w w' := by
  obtain ⟨w1, hw1⟩ : ∃ y, (w.alloc (.cells #[.int .u32 id, .int .i64 W, .int .i64 st, .int .i64 fr, .bool mine, .bool acc, (.slice A1 n1 k1), .bool cl, .bool lo, .int .i64 c, (.slice A2 n2 k2), .int .i64 l, .int .i64 o, .bool false, .bool td, .bool false, .bool false] 51)).alloc (.cells #[.int .u32 0, .int .i64 0, .int .i64 0, .int .i64 0, .bool false, .bool false, .slice none 0 0, .bool false, .bool false, .int .i64 0, .slice none 0 0, .int .i64 0, .int .i64 0, .bool false, .bool false, .bool false, .bool false] 51) = y := ⟨_, rfl⟩
  have k0 : Chg none_ w w1 := by rw [← hw1]; exact ((Chg.refl none_ w).alloc _).alloc _
  have b1 : Is w1 w.heap.size 51 #[.int .u32 id, .int .i64 W, .int .i64 st, .int .i64 fr, .bool mine, .bool acc, (.slice A1 n1 k1), .bool cl, .bool lo, .int .i64 c, (.slice A2 n2 k2), .int .i64 l, .int .i64 o, .bool false, .bool td, .bool false, .bool false] := by rw [← hw1]; exact (Is.new w _ _).alloc _
  have r1 : Is w1 (w.heap.size + 1) 51 #[.int .u32 0, .int .i64 0, .int .i64 0, .int .i64 0, .bool false, .bool false, .slice none 0 0, .bool false, .bool false, .int .i64 0, .slice none 0 0, .int .i64 0, .int .i64 0, .bool false, .bool false, .bool false, .bool false] := by rw [← hw1]; exact isn2 w _ _ _
  have p15 : w1.cell? ⟨w.heap.size, 15, none⟩ = some (.bool false) := b1.at_ 15 _ rfl
  have p10 : w1.cell? ⟨w.heap.size, 10, none⟩ = some ((.slice A2 n2 k2)) := b1.at_ 10 _ rfl
  have p13 : w1.cell? ⟨w.heap.size, 13, none⟩ = some (.bool false) := b1.at_ 13 _ rfl
  have p16 : w1.cell? ⟨w.heap.size, 16, none⟩ = some (.bool false) := b1.at_ 16 _ rfl
  have K1 := Lib.hid k0
  have B1 := Lib.hid b1
  have R1 := Lib.hid r1
  clear b1 r1 k0
  have hn1 : ¬ (m : Int) < 0 := by omega
  have hn2 : ¬ (m : Int) = 0 := by omega
  have hmn : m ≤ n2 := hm2
  have hmk : m ≤ k2 := by omega
  have hmI : (m : Int) ≤ (k2 : Int) := by omega
  have hc1 : ¬ (n2 : Int) < (m : Int) := by omega
  have hz1 : ¬ n2 = 0 := by omega
  have hz2 : ¬ (n2 : Int) = 0 := by omega
  have hmz : ¬ m = 0 := by omega
  have hmz2 : ¬ (m : Int) = 0 := by omega
  have HR : Hid (∀ u, Chg none_ w u → Rd u A2 n2 fun i => .int .u8 (us.getD i 0)) := fun u hc => hru.keep (hc.old (Nat.le_refl _))
  have HB : Hid (Byt us) := bu
  have HLn : Hid (us.length = n2) := hu
  have ha : IntKind.i64.wrap (o + (m : Int)) = o + (m : Int) := IntWalk.i64_in _ (by omega)
  have hb1 : IntKind.i64.wrap (W + 1) = W + 1 := IntWalk.i64_in _ (by omega)
  have hb2 : (W + 1).tdiv 2 = (W + 1) / 2 := Int.tdiv_eq_ediv_of_nonneg (by omega)
  obtain ⟨th, hth⟩ : ∃ y, (W + 1) / 2 = y := ⟨_, rfl⟩
  rw [hth] at hb2 ht
  have hb3 : IntKind.i64.wrap th = th := IntWalk.i64_in _ (by omega)
  have ht2 : ¬ th ≤ o + (m : Int) := by omega
  clear o0 o1 W0 W1 hth
  clear hru bu hu
  have a10 : ∀ o : Obj, (w1.alloc o).cell? ⟨w.heap.size, 10, none⟩ = some (.slice A2 n2 k2) := fun o => (B1.out.alloc o).at_ 10 _ rfl
  go_enter Tryd.func90, Tryd.ntmps90
  go_wp2_with (first
    | (at_builtin; refine wpList_append_bytes (v := .slice (some ⟨w1.heap.size, 0, none⟩) 0 0) rfl (.tmp 46) (.tmp 50) rfl rfl (ob_nil _ (w.heap.size + 2) _ _) A2 m k2 (us.take m) rfl (by have := HLn.out; rw [List.length_take]; omega) (rd_take' (HR.out _ (K1.out.alloc _)) (by omega)) (by omega) ?hz2 ?_; (case hz2 => have := R1.out.lt; simp; omega); intro v2 w2 h1 h2 h3; simp only [Nat.zero_add, List.nil_append] at h1; obtain ⟨A2_, k2_, rfl, _, _⟩ := h1.slice; have X2 := Lib.hid h1; have B2 := Lib.hid ((B1.out.alloc _).grown_ h2 (by simp [obk])); have R2 := Lib.hid ((R1.out.alloc _).grown_ h2 (by simp [obk])); have K2 := Lib.hid ((K1.out.alloc _).grown h2 fun k hk _ => by simp [obk] at hk); have p10 : w2.cell? ⟨w.heap.size, 10, none⟩ = some ((.slice A2 n2 k2)) := B2.out.at_ 10 _ rfl; have p13 : w2.cell? ⟨w.heap.size, 13, none⟩ = some (.bool false) := B2.out.at_ 13 _ rfl; have p16 : w2.cell? ⟨w.heap.size, 16, none⟩ = some (.bool false) := B2.out.at_ 16 _ rfl; have p12 : w2.cell? ⟨w.heap.size, 12, none⟩ = some (.int .i64 o) := B2.out.at_ 12 _ rfl; have p1 : w2.cell? ⟨w.heap.size, 1, none⟩ = some (.int .i64 W) := B2.out.at_ 1 _ rfl; have p11 : w2.cell? ⟨w.heap.size, 11, none⟩ = some (.int .i64 l) := B2.out.at_ 11 _ rfl; have O2 := Lib.hid h1; have a10 : ∀ o : Obj, (w2.alloc o).cell? ⟨w.heap.size, 10, none⟩ = some (.slice A2 n2 k2) := fun o => (B2.out.alloc o).at_ 10 _ rfl; clear h1 h2 h3)
    | (refine wpList_subL_bytes rfl _ _ rfl A2 n2 k2 rfl _ rfl m rfl (by omega) hk ?_)
    | (at_builtin; refine wpList_append_bytes (v := .slice (some ⟨w2.heap.size, 0, none⟩) 0 0) rfl (.tmp 52) (.tmp 56) rfl rfl (ob_nil _ (w.heap.size + 2) _ _) (subA A2 m k2) (n2 - m) (k2 - m) (us.drop m) rfl (by have := HLn.out; rw [List.length_drop]; omega) (rd_drop (HR.out _ (K2.out.alloc _)) hk (by omega)) (by omega) ?hz3 ?_; (case hz3 => have := R2.out.lt; simp; omega); intro v3 w3 h1 h2 h3; simp only [Nat.zero_add, List.nil_append] at h1; obtain ⟨A3_, k3_, rfl, _, _⟩ := h1.slice; have X3 := Lib.hid h1; have B3 := Lib.hid ((B2.out.alloc _).grown_ h2 (by simp [obk])); have R3 := Lib.hid ((R2.out.alloc _).grown_ h2 (by simp [obk])); have K3 := Lib.hid ((K2.out.alloc _).grown h2 fun k hk _ => by simp [obk] at hk); have O3 := Lib.hid ((O2.out.chg ((Chg.refl none_ _).alloc _) fun _ _ f => f).chg (((Chg.refl none_ _)).grown h2 fun k hk _ => by simp [obk] at hk) fun _ _ f => f); have p10 : w3.cell? ⟨w.heap.size, 10, none⟩ = some ((.slice A2 n2 k2)) := B3.out.at_ 10 _ rfl; have p13 : w3.cell? ⟨w.heap.size, 13, none⟩ = some (.bool false) := B3.out.at_ 13 _ rfl; have p16 : w3.cell? ⟨w.heap.size, 16, none⟩ = some (.bool false) := B3.out.at_ 16 _ rfl; have p12 : w3.cell? ⟨w.heap.size, 12, none⟩ = some (.int .i64 o) := B3.out.at_ 12 _ rfl; have p1 : w3.cell? ⟨w.heap.size, 1, none⟩ = some (.int .i64 W) := B3.out.at_ 1 _ rfl; have p11 : w3.cell? ⟨w.heap.size, 11, none⟩ = some (.int .i64 l) := B3.out.at_ 11 _ rfl; have U3 := Lib.hid h1; clear h1 h2 h3)
    | (refine stF rfl _ szB _ _ rfl 10 rfl rfl B3.out rfl (Nat.le_of_ble_eq_true rfl) rfl #[.int .u32 id, .int .i64 W, .int .i64 st, .int .i64 fr, .bool mine, .bool acc, (.slice A1 n1 k1), .bool cl, .bool lo, .int .i64 c, (.slice A3_ (n2 - m) k3_), .int .i64 l, .int .i64 o, .bool false, .bool td, .bool false, .bool false] rfl ?_; intro w4 i4 c4; have B4 := Lib.hid i4; have R4 := Lib.hid (R3.out.chg c4 (Nat.succ_ne_self _)); have K4 := Lib.hid (chg2 K3.out c4 (by omega)); have O4 := Lib.hid (O3.out.chg c4 fun k hk e => by have := (O3.out.block k hk).1; omega); have U4 := Lib.hid (U3.out.chg c4 fun k hk e => by have := (U3.out.block k hk).1; omega); clear i4 c4; have p13 : w4.cell? ⟨w.heap.size, 13, none⟩ = some (.bool false) := B4.out.at_ 13 _ rfl; have p16 : w4.cell? ⟨w.heap.size, 16, none⟩ = some (.bool false) := B4.out.at_ 16 _ rfl; have p12 : w4.cell? ⟨w.heap.size, 12, none⟩ = some (.int .i64 o) := B4.out.at_ 12 _ rfl; have p1 : w4.cell? ⟨w.heap.size, 1, none⟩ = some (.int .i64 W) := B4.out.at_ 1 _ rfl; have p11 : w4.cell? ⟨w.heap.size, 11, none⟩ = some (.int .i64 l) := B4.out.at_ 11 _ rfl)
    | (refine stF rfl _ szI _ _ rfl 12 rfl rfl B4.out rfl (Nat.le_of_ble_eq_true rfl) rfl #[.int .u32 id, .int .i64 W, .int .i64 st, .int .i64 fr, .bool mine, .bool acc, (.slice A1 n1 k1), .bool cl, .bool lo, .int .i64 c, (.slice A3_ (n2 - m) k3_), .int .i64 l, .int .i64 (o + (m : Int)), .bool false, .bool td, .bool false, .bool false] rfl ?_; intro w5 i5 c5; have B5 := Lib.hid i5; have R5 := Lib.hid (R4.out.chg c5 (Nat.succ_ne_self _)); have K5 := Lib.hid (chg2 K4.out c5 (by omega)); have O5 := Lib.hid (O4.out.chg c5 fun k hk e => by have := (O4.out.block k hk).1; omega); have U5 := Lib.hid (U4.out.chg c5 fun k hk e => by have := (U4.out.block k hk).1; omega); clear i5 c5; have p13 : w5.cell? ⟨w.heap.size, 13, none⟩ = some (.bool false) := B5.out.at_ 13 _ rfl; have p16 : w5.cell? ⟨w.heap.size, 16, none⟩ = some (.bool false) := B5.out.at_ 16 _ rfl; have p12 : w5.cell? ⟨w.heap.size, 12, none⟩ = some (.int .i64 (o + (m : Int))) := B5.out.at_ 12 _ rfl; have p1 : w5.cell? ⟨w.heap.size, 1, none⟩ = some (.int .i64 W) := B5.out.at_ 1 _ rfl; have p11 : w5.cell? ⟨w.heap.size, 11, none⟩ = some (.int .i64 l) := B5.out.at_ 11 _ rfl)
    | (refine ldS rfl _ rfl rfl B5.out rfl ?_)
    | (refine stS rfl _ _ rfl rfl rfl R5.out rfl rfl rfl ?_; intro w6 i6 c6; have R6 := Lib.hid i6; have B6 := Lib.hid (B5.out.chg c6 (Nat.ne_of_lt (Nat.lt_succ_self _))); have K6 := Lib.hid (chg2 K5.out c6 (by omega)); have O6 := Lib.hid (O5.out.chg c6 fun k hk e => by have := (O5.out.block k hk).1; omega); have U6 := Lib.hid (U5.out.chg c6 fun k hk e => by have := (U5.out.block k hk).1; omega); clear i6 c6))
  refine bodyPost_ret (results_c4 rfl _ rfl R6.out Tryd.underlying51 rfl szS rfl rfl rfl) rfl ?_
  exact ⟨_, _, _, _, rfl, BsO.of_ob O6.out (fun z hz => HB.out z (List.mem_of_mem_take hz)), BsO.of_ob U6.out (fun z hz => HB.out z (List.mem_of_mem_drop hz)), fun k hk => by have := O6.out.block k (O6.out.rdk k hk); omega, fun k hk => by have := U6.out.block k (U6.out.rdk k hk); omega, K6.out⟩
set_option maxHeartbeats 2000000 in
theorem qrd_g (m : Nat) (hn : 0 < m) (hm2 : m ≤ n2) (us : List Int) (hu : us.length = n2) (bu : Byt us) (hru : Rd w A2 n2 fun i => .int .u8 (us.getD i 0)) (h2 : n2 ≤ 4294967296) (hk : n2 ≤ k2) (o0 : 0 ≤ o) (o1 : o ≤ 4294967296) (W0 : 0 ≤ W) (W1 : W ≤ 4294967296) (ht : (W + 1) / 2 ≤ o + (m : Int)) (l0 : 0 ≤ l) (l1 : l ≤ 4294967296) (hq : o + (m : Int) ≤ 4294967295) : Calls Tryd.prog 90 #[.agg #[.int .u32 id, .int .i64 W, .int .i64 st, .int .i64 fr, .bool mine, .bool acc, (.slice A1 n1 k1), .bool cl, .bool lo, .int .i64 c, (.slice A2 n2 k2), .int .i64 l, .int .i64 o, .bool false, .bool td, .bool false, .bool false], .int .i64 (m : Int)] w fun e w' => ∃ A4 k4 A5 k5, e = .returned (.tuple #[.agg #[.int .u32 id, .int .i64 W, .int .i64 st, .int .i64 fr, .bool mine, .bool acc, (.slice A1 n1 k1), .bool cl, .bool lo, .int .i64 c, (.slice A5 (n2 - m) k5), .int .i64 (l + (o + (m : Int))), .int .i64 0, .bool false, .bool td, .bool false, .bool false], .slice A4 m k4, .int .u32 (o + (m : Int)), .int .i64 0]) ∧ BsO w' (.slice A4 m k4) (us.take m) ∧ BsO w' (.slice A5 (n2 - m) k5) (us.drop m) ∧ (∀ k, rdk (.slice A4 m k4) = some k → w.heap.size ≤ k ∧ k < w'.heap.size) ∧ (∀ k, rdk (.slice A5 (n2 - m) k5) = some k → w.heap.size ≤ k ∧ k < w'.heap.size) ∧ Chg none_ w w' := by
  obtain ⟨w1, hw1⟩ : ∃ y, (w.alloc (.cells #[.int .u32 id, .int .i64 W, .int .i64 st, .int .i64 fr, .bool mine, .bool acc, (.slice A1 n1 k1), .bool cl, .bool lo, .int .i64 c, (.slice A2 n2 k2), .int .i64 l, .int .i64 o, .bool false, .bool td, .bool false, .bool false] 51)).alloc (.cells #[.int .u32 0, .int .i64 0, .int .i64 0, .int .i64 0, .bool false, .bool false, .slice none 0 0, .bool false, .bool false, .int .i64 0, .slice none 0 0, .int .i64 0, .int .i64 0, .bool false, .bool false, .bool false, .bool false] 51) = y := ⟨_, rfl⟩
  have k0 : Chg none_ w w1 := by rw [← hw1]; exact ((Chg.refl none_ w).alloc _).alloc _
  have b1 : Is w1 w.heap.size 51 #[.int .u32 id, .int .i64 W, .int .i64 st, .int .i64 fr, .bool mine, .bool acc, (.slice A1 n1 k1), .bool cl, .bool lo, .int .i64 c, (.slice A2 n2 k2), .int .i64 l, .int .i64 o, .bool false, .bool td, .bool false, .bool false] := by rw [← hw1]; exact (Is.new w _ _).alloc _
  have r1 : Is w1 (w.heap.size + 1) 51 #[.int .u32 0, .int .i64 0, .int .i64 0, .int .i64 0, .bool false, .bool false, .slice none 0 0, .bool false, .bool false, .int .i64 0, .slice none 0 0, .int .i64 0, .int .i64 0, .bool false, .bool false, .bool false, .bool false] := by rw [← hw1]; exact isn2 w _ _ _
  have p15 : w1.cell? ⟨w.heap.size, 15, none⟩ = some (.bool false) := b1.at_ 15 _ rfl
  have p10 : w1.cell? ⟨w.heap.size, 10, none⟩ = some ((.slice A2 n2 k2)) := b1.at_ 10 _ rfl
  have p13 : w1.cell? ⟨w.heap.size, 13, none⟩ = some (.bool false) := b1.at_ 13 _ rfl
  have p16 : w1.cell? ⟨w.heap.size, 16, none⟩ = some (.bool false) := b1.at_ 16 _ rfl
  have K1 := Lib.hid k0
  have B1 := Lib.hid b1
  have R1 := Lib.hid r1
  clear b1 r1 k0
  have hn1 : ¬ (m : Int) < 0 := by omega
  have hn2 : ¬ (m : Int) = 0 := by omega
  have hmn : m ≤ n2 := hm2
  have hmk : m ≤ k2 := by omega
  have hmI : (m : Int) ≤ (k2 : Int) := by omega
  have hc1 : ¬ (n2 : Int) < (m : Int) := by omega
  have hz1 : ¬ n2 = 0 := by omega
  have hz2 : ¬ (n2 : Int) = 0 := by omega
  have hmz : ¬ m = 0 := by omega
  have hmz2 : ¬ (m : Int) = 0 := by omega
  have HR : Hid (∀ u, Chg none_ w u → Rd u A2 n2 fun i => .int .u8 (us.getD i 0)) := fun u hc => hru.keep (hc.old (Nat.le_refl _))
  have HB : Hid (Byt us) := bu
  have HLn : Hid (us.length = n2) := hu
  have ha : IntKind.i64.wrap (o + (m : Int)) = o + (m : Int) := IntWalk.i64_in _ (by omega)
  have hb1 : IntKind.i64.wrap (W + 1) = W + 1 := IntWalk.i64_in _ (by omega)
  have hb2 : (W + 1).tdiv 2 = (W + 1) / 2 := Int.tdiv_eq_ediv_of_nonneg (by omega)
  obtain ⟨th, hth⟩ : ∃ y, (W + 1) / 2 = y := ⟨_, rfl⟩
  rw [hth] at hb2 ht
  have hb3 : IntKind.i64.wrap th = th := IntWalk.i64_in _ (by omega)
  have hl : IntKind.i64.wrap (l + (o + (m : Int))) = l + (o + (m : Int)) := IntWalk.i64_in _ (by omega)
  have hg : IntKind.u32.wrap (o + (m : Int)) = o + (m : Int) := IntWalk.u32_in _ (by omega)
  clear o0 o1 W0 W1 hth
  clear hru bu hu
  have a10 : ∀ o : Obj, (w1.alloc o).cell? ⟨w.heap.size, 10, none⟩ = some (.slice A2 n2 k2) := fun o => (B1.out.alloc o).at_ 10 _ rfl
  go_enter Tryd.func90, Tryd.ntmps90
  go_wp2_with (first
    | (at_builtin; refine wpList_append_bytes (v := .slice (some ⟨w1.heap.size, 0, none⟩) 0 0) rfl (.tmp 46) (.tmp 50) rfl rfl (ob_nil _ (w.heap.size + 2) _ _) A2 m k2 (us.take m) rfl (by have := HLn.out; rw [List.length_take]; omega) (rd_take' (HR.out _ (K1.out.alloc _)) (by omega)) (by omega) ?hz2 ?_; (case hz2 => have := R1.out.lt; simp; omega); intro v2 w2 h1 h2 h3; simp only [Nat.zero_add, List.nil_append] at h1; obtain ⟨A2_, k2_, rfl, _, _⟩ := h1.slice; have X2 := Lib.hid h1; have B2 := Lib.hid ((B1.out.alloc _).grown_ h2 (by simp [obk])); have R2 := Lib.hid ((R1.out.alloc _).grown_ h2 (by simp [obk])); have K2 := Lib.hid ((K1.out.alloc _).grown h2 fun k hk _ => by simp [obk] at hk); have p10 : w2.cell? ⟨w.heap.size, 10, none⟩ = some ((.slice A2 n2 k2)) := B2.out.at_ 10 _ rfl; have p13 : w2.cell? ⟨w.heap.size, 13, none⟩ = some (.bool false) := B2.out.at_ 13 _ rfl; have p16 : w2.cell? ⟨w.heap.size, 16, none⟩ = some (.bool false) := B2.out.at_ 16 _ rfl; have p12 : w2.cell? ⟨w.heap.size, 12, none⟩ = some (.int .i64 o) := B2.out.at_ 12 _ rfl; have p1 : w2.cell? ⟨w.heap.size, 1, none⟩ = some (.int .i64 W) := B2.out.at_ 1 _ rfl; have p11 : w2.cell? ⟨w.heap.size, 11, none⟩ = some (.int .i64 l) := B2.out.at_ 11 _ rfl; have O2 := Lib.hid h1; have a10 : ∀ o : Obj, (w2.alloc o).cell? ⟨w.heap.size, 10, none⟩ = some (.slice A2 n2 k2) := fun o => (B2.out.alloc o).at_ 10 _ rfl; clear h1 h2 h3)
    | (refine wpList_subL_bytes rfl _ _ rfl A2 n2 k2 rfl _ rfl m rfl (by omega) hk ?_)
    | (at_builtin; refine wpList_append_bytes (v := .slice (some ⟨w2.heap.size, 0, none⟩) 0 0) rfl (.tmp 52) (.tmp 56) rfl rfl (ob_nil _ (w.heap.size + 2) _ _) (subA A2 m k2) (n2 - m) (k2 - m) (us.drop m) rfl (by have := HLn.out; rw [List.length_drop]; omega) (rd_drop (HR.out _ (K2.out.alloc _)) hk (by omega)) (by omega) ?hz3 ?_; (case hz3 => have := R2.out.lt; simp; omega); intro v3 w3 h1 h2 h3; simp only [Nat.zero_add, List.nil_append] at h1; obtain ⟨A3_, k3_, rfl, _, _⟩ := h1.slice; have X3 := Lib.hid h1; have B3 := Lib.hid ((B2.out.alloc _).grown_ h2 (by simp [obk])); have R3 := Lib.hid ((R2.out.alloc _).grown_ h2 (by simp [obk])); have K3 := Lib.hid ((K2.out.alloc _).grown h2 fun k hk _ => by simp [obk] at hk); have O3 := Lib.hid ((O2.out.chg ((Chg.refl none_ _).alloc _) fun _ _ f => f).chg (((Chg.refl none_ _)).grown h2 fun k hk _ => by simp [obk] at hk) fun _ _ f => f); have p10 : w3.cell? ⟨w.heap.size, 10, none⟩ = some ((.slice A2 n2 k2)) := B3.out.at_ 10 _ rfl; have p13 : w3.cell? ⟨w.heap.size, 13, none⟩ = some (.bool false) := B3.out.at_ 13 _ rfl; have p16 : w3.cell? ⟨w.heap.size, 16, none⟩ = some (.bool false) := B3.out.at_ 16 _ rfl; have p12 : w3.cell? ⟨w.heap.size, 12, none⟩ = some (.int .i64 o) := B3.out.at_ 12 _ rfl; have p1 : w3.cell? ⟨w.heap.size, 1, none⟩ = some (.int .i64 W) := B3.out.at_ 1 _ rfl; have p11 : w3.cell? ⟨w.heap.size, 11, none⟩ = some (.int .i64 l) := B3.out.at_ 11 _ rfl; have U3 := Lib.hid h1; clear h1 h2 h3)
    | (refine stF rfl _ szB _ _ rfl 10 rfl rfl B3.out rfl (Nat.le_of_ble_eq_true rfl) rfl #[.int .u32 id, .int .i64 W, .int .i64 st, .int .i64 fr, .bool mine, .bool acc, (.slice A1 n1 k1), .bool cl, .bool lo, .int .i64 c, (.slice A3_ (n2 - m) k3_), .int .i64 l, .int .i64 o, .bool false, .bool td, .bool false, .bool false] rfl ?_; intro w4 i4 c4; have B4 := Lib.hid i4; have R4 := Lib.hid (R3.out.chg c4 (Nat.succ_ne_self _)); have K4 := Lib.hid (chg2 K3.out c4 (by omega)); have O4 := Lib.hid (O3.out.chg c4 fun k hk e => by have := (O3.out.block k hk).1; omega); have U4 := Lib.hid (U3.out.chg c4 fun k hk e => by have := (U3.out.block k hk).1; omega); clear i4 c4; have p13 : w4.cell? ⟨w.heap.size, 13, none⟩ = some (.bool false) := B4.out.at_ 13 _ rfl; have p16 : w4.cell? ⟨w.heap.size, 16, none⟩ = some (.bool false) := B4.out.at_ 16 _ rfl; have p12 : w4.cell? ⟨w.heap.size, 12, none⟩ = some (.int .i64 o) := B4.out.at_ 12 _ rfl; have p1 : w4.cell? ⟨w.heap.size, 1, none⟩ = some (.int .i64 W) := B4.out.at_ 1 _ rfl; have p11 : w4.cell? ⟨w.heap.size, 11, none⟩ = some (.int .i64 l) := B4.out.at_ 11 _ rfl)
    | (refine stF rfl _ szI _ _ rfl 12 rfl rfl B4.out rfl (Nat.le_of_ble_eq_true rfl) rfl #[.int .u32 id, .int .i64 W, .int .i64 st, .int .i64 fr, .bool mine, .bool acc, (.slice A1 n1 k1), .bool cl, .bool lo, .int .i64 c, (.slice A3_ (n2 - m) k3_), .int .i64 l, .int .i64 (o + (m : Int)), .bool false, .bool td, .bool false, .bool false] rfl ?_; intro w5 i5 c5; have B5 := Lib.hid i5; have R5 := Lib.hid (R4.out.chg c5 (Nat.succ_ne_self _)); have K5 := Lib.hid (chg2 K4.out c5 (by omega)); have O5 := Lib.hid (O4.out.chg c5 fun k hk e => by have := (O4.out.block k hk).1; omega); have U5 := Lib.hid (U4.out.chg c5 fun k hk e => by have := (U4.out.block k hk).1; omega); clear i5 c5; have p13 : w5.cell? ⟨w.heap.size, 13, none⟩ = some (.bool false) := B5.out.at_ 13 _ rfl; have p16 : w5.cell? ⟨w.heap.size, 16, none⟩ = some (.bool false) := B5.out.at_ 16 _ rfl; have p12 : w5.cell? ⟨w.heap.size, 12, none⟩ = some (.int .i64 (o + (m : Int))) := B5.out.at_ 12 _ rfl; have p1 : w5.cell? ⟨w.heap.size, 1, none⟩ = some (.int .i64 W) := B5.out.at_ 1 _ rfl; have p11 : w5.cell? ⟨w.heap.size, 11, none⟩ = some (.int .i64 l) := B5.out.at_ 11 _ rfl)
    | (refine stF rfl _ szI _ _ rfl 11 rfl rfl B5.out rfl (Nat.le_of_ble_eq_true rfl) rfl #[.int .u32 id, .int .i64 W, .int .i64 st, .int .i64 fr, .bool mine, .bool acc, (.slice A1 n1 k1), .bool cl, .bool lo, .int .i64 c, (.slice A3_ (n2 - m) k3_), .int .i64 (l + (o + (m : Int))), .int .i64 (o + (m : Int)), .bool false, .bool td, .bool false, .bool false] rfl ?_; intro w6 i6 c6; have B6 := Lib.hid i6; have R6 := Lib.hid (R5.out.chg c6 (Nat.succ_ne_self _)); have K6 := Lib.hid (chg2 K5.out c6 (by omega)); have O6 := Lib.hid (O5.out.chg c6 fun k hk e => by have := (O5.out.block k hk).1; omega); have U6 := Lib.hid (U5.out.chg c6 fun k hk e => by have := (U5.out.block k hk).1; omega); clear i6 c6; have p12 : w6.cell? ⟨w.heap.size, 12, none⟩ = some (.int .i64 (o + (m : Int))) := B6.out.at_ 12 _ rfl)
    | (refine stF rfl _ szI _ _ rfl 12 rfl rfl B6.out rfl (Nat.le_of_ble_eq_true rfl) rfl #[.int .u32 id, .int .i64 W, .int .i64 st, .int .i64 fr, .bool mine, .bool acc, (.slice A1 n1 k1), .bool cl, .bool lo, .int .i64 c, (.slice A3_ (n2 - m) k3_), .int .i64 (l + (o + (m : Int))), .int .i64 0, .bool false, .bool td, .bool false, .bool false] rfl ?_; intro w7 i7 c7; have B7 := Lib.hid i7; have R7 := Lib.hid (R6.out.chg c7 (Nat.succ_ne_self _)); have K7 := Lib.hid (chg2 K6.out c7 (by omega)); have O7 := Lib.hid (O6.out.chg c7 fun k hk e => by have := (O6.out.block k hk).1; omega); have U7 := Lib.hid (U6.out.chg c7 fun k hk e => by have := (U6.out.block k hk).1; omega); clear i7 c7)
    | (refine ldS rfl _ rfl rfl B7.out rfl ?_)
    | (refine stS rfl _ _ rfl rfl rfl R7.out rfl rfl rfl ?_; intro w8 i8 c8; have R8 := Lib.hid i8; have B8 := Lib.hid (B7.out.chg c8 (Nat.ne_of_lt (Nat.lt_succ_self _))); have K8 := Lib.hid (chg2 K7.out c8 (by omega)); have O8 := Lib.hid (O7.out.chg c8 fun k hk e => by have := (O7.out.block k hk).1; omega); have U8 := Lib.hid (U7.out.chg c8 fun k hk e => by have := (U7.out.block k hk).1; omega); clear i8 c8))
  refine bodyPost_ret (results_c4 rfl _ rfl R8.out Tryd.underlying51 rfl szS rfl rfl rfl) rfl ?_
  exact ⟨_, _, _, _, rfl, BsO.of_ob O8.out (fun z hz => HB.out z (List.mem_of_mem_take hz)), BsO.of_ob U8.out (fun z hz => HB.out z (List.mem_of_mem_drop hz)), fun k hk => by have := O8.out.block k (O8.out.rdk k hk); omega, fun k hk => by have := U8.out.block k (U8.out.rdk k hk); omega, K8.out⟩
set_option maxHeartbeats 2000000 in
theorem qrd_hM (n : Int) (hn : 0 < n) (hm2 : (n2 : Int) < n) (us : List Int) (hu : us.length = n2) (bu : Byt us) (hru : Rd w A2 n2 fun i => .int .u8 (us.getD i 0)) (h2 : n2 ≤ 4294967296) (hk : n2 ≤ k2) (hz : 0 < n2) : Calls Tryd.prog 90 #[.agg #[.int .u32 id, .int .i64 W, .int .i64 st, .int .i64 fr, .bool mine, .bool acc, (.slice A1 n1 k1), .bool cl, .bool lo, .int .i64 c, (.slice A2 n2 k2), .int .i64 l, .int .i64 o, .bool true, .bool td, .bool false, .bool ct], .int .i64 n] w fun e w' => ∃ A4 k4 A5 k5, e = .returned (.tuple #[.agg #[.int .u32 id, .int .i64 W, .int .i64 st, .int .i64 fr, .bool mine, .bool acc, (.slice A1 n1 k1), .bool cl, .bool lo, .int .i64 c, (.slice A5 0 k5), .int .i64 l, .int .i64 o, .bool true, .bool td, .bool false, .bool ct], .slice A4 n2 k4, .int .u32 0, .int .i64 0]) ∧ BsO w' (.slice A4 n2 k4) us ∧ BsO w' (.slice A5 0 k5) [] ∧ (∀ k, rdk (.slice A4 n2 k4) = some k → w.heap.size ≤ k ∧ k < w'.heap.size) ∧ (∀ k, rdk (.slice A5 0 k5) = some k → w.heap.size ≤ k ∧ k < w'.heap.size) ∧ Chg none_ w w' := by
  obtain ⟨w1, hw1⟩ : ∃ y, (w.alloc (.cells #[.int .u32 id, .int .i64 W, .int .i64 st, .int .i64 fr, .bool mine, .bool acc, (.slice A1 n1 k1), .bool cl, .bool lo, .int .i64 c, (.slice A2 n2 k2), .int .i64 l, .int .i64 o, .bool true, .bool td, .bool false, .bool ct] 51)).alloc (.cells #[.int .u32 0, .int .i64 0, .int .i64 0, .int .i64 0, .bool false, .bool false, .slice none 0 0, .bool false, .bool false, .int .i64 0, .slice none 0 0, .int .i64 0, .int .i64 0, .bool false, .bool false, .bool false, .bool false] 51) = y := ⟨_, rfl⟩
  have k0 : Chg none_ w w1 := by rw [← hw1]; exact ((Chg.refl none_ w).alloc _).alloc _
  have b1 : Is w1 w.heap.size 51 #[.int .u32 id, .int .i64 W, .int .i64 st, .int .i64 fr, .bool mine, .bool acc, (.slice A1 n1 k1), .bool cl, .bool lo, .int .i64 c, (.slice A2 n2 k2), .int .i64 l, .int .i64 o, .bool true, .bool td, .bool false, .bool ct] := by rw [← hw1]; exact (Is.new w _ _).alloc _
  have r1 : Is w1 (w.heap.size + 1) 51 #[.int .u32 0, .int .i64 0, .int .i64 0, .int .i64 0, .bool false, .bool false, .slice none 0 0, .bool false, .bool false, .int .i64 0, .slice none 0 0, .int .i64 0, .int .i64 0, .bool false, .bool false, .bool false, .bool false] := by rw [← hw1]; exact isn2 w _ _ _
  have p15 : w1.cell? ⟨w.heap.size, 15, none⟩ = some (.bool false) := b1.at_ 15 _ rfl
  have p10 : w1.cell? ⟨w.heap.size, 10, none⟩ = some ((.slice A2 n2 k2)) := b1.at_ 10 _ rfl
  have p13 : w1.cell? ⟨w.heap.size, 13, none⟩ = some (.bool true) := b1.at_ 13 _ rfl
  have p16 : w1.cell? ⟨w.heap.size, 16, none⟩ = some (.bool ct) := b1.at_ 16 _ rfl
  have K1 := Lib.hid k0
  have B1 := Lib.hid b1
  have R1 := Lib.hid r1
  clear b1 r1 k0
  have hn1 : ¬ n < 0 := by omega
  have hn2 : ¬ n = 0 := by omega
  have hmI : (n2 : Int) ≤ (k2 : Int) := by omega
  have hz1 : ¬ n2 = 0 := by omega
  have hz2 : ¬ (n2 : Int) = 0 := by omega
  have HR : Hid (∀ u, Chg none_ w u → Rd u A2 n2 fun i => .int .u8 (us.getD i 0)) := fun u hc => hru.keep (hc.old (Nat.le_refl _))
  have HB : Hid (Byt us) := bu
  have HLn : Hid (us.length = n2) := hu
  clear hru bu hu
  have a10 : ∀ o : Obj, (w1.alloc o).cell? ⟨w.heap.size, 10, none⟩ = some (.slice A2 n2 k2) := fun o => (B1.out.alloc o).at_ 10 _ rfl
  go_enter Tryd.func90, Tryd.ntmps90
  go_wp2_with (first
    | (at_builtin; refine wpList_append_bytes (v := .slice (some ⟨w1.heap.size, 0, none⟩) 0 0) rfl (.tmp 46) (.tmp 50) rfl rfl (ob_nil _ (w.heap.size + 2) _ _) A2 n2 k2 us rfl HLn.out (HR.out _ (K1.out.alloc _)) (by omega) ?hz2 ?_; (case hz2 => have := R1.out.lt; simp; omega); intro v2 w2 h1 h2 h3; simp only [Nat.zero_add, List.nil_append] at h1; obtain ⟨A2_, k2_, rfl, _, _⟩ := h1.slice; have X2 := Lib.hid h1; have B2 := Lib.hid ((B1.out.alloc _).grown_ h2 (by simp [obk])); have R2 := Lib.hid ((R1.out.alloc _).grown_ h2 (by simp [obk])); have K2 := Lib.hid ((K1.out.alloc _).grown h2 fun k hk _ => by simp [obk] at hk); have p10 : w2.cell? ⟨w.heap.size, 10, none⟩ = some ((.slice A2 n2 k2)) := B2.out.at_ 10 _ rfl; have p13 : w2.cell? ⟨w.heap.size, 13, none⟩ = some (.bool true) := B2.out.at_ 13 _ rfl; have p16 : w2.cell? ⟨w.heap.size, 16, none⟩ = some (.bool ct) := B2.out.at_ 16 _ rfl; have p12 : w2.cell? ⟨w.heap.size, 12, none⟩ = some (.int .i64 o) := B2.out.at_ 12 _ rfl; have p1 : w2.cell? ⟨w.heap.size, 1, none⟩ = some (.int .i64 W) := B2.out.at_ 1 _ rfl; have p11 : w2.cell? ⟨w.heap.size, 11, none⟩ = some (.int .i64 l) := B2.out.at_ 11 _ rfl; have O2 := Lib.hid h1; have a10 : ∀ o : Obj, (w2.alloc o).cell? ⟨w.heap.size, 10, none⟩ = some (.slice A2 n2 k2) := fun o => (B2.out.alloc o).at_ 10 _ rfl; clear h1 h2 h3)
    | (refine wpList_subL_bytes rfl _ _ rfl A2 n2 k2 rfl _ rfl n2 rfl (by omega) hk ?_; rw [Nat.sub_self])
    | (at_builtin; refine wpList_append_bytes (v := .slice (some ⟨w2.heap.size, 0, none⟩) 0 0) rfl (.tmp 52) (.tmp 56) rfl rfl (ob_nil _ (w.heap.size + 2) _ _) (subA A2 n2 k2) 0 (k2 - n2) [] rfl rfl (Rd.zero _ _ _) (by omega) ?hz3 ?_; (case hz3 => have := R2.out.lt; simp; omega); intro v3 w3 h1 h2 h3; simp only [Nat.zero_add, List.nil_append] at h1; obtain ⟨A3_, k3_, rfl, _, _⟩ := h1.slice; have X3 := Lib.hid h1; have B3 := Lib.hid ((B2.out.alloc _).grown_ h2 (by simp [obk])); have R3 := Lib.hid ((R2.out.alloc _).grown_ h2 (by simp [obk])); have K3 := Lib.hid ((K2.out.alloc _).grown h2 fun k hk _ => by simp [obk] at hk); have O3 := Lib.hid ((O2.out.chg ((Chg.refl none_ _).alloc _) fun _ _ f => f).chg (((Chg.refl none_ _)).grown h2 fun k hk _ => by simp [obk] at hk) fun _ _ f => f); have p10 : w3.cell? ⟨w.heap.size, 10, none⟩ = some ((.slice A2 n2 k2)) := B3.out.at_ 10 _ rfl; have p13 : w3.cell? ⟨w.heap.size, 13, none⟩ = some (.bool true) := B3.out.at_ 13 _ rfl; have p16 : w3.cell? ⟨w.heap.size, 16, none⟩ = some (.bool ct) := B3.out.at_ 16 _ rfl; have p12 : w3.cell? ⟨w.heap.size, 12, none⟩ = some (.int .i64 o) := B3.out.at_ 12 _ rfl; have p1 : w3.cell? ⟨w.heap.size, 1, none⟩ = some (.int .i64 W) := B3.out.at_ 1 _ rfl; have p11 : w3.cell? ⟨w.heap.size, 11, none⟩ = some (.int .i64 l) := B3.out.at_ 11 _ rfl; have U3 := Lib.hid h1; clear h1 h2 h3)
    | (refine stF rfl _ szB _ _ rfl 10 rfl rfl B3.out rfl (Nat.le_of_ble_eq_true rfl) rfl #[.int .u32 id, .int .i64 W, .int .i64 st, .int .i64 fr, .bool mine, .bool acc, (.slice A1 n1 k1), .bool cl, .bool lo, .int .i64 c, (.slice A3_ 0 k3_), .int .i64 l, .int .i64 o, .bool true, .bool td, .bool false, .bool ct] rfl ?_; intro w4 i4 c4; have B4 := Lib.hid i4; have R4 := Lib.hid (R3.out.chg c4 (Nat.succ_ne_self _)); have K4 := Lib.hid (chg2 K3.out c4 (by omega)); have O4 := Lib.hid (O3.out.chg c4 fun k hk e => by have := (O3.out.block k hk).1; omega); have U4 := Lib.hid (U3.out.chg c4 fun k hk e => by have := (U3.out.block k hk).1; omega); clear i4 c4; have p13 : w4.cell? ⟨w.heap.size, 13, none⟩ = some (.bool true) := B4.out.at_ 13 _ rfl; have p16 : w4.cell? ⟨w.heap.size, 16, none⟩ = some (.bool ct) := B4.out.at_ 16 _ rfl; have p12 : w4.cell? ⟨w.heap.size, 12, none⟩ = some (.int .i64 o) := B4.out.at_ 12 _ rfl; have p1 : w4.cell? ⟨w.heap.size, 1, none⟩ = some (.int .i64 W) := B4.out.at_ 1 _ rfl; have p11 : w4.cell? ⟨w.heap.size, 11, none⟩ = some (.int .i64 l) := B4.out.at_ 11 _ rfl)
    | (refine ldS rfl _ rfl rfl B4.out rfl ?_)
    | (refine stS rfl _ _ rfl rfl rfl R4.out rfl rfl rfl ?_; intro w5 i5 c5; have R5 := Lib.hid i5; have B5 := Lib.hid (B4.out.chg c5 (Nat.ne_of_lt (Nat.lt_succ_self _))); have K5 := Lib.hid (chg2 K4.out c5 (by omega)); have O5 := Lib.hid (O4.out.chg c5 fun k hk e => by have := (O4.out.block k hk).1; omega); have U5 := Lib.hid (U4.out.chg c5 fun k hk e => by have := (U4.out.block k hk).1; omega); clear i5 c5))
  refine bodyPost_ret (results_c4 rfl _ rfl R5.out Tryd.underlying51 rfl szS rfl rfl rfl) rfl ?_
  exact ⟨_, _, _, _, rfl, BsO.of_ob O5.out HB.out, BsO.of_ob U5.out (fun z hz => by cases hz), fun k hk => by have := O5.out.block k (O5.out.rdk k hk); omega, fun k hk => by have := U5.out.block k (U5.out.rdk k hk); omega, K5.out⟩
set_option maxHeartbeats 2000000 in
theorem qrd_cM (n : Int) (hn : 0 < n) (hm2 : (n2 : Int) < n) (us : List Int) (hu : us.length = n2) (bu : Byt us) (hru : Rd w A2 n2 fun i => .int .u8 (us.getD i 0)) (h2 : n2 ≤ 4294967296) (hk : n2 ≤ k2) (hz : 0 < n2) : Calls Tryd.prog 90 #[.agg #[.int .u32 id, .int .i64 W, .int .i64 st, .int .i64 fr, .bool mine, .bool acc, (.slice A1 n1 k1), .bool cl, .bool lo, .int .i64 c, (.slice A2 n2 k2), .int .i64 l, .int .i64 o, .bool false, .bool td, .bool false, .bool true], .int .i64 n] w fun e w' => ∃ A4 k4 A5 k5, e = .returned (.tuple #[.agg #[.int .u32 id, .int .i64 W, .int .i64 st, .int .i64 fr, .bool mine, .bool acc, (.slice A1 n1 k1), .bool cl, .bool lo, .int .i64 c, (.slice A5 0 k5), .int .i64 l, .int .i64 o, .bool false, .bool td, .bool false, .bool true], .slice A4 n2 k4, .int .u32 0, .int .i64 0]) ∧ BsO w' (.slice A4 n2 k4) us ∧ BsO w' (.slice A5 0 k5) [] ∧ (∀ k, rdk (.slice A4 n2 k4) = some k → w.heap.size ≤ k ∧ k < w'.heap.size) ∧ (∀ k, rdk (.slice A5 0 k5) = some k → w.heap.size ≤ k ∧ k < w'.heap.size) ∧ Chg none_ w w' := by
  obtain ⟨w1, hw1⟩ : ∃ y, (w.alloc (.cells #[.int .u32 id, .int .i64 W, .int .i64 st, .int .i64 fr, .bool mine, .bool acc, (.slice A1 n1 k1), .bool cl, .bool lo, .int .i64 c, (.slice A2 n2 k2), .int .i64 l, .int .i64 o, .bool false, .bool td, .bool false, .bool true] 51)).alloc (.cells #[.int .u32 0, .int .i64 0, .int .i64 0, .int .i64 0, .bool false, .bool false, .slice none 0 0, .bool false, .bool false, .int .i64 0, .slice none 0 0, .int .i64 0, .int .i64 0, .bool false, .bool false, .bool false, .bool false] 51) = y := ⟨_, rfl⟩
  have k0 : Chg none_ w w1 := by rw [← hw1]; exact ((Chg.refl none_ w).alloc _).alloc _
  have b1 : Is w1 w.heap.size 51 #[.int .u32 id, .int .i64 W, .int .i64 st, .int .i64 fr, .bool mine, .bool acc, (.slice A1 n1 k1), .bool cl, .bool lo, .int .i64 c, (.slice A2 n2 k2), .int .i64 l, .int .i64 o, .bool false, .bool td, .bool false, .bool true] := by rw [← hw1]; exact (Is.new w _ _).alloc _
  have r1 : Is w1 (w.heap.size + 1) 51 #[.int .u32 0, .int .i64 0, .int .i64 0, .int .i64 0, .bool false, .bool false, .slice none 0 0, .bool false, .bool false, .int .i64 0, .slice none 0 0, .int .i64 0, .int .i64 0, .bool false, .bool false, .bool false, .bool false] := by rw [← hw1]; exact isn2 w _ _ _
  have p15 : w1.cell? ⟨w.heap.size, 15, none⟩ = some (.bool false) := b1.at_ 15 _ rfl
  have p10 : w1.cell? ⟨w.heap.size, 10, none⟩ = some ((.slice A2 n2 k2)) := b1.at_ 10 _ rfl
  have p13 : w1.cell? ⟨w.heap.size, 13, none⟩ = some (.bool false) := b1.at_ 13 _ rfl
  have p16 : w1.cell? ⟨w.heap.size, 16, none⟩ = some (.bool true) := b1.at_ 16 _ rfl
  have K1 := Lib.hid k0
  have B1 := Lib.hid b1
  have R1 := Lib.hid r1
  clear b1 r1 k0
  have hn1 : ¬ n < 0 := by omega
  have hn2 : ¬ n = 0 := by omega
  have hmI : (n2 : Int) ≤ (k2 : Int) := by omega
  have hz1 : ¬ n2 = 0 := by omega
  have hz2 : ¬ (n2 : Int) = 0 := by omega
  have HR : Hid (∀ u, Chg none_ w u → Rd u A2 n2 fun i => .int .u8 (us.getD i 0)) := fun u hc => hru.keep (hc.old (Nat.le_refl _))
  have HB : Hid (Byt us) := bu
  have HLn : Hid (us.length = n2) := hu
  clear hru bu hu
  have a10 : ∀ o : Obj, (w1.alloc o).cell? ⟨w.heap.size, 10, none⟩ = some (.slice A2 n2 k2) := fun o => (B1.out.alloc o).at_ 10 _ rfl
  go_enter Tryd.func90, Tryd.ntmps90
  go_wp2_with (first
    | (at_builtin; refine wpList_append_bytes (v := .slice (some ⟨w1.heap.size, 0, none⟩) 0 0) rfl (.tmp 46) (.tmp 50) rfl rfl (ob_nil _ (w.heap.size + 2) _ _) A2 n2 k2 us rfl HLn.out (HR.out _ (K1.out.alloc _)) (by omega) ?hz2 ?_; (case hz2 => have := R1.out.lt; simp; omega); intro v2 w2 h1 h2 h3; simp only [Nat.zero_add, List.nil_append] at h1; obtain ⟨A2_, k2_, rfl, _, _⟩ := h1.slice; have X2 := Lib.hid h1; have B2 := Lib.hid ((B1.out.alloc _).grown_ h2 (by simp [obk])); have R2 := Lib.hid ((R1.out.alloc _).grown_ h2 (by simp [obk])); have K2 := Lib.hid ((K1.out.alloc _).grown h2 fun k hk _ => by simp [obk] at hk); have p10 : w2.cell? ⟨w.heap.size, 10, none⟩ = some ((.slice A2 n2 k2)) := B2.out.at_ 10 _ rfl; have p13 : w2.cell? ⟨w.heap.size, 13, none⟩ = some (.bool false) := B2.out.at_ 13 _ rfl; have p16 : w2.cell? ⟨w.heap.size, 16, none⟩ = some (.bool true) := B2.out.at_ 16 _ rfl; have p12 : w2.cell? ⟨w.heap.size, 12, none⟩ = some (.int .i64 o) := B2.out.at_ 12 _ rfl; have p1 : w2.cell? ⟨w.heap.size, 1, none⟩ = some (.int .i64 W) := B2.out.at_ 1 _ rfl; have p11 : w2.cell? ⟨w.heap.size, 11, none⟩ = some (.int .i64 l) := B2.out.at_ 11 _ rfl; have O2 := Lib.hid h1; have a10 : ∀ o : Obj, (w2.alloc o).cell? ⟨w.heap.size, 10, none⟩ = some (.slice A2 n2 k2) := fun o => (B2.out.alloc o).at_ 10 _ rfl; clear h1 h2 h3)
    | (refine wpList_subL_bytes rfl _ _ rfl A2 n2 k2 rfl _ rfl n2 rfl (by omega) hk ?_; rw [Nat.sub_self])
    | (at_builtin; refine wpList_append_bytes (v := .slice (some ⟨w2.heap.size, 0, none⟩) 0 0) rfl (.tmp 52) (.tmp 56) rfl rfl (ob_nil _ (w.heap.size + 2) _ _) (subA A2 n2 k2) 0 (k2 - n2) [] rfl rfl (Rd.zero _ _ _) (by omega) ?hz3 ?_; (case hz3 => have := R2.out.lt; simp; omega); intro v3 w3 h1 h2 h3; simp only [Nat.zero_add, List.nil_append] at h1; obtain ⟨A3_, k3_, rfl, _, _⟩ := h1.slice; have X3 := Lib.hid h1; have B3 := Lib.hid ((B2.out.alloc _).grown_ h2 (by simp [obk])); have R3 := Lib.hid ((R2.out.alloc _).grown_ h2 (by simp [obk])); have K3 := Lib.hid ((K2.out.alloc _).grown h2 fun k hk _ => by simp [obk] at hk); have O3 := Lib.hid ((O2.out.chg ((Chg.refl none_ _).alloc _) fun _ _ f => f).chg (((Chg.refl none_ _)).grown h2 fun k hk _ => by simp [obk] at hk) fun _ _ f => f); have p10 : w3.cell? ⟨w.heap.size, 10, none⟩ = some ((.slice A2 n2 k2)) := B3.out.at_ 10 _ rfl; have p13 : w3.cell? ⟨w.heap.size, 13, none⟩ = some (.bool false) := B3.out.at_ 13 _ rfl; have p16 : w3.cell? ⟨w.heap.size, 16, none⟩ = some (.bool true) := B3.out.at_ 16 _ rfl; have p12 : w3.cell? ⟨w.heap.size, 12, none⟩ = some (.int .i64 o) := B3.out.at_ 12 _ rfl; have p1 : w3.cell? ⟨w.heap.size, 1, none⟩ = some (.int .i64 W) := B3.out.at_ 1 _ rfl; have p11 : w3.cell? ⟨w.heap.size, 11, none⟩ = some (.int .i64 l) := B3.out.at_ 11 _ rfl; have U3 := Lib.hid h1; clear h1 h2 h3)
    | (refine stF rfl _ szB _ _ rfl 10 rfl rfl B3.out rfl (Nat.le_of_ble_eq_true rfl) rfl #[.int .u32 id, .int .i64 W, .int .i64 st, .int .i64 fr, .bool mine, .bool acc, (.slice A1 n1 k1), .bool cl, .bool lo, .int .i64 c, (.slice A3_ 0 k3_), .int .i64 l, .int .i64 o, .bool false, .bool td, .bool false, .bool true] rfl ?_; intro w4 i4 c4; have B4 := Lib.hid i4; have R4 := Lib.hid (R3.out.chg c4 (Nat.succ_ne_self _)); have K4 := Lib.hid (chg2 K3.out c4 (by omega)); have O4 := Lib.hid (O3.out.chg c4 fun k hk e => by have := (O3.out.block k hk).1; omega); have U4 := Lib.hid (U3.out.chg c4 fun k hk e => by have := (U3.out.block k hk).1; omega); clear i4 c4; have p13 : w4.cell? ⟨w.heap.size, 13, none⟩ = some (.bool false) := B4.out.at_ 13 _ rfl; have p16 : w4.cell? ⟨w.heap.size, 16, none⟩ = some (.bool true) := B4.out.at_ 16 _ rfl; have p12 : w4.cell? ⟨w.heap.size, 12, none⟩ = some (.int .i64 o) := B4.out.at_ 12 _ rfl; have p1 : w4.cell? ⟨w.heap.size, 1, none⟩ = some (.int .i64 W) := B4.out.at_ 1 _ rfl; have p11 : w4.cell? ⟨w.heap.size, 11, none⟩ = some (.int .i64 l) := B4.out.at_ 11 _ rfl)
    | (refine ldS rfl _ rfl rfl B4.out rfl ?_)
    | (refine stS rfl _ _ rfl rfl rfl R4.out rfl rfl rfl ?_; intro w5 i5 c5; have R5 := Lib.hid i5; have B5 := Lib.hid (B4.out.chg c5 (Nat.ne_of_lt (Nat.lt_succ_self _))); have K5 := Lib.hid (chg2 K4.out c5 (by omega)); have O5 := Lib.hid (O4.out.chg c5 fun k hk e => by have := (O4.out.block k hk).1; omega); have U5 := Lib.hid (U4.out.chg c5 fun k hk e => by have := (U4.out.block k hk).1; omega); clear i5 c5))
  refine bodyPost_ret (results_c4 rfl _ rfl R5.out Tryd.underlying51 rfl szS rfl rfl rfl) rfl ?_
  exact ⟨_, _, _, _, rfl, BsO.of_ob O5.out HB.out, BsO.of_ob U5.out (fun z hz => by cases hz), fun k hk => by have := O5.out.block k (O5.out.rdk k hk); omega, fun k hk => by have := U5.out.block k (U5.out.rdk k hk); omega, K5.out⟩
set_option maxHeartbeats 2000000 in
theorem qrd_kM (n : Int) (hn : 0 < n) (hm2 : (n2 : Int) < n) (us : List Int) (hu : us.length = n2) (bu : Byt us) (hru : Rd w A2 n2 fun i => .int .u8 (us.getD i 0)) (h2 : n2 ≤ 4294967296) (hk : n2 ≤ k2) (hz : 0 < n2) (o0 : 0 ≤ o) (o1 : o ≤ 4294967296) (W0 : 0 ≤ W) (W1 : W ≤ 4294967296) (ht : o + (n2 : Int) < (W + 1) / 2) : Calls Tryd.prog 90 #[.agg #[.int .u32 id, .int .i64 W, .int .i64 st, .int .i64 fr, .bool mine, .bool acc, (.slice A1 n1 k1), .bool cl, .bool lo, .int .i64 c, (.slice A2 n2 k2), .int .i64 l, .int .i64 o, .bool false, .bool td, .bool false, .bool false], .int .i64 n] w fun e w' => ∃ A4 k4 A5 k5, e = .returned (.tuple #[.agg #[.int .u32 id, .int .i64 W, .int .i64 st, .int .i64 fr, .bool mine, .bool acc, (.slice A1 n1 k1), .bool cl, .bool lo, .int .i64 c, (.slice A5 0 k5), .int .i64 l, .int .i64 (o + (n2 : Int)), .bool false, .bool td, .bool false, .bool false], .slice A4 n2 k4, .int .u32 0, .int .i64 0]) ∧ BsO w' (.slice A4 n2 k4) us ∧ BsO w' (.slice A5 0 k5) [] ∧ (∀ k, rdk (.slice A4 n2 k4) = some k → w.heap.size ≤ k ∧ k < w'.heap.size) ∧ (∀ k, rdk (.slice A5 0 k5) = some k → w.heap.size ≤ k ∧ k < w'.heap.size) ∧ Chg none_ w w' := by
  obtain ⟨w1, hw1⟩ : ∃ y, (w.alloc (.cells #[.int .u32 id, .int .i64 W, .int .i64 st, .int .i64 fr, .bool mine, .bool acc, (.slice A1 n1 k1), .bool cl, .bool lo, .int .i64 c, (.slice A2 n2 k2), .int .i64 l, .int .i64 o, .bool false, .bool td, .bool false, .bool false] 51)).alloc (.cells #[.int .u32 0, .int .i64 0, .int .i64 0, .int .i64 0, .bool false, .bool false, .slice none 0 0, .bool false, .bool false, .int .i64 0, .slice none 0 0, .int .i64 0, .int .i64 0, .bool false, .bool false, .bool false, .bool false] 51) = y := ⟨_, rfl⟩
  have k0 : Chg none_ w w1 := by rw [← hw1]; exact ((Chg.refl none_ w).alloc _).alloc _
  have b1 : Is w1 w.heap.size 51 #[.int .u32 id, .int .i64 W, .int .i64 st, .int .i64 fr, .bool mine, .bool acc, (.slice A1 n1 k1), .bool cl, .bool lo, .int .i64 c, (.slice A2 n2 k2), .int .i64 l, .int .i64 o, .bool false, .bool td, .bool false, .bool false] := by rw [← hw1]; exact (Is.new w _ _).alloc _
  have r1 : Is w1 (w.heap.size + 1) 51 #[.int .u32 0, .int .i64 0, .int .i64 0, .int .i64 0, .bool false, .bool false, .slice none 0 0, .bool false, .bool false, .int .i64 0, .slice none 0 0, .int .i64 0, .int .i64 0, .bool false, .bool false, .bool false, .bool false] := by rw [← hw1]; exact isn2 w _ _ _
  have p15 : w1.cell? ⟨w.heap.size, 15, none⟩ = some (.bool false) := b1.at_ 15 _ rfl
  have p10 : w1.cell? ⟨w.heap.size, 10, none⟩ = some ((.slice A2 n2 k2)) := b1.at_ 10 _ rfl
  have p13 : w1.cell? ⟨w.heap.size, 13, none⟩ = some (.bool false) := b1.at_ 13 _ rfl
  have p16 : w1.cell? ⟨w.heap.size, 16, none⟩ = some (.bool false) := b1.at_ 16 _ rfl
  have K1 := Lib.hid k0
  have B1 := Lib.hid b1
  have R1 := Lib.hid r1
  clear b1 r1 k0
  have hn1 : ¬ n < 0 := by omega
  have hn2 : ¬ n = 0 := by omega
  have hmI : (n2 : Int) ≤ (k2 : Int) := by omega
  have hz1 : ¬ n2 = 0 := by omega
  have hz2 : ¬ (n2 : Int) = 0 := by omega
  have HR : Hid (∀ u, Chg none_ w u → Rd u A2 n2 fun i => .int .u8 (us.getD i 0)) := fun u hc => hru.keep (hc.old (Nat.le_refl _))
  have HB : Hid (Byt us) := bu
  have HLn : Hid (us.length = n2) := hu
  have ha : IntKind.i64.wrap (o + (n2 : Int)) = o + (n2 : Int) := IntWalk.i64_in _ (by omega)
  have hb1 : IntKind.i64.wrap (W + 1) = W + 1 := IntWalk.i64_in _ (by omega)
  have hb2 : (W + 1).tdiv 2 = (W + 1) / 2 := Int.tdiv_eq_ediv_of_nonneg (by omega)
  obtain ⟨th, hth⟩ : ∃ y, (W + 1) / 2 = y := ⟨_, rfl⟩
  rw [hth] at hb2 ht
  have hb3 : IntKind.i64.wrap th = th := IntWalk.i64_in _ (by omega)
  have ht2 : ¬ th ≤ o + (n2 : Int) := by omega
  clear o0 o1 W0 W1 hth
  clear hru bu hu
  have a10 : ∀ o : Obj, (w1.alloc o).cell? ⟨w.heap.size, 10, none⟩ = some (.slice A2 n2 k2) := fun o => (B1.out.alloc o).at_ 10 _ rfl
  go_enter Tryd.func90, Tryd.ntmps90
  go_wp2_with (first
    | (at_builtin; refine wpList_append_bytes (v := .slice (some ⟨w1.heap.size, 0, none⟩) 0 0) rfl (.tmp 46) (.tmp 50) rfl rfl (ob_nil _ (w.heap.size + 2) _ _) A2 n2 k2 us rfl HLn.out (HR.out _ (K1.out.alloc _)) (by omega) ?hz2 ?_; (case hz2 => have := R1.out.lt; simp; omega); intro v2 w2 h1 h2 h3; simp only [Nat.zero_add, List.nil_append] at h1; obtain ⟨A2_, k2_, rfl, _, _⟩ := h1.slice; have X2 := Lib.hid h1; have B2 := Lib.hid ((B1.out.alloc _).grown_ h2 (by simp [obk])); have R2 := Lib.hid ((R1.out.alloc _).grown_ h2 (by simp [obk])); have K2 := Lib.hid ((K1.out.alloc _).grown h2 fun k hk _ => by simp [obk] at hk); have p10 : w2.cell? ⟨w.heap.size, 10, none⟩ = some ((.slice A2 n2 k2)) := B2.out.at_ 10 _ rfl; have p13 : w2.cell? ⟨w.heap.size, 13, none⟩ = some (.bool false) := B2.out.at_ 13 _ rfl; have p16 : w2.cell? ⟨w.heap.size, 16, none⟩ = some (.bool false) := B2.out.at_ 16 _ rfl; have p12 : w2.cell? ⟨w.heap.size, 12, none⟩ = some (.int .i64 o) := B2.out.at_ 12 _ rfl; have p1 : w2.cell? ⟨w.heap.size, 1, none⟩ = some (.int .i64 W) := B2.out.at_ 1 _ rfl; have p11 : w2.cell? ⟨w.heap.size, 11, none⟩ = some (.int .i64 l) := B2.out.at_ 11 _ rfl; have O2 := Lib.hid h1; have a10 : ∀ o : Obj, (w2.alloc o).cell? ⟨w.heap.size, 10, none⟩ = some (.slice A2 n2 k2) := fun o => (B2.out.alloc o).at_ 10 _ rfl; clear h1 h2 h3)
    | (refine wpList_subL_bytes rfl _ _ rfl A2 n2 k2 rfl _ rfl n2 rfl (by omega) hk ?_; rw [Nat.sub_self])
    | (at_builtin; refine wpList_append_bytes (v := .slice (some ⟨w2.heap.size, 0, none⟩) 0 0) rfl (.tmp 52) (.tmp 56) rfl rfl (ob_nil _ (w.heap.size + 2) _ _) (subA A2 n2 k2) 0 (k2 - n2) [] rfl rfl (Rd.zero _ _ _) (by omega) ?hz3 ?_; (case hz3 => have := R2.out.lt; simp; omega); intro v3 w3 h1 h2 h3; simp only [Nat.zero_add, List.nil_append] at h1; obtain ⟨A3_, k3_, rfl, _, _⟩ := h1.slice; have X3 := Lib.hid h1; have B3 := Lib.hid ((B2.out.alloc _).grown_ h2 (by simp [obk])); have R3 := Lib.hid ((R2.out.alloc _).grown_ h2 (by simp [obk])); have K3 := Lib.hid ((K2.out.alloc _).grown h2 fun k hk _ => by simp [obk] at hk); have O3 := Lib.hid ((O2.out.chg ((Chg.refl none_ _).alloc _) fun _ _ f => f).chg (((Chg.refl none_ _)).grown h2 fun k hk _ => by simp [obk] at hk) fun _ _ f => f); have p10 : w3.cell? ⟨w.heap.size, 10, none⟩ = some ((.slice A2 n2 k2)) := B3.out.at_ 10 _ rfl; have p13 : w3.cell? ⟨w.heap.size, 13, none⟩ = some (.bool false) := B3.out.at_ 13 _ rfl; have p16 : w3.cell? ⟨w.heap.size, 16, none⟩ = some (.bool false) := B3.out.at_ 16 _ rfl; have p12 : w3.cell? ⟨w.heap.size, 12, none⟩ = some (.int .i64 o) := B3.out.at_ 12 _ rfl; have p1 : w3.cell? ⟨w.heap.size, 1, none⟩ = some (.int .i64 W) := B3.out.at_ 1 _ rfl; have p11 : w3.cell? ⟨w.heap.size, 11, none⟩ = some (.int .i64 l) := B3.out.at_ 11 _ rfl; have U3 := Lib.hid h1; clear h1 h2 h3)
    | (refine stF rfl _ szB _ _ rfl 10 rfl rfl B3.out rfl (Nat.le_of_ble_eq_true rfl) rfl #[.int .u32 id, .int .i64 W, .int .i64 st, .int .i64 fr, .bool mine, .bool acc, (.slice A1 n1 k1), .bool cl, .bool lo, .int .i64 c, (.slice A3_ 0 k3_), .int .i64 l, .int .i64 o, .bool false, .bool td, .bool false, .bool false] rfl ?_; intro w4 i4 c4; have B4 := Lib.hid i4; have R4 := Lib.hid (R3.out.chg c4 (Nat.succ_ne_self _)); have K4 := Lib.hid (chg2 K3.out c4 (by omega)); have O4 := Lib.hid (O3.out.chg c4 fun k hk e => by have := (O3.out.block k hk).1; omega); have U4 := Lib.hid (U3.out.chg c4 fun k hk e => by have := (U3.out.block k hk).1; omega); clear i4 c4; have p13 : w4.cell? ⟨w.heap.size, 13, none⟩ = some (.bool false) := B4.out.at_ 13 _ rfl; have p16 : w4.cell? ⟨w.heap.size, 16, none⟩ = some (.bool false) := B4.out.at_ 16 _ rfl; have p12 : w4.cell? ⟨w.heap.size, 12, none⟩ = some (.int .i64 o) := B4.out.at_ 12 _ rfl; have p1 : w4.cell? ⟨w.heap.size, 1, none⟩ = some (.int .i64 W) := B4.out.at_ 1 _ rfl; have p11 : w4.cell? ⟨w.heap.size, 11, none⟩ = some (.int .i64 l) := B4.out.at_ 11 _ rfl)
    | (refine stF rfl _ szI _ _ rfl 12 rfl rfl B4.out rfl (Nat.le_of_ble_eq_true rfl) rfl #[.int .u32 id, .int .i64 W, .int .i64 st, .int .i64 fr, .bool mine, .bool acc, (.slice A1 n1 k1), .bool cl, .bool lo, .int .i64 c, (.slice A3_ 0 k3_), .int .i64 l, .int .i64 (o + (n2 : Int)), .bool false, .bool td, .bool false, .bool false] rfl ?_; intro w5 i5 c5; have B5 := Lib.hid i5; have R5 := Lib.hid (R4.out.chg c5 (Nat.succ_ne_self _)); have K5 := Lib.hid (chg2 K4.out c5 (by omega)); have O5 := Lib.hid (O4.out.chg c5 fun k hk e => by have := (O4.out.block k hk).1; omega); have U5 := Lib.hid (U4.out.chg c5 fun k hk e => by have := (U4.out.block k hk).1; omega); clear i5 c5; have p13 : w5.cell? ⟨w.heap.size, 13, none⟩ = some (.bool false) := B5.out.at_ 13 _ rfl; have p16 : w5.cell? ⟨w.heap.size, 16, none⟩ = some (.bool false) := B5.out.at_ 16 _ rfl; have p12 : w5.cell? ⟨w.heap.size, 12, none⟩ = some (.int .i64 (o + (n2 : Int))) := B5.out.at_ 12 _ rfl; have p1 : w5.cell? ⟨w.heap.size, 1, none⟩ = some (.int .i64 W) := B5.out.at_ 1 _ rfl; have p11 : w5.cell? ⟨w.heap.size, 11, none⟩ = some (.int .i64 l) := B5.out.at_ 11 _ rfl)
    | (refine ldS rfl _ rfl rfl B5.out rfl ?_)
    | (refine stS rfl _ _ rfl rfl rfl R5.out rfl rfl rfl ?_; intro w6 i6 c6; have R6 := Lib.hid i6; have B6 := Lib.hid (B5.out.chg c6 (Nat.ne_of_lt (Nat.lt_succ_self _))); have K6 := Lib.hid (chg2 K5.out c6 (by omega)); have O6 := Lib.hid (O5.out.chg c6 fun k hk e => by have := (O5.out.block k hk).1; omega); have U6 := Lib.hid (U5.out.chg c6 fun k hk e => by have := (U5.out.block k hk).1; omega); clear i6 c6))
  refine bodyPost_ret (results_c4 rfl _ rfl R6.out Tryd.underlying51 rfl szS rfl rfl rfl) rfl ?_
  exact ⟨_, _, _, _, rfl, BsO.of_ob O6.out HB.out, BsO.of_ob U6.out (fun z hz => by cases hz), fun k hk => by have := O6.out.block k (O6.out.rdk k hk); omega, fun k hk => by have := U6.out.block k (U6.out.rdk k hk); omega, K6.out⟩
set_option maxHeartbeats 2000000 in
theorem qrd_gM (n : Int) (hn : 0 < n) (hm2 : (n2 : Int) < n) (us : List Int) (hu : us.length = n2) (bu : Byt us) (hru : Rd w A2 n2 fun i => .int .u8 (us.getD i 0)) (h2 : n2 ≤ 4294967296) (hk : n2 ≤ k2) (hz : 0 < n2) (o0 : 0 ≤ o) (o1 : o ≤ 4294967296) (W0 : 0 ≤ W) (W1 : W ≤ 4294967296) (ht : (W + 1) / 2 ≤ o + (n2 : Int)) (l0 : 0 ≤ l) (l1 : l ≤ 4294967296) (hq : o + (n2 : Int) ≤ 4294967295) : Calls Tryd.prog 90 #[.agg #[.int .u32 id, .int .i64 W, .int .i64 st, .int .i64 fr, .bool mine, .bool acc, (.slice A1 n1 k1), .bool cl, .bool lo, .int .i64 c, (.slice A2 n2 k2), .int .i64 l, .int .i64 o, .bool false, .bool td, .bool false, .bool false], .int .i64 n] w fun e w' => ∃ A4 k4 A5 k5, e = .returned (.tuple #[.agg #[.int .u32 id, .int .i64 W, .int .i64 st, .int .i64 fr, .bool mine, .bool acc, (.slice A1 n1 k1), .bool cl, .bool lo, .int .i64 c, (.slice A5 0 k5), .int .i64 (l + (o + (n2 : Int))), .int .i64 0, .bool false, .bool td, .bool false, .bool false], .slice A4 n2 k4, .int .u32 (o + (n2 : Int)), .int .i64 0]) ∧ BsO w' (.slice A4 n2 k4) us ∧ BsO w' (.slice A5 0 k5) [] ∧ (∀ k, rdk (.slice A4 n2 k4) = some k → w.heap.size ≤ k ∧ k < w'.heap.size) ∧ (∀ k, rdk (.slice A5 0 k5) = some k → w.heap.size ≤ k ∧ k < w'.heap.size) ∧ Chg none_ w w' := by
  obtain ⟨w1, hw1⟩ : ∃ y, (w.alloc (.cells #[.int .u32 id, .int .i64 W, .int .i64 st, .int .i64 fr, .bool mine, .bool acc, (.slice A1 n1 k1), .bool cl, .bool lo, .int .i64 c, (.slice A2 n2 k2), .int .i64 l, .int .i64 o, .bool false, .bool td, .bool false, .bool false] 51)).alloc (.cells #[.int .u32 0, .int .i64 0, .int .i64 0, .int .i64 0, .bool false, .bool false, .slice none 0 0, .bool false, .bool false, .int .i64 0, .slice none 0 0, .int .i64 0, .int .i64 0, .bool false, .bool false, .bool false, .bool false] 51) = y := ⟨_, rfl⟩
  have k0 : Chg none_ w w1 := by rw [← hw1]; exact ((Chg.refl none_ w).alloc _).alloc _
  have b1 : Is w1 w.heap.size 51 #[.int .u32 id, .int .i64 W, .int .i64 st, .int .i64 fr, .bool mine, .bool acc, (.slice A1 n1 k1), .bool cl, .bool lo, .int .i64 c, (.slice A2 n2 k2), .int .i64 l, .int .i64 o, .bool false, .bool td, .bool false, .bool false] := by rw [← hw1]; exact (Is.new w _ _).alloc _
  have r1 : Is w1 (w.heap.size + 1) 51 #[.int .u32 0, .int .i64 0, .int .i64 0, .int .i64 0, .bool false, .bool false, .slice none 0 0, .bool false, .bool false, .int .i64 0, .slice none 0 0, .int .i64 0, .int .i64 0, .bool false, .bool false, .bool false, .bool false] := by rw [← hw1]; exact isn2 w _ _ _
  have p15 : w1.cell? ⟨w.heap.size, 15, none⟩ = some (.bool false) := b1.at_ 15 _ rfl
  have p10 : w1.cell? ⟨w.heap.size, 10, none⟩ = some ((.slice A2 n2 k2)) := b1.at_ 10 _ rfl
  have p13 : w1.cell? ⟨w.heap.size, 13, none⟩ = some (.bool false) := b1.at_ 13 _ rfl
  have p16 : w1.cell? ⟨w.heap.size, 16, none⟩ = some (.bool false) := b1.at_ 16 _ rfl
  have K1 := Lib.hid k0
  have B1 := Lib.hid b1
  have R1 := Lib.hid r1
  clear b1 r1 k0
  have hn1 : ¬ n < 0 := by omega
  have hn2 : ¬ n = 0 := by omega
  have hmI : (n2 : Int) ≤ (k2 : Int) := by omega
  have hz1 : ¬ n2 = 0 := by omega
  have hz2 : ¬ (n2 : Int) = 0 := by omega
  have HR : Hid (∀ u, Chg none_ w u → Rd u A2 n2 fun i => .int .u8 (us.getD i 0)) := fun u hc => hru.keep (hc.old (Nat.le_refl _))
  have HB : Hid (Byt us) := bu
  have HLn : Hid (us.length = n2) := hu
  have ha : IntKind.i64.wrap (o + (n2 : Int)) = o + (n2 : Int) := IntWalk.i64_in _ (by omega)
  have hb1 : IntKind.i64.wrap (W + 1) = W + 1 := IntWalk.i64_in _ (by omega)
  have hb2 : (W + 1).tdiv 2 = (W + 1) / 2 := Int.tdiv_eq_ediv_of_nonneg (by omega)
  obtain ⟨th, hth⟩ : ∃ y, (W + 1) / 2 = y := ⟨_, rfl⟩
  rw [hth] at hb2 ht
  have hb3 : IntKind.i64.wrap th = th := IntWalk.i64_in _ (by omega)
  have hl : IntKind.i64.wrap (l + (o + (n2 : Int))) = l + (o + (n2 : Int)) := IntWalk.i64_in _ (by omega)
  have hg : IntKind.u32.wrap (o + (n2 : Int)) = o + (n2 : Int) := IntWalk.u32_in _ (by omega)
  clear o0 o1 W0 W1 hth
  clear hru bu hu
  have a10 : ∀ o : Obj, (w1.alloc o).cell? ⟨w.heap.size, 10, none⟩ = some (.slice A2 n2 k2) := fun o => (B1.out.alloc o).at_ 10 _ rfl
  go_enter Tryd.func90, Tryd.ntmps90
  go_wp2_with (first
    | (at_builtin; refine wpList_append_bytes (v := .slice (some ⟨w1.heap.size, 0, none⟩) 0 0) rfl (.tmp 46) (.tmp 50) rfl rfl (ob_nil _ (w.heap.size + 2) _ _) A2 n2 k2 us rfl HLn.out (HR.out _ (K1.out.alloc _)) (by omega) ?hz2 ?_; (case hz2 => have := R1.out.lt; simp; omega); intro v2 w2 h1 h2 h3; simp only [Nat.zero_add, List.nil_append] at h1; obtain ⟨A2_, k2_, rfl, _, _⟩ := h1.slice; have X2 := Lib.hid h1; have B2 := Lib.hid ((B1.out.alloc _).grown_ h2 (by simp [obk])); have R2 := Lib.hid ((R1.out.alloc _).grown_ h2 (by simp [obk])); have K2 := Lib.hid ((K1.out.alloc _).grown h2 fun k hk _ => by simp [obk] at hk); have p10 : w2.cell? ⟨w.heap.size, 10, none⟩ = some ((.slice A2 n2 k2)) := B2.out.at_ 10 _ rfl; have p13 : w2.cell? ⟨w.heap.size, 13, none⟩ = some (.bool false) := B2.out.at_ 13 _ rfl; have p16 : w2.cell? ⟨w.heap.size, 16, none⟩ = some (.bool false) := B2.out.at_ 16 _ rfl; have p12 : w2.cell? ⟨w.heap.size, 12, none⟩ = some (.int .i64 o) := B2.out.at_ 12 _ rfl; have p1 : w2.cell? ⟨w.heap.size, 1, none⟩ = some (.int .i64 W) := B2.out.at_ 1 _ rfl; have p11 : w2.cell? ⟨w.heap.size, 11, none⟩ = some (.int .i64 l) := B2.out.at_ 11 _ rfl; have O2 := Lib.hid h1; have a10 : ∀ o : Obj, (w2.alloc o).cell? ⟨w.heap.size, 10, none⟩ = some (.slice A2 n2 k2) := fun o => (B2.out.alloc o).at_ 10 _ rfl; clear h1 h2 h3)
    | (refine wpList_subL_bytes rfl _ _ rfl A2 n2 k2 rfl _ rfl n2 rfl (by omega) hk ?_; rw [Nat.sub_self])
    | (at_builtin; refine wpList_append_bytes (v := .slice (some ⟨w2.heap.size, 0, none⟩) 0 0) rfl (.tmp 52) (.tmp 56) rfl rfl (ob_nil _ (w.heap.size + 2) _ _) (subA A2 n2 k2) 0 (k2 - n2) [] rfl rfl (Rd.zero _ _ _) (by omega) ?hz3 ?_; (case hz3 => have := R2.out.lt; simp; omega); intro v3 w3 h1 h2 h3; simp only [Nat.zero_add, List.nil_append] at h1; obtain ⟨A3_, k3_, rfl, _, _⟩ := h1.slice; have X3 := Lib.hid h1; have B3 := Lib.hid ((B2.out.alloc _).grown_ h2 (by simp [obk])); have R3 := Lib.hid ((R2.out.alloc _).grown_ h2 (by simp [obk])); have K3 := Lib.hid ((K2.out.alloc _).grown h2 fun k hk _ => by simp [obk] at hk); have O3 := Lib.hid ((O2.out.chg ((Chg.refl none_ _).alloc _) fun _ _ f => f).chg (((Chg.refl none_ _)).grown h2 fun k hk _ => by simp [obk] at hk) fun _ _ f => f); have p10 : w3.cell? ⟨w.heap.size, 10, none⟩ = some ((.slice A2 n2 k2)) := B3.out.at_ 10 _ rfl; have p13 : w3.cell? ⟨w.heap.size, 13, none⟩ = some (.bool false) := B3.out.at_ 13 _ rfl; have p16 : w3.cell? ⟨w.heap.size, 16, none⟩ = some (.bool false) := B3.out.at_ 16 _ rfl; have p12 : w3.cell? ⟨w.heap.size, 12, none⟩ = some (.int .i64 o) := B3.out.at_ 12 _ rfl; have p1 : w3.cell? ⟨w.heap.size, 1, none⟩ = some (.int .i64 W) := B3.out.at_ 1 _ rfl; have p11 : w3.cell? ⟨w.heap.size, 11, none⟩ = some (.int .i64 l) := B3.out.at_ 11 _ rfl; have U3 := Lib.hid h1; clear h1 h2 h3)
    | (refine stF rfl _ szB _ _ rfl 10 rfl rfl B3.out rfl (Nat.le_of_ble_eq_true rfl) rfl #[.int .u32 id, .int .i64 W, .int .i64 st, .int .i64 fr, .bool mine, .bool acc, (.slice A1 n1 k1), .bool cl, .bool lo, .int .i64 c, (.slice A3_ 0 k3_), .int .i64 l, .int .i64 o, .bool false, .bool td, .bool false, .bool false] rfl ?_; intro w4 i4 c4; have B4 := Lib.hid i4; have R4 := Lib.hid (R3.out.chg c4 (Nat.succ_ne_self _)); have K4 := Lib.hid (chg2 K3.out c4 (by omega)); have O4 := Lib.hid (O3.out.chg c4 fun k hk e => by have := (O3.out.block k hk).1; omega); have U4 := Lib.hid (U3.out.chg c4 fun k hk e => by have := (U3.out.block k hk).1; omega); clear i4 c4; have p13 : w4.cell? ⟨w.heap.size, 13, none⟩ = some (.bool false) := B4.out.at_ 13 _ rfl; have p16 : w4.cell? ⟨w.heap.size, 16, none⟩ = some (.bool false) := B4.out.at_ 16 _ rfl; have p12 : w4.cell? ⟨w.heap.size, 12, none⟩ = some (.int .i64 o) := B4.out.at_ 12 _ rfl; have p1 : w4.cell? ⟨w.heap.size, 1, none⟩ = some (.int .i64 W) := B4.out.at_ 1 _ rfl; have p11 : w4.cell? ⟨w.heap.size, 11, none⟩ = some (.int .i64 l) := B4.out.at_ 11 _ rfl)
    | (refine stF rfl _ szI _ _ rfl 12 rfl rfl B4.out rfl (Nat.le_of_ble_eq_true rfl) rfl #[.int .u32 id, .int .i64 W, .int .i64 st, .int .i64 fr, .bool mine, .bool acc, (.slice A1 n1 k1), .bool cl, .bool lo, .int .i64 c, (.slice A3_ 0 k3_), .int .i64 l, .int .i64 (o + (n2 : Int)), .bool false, .bool td, .bool false, .bool false] rfl ?_; intro w5 i5 c5; have B5 := Lib.hid i5; have R5 := Lib.hid (R4.out.chg c5 (Nat.succ_ne_self _)); have K5 := Lib.hid (chg2 K4.out c5 (by omega)); have O5 := Lib.hid (O4.out.chg c5 fun k hk e => by have := (O4.out.block k hk).1; omega); have U5 := Lib.hid (U4.out.chg c5 fun k hk e => by have := (U4.out.block k hk).1; omega); clear i5 c5; have p13 : w5.cell? ⟨w.heap.size, 13, none⟩ = some (.bool false) := B5.out.at_ 13 _ rfl; have p16 : w5.cell? ⟨w.heap.size, 16, none⟩ = some (.bool false) := B5.out.at_ 16 _ rfl; have p12 : w5.cell? ⟨w.heap.size, 12, none⟩ = some (.int .i64 (o + (n2 : Int))) := B5.out.at_ 12 _ rfl; have p1 : w5.cell? ⟨w.heap.size, 1, none⟩ = some (.int .i64 W) := B5.out.at_ 1 _ rfl; have p11 : w5.cell? ⟨w.heap.size, 11, none⟩ = some (.int .i64 l) := B5.out.at_ 11 _ rfl)
    | (refine stF rfl _ szI _ _ rfl 11 rfl rfl B5.out rfl (Nat.le_of_ble_eq_true rfl) rfl #[.int .u32 id, .int .i64 W, .int .i64 st, .int .i64 fr, .bool mine, .bool acc, (.slice A1 n1 k1), .bool cl, .bool lo, .int .i64 c, (.slice A3_ 0 k3_), .int .i64 (l + (o + (n2 : Int))), .int .i64 (o + (n2 : Int)), .bool false, .bool td, .bool false, .bool false] rfl ?_; intro w6 i6 c6; have B6 := Lib.hid i6; have R6 := Lib.hid (R5.out.chg c6 (Nat.succ_ne_self _)); have K6 := Lib.hid (chg2 K5.out c6 (by omega)); have O6 := Lib.hid (O5.out.chg c6 fun k hk e => by have := (O5.out.block k hk).1; omega); have U6 := Lib.hid (U5.out.chg c6 fun k hk e => by have := (U5.out.block k hk).1; omega); clear i6 c6; have p12 : w6.cell? ⟨w.heap.size, 12, none⟩ = some (.int .i64 (o + (n2 : Int))) := B6.out.at_ 12 _ rfl)
    | (refine stF rfl _ szI _ _ rfl 12 rfl rfl B6.out rfl (Nat.le_of_ble_eq_true rfl) rfl #[.int .u32 id, .int .i64 W, .int .i64 st, .int .i64 fr, .bool mine, .bool acc, (.slice A1 n1 k1), .bool cl, .bool lo, .int .i64 c, (.slice A3_ 0 k3_), .int .i64 (l + (o + (n2 : Int))), .int .i64 0, .bool false, .bool td, .bool false, .bool false] rfl ?_; intro w7 i7 c7; have B7 := Lib.hid i7; have R7 := Lib.hid (R6.out.chg c7 (Nat.succ_ne_self _)); have K7 := Lib.hid (chg2 K6.out c7 (by omega)); have O7 := Lib.hid (O6.out.chg c7 fun k hk e => by have := (O6.out.block k hk).1; omega); have U7 := Lib.hid (U6.out.chg c7 fun k hk e => by have := (U6.out.block k hk).1; omega); clear i7 c7)
    | (refine ldS rfl _ rfl rfl B7.out rfl ?_)
    | (refine stS rfl _ _ rfl rfl rfl R7.out rfl rfl rfl ?_; intro w8 i8 c8; have R8 := Lib.hid i8; have B8 := Lib.hid (B7.out.chg c8 (Nat.ne_of_lt (Nat.lt_succ_self _))); have K8 := Lib.hid (chg2 K7.out c8 (by omega)); have O8 := Lib.hid (O7.out.chg c8 fun k hk e => by have := (O7.out.block k hk).1; omega); have U8 := Lib.hid (U7.out.chg c8 fun k hk e => by have := (U7.out.block k hk).1; omega); clear i8 c8))
  refine bodyPost_ret (results_c4 rfl _ rfl R8.out Tryd.underlying51 rfl szS rfl rfl rfl) rfl ?_
  exact ⟨_, _, _, _, rfl, BsO.of_ob O8.out HB.out, BsO.of_ob U8.out (fun z hz => by cases hz), fun k hk => by have := O8.out.block k (O8.out.rdk k hk); omega, fun k hk => by have := U8.out.block k (U8.out.rdk k hk); omega, K8.out⟩
set_option maxHeartbeats 2000000 in
theorem qrd_0M (n : Int) (hn : 0 < n) (hm2 : (0 : Int) < n) (us : List Int) (hu : us.length = 0) (bu : Byt us) (hru : Rd w A2 0 fun i => .int .u8 (us.getD i 0)) (h2 : 0 ≤ 4294967296) (hk : 0 ≤ k2) : Calls Tryd.prog 90 #[.agg #[.int .u32 id, .int .i64 W, .int .i64 st, .int .i64 fr, .bool mine, .bool acc, (.slice A1 n1 k1), .bool cl, .bool lo, .int .i64 c, (.slice A2 0 k2), .int .i64 l, .int .i64 o, .bool false, .bool td, .bool false, .bool false], .int .i64 n] w fun e w' => ∃ A4 k4 A5 k5, e = .returned (.tuple #[.agg #[.int .u32 id, .int .i64 W, .int .i64 st, .int .i64 fr, .bool mine, .bool acc, (.slice A1 n1 k1), .bool cl, .bool lo, .int .i64 c, (.slice A5 0 k5), .int .i64 l, .int .i64 o, .bool false, .bool td, .bool false, .bool false], .slice A4 0 k4, .int .u32 0, .int .i64 0]) ∧ BsO w' (.slice A4 0 k4) us ∧ BsO w' (.slice A5 0 k5) [] ∧ (∀ k, rdk (.slice A4 0 k4) = some k → w.heap.size ≤ k ∧ k < w'.heap.size) ∧ (∀ k, rdk (.slice A5 0 k5) = some k → w.heap.size ≤ k ∧ k < w'.heap.size) ∧ Chg none_ w w' := by
  obtain ⟨w1, hw1⟩ : ∃ y, (w.alloc (.cells #[.int .u32 id, .int .i64 W, .int .i64 st, .int .i64 fr, .bool mine, .bool acc, (.slice A1 n1 k1), .bool cl, .bool lo, .int .i64 c, (.slice A2 0 k2), .int .i64 l, .int .i64 o, .bool false, .bool td, .bool false, .bool false] 51)).alloc (.cells #[.int .u32 0, .int .i64 0, .int .i64 0, .int .i64 0, .bool false, .bool false, .slice none 0 0, .bool false, .bool false, .int .i64 0, .slice none 0 0, .int .i64 0, .int .i64 0, .bool false, .bool false, .bool false, .bool false] 51) = y := ⟨_, rfl⟩
  have k0 : Chg none_ w w1 := by rw [← hw1]; exact ((Chg.refl none_ w).alloc _).alloc _
  have b1 : Is w1 w.heap.size 51 #[.int .u32 id, .int .i64 W, .int .i64 st, .int .i64 fr, .bool mine, .bool acc, (.slice A1 n1 k1), .bool cl, .bool lo, .int .i64 c, (.slice A2 0 k2), .int .i64 l, .int .i64 o, .bool false, .bool td, .bool false, .bool false] := by rw [← hw1]; exact (Is.new w _ _).alloc _
  have r1 : Is w1 (w.heap.size + 1) 51 #[.int .u32 0, .int .i64 0, .int .i64 0, .int .i64 0, .bool false, .bool false, .slice none 0 0, .bool false, .bool false, .int .i64 0, .slice none 0 0, .int .i64 0, .int .i64 0, .bool false, .bool false, .bool false, .bool false] := by rw [← hw1]; exact isn2 w _ _ _
  have p15 : w1.cell? ⟨w.heap.size, 15, none⟩ = some (.bool false) := b1.at_ 15 _ rfl
  have p10 : w1.cell? ⟨w.heap.size, 10, none⟩ = some ((.slice A2 0 k2)) := b1.at_ 10 _ rfl
  have p13 : w1.cell? ⟨w.heap.size, 13, none⟩ = some (.bool false) := b1.at_ 13 _ rfl
  have p16 : w1.cell? ⟨w.heap.size, 16, none⟩ = some (.bool false) := b1.at_ 16 _ rfl
  have K1 := Lib.hid k0
  have B1 := Lib.hid b1
  have R1 := Lib.hid r1
  clear b1 r1 k0
  have hn1 : ¬ n < 0 := by omega
  have hn2 : ¬ n = 0 := by omega
  have hmI : (0 : Int) ≤ (k2 : Int) := by omega
  have HR : Hid (∀ u, Chg none_ w u → Rd u A2 0 fun i => .int .u8 (us.getD i 0)) := fun u hc => hru.keep (hc.old (Nat.le_refl _))
  have HB : Hid (Byt us) := bu
  have HLn : Hid (us.length = 0) := hu
  clear hru bu hu
  have a10 : ∀ o : Obj, (w1.alloc o).cell? ⟨w.heap.size, 10, none⟩ = some (.slice A2 0 k2) := fun o => (B1.out.alloc o).at_ 10 _ rfl
  go_enter Tryd.func90, Tryd.ntmps90
  go_wp2_with (first
    | (at_builtin; refine wpList_append_bytes (v := .slice (some ⟨w1.heap.size, 0, none⟩) 0 0) rfl (.tmp 46) (.tmp 50) rfl rfl (ob_nil _ (w.heap.size + 2) _ _) A2 0 k2 us rfl HLn.out (HR.out _ (K1.out.alloc _)) (by omega) ?hz2 ?_; (case hz2 => have := R1.out.lt; simp; omega); intro v2 w2 h1 h2 h3; simp only [Nat.zero_add, List.nil_append] at h1; obtain ⟨A2_, k2_, rfl, _, _⟩ := h1.slice; have X2 := Lib.hid h1; have B2 := Lib.hid ((B1.out.alloc _).grown_ h2 (by simp [obk])); have R2 := Lib.hid ((R1.out.alloc _).grown_ h2 (by simp [obk])); have K2 := Lib.hid ((K1.out.alloc _).grown h2 fun k hk _ => by simp [obk] at hk); have p10 : w2.cell? ⟨w.heap.size, 10, none⟩ = some ((.slice A2 0 k2)) := B2.out.at_ 10 _ rfl; have p13 : w2.cell? ⟨w.heap.size, 13, none⟩ = some (.bool false) := B2.out.at_ 13 _ rfl; have p16 : w2.cell? ⟨w.heap.size, 16, none⟩ = some (.bool false) := B2.out.at_ 16 _ rfl; have p12 : w2.cell? ⟨w.heap.size, 12, none⟩ = some (.int .i64 o) := B2.out.at_ 12 _ rfl; have p1 : w2.cell? ⟨w.heap.size, 1, none⟩ = some (.int .i64 W) := B2.out.at_ 1 _ rfl; have p11 : w2.cell? ⟨w.heap.size, 11, none⟩ = some (.int .i64 l) := B2.out.at_ 11 _ rfl; have O2 := Lib.hid h1; have a10 : ∀ o : Obj, (w2.alloc o).cell? ⟨w.heap.size, 10, none⟩ = some (.slice A2 0 k2) := fun o => (B2.out.alloc o).at_ 10 _ rfl; clear h1 h2 h3)
    | (refine wpList_subL_bytes rfl _ _ rfl A2 0 k2 rfl _ rfl 0 rfl (by omega) hk ?_; rw [Nat.sub_self])
    | (at_builtin; refine wpList_append_bytes (v := .slice (some ⟨w2.heap.size, 0, none⟩) 0 0) rfl (.tmp 52) (.tmp 56) rfl rfl (ob_nil _ (w.heap.size + 2) _ _) (subA A2 0 k2) 0 (k2 - 0) [] rfl rfl (Rd.zero _ _ _) (by omega) ?hz3 ?_; (case hz3 => have := R2.out.lt; simp; omega); intro v3 w3 h1 h2 h3; simp only [Nat.zero_add, List.nil_append] at h1; obtain ⟨A3_, k3_, rfl, _, _⟩ := h1.slice; have X3 := Lib.hid h1; have B3 := Lib.hid ((B2.out.alloc _).grown_ h2 (by simp [obk])); have R3 := Lib.hid ((R2.out.alloc _).grown_ h2 (by simp [obk])); have K3 := Lib.hid ((K2.out.alloc _).grown h2 fun k hk _ => by simp [obk] at hk); have O3 := Lib.hid ((O2.out.chg ((Chg.refl none_ _).alloc _) fun _ _ f => f).chg (((Chg.refl none_ _)).grown h2 fun k hk _ => by simp [obk] at hk) fun _ _ f => f); have p10 : w3.cell? ⟨w.heap.size, 10, none⟩ = some ((.slice A2 0 k2)) := B3.out.at_ 10 _ rfl; have p13 : w3.cell? ⟨w.heap.size, 13, none⟩ = some (.bool false) := B3.out.at_ 13 _ rfl; have p16 : w3.cell? ⟨w.heap.size, 16, none⟩ = some (.bool false) := B3.out.at_ 16 _ rfl; have p12 : w3.cell? ⟨w.heap.size, 12, none⟩ = some (.int .i64 o) := B3.out.at_ 12 _ rfl; have p1 : w3.cell? ⟨w.heap.size, 1, none⟩ = some (.int .i64 W) := B3.out.at_ 1 _ rfl; have p11 : w3.cell? ⟨w.heap.size, 11, none⟩ = some (.int .i64 l) := B3.out.at_ 11 _ rfl; have U3 := Lib.hid h1; clear h1 h2 h3)
    | (refine stF rfl _ szB _ _ rfl 10 rfl rfl B3.out rfl (Nat.le_of_ble_eq_true rfl) rfl #[.int .u32 id, .int .i64 W, .int .i64 st, .int .i64 fr, .bool mine, .bool acc, (.slice A1 n1 k1), .bool cl, .bool lo, .int .i64 c, (.slice A3_ 0 k3_), .int .i64 l, .int .i64 o, .bool false, .bool td, .bool false, .bool false] rfl ?_; intro w4 i4 c4; have B4 := Lib.hid i4; have R4 := Lib.hid (R3.out.chg c4 (Nat.succ_ne_self _)); have K4 := Lib.hid (chg2 K3.out c4 (by omega)); have O4 := Lib.hid (O3.out.chg c4 fun k hk e => by have := (O3.out.block k hk).1; omega); have U4 := Lib.hid (U3.out.chg c4 fun k hk e => by have := (U3.out.block k hk).1; omega); clear i4 c4; have p13 : w4.cell? ⟨w.heap.size, 13, none⟩ = some (.bool false) := B4.out.at_ 13 _ rfl; have p16 : w4.cell? ⟨w.heap.size, 16, none⟩ = some (.bool false) := B4.out.at_ 16 _ rfl; have p12 : w4.cell? ⟨w.heap.size, 12, none⟩ = some (.int .i64 o) := B4.out.at_ 12 _ rfl; have p1 : w4.cell? ⟨w.heap.size, 1, none⟩ = some (.int .i64 W) := B4.out.at_ 1 _ rfl; have p11 : w4.cell? ⟨w.heap.size, 11, none⟩ = some (.int .i64 l) := B4.out.at_ 11 _ rfl)
    | (refine ldS rfl _ rfl rfl B4.out rfl ?_)
    | (refine stS rfl _ _ rfl rfl rfl R4.out rfl rfl rfl ?_; intro w5 i5 c5; have R5 := Lib.hid i5; have B5 := Lib.hid (B4.out.chg c5 (Nat.ne_of_lt (Nat.lt_succ_self _))); have K5 := Lib.hid (chg2 K4.out c5 (by omega)); have O5 := Lib.hid (O4.out.chg c5 fun k hk e => by have := (O4.out.block k hk).1; omega); have U5 := Lib.hid (U4.out.chg c5 fun k hk e => by have := (U4.out.block k hk).1; omega); clear i5 c5))
  refine bodyPost_ret (results_c4 rfl _ rfl R5.out Tryd.underlying51 rfl szS rfl rfl rfl) rfl ?_
  exact ⟨_, _, _, _, rfl, BsO.of_ob O5.out HB.out, BsO.of_ob U5.out (fun z hz => by cases hz), fun k hk => by have := O5.out.block k (O5.out.rdk k hk); omega, fun k hk => by have := U5.out.block k (U5.out.rdk k hk); omega, K5.out⟩
theorem szV : (Tryd.prog.info? 58).map (·.size) = some 11 := by kernel_rfl
theorem sz32 : (Tryd.prog.info? 22).map (·.size) = some 1 := by kernel_rfl
section
variable {w : World} {ops : Array Oper} {rest : List Oper} {o : Oper} {a : Act} {Q : Exit → Act → World → Prop} {g : Nat} {cs : Array Value}
theorem ldV (hgd : o.guard = none) (x : Operand) (ho : o.op = .load 58 x) (hx : a.eval x = .pointer (some ⟨g, 0, none⟩)) (hi : Is w g 58 cs) (hn : cs.size = 11) (h : wpList Tryd.prog ops Q rest (a.put o.dst (.agg cs)) w) : wpList Tryd.prog ops Q (o :: rest) a w :=
  wpList_load_row hgd 58 x ho g hx 58 cs (0, 0) _ hi Tryd.underlying58 rfl (by rw [hn]; exact szV) h
theorem stV (hgd : o.guard = none) (x y : Operand) (ho : o.op = .store 58 x y) (hx : a.eval x = .pointer (some ⟨g, 0, none⟩)) {vs : Array Value} (hy : a.eval y = .agg vs) (hi : Is w g 58 cs) (hn : cs.size = 11) (hm : vs.size = 11) (h1 : vs.toList.all (·.oneCell') = true)
    (h : ∀ w', Is w' g 58 vs → Chg (fun k => k = g) w w' → wpList Tryd.prog ops Q rest (a.put o.dst undef) w') : wpList Tryd.prog ops Q (o :: rest) a w :=
  wpList_store_part hgd 58 x y ho g 0 hx _ hy vs.toList hi rfl (by rw [Array.length_toList]; omega) h1 (by rw [Array.length_toList, hm]; exact szV) vs (by rw [List.drop_eq_nil_of_le (by simp; omega)]; simp) h
end
end
end Go.Proofs.YthalmjjbamglgaaDoor
