/-
  Slice expressions on slices of one-cell elements as one law; append of bytes and of byte lists as laws with the program's own numbers, in a row and in a region that draws its order.
  No condition.
-/
import Derived.Test.YthalmjjbamglgaaDoorOb
import Derived.OwnWalk
import Derived.Deep.RegionLaw
import Derived.Lib.Hide
namespace Go.Proofs.YthalmjjbamglgaaDoor
open Go.RowKit

/-- The address of x[l:], c the capacity. -/
def subA (A : Option Addr) (l c : Nat) : Option Addr := if c = l then A else A.map (·.add l)
theorem Rd.sub {w : World} {A : Option Addr} {n c : Nat} {f : Nat → Value} (h : Rd w A n f) (hnc : n ≤ c) {l m : Nat} (hl : l ≤ m) (hm : m ≤ n) : Rd w (subA A l c) (m - l) fun i => f (l + i) := fun hp => by
  obtain ⟨ad, e, hc⟩ := h (by omega)
  subst e
  refine ⟨ad.add l, ?_, fun i hi => ?_⟩
  · unfold subA
    rw [if_neg (by omega)]
    rfl
  · rw [Go.Deep.add_add]
    exact hc (l + i) (by omega)
theorem Rd.subE {w : World} {A : Option Addr} {n c : Nat} {f : Nat → Value} (h : Rd w A n f) (hnc : n ≤ c) {l : Nat} (hl : l ≤ n) : Rd w (subA A l c) (n - l) fun i => f (l + i) := h.sub hnc hl (Nat.le_refl _)
theorem subA_block {A : Option Addr} {l c _n m d : Nat} : ∀ k, rdk (.slice (subA A l c) m d) = some k → ∃ a, A = some a ∧ a.block = k := by
  intro k hk
  unfold subA at hk
  split at hk
  · cases A with
    | none => simp [rdk] at hk
    | some a =>
      simp only [rdk] at hk
      split at hk
      · cases hk
      · exact ⟨a, rfl, Option.some.inj hk⟩
  · cases A with
    | none => simp [rdk] at hk
    | some a =>
      simp only [Option.map_some, rdk] at hk
      split at hk
      · cases hk
      · exact ⟨a, rfl, by rw [← Option.some.inj hk, block_add]⟩

section
variable {P : Program} {w : World}
theorem run_sub (t e : TypeId) (ht : P.underlying t = some (.slice e)) (i : TypeInfo) (hi : P.info? e = some i) (hs : i.size = 1) (A : Option Addr) (n c : Nat) (lI hI : Int) (l h : Nat) (el : lI = (l : Int)) (eh : hI = (h : Int)) (hl : l ≤ h) (hh : h ≤ c) :
    (Instr.sliceAt t (.slice A n c) (some (.int .i64 lI)) (some (.int .i64 hI)) none).run P w = .ok (.slice (subA A l c) (h - l) (c - l)) w := by
  subst el eh
  have hE : P.elem t = e := by simp [Program.elem, ht]
  have ht' : P.underlying t = some (.slice (P.elem t)) := by rw [hE]; exact ht
  rw [run_sliceAt_slice w t _ _ _ _ ht', run_slice_lh w t A n c ht' .i64 .i64 l h (by omega) (by omega) (by omega)]
  simp [sizeOf, typeInfo, hE, hi, hs, sliced, subA, Result.andThen]
theorem run_subL (t e : TypeId) (ht : P.underlying t = some (.slice e)) (i : TypeInfo) (hi : P.info? e = some i) (hs : i.size = 1) (A : Option Addr) (n c : Nat) (lI : Int) (l : Nat) (el : lI = (l : Int)) (hl : l ≤ n) (_hn : n ≤ c) :
    (Instr.sliceAt t (.slice A n c) (some (.int .i64 lI)) none none).run P w = .ok (.slice (subA A l c) (n - l) (c - l)) w := by
  subst el
  have hE : P.elem t = e := by simp [Program.elem, ht]
  have ht' : P.underlying t = some (.slice (P.elem t)) := by rw [hE]; exact ht
  rw [run_sliceAt_slice w t _ _ _ _ ht', run_slice_l w t A n c ht' .i64 l (by omega) (by omega)]
  simp [sizeOf, typeInfo, hE, hi, hs, sliced, subA, Result.andThen]
theorem run_subH (t e : TypeId) (ht : P.underlying t = some (.slice e)) (i : TypeInfo) (hi : P.info? e = some i) (hs : i.size = 1) (A : Option Addr) (n c : Nat) (hI : Int) (h : Nat) (eh : hI = (h : Int)) (hh : h ≤ c) :
    (Instr.sliceAt t (.slice A n c) none (some (.int .i64 hI)) none).run P w = .ok (.slice (subA A 0 c) h c) w := by
  subst eh
  have hE : P.elem t = e := by simp [Program.elem, ht]
  have ht' : P.underlying t = some (.slice (P.elem t)) := by rw [hE]; exact ht
  rw [run_sliceAt_slice w t _ _ _ _ ht', run_slice_h w t A n c ht' .i64 h (by omega) (by omega)]
  simp [sizeOf, typeInfo, hE, hi, hs, sliced, subA, Result.andThen]
theorem subA_zero (A : Option Addr) (c : Nat) : subA A 0 c = A := by
  unfold subA
  split
  · rfl
  · cases A <;> simp [Addr.add]

variable {ops : Array Oper} {rest : List Oper} {o : Oper} {a : Act} {Q : Exit → Act → World → Prop}
theorem wpList_sub (hgd : o.guard = none) (t e : TypeId) (x lo hi : Operand) (ho : o.op = Op.slice t x (some lo) (some hi) none) (ht : P.underlying t = some (.slice e)) (i : TypeInfo) (hinfo : P.info? e = some i) (hs : i.size = 1)
    (A : Option Addr) (n c : Nat) (hx : a.eval x = .slice A n c) (lI hI : Int) (hlo : a.eval lo = .int .i64 lI) (hhi : a.eval hi = .int .i64 hI) (l h : Nat) (el : lI = (l : Int)) (eh : hI = (h : Int)) (hl : l ≤ h) (hh : h ≤ c)
    (hK : wpList P ops Q rest (a.put o.dst (.slice (subA A l c) (h - l) (c - l))) w) : wpList P ops Q (o :: rest) a w := by
  refine wpList_plain hgd fun K hK' => ?_
  have hrun := run_sub (P := P) (w := w) t e ht i hinfo hs A n c lI hI l h el eh hl hh
  unfold Oper.wp
  simp [execOp, ho, hx, hlo, hhi, hrun, Result.andThen]
  exact hK' _ _ hK
theorem wpList_subL (hgd : o.guard = none) (t e : TypeId) (x lo : Operand) (ho : o.op = Op.slice t x (some lo) none none) (ht : P.underlying t = some (.slice e)) (i : TypeInfo) (hinfo : P.info? e = some i) (hs : i.size = 1)
    (A : Option Addr) (n c : Nat) (hx : a.eval x = .slice A n c) (lI : Int) (hlo : a.eval lo = .int .i64 lI) (l : Nat) (el : lI = (l : Int)) (hl : l ≤ n) (hn : n ≤ c)
    (hK : wpList P ops Q rest (a.put o.dst (.slice (subA A l c) (n - l) (c - l))) w) : wpList P ops Q (o :: rest) a w := by
  refine wpList_plain hgd fun K hK' => ?_
  have hrun := run_subL (P := P) (w := w) t e ht i hinfo hs A n c lI l el hl hn
  unfold Oper.wp
  simp [execOp, ho, hx, hlo, hrun, Result.andThen]
  exact hK' _ _ hK
theorem wpList_subH (hgd : o.guard = none) (t e : TypeId) (x hi : Operand) (ho : o.op = Op.slice t x none (some hi) none) (ht : P.underlying t = some (.slice e)) (i : TypeInfo) (hinfo : P.info? e = some i) (hs : i.size = 1)
    (A : Option Addr) (n c : Nat) (hx : a.eval x = .slice A n c) (hI : Int) (hhi : a.eval hi = .int .i64 hI) (h : Nat) (eh : hI = (h : Int)) (hh : h ≤ c)
    (hK : wpList P ops Q rest (a.put o.dst (.slice A h c)) w) : wpList P ops Q (o :: rest) a w := by
  refine wpList_plain hgd fun K hK' => ?_
  have hrun := run_subH (P := P) (w := w) t e ht i hinfo hs A n c hI h eh hh
  rw [subA_zero] at hrun
  unfold Oper.wp
  simp [execOp, ho, hx, hhi, hrun, Result.andThen]
  exact hK' _ _ hK

theorem step_append_ob {base : Nat} {e : TypeId} {v : Value} {n : Nat} {xs : List Value} {K : Act → World → Prop} {E : Prop} (hgd : o.guard = none) (s x : Operand) (t : TypeId)
    (ho : o.op = .call { callee := .builtin .append, args := #[s, x], argTypes := #[t, t] })
    (i : TypeInfo) (z : Value) (bytes : Nat) (ht : P.underlying t = some (.slice e)) (hi : P.info? e = some i) (hz : i.zero = some z) (hsize : i.size = 1) (hby : i.bytes = bytes) (hzs : z.cells.size = 1)
    (hs : a.eval s = v) (hown : Ob w base e v n xs) (A : Option Addr) (m c : Nat) (news : List Value) (hx : a.eval x = .slice A m c) (hl : news.length = m)
    (hr : 0 < m → ∃ ad, A = some ad ∧ ∀ j u, news[j]? = some u → w.cell? (ad.add j) = some u) (h1 : ∀ u ∈ news, u.oneCell' = true)
    (h63 : n + m ≤ maxLen) (hbytes : (n + m) * bytes ≤ 140737488355328) (hbase : base ≤ w.heap.size)
    (h : ∀ v' w', Ob w' base e v' (n + m) (xs ++ news) → w.grownBy w' (obk v) → (obk v' = obk v ∨ obk v' = some w.heap.size) → (m = 0 → v' = v) → K (a.put o.dst v') w') :
    if Region.wanted o (yielded ops a.tmps) = true then Oper.wp P o a w K Q else E := by
  have hw : Region.wanted o (yielded ops a.tmps) = true := by simp [Region.wanted, hgd]
  rw [if_pos hw]
  obtain ⟨v', w', hrun, h2, h3, h4, h5⟩ := run_append_ob (P := P) (w := w) t o.type i z bytes ht hi hz hsize hby hzs hown A m c news hl hr h1 h63 hbytes hbase
  unfold Oper.wp execOp
  simp only [ho, resolve, invoke, builtin, Sem.run_bind, Sem.run_pure, Result.andThen_ok, List.map_toArray, List.map_cons, List.map_nil, hs, hx, hrun]
  exact h v' w' h2 h3 h4 h5
end

theorem Tryd.infoU8 : (Tryd.prog.info? 5).map (fun i => (i.zero, i.size, i.bytes)) = some (some (.int .u8 0), 1, 1) := by kernel_rfl
theorem Tryd.infoBS : (Tryd.prog.info? 23).map (fun i => (i.zero, i.size, i.bytes)) = some (some (.slice none 0 0), 1, 24) := by kernel_rfl

section
variable {w : World} {ops : Array Oper} {rest : List Oper} {o : Oper} {a : Act} {Q : Exit → Act → World → Prop} {base : Nat} {v : Value} {n : Nat}
/-- append of bytes that read as xs. -/
theorem wpList_append_bytes (hgd : o.guard = none) (s x : Operand) (ho : o.op = .call { callee := .builtin .append, args := #[s, x], argTypes := #[23, 23] })
    {olds : List Value} (hs : a.eval s = v) (hown : Ob w base 5 v n olds) (A : Option Addr) (m c : Nat) (xs : List Int) (hx : a.eval x = .slice A m c) (hl : xs.length = m) (hr : Rd w A m fun i => .int .u8 (xs.getD i 0))
    (hb : n + m ≤ 140737488355328) (hbase : base ≤ w.heap.size)
    (h : ∀ v' w', Ob w' base 5 v' (n + m) (olds ++ xs.map (Value.int .u8)) → w.grownBy w' (obk v) → (obk v' = obk v ∨ obk v' = some w.heap.size) → wpList Tryd.prog ops Q rest (a.put o.dst v') w') : wpList Tryd.prog ops Q (o :: rest) a w := by
  obtain ⟨i0, hi, hz0, hz1, hz2⟩ := info_parts Tryd.infoU8
  exact wpList_append_ob hgd s x _ ho i0 _ 1 Tryd.underlying23 hi hz0 hz1 hz2 rfl hs hown A m c (xs.map (Value.int .u8)) hx (by simpa using hl) (rd_ints hl hr) (ints_one _) (by simp only [maxLen]; omega) (by omega) hbase fun v' w' h1 h2 h3 _ => h v' w' h1 h2 h3
theorem wpList_sub_bytes (hgd : o.guard = none) (x lo hi : Operand) (ho : o.op = Op.slice 23 x (some lo) (some hi) none)
    (A : Option Addr) (n c : Nat) (hx : a.eval x = .slice A n c) (lI hI : Int) (hlo : a.eval lo = .int .i64 lI) (hhi : a.eval hi = .int .i64 hI) (l h : Nat) (el : lI = (l : Int)) (eh : hI = (h : Int)) (hl : l ≤ h) (hh : h ≤ c)
    (hK : wpList Tryd.prog ops Q rest (a.put o.dst (.slice (subA A l c) (h - l) (c - l))) w) : wpList Tryd.prog ops Q (o :: rest) a w := by
  obtain ⟨i0, hi', hz0, hz1, hz2⟩ := info_parts Tryd.infoU8
  exact wpList_sub hgd _ _ x lo hi ho Tryd.underlying23 i0 hi' hz1 A n c hx lI hI hlo hhi l h el eh hl hh hK
theorem wpList_subL_bytes (hgd : o.guard = none) (x lo : Operand) (ho : o.op = Op.slice 23 x (some lo) none none)
    (A : Option Addr) (n c : Nat) (hx : a.eval x = .slice A n c) (lI : Int) (hlo : a.eval lo = .int .i64 lI) (l : Nat) (el : lI = (l : Int)) (hl : l ≤ n) (hn : n ≤ c)
    (hK : wpList Tryd.prog ops Q rest (a.put o.dst (.slice (subA A l c) (n - l) (c - l))) w) : wpList Tryd.prog ops Q (o :: rest) a w := by
  obtain ⟨i0, hi', hz0, hz1, hz2⟩ := info_parts Tryd.infoU8
  exact wpList_subL hgd _ _ x lo ho Tryd.underlying23 i0 hi' hz1 A n c hx lI hlo l el hl hn hK
theorem wpList_subH_bytes (hgd : o.guard = none) (x hi : Operand) (ho : o.op = Op.slice 23 x none (some hi) none)
    (A : Option Addr) (n c : Nat) (hx : a.eval x = .slice A n c) (hI : Int) (hhi : a.eval hi = .int .i64 hI) (h : Nat) (eh : hI = (h : Int)) (hh : h ≤ c)
    (hK : wpList Tryd.prog ops Q rest (a.put o.dst (.slice A h c)) w) : wpList Tryd.prog ops Q (o :: rest) a w := by
  obtain ⟨i0, hi', hz0, hz1, hz2⟩ := info_parts Tryd.infoU8
  exact wpList_subH hgd _ _ x hi ho Tryd.underlying23 i0 hi' hz1 A n c hx hI hhi h eh hh hK
end
theorem Is.rdI {kd : IntKind} {w : World} {g : Nat} {t : TypeId} (xs : List Int) (h : Is w g t (xs.map (Value.int kd)).toArray) : Rd w (some ⟨g, 0, none⟩) xs.length fun i => .int kd (xs.getD i 0) := fun _ => by
  refine ⟨_, rfl, fun i hi => ?_⟩
  rw [show (⟨g, 0, none⟩ : Addr).add i = ⟨g, i, none⟩ from by unfold Addr.add; split <;> simp_all]
  refine h.at_ i _ ?_
  rw [List.getElem?_toArray]
  exact ints_get hi
theorem vals_get {vs : List Value} {i : Nat} (h : i < vs.length) : vs[i]? = some (vs.getD i .nilIface) := by
  rw [List.getD_eq_getElem?_getD, List.getElem?_eq_getElem h]
  rfl
theorem Is.rdV {w : World} {g : Nat} {t : TypeId} (vs : List Value) (h : Is w g t vs.toArray) : Rd w (some ⟨g, 0, none⟩) vs.length fun i => vs.getD i .nilIface := fun _ => by
  refine ⟨_, rfl, fun i hi => ?_⟩
  rw [show (⟨g, 0, none⟩ : Addr).add i = ⟨g, i, none⟩ from by unfold Addr.add; split <;> simp_all]
  refine h.at_ i _ ?_
  rw [List.getElem?_toArray]
  exact vals_get hi
/-- A block of bytes just made. -/
theorem ob_made (w : World) (xs : List Int) (hl : xs.length ≤ maxLen) : Ob (w.alloc (.cells (xs.map (Value.int .u8)).toArray 5)) w.heap.size 5 (.slice (some ⟨w.heap.size, 0, none⟩) xs.length xs.length) xs.length (xs.map (Value.int .u8)) := by
  refine ob_own ⟨by simp, .inr ⟨w.heap.size, xs.length, _, rfl, Nat.le_refl _, heap_alloc_new w _, Nat.le_refl _, hl, by simp, by rw [Nat.mul_one]; exact List.take_of_length_le (by simp)⟩⟩
/-- A list of slice values, read. -/
theorem vals_list {w : World} {A : Option Addr} {m : Nat} (vs : List Value) (hl : vs.length = m) (hr : Rd w A m fun i => vs.getD i .nilIface) : 0 < m → ∃ ad, A = some ad ∧ ∀ j u, vs[j]? = some u → w.cell? (ad.add j) = some u :=
  rd_list vs hl (fun i hi => by rw [List.getD_eq_getElem?_getD, List.getElem?_eq_getElem (by omega)]; rfl) hr
theorem Ob.vals {w : World} {base : Nat} {e : TypeId} {A : Option Addr} {n c : Nat} {vs : List Value} (h : Ob w base e (.slice A n c) n vs) : Rd w A n fun i => vs.getD i .nilIface :=
  h.rd (fun i hi => vals_get (by rw [h.len]; exact hi)) rfl
end Go.Proofs.YthalmjjbamglgaaDoor
