/-
  Copies of bytes as laws, in a row and in a region that draws its order; make of bytes; a ring's bytes in their block.
  No condition.
-/
import Derived.Test.YthalmjjbamglgaaDoorOb3
import Derived.WalkLawsBesides
import Derived.Laws.CopyOwn
import Derived.Deep.QuietTactic
import Derived.BigQuiet
import Derived.Lib.Hide
namespace Go.Proofs.YthalmjjbamglgaaDoor
open Go.RowKit

theorem Tryd.szU8 : (Tryd.prog.info? 5).map (·.size) = some 1 := by kernel_rfl
theorem nat_min {a b k : Nat} (h : k = Nat.min a b) : k ≤ a ∧ k ≤ b ∧ (k = a ∨ k = b) := by
  have e : Nat.min a b = min a b := rfl
  omega
theorem chg_setRow (w : World) (g : Nat) (cs : Array Value) : Chg (fun k => k = g) w (w.setRow g cs) := ⟨rfl, rfl, rfl, by simp [World.setRow], fun k _ hk => setRow_other w g k cs hk⟩
section
variable {w : World} {ops : Array Oper} {rest : List Oper} {o : Oper} {a : Act} {Q : Exit → Act → World → Prop}
/-- copy(dst, src) of bytes: cs over the block of dst from place off on. -/
theorem wpList_copy_is (hgd : o.guard = none) (d s : Operand) (ho : o.op = .call { callee := .builtin .copy, args := #[d, s], argTypes := #[23, 23] })
    (dp sp : Option Addr) (dLen dCap sLen sCap : Nat) (hd : a.eval d = .slice dp dLen dCap) (hs : a.eval s = .slice sp sLen sCap)
    (g off : Nat) (cur : List Value) (hg : Is w g 5 cur.toArray) (m : Nat) (cs : List Value) (hm : cs.length = m) (hn : m = Nat.min sLen dLen)
    (hpos : 0 < m → dp = some ⟨g, off, none⟩ ∧ ∃ ad, sp = some ad ∧ ∀ j v, cs[j]? = some v → w.cell? (ad.add j) = some v)
    (hfit : off + m ≤ cur.length) (h1 : ∀ v ∈ cs, v.oneCell' = true)
    (h : ∀ w', Hid (Is w' g 5 (splice cur off cs).toArray) → Chg (fun k => k = g) w w' → wpList Tryd.prog ops Q rest (a.put o.dst (.int .i64 (m : Int))) w') :
    wpList Tryd.prog ops Q (o :: rest) a w := by
  subst hm
  by_cases h0 : cs.length = 0
  · obtain rfl : cs = [] := List.eq_nil_of_length_eq_zero h0
    refine wpList_copy_nothing hgd d s _ _ ho 5 Tryd.underlying23 Tryd.szU8 dp sp dLen dCap sLen sCap hd hs (by simpa using hn.symm) ?_
    exact h w (show _ = _ by simpa [splice, Is] using hg) (Chg.refl _ _)
  · obtain ⟨rfl, ad, rfl, hsrc⟩ := hpos (by omega)
    refine wpList_copy_own hgd d s _ _ ho 5 Tryd.underlying23 Tryd.szU8 g off dLen dCap ad sLen sCap hd hs cur.toArray _ hg cs hn hsrc (by simpa using hfit) h1 ?_
    exact h _ (show _ = _ by simpa [splice] using setRow_heap w g _ _ _ _ hg) (chg_setRow _ _ _)
/-- The same as one step of a region that draws its order. -/
theorem step_copy_is {K : Act → World → Prop} {E : Prop} (hgd : o.guard = none) (d s : Operand) (ho : o.op = .call { callee := .builtin .copy, args := #[d, s], argTypes := #[23, 23] })
    (dp sp : Option Addr) (dLen dCap sLen sCap : Nat) (hd : a.eval d = .slice dp dLen dCap) (hs : a.eval s = .slice sp sLen sCap)
    (g off : Nat) (cur : List Value) (hg : Is w g 5 cur.toArray) (m : Nat) (cs : List Value) (hm : cs.length = m) (hn : m = Nat.min sLen dLen)
    (hpos : 0 < m → dp = some ⟨g, off, none⟩ ∧ ∃ ad, sp = some ad ∧ ∀ j v, cs[j]? = some v → w.cell? (ad.add j) = some v)
    (hfit : off + m ≤ cur.length) (h1 : ∀ v ∈ cs, v.oneCell' = true)
    (h : ∀ w', Hid (Is w' g 5 (splice cur off cs).toArray) → Chg (fun k => k = g) w w' → K (a.put o.dst (.int .i64 (m : Int))) w') :
    if Region.wanted o (yielded ops a.tmps) = true then Oper.wp Tryd.prog o a w K Q else E := by
  subst hm
  have hw : Region.wanted o (yielded ops a.tmps) = true := by simp [Region.wanted, hgd]
  rw [if_pos hw]
  by_cases h0 : cs.length = 0
  · obtain rfl : cs = [] := List.eq_nil_of_length_eq_zero h0
    have hrun := run_copy_none (P := Tryd.prog) w 23 23 o.type 5 dp sp dLen dCap sLen sCap Tryd.underlying23 Tryd.szU8 (by simpa using hn.symm)
    unfold Oper.wp
    simp [execOp, ho, resolve, invoke, builtin, hd, hs, hrun, Result.andThen]
    exact h w (show _ = _ by simpa [splice, Is] using hg) (Chg.refl _ _)
  · obtain ⟨rfl, ad, rfl, hsrc⟩ := hpos (by omega)
    have hrun := run_copy_row (P := Tryd.prog) w 23 23 o.type 5 g off dLen dCap ad sLen sCap cur.toArray _ cs Tryd.underlying23 Tryd.szU8 hg hn hsrc (by simpa using hfit) h1
    unfold Oper.wp
    simp [execOp, ho, resolve, invoke, builtin, hd, hs, hrun, Result.andThen]
    exact h _ (show _ = _ by simpa [splice] using setRow_heap w g _ _ _ _ hg) (chg_setRow _ _ _)
/-- make([]byte, n). -/
theorem wpList_make_u8 (hgd : o.guard = none) (x y : Operand) (ho : o.op = Op.makeSlice 23 x y) (N : Int) (hx : a.eval x = .int .i64 N) (hy : a.eval y = .int .i64 N) (n : Nat) (hN : N = (n : Int)) (hn : n ≤ 140737488355328)
    (h : ∀ w', Is w' w.heap.size 5 (List.replicate n (Value.int .u8 0)).toArray → Chg none_ w w' → wpList Tryd.prog ops Q rest (a.put o.dst (.slice (some ⟨w.heap.size, 0, none⟩) n n)) w') : wpList Tryd.prog ops Q (o :: rest) a w := by
  subst hN
  obtain ⟨i, hi, hz0, hz1, hz2⟩ := info_parts Tryd.infoU8
  refine wpList_plain hgd fun K hK' => ?_
  have hrun := run_make (P := Tryd.prog) w 23 5 i (.int .u8 0) Tryd.underlying23 hi hz0 .i64 .i64 n n (by omega) (by omega) (by rw [hz2]; omega) (by omega)
  simp only [Int.toNat_natCast, hz1, Nat.mul_one] at hrun
  have hm : madeCells (Value.int .u8 0).cells n = (List.replicate n (Value.int .u8 0)).toArray := by
    apply Array.toList_inj.1
    rw [show (Value.int .u8 0).cells = #[Value.int .u8 0] from rfl, toList_madeCells_one]
  rw [hm] at hrun
  unfold Oper.wp
  simp [execOp, ho, hx, hy, hrun, Result.andThen]
  exact hK' _ _ (h _ (by simpa using Is.new w 5 (List.replicate n (Value.int .u8 0)).toArray) (by simpa using (Chg.refl none_ w).alloc (.cells (List.replicate n (Value.int .u8 0)).toArray 5)))
end

/-! ### The ring's bytes in their block -/
def rot (h i L : Nat) : Nat := if h + i < L then h + i else h + i - L
theorem rot_lt {h i L : Nat} (hh : h < L) (hi : i < L) : rot h i L < L := by unfold rot; split <;> omega
theorem rot_mod {h i L : Nat} (hh : h < L) (hi : i ≤ L) : (h + i) % L = if h + i < L then h + i else h + i - L := by
  split
  · exact Nat.mod_eq_of_lt (by omega)
  · rw [Nat.mod_eq_sub_mod (by omega), Nat.mod_eq_of_lt (by omega)]
theorem rot_inj {h i j L : Nat} (hi : i < L) (hj : j < L) (e : rot h i L = rot h j L) : i = j := by
  unfold rot at e
  split at e <;> split at e <;> omega
def u8s (xs : List Int) : List Value := xs.map (Value.int .u8)
theorem u8s_len (xs : List Int) : (u8s xs).length = xs.length := by simp [u8s]
theorem u8s_one (xs : List Int) : ∀ v ∈ u8s xs, v.oneCell' = true := ints_one _
theorem splice_at {L cs : List Value} {off : Nat} (hf : off + cs.length ≤ L.length) (j : Nat) : (splice L off cs)[j]? = if off ≤ j ∧ j < off + cs.length then cs[j - off]? else L[j]? := by
  unfold splice
  by_cases h1 : j < off
  · rw [List.getElem?_append_left (by rw [List.length_take]; omega), List.getElem?_take, if_pos h1, if_neg (by omega)]
  · rw [List.getElem?_append_right (by rw [List.length_take]; omega), List.length_take, Nat.min_eq_left (by omega)]
    by_cases h2 : j - off < cs.length
    · rw [List.getElem?_append_left h2, if_pos (by omega)]
    · rw [List.getElem?_append_right (by omega), List.getElem?_drop, if_neg (by omega)]
      congr 1
      omega
/-- Block b holds the ring's L places, xs from place h on. -/
def Rgb (w : World) (b L h : Nat) (xs : List Int) : Prop := ∃ cur : List Value, Is w b 5 cur.toArray ∧ cur.length = L ∧ h < L ∧ xs.length ≤ L ∧ ∀ i, i < xs.length → cur[rot h i L]? = (u8s xs)[i]?
theorem Rgb.chg {S : Nat → Prop} {w w' : World} {b L h : Nat} {xs : List Int} (k : Rgb w b L h xs) (hc : Chg S w w') (hs : ¬ S b) : Rgb w' b L h xs := by
  obtain ⟨cur, h1, h2, h3, h4, h5⟩ := k
  exact ⟨cur, h1.chg hc hs, h2, h3, h4, h5⟩
theorem Rgb.drop {w : World} {b L h : Nat} {xs : List Int} (k : Rgb w b L h xs) {m : Nat} (hm : m < xs.length) : Rgb w b L (rot h m L) (xs.drop m) := by
  obtain ⟨cur, h1, h2, h3, h4, h5⟩ := k
  refine ⟨cur, h1, h2, rot_lt h3 (by omega), by rw [List.length_drop]; omega, fun i hi => ?_⟩
  rw [List.length_drop] at hi
  have e : rot (rot h m L) i L = rot h (m + i) L := by
    unfold rot
    split <;> split <;> split <;> omega
  rw [e, h5 (m + i) (by omega)]
  unfold u8s
  rw [List.map_drop, List.getElem?_drop]
/-- Bytes behind the last, in two pieces: the first to the block's end, the second from its start on. -/
theorem Rgb.push {w2 : World} {b L h : Nat} {xs ys : List Int} {cur : List Value} (h2 : cur.length = L) (h3 : h < L) (h5 : ∀ i, i < xs.length → cur[rot h i L]? = (u8s xs)[i]?) (hk : xs.length + ys.length ≤ L) {m : Nat} (hat : rot h xs.length L = m) {k1 : Nat} (hk1 : k1 = Nat.min ys.length (L - m))
    (hx : xs.length < L) (j : Is w2 b 5 (splice (splice cur m (u8s (ys.take k1))) 0 (u8s (ys.drop k1))).toArray) : Rgb w2 b L h (xs ++ ys) := by
  have hmL : m < L := by rw [← hat]; exact rot_lt h3 hx
  obtain ⟨hkl, hkr, hkd⟩ := nat_min hk1
  have hl1 : (u8s (ys.take k1)).length = k1 := by rw [u8s_len, List.length_take]; omega
  have hl2 : (u8s (ys.drop k1)).length = ys.length - k1 := by rw [u8s_len, List.length_drop]
  have hrest : ys.length - k1 = 0 ∨ k1 = L - m := by omega
  have hm' : m = h + xs.length ∧ h + xs.length < L ∨ m + L = h + xs.length ∧ L ≤ h + xs.length := by
    unfold rot at hat
    split at hat <;> omega
  have hf1 : m + (u8s (ys.take k1)).length ≤ cur.length := by rw [hl1]; omega
  have hls : (splice cur m (u8s (ys.take k1))).length = L := by rw [length_splice _ _ _ hf1, h2]
  have hf2 : 0 + (u8s (ys.drop k1)).length ≤ (splice cur m (u8s (ys.take k1))).length := by rw [hl2, hls]; omega
  refine ⟨_, j, by rw [length_splice _ _ _ hf2, hls], h3, by rw [List.length_append]; exact hk, fun i hi => ?_⟩
  rw [List.length_append] at hi
  rw [splice_at hf2, splice_at hf1, hl1, hl2]
  by_cases hi0 : i < xs.length
  · have hr : ¬ (0 ≤ rot h i L ∧ rot h i L < 0 + (ys.length - k1)) ∧ ¬ (m ≤ rot h i L ∧ rot h i L < m + k1) := by
      unfold rot
      split <;> omega
    rw [if_neg hr.1, if_neg hr.2, h5 i hi0]
    unfold u8s
    rw [List.map_append, List.getElem?_append_left (by simpa using hi0)]
  · have hv : (u8s (xs ++ ys))[i]? = (u8s ys)[i - xs.length]? := by
      unfold u8s
      rw [List.map_append, List.getElem?_append_right (by simp; omega), List.length_map]
    rw [hv]
    by_cases hj : i - xs.length < k1
    · have hr : ¬ (0 ≤ rot h i L ∧ rot h i L < 0 + (ys.length - k1)) ∧ (m ≤ rot h i L ∧ rot h i L < m + k1) ∧ rot h i L - m = i - xs.length := by
        unfold rot
        split <;> omega
      rw [if_neg hr.1, if_pos hr.2.1, hr.2.2]
      unfold u8s
      rw [List.map_take, List.getElem?_take, if_pos hj]
    · have hr : (0 ≤ rot h i L ∧ rot h i L < 0 + (ys.length - k1)) ∧ rot h i L - 0 = i - xs.length - k1 := by
        unfold rot
        split <;> omega
      rw [if_pos hr.1, hr.2]
      unfold u8s
      rw [List.map_drop, List.getElem?_drop]
      congr 1
      omega
/-- The first k bytes, in two pieces. -/
theorem Rgb.front {L h : Nat} {xs : List Int} {cur : List Value} (h3 : h < L) (h5 : ∀ i, i < xs.length → cur[rot h i L]? = (u8s xs)[i]?) {k : Nat} (hk : k ≤ xs.length) (_hkL : xs.length ≤ L) {k1 : Nat} (hk1 : k1 = Nat.min (L - h) k) :
    (∀ j, j < k1 → cur[h + j]? = (u8s (xs.take k1))[j]?) ∧ (∀ j, j < k - k1 → cur[j]? = (u8s ((xs.drop k1).take (k - k1)))[j]?) := by
  obtain ⟨hkl, hkk, hkd⟩ := nat_min hk1
  have hr : k - k1 = 0 ∨ k1 = L - h := by omega
  refine ⟨fun j hj => ?_, fun j hj => ?_⟩
  · have e : rot h j L = h + j := by unfold rot; rw [if_pos (by omega)]
    rw [← e, h5 j (by omega)]
    unfold u8s
    rw [List.map_take, List.getElem?_take, if_pos hj]
  · have e : rot h (k1 + j) L = j := by unfold rot; rw [if_neg (by omega)]; omega
    rw [← e, h5 (k1 + j) (by omega), e]
    unfold u8s
    rw [List.map_take, List.getElem?_take, if_pos hj, List.map_drop, List.getElem?_drop]
end Go.Proofs.YthalmjjbamglgaaDoor
