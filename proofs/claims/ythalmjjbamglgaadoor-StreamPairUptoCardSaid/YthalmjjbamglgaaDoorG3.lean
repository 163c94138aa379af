/-
  Copies of bytes as laws, in a row and in a region that draws its order; make of bytes; a ring's bytes in their block.
  ring.Ring[byte]: Len, Cap, Free, copyTo and lay by contracts.
  ring.Ring[byte]: Push, Drop, Peek, Pop, Clear and New by contracts.
  ring.Ring[byte]: Drop, Peek, Pop, Clear and New by contracts.
  No condition of its own.
-/
import Derived.Test.YthalmjjbamglgaaDoorG2
import Derived.WalkLawsBesides
import Derived.Laws.CopyOwn
import Derived.Deep.QuietTactic
import Derived.BigQuiet
import Derived.Lib.Hide
import Derived.OwnWalk
namespace Go.Proofs.YthalmjjbamglgaaDoor
open Go.RowKit

theorem Tryd.szU8 : (Tryd.prog.info? 5).map (·.size) = some 1 := by kernel_rfl
theorem nat_min {a b k : Nat} (h : k = Nat.min a b) : k ≤ a ∧ k ≤ b ∧ (k = a ∨ k = b) := by
  have e : Nat.min a b = min a b := rfl
  omega
theorem chg_setRow (w : World) (g : Nat) (cs : Array Value) : Chg (fun k => k = g) w (w.setRow g cs) := ⟨rfl, rfl, rfl, by simp [World.setRow], fun k _ hk => setRow_other w g k cs hk⟩
section
variable {w : World} {ops : Array Oper} {rest : List Oper} {o : Oper} {a : Act} {Q : Exit → Act → World → Prop}
/-- copy(dst, src) of bytes: cs over the block of dst from place off on. -/
theorem wpList_copy_is (hgd : o.guard = none) (d s : Operand) (ho : o.op = .call { callee := .builtin .copy, args := #[d, s], argTypes := #[23, 23] })
    (dp sp : Option Addr) (dLen dCap sLen sCap : Nat) (hd : a.eval d = .slice dp dLen dCap) (hs : a.eval s = .slice sp sLen sCap)
    (g off : Nat) (cur : List Value) (hg : Is w g 5 cur.toArray) (m : Nat) (cs : List Value) (hm : cs.length = m) (hn : m = Nat.min sLen dLen)
    (hpos : 0 < m → dp = some ⟨g, off, none⟩ ∧ ∃ ad, sp = some ad ∧ ∀ j v, cs[j]? = some v → w.cell? (ad.add j) = some v)
    (hfit : off + m ≤ cur.length) (h1 : ∀ v ∈ cs, v.oneCell' = true)
    (h : ∀ w', Hid (Is w' g 5 (splice cur off cs).toArray) → Chg (fun k => k = g) w w' → wpList Tryd.prog ops Q rest (a.put o.dst (.int .i64 (m : Int))) w') :
    wpList Tryd.prog ops Q (o :: rest) a w := by
  subst hm
  by_cases h0 : cs.length = 0
  · obtain rfl : cs = [] := List.eq_nil_of_length_eq_zero h0
    refine wpList_copy_nothing hgd d s _ _ ho 5 Tryd.underlying23 Tryd.szU8 dp sp dLen dCap sLen sCap hd hs (by simpa using hn.symm) ?_
    exact h w (show _ = _ by simpa [splice, Is] using hg) (Chg.refl _ _)
  · obtain ⟨rfl, ad, rfl, hsrc⟩ := hpos (by omega)
    refine wpList_copy_own hgd d s _ _ ho 5 Tryd.underlying23 Tryd.szU8 g off dLen dCap ad sLen sCap hd hs cur.toArray _ hg cs hn hsrc (by simpa using hfit) h1 ?_
    exact h _ (show _ = _ by simpa [splice] using setRow_heap w g _ _ _ _ hg) (chg_setRow _ _ _)
/-- The same as one step of a region that draws its order. -/
theorem step_copy_is {K : Act → World → Prop} {E : Prop} (hgd : o.guard = none) (d s : Operand) (ho : o.op = .call { callee := .builtin .copy, args := #[d, s], argTypes := #[23, 23] })
    (dp sp : Option Addr) (dLen dCap sLen sCap : Nat) (hd : a.eval d = .slice dp dLen dCap) (hs : a.eval s = .slice sp sLen sCap)
    (g off : Nat) (cur : List Value) (hg : Is w g 5 cur.toArray) (m : Nat) (cs : List Value) (hm : cs.length = m) (hn : m = Nat.min sLen dLen)
    (hpos : 0 < m → dp = some ⟨g, off, none⟩ ∧ ∃ ad, sp = some ad ∧ ∀ j v, cs[j]? = some v → w.cell? (ad.add j) = some v)
    (hfit : off + m ≤ cur.length) (h1 : ∀ v ∈ cs, v.oneCell' = true)
    (h : ∀ w', Hid (Is w' g 5 (splice cur off cs).toArray) → Chg (fun k => k = g) w w' → K (a.put o.dst (.int .i64 (m : Int))) w') :
    if Region.wanted o (yielded ops a.tmps) = true then Oper.wp Tryd.prog o a w K Q else E := by
  subst hm
  have hw : Region.wanted o (yielded ops a.tmps) = true := by simp [Region.wanted, hgd]
  rw [if_pos hw]
  by_cases h0 : cs.length = 0
  · obtain rfl : cs = [] := List.eq_nil_of_length_eq_zero h0
    have hrun := run_copy_none (P := Tryd.prog) w 23 23 o.type 5 dp sp dLen dCap sLen sCap Tryd.underlying23 Tryd.szU8 (by simpa using hn.symm)
    unfold Oper.wp
    simp [execOp, ho, resolve, invoke, builtin, hd, hs, hrun, Result.andThen]
    exact h w (show _ = _ by simpa [splice, Is] using hg) (Chg.refl _ _)
  · obtain ⟨rfl, ad, rfl, hsrc⟩ := hpos (by omega)
    have hrun := run_copy_row (P := Tryd.prog) w 23 23 o.type 5 g off dLen dCap ad sLen sCap cur.toArray _ cs Tryd.underlying23 Tryd.szU8 hg hn hsrc (by simpa using hfit) h1
    unfold Oper.wp
    simp [execOp, ho, resolve, invoke, builtin, hd, hs, hrun, Result.andThen]
    exact h _ (show _ = _ by simpa [splice] using setRow_heap w g _ _ _ _ hg) (chg_setRow _ _ _)
/-- make([]byte, n). -/
theorem wpList_make_u8 (hgd : o.guard = none) (x y : Operand) (ho : o.op = Op.makeSlice 23 x y) (N : Int) (hx : a.eval x = .int .i64 N) (hy : a.eval y = .int .i64 N) (n : Nat) (hN : N = (n : Int)) (hn : n ≤ 140737488355328)
    (h : ∀ w', Is w' w.heap.size 5 (List.replicate n (Value.int .u8 0)).toArray → Chg none_ w w' → wpList Tryd.prog ops Q rest (a.put o.dst (.slice (some ⟨w.heap.size, 0, none⟩) n n)) w') : wpList Tryd.prog ops Q (o :: rest) a w := by
  subst hN
  obtain ⟨i, hi, hz0, hz1, hz2⟩ := info_parts Tryd.infoU8
  refine wpList_plain hgd fun K hK' => ?_
  have hrun := run_make (P := Tryd.prog) w 23 5 i (.int .u8 0) Tryd.underlying23 hi hz0 .i64 .i64 n n (by omega) (by omega) (by rw [hz2]; omega) (by omega)
  simp only [Int.toNat_natCast, hz1, Nat.mul_one] at hrun
  have hm : madeCells (Value.int .u8 0).cells n = (List.replicate n (Value.int .u8 0)).toArray := by
    apply Array.toList_inj.1
    rw [show (Value.int .u8 0).cells = #[Value.int .u8 0] from rfl, toList_madeCells_one]
  rw [hm] at hrun
  unfold Oper.wp
  simp [execOp, ho, hx, hy, hrun, Result.andThen]
  exact hK' _ _ (h _ (by simpa using Is.new w 5 (List.replicate n (Value.int .u8 0)).toArray) (by simpa using (Chg.refl none_ w).alloc (.cells (List.replicate n (Value.int .u8 0)).toArray 5)))
end

/-! ### The ring's bytes in their block -/
def rot (h i L : Nat) : Nat := if h + i < L then h + i else h + i - L
theorem rot_lt {h i L : Nat} (hh : h < L) (hi : i < L) : rot h i L < L := by unfold rot; split <;> omega
theorem rot_mod {h i L : Nat} (hh : h < L) (hi : i ≤ L) : (h + i) % L = if h + i < L then h + i else h + i - L := by
  split
  · exact Nat.mod_eq_of_lt (by omega)
  · rw [Nat.mod_eq_sub_mod (by omega), Nat.mod_eq_of_lt (by omega)]
theorem rot_inj {h i j L : Nat} (hi : i < L) (hj : j < L) (e : rot h i L = rot h j L) : i = j := by
  unfold rot at e
  split at e <;> split at e <;> omega
def u8s (xs : List Int) : List Value := xs.map (Value.int .u8)
theorem u8s_len (xs : List Int) : (u8s xs).length = xs.length := by simp [u8s]
theorem u8s_one (xs : List Int) : ∀ v ∈ u8s xs, v.oneCell' = true := ints_one _
theorem splice_at {L cs : List Value} {off : Nat} (hf : off + cs.length ≤ L.length) (j : Nat) : (splice L off cs)[j]? = if off ≤ j ∧ j < off + cs.length then cs[j - off]? else L[j]? := by
  unfold splice
  by_cases h1 : j < off
  · rw [List.getElem?_append_left (by rw [List.length_take]; omega), List.getElem?_take, if_pos h1, if_neg (by omega)]
  · rw [List.getElem?_append_right (by rw [List.length_take]; omega), List.length_take, Nat.min_eq_left (by omega)]
    by_cases h2 : j - off < cs.length
    · rw [List.getElem?_append_left h2, if_pos (by omega)]
    · rw [List.getElem?_append_right (by omega), List.getElem?_drop, if_neg (by omega)]
      congr 1
      omega
/-- Block b holds the ring's L places, xs from place h on. -/
def Rgb (w : World) (b L h : Nat) (xs : List Int) : Prop := ∃ cur : List Value, Is w b 5 cur.toArray ∧ cur.length = L ∧ h < L ∧ xs.length ≤ L ∧ ∀ i, i < xs.length → cur[rot h i L]? = (u8s xs)[i]?
theorem Rgb.chg {S : Nat → Prop} {w w' : World} {b L h : Nat} {xs : List Int} (k : Rgb w b L h xs) (hc : Chg S w w') (hs : ¬ S b) : Rgb w' b L h xs := by
  obtain ⟨cur, h1, h2, h3, h4, h5⟩ := k
  exact ⟨cur, h1.chg hc hs, h2, h3, h4, h5⟩
theorem Rgb.drop {w : World} {b L h : Nat} {xs : List Int} (k : Rgb w b L h xs) {m : Nat} (hm : m < xs.length) : Rgb w b L (rot h m L) (xs.drop m) := by
  obtain ⟨cur, h1, h2, h3, h4, h5⟩ := k
  refine ⟨cur, h1, h2, rot_lt h3 (by omega), by rw [List.length_drop]; omega, fun i hi => ?_⟩
  rw [List.length_drop] at hi
  have e : rot (rot h m L) i L = rot h (m + i) L := by
    unfold rot
    split <;> split <;> split <;> omega
  rw [e, h5 (m + i) (by omega)]
  unfold u8s
  rw [List.map_drop, List.getElem?_drop]
/-- Bytes behind the last, in two pieces: the first to the block's end, the second from its start on. -/
theorem Rgb.push {w2 : World} {b L h : Nat} {xs ys : List Int} {cur : List Value} (h2 : cur.length = L) (h3 : h < L) (h5 : ∀ i, i < xs.length → cur[rot h i L]? = (u8s xs)[i]?) (hk : xs.length + ys.length ≤ L) {m : Nat} (hat : rot h xs.length L = m) {k1 : Nat} (hk1 : k1 = Nat.min ys.length (L - m))
    (hx : xs.length < L) (j : Is w2 b 5 (splice (splice cur m (u8s (ys.take k1))) 0 (u8s (ys.drop k1))).toArray) : Rgb w2 b L h (xs ++ ys) := by
  have hmL : m < L := by rw [← hat]; exact rot_lt h3 hx
  obtain ⟨hkl, hkr, hkd⟩ := nat_min hk1
  have hl1 : (u8s (ys.take k1)).length = k1 := by rw [u8s_len, List.length_take]; omega
  have hl2 : (u8s (ys.drop k1)).length = ys.length - k1 := by rw [u8s_len, List.length_drop]
  have hrest : ys.length - k1 = 0 ∨ k1 = L - m := by omega
  have hm' : m = h + xs.length ∧ h + xs.length < L ∨ m + L = h + xs.length ∧ L ≤ h + xs.length := by
    unfold rot at hat
    split at hat <;> omega
  have hf1 : m + (u8s (ys.take k1)).length ≤ cur.length := by rw [hl1]; omega
  have hls : (splice cur m (u8s (ys.take k1))).length = L := by rw [length_splice _ _ _ hf1, h2]
  have hf2 : 0 + (u8s (ys.drop k1)).length ≤ (splice cur m (u8s (ys.take k1))).length := by rw [hl2, hls]; omega
  refine ⟨_, j, by rw [length_splice _ _ _ hf2, hls], h3, by rw [List.length_append]; exact hk, fun i hi => ?_⟩
  rw [List.length_append] at hi
  rw [splice_at hf2, splice_at hf1, hl1, hl2]
  by_cases hi0 : i < xs.length
  · have hr : ¬ (0 ≤ rot h i L ∧ rot h i L < 0 + (ys.length - k1)) ∧ ¬ (m ≤ rot h i L ∧ rot h i L < m + k1) := by
      unfold rot
      split <;> omega
    rw [if_neg hr.1, if_neg hr.2, h5 i hi0]
    unfold u8s
    rw [List.map_append, List.getElem?_append_left (by simpa using hi0)]
  · have hv : (u8s (xs ++ ys))[i]? = (u8s ys)[i - xs.length]? := by
      unfold u8s
      rw [List.map_append, List.getElem?_append_right (by simp; omega), List.length_map]
    rw [hv]
    by_cases hj : i - xs.length < k1
    · have hr : ¬ (0 ≤ rot h i L ∧ rot h i L < 0 + (ys.length - k1)) ∧ (m ≤ rot h i L ∧ rot h i L < m + k1) ∧ rot h i L - m = i - xs.length := by
        unfold rot
        split <;> omega
      rw [if_neg hr.1, if_pos hr.2.1, hr.2.2]
      unfold u8s
      rw [List.map_take, List.getElem?_take, if_pos hj]
    · have hr : (0 ≤ rot h i L ∧ rot h i L < 0 + (ys.length - k1)) ∧ rot h i L - 0 = i - xs.length - k1 := by
        unfold rot
        split <;> omega
      rw [if_pos hr.1, hr.2]
      unfold u8s
      rw [List.map_drop, List.getElem?_drop]
      congr 1
      omega
/-- The first k bytes, in two pieces. -/
theorem Rgb.front {L h : Nat} {xs : List Int} {cur : List Value} (h3 : h < L) (h5 : ∀ i, i < xs.length → cur[rot h i L]? = (u8s xs)[i]?) {k : Nat} (hk : k ≤ xs.length) (_hkL : xs.length ≤ L) {k1 : Nat} (hk1 : k1 = Nat.min (L - h) k) :
    (∀ j, j < k1 → cur[h + j]? = (u8s (xs.take k1))[j]?) ∧ (∀ j, j < k - k1 → cur[j]? = (u8s ((xs.drop k1).take (k - k1)))[j]?) := by
  obtain ⟨hkl, hkk, hkd⟩ := nat_min hk1
  have hr : k - k1 = 0 ∨ k1 = L - h := by omega
  refine ⟨fun j hj => ?_, fun j hj => ?_⟩
  · have e : rot h j L = h + j := by unfold rot; rw [if_pos (by omega)]
    rw [← e, h5 j (by omega)]
    unfold u8s
    rw [List.map_take, List.getElem?_take, if_pos hj]
  · have e : rot h (k1 + j) L = j := by unfold rot; rw [if_neg (by omega)]; omega
    rw [← e, h5 (k1 + j) (by omega), e]
    unfold u8s
    rw [List.map_take, List.getElem?_take, if_pos hj, List.map_drop, List.getElem?_drop]
end Go.Proofs.YthalmjjbamglgaaDoor
namespace Go.Proofs.YthalmjjbamglgaaDoor
open Go.RowKit

def rgC (cap : Nat) (buf : Value) (h n : Nat) : Array Value := #[.int .i64 (cap : Int), buf, .int .i64 (h : Int), .int .i64 (n : Int)]
/-- A ring of bytes at block g, all of it within S. -/
structure Rgo (w : World) (S : Nat → Prop) (g cap : Nat) (xs : List Int) : Prop where
  byt : Byt xs
  len : xs.length ≤ cap
  cap2 : cap ≤ 2147483647
  sg : S g
  is : ∃ (buf : Value) (h : Nat), Is w g 168 (rgC cap buf h xs.length) ∧ ((xs = [] ∧ buf = .slice none 0 0 ∧ h = 0) ∨ 0 < xs.length ∧ ∃ b L, buf = .slice (some ⟨b, 0, none⟩) L L ∧ S b ∧ b ≠ g ∧ L ≤ cap ∧ Rgb w b L h xs)
theorem Rgo.chg {X S : Nat → Prop} {w w' : World} {g cap : Nat} {xs : List Int} (h : Rgo w S g cap xs) (hc : Chg X w w') (hX : ∀ k, S k → ¬ X k) : Rgo w' S g cap xs := by
  obtain ⟨buf, hd, h1, h2⟩ := h.is
  refine ⟨h.byt, h.len, h.cap2, h.sg, buf, hd, h1.chg hc (hX g h.sg), ?_⟩
  rcases h2 with h2 | ⟨h0, b, L, e, hb, hne, hL, h3⟩
  · exact .inl h2
  · exact .inr ⟨h0, b, L, e, hb, hne, hL, h3.chg hc (hX b hb)⟩
theorem Rgo.sub {S T : Nat → Prop} {w : World} {g cap : Nat} {xs : List Int} (h : Rgo w S g cap xs) (hT : ∀ k, S k → T k) : Rgo w T g cap xs := by
  obtain ⟨buf, hd, h1, h2⟩ := h.is
  refine ⟨h.byt, h.len, h.cap2, hT g h.sg, buf, hd, h1, ?_⟩
  rcases h2 with h2 | ⟨h0, b, L, e, hb, hne, hL, h3⟩
  · exact .inl h2
  · exact .inr ⟨h0, b, L, e, hT b hb, hne, hL, h3⟩

theorem rlen_any (w : World) {S : Nat → Prop} {g cap : Nat} {xs : List Int} (h : Rgo w S g cap xs) :
    Calls Tryd.prog 63 #[.pointer (some ⟨g, 0, none⟩)] w fun e w' => e = .returned (.int .i64 (xs.length : Int)) ∧ w = w' := by
  obtain ⟨buf, hd, hi, _⟩ := h.is
  have c3 : w.cell? ⟨g, 3, none⟩ = some (.int .i64 (xs.length : Int)) := hi.at_ 3 _ rfl
  clear hi h
  go_enter Tryd.func63, Tryd.ntmps63
  go_wp2
  go_ret
  exact ⟨rfl, rfl⟩
theorem rcap_any (w : World) {S : Nat → Prop} {g cap : Nat} {xs : List Int} (h : Rgo w S g cap xs) :
    Calls Tryd.prog 118 #[.pointer (some ⟨g, 0, none⟩)] w fun e w' => e = .returned (.int .i64 (cap : Int)) ∧ w = w' := by
  obtain ⟨buf, hd, hi, _⟩ := h.is
  have c0 : w.cell? ⟨g, 0, none⟩ = some (.int .i64 (cap : Int)) := hi.at_ 0 _ rfl
  clear hi h
  go_enter Tryd.func118, Tryd.ntmps118
  go_wp2
  go_ret
  exact ⟨rfl, rfl⟩
theorem rfree_any (w : World) {S : Nat → Prop} {g cap : Nat} {xs : List Int} (h : Rgo w S g cap xs) :
    Calls Tryd.prog 101 #[.pointer (some ⟨g, 0, none⟩)] w fun e w' => e = .returned (.int .i64 ((cap - xs.length : Nat) : Int)) ∧ w = w' := by
  have H := Lib.hid h
  obtain ⟨n, hn⟩ : ∃ n, xs.length = n := ⟨_, rfl⟩
  obtain ⟨f, hf⟩ : ∃ f, cap - n = f := ⟨_, rfl⟩
  have h1 := h.len
  have h2 := h.cap2
  rw [hn] at h1 ⊢
  rw [hf]
  have hfI : (cap : Int) - (n : Int) = (f : Int) := by omega
  have HN := Lib.hid hn
  clear h hn hf
  go_enter Tryd.func101, Tryd.ntmps101
  go_wp2_with fail
  refine (rcap_any w H.out).mono ?_
  rintro e w' ⟨rfl, rfl⟩
  go_wp2_with fail
  refine (rlen_any w H.out).mono ?_
  rintro e w' ⟨rfl, rfl⟩
  rw [HN.out]
  go_wp2
  go_ret
  exact ⟨rfl, rfl⟩

theorem add_base (g j : Nat) : (⟨g, 0, none⟩ : Addr).add j = ⟨g, j, none⟩ := by unfold Addr.add; split <;> simp_all
theorem splice_mid {α : Type} (L cs ds : List α) (_h : cs.length + ds.length ≤ L.length) : splice (splice L 0 cs) cs.length ds = splice L 0 (cs ++ ds) := by
  unfold splice
  have e1 : (L.take 0 ++ (cs ++ L.drop (0 + cs.length))).take cs.length = cs := by simp
  rw [e1]
  have e2 : (L.take 0 ++ (cs ++ L.drop (0 + cs.length))).drop (cs.length + ds.length) = L.drop (cs.length + ds.length) := by simp [List.drop_append]
  rw [e2]
  simp

set_option maxRecDepth 100000 in
set_option maxHeartbeats 2000000 in
theorem copyTo_any (w : World) {g cap b L h o k c : Nat} {xs : List Int} {out : List Value} (hi : Is w g 168 (rgC cap (.slice (some ⟨b, 0, none⟩) L L) h xs.length)) (hb : Rgb w b L h xs) (ho : Is w o 5 out.toArray)
    (hk0 : 0 < k) (hko : k ≤ out.length) (hkx : k ≤ xs.length) (hkc : k ≤ c) (hL : L ≤ 2147483647) (hob : o ≠ b) (hog : o ≠ g) :
    Calls Tryd.prog 119 #[.pointer (some ⟨g, 0, none⟩), .slice (some ⟨o, 0, none⟩) k c, .int .i64 0] w fun e w' => (∃ r, e = .returned r) ∧ Is w' o 5 (splice out 0 (u8s (xs.take k))).toArray ∧ Chg (fun j => j = o) w w' := by
  obtain ⟨cur, hc1, hc2, hh, hxL, hat⟩ := hb
  have c1 : w.cell? ⟨g, 1, none⟩ = some (.slice (some ⟨b, 0, none⟩) L L) := hi.at_ 1 _ rfl
  have c2 : w.cell? ⟨g, 2, none⟩ = some (.int .i64 (h : Int)) := hi.at_ 2 _ rfl
  obtain ⟨k1, hk1⟩ : ∃ k1, k1 = Nat.min (L - h) k := ⟨_, rfl⟩
  have hfr := Rgb.front (L := L) (h := h) (xs := xs) (cur := cur) hh hat hkx hxL hk1
  obtain ⟨q1, q2, q3⟩ := nat_min hk1
  have HK1 := Lib.hid hk1
  have HK2 := Lib.hid hfr
  have HHo := Lib.hid ho
  have HHg := Lib.hid hi
  have HHc := Lib.hid hc1
  have hLh : ¬ L = h := by omega
  have hL0 : ¬ (L : Int) = 0 := by omega
  have hk00 : ¬ (k : Int) = 0 := by omega
  have hhI : (h : Int) < (L : Int) := by omega
  have hhL : (h : Int) ≤ (L : Int) := by omega
  clear hk1 hfr ho hc1 hat hi
  have hrem : (h : Int) % (L : Int) = (h : Int) := Int.emod_eq_of_lt (by omega) hhI
  go_enter Tryd.func119, Tryd.ntmps119
  go_wp2_with fail
  go_quiet (fail)
  go_wp2_with (with_reducible refine wpList_copy_is rfl (.tmp 23) (.tmp 29) rfl (some ⟨o, 0, none⟩) (some ⟨b, h, none⟩) k c (L - h) (L - h) rfl rfl o 0 out ?g1 k1 (u8s (xs.take k1)) ?g2 ?g3 ?g4 ?g5 (u8s_one _) ?_)
  case g1 => exact HHo.out
  case g2 => rw [u8s_len, List.length_take]; omega
  case g3 => exact HK1.out
  case g4 =>
    intro h0 j v hj
    have hjl : j < k1 := by have := (List.getElem?_eq_some_iff.1 hj).1; rw [u8s_len, List.length_take] at this; omega
    rw [← HK2.out.1 j hjl] at hj
    exact (HHc.out.at_ (h + j) v (by simpa using hj))
  case g5 => omega
  intro w1 hw1 hcw1
  have HW1 := hw1
  have HC1 : Hid (Chg (fun j => j = o) w w1) := ((Chg.refl _ w).drewN nq).trans hcw1
  have i1 : w1.cell? ⟨g, 1, none⟩ = some (.slice (some ⟨b, 0, none⟩) L L) := (hcw1.cell (p := ⟨g, 1, none⟩) (by
    have := HHg.out.lt
    exact this) (fun e => hog e.symm)).trans c1
  have j1 : ∀ Q, (w1.drewN Q).cell? ⟨g, 1, none⟩ = some (.slice (some ⟨b, 0, none⟩) L L) := fun Q => i1
  clear hcw1 hw1
  by_cases hck : c = k1
  · obtain rfl : k = k1 := by omega
    subst hck
    go_wp2_with fail
    go_region_law (refine step_copy_is rfl (.tmp 33) (.tmp 37) rfl (some ⟨o, 0, none⟩) (some ⟨b, 0, none⟩) 0 0 L L rfl rfl o 0 (splice out 0 (u8s (xs.take c))) HW1.out 0 [] rfl (by simp) (fun h => absurd h (by omega)) (by simp) (by simp) ?_; intro w2 hw2 hc2)
    go_wp2
    first | go_end0 | refine bodyPost_ret (results_none rfl _ _ _) rfl ?_
    refine ⟨⟨_, rfl⟩, ?_, HC1.out.drew.trans hc2⟩
    have h := hw2.out
    have e : splice (splice out 0 (u8s (xs.take c))) 0 [] = splice out 0 (u8s (xs.take c)) := by simp [splice]
    rw [e] at h
    exact h
  · have hck2 : ¬ c = k1 := hck
    have hpc : k - k1 = Nat.min L (k - k1) := by
      have : Nat.min L (k - k1) = min L (k - k1) := rfl
      omega
    have HPc := Lib.hid hpc
    have hlen : (u8s ((xs.drop k1).take (k - k1))).length = k - k1 := by rw [u8s_len, List.length_take, List.length_drop]; omega
    have HLe := Lib.hid hlen
    have hfit : k1 + (k - k1) ≤ (splice out 0 (u8s (xs.take k1))).length := by
      rw [length_splice _ _ _ (by rw [u8s_len, List.length_take]; omega)]
      omega
    have HFi := Lib.hid hfit
    have HPo : Hid (∀ j v, (u8s ((xs.drop k1).take (k - k1)))[j]? = some v → w1.cell? ((⟨b, 0, none⟩ : Addr).add j) = some v) := fun j v hj => by
      have hjl : j < k - k1 := by have := (List.getElem?_eq_some_iff.1 hj).1; rw [hlen] at this; exact this
      rw [← HK2.out.2 j hjl] at hj
      rw [add_base]
      exact (HHc.out.chg HC1.out (by show ¬ b = o; omega)).at_ j v (by simpa using hj)
    clear hpc hlen hfit
    go_wp2_with fail
    go_region_law (refine step_copy_is rfl (.tmp 33) (.tmp 37) rfl (some ⟨o, k1, none⟩) (some ⟨b, 0, none⟩) (k - k1) (c - k1) L L rfl rfl o k1 (splice out 0 (u8s (xs.take k1))) HW1.out (k - k1) (u8s ((xs.drop k1).take (k - k1))) HLe.out HPc.out (fun _ => ⟨rfl, _, rfl, HPo.out⟩) HFi.out (u8s_one _) ?_; intro w2 hw2 hc2)
    go_wp2
    first | go_end0 | refine bodyPost_ret (results_none rfl _ _ _) rfl ?_
    refine ⟨⟨_, rfl⟩, ?_, HC1.out.drew.trans hc2⟩
    have h := hw2.out
    have hl1 : (u8s (xs.take k1)).length = k1 := by rw [u8s_len, List.length_take]; omega
    have e : splice (splice out 0 (u8s (xs.take k1))) k1 (u8s ((xs.drop k1).take (k - k1))) = splice out 0 (u8s (xs.take k)) := by
      have h2 := splice_mid out (u8s (xs.take k1)) (u8s ((xs.drop k1).take (k - k1))) (by rw [hl1, HLe.out]; omega)
      rw [hl1] at h2
      rw [h2]
      congr 1
      unfold u8s
      rw [← List.map_append, ← List.take_add, show k1 + (k - k1) = k by omega]
    rw [e] at h
    exact h
theorem copyTo_zero (w : World) (p o : Option Addr) (c : Nat) :
    Calls Tryd.prog 119 #[.pointer p, .slice o 0 c, .int .i64 0] w fun e w' => (∃ r, e = .returned r) ∧ w = w' := by
  go_enter Tryd.func119, Tryd.ntmps119
  go_wp2
  first | go_end0 | refine bodyPost_ret (results_none rfl _ _ _) rfl ?_
  exact ⟨⟨_, rfl⟩, rfl⟩

/-- Room for want things is laid. -/
def RgP (w : World) (S : Nat → Prop) (g cap : Nat) (xs : List Int) (want : Nat) : Prop :=
  ∃ b L h, Is w g 168 (rgC cap (.slice (some ⟨b, 0, none⟩) L L) h xs.length) ∧ S b ∧ b ≠ g ∧ L ≤ cap ∧ want ≤ L ∧ Rgb w b L h xs
theorem lay_room (w : World) {g cap b L h : Nat} {xs : List Int} (hi : Is w g 168 (rgC cap (.slice (some ⟨b, 0, none⟩) L L) h xs.length)) (want : Nat) (hw : want ≤ L) :
    Calls Tryd.prog 102 #[.pointer (some ⟨g, 0, none⟩), .int .i64 (want : Int)] w fun e w' => (∃ r, e = .returned r) ∧ w = w' := by
  have c1 : w.cell? ⟨g, 1, none⟩ = some (.slice (some ⟨b, 0, none⟩) L L) := hi.at_ 1 _ rfl
  have hwI : (want : Int) ≤ (L : Int) := by omega
  clear hi
  go_enter Tryd.func102, Tryd.ntmps102
  go_wp2
  first | go_end0 | refine bodyPost_ret (results_none rfl _ _ _) rfl ?_
  exact ⟨⟨_, rfl⟩, rfl⟩
theorem zeros_len (n : Nat) : (List.replicate n (Value.int .u8 0)).length = n := List.length_replicate
theorem rgb_new {w : World} {b Z : Nat} {xs : List Int} (hZ : 0 < Z) (hx : xs.length ≤ Z) (hi : Is w b 5 (splice (List.replicate Z (Value.int .u8 0)) 0 (u8s xs)).toArray) : Rgb w b Z 0 xs := by
  have hf : 0 + (u8s xs).length ≤ (List.replicate Z (Value.int .u8 0)).length := by rw [u8s_len, zeros_len]; omega
  refine ⟨_, hi, by rw [length_splice _ _ _ hf, zeros_len], hZ, hx, fun i hi => ?_⟩
  have e : rot 0 i Z = i := by unfold rot; rw [if_pos (by omega)]; omega
  rw [e, splice_at hf, u8s_len, if_pos (by omega), Nat.sub_zero]
/-- The stores behind the copy. -/
theorem lay_end {w w1 w2 : World} {S : Nat → Prop} {g cap h0 n0 Z : Nat} {buf : Value} {xs : List Int} (hn : n0 = xs.length) (hi : Is w g 168 (rgC cap buf h0 n0)) (hsg : S g) (hc1 : Chg none_ w w1) (hc2 : Chg (fun j => j = w.heap.size) w1 w2)
    (hb : Is w2 w.heap.size 5 (splice (List.replicate Z (Value.int .u8 0)) 0 (u8s xs)).toArray) (want : Nat) (hw0 : 0 < want) (hw : xs.length ≤ want) (h1 : want ≤ Z) (h2 : Z ≤ cap) :
    RgP ((w2.setCell ⟨g, 1, none⟩ (.slice (some ⟨w.heap.size, 0, none⟩) Z Z)).setCell ⟨g, 2, none⟩ (.int .i64 0)) (fun k => S k ∨ w.heap.size ≤ k ∧ k < ((w2.setCell ⟨g, 1, none⟩ (.slice (some ⟨w.heap.size, 0, none⟩) Z Z)).setCell ⟨g, 2, none⟩ (.int .i64 0)).heap.size) g cap xs want ∧
      Chg S w ((w2.setCell ⟨g, 1, none⟩ (.slice (some ⟨w.heap.size, 0, none⟩) Z Z)).setCell ⟨g, 2, none⟩ (.int .i64 0)) := by
  subst hn
  have hgl := hi.lt
  have hi2 : Is w2 g 168 (rgC cap buf h0 xs.length) := (hi.chg hc1 fun f => f).chg hc2 (by omega)
  have hs : Chg (fun j => j = g) w2 ((w2.setCell ⟨g, 1, none⟩ (.slice (some ⟨w.heap.size, 0, none⟩) Z Z)).setCell ⟨g, 2, none⟩ (.int .i64 0)) :=
    ((Chg.refl (fun j => j = g) w2).setCell (p := ⟨g, 1, none⟩) (fun _ => rfl) _).setCell (p := ⟨g, 2, none⟩) (fun _ => rfl) _
  have hb2 := hb.chg hs (by show ¬ w.heap.size = g; omega)
  refine ⟨⟨w.heap.size, Z, 0, (hi2.put 1 _).put 2 _, .inr ⟨Nat.le_refl _, hb2.lt⟩, by omega, h2, h1, rgb_new (by omega) (by omega) hb2⟩, ?_⟩
  exact ((hc1.more fun _ _ f => f.elim).then hc2 fun k hk e => by omega).then hs fun k hk e => by rw [e]; exact hsg

theorem lay_size (want cap : Nat) (h : want ≤ cap) : ∃ M Z : Nat, (if (want : Int) < 16 then (16 : Int) else (want : Int)) = (M : Int) ∧ (if M < cap then (M : Int) else (cap : Int)) = (Z : Int) ∧ want ≤ Z ∧ Z ≤ cap := by
  obtain ⟨M, hM, hw⟩ : ∃ M : Nat, (if (want : Int) < 16 then (16 : Int) else (want : Int)) = (M : Int) ∧ want ≤ M := by
    by_cases h1 : (want : Int) < 16
    · exact ⟨16, by rw [if_pos h1]; rfl, by omega⟩
    · exact ⟨want, by rw [if_neg h1], Nat.le_refl _⟩
  by_cases h2 : M < cap
  · exact ⟨M, M, hM, by rw [if_pos h2], hw, by omega⟩
  · exact ⟨M, cap, hM, by rw [if_neg h2], h, Nat.le_refl _⟩
set_option maxRecDepth 100000 in
set_option maxHeartbeats 2000000 in
theorem lay_new (w : World) {S : Nat → Prop} {g cap : Nat} {xs : List Int} (hr : Rgo w S g cap xs) (want : Nat) (hw : xs.length ≤ want) (hwc : want ≤ cap) (hw0 : 0 < want) (hne : xs = []) :
    Calls Tryd.prog 102 #[.pointer (some ⟨g, 0, none⟩), .int .i64 (want : Int)] w fun e w' => (∃ r, e = .returned r) ∧ RgP w' (fun k => S k ∨ w.heap.size ≤ k ∧ k < w'.heap.size) g cap xs want ∧ Chg S w w' := by
  subst hne
  obtain ⟨buf, hd, hi, hc⟩ := hr.is
  obtain ⟨rfl, rfl⟩ : buf = .slice none 0 0 ∧ hd = 0 := by
    rcases hc with ⟨_, h1, h2⟩ | ⟨h, _⟩
    · exact ⟨h1, h2⟩
    · simp at h
  have c0 : ∀ Q, (w.drewN Q).cell? ⟨g, 0, none⟩ = some (.int .i64 (cap : Int)) := fun Q => hi.at_ 0 _ rfl
  have c1 : w.cell? ⟨g, 1, none⟩ = some (.slice none 0 0) := hi.at_ 1 _ rfl
  have c1' : ∀ Q, (w.drewN Q).cell? ⟨g, 1, none⟩ = some (.slice none 0 0) := fun Q => hi.at_ 1 _ rfl
  have hc2 := hr.cap2
  have HSg := Lib.hid hr.sg
  have HI := Lib.hid hi
  have hwI : ¬ (want : Int) ≤ 0 := by omega
  obtain ⟨M, Z, hM, hZ, hZ1, hZ2⟩ := lay_size want cap hwc
  have HZ1 := Lib.hid hZ1
  have HZ2 := Lib.hid hZ2
  have hz31 : Z ≤ 2147483647 := by omega
  clear hr hi hc hw hZ1 hZ2 hwc hc2
  go_enter Tryd.func102, Tryd.ntmps102
  go_wp2_with fail
  go_quiet (fail)
  obtain ⟨y0, hy0⟩ : ∃ y, w.drewN nq = y := ⟨_, rfl⟩
  have HY0 : Hid (Chg none_ w y0 ∧ y0.heap.size = w.heap.size) := by rw [← hy0]; exact ⟨(Chg.refl none_ w).drewN _, rfl⟩
  go_wp2_with (refine wpList_make_u8 rfl (.tmp 26) (.tmp 26) rfl (Z : Int) rfl rfl Z rfl (by omega) ?_)
  intro y1 k1 k2
  have HY1 := Lib.hid k1
  have HC1 : Hid (Chg none_ w y1) := HY0.out.1.trans k2
  have i3 : y1.cell? ⟨g, 3, none⟩ = some (.int .i64 0) := (HI.out.chg HC1.out fun f => f).at_ 3 _ rfl
  have f1 : y1.frozen? ⟨g, 1, none⟩ = false := (HI.out.chg HC1.out fun f => f).frozen 1
  have f2 : y1.frozen? ⟨g, 2, none⟩ = false := (HI.out.chg HC1.out fun f => f).frozen 2
  have i1 : y1.cell? ⟨g, 1, none⟩ = some (.slice none 0 0) := (HI.out.chg HC1.out fun f => f).at_ 1 _ rfl
  have i2 : y1.cell? ⟨g, 2, none⟩ = some (.int .i64 0) := (HI.out.chg HC1.out fun f => f).at_ 2 _ rfl
  have k2' := Lib.hid k2
  clear k1 k2
  go_wp2_with fail
  refine (copyTo_zero y1 _ _ _).mono ?_
  rintro e w' ⟨⟨r, rfl⟩, rfl⟩
  go_wp2
  first | go_end0 | refine bodyPost_ret (results_none rfl _ _ _) rfl ?_
  have h := lay_end (w := y0) (w1 := y1) (w2 := y1) (Z := Z) (xs := []) rfl (HI.out.chg HY0.out.1 fun f => f) HSg.out k2'.out (Chg.refl _ _) (by simpa [splice, u8s] using HY1.out) want hw0 (Nat.zero_le _) HZ1.out HZ2.out
  rw [← HY0.out.2]
  exact ⟨⟨_, rfl⟩, h.1, (HY0.out.1.more fun _ _ f => f.elim).trans h.2⟩
theorem lay_size2 (want cap L : Nat) (h : want ≤ cap) : ∃ M1 M Z : Nat, (if (want : Int) < 2 * (L : Int) then 2 * (L : Int) else (want : Int)) = (M1 : Int) ∧ (if (M1 : Int) < 16 then (16 : Int) else (M1 : Int)) = (M : Int) ∧ (if M < cap then (M : Int) else (cap : Int)) = (Z : Int) ∧ want ≤ Z ∧ Z ≤ cap := by
  obtain ⟨M1, hM1, hw1⟩ : ∃ M : Nat, (if (want : Int) < 2 * (L : Int) then 2 * (L : Int) else (want : Int)) = (M : Int) ∧ want ≤ M := by
    by_cases h1 : (want : Int) < 2 * (L : Int)
    · exact ⟨2 * L, by rw [if_pos h1]; omega, by omega⟩
    · exact ⟨want, by rw [if_neg h1], Nat.le_refl _⟩
  obtain ⟨M, hM, hw⟩ : ∃ M : Nat, (if (M1 : Int) < 16 then (16 : Int) else (M1 : Int)) = (M : Int) ∧ want ≤ M := by
    by_cases h1 : (M1 : Int) < 16
    · exact ⟨16, by rw [if_pos h1]; rfl, by omega⟩
    · exact ⟨M1, by rw [if_neg h1], hw1⟩
  by_cases h2 : M < cap
  · exact ⟨M1, M, M, hM1, hM, by rw [if_pos h2], hw, by omega⟩
  · exact ⟨M1, M, cap, hM1, hM, by rw [if_neg h2], h, Nat.le_refl _⟩
set_option maxRecDepth 100000 in
set_option maxHeartbeats 2000000 in
theorem lay_more (w : World) {S : Nat → Prop} {g cap b L h : Nat} {xs : List Int} (hi : Is w g 168 (rgC cap (.slice (some ⟨b, 0, none⟩) L L) h xs.length)) (hsg : S g) (hb : Rgb w b L h xs) (hcap : cap ≤ 2147483647) (hLc : L ≤ cap)
    (want : Nat) (hw : xs.length ≤ want) (hwc : want ≤ cap) (hwL : L < want) (hx0 : 0 < xs.length) :
    Calls Tryd.prog 102 #[.pointer (some ⟨g, 0, none⟩), .int .i64 (want : Int)] w fun e w' => (∃ r, e = .returned r) ∧ RgP w' (fun k => S k ∨ w.heap.size ≤ k ∧ k < w'.heap.size) g cap xs want ∧ Chg S w w' := by
  have c0 : ∀ Q, (w.drewN Q).cell? ⟨g, 0, none⟩ = some (.int .i64 (cap : Int)) := fun Q => hi.at_ 0 _ rfl
  have c1 : w.cell? ⟨g, 1, none⟩ = some (.slice (some ⟨b, 0, none⟩) L L) := hi.at_ 1 _ rfl
  have c1' : ∀ Q, (w.drewN Q).cell? ⟨g, 1, none⟩ = some (.slice (some ⟨b, 0, none⟩) L L) := fun Q => hi.at_ 1 _ rfl
  have HSg := Lib.hid hsg
  have HI := Lib.hid hi
  have HB := Lib.hid hb
  have hwI : ¬ (want : Int) ≤ (L : Int) := by omega
  obtain ⟨M1, M, Z, hM1, hM, hZ, hZ1, hZ2⟩ := lay_size2 want cap L hwc
  have HZ1 := Lib.hid hZ1
  have HZ2 := Lib.hid hZ2
  have hz31 : Z ≤ 2147483647 := by omega
  have hL31 : L ≤ 2147483647 := by omega
  have hw31 : want ≤ 2147483647 := by omega
  obtain ⟨n, hn⟩ : ∃ n, xs.length = n := ⟨_, rfl⟩
  have HN := Lib.hid hn
  have hnZ : n ≤ Z := by omega
  have hnZI : (n : Int) ≤ (Z : Int) := by omega
  have HW := Lib.hid hw
  have HX := Lib.hid hx0
  have hw0 : 0 < want := by omega
  have HLw := Lib.hid (And.intro hwL hLc)
  clear hi hb hsg hZ1 hZ2 hwc hcap hn hw hx0 hwL hLc
  go_enter Tryd.func102, Tryd.ntmps102
  go_wp2_with fail
  go_quiet (fail)
  obtain ⟨y0, hy0⟩ : ∃ y, w.drewN nq = y := ⟨_, rfl⟩
  have HY0 : Hid (Chg none_ w y0 ∧ y0.heap.size = w.heap.size) := by rw [← hy0]; exact ⟨(Chg.refl none_ w).drewN _, rfl⟩
  go_wp2_with (refine wpList_make_u8 rfl (.tmp 26) (.tmp 26) rfl (Z : Int) rfl rfl Z rfl (by omega) ?_)
  intro y1 k1 k2
  have HY1 := Lib.hid k1
  have HK2 := Lib.hid k2
  have HC1 : Hid (Chg none_ w y1) := HY0.out.1.trans k2
  have i3 : y1.cell? ⟨g, 3, none⟩ = some (.int .i64 (n : Int)) := by rw [← HN.out]; exact (HI.out.chg HC1.out fun f => f).at_ 3 _ rfl
  clear k1 k2
  go_wp2_with fail
  refine (copyTo_any y1 (out := List.replicate Z (Value.int .u8 0)) (k := n) (c := Z) (HI.out.chg HC1.out fun f => f) (HB.out.chg HC1.out fun f => f) HY1.out (by have := HN.out; have := HX.out; omega) (by rw [zeros_len]; exact hnZ) (by have := HN.out; omega) hnZ hL31 ?ne1 ?ne2).mono ?_
  case ne1 => obtain ⟨cur, h1, _⟩ := HB.out; have := h1.lt; have := HY0.out.2; omega
  case ne2 => have := HI.out.lt; have := HY0.out.2; omega
  rintro e y2 ⟨⟨r, rfl⟩, k3, k4⟩
  have HK3 : Hid (Is y2 y0.heap.size 5 (splice (List.replicate Z (Value.int .u8 0)) 0 (u8s xs)).toArray) := by
    have e : xs.take n = xs := by rw [← HN.out]; exact List.take_length
    rw [e] at k3
    exact k3
  have HK4 := Lib.hid k4
  have hI2 : Is y2 g 168 (rgC cap (.slice (some ⟨b, 0, none⟩) L L) h xs.length) := (HI.out.chg HC1.out fun f => f).chg k4 (by have := HI.out.lt; have := HY0.out.2; omega)
  have f1 : y2.frozen? ⟨g, 1, none⟩ = false := hI2.frozen 1
  have f2 : y2.frozen? ⟨g, 2, none⟩ = false := hI2.frozen 2
  have i1 : y2.cell? ⟨g, 1, none⟩ = some (.slice (some ⟨b, 0, none⟩) L L) := hI2.at_ 1 _ rfl
  have i2 : y2.cell? ⟨g, 2, none⟩ = some (.int .i64 (h : Int)) := hI2.at_ 2 _ rfl
  clear k3 k4 hI2
  go_wp2
  first | go_end0 | refine bodyPost_ret (results_none rfl _ _ _) rfl ?_
  have h := lay_end (w := y0) (w1 := y1) (w2 := y2) (Z := Z) rfl (HI.out.chg HY0.out.1 fun f => f) HSg.out HK2.out HK4.out HK3.out want hw0 HW.out HZ1.out HZ2.out
  rw [← HY0.out.2]
  exact ⟨⟨_, rfl⟩, h.1, (HY0.out.1.more fun _ _ f => f.elim).trans h.2⟩
theorem lay_any (w : World) {S : Nat → Prop} {g cap : Nat} {xs : List Int} (hr : Rgo w S g cap xs) (want : Nat) (hw : xs.length ≤ want) (hwc : want ≤ cap) (hw0 : 0 < want) :
    Calls Tryd.prog 102 #[.pointer (some ⟨g, 0, none⟩), .int .i64 (want : Int)] w fun e w' => (∃ r, e = .returned r) ∧ RgP w' (fun k => S k ∨ w.heap.size ≤ k ∧ k < w'.heap.size) g cap xs want ∧ Chg S w w' := by
  obtain ⟨buf, hd, hi, hc⟩ := hr.is
  rcases hc with ⟨h0, _, _⟩ | ⟨h0, b, L, rfl, hb, hne, hL, hg⟩
  · exact lay_new w hr want hw hwc hw0 h0
  · by_cases hr2 : want ≤ L
    · refine (lay_room w hi want hr2).mono ?_
      rintro e w' ⟨he, rfl⟩
      exact ⟨he, ⟨b, L, hd, hi, .inl hb, hne, hL, hr2, hg⟩, Chg.refl _ _⟩
    · exact lay_more w hi hr.sg hg hr.cap2 hL want hw hwc (by omega) h0
end Go.Proofs.YthalmjjbamglgaaDoor
namespace Go.Proofs.YthalmjjbamglgaaDoor
open Go.RowKit

/-- A slice of bytes that begins at its block's start, or is empty. -/
def BsO (w : World) (v : Value) (ys : List Int) : Prop := ∃ A n c, v = .slice A n c ∧ ys.length = n ∧ Byt ys ∧ n ≤ c ∧ (0 < n → ∃ g, A = some ⟨g, 0, none⟩ ∧ ∀ i, i < n → w.cell? ⟨g, i, none⟩ = (u8s ys)[i]?)
theorem BsO.of_ob {w : World} {base : Nat} {e : TypeId} {v : Value} {n : Nat} {ys : List Int} (h : Ob w base e v n (u8s ys)) (hb : Byt ys) : BsO w v ys := by
  have hl : ys.length = n := by have := h.len; rw [u8s_len] at this; exact this
  obtain ⟨A, c, rfl, hnc, _⟩ := h.slice
  refine ⟨A, n, c, rfl, hl, hb, hnc, fun h0 => ?_⟩
  obtain ⟨g, rfl⟩ := h.addr h0
  exact ⟨g, rfl, fun i hi => h.cellAt i hi⟩
theorem BsO.chg {S : Nat → Prop} {w w' : World} {v : Value} {ys : List Int} (h : BsO w v ys) (hc : Chg S w w') (hs : ∀ k, rdk v = some k → k < w.heap.size ∧ ¬ S k) : BsO w' v ys := by
  obtain ⟨A, n, c, rfl, hl, hb, hnc, h0⟩ := h
  refine ⟨A, n, c, rfl, hl, hb, hnc, fun hp => ?_⟩
  obtain ⟨g, rfl, h1⟩ := h0 hp
  refine ⟨g, rfl, fun i hi => (hc.cell (p := ⟨g, i, none⟩) ?_ ?_).trans (h1 i hi)⟩
  · exact (hs g (by simp [rdk]; omega)).1
  · exact (hs g (by simp [rdk]; omega)).2

theorem add_off (g m j : Nat) : (⟨g, m, none⟩ : Addr).add j = ⟨g, m + j, none⟩ := by unfold Addr.add; split <;> simp_all
set_option maxRecDepth 100000 in
set_option maxHeartbeats 4000000 in
theorem push_any (w : World) {S : Nat → Prop} {g cap : Nat} {xs ys : List Int} (hr : Rgo w S g cap xs) (v : Value) (hv : BsO w v ys) (hvS : ∀ k, rdk v = some k → k < w.heap.size ∧ ¬ S k) (hy : ys.length ≤ 140737488355328) :
    Calls Tryd.prog 69 #[.pointer (some ⟨g, 0, none⟩), v] w fun e w' => e = .returned (.int .i64 ((Nat.min ys.length (cap - xs.length) : Nat) : Int)) ∧ Rgo w' (fun k => S k ∨ w.heap.size ≤ k ∧ k < w'.heap.size) g cap (xs ++ ys.take (Nat.min ys.length (cap - xs.length))) ∧ Chg S w w' := by
  obtain ⟨A, n, c, rfl, hl, hby, hnc, h0⟩ := hv
  obtain ⟨k, hk⟩ : ∃ k, Nat.min ys.length (cap - xs.length) = k := ⟨_, rfl⟩
  obtain ⟨k1, k2, k3⟩ := nat_min hk.symm
  rw [hk]
  have hlen := hr.len
  have hcap := hr.cap2
  obtain ⟨m, hm⟩ : ∃ m, xs.length = m := ⟨_, rfl⟩
  rw [hm] at hlen k2 k3
  rw [hl] at k1 k3 hy
  have HR := Lib.hid hr
  have HB := Lib.hid hby
  have HL := Lib.hid hl
  have HM := Lib.hid hm
  have H0 := Lib.hid h0
  have HV := Lib.hid hvS
  obtain ⟨f, hf⟩ : ∃ f, cap - m = f := ⟨_, rfl⟩
  have HF := Lib.hid hf
  rw [hf] at k2 k3
  have hkI : (if f < n then (f : Int) else (n : Int)) = (k : Int) := by
    split <;> omega
  clear hr hby hl hm h0 hvS hk hf
  go_enter Tryd.func69, Tryd.ntmps69
  go_wp2_with fail
  refine (rfree_any w HR.out).mono ?_
  rintro e w' ⟨rfl, rfl⟩
  rw [HM.out, HF.out]
  by_cases hk0 : k = 0
  · subst hk0
    go_wp2
    go_ret
    refine ⟨rfl, ?_, Chg.refl _ _⟩
    rw [List.take_zero, List.append_nil]
    exact HR.out.sub fun k hk => .inl hk
  · have hkz : ¬ (k : Int) = 0 := by omega
    have c3 : w.cell? ⟨g, 3, none⟩ = some (.int .i64 (m : Int)) := by
      obtain ⟨buf, hd, hi, _⟩ := HR.out.is
      rw [← HM.out]
      exact hi.at_ 3 _ rfl
    obtain ⟨mk, hmk⟩ : ∃ mk, m + k = mk := ⟨_, rfl⟩
    have hmkI : (m : Int) + (k : Int) = (mk : Int) := by omega
    have HMk := Lib.hid hmk
    have hmkc : mk ≤ cap := by have := HF.out; omega
    have hmk31 : mk ≤ 2147483647 := by omega
    clear hmk
    go_wp2_with fail
    refine (lay_any w HR.out mk (by have := HM.out; have := HMk.out; omega) hmkc (by have := HMk.out; omega)).mono ?_
    rintro e w1 ⟨⟨r, rfl⟩, ⟨b, L, h, hi, hSb, hbg, hLc, hwL, cur, hc1, hc2, hh, hxL, hat⟩, hC⟩
    obtain ⟨at_, hat_⟩ : ∃ q, rot h m L = q := ⟨_, rfl⟩
    have hmL : m < L := by have := HMk.out; omega
    have hatL : at_ < L := by rw [← hat_]; exact rot_lt hh hmL
    have hrem : ((h : Int) + (m : Int)) % (L : Int) = (at_ : Int) := by
      have h1 := rot_mod hh (Nat.le_of_lt hmL)
      have h2 : (h + m) % L = at_ := by rw [h1, ← hat_]; rfl
      rw [← h2, Int.natCast_emod, Int.natCast_add]
    have d1 : ∀ Q, (w1.drewN Q).cell? ⟨g, 1, none⟩ = some (.slice (some ⟨b, 0, none⟩) L L) := fun Q => hi.at_ 1 _ rfl
    have d2 : ∀ Q, (w1.drewN Q).cell? ⟨g, 2, none⟩ = some (.int .i64 (h : Int)) := fun Q => hi.at_ 2 _ rfl
    have d3 : ∀ Q, (w1.drewN Q).cell? ⟨g, 3, none⟩ = some (.int .i64 (m : Int)) := fun Q => by rw [← HM.out]; exact hi.at_ 3 _ rfl
    have HI := Lib.hid hi
    have HC := Lib.hid hC
    have HCu := Lib.hid hc1
    have HCl := Lib.hid hc2
    have HAt := Lib.hid hat
    have HRot := Lib.hid hat_
    have HSb := Lib.hid hSb
    have HBg := Lib.hid hbg
    have HHL := Lib.hid (And.intro hh (And.intro hxL (And.intro hLc hwL)))
    have hL0 : ¬ (L : Int) = 0 := by omega
    have hL31 : L ≤ 2147483647 := by omega
    have hLat : ¬ L = at_ := by omega
    have hatI : (at_ : Int) ≤ (L : Int) := by omega
    have hh31 : h < L := hh
    clear hi hC hc1 hc2 hat hat_ hSb hbg hxL hLc hwL hh
    go_wp2_with fail
    go_quiet (fail)
    obtain ⟨gv, rfl, hsrc⟩ := H0.out (by omega)
    obtain ⟨m1, hm1⟩ : ∃ q, q = Nat.min k (L - at_) := ⟨_, rfl⟩
    obtain ⟨e1, e2, e3⟩ := nat_min hm1
    have hcn : k ≤ c := by omega
    have hknI : (k : Int) ≤ (c : Int) := by omega
    have hmk1 : (m1 : Int) ≤ (k : Int) := by omega
    have HM1 := Lib.hid hm1
    have HSrc := Lib.hid hsrc
    have hgv := HV.out gv (by simp [rdk]; omega)
    have hbS := HSb.out
    have hgvb : gv ≠ b := fun e => by
      rcases hbS with h | h
      · exact hgv.2 (by rw [e]; exact h)
      · omega
    have HSrc1 : Hid (∀ W, Chg (fun j => j = b) w1 W → ∀ i, i < n → W.cell? ⟨gv, i, none⟩ = (u8s ys)[i]?) := fun W hW i hi => by
      have hw1 : gv < w1.heap.size := by have := HC.out.size; omega
      exact (hW.cell (p := ⟨gv, i, none⟩) hw1 hgvb).trans ((HC.out.cell (p := ⟨gv, i, none⟩) hgv.1 hgv.2).trans (hsrc i hi))
    have HGv := Lib.hid hgvb
    have HP1 : Hid (∀ j v, (u8s ((ys.take k).take m1))[j]? = some v → w1.cell? ((⟨gv, 0, none⟩ : Addr).add j) = some v) := fun j v hj => by
      have hjl : j < m1 := by have := (List.getElem?_eq_some_iff.1 hj).1; rw [u8s_len, List.length_take] at this; omega
      rw [add_base, HSrc1.out w1 (Chg.refl _ _) j (by omega)]
      rw [← hj]
      unfold u8s
      rw [List.map_take, List.map_take, List.getElem?_take, if_pos hjl, List.getElem?_take, if_pos (by omega)]
    have HL1 : Hid ((u8s ((ys.take k).take m1)).length = m1) := by show _ = _; rw [u8s_len, List.length_take, List.length_take, HL.out]; omega
    have HF1 : Hid (at_ + m1 ≤ cur.length) := by show _ ≤ _; rw [HCl.out]; omega
    clear hm1 hsrc hgv hbS hgvb
    go_wp2_with fail
    go_region_law (refine step_copy_is rfl (.tmp 43) (.tmp 46) rfl (some ⟨b, at_, none⟩) (some ⟨gv, 0, none⟩) (L - at_) (L - at_) k c rfl rfl b at_ cur HCu.out m1 (u8s ((ys.take k).take m1)) HL1.out HM1.out (fun _ => ⟨rfl, _, rfl, HP1.out⟩) HF1.out (u8s_one _) ?_; intro w2 hw2 hc2)
    have HW2 := hw2
    have HC2 : Hid (Chg (fun j => j = b) w1 w2) := ((Chg.refl (fun j => j = b) w1).drewN _).trans hc2
    have HI2 : Hid (Is w2 g 168 (rgC cap (.slice (some ⟨b, 0, none⟩) L L) h xs.length)) := HI.out.chg HC2.out fun e => HBg.out e.symm
    have g1 : w2.cell? ⟨g, 1, none⟩ = some (.slice (some ⟨b, 0, none⟩) L L) := HI2.out.at_ 1 _ rfl
    have HP2 : Hid (∀ j v, (u8s ((ys.take k).drop m1))[j]? = some v → w2.cell? (⟨gv, m1 + j, none⟩ : Addr) = some v) := fun j v hj => by
      have hjl : j < k - m1 := by have := (List.getElem?_eq_some_iff.1 hj).1; rw [u8s_len, List.length_drop, List.length_take] at this; omega
      rw [HSrc1.out w2 HC2.out (m1 + j) (by omega)]
      rw [← hj]
      unfold u8s
      rw [List.map_drop, List.map_take, List.getElem?_drop, List.getElem?_take, if_pos (by omega)]
    have HL2 : Hid ((u8s ((ys.take k).drop m1)).length = k - m1) := by show _ = _; rw [u8s_len, List.length_drop, List.length_take, HL.out]; omega
    have HLs : Hid ((splice cur at_ (u8s ((ys.take k).take m1))).length = L) := by show _ = _; rw [length_splice _ _ _ (by rw [HL1.out]; exact HF1.out), HCl.out]
    have hmn2 : k - m1 = Nat.min (k - m1) L := by
      have : Nat.min (k - m1) L = min (k - m1) L := rfl
      have := HHL.out; have := HMk.out; omega
    have HMn := Lib.hid hmn2
    have HF2 : Hid (0 + (k - m1) ≤ (splice cur at_ (u8s ((ys.take k).take m1))).length) := by show _ ≤ _; rw [HLs.out]; have := HHL.out; have := HMk.out; omega
    have HEnd : Hid (∀ w3, Is w3 b 5 (splice (splice cur at_ (u8s ((ys.take k).take m1))) 0 (u8s ((ys.take k).drop m1))).toArray → Rgb w3 b L h (xs ++ ys.take k)) := fun w3 h3 => by
      have hh := HHL.out
      have hm := HM.out
      have hmkk := HMk.out
      refine Rgb.push HCl.out hh.1 HAt.out (by rw [List.length_take, HL.out]; omega) (m := at_) (by rw [hm]; exact HRot.out) (k1 := m1) ?_ (by omega) ?_
      · rw [List.length_take, HL.out, Nat.min_eq_left k1]; exact HM1.out
      · exact h3
    clear hc2 hw2 hmn2
    by_cases hcm : c = m1
    · obtain rfl : k = m1 := by omega
      subst hcm
      go_wp2_with fail
      go_region_law (refine step_copy_is rfl (.tmp 51) (.tmp 55) rfl (some ⟨b, 0, none⟩) (some ⟨gv, 0, none⟩) L L 0 0 rfl rfl b 0 (splice cur at_ (u8s ((ys.take c).take c))) HW2.out 0 [] rfl (by simp) (fun h => absurd h (by omega)) (by simp) (by simp) ?_; intro w3 hw3 hc3)
      have HC3 : Hid (Chg (fun j => j = b) w2 w3) := ((Chg.refl (fun j => j = b) w2).drew).trans hc3
      have HG3 : Hid (Rgb w3 b L h (xs ++ ys.take c)) := HEnd.out w3 (by
        have e : (ys.take c).drop c = [] := List.drop_eq_nil_of_le (by rw [List.length_take]; omega)
        rw [e]
        exact hw3.out)
      have hI3 : Is w3 g 168 (rgC cap (.slice (some ⟨b, 0, none⟩) L L) h xs.length) := HI2.out.chg HC3.out fun e => HBg.out e.symm
      have HI3 := Lib.hid hI3
      have j3 : w3.cell? ⟨g, 3, none⟩ = some (.int .i64 (m : Int)) := by rw [← HM.out]; exact hI3.at_ 3 _ rfl
      have q3 : w3.frozen? ⟨g, 3, none⟩ = false := hI3.frozen 3
      clear hw3 hc3 hI3
      go_wp2
      go_ret
      refine ⟨rfl, ?_, ?_⟩
      · refine ⟨HR.out.byt.append (HB.out.take _), by rw [List.length_append, List.length_take]; have := HM.out; have := HL.out; have := HMk.out; omega, hcap, .inl HR.out.sg, .slice (some ⟨b, 0, none⟩) L L, h, ?_, .inr ⟨by rw [List.length_append, List.length_take]; have := HL.out; omega, b, L, rfl, ?_, HBg.out, HHL.out.2.2.1, HG3.out.chg ((Chg.refl (fun j => j = g) w3).setCell (p := ⟨g, 3, none⟩) (fun _ => rfl) _) HBg.out⟩⟩
        · have h := HI3.out.put 3 (.int .i64 (mk : Int))
          have e : (xs ++ ys.take c).length = mk := by rw [List.length_append, List.length_take]; have := HM.out; have := HL.out; have := HMk.out; omega
          rw [e]
          exact h
        · rcases HSb.out with h | h
          · exact .inl h
          · refine .inr ⟨h.1, ?_⟩
            have := HC2.out.size; have := HC3.out.size
            simp
            omega
      · exact ((HC.out.then HC2.out fun k hk e => by rw [e]; rcases HSb.out with h | h; exact h; rw [e] at hk; omega).then HC3.out fun k hk e => by rw [e]; rcases HSb.out with h | h; exact h; rw [e] at hk; omega).setCell (p := ⟨g, 3, none⟩) (fun _ => HR.out.sg) _
    · have hcm2 : ¬ c = m1 := hcm
      go_wp2_with fail
      go_region_law (refine step_copy_is rfl (.tmp 51) (.tmp 55) rfl (some ⟨b, 0, none⟩) (some ⟨gv, m1, none⟩) L L (k - m1) (c - m1) rfl rfl b 0 (splice cur at_ (u8s ((ys.take k).take m1))) HW2.out (k - m1) (u8s ((ys.take k).drop m1)) HL2.out HMn.out (fun _ => ⟨rfl, _, rfl, fun j v hj => (by rw [add_off]; exact HP2.out j v hj)⟩) HF2.out (u8s_one _) ?_; intro w3 hw3 hc3)
      have HC3 : Hid (Chg (fun j => j = b) w2 w3) := ((Chg.refl (fun j => j = b) w2).drew).trans hc3
      have HG3 : Hid (Rgb w3 b L h (xs ++ ys.take k)) := HEnd.out w3 hw3.out
      have hI3 : Is w3 g 168 (rgC cap (.slice (some ⟨b, 0, none⟩) L L) h xs.length) := HI2.out.chg HC3.out fun e => HBg.out e.symm
      have HI3 := Lib.hid hI3
      have j3 : w3.cell? ⟨g, 3, none⟩ = some (.int .i64 (m : Int)) := by rw [← HM.out]; exact hI3.at_ 3 _ rfl
      have q3 : w3.frozen? ⟨g, 3, none⟩ = false := hI3.frozen 3
      clear hw3 hc3 hI3
      go_wp2
      go_ret
      refine ⟨rfl, ?_, ?_⟩
      · refine ⟨HR.out.byt.append (HB.out.take _), by rw [List.length_append, List.length_take]; have := HM.out; have := HL.out; have := HMk.out; omega, hcap, .inl HR.out.sg, .slice (some ⟨b, 0, none⟩) L L, h, ?_, .inr ⟨by rw [List.length_append, List.length_take]; have := HL.out; omega, b, L, rfl, ?_, HBg.out, HHL.out.2.2.1, HG3.out.chg ((Chg.refl (fun j => j = g) w3).setCell (p := ⟨g, 3, none⟩) (fun _ => rfl) _) HBg.out⟩⟩
        · have h := HI3.out.put 3 (.int .i64 (mk : Int))
          have e : (xs ++ ys.take k).length = mk := by rw [List.length_append, List.length_take]; have := HM.out; have := HL.out; have := HMk.out; omega
          rw [e]
          exact h
        · rcases HSb.out with h | h
          · exact .inl h
          · refine .inr ⟨h.1, ?_⟩
            have := HC2.out.size; have := HC3.out.size
            simp
            omega
      · exact ((HC.out.then HC2.out fun k hk e => by rw [e]; rcases HSb.out with h | h; exact h; rw [e] at hk; omega).then HC3.out fun k hk e => by rw [e]; rcases HSb.out with h | h; exact h; rw [e] at hk; omega).setCell (p := ⟨g, 3, none⟩) (fun _ => HR.out.sg) _
end Go.Proofs.YthalmjjbamglgaaDoor
namespace Go.Proofs.YthalmjjbamglgaaDoor
open Go.RowKit

theorem rnewb_any (w : World) (cap : Nat) (h : cap ≤ 2147483647) :
    Calls Tryd.prog 85 #[.int .i64 (cap : Int)] w fun e w' => ∃ g, e = .returned (.tuple #[.pointer (some ⟨g, 0, none⟩), .nilIface]) ∧ w.heap.size ≤ g ∧ Rgo w' (fun k => k = g) g cap [] ∧ Chg none_ w w' := by
  have hI : (cap : Int) ≤ 2147483647 := by omega
  go_enter Tryd.func85, Tryd.ntmps85
  go_wp2
  go_ret2
  refine ⟨w.heap.size, rfl, Nat.le_refl _, ⟨(fun z hz => by simp at hz), Nat.zero_le _, h, rfl, .slice none 0 0, 0, Is.new w _ _, .inl ⟨rfl, rfl, rfl⟩⟩, (Chg.refl none_ w).alloc _⟩

set_option maxRecDepth 100000 in
set_option maxHeartbeats 4000000 in
theorem drop_any (w : World) {S : Nat → Prop} {g cap : Nat} {xs : List Int} (hr : Rgo w S g cap xs) (nn : Nat) :
    Calls Tryd.prog 104 #[.pointer (some ⟨g, 0, none⟩), .int .i64 (nn : Int)] w fun e w' => e = .returned (.int .i64 ((Nat.min nn xs.length : Nat) : Int)) ∧ Rgo w' S g cap (xs.drop (Nat.min nn xs.length)) ∧ Chg S w w' := by
  obtain ⟨k, hk⟩ : ∃ k, Nat.min nn xs.length = k := ⟨_, rfl⟩
  obtain ⟨k1, k2, k3⟩ := nat_min hk.symm
  rw [hk]
  obtain ⟨m, hm⟩ : ∃ m, xs.length = m := ⟨_, rfl⟩
  have hlen := hr.len
  have hcap := hr.cap2
  rw [hm] at k2 k3 hlen
  have hkI : (if m < nn then (m : Int) else (nn : Int)) = (k : Int) := by split <;> omega
  have HR := Lib.hid hr
  have HM := Lib.hid hm
  have hn0 : ¬ (nn : Int) < 0 := by omega
  clear hr hk hm
  go_enter Tryd.func104, Tryd.ntmps104
  go_wp2_with fail
  refine (rlen_any w HR.out).mono ?_
  rintro e w' ⟨rfl, rfl⟩
  rw [HM.out]
  by_cases hk0 : k = 0
  · subst hk0
    go_wp2
    go_ret
    exact ⟨rfl, by rw [List.drop_zero]; exact HR.out, Chg.refl _ _⟩
  · have hkz : ¬ (k : Int) = 0 := by omega
    obtain ⟨buf, h, hi, hc⟩ := HR.out.is
    rcases hc with ⟨e, _, _⟩ | ⟨h0, b, L, rfl, hSb, hbg, hLc, hg⟩
    · rw [e] at HM
      have := HM.out
      simp at this
      omega
    · have HG := Lib.hid hg
      obtain ⟨cur, hc1, hc2, hh, hxL, hat⟩ := hg
      have hmL : m ≤ L := by have := HM.out; omega
      have HI := Lib.hid hi
      have d1 : w.cell? ⟨g, 1, none⟩ = some (.slice (some ⟨b, 0, none⟩) L L) := hi.at_ 1 _ rfl
      have d2 : w.cell? ⟨g, 2, none⟩ = some (.int .i64 (h : Int)) := hi.at_ 2 _ rfl
      have d3 : w.cell? ⟨g, 3, none⟩ = some (.int .i64 (m : Int)) := by rw [← HM.out]; exact hi.at_ 3 _ rfl
      have e1 : w.frozen? ⟨g, 1, none⟩ = false := hi.frozen 1
      have e2 : w.frozen? ⟨g, 2, none⟩ = false := hi.frozen 2
      have e3 : w.frozen? ⟨g, 3, none⟩ = false := hi.frozen 3
      obtain ⟨at_, hat_⟩ : ∃ q, (h + k) % L = q := ⟨_, rfl⟩
      have hrem : ((h : Int) + (k : Int)) % (L : Int) = (at_ : Int) := by rw [← hat_, Int.natCast_emod, Int.natCast_add]
      have HAt := Lib.hid hat_
      have hL0 : ¬ (L : Int) = 0 := by omega
      have hL31 : L ≤ 2147483647 := by omega
      have HHh := Lib.hid (And.intro hh (And.intro hSb (And.intro hbg hLc)))
      have hh31 : h ≤ 2147483647 := by omega
      clear hi hc1 hc2 hat hat_ hh hxL hSb hbg hLc h0
      go_wp2_with fail
      go_region
      obtain ⟨y1, hy1⟩ : ∃ y, (w.setCell ⟨g, 2, none⟩ (.int .i64 (at_ : Int))).drew = y := ⟨_, rfl⟩
      have HI1 : Hid (Is y1 g 168 (rgC cap (.slice (some ⟨b, 0, none⟩) L L) at_ m)) := by
        show Is _ _ _ _
        rw [← hy1, ← HM.out]
        exact HI.out.put 2 _
      have HC1 : Hid (Chg (fun j => j = g) w y1) := by
        show Chg _ _ _
        rw [← hy1]
        exact ((Chg.refl (fun j => j = g) w).setCell (p := ⟨g, 2, none⟩) (fun _ => rfl) _).drew
      have b1 : y1.cell? ⟨g, 1, none⟩ = some (.slice (some ⟨b, 0, none⟩) L L) := HI1.out.at_ 1 _ rfl
      have b2 : y1.cell? ⟨g, 2, none⟩ = some (.int .i64 (at_ : Int)) := HI1.out.at_ 2 _ rfl
      have b3 : y1.cell? ⟨g, 3, none⟩ = some (.int .i64 (m : Int)) := HI1.out.at_ 3 _ rfl
      have q1 : y1.frozen? ⟨g, 1, none⟩ = false := HI1.out.frozen 1
      have q2 : y1.frozen? ⟨g, 2, none⟩ = false := HI1.out.frozen 2
      have q3 : y1.frozen? ⟨g, 3, none⟩ = false := HI1.out.frozen 3
      rw [hy1]
      obtain ⟨mk, hmk⟩ : ∃ q, m - k = q := ⟨_, rfl⟩
      have hmkI : (m : Int) - (k : Int) = (mk : Int) := by omega
      have HMk := Lib.hid hmk
      clear hy1 d1 d2 d3 e1 e2 e3 hrem hmk
      by_cases hz : mk = 0
      · subst hz
        go_wp2
        go_ret
        have e : xs.drop k = [] := List.drop_eq_nil_of_le (by have := HM.out; have := HMk.out; omega)
        rw [e]
        refine ⟨rfl, ⟨(fun z hz => by simp at hz), Nat.zero_le _, hcap, HR.out.sg, .slice none 0 0, 0, ((HI1.out.put 3 _).put 1 _).put 2 _, .inl ⟨rfl, rfl, rfl⟩⟩, ?_⟩
        exact ((((HC1.out.setCell (p := ⟨g, 3, none⟩) (fun _ => rfl) _).setCell (p := ⟨g, 1, none⟩) (fun _ => rfl) _).setCell (p := ⟨g, 2, none⟩) (fun _ => rfl) _)).more fun k hk e => by rw [e]; exact HR.out.sg
      · have hz2 : ¬ (mk : Int) = 0 := by omega
        go_wp2
        go_ret
        have hl : (xs.drop k).length = mk := by rw [List.length_drop]; have := HM.out; have := HMk.out; omega
        refine ⟨rfl, ⟨HR.out.byt.drop _, by rw [hl]; omega, hcap, HR.out.sg, .slice (some ⟨b, 0, none⟩) L L, at_, by rw [hl]; exact HI1.out.put 3 _, .inr ⟨by omega, b, L, rfl, HHh.out.2.1, HHh.out.2.2.1, HHh.out.2.2.2, ?_⟩⟩, ?_⟩
        · have hg := HG.out.drop (m := k) (by have := HM.out; have := HMk.out; omega)
          have e : rot h k L = at_ := by
            rw [← HAt.out, rot_mod HHh.out.1 (by omega)]
            rfl
          rw [e] at hg
          exact (hg.chg HC1.out HHh.out.2.2.1).chg ((Chg.refl (fun j => j = g) y1).setCell (p := ⟨g, 3, none⟩) (fun _ => rfl) _) HHh.out.2.2.1
        · exact (HC1.out.setCell (p := ⟨g, 3, none⟩) (fun _ => rfl) _).more fun k hk e => by rw [e]; exact HR.out.sg

set_option maxRecDepth 100000 in
set_option maxHeartbeats 4000000 in
theorem peek_any (w : World) {S : Nat → Prop} {g cap : Nat} {xs : List Int} (hr : Rgo w S g cap xs) (nn : Nat) :
    Calls Tryd.prog 103 #[.pointer (some ⟨g, 0, none⟩), .int .i64 (nn : Int)] w fun e w' => ∃ v, e = .returned v ∧ Ob w' w.heap.size 5 v (Nat.min nn xs.length) (u8s (xs.take (Nat.min nn xs.length))) ∧ Chg none_ w w' := by
  obtain ⟨k, hk⟩ : ∃ k, Nat.min nn xs.length = k := ⟨_, rfl⟩
  obtain ⟨k1, k2, k3⟩ := nat_min hk.symm
  rw [hk]
  obtain ⟨m, hm⟩ : ∃ m, xs.length = m := ⟨_, rfl⟩
  have hlen := hr.len
  have hcap := hr.cap2
  rw [hm] at k2 k3 hlen
  have hkI : (if m < nn then (m : Int) else (nn : Int)) = (k : Int) := by split <;> omega
  have HR := Lib.hid hr
  have HM := Lib.hid hm
  have hn0 : ¬ (nn : Int) < 0 := by omega
  clear hr hk hm
  go_enter Tryd.func103, Tryd.ntmps103
  go_wp2_with fail
  refine (rlen_any w HR.out).mono ?_
  rintro e w' ⟨rfl, rfl⟩
  rw [HM.out]
  by_cases hk0 : k = 0
  · subst hk0
    go_wp2
    go_ret
    exact ⟨_, rfl, by simpa [u8s] using ob_nil w w.heap.size 5 none, Chg.refl _ _⟩
  · have hkz : ¬ (k : Int) = 0 := by omega
    obtain ⟨buf, h, hi, hc⟩ := HR.out.is
    rcases hc with ⟨e, _, _⟩ | ⟨h0, b, L, rfl, hSb, hbg, hLc, hg⟩
    · rw [e] at HM
      have := HM.out
      simp at this
      omega
    · have HG := Lib.hid hg
      have HI := Lib.hid hi
      have HB := Lib.hid hbg
      have hL31 : L ≤ 2147483647 := by omega
      have hbl : b < w.heap.size := by obtain ⟨cur, h1, _⟩ := hg; exact h1.lt
      have hgl := hi.lt
      clear hi hSb hbg hLc hg h0
      go_wp2_with (refine wpList_make_u8 rfl (.tmp 14) (.tmp 14) rfl (k : Int) rfl rfl k rfl (by omega) ?_)
      intro y1 j1 j2
      have HY1 := Lib.hid j1
      have HC1 := Lib.hid j2
      clear j1 j2
      go_wp2_with fail
      refine (copyTo_any y1 (out := List.replicate k (Value.int .u8 0)) (k := k) (c := k) (HI.out.chg HC1.out fun f => f) (HG.out.chg HC1.out fun f => f) HY1.out (by omega) (by rw [zeros_len]; exact Nat.le_refl _) (by have := HM.out; omega) (Nat.le_refl _) hL31 (by omega) (by omega)).mono ?_
      rintro e y2 ⟨⟨r, rfl⟩, j3, j4⟩
      have HY3 := Lib.hid j3
      have HC4 := Lib.hid j4
      clear j3 j4
      go_wp2
      go_ret
      have hl : (u8s (xs.take k)).length = k := by rw [u8s_len, List.length_take]; have := HM.out; omega
      have e : splice (List.replicate k (Value.int .u8 0)) 0 (u8s (xs.take k)) = u8s (xs.take k) := by
        unfold splice
        rw [hl, List.take_zero, List.nil_append, List.drop_eq_nil_of_le (by rw [zeros_len]; omega), List.append_nil]
      have h3 := HY3.out
      rw [e] at h3
      refine ⟨_, rfl, .inr ⟨⟨by rw [hl, Nat.mul_one], .inr ⟨w.heap.size, k, _, rfl, Nat.le_refl _, h3, Nat.le_refl _, by simp only [maxLen]; omega, by rw [List.size_toArray, hl, Nat.mul_one], by rw [Nat.mul_one]; exact List.take_of_length_le (by rw [Array.length_toList, List.size_toArray, hl]; exact Nat.le_refl _)⟩⟩, _, _, rfl, by omega⟩, ?_⟩
      exact HC1.out.then HC4.out fun j hj e => by omega
theorem pop_any (w : World) {S : Nat → Prop} {g cap : Nat} {xs : List Int} (hr : Rgo w S g cap xs) (hS : ∀ k, S k → k < w.heap.size) (nn : Nat) :
    Calls Tryd.prog 70 #[.pointer (some ⟨g, 0, none⟩), .int .i64 (nn : Int)] w fun e w' => ∃ v, e = .returned v ∧ Ob w' w.heap.size 5 v (Nat.min nn xs.length) (u8s (xs.take (Nat.min nn xs.length))) ∧ Rgo w' S g cap (xs.drop (Nat.min nn xs.length)) ∧ Chg S w w' := by
  have HR := Lib.hid hr
  have HS := Lib.hid hS
  clear hr hS
  go_enter Tryd.func70, Tryd.ntmps70
  go_wp2_with fail
  refine (peek_any w HR.out nn).mono ?_
  rintro e w1 ⟨v, rfl, h1, h2⟩
  have H1 := Lib.hid h1
  have H2 := Lib.hid h2
  clear h1 h2
  go_wp2_with fail
  refine (drop_any w1 (HR.out.chg H2.out fun _ _ f => f) nn).mono ?_
  rintro e w2 ⟨rfl, h3, h4⟩
  have H3 := Lib.hid h3
  have H4 := Lib.hid h4
  clear h3 h4
  go_wp2
  go_ret
  exact ⟨_, rfl, H1.out.chg H4.out fun k hk hs => by have := (H1.out.block k hk).1; have := HS.out k hs; omega, H3.out, (H2.out.more fun _ _ f => f.elim).then H4.out fun _ _ h => h⟩
theorem clear_any (w : World) {S : Nat → Prop} {g cap : Nat} {xs : List Int} (hr : Rgo w S g cap xs) :
    Calls Tryd.prog 100 #[.pointer (some ⟨g, 0, none⟩)] w fun e w' => (∃ r, e = .returned r) ∧ Rgo w' S g cap [] ∧ Chg S w w' := by
  have HR := Lib.hid hr
  clear hr
  go_enter Tryd.func100, Tryd.ntmps100
  go_wp2_with fail
  refine (rlen_any w HR.out).mono ?_
  rintro e w' ⟨rfl, rfl⟩
  go_wp2_with fail
  refine (drop_any w HR.out xs.length).mono ?_
  rintro e w2 ⟨rfl, h3, h4⟩
  have e : xs.drop (Nat.min xs.length xs.length) = [] := List.drop_eq_nil_of_le (by have : Nat.min xs.length xs.length = min xs.length xs.length := rfl; omega)
  rw [e] at h3
  have H3 := Lib.hid h3
  have H4 := Lib.hid h4
  clear h3 h4 e
  go_wp2
  go_ret
  exact ⟨⟨_, rfl⟩, H3.out, H4.out⟩
end Go.Proofs.YthalmjjbamglgaaDoor
