/-
  msg.length, Encode, New, Held, Done, slices.Clone, and the reference's Length and Encode, by contracts.
  No condition of its own: the fact 'Sen' on the world.
-/
import Derived.Test.YthalmjjbamglgaaDoorOb2
import Derived.Test.YthalmjjbamglgaaDoorMsgPure
import Derived.Test.YthalmjjbamglgaaDoorSen
import Derived.WalkLawsBesides
import Derived.WalkSpells
import Derived.Deep.QuietTactic
import Derived.BigQuiet
import Derived.Handy
namespace Go.Proofs.YthalmjjbamglgaaDoor
open Go.RowKit

theorem and127 (x : Int) (h0 : 0 ≤ x) (h1 : x ≤ 255) : bits .and .u8 x 127 = x % 128 := by
  obtain ⟨a, rfl⟩ := Int.eq_ofNat_of_zero_le h0
  have h := u8_and_nat a 127 (by omega) (by omega)
  rw [show (127 : Nat) = 2 ^ 7 - 1 by decide, Nat.and_two_pow_sub_one_eq_mod] at h
  have e : ((2 ^ 7 - 1 : Nat) : Int) = 127 := by decide
  rw [e] at h
  rw [h]
  omega
theorem or128 (x : Int) (h0 : 0 ≤ x) (h1 : x < 128) : bits .or .u8 x 128 = x + 128 := by
  obtain ⟨a, rfl⟩ := Int.eq_ofNat_of_zero_le h0
  have h := u8_or_nat a 128 (by omega) (by omega)
  have e := nat_or 1 a 7 (by omega)
  rw [Nat.or_comm, show (1 : Nat) * 2 ^ 7 = 128 by decide] at e
  rw [e] at h
  exact h.trans (by omega)
theorem i64_or_nat (a b : Nat) (ha : a < 4611686018427387904) (hb : b < 4611686018427387904) : bits .or .i64 (a : Int) (b : Int) = ((a ||| b : Nat) : Int) := by
  have hx : a ||| b < 2 ^ 62 := Nat.or_lt_two_pow (by omega) (by omega)
  have h1 : (BitVec.ofInt 64 (a : Int)).toNat = a := by
    rw [BitVec.ofInt_natCast, BitVec.toNat_ofNat]; exact Nat.mod_eq_of_lt (by omega)
  have h2 : (BitVec.ofInt 64 (b : Int)).toNat = b := by
    rw [BitVec.ofInt_natCast, BitVec.toNat_ofNat]; exact Nat.mod_eq_of_lt (by omega)
  show IntKind.i64.wrap ((BitVec.ofInt 64 (a : Int) ||| BitVec.ofInt 64 (b : Int)).toNat : Int) = _
  rw [BitVec.toNat_or, h1, h2]
  exact IntWalk.i64_in _ (by omega)
theorem or64 (i : Nat) (hi : i ≤ 40) (x y : Int) (h0 : 0 ≤ x) (h1 : x < 2 ^ i) (h2 : 0 ≤ y) (h3 : y ≤ 127) : bits .or .i64 x (y * 2 ^ i) = x + y * 2 ^ i := by
  obtain ⟨a, rfl⟩ := Int.eq_ofNat_of_zero_le h0
  obtain ⟨b, rfl⟩ := Int.eq_ofNat_of_zero_le h2
  have e1 : ((b : Int) * 2 ^ i) = ((b * 2 ^ i : Nat) : Int) := by simp
  have ha : a < 2 ^ i := by
    have : ((a : Int)) < ((2 ^ i : Nat) : Int) := by simpa using h1
    omega
  have h32 : 2 ^ i ≤ 2 ^ 40 := Nat.pow_le_pow_right (by decide) hi
  have hbb : b * 2 ^ i ≤ 127 * 2 ^ 40 := Nat.mul_le_mul (by omega) h32
  rw [e1, i64_or_nat a (b * 2 ^ i) (by omega) (by omega), Nat.or_comm, nat_or b a i ha]
  omega

theorem grown_chg {w w' : World} {v : Value} (h : w.grownBy w' (obk v)) : Chg (fun k => obk v = some k) w w' := ⟨h.os, h.tape, h.output, h.size, fun k hk hs => h.block k hk (fun e => hs e.symm)⟩

/-- slices.Clone of bytes. -/
theorem clone_any (w : World) (v : Value) (xs : List Int) (h : Bs w v xs) (hb : xs.length ≤ 140737488355328) :
    Calls Tryd.prog 82 #[v] w fun e w' => ∃ v', e = .returned v' ∧ Ob w' w.heap.size 5 v' xs.length (xs.map (Value.int .u8)) ∧ Chg none_ w w' := by
  obtain ⟨A, n, c, rfl, hl, hby, hr, _⟩ := h
  cases A with
  | none =>
    have h0 : n = 0 := by
      rcases Nat.eq_zero_or_pos n with h | h
      · exact h
      · obtain ⟨ad, e, _⟩ := hr h
        cases e
    subst h0
    have hx : xs = [] := List.eq_nil_of_length_eq_zero hl
    subst hx
    have heq := fun (w : World) => Lib.run_eql_slice_nil (P := Tryd.prog) w 23 5 none 0 c 0 0 Tryd.underlying23
    clear hr
    go_enter Tryd.func82, Tryd.ntmps82
    go_wp2
    go_ret
    exact ⟨_, rfl, ob_nil _ _ _ _, Chg.refl _ _⟩
  | some ad =>
    subst hl
    have HR := Lib.hid hr
    have HB := Lib.hid hb
    clear hr hb
    have heq := fun (w : World) => Lib.run_eql_slice_nil (P := Tryd.prog) w 23 5 (some ad) xs.length c 0 0 Tryd.underlying23
    go_enter Tryd.func82, Tryd.ntmps82
    go_wp2_with (at_builtin; refine wpList_append_bytes rfl (.tmp 5) (.tmp 6) rfl rfl (ob_nil _ w.heap.size _ _) (some ad) xs.length c xs rfl rfl ?hr ?hl ?hb ?_)
    case hr => exact HR.out.keep ((Below.refl _ _).alloc (Nat.le_refl _) _)
    case hl => have := HB.out; omega
    case hb => simp
    intro v' w' h1 h2 h3
    have HC : Hid (Chg none_ w w') := ((Chg.refl none_ w).alloc _).trans ((grown_chg h2).more fun k _ hk => by simp [obk] at hk)
    have H1 := Lib.hid h1
    clear h1 h2 h3
    go_wp2
    go_ret
    exact ⟨_, rfl, by simpa using H1.out, HC.out⟩

theorem length1 (w : World) (n : Int) (h0 : 0 ≤ n) (h1 : n < 128) :
    Calls Tryd.prog 113 #[.int .i64 n] w fun e w' => ∃ v', e = .returned v' ∧ Ob w' w.heap.size 5 v' 1 ([n].map (Value.int .u8)) ∧ Chg none_ w w' := by
  have e0 := IntWalk.u8_in n (by omega)
  go_enter Tryd.func113, Tryd.ntmps113
  go_wp2_with fail
  refine wp_loop_rounds 1 ?_
  rw [rounds_succ]
  go_wp2_with (at_builtin; refine wpList_append_bytes rfl (.tmp 15) (.tmp 18) rfl rfl (ob_nil _ w.heap.size _ _) (some ⟨w.heap.size, 0, none⟩) 1 1 [n] rfl rfl ?hr (by omega) ?hb ?_)
  case hr => exact Is.rdI [n] (Is.new w _ _)
  case hb => simp
  intro v' w' k1 k2 k3
  have HC : Hid (Chg none_ w w') := ((Chg.refl none_ w).alloc _).trans ((grown_chg k2).more fun k _ hk => by simp [obk] at hk)
  have H1 := Lib.hid k1
  clear k1 k2 k3
  go_wp2
  go_ret
  exact ⟨_, rfl, H1.out, HC.out⟩
theorem length2 (w : World) (n x y : Int) (h0 : 128 ≤ n) (h1 : n < 16384) (hx : n % 128 = x) (hy : n / 128 = y) :
    Calls Tryd.prog 113 #[.int .i64 n] w fun e w' => ∃ v', e = .returned v' ∧ Ob w' w.heap.size 5 v' 2 ([x + 128, y].map (Value.int .u8)) ∧ Chg none_ w w' := by
  have hx0 : 0 ≤ x := by omega
  have hx2 : x < 128 := by omega
  have hy0 : 0 ≤ y := by omega
  have hy2 : y < 128 := by omega
  have b1 := or128 x hx0 hx2
  have e0 := IntWalk.u8_in y (by omega)
  have e2 := IntWalk.u8_in x (by omega)
  go_enter Tryd.func113, Tryd.ntmps113
  go_wp2_with fail
  refine wp_loop_rounds 2 ?_
  rw [rounds_succ]
  go_wp2_with (at_builtin; refine wpList_append_bytes rfl (.tmp 6) (.tmp 11) rfl rfl (ob_nil _ w.heap.size _ _) (some ⟨w.heap.size, 0, none⟩) 1 1 [x + 128] rfl rfl ?hr (by omega) ?hb ?_)
  case hr => exact Is.rdI [x + 128] (Is.new w _ _)
  case hb => simp
  intro v1 w1 k1 k2 k3
  have HC : Hid (Chg none_ w w1) := ((Chg.refl none_ w).alloc _).trans ((grown_chg k2).more fun k _ hk => by simp [obk] at hk)
  have H1 := Lib.hid k1
  have hsz := HC.out.size
  have H1a : Hid (Ob (w1.alloc (.cells #[.int .u8 y] 5)) w.heap.size 5 v1 1 [.int .u8 (x + 128)]) := H1.out.keep fun k hk => Below.heap_alloc w1 _ k (H1.out.block k hk).2
  clear k1 k2 k3
  go_wp2_with fail
  rw [rounds_succ]
  go_wp2_with (at_builtin; refine wpList_append_bytes rfl (.tmp 15) (.tmp 18) rfl rfl H1a.out (some ⟨w1.heap.size, 0, none⟩) 1 1 [y] rfl rfl ?hr2 (by omega) ?hb2 ?_)
  case hr2 => exact Is.rdI [y] (Is.new w1 _ _)
  case hb2 => simp; omega
  intro v2 w2 k1 k2 k3
  have HC2 : Hid (Chg none_ w w2) := (HC.out.alloc _).then ((grown_chg k2).more fun k hk hb => (H1.out.block k hb).1) fun k hk hb => by omega
  have H2 := Lib.hid k1
  clear k1 k2 k3
  go_wp2
  go_ret
  exact ⟨_, rfl, H2.out, HC2.out⟩
theorem length3 (w : World) (n x y z : Int) (h0 : 16384 ≤ n) (h1 : n < 2097152) (hx : n % 128 = x) (hy : n / 128 % 128 = y) (hz : n / 128 / 128 = z) :
    Calls Tryd.prog 113 #[.int .i64 n] w fun e w' => ∃ v', e = .returned v' ∧ Ob w' w.heap.size 5 v' 3 ([x + 128, y + 128, z].map (Value.int .u8)) ∧ Chg none_ w w' := by
  have hn1 : 128 ≤ n := by omega
  have hn2 : 128 ≤ n / 128 := by omega
  have hn3 : n / 128 / 128 < 128 := by omega
  have hx0 : 0 ≤ x := by omega
  have hx2 : x < 128 := by omega
  have hy0 : 0 ≤ y := by omega
  have hy2 : y < 128 := by omega
  have hz0 : 0 ≤ z := by omega
  have hz2 : z < 128 := by omega
  have b1 := or128 x hx0 hx2
  have b2 := or128 y hy0 hy2
  have e0 := IntWalk.u8_in y (by omega)
  have e2 := IntWalk.u8_in x (by omega)
  have e3 := IntWalk.u8_in z (by omega)
  clear h1
  go_enter Tryd.func113, Tryd.ntmps113
  go_wp2_with fail
  refine wp_loop_rounds 3 ?_
  rw [rounds_succ]
  go_wp2_with (at_builtin; refine wpList_append_bytes rfl (.tmp 6) (.tmp 11) rfl rfl (ob_nil _ w.heap.size _ _) (some ⟨w.heap.size, 0, none⟩) 1 1 [x + 128] rfl rfl ?hr (by omega) ?hb ?_)
  case hr => exact Is.rdI [x + 128] (Is.new w _ _)
  case hb => simp
  intro v1 w1 k1 k2 k3
  have HC : Hid (Chg none_ w w1) := ((Chg.refl none_ w).alloc _).trans ((grown_chg k2).more fun k _ hk => by simp [obk] at hk)
  have H1 := Lib.hid k1
  have hsz := HC.out.size
  have H1a : Hid (Ob (w1.alloc (.cells #[.int .u8 (y + 128)] 5)) w.heap.size 5 v1 1 [.int .u8 (x + 128)]) := H1.out.keep fun k hk => Below.heap_alloc w1 _ k (H1.out.block k hk).2
  clear k1 k2 k3
  go_wp2_with fail
  rw [rounds_succ]
  go_wp2_with (at_builtin; refine wpList_append_bytes rfl (.tmp 6) (.tmp 11) rfl rfl H1a.out (some ⟨w1.heap.size, 0, none⟩) 1 1 [y + 128] rfl rfl ?hr2 (by omega) ?hb2 ?_)
  case hr2 => exact Is.rdI [y + 128] (Is.new w1 _ _)
  case hb2 => simp; omega
  intro v2 w2 k1 k2 k3
  have HC2 : Hid (Chg none_ w w2) := (HC.out.alloc _).then ((grown_chg k2).more fun k hk hb => (H1.out.block k hb).1) fun k hk hb => by omega
  have H2 := Lib.hid k1
  have hsz2 := HC2.out.size
  have H2a : Hid (Ob (w2.alloc (.cells #[.int .u8 z] 5)) w.heap.size 5 v2 2 [.int .u8 (x + 128), .int .u8 (y + 128)]) := H2.out.keep fun k hk => Below.heap_alloc w2 _ k (H2.out.block k hk).2
  clear k1 k2 k3
  go_wp2_with fail
  rw [rounds_succ]
  go_wp2_with (at_builtin; refine wpList_append_bytes rfl (.tmp 15) (.tmp 18) rfl rfl H2a.out (some ⟨w2.heap.size, 0, none⟩) 1 1 [z] rfl rfl ?hr3 (by omega) ?hb3 ?_)
  case hr3 => exact Is.rdI [z] (Is.new w2 _ _)
  case hb3 => simp; omega
  intro v3 w3 k1 k2 k3
  have HC3 : Hid (Chg none_ w w3) := (HC2.out.alloc _).then ((grown_chg k2).more fun k hk hb => (H2.out.block k hb).1) fun k hk hb => by omega
  have H3 := Lib.hid k1
  clear k1 k2 k3
  go_wp2
  go_ret
  exact ⟨_, rfl, H3.out, HC3.out⟩

/-- msg.length: the bytes of a length. -/
theorem length_any (w : World) (n : Nat) (h : n < 2097152) :
    Calls Tryd.prog 113 #[.int .i64 (n : Int)] w fun e w' => ∃ v', e = .returned v' ∧ Ob w' w.heap.size 5 v' (lenB n).length ((lenB n).map (Value.int .u8)) ∧ Chg none_ w w' := by
  by_cases h1 : n < 128
  · have e1 : lenB n = [(n : Int)] := by unfold lenB; rw [if_pos h1]
    rw [e1]
    exact length1 w n (by omega) (by omega)
  · by_cases h2 : n < 16384
    · have e1 : lenB n = [((n : Int) % 128 + 128), (n : Int) / 128] := by unfold lenB; rw [if_neg h1, if_pos h2]; simp
      rw [e1]
      exact length2 w n _ _ (by omega) (by omega) rfl rfl
    · have e1 : lenB n = [((n : Int) % 128 + 128), (n : Int) / 128 % 128 + 128, (n : Int) / 128 / 128] := by unfold lenB; rw [if_neg h1, if_neg h2]; simp
      rw [e1]
      exact length3 w n _ _ _ (by omega) (by omega) rfl rfl rfl


/-- What Encode answers. -/
def enC (most : Int) (m : List Int) : Nat := if most < 0 ∨ 1048576 < most then 2 else if most < m.length then 15 else 0
def enR (most : Int) (m : List Int) : List Int := if enC most m = 0 then encB m else []
theorem enC_le (most : Int) (m : List Int) : enC most m ≤ 42 := by
  unfold enC
  by_cases h1 : most < 0 ∨ 1048576 < most
  · rw [if_pos h1]; omega
  · rw [if_neg h1]
    by_cases h2 : most < m.length
    · rw [if_pos h2]; omega
    · rw [if_neg h2]; omega
theorem enC0 {most : Int} {m : List Int} : enC most m = 0 ↔ 0 ≤ most ∧ most ≤ 1048576 ∧ (m.length : Int) ≤ most := by
  unfold enC
  by_cases h1 : most < 0 ∨ 1048576 < most
  · rw [if_pos h1]; omega
  · rw [if_neg h1]
    by_cases h2 : most < m.length
    · rw [if_pos h2]; omega
    · rw [if_neg h2]; omega

section
variable {B : Nat} {a : Nat → Addr}
theorem encode_no2 (w : World) (hs : Sen B a w) (v : Value) (most : Int) (h : most < 0 ∨ 1048576 < most) :
    Calls Tryd.prog 79 #[v, .int .i64 most] w fun e w' => e = .returned (.tuple #[.slice none 0 0, errv a 2]) ∧ Chg none_ w w' := by
  have hc : w.cell? ⟨4, 0, none⟩ = some (.iface 200 (.pointer (some (a 2)))) := hs.cell 2 (by decide) (by decide)
  have HG := Lib.hid (Chg.refl none_ w)
  clear hs
  by_cases h0 : most < 0
  · clear h
    go_enter Tryd.func79, Tryd.ntmps79
    go_wp2
    go_quiet (fail)
    go_wp2
    go_ret2
    exact ⟨rfl, HG.out.drewN _⟩
  · have h1 : 1048576 < most := by omega
    clear h
    go_enter Tryd.func79, Tryd.ntmps79
    go_wp2
    go_quiet (fail)
    go_wp2
    go_ret2
    exact ⟨rfl, HG.out.drewN _⟩
theorem encode_no15 (w : World) (hs : Sen B a w) (A : Option Addr) (n c : Nat) (most : Int) (h0 : 0 ≤ most) (h1 : most ≤ 1048576) (h2 : most < n) :
    Calls Tryd.prog 79 #[.slice A n c, .int .i64 most] w fun e w' => e = .returned (.tuple #[.slice none 0 0, errv a 15]) ∧ Chg none_ w w' := by
  have hc : w.cell? ⟨9, 0, none⟩ = some (.iface 200 (.pointer (some (a 15)))) := hs.cell 15 (by decide) (by decide)
  have HG := Lib.hid (Chg.refl none_ w)
  clear hs
  go_enter Tryd.func79, Tryd.ntmps79
  go_wp2
  go_quiet (fail)
  go_wp2
  go_ret2
  exact ⟨rfl, HG.out.drewN _⟩
theorem encode_ok (w : World) (v : Value) (m : List Int) (hb : Bs w v m) (most : Int) (h0 : 0 ≤ most) (h1 : most ≤ 1048576) (h2 : (m.length : Int) ≤ most) :
    Calls Tryd.prog 79 #[v, .int .i64 most] w fun e w' => ∃ v', e = .returned (.tuple #[v', .nilIface]) ∧ Ob w' w.heap.size 5 v' (encB m).length ((encB m).map (Value.int .u8)) ∧ Chg none_ w w' := by
  obtain ⟨A, n, c, rfl, rfl, hby, hr, _⟩ := hb
  have hlt : m.length < 2097152 := by omega
  have HL := Lib.hid hlt
  have HR := Lib.hid hr
  clear hr hlt
  go_enter Tryd.func79, Tryd.ntmps79
  go_wp2_with fail
  refine (length_any w m.length HL.out).mono ?_
  rintro e w1 ⟨v1, rfl, k1, c1⟩
  have H1 := Lib.hid k1
  have HC := Lib.hid c1
  clear k1 c1
  go_wp2_with (at_builtin; refine wpList_append_bytes rfl (.tmp 20) (.tmp 21) rfl rfl H1.out A m.length c m rfl rfl ?hr ?hb ?hsz ?_)
  case hr => exact HR.out.keep (HC.out.old (Nat.le_refl _))
  case hb => have := HL.out; have := len_len m.length; omega
  case hsz => exact HC.out.size
  intro v2 w2 k1 k2 k3
  have HC2 : Hid (Chg none_ w w2) := HC.out.then ((grown_chg k2).more fun k hk hb => (H1.out.block k hb).1) fun k hk hb => by omega
  have H2 := Lib.hid k1
  clear k1 k2 k3
  go_wp2
  go_ret2
  refine ⟨_, rfl, ?_, HC2.out⟩
  have := H2.out
  rw [← List.map_append, ← List.length_append] at this
  exact this
theorem encode_any (w : World) (hs : Sen B a w) (v : Value) (m : List Int) (hb : Bs w v m) (most : Int) :
    Calls Tryd.prog 79 #[v, .int .i64 most] w fun e w' => ∃ v', e = .returned (.tuple #[v', errv a (enC most m)]) ∧ Ob w' w.heap.size 5 v' (enR most m).length ((enR most m).map (Value.int .u8)) ∧ Chg none_ w w' := by
  by_cases h : enC most m = 0
  · have hR : enR most m = encB m := if_pos h
    rw [h, hR]
    obtain ⟨h0, h1, h2⟩ := enC0.1 h
    exact encode_ok w v m hb most h0 h1 h2
  · have hR : enR most m = [] := if_neg h
    rw [hR]
    obtain ⟨A, n, c, rfl, rfl, _, _, _⟩ := hb
    by_cases h1 : most < 0 ∨ 1048576 < most
    · rw [show enC most m = 2 from if_pos h1]
      exact (encode_no2 w hs _ most h1).mono fun e w' ⟨he, hc⟩ => ⟨_, he, ob_nil _ _ _ _, hc⟩
    · by_cases h2 : most < m.length
      · rw [show enC most m = 15 from by unfold enC; rw [if_neg h1, if_pos h2]]
        exact (encode_no15 w hs A _ c most (by omega) (by omega) h2).mono fun e w' ⟨he, hc⟩ => ⟨_, he, ob_nil _ _ _ _, hc⟩
      · exact absurd (show enC most m = 0 by unfold enC; rw [if_neg h1, if_neg h2]) h
end
end Go.Proofs.YthalmjjbamglgaaDoor
