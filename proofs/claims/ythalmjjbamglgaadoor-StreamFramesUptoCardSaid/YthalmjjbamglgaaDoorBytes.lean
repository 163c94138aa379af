/-
  Bytes: slices of bytes as strings, bits put together.
  No condition.
-/
import Derived.Test.YthalmjjbamglgaaDoorMore
import Derived.Laws.BytesArg
import Derived.Laws.BitsAllLaws
namespace Go.Proofs.YthalmjjbamglgaaDoor
open Go.RowKit

theorem nat_or (a b i : Nat) (h : b < 2 ^ i) : a * 2 ^ i ||| b = a * 2 ^ i + b := by
  rw [Nat.mul_comm]
  exact (Nat.two_pow_add_eq_or_of_lt h a).symm
theorem or16 (x y : Int) (h1 : 0 ≤ x) (h2 : x ≤ 255) (h3 : 0 ≤ y) (h4 : y ≤ 255) : bits .or .u16 (x * 256) y = x * 256 + y := by
  obtain ⟨a, rfl⟩ := Int.eq_ofNat_of_zero_le h1
  obtain ⟨b, rfl⟩ := Int.eq_ofNat_of_zero_le h3
  have := u16_or_nat (a * 256) b (by omega) (by omega)
  rw [nat_or a b 8 (by omega)] at this
  simpa using this
theorem or32 (i : Nat) (hi : i ≤ 32) (x y : Int) (h1 : 0 ≤ x) (h2 : x * 2 ^ i ≤ 4294967295) (h3 : 0 ≤ y) (h4 : y < 2 ^ i) : bits .or .u32 (x * 2 ^ i) y = x * 2 ^ i + y := by
  obtain ⟨a, rfl⟩ := Int.eq_ofNat_of_zero_le h1
  obtain ⟨b, rfl⟩ := Int.eq_ofNat_of_zero_le h3
  have e1 : ((a : Int) * 2 ^ i) = ((a * 2 ^ i : Nat) : Int) := by simp
  have hb : b < 2 ^ i := by
    have : ((b : Int)) < ((2 ^ i : Nat) : Int) := by simpa using h4
    omega
  have h32 : 2 ^ i ≤ 2 ^ 32 := Nat.pow_le_pow_right (by decide) hi
  rw [e1] at h2 ⊢
  have := u32_or_nat (a * 2 ^ i) b (by omega) (by omega)
  rw [nat_or a b i hb] at this
  rw [this]
  simp

/-- string(b), b a slice of bytes that reads as a list, nil or not. -/
theorem run_str {P : Program} {w : World} (src e : TypeId) (hs : P.underlying src = some (.slice e)) (he : P.underlying e = some (.int .u8)) {A : Option Addr} {n c : Nat} {xs : List Int} (hl : xs.length = n)
    (hr : Rd w A n fun i => .int .u8 (xs.getD i 0)) : ∀ dst, P.underlying dst = some .string → (convert src dst (.slice A n c)).run P w = .ok (.string (strOfNums xs)) w := by
  intro dst hd
  cases A with
  | none =>
    have h0 : n = 0 := by
      rcases Nat.eq_zero_or_pos n with h | h
      · exact h
      · obtain ⟨ad, e, _⟩ := hr h
        cases e
    subst h0
    have hx : xs = [] := List.eq_nil_of_length_eq_zero hl
    subst hx
    exact run_convert_bytes_nil w src e hs he 0 c dst hd
  | some ad =>
    have hlo : (loadCells ad n).run P w = .ok (xs.map (Value.int .u8)).toArray w := by
      have h := run_loadCells_list (P := P) w ad (xs.map (Value.int .u8)) (fun j v hj => by
        have hjl : j < xs.length := by
          rcases Nat.lt_or_ge j xs.length with h | h
          · exact h
          · rw [List.getElem?_eq_none (by simpa using h)] at hj; cases hj
        rw [ints_get hjl] at hj
        obtain ⟨ad', e', hc⟩ := hr (by omega)
        obtain rfl := Option.some.inj e'
        rw [hc j (by omega)]
        exact hj)
      rwa [List.length_map, hl] at h
    rw [run_convert_bytes_string w src dst e _ n c hs he hd, run_bytesToString w _ n c xs hlo, foldl_push_bytes]
    simp [strOfNums, ByteArray.empty, ByteArray.emptyWithCapacity]
    rfl

def Byt (xs : List Int) : Prop := ∀ z ∈ xs, 0 ≤ z ∧ z ≤ 255

theorem ofNat_inj {x y : Int} (hx : 0 ≤ x ∧ x ≤ 255) (hy : 0 ≤ y ∧ y ≤ 255) (h : UInt8.ofNat x.toNat = UInt8.ofNat y.toNat) : x = y := by
  have h' := congrArg UInt8.toNat h
  rw [UInt8.toNat_ofNat', UInt8.toNat_ofNat'] at h'
  omega

theorem map_bytes_inj : ∀ (xs ys : List Int), Byt xs → Byt ys → (xs.map fun n => UInt8.ofNat n.toNat) = (ys.map fun n => UInt8.ofNat n.toNat) → xs = ys
  | [], [], _, _, _ => rfl
  | [], y :: ys, _, _, h => by simp at h
  | x :: xs, [], _, _, h => by simp at h
  | x :: xs, y :: ys, hx, hy, h => by
    simp only [List.map_cons, List.cons.injEq] at h
    rw [ofNat_inj (hx x (List.mem_cons_self ..)) (hy y (List.mem_cons_self ..)) h.1,
      map_bytes_inj xs ys (fun z hz => hx z (List.mem_cons_of_mem _ hz)) (fun z hz => hy z (List.mem_cons_of_mem _ hz)) h.2]

theorem str_inj {xs ys : List Int} (hx : Byt xs) (hy : Byt ys) (h : strOfNums xs = strOfNums ys) : xs = ys := by
  apply map_bytes_inj xs ys hx hy
  have := congrArg (fun s : ByteArray => s.data.toList) h
  simpa [strOfNums_data] using this

theorem str_list (xs : List Int) : (strOfNums xs).toList = xs.map fun n => UInt8.ofNat n.toNat := by
  rw [ByteArray.toList_eq, strOfNums_data]
/-- '==' of two such strings, in the walk's own form. -/
theorem str_beq {xs ys : List Int} (hx : Byt xs) (hy : Byt ys) : ((strOfNums xs).toList == (strOfNums ys).toList) = decide (xs = ys) := by
  rw [str_list, str_list]
  by_cases h : xs = ys
  · subst h; simp
  · rw [decide_eq_false h]
    exact beq_eq_false_iff_ne.2 fun e => h (map_bytes_inj xs ys hx hy e)
theorem byt_wf {xs : List Int} (h : ∀ z ∈ xs, (Lit.int .u8 z).wf = true) : Byt xs := fun z hz => bounds_u8 (h z hz)
theorem Byt.take {xs : List Int} (h : Byt xs) (k : Nat) : Byt (xs.take k) := fun z hz => h z (List.mem_of_mem_take hz)
theorem Byt.drop {xs : List Int} (h : Byt xs) (k : Nat) : Byt (xs.drop k) := fun z hz => h z (List.mem_of_mem_drop hz)
theorem Byt.append {xs ys : List Int} (h : Byt xs) (h' : Byt ys) : Byt (xs ++ ys) := fun z hz => (List.mem_append.1 hz).elim (h z) (h' z)
theorem Byt.at_ {xs : List Int} (h : Byt xs) {i : Nat} (hi : i < xs.length) : 0 ≤ xs.getD i 0 ∧ xs.getD i 0 ≤ 255 := h _ (getD_mem hi)
end Go.Proofs.YthalmjjbamglgaaDoor
