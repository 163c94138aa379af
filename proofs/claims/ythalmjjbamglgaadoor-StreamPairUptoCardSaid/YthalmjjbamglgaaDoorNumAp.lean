/-
  culvertlaw01.Apart by contract: own slices, apart from one another, are written, grown and looked at.
  Condition: each slice is the call's own (Ob), and no block is shared.
-/
import Derived.Test.YthalmjjbamglgaaDoorG1
import Derived.Deep.QuietTactic
import Derived.BigQuiet
import Derived.Deep.RegionWith
import Derived.Deep.LoopGhost
import Derived.Test.YthalmjjbamglgaaDoorG2
namespace Go.Proofs.YthalmjjbamglgaaDoor
open Go.RowKit

def apv (z : Nat) : Value := .int .u8 ((z : Int) % 256)
theorem apv7 (i k : Nat) : Value.int .u8 ((7 * (i : Int) + (k : Int)) % 256) = apv (7 * i + k) := by simp [apv]
theorem apv11 (i k : Nat) : Value.int .u8 ((11 * (i : Int) + (k : Int) + 3) % 256) = apv (11 * i + k + 3) := by simp [apv]
def apL (i m : Nat) : List Value := (List.range m).map fun k => apv (7 * i + k)
def apM (i m : Nat) : List Value := (List.range m).map fun k => apv (11 * i + k + 3)
theorem apL_succ (i k : Nat) : apL i (k + 1) = apL i k ++ [apv (7 * i + k)] := by simp [apL, List.range_succ]
theorem apM_succ (i k : Nat) : apM i (k + 1) = apM i k ++ [apv (11 * i + k + 3)] := by simp [apM, List.range_succ]
theorem apL_len (i m : Nat) : (apL i m).length = m := by simp [apL]
theorem apM_len (i m : Nat) : (apM i m).length = m := by simp [apM]
theorem apL_get (i : Nat) {m k : Nat} (h : k < m) : (apL i m)[k]? = some (apv (7 * i + k)) := by simp [apL, h]
theorem apM_get (i : Nat) {m k : Nat} (h : k < m) : (apM i m)[k]? = some (apv (11 * i + k + 3)) := by simp [apM, h]

/-- A slice that reads as xs, wherever it lies. -/
def Rg (w : World) (v : Value) (n : Nat) (xs : List Value) : Prop := ∀ g c, v = .slice (some ⟨g, 0, none⟩) n c → ∀ k, k < n → w.cell? ⟨g, k, none⟩ = xs[k]?
theorem Rg.keep {w w' : World} {v : Value} {n : Nat} {xs : List Value} (h : Rg w v n xs) (hb : ∀ k, rdk v = some k → w'.heap[k]? = w.heap[k]?) : Rg w' v n xs := fun g c e k hk => by
  subst e
  exact (World.cell?_of_block (hb g (by simp [rdk, Nat.ne_of_gt (Nat.lt_of_le_of_lt (Nat.zero_le _) hk)]))).trans (h g c rfl k hk)
theorem Rg.chg {S : Nat → Prop} {w w' : World} {v : Value} {n : Nat} {xs : List Value} (h : Rg w v n xs) (hc : Chg S w w') (hs : ∀ k, rdk v = some k → k < w.heap.size ∧ ¬ S k) : Rg w' v n xs :=
  h.keep fun k hk => hc.block k (hs k hk).1 (hs k hk).2
theorem Ob.rg {w : World} {base : Nat} {e : TypeId} {v : Value} {n : Nat} {xs : List Value} (h : Ob w base e v n xs) : Rg w v n xs := fun g c e k hk => by
  subst e
  exact h.cellAt k hk
/-- A prefix of an own slice in the same block. -/
theorem rg_pre {w : World} {base : Nat} {e : TypeId} {u v : Value} {n m : Nat} {xs ys : List Value} (h : Ob w base e v m (xs ++ ys)) (hn : xs.length = n) (hnm : n ≤ m) (hb : obk v = obk u) (hu : ∀ k, Proofs.YthalmjjbamglgaaDoor.rdk u = some k → obk u = some k) : Rg w u n xs := fun g c e k hk => by
  subst e
  have h1 : obk (.slice (some ⟨g, 0, none⟩) n c) = some g := hu g (by simp [rdk, Nat.ne_of_gt (Nat.lt_of_le_of_lt (Nat.zero_le _) hk)])
  rw [h1] at hb
  obtain ⟨A, c', rfl, _, _⟩ := h.slice
  obtain ⟨g', rfl⟩ := h.addr (by omega)
  have e : g' = g := by
    simp only [obk] at hb
    split at hb
    · cases hb
    · exact Option.some.inj hb
  subst e
  rw [h.cellAt k (by omega), List.getElem?_append_left (by omega)]

/-- The first loops' state: the slices ahead of i are written. -/
structure Ap1 (w : World) (B n : Nat) (U : Nat → Value) (N : Nat → Nat) (i : Nat) (wr : World) : Prop where
  ob : ∀ j, j < n → ∃ xs, Ob wr B 5 (U j) (N j) xs ∧ (j < i → xs = apL j (N j))
  chg : Chg (fun k => ∃ j, j < n ∧ obk (U j) = some k) w wr
/-- The next loops' state: the slices ahead of i are grown into gs. -/
structure Ap3 (w : World) (B n bg : Nat) (U : Nat → Value) (N : Nat → Nat) (i : Nat) (wr : World) (cur : Array Value) (Gb Gc : Nat → Nat) : Prop where
  im : Is wr bg 23 cur
  sz : cur.size = n
  at_ : ∀ j, j < i → cur[j]? = some (.slice (some ⟨Gb j, 0, none⟩) (N j + 40) (Gc j))
  gs : ∀ j, j < i → Ob wr B 5 (.slice (some ⟨Gb j, 0, none⟩) (N j + 40) (Gc j)) (N j + 40) (apL j (N j) ++ apM j 40)
  us : ∀ j, j < i → Rg wr (U j) (N j) (apL j (N j))
  todo : ∀ j, i ≤ j → j < n → Ob wr B 5 (U j) (N j) (apL j (N j))
  bl : ∀ j, j < i → obk (U j) = some (Gb j) ∨ w.heap.size ≤ Gb j
  dis : ∀ j j', j < j' → j' < i → Gb j ≠ Gb j'
  chg : Chg (fun k => k = bg ∨ ∃ j, j < n ∧ obk (U j) = some k) w wr
/-- The inner of the next loops: g is k bytes longer. -/
structure Ap4 (wr : World) (B : Nat) (u : Value) (m i k : Nat) (W : World) (v : Value) : Prop where
  ob : Ob W B 5 v (m + k) (apL i m ++ apM i k)
  rg : Rg W u m (apL i m)
  bl : obk v = obk u ∨ ∃ q, obk v = some q ∧ wr.heap.size ≤ q
  chg : Chg (fun q => obk u = some q) wr W

theorem Ap4.step {wr W W1 W2 : World} {B : Nat} {u v v' : Value} {m i k : Nat} (h : Ap4 wr B u m i k W v) (hlt : ∀ q, obk u = some q → q < wr.heap.size) (hrd : ∀ q, rdk u = some q → obk u = some q) (h1 : Chg none_ W W1)
    (h2 : Ob W2 B 5 v' (m + k + 1) (apL i m ++ apM i k ++ [apv (11 * i + k + 3)])) (h3 : W1.grownBy W2 (obk v)) (h4 : obk v' = obk v ∨ obk v' = some W1.heap.size ∧ W1.grownBy W2 none) :
    Ap4 wr B u m i (k + 1) W2 v' := by
  have e : apL i m ++ apM i k ++ [apv (11 * i + k + 3)] = apL i m ++ apM i (k + 1) := by rw [apM_succ, List.append_assoc]
  rw [e] at h2
  have hz := h.chg.size
  have hz1 := h1.size
  have hlt' : ∀ q, rdk u = some q → q < W1.heap.size := fun q hq => by have := hlt q (hrd q hq); omega
  have r1 : Rg W1 u m (apL i m) := h.rg.chg h1 fun q hq => ⟨by have := hlt q (hrd q hq); omega, fun f => f⟩
  refine ⟨h2, ?_, ?_, ?_⟩
  · rcases h4 with h4 | ⟨_, h4⟩
    · rcases h.bl with hb | ⟨q, hb, hq⟩
      · exact rg_pre h2 (apL_len _ _) (by omega) (h4.trans hb) hrd
      · refine r1.chg (grow_chg h3) fun q' hq' => ⟨hlt' q' hq', fun e => ?_⟩
        rw [hb] at e
        injection e with e
        have := hlt q' (hrd q' hq')
        omega
    · exact r1.keep fun q hq => h4.block q (hlt' q hq) (by simp)
  · rcases h4 with h4 | ⟨h4, _⟩
    · rcases h.bl with hb | ⟨q, hb, hq⟩
      · exact .inl (h4.trans hb)
      · exact .inr ⟨q, h4.trans hb, hq⟩
    · exact .inr ⟨_, h4, by omega⟩
  · refine (h.chg.trans (h1.more fun _ _ f => f.elim)).then (grow_chg h3) fun q hq e => ?_
    rcases h.bl with hb | ⟨q', hb, hq'⟩
    · rw [← hb]; exact e
    · rw [hb] at e
      injection e with e
      omega
theorem Ap3.step {w wr W : World} {B n bg : Nat} {U : Nat → Value} {N : Nat → Nat} {i : Nat} {cur : Array Value} {Gb Gc : Nat → Nat} {g c : Nat} (h : Ap3 w B n bg U N i wr cur Gb Gc) (hi : i < n)
    (hlt : ∀ j, j < n → ∀ q, obk (U j) = some q → q < w.heap.size ∧ q ≠ bg) (hbg : bg < w.heap.size) (hrd : ∀ j, j < n → ∀ q, rdk (U j) = some q → obk (U j) = some q) (hdis : ∀ j j' q, j < n → j' < n → j ≠ j' → obk (U j) = some q → obk (U j') ≠ some q)
    (h4 : Ap4 wr B (U i) (N i) i 40 W (.slice (some ⟨g, 0, none⟩) (N i + 40) c)) :
    Ap3 w B n bg U N (i + 1) (W.setCell ⟨bg, i, none⟩ (.slice (some ⟨g, 0, none⟩) (N i + 40) c)) (cur.setIfInBounds i (.slice (some ⟨g, 0, none⟩) (N i + 40) c)) (fun j => if j = i then g else Gb j) (fun j => if j = i then c else Gc j) := by
  have hg : obk (.slice (some ⟨g, 0, none⟩) (N i + 40) c) = some g := h4.ob.rdk g (by simp [rdk])
  have hz := h.chg.size
  have hz4 := h4.chg.size
  have hbl := h4.bl
  rw [hg] at hbl
  have hGlt : ∀ j, j < i → Gb j < wr.heap.size ∧ obk (.slice (some ⟨Gb j, 0, none⟩) (N j + 40) (Gc j)) = some (Gb j) := fun j hj => by
    have := (h.gs j hj).rdk (Gb j) (by simp [rdk])
    exact ⟨((h.gs j hj).block _ this).2, this⟩
  have hgbg : g ≠ bg := by
    rcases hbl with e | ⟨q, e, hq⟩
    · exact (hlt i hi g e.symm).2
    · injection e with e; omega
  have hGbg : ∀ j, j < i → Gb j ≠ bg := fun j hj => by
    rcases h.bl j hj with e | e
    · exact (hlt j (by omega) _ e).2
    · omega
  have hUG : ∀ j, j < i → obk (U i) ≠ some (Gb j) := fun j hj e => by
    rcases h.bl j hj with e' | e'
    · exact hdis i j _ hi (by omega) (by omega) e e'
    · have := (hlt i hi _ e).1; omega
  have hGg : ∀ j, j < i → Gb j ≠ g := fun j hj e => by
    rcases hbl with e' | ⟨q, e', hq⟩
    · exact hUG j hj (by rw [e]; exact e'.symm)
    · injection e' with e'; have := (hGlt j hj).1; omega
  have hs : Chg (fun q => q = bg) W (W.setCell ⟨bg, i, none⟩ (.slice (some ⟨g, 0, none⟩) (N i + 40) c)) := (Chg.refl (fun q => q = bg) W).setCell (p := ⟨bg, i, none⟩) (fun _ => rfl) _
  have him : Is W bg 23 cur := h.im.chg h4.chg fun e => (hlt i hi bg e).2 rfl
  refine ⟨him.put i _, by rw [Array.size_setIfInBounds]; exact h.sz, fun j hj => ?_, fun j hj => ?_, fun j hj => ?_, fun j hj hj' => ?_, fun j hj => ?_, fun j j' hj hj' => ?_, ?_⟩
  · by_cases e : j = i
    · subst e
      rw [if_pos rfl, if_pos rfl, Array.getElem?_setIfInBounds, if_pos rfl, if_pos (by rw [h.sz]; exact hi)]
    · rw [if_neg e, if_neg e, Array.getElem?_setIfInBounds, if_neg (fun h => e h.symm)]
      exact h.at_ j (by omega)
  · by_cases e : j = i
    · subst e
      rw [if_pos rfl, if_pos rfl]
      exact h4.ob.chg hs fun q hq e => hgbg (by rw [hg] at hq; injection hq with hq; exact hq.trans e)
    · rw [if_neg e, if_neg e]
      have hj' : j < i := by omega
      refine ((h.gs j hj').chg h4.chg fun q hq e => ?_).chg hs fun q hq e => ?_
      · rw [(hGlt j hj').2] at hq; injection hq with hq; subst hq; exact hUG j hj' e
      · rw [(hGlt j hj').2] at hq; injection hq with hq; exact hGbg j hj' (hq.trans e)
  · by_cases e : j = i
    · subst e
      exact h4.rg.chg hs fun q hq => ⟨by have := hlt j hi q (hrd j hi q hq); omega, fun e => (hlt j hi q (hrd j hi q hq)).2 e⟩
    · have hj' : j < i := by omega
      have hjn : j < n := by omega
      refine ((h.us j hj').chg h4.chg fun q hq => ?_).chg hs fun q hq => ?_
      · have hq' := hrd j hjn q hq
        have := hlt j hjn q hq'
        exact ⟨by omega, fun e => hdis j i q hjn hi (by omega) hq' e⟩
      · have hq' := hrd j hjn q hq
        have := hlt j hjn q hq'
        exact ⟨by omega, fun e => this.2 e⟩
  · refine ((h.todo j (by omega) hj').chg h4.chg fun q hq e => ?_).chg hs fun q hq e => (hlt j hj' q hq).2 e
    exact hdis j i q hj' hi (by omega) hq e
  · by_cases e : j = i
    · subst e
      rw [if_pos rfl]
      rcases hbl with e' | ⟨q, e', hq⟩
      · exact .inl e'.symm
      · injection e' with e'; exact .inr (by omega)
    · rw [if_neg e]
      exact h.bl j (by omega)
  · by_cases e' : j' = i
    · rw [if_pos e', if_neg (by omega)]
      exact hGg j (by omega)
    · rw [if_neg e', if_neg (by omega)]
      exact h.dis j j' hj (by omega)
  · refine ((h.chg.then h4.chg fun q hq e => .inr ⟨i, hi, e⟩)).then hs fun q hq e => .inl e

set_option maxRecDepth 100000 in
set_option maxHeartbeats 4000000 in
theorem apart_chg (w : World) (B n gl cl : Nat) (U : Nat → Value) (N : Nat → Nat) (hn : n ≤ 1000) (hB : B ≤ w.heap.size)
    (hl : ∀ j, j < n → w.cell? ⟨gl, j, none⟩ = some (U j)) (hgl : gl < w.heap.size)
    (hob : ∀ j, j < n → ∃ xs, Ob w B 5 (U j) (N j) xs) (hN : ∀ j, j < n → N j ≤ 140737488351232)
    (hdis : ∀ j j' q, j < n → j' < n → j ≠ j' → obk (U j) = some q → obk (U j') ≠ some q)
    (hng : ∀ j, j < n → obk (U j) ≠ some gl) :
    Calls Tryd.prog 15 #[.slice (some ⟨gl, 0, none⟩) n cl] w fun e w' => e = .returned (.bool true) ∧ Below B w w' ∧ Chg (fun k => ∃ j, j < n ∧ obk (U j) = some k) w w' := by
  have HL := Lib.hid hl
  have HOb := Lib.hid hob
  have HN := Lib.hid hN
  have HD := Lib.hid hdis
  have HG := Lib.hid hng
  clear hl hob hN hdis hng
  go_enter Tryd.func15, Tryd.ntmps15
  go_wp2_with (refine wpList_make_lists rfl _ _ rfl _ rfl rfl n rfl (by omega) ?_)
  intro w1 cur0 hi0 hs0 hc0
  obtain ⟨bg, hbg⟩ : ∃ bg, w.heap.size = bg := ⟨_, rfl⟩
  rw [hbg] at hi0 hgl ⊢
  have HI0 := Lib.hid hi0
  have HS0 := Lib.hid hs0
  have HC0 := Lib.hid hc0
  have HBg : Hid (w.heap.size = bg ∧ gl < bg ∧ bg < w1.heap.size) := ⟨hbg, hgl, hi0.lt⟩
  have HA1 : Hid (Ap1 w1 B n U N 0 w1) := ⟨fun j hj => by
    obtain ⟨xs, h⟩ := HOb.out j hj
    exact ⟨xs, h.chg hc0 (fun _ _ f => f), fun h => by omega⟩, Chg.refl _ _⟩
  have HUlt : Hid (∀ j, j < n → ∀ q, obk (U j) = some q → B ≤ q ∧ q < bg ∧ q ≠ gl) := fun j hj q hq => by
    obtain ⟨xs, h⟩ := HOb.out j hj
    have := h.block q hq
    exact ⟨this.1, by omega, fun e => HG.out j hj (by rw [← e]; exact hq)⟩
  have HL1 : Hid (∀ wr, Chg (fun k => k = bg ∨ ∃ j, j < n ∧ obk (U j) = some k) w1 wr → ∀ j, j < n → wr.cell? ⟨gl, j, none⟩ = some (U j)) := fun wr hc j hj => by
    refine (hc.cell (p := ⟨gl, j, none⟩) (by have := hc0.size; show gl < _; omega) (fun h => ?_)).trans ((hc0.cell (p := ⟨gl, j, none⟩) (by show gl < _; omega) (fun f => f)).trans (HL.out j hj))
    rcases h with h | ⟨j', hj', h⟩
    · have : gl = bg := h
      omega
    · exact HG.out j' hj' h
  clear hi0 hs0 hc0 hgl hbg HOb HG HL
  go_wp2
  go_loopw [4] (fun x4 wr => ∃ i : Nat, x4 = .int .i64 (i : Int) ∧ i ≤ n ∧ Ap1 w1 B n U N i wr) (fun x4 _ => n - (intOf x4).toNat)
  case atStart => exact ⟨0, rfl, Nat.zero_le _, HA1.out⟩
  case round =>
    obtain ⟨i, rfl, hi, hA⟩ := hrel
    obtain ⟨wo, rfl⟩ : ∃ wo, wo = wr := ⟨wr, rfl⟩
    have HA := Lib.hid hA
    clear hA
    by_cases hlt : i < n
    · obtain ⟨xs, hox, _⟩ := HA.out.ob i hlt
      obtain ⟨Au, cu, hU, hNc, _⟩ := hox.slice
      obtain ⟨m, hm⟩ : ∃ m, N i = m := ⟨_, rfl⟩
      have hm47 := HN.out i hlt
      have hcl : wo.cell? ⟨gl, i, none⟩ = some (U i) := HL1.out wo (HA.out.chg.more fun _ _ h => .inr h) i hlt
      have hne : obk (U i) ≠ some gl := fun e => (HUlt.out i hlt gl e).2.2 rfl
      have hxl := hox.len
      rw [hU] at hox hcl hne
      rw [hm] at hox hcl hm47 hNc hne hxl
      have HU : Hid (U i = .slice Au m cu ∧ N i = m) := ⟨by rw [hU, hm], hm⟩
      have HO := Lib.hid hox
      have HXl := Lib.hid hxl
      have hgw : gl < wo.heap.size := by have := HA.out.chg.size; have := HBg.out; omega
      clear hox hU hm hxl
      go_wp2
      go_loopw [5] (fun x5 W => ∃ k : Nat, x5 = .int .i64 (k : Int) ∧ k ≤ m ∧ Ob W B 5 (.slice Au m cu) m (apL i k ++ xs.drop k) ∧ Chg (fun q => obk (.slice Au m cu) = some q) wo W) (fun x5 _ => m - (intOf x5).toNat)
      case atStart => exact ⟨0, rfl, Nat.zero_le _, by simpa [apL] using HO.out, Chg.refl _ _⟩
      case round =>
        obtain ⟨k, rfl, hk, hO, hC⟩ := hrel
        have HO2 := Lib.hid hO
        have HC2 := Lib.hid hC
        have hcl2 : wr.cell? ⟨gl, i, none⟩ = some (.slice Au m cu) := (hC.cell (p := ⟨gl, i, none⟩) hgw hne).trans hcl
        clear hO hC
        by_cases hlt2 : k < m
        · obtain ⟨g, rfl⟩ := HO2.out.addr (by omega)
          obtain ⟨u, hu⟩ : ∃ u, (apL i k ++ xs.drop k)[k]? = some u := ⟨_, List.getElem?_eq_getElem (by rw [List.length_append, apL_len, List.length_drop, HXl.out]; omega)⟩
          have hcc : wr.cell? ⟨g, k, none⟩ = some u := (HO2.out.cellAt k hlt2).trans hu
          have hfr : wr.frozen? ⟨g, k, none⟩ = false := HO2.out.frozenAt (by omega) k
          clear hu
          go_wp2
          go_roundw
          case rel =>
            refine ⟨k + 1, by go_num, by omega, ?_, HC2.out.setCell (fun _ => by simp [obk]; omega) _⟩
            have h := HO2.out.set (by omega) k (apv (7 * i + k))
            rw [set_mid (apL_len _ _) (by rw [HXl.out]; exact hlt2), ← apL_succ] at h
            rw [apv7]
            exact h
          case measure => simp [intOf]; omega
        · go_wp2
          go_roundw
          case rel =>
            have hkm : k = m := by omega
            have hU : U i = .slice Au m cu := HU.out.1
            have hfin : Ob wr B 5 (.slice Au m cu) m (apL i m) := by
              have h := HO2.out
              rw [hkm, List.drop_eq_nil_of_le (by rw [HXl.out]; exact Nat.le_refl _), List.append_nil] at h
              exact h
            have hd : ∀ j, j < n → j ≠ i → ∀ q, obk (U j) = some q → ¬ obk (.slice Au m cu) = some q := fun j hj hji q hq e => HD.out i j q hlt hj (by omega) (by rw [hU]; exact e) hq
            refine ⟨i + 1, by go_num, by omega, fun j hj => ?_, HA.out.chg.then HC2.out fun q _ e => ⟨i, hlt, by rw [hU]; exact e⟩⟩
            by_cases hji : j = i
            · subst hji
              exact ⟨_, by rw [hU, HU.out.2]; exact hfin, fun _ => by rw [HU.out.2]⟩
            · obtain ⟨ys, h1, h2⟩ := HA.out.ob j hj
              exact ⟨ys, h1.chg HC2.out (hd j hj hji), fun h => h2 (by omega)⟩
          case measure => simp [intOf]; omega
    · have hin : i = n := by omega
      subst hin
      have HT : Hid (∀ j, j < i → Ob wo B 5 (U j) (N j) (apL j (N j))) := fun j hj => by
        obtain ⟨ys, h1, h2⟩ := HA.out.ob j hj
        rw [h2 hj] at h1
        exact h1
      obtain ⟨hiw, hiz⟩ : wo.heap.size = wo.heap.size ∧ w1.heap.size ≤ wo.heap.size := ⟨rfl, HA.out.chg.size⟩
      have HI1 : Hid (Is wo bg 23 cur0) := HI0.out.chg HA.out.chg fun ⟨j, hj, e⟩ => by have := (HUlt.out j hj bg e).2.1; omega
      have HA3 : Hid (Ap3 wo B i bg U N 0 wo cur0 (fun _ => 0) (fun _ => 0)) := ⟨HI1.out, HS0.out, fun j hj => by omega, fun j hj => by omega, fun j hj => by omega, fun j _ hj => HT.out j hj, fun j hj => by omega, fun j j' _ hj => by omega, Chg.refl _ _⟩
      have HRd : Hid (∀ j, j < i → ∀ q, rdk (U j) = some q → obk (U j) = some q) := fun j hj => (HT.out j hj).rdk
      have HUl2 : Hid (∀ j, j < i → ∀ q, obk (U j) = some q → q < wo.heap.size ∧ q ≠ bg) := fun j hj q hq => by have := HUlt.out j hj q hq; have := HBg.out; omega
      have HL2 : Hid (∀ wr, Chg (fun k => k = bg ∨ ∃ j, j < i ∧ obk (U j) = some k) wo wr → ∀ j, j < i → wr.cell? ⟨gl, j, none⟩ = some (U j)) := fun wr hc j hj => HL1.out wr ((HA.out.chg.more fun _ _ h => .inr h).trans hc) j hj
      have HCl : Hid (Chg (fun k => k = bg ∨ ∃ j, j < i ∧ obk (U j) = some k) w1 wo) := HA.out.chg.more fun _ _ h => .inr h
      clear HA HT HI1 HA1 HL1 hiw
      go_wp2
      go_loopw [6] (fun x6 wr => ∃ (t : Nat) (cur : Array Value) (Gb Gc : Nat → Nat), x6 = .int .i64 (t : Int) ∧ t ≤ i ∧ Ap3 wo B i bg U N t wr cur Gb Gc) (fun x6 _ => i - (intOf x6).toNat)
      case atStart => exact ⟨0, cur0, _, _, rfl, Nat.zero_le _, HA3.out⟩
      case round =>
        obtain ⟨t, cur, Gb, Gc, rfl, ht, hA⟩ := hrel
        obtain ⟨wt, rfl⟩ : ∃ wt, wt = wr := ⟨wr, rfl⟩
        have HA := Lib.hid hA
        clear hA
        by_cases hlt : t < i
        · have hox := HA.out.todo t (Nat.le_refl _) hlt
          obtain ⟨Au, cu, hU, hNc, _⟩ := hox.slice
          have HU : Hid (U t = .slice Au (N t) cu) := hU
          have hcl : wt.cell? ⟨gl, t, none⟩ = some (U t) := HL2.out wt HA.out.chg t hlt
          have hm47 := HN.out t hlt
          rw [hU] at hcl
          have H40 : Hid (Ap4 wt B (U t) (N t) t 0 wt (.slice Au (N t) cu)) := ⟨by rw [← hU]; simpa [apM] using hox, hox.rg, .inl (by rw [hU]), Chg.refl _ _⟩
          clear hox hU
          go_wp2
          go_loopw [7, 8] (fun x7 x8 wr => ∃ (k : Nat) (v7 : Value), x8 = .int .i64 (k : Int) ∧ v7 = x7 ∧ k ≤ 40 ∧ Ap4 wt B (U t) (N t) t k wr v7) (fun _ x8 _ => 40 - (intOf x8).toNat)
          case atStart => exact ⟨0, _, rfl, rfl, Nat.zero_le _, H40.out⟩
          case round =>
            obtain ⟨k, v7, rfl, rfl, hk, hP⟩ := hrel
            have HP := Lib.hid hP
            clear hP
            by_cases hlt2 : k < 40
            · have hPa : Ob (wr.alloc (.cells #[.int .u8 ((11 * (t : Int) + (k : Int) + 3) % 256)] 5)) B 5 v7 (N t + k) (apL t (N t) ++ apM t k) := HP.out.ob.chg ((Chg.refl none_ wr).alloc _) fun _ _ f => f
              have HPa := Lib.hid hPa
              have hrd : Rd (wr.alloc (.cells #[.int .u8 ((11 * (t : Int) + (k : Int) + 3) % 256)] 5)) (some ⟨wr.heap.size, 0, none⟩) 1 fun i => .int .u8 (([(11 * (t : Int) + (k : Int) + 3) % 256] : List Int).getD i 0) := Is.rdI [(11 * (t : Int) + (k : Int) + 3) % 256] (Is.new wr 5 _)
              have HRd2 := Lib.hid hrd
              obtain ⟨nk, hnk⟩ : ∃ nk, N t + k = nk := ⟨_, rfl⟩
              have HNk := Lib.hid hnk
              have hnk47 : nk + 1 ≤ 140737488355328 := by omega
              have hbase : B ≤ (wr.alloc (.cells #[.int .u8 ((11 * (t : Int) + (k : Int) + 3) % 256)] 5)).heap.size := by
                have h1 := HP.out.chg.size; have h2 := HA.out.chg.size; have h3 := HC0.out.size
                simp
                omega
              rw [hnk] at hPa
              clear hrd hnk
              go_wp2_with (at_builtin; refine wpList_append_bytes2 rfl (.tmp 55) (.tmp 62) rfl rfl hPa (some ⟨wr.heap.size, 0, none⟩) 1 1 [(11 * (t : Int) + (k : Int) + 3) % 256] rfl rfl HRd2.out hnk47 hbase ?_)
              intro v' w' k1 k2 k3
              have HK : Hid (Ap4 wt B (U t) (N t) t (k + 1) w' v') := HP.out.step (fun q hq => by have := HUl2.out t hlt q hq; have := HA.out.chg.size; omega) (HRd.out t hlt) ((Chg.refl none_ wr).alloc _) (by rw [← apv11, HNk.out, List.append_assoc]; exact k1) k2 (by simpa using k3)
              clear k1 k2 k3
              go_wp2
              go_roundw
              case rel => exact ⟨k + 1, _, by go_num, rfl, by omega, HK.out⟩
              case measure => simp [intOf]; omega
            · have hk40 : k = 40 := by omega
              subst hk40
              obtain ⟨A7, c7, rfl, _, _⟩ := HP.out.ob.slice
              obtain ⟨g7, rfl⟩ := HP.out.ob.addr (by omega)
              have HS3 := Lib.hid (HA.out.step hlt HUl2.out (by have := HBg.out; omega) HRd.out HD.out HP.out)
              have him : Is wr bg 23 cur := HA.out.im.chg HP.out.chg fun e => (HUl2.out t hlt bg e).2 rfl
              obtain ⟨oc, hoc⟩ : ∃ u, cur[t]? = some u := ⟨_, Array.getElem?_eq_getElem (by rw [HA.out.sz]; exact hlt)⟩
              have hbc : wr.cell? ⟨bg, t, none⟩ = some oc := him.at_ t _ hoc
              have hbf : wr.frozen? ⟨bg, t, none⟩ = false := him.frozen t
              clear him hoc
              go_wp2
              go_roundw
              case rel => exact ⟨t + 1, _, _, _, by go_num, by omega, HS3.out⟩
              case measure => simp [intOf]; omega
        · have hti : t = i := by omega
          subst hti
          have HLk : Hid ((∀ j, j < t → wt.cell? ⟨gl, j, none⟩ = some (U j)) ∧ (∀ j, j < t → wt.cell? ⟨bg, j, none⟩ = some (.slice (some ⟨Gb j, 0, none⟩) (N j + 40) (Gc j))) ∧ (∀ j, j < t → ∀ k, k < 40 → wt.cell? ⟨Gb j, N j + k, none⟩ = some (.int .u8 ((11 * (j : Int) + (k : Int) + 3) % 256))) ∧ (∀ j, j < t → ∃ A c, U j = .slice A (N j) c ∧ (0 < N j → ∃ g, A = some ⟨g, 0, none⟩ ∧ ∀ k, k < N j → wt.cell? ⟨g, k, none⟩ = some (.int .u8 ((7 * (j : Int) + (k : Int)) % 256))))) := by
            refine ⟨HL2.out wt HA.out.chg, fun j hj => HA.out.im.at_ j _ (HA.out.at_ j hj), fun j hj k hk => ?_, fun j hj => ?_⟩
            · rw [(HA.out.gs j hj).cellAt (N j + k) (by omega), List.getElem?_append_right (by rw [apL_len]; omega), apL_len, Nat.add_sub_cancel_left, apM_get _ hk, apv11]
            · have h0 := HA3.out.todo j (Nat.zero_le _) hj
              obtain ⟨A, c, hU, _, _⟩ := h0.slice
              refine ⟨A, c, hU, fun hp => ?_⟩
              rw [hU] at h0
              obtain ⟨g, rfl⟩ := h0.addr hp
              refine ⟨g, rfl, fun k hk => ?_⟩
              rw [HA.out.us j hj g c hU k hk, apL_get _ hk, apv7]
          have HEnd : Hid (Below B w wt ∧ Chg (fun k => ∃ j, j < t ∧ obk (U j) = some k) w wt) := by
            refine ⟨((HC0.out.old (Nat.le_refl _)).mono hB).trans ((HCl.out.trans HA.out.chg).below (fun q _ h => by
            rcases h with h | ⟨j, hj, h⟩
            · have := HBg.out; omega
            · exact (HUlt.out j hj q h).1) (by have := HC0.out.size; omega)), ?_⟩
            refine (HC0.out.more fun k _ f => f.elim).then (HCl.out.trans HA.out.chg) fun q hq h => ?_
            rcases h with h | h
            · have := HBg.out; omega
            · exact h
          clear HA HA3 HCl HL2 HUl2 HRd
          go_wp2
          go_loopw [9] (fun x9 wr => ∃ j : Nat, x9 = .int .i64 (j : Int) ∧ j ≤ t ∧ ∃ q, wt.drewN q = wr) (fun x9 _ => t - (intOf x9).toNat)
          case atStart => exact ⟨0, rfl, Nat.zero_le _, 0, rfl⟩
          case round =>
            obtain ⟨j, rfl, hj, q, rfl⟩ := hrel
            by_cases hjt : j < t
            · have hm47 := HN.out j hjt
              have hcl : ∀ Q, (wt.drewN Q).cell? ⟨gl, j, none⟩ = some (U j) := fun Q => HLk.out.1 j hjt
              obtain ⟨Au, cu, hU, hUc⟩ := HLk.out.2.2.2 j hjt
              have hb : ∀ Q, (wt.drewN Q).cell? ⟨bg, j, none⟩ = some (.slice (some ⟨Gb j, 0, none⟩) (N j + 40) (Gc j)) := fun Q => HLk.out.2.1 j hjt
              have hM := HLk.out.2.2.1 j hjt
              rw [hU] at hcl
              obtain ⟨m, hm⟩ : ∃ m, N j = m := ⟨_, rfl⟩
              obtain ⟨m40, hm40⟩ : ∃ m40, m + 40 = m40 := ⟨_, rfl⟩
              rw [hm] at hcl hUc hb hM hm47
              rw [hm40] at hb
              have HM := Lib.hid hM
              have HU := Lib.hid hUc
              clear hU hm hM hUc
              go_wp2
              go_loopw [10] (fun x10 wr => ∃ k : Nat, x10 = .int .i64 (k : Int) ∧ k ≤ m ∧ ∃ q, wt.drewN q = wr) (fun x10 _ => m - (intOf x10).toNat)
              case atStart => exact ⟨0, rfl, Nat.zero_le _, _, rfl⟩
              case round =>
                obtain ⟨k, rfl, hk, q2, rfl⟩ := hrel
                by_cases hkm : k < m
                · obtain ⟨g, rfl, hg⟩ := HU.out (by omega)
                  have hc : ∀ Q, (wt.drewN Q).cell? ⟨g, k, none⟩ = some (.int .u8 ((7 * (j : Int) + (k : Int)) % 256)) := fun Q => hg k hkm
                  clear hg
                  go_wp2
                  go_roundw
                  case rel => exact ⟨k + 1, by go_num, by omega, _, rfl⟩
                  case measure => simp [intOf]; omega
                · go_wp2
                  go_loopw [11] (fun x11 wr => ∃ k : Nat, x11 = .int .i64 (k : Int) ∧ k ≤ 40 ∧ ∃ q, wt.drewN q = wr) (fun x11 _ => 40 - (intOf x11).toNat)
                  case atStart => exact ⟨0, rfl, Nat.zero_le _, _, rfl⟩
                  case round =>
                    obtain ⟨k3, rfl, hk3, q3, rfl⟩ := hrel
                    by_cases hk40 : k3 < 40
                    · obtain ⟨nk, hnk⟩ : ∃ nk, m + k3 = nk := ⟨_, rfl⟩
                      have hc : ∀ Q, (wt.drewN Q).cell? ⟨Gb j, nk, none⟩ = some (.int .u8 ((11 * (j : Int) + (k3 : Int) + 3) % 256)) := fun Q => by rw [← hnk]; exact HM.out k3 hk40
                      have hnkI : (m : Int) + (k3 : Int) = (nk : Int) := by omega
                      have hnkw : IntKind.i64.wrap (nk : Int) = (nk : Int) := IntWalk.i64_in _ (by omega)
                      have hnk0 : (0 : Int) ≤ (nk : Int) := by omega
                      have hnkl : (nk : Int) < (m40 : Int) := by omega
                      clear hnk
                      go_wp2_with fail
                      go_quiet (fail)
                      go_wp2
                      go_roundw
                      case rel => exact ⟨k3 + 1, by go_num, by omega, _, rfl⟩
                      case measure => simp [intOf]; omega
                    · go_wp2
                      go_roundw
                      case rel => exact ⟨j + 1, by go_num, by omega, _, rfl⟩
                      case measure => simp [intOf]; omega
            · go_wp2
              go_ret
              exact ⟨rfl, below_drewN HEnd.out.1 _, HEnd.out.2.drewN _⟩
theorem apart_any (w : World) (B n gl cl : Nat) (U : Nat → Value) (N : Nat → Nat) (hn : n ≤ 1000) (hB : B ≤ w.heap.size)
    (hl : ∀ j, j < n → w.cell? ⟨gl, j, none⟩ = some (U j)) (hgl : gl < w.heap.size)
    (hob : ∀ j, j < n → ∃ xs, Ob w B 5 (U j) (N j) xs) (hN : ∀ j, j < n → N j ≤ 140737488351232)
    (hdis : ∀ j j' q, j < n → j' < n → j ≠ j' → obk (U j) = some q → obk (U j') ≠ some q)
    (hng : ∀ j, j < n → obk (U j) ≠ some gl) :
    Calls Tryd.prog 15 #[.slice (some ⟨gl, 0, none⟩) n cl] w fun e w' => e = .returned (.bool true) ∧ Below B w w' :=
  (apart_chg w B n gl cl U N hn hB hl hgl hob hN hdis hng).mono fun _ _ h => ⟨h.1, h.2.1⟩
end Go.Proofs.YthalmjjbamglgaaDoor
