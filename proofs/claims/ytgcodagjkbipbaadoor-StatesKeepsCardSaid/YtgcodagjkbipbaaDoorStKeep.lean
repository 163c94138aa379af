/-
  The walk of culvertlaw09.StatesKeeps.
  No condition of its own: the facts 'Sen' and 'Tab' on the world; the arguments read as lists.
-/
import Derived.Test.YtgcodagjkbipbaaDoorStPlay
import Derived.Lib.Hide
import Derived.Deep.QuietTactic
import Derived.BigQuiet
namespace Go.Proofs.YtgcodagjkbipbaaDoor
open Go.RowKit

/-- A block of the call's own that holds n events. -/
def Fl (w : World) (ad : Addr) (n : Nat) (f : Nat → Int) : Prop := ∃ g cur, ad = ⟨g, 0, none⟩ ∧ Is w g 26 cur ∧ ∀ i, i < n → cur[i]? = some (.int .i64 (f i))
theorem addK (g k : Nat) : (⟨g, 0, none⟩ : Addr).add k = ⟨g, k, none⟩ := by
  unfold Addr.add
  split
  · rename_i h; subst h; rfl
  · simp
theorem add_succ (a : Addr) (k : Nat) : a.add (k + 1) = ⟨a.block, a.off + (k + 1), none⟩ := by
  show (if k + 1 = 0 then _ else _) = _
  rw [if_neg (by omega)]
theorem Fl.cell {w : World} {ad : Addr} {n i : Nat} {f : Nat → Int} (h : Fl w ad n f) (hi : i < n) : w.cell? (ad.add i) = some (.int .i64 (f i)) := by
  obtain ⟨g, cur, rfl, hI, hc⟩ := h
  rw [addK]
  exact hI.at_ _ _ (hc i hi)
theorem Fl.froz {w : World} {ad : Addr} {n : Nat} {f : Nat → Int} (h : Fl w ad n f) (i : Nat) : w.frozen? (ad.add i) = false := by
  obtain ⟨g, cur, rfl, hI, hc⟩ := h
  rw [addK]
  exact hI.frozen _
theorem Fl.chg {w w' : World} {ad : Addr} {n : Nat} {f : Nat → Int} (h : Fl w ad n f) (hc : Chg none_ w w') : Fl w' ad n f := by
  obtain ⟨g, cur, e, hi, hcc⟩ := h
  exact ⟨g, cur, e, hi.chg hc (fun f => f), hcc⟩
theorem Fl.grown {w w' : World} {row : Option Nat} {ad : Addr} {n : Nat} {f : Nat → Int} (h : Fl w ad n f) (hg : w.grownBy w' row) (hr : row ≠ some ad.block) : Fl w' ad n f := by
  obtain ⟨g, cur, rfl, hI, hc⟩ := h
  exact ⟨g, cur, rfl, (hg.block g hI.lt (fun e => hr (e ▸ rfl))).trans hI, hc⟩
theorem Fl.put {w : World} {ad : Addr} {n k : Nat} {f : Nat → Int} (h : Fl w ad n f) (v : Int) : Fl (w.setCell (ad.add k) (.int .i64 v)) ad n (fun i => if i = k then v else f i) := by
  obtain ⟨g, cur, rfl, hI, hc⟩ := h
  rw [addK]
  refine ⟨g, _, rfl, hI.put k _, fun i hi => ?_⟩
  rw [Array.getElem?_setIfInBounds]
  have h1 := hc i hi
  have h2 : i < cur.size := (Array.getElem?_eq_some_iff.1 h1).1
  by_cases e : i = k
  · subst e
    rw [if_pos rfl, if_pos h2]
    simp
  · rw [if_neg (fun h => e h.symm), h1]
    simp [e]
theorem Fl.congr {w : World} {ad : Addr} {n : Nat} {f g : Nat → Int} (h : Fl w ad n f) (e : ∀ i, i < n → f i = g i) : Fl w ad n g := by
  obtain ⟨b, cur, ha, hI, hc⟩ := h
  exact ⟨b, cur, ha, hI, fun i hi => by rw [← e i hi]; exact hc i hi⟩
theorem Fl.rd {w : World} {ad : Addr} {n k : Nat} {f : Nat → Int} (h : Fl w ad n f) (hk : k ≤ n) (zs : List Int) (e : ∀ i, i < k → f i = zs.getD i 0) : Rd w (some ad) k (fun i => .int .i64 (zs.getD i 0)) := fun _ =>
  ⟨ad, rfl, fun i hi => by show _ = some (Value.int .i64 (zs.getD i 0)); rw [← e i hi]; exact h.cell (by omega)⟩
theorem Fl.low {w : World} {ad : Addr} {n : Nat} {f : Nat → Int} (h : Fl w ad n f) : ad.block < w.heap.size := by
  obtain ⟨g, cur, rfl, hI, _⟩ := h
  exact hI.lt
/-- A row of ints is no block of events. -/
theorem ints_ne {w : World} {base : Nat} {v : Value} {t : Nat} {xs : List Value} {ad : Addr} {n : Nat} {f : Nat → Int} (h : w.ownsRow base 3 1 v t xs) (ha : Fl w ad n f) : v.ownBlock ≠ some ad.block := fun e => by
  obtain ⟨g, cur, rfl, hI, hc⟩ := ha
  rcases h.2 with ⟨hv, _⟩ | ⟨g', cap, cur', hv, _, hg, _⟩
  · rw [hv] at e
    cases e
  · rw [hv] at e
    injection e with e
    simp only at e
    subst e
    have hI' : w.heap[g']? = some (.cells cur 26 (0, 0)) := hI
    rw [hg] at hI'
    injection hI' with hI'
    injection hI' with _ h2
    revert h2
    decide
theorem two_new (w : World) (x y : Value) (t : TypeId) : ∀ j u, [x, y][j]? = some u → (w.alloc (.cells #[x, y] t)).cell? ((⟨w.heap.size, 0, none⟩ : Addr).add j) = some u := fun j u h => by
  rw [addK, (Is.new w t #[x, y]).cell]
  match j, h with
  | 0, h => exact h
  | 1, h => exact h
theorem one_new (w : World) (x : Value) (t : TypeId) (g : Nat) (hg : g = w.heap.size) : ∀ j u, [x][j]? = some u → (w.alloc (.cells #[x] t)).cell? ((⟨g, 0, none⟩ : Addr).add j) = some u := by
  subst hg
  exact cell_one_new w x t
theorem Dr.chg0 {S : Nat → Prop} {w w' : World} (h : Dr w w') : Chg S w w' := by
  obtain ⟨n, rfl⟩ := h
  exact (Chg.refl S w).drewN n
theorem Tryd.infoIt : (Tryd.prog.info? 3).map (fun i => (i.zero, i.size, i.bytes)) = some (some (.int .i64 0), 1, 8) := by kernel_rfl

/-- The list written over by another. -/
def overL (zs os : List Int) : List Int := (List.range zs.length).map fun i => if i < os.length then os.getD i 0 else zs.getD i 0
theorem overL_len (zs os : List Int) : (overL zs os).length = zs.length := by simp [overL]
theorem overL_get {zs os : List Int} {i : Nat} (h : i < zs.length) : (overL zs os).getD i 0 = if i < os.length then os.getD i 0 else zs.getD i 0 := by
  rw [List.getD_eq_getElem?_getD]
  simp only [overL, List.getElem?_map, List.getElem?_range h, Option.map_some, Option.getD_some]

set_option maxRecDepth 100000 in
set_option maxHeartbeats 8000000 in
theorem keeps_walk {a : Nat → Addr} (w : World) (hs : Sen w.heap.size a w) (ht : Tab w.heap.size w) (A A' : Option Addr) (n c n' c' : Nat) (zs os : List Int) (hz : zs.length = n) (ho : os.length = n') (hm : n * 8 ≤ 140737488351232) (hr : Rd w A n fun i => .int .i64 (zs.getD i 0)) (hr' : Rd w A' n' fun i => .int .i64 (os.getD i 0)) :
    Calls Tryd.prog 3 #[.slice A n c, .slice A' n' c'] w fun e w' => e = .returned (.bool true) ∧ Below w.heap.size w w' := by
  have hB : w.heap.size ≤ w.heap.size := Nat.le_refl _
  have HS := Lib.hid hs
  have HT := Lib.hid ht
  have HR := Lib.hid hr
  have HR' := Lib.hid hr'
  have HZ := Lib.hid hz
  have HO := Lib.hid ho
  have hn : n ≤ 17592186044416 := by omega
  clear hs ht hr hr' hz ho
  go_enter Tryd.func3, Tryd.ntmps3
  go_wp2_with fail
  refine (wakes_any w HS.out HT.out hB).mono ?_
  rintro e w1 ⟨rfl, b1⟩
  have HB1 := Lib.hid b1
  have hsz := b1.size
  clear b1
  go_wp2_with fail
  refine (events_any w1 A n c zs HZ.out hn (HR.out.keep HB1.out)).mono ?_
  rintro e w2 ⟨v, rfl, hown, b2⟩
  have HS1 : Hid (w.heap.size ≤ w1.heap.size) := hsz
  have HC2 : Hid (Chg none_ w w2) := (Chg.of_below (HB1.out.trans (b2.mono hsz))).more (fun k hk h => h)
  have HB2 : Hid (w1.heap.size ≤ w2.heap.size) := b2.size
  clear b2 HB1
  obtain ⟨i0, hi, hz0, hz1, hz2⟩ := info_parts Tryd.infoEv
  have HI := Lib.hid (And.intro hi (And.intro hz0 (And.intro hz1 hz2)))
  clear hi hz0 hz1 hz2
  have h63 : n + 2 ≤ maxLen := by simp only [maxLen]; omega
  go_wp2_with (at_builtin; refine wpList_append_own _ rfl (.tmp 18) (.tmp 19) 24 rfl w1.heap.size 26 i0 (.int .i64 0) 1 8 Tryd.underlying24 HI.out.1 HI.out.2.1 HI.out.2.2.1 HI.out.2.2.2 rfl (by decide) v n _ rfl (hown.alloc _) ⟨w2.heap.size, 0, none⟩ 2 2 [.int .i64 77, .int .i64 78] rfl rfl (two_new _ _ _ _) ?c2 h63 ?c4 ?c5 ?_)
  case c2 => simp [Value.oneCell']
  case c4 => omega
  case c5 => simp; have := HB2.out; omega
  intro v3 w3 hown3 hg3 _
  have HC3 : Hid (Chg none_ w w3) := (HC2.out.alloc _).grown hg3 (fun g e h => by have := (hown.lt g e).1; omega)
  have hfl : ∃ ad cc, v3 = .slice (some ad) (n + 2) cc ∧ n + 2 ≤ cc ∧ w.heap.size ≤ ad.block ∧ Fl w3 ad (n + 2) (fun i => if i < n then zs.getD i 0 else if i = n then 77 else 78) := by
    have h0 := hown3
    rcases h0.2 with ⟨_, hn0⟩ | ⟨g, cap, cur, hv, hbg, hgg, hcap, _⟩
    · omega
    · subst hv
      refine ⟨⟨g, 0, none⟩, cap, rfl, hcap, by simp only; omega, g, cur, rfl, hgg, fun i hi => ?_⟩
      have hx : ((zs.map (Value.int .i64)) ++ [.int .i64 77, .int .i64 78])[i]? = some (.int .i64 (if i < n then zs.getD i 0 else if i = n then 77 else 78)) := by
        by_cases h1 : i < n
        · rw [List.getElem?_append_left (by rw [List.length_map, HZ.out]; exact h1), if_pos h1]
          exact ints_get (by rw [HZ.out]; exact h1)
        · rw [List.getElem?_append_right (by rw [List.length_map, HZ.out]; omega), if_neg h1, List.length_map, HZ.out]
          by_cases h2 : i = n
          · subst h2
            rw [Nat.sub_self, if_pos rfl]
            rfl
          · have h3 : i = n + 1 := by omega
            subst h3
            rw [show n + 1 - n = 1 by omega, if_neg (by omega)]
            rfl
      have h1 := hown3.cells (g := g) rfl i _ hx
      rw [addK, Is.cell hgg] at h1
      exact h1
  obtain ⟨ad, cc, rfl, hcc, hadb, hfl⟩ := hfl
  have HF := Lib.hid hfl
  have HAD := Lib.hid hadb
  clear hown hown3 hg3 hfl hadb h63 HC2 HS1
  have hnc : (n : Int) ≤ (cc : Int) := by omega
  go_wp2_with fail
  refine (play_any w3 (HS.out.below (HC3.out.old hB)) (HT.out.below (HC3.out.old hB)) (some ad) n cc zs HZ.out hn (HF.out.rd (by omega) zs (fun i h => if_pos h))).mono ?_
  rintro e w4 ⟨rfl, d4⟩
  have HC4 := Lib.hid (HC3.out.trans d4.chg0)
  have HF4 := Lib.hid (HF.out.chg d4.chg0)
  clear d4 HC3 HF
  go_wp2_with fail
  refine (play_any w4 (HS.out.below (HC4.out.old hB)) (HT.out.below (HC4.out.old hB)) (some ad) n cc zs HZ.out hn (HF4.out.rd (by omega) zs (fun i h => if_pos h))).mono ?_
  rintro e w5 ⟨rfl, d5⟩
  have HC5 := Lib.hid (HC4.out.trans d5.chg0)
  have HF5 := Lib.hid (HF4.out.chg d5.chg0)
  clear d5 HC4 HF4
  generalize play 0 zs 0 = pz
  go_wp2_with fail
  go_loopw [6] (fun xi wr => ∃ k : Nat, k ≤ n ∧ xi = .int .i64 k ∧ Chg none_ w5 wr) (fun xi _ => n - (intOf xi).toNat)
  case atStart => exact ⟨0, by omega, rfl, Chg.refl _ _⟩
  case round =>
    obtain ⟨k, hk, rfl, hg⟩ := hrel
    have HG := Lib.hid hg
    clear hg
    by_cases hkn : k < n
    · have hx : ∃ ad0, A = some ad0 ∧ wr.cell? (ad0.add k) = some (.int .i64 (zs.getD k 0)) := by
        obtain ⟨ad0, e, hc⟩ := HR.out.below ((HC5.out.trans HG.out).old hB) (fun ad hn e => HR.out.lt ad hn e) (show 0 < n by omega)
        exact ⟨ad0, e, hc k hkn⟩
      obtain ⟨ad0, rfl, x0⟩ := hx
      have y0 := (HF5.out.chg HG.out).cell (show k < n + 2 by omega)
      rw [if_pos hkn] at y0
      have hk2 : (k : Int) < (n : Int) + 2 := by omega
      generalize zs.getD k 0 = z at x0 y0
      go_wp2_with fail
      go_quiet (fail)
      go_wp2_with fail
      go_roundw
      case rel => exact ⟨k + 1, by omega, by go_num, HG.out.drewN _⟩
      case measure => simp [intOf]; omega
    · obtain rfl : n = k := by omega
      have y0 := (HF5.out.chg HG.out).cell (show n < n + 2 by omega)
      rw [if_neg (by omega), if_pos rfl] at y0
      have y1 := (HF5.out.chg HG.out).cell (show n + 1 < n + 2 by omega)
      rw [if_neg (by omega), if_neg (by omega), add_succ] at y1
      have hi1 : (n : Int) < (n : Int) + 2 := by omega
      have hi2 : (n : Int) + 1 < (n : Int) + 2 := by omega
      have hi3 : (0 : Int) ≤ (n : Int) + 1 := by omega
      have hi4 : IntKind.i64.wrap ((n : Int) + 1) = (n : Int) + 1 := IntWalk.i64_in _ (by omega)
      have hi5 : ((n : Int) + 1).toNat = n + 1 := by omega
      have HF6 := Lib.hid (HF5.out.chg HG.out)
      have HC6 := Lib.hid (HC5.out.trans HG.out)
      have HL := Lib.hid (overL_len zs os)
      have HGt : Hid (∀ i, i < n → (overL zs os).getD i 0 = if i < n' then os.getD i 0 else zs.getD i 0) := fun i h => by rw [overL_get (by rw [HZ.out]; exact h), HO.out]
      have HYL : Hid ((overL zs os).length = n) := by show _ = _; rw [HL.out, HZ.out]
      generalize overL zs os = ys at HGt HYL
      obtain ⟨ib, hi, hz0, hz1, hz2⟩ := info_parts Tryd.infoIt
      have HIB := Lib.hid (And.intro hi (And.intro hz0 (And.intro hz1 hz2)))
      clear hi hz0 hz1 hz2 HG HF5 HC5 HL
      go_wp2_with fail
      go_loopw [7, 8] (fun xv xi wr => ∃ (k : Nat) (Av : Option Addr) (cv : Nat), k ≤ n ∧ xi = .int .i64 k ∧ xv = .slice Av k cv ∧ wr.ownsRow w.heap.size 3 1 (.slice Av k cv) k ((ys.map (Value.int .i64)).take k) ∧ Fl wr ad (n + 2) (fun i => if i < k then ys.getD i 0 else if i < n then zs.getD i 0 else if i = n then 77 else 78) ∧ Chg none_ w wr) (fun _ xi _ => n - (intOf xi).toNat)
      case atStart => exact ⟨0, none, 0, by omega, rfl, rfl, World.ownsRow_nil _ _ _ _, HF6.out.congr (fun i h => by rw [if_neg (show ¬ i < 0 by omega)]), HC6.out⟩
      case round =>
        clear y0 y1 HF6 HC6
        obtain ⟨k, Av, cv, hk, rfl, rfl, hown, hF, hg⟩ := hrel
        have HOw := Lib.hid hown
        have HF := Lib.hid hF
        have HG := Lib.hid hg
        clear hown hF hg
        by_cases hkn : k < n
        · have HTK : Hid ((ys.map (Value.int .i64)).take (k + 1) = (ys.map (Value.int .i64)).take k ++ [.int .i64 (ys.getD k 0)]) := take_get (by rw [HYL.out]; exact hkn)
          have h63 : k + 1 ≤ maxLen := by simp only [maxLen]; omega
          have hk2 : (k : Int) < (n : Int) + 2 := by omega
          have HY := Lib.hid (HGt.out k hkn)
          by_cases hkn' : k < n'
          · have hkI : (k : Int) < (n' : Int) := by omega
            have hx : ∃ ad0, A' = some ad0 ∧ wr.cell? (ad0.add k) = some (.int .i64 (os.getD k 0)) := by
              obtain ⟨ad0, e, hc⟩ := HR'.out.below (HG.out.old hB) (fun ad hn e => HR'.out.lt ad hn e) (show 0 < n' by omega)
              exact ⟨ad0, e, hc k hkn'⟩
            obtain ⟨ad0, rfl, x0⟩ := hx
            have HY' : Hid (os.getD k 0 = ys.getD k 0) := by show _ = _; rw [HY.out, if_pos hkn']
            rw [HY'.out] at x0
            obtain ⟨y, hy⟩ : ∃ y, y = ys.getD k 0 := ⟨_, rfl⟩
            have HYE : Hid (y = ys.getD k 0) := hy
            rw [← hy] at x0 HTK
            clear hy
            have y0 := HF.out.cell (show k < n + 2 by omega)
            have fr := HF.out.froz k
            have HF9 : Hid (Fl (wr.setCell (ad.add k) (.int .i64 y)) ad (n + 2) (fun i => if i < k + 1 then ys.getD i 0 else if i < n then zs.getD i 0 else if i = n then 77 else 78)) := (HF.out.put y).congr fun i hi => by
              by_cases e : i = k
              · subst e
                rw [if_pos rfl, if_pos (show i < i + 1 by omega)]
                exact HYE.out
              · rw [if_neg e]
                by_cases h1 : i < k
                · rw [if_pos h1, if_pos (show i < k + 1 by omega)]
                · rw [if_neg h1, if_neg (show ¬ i < k + 1 by omega)]
            have HO9 : Hid ((wr.setCell (ad.add k) (.int .i64 y)).ownsRow w.heap.size 3 1 (.slice Av k cv) k ((ys.map (Value.int .i64)).take k)) := ownsRow_setCell_other HOw.out (by rw [block_add]; exact ints_ne HOw.out HF.out) _
            have HG9 : Hid (Chg none_ w (wr.setCell (ad.add k) (.int .i64 y))) := HG.out.setCell (fun h => by rw [block_add] at h; have := HAD.out; omega) _
            have HSZ9 : Hid (wr.heap.size = (wr.setCell (ad.add k) (.int .i64 y)).heap.size) := by show _ = _; simp [World.setCell]
            have y1 := HF9.out.cell (show k < n + 2 by omega)
            rw [if_pos (show k < k + 1 by omega), ← HYE.out] at y1
            clear HF HOw
            go_wp2_with (at_builtin; refine wpList_append_own _ rfl (.tmp 78) (.tmp 83) 22 rfl w.heap.size 3 ib (.int .i64 0) 1 8 Tryd.underlying22 HIB.out.1 HIB.out.2.1 HIB.out.2.2.1 HIB.out.2.2.2 rfl (by decide) (.slice Av k cv) k _ rfl (HO9.out.alloc _) ⟨wr.heap.size, 0, none⟩ 1 1 [.int .i64 y] rfl rfl ?c1 ?c2 h63 ?c4 ?c5 ?_)
            case c1 => exact one_new _ _ _ _ HSZ9.out
            case c2 => simp [Value.oneCell']
            case c4 => omega
            case c5 => first | exact (HG9.out.alloc _).size | exact Nat.le_succ_of_le HG9.out.size
            intro v9 w9 hown9 hg9 _
            obtain ⟨Av9, cv9, rfl⟩ := own_slice hown9
            have HF10 := (HF9.out.chg ((Chg.refl none_ _).alloc _)).grown hg9 (ints_ne HO9.out HF9.out)
            have HG10 : Chg none_ w w9 := (HG9.out.alloc _).grown hg9 (fun g e h => by have := (HO9.out.lt g e).1; omega)
            rw [← HTK.out] at hown9
            go_wp2_with fail
            go_roundw
            case rel => exact ⟨k + 1, Av9, cv9, by omega, by go_num, rfl, hown9, HF10, HG10⟩
            case measure => simp [intOf]; omega
          · have hkI : (n' : Int) ≤ (k : Int) := by omega
            have HF9 := Lib.hid (HF.out.congr (g := fun i => if i < k + 1 then ys.getD i 0 else if i < n then zs.getD i 0 else if i = n then 77 else 78) fun i hi => by
              by_cases e : i = k
              · subst e
                rw [if_neg (show ¬ i < i by omega), if_pos hkn, if_pos (show i < i + 1 by omega), HY.out, if_neg hkn']
              · by_cases h1 : i < k
                · rw [if_pos h1, if_pos (show i < k + 1 by omega)]
                · rw [if_neg h1, if_neg (show ¬ i < k + 1 by omega)])
            have HO9 := HOw
            have HG9 := HG
            have HSZ9 : Hid (wr.heap.size = wr.heap.size) := rfl
            have y1 := HF.out.cell (show k < n + 2 by omega)
            have HY' : Hid (zs.getD k 0 = ys.getD k 0) := by show _ = _; rw [HY.out, if_neg hkn']
            rw [if_neg (by omega), if_pos hkn, HY'.out] at y1
            generalize ys.getD k 0 = y at y1 HTK
            clear HF HOw HG
            go_wp2_with (at_builtin; refine wpList_append_own _ rfl (.tmp 78) (.tmp 83) 22 rfl w.heap.size 3 ib (.int .i64 0) 1 8 Tryd.underlying22 HIB.out.1 HIB.out.2.1 HIB.out.2.2.1 HIB.out.2.2.2 rfl (by decide) (.slice Av k cv) k _ rfl (HO9.out.alloc _) ⟨wr.heap.size, 0, none⟩ 1 1 [.int .i64 y] rfl rfl ?c1 ?c2 h63 ?c4 ?c5 ?_)
            try (case c1 => exact one_new _ _ _ _ HSZ9.out)
            case c2 => simp [Value.oneCell']
            case c4 => omega
            case c5 => first | exact (HG9.out.alloc _).size | exact Nat.le_succ_of_le HG9.out.size
            intro v9 w9 hown9 hg9 _
            obtain ⟨Av9, cv9, rfl⟩ := own_slice hown9
            have HF10 := (HF9.out.chg ((Chg.refl none_ _).alloc _)).grown hg9 (ints_ne HO9.out HF9.out)
            have HG10 : Chg none_ w w9 := (HG9.out.alloc _).grown hg9 (fun g e h => by have := (HO9.out.lt g e).1; omega)
            rw [← HTK.out] at hown9
            go_wp2_with fail
            go_roundw
            case rel => exact ⟨k + 1, Av9, cv9, by omega, by go_num, rfl, hown9, HF10, HG10⟩
            case measure => simp [intOf]; omega
        · obtain rfl : n = k := by omega
          have hF7 := HF.out.rd (k := n) (by omega) ys (fun i h => if_pos h)
          have HF7 := Lib.hid hF7
          clear hF7
          go_wp2_with fail
          refine (play_any wr (HS.out.below (HG.out.old hB)) (HT.out.below (HG.out.old hB)) (some ad) n cc ys HYL.out hn HF7.out).mono ?_
          rintro e w8 ⟨rfl, d8⟩
          have HC8 := Lib.hid (HG.out.trans d8.chg0)
          have hown8 := HOw.out
          rw [List.take_of_length_le (by rw [List.length_map, HYL.out]; omega)] at hown8
          have hrd : Rd w8 Av n (fun i => .int .i64 (ys.getD i 0)) := by
            obtain ⟨m8, rfl⟩ := d8
            exact (Rd.own hown8 fun i hi => ints_get (by rw [HYL.out]; exact hi)).drewN m8
          have HRD := Lib.hid hrd
          have HPL := Lib.hid (play_le ys 0 0)
          clear d8 hown8 hrd
          go_wp2_with fail
          refine (rplay_any w8 Av n cv ys HYL.out hn HRD.out).mono ?_
          rintro e w' ⟨rfl, rfl⟩
          generalize (play 0 ys 0).1 = q1
          generalize (play 0 ys 0).2.1 = q2
          generalize (play 0 ys 0).2.2 = q3 at HPL
          go_wp2_with fail
          refine (code_any w8 (HS.out.below (HC8.out.old hB)) q3 HPL.out).mono ?_
          rintro e w' ⟨rfl, rfl⟩
          go_wp2
          go_ret
          exact ⟨rfl, HC8.out.old hB⟩
end Go.Proofs.YtgcodagjkbipbaaDoor
