/-
  The walk of culvertlaw21.PlaceFair (printed by gen_plfair.py).
  No condition of its own: the fact 'Sen' on the world; the argument reads as rows of bounded numbers.
-/
import Derived.Test.YtgcodagjkbipbaaDoorPlCat
import Derived.OwnWalk
namespace Go.Proofs.YtgcodagjkbipbaaDoor
open Go.RowKit

/-- A block of the call's own that holds n loads. -/
def Nw (w : World) (ad : Addr) (n : Nat) (L : Nat → Ld) : Prop := ∃ g cur, ad = ⟨g, 0, none⟩ ∧ Is w g 72 cur ∧ ∀ i, i < n → ∀ j, j < 4 → cur[i * 4 + j]? = some (ldF L i j)
/-- A block of the call's own that holds n truth values. -/
def Gt (w : World) (ag : Addr) (n : Nat) (G : Nat → Bool) : Prop := ∃ g cur, ag = ⟨g, 0, none⟩ ∧ Is w g 4 cur ∧ ∀ i, i < n → cur[i]? = some (.bool (G i))
theorem Nw.lds {w : World} {ad : Addr} {n : Nat} {L : Nat → Ld} (h : Nw w ad n L) : Lds w (some ad) n L := fun _ => by
  obtain ⟨g, cur, rfl, hi, hc⟩ := h
  exact ⟨_, rfl, fun i hi' j hj => by rw [add_zero_off]; exact hi.at_ _ _ (hc i hi' j hj)⟩
theorem Nw.chg {w w' : World} {ad : Addr} {n : Nat} {L : Nat → Ld} (h : Nw w ad n L) (hc : Chg none_ w w') : Nw w' ad n L := by
  obtain ⟨g, cur, e, hi, hcc⟩ := h
  exact ⟨g, cur, e, hi.chg hc (fun f => f), hcc⟩
theorem Gt.chg {w w' : World} {ag : Addr} {n : Nat} {G : Nat → Bool} (h : Gt w ag n G) (hc : Chg none_ w w') : Gt w' ag n G := by
  obtain ⟨g, cur, e, hi, hcc⟩ := h
  exact ⟨g, cur, e, hi.chg hc (fun f => f), hcc⟩
theorem Gt.cell {w : World} {ag : Addr} {n i : Nat} {G : Nat → Bool} (h : Gt w ag n G) (hi : i < n) : w.cell? (ag.add i) = some (.bool (G i)) := by
  obtain ⟨g, cur, rfl, hI, hc⟩ := h
  rw [add_zero_off]
  exact hI.at_ _ _ (hc i hi)
theorem Nw.froz {w : World} {ad : Addr} {n : Nat} {L : Nat → Ld} (h : Nw w ad n L) (p : Nat) : w.frozen? ⟨(ad.add (p * 4)).block, (ad.add (p * 4)).off + 2, none⟩ = false := by
  obtain ⟨g, cur, rfl, hI, hc⟩ := h
  rw [add_zero_off]
  exact hI.frozen _
theorem Gt.froz {w : World} {ag : Addr} {n : Nat} {G : Nat → Bool} (h : Gt w ag n G) (p : Nat) : w.frozen? (ag.add p) = false := by
  obtain ⟨g, cur, rfl, hI, hc⟩ := h
  rw [add_zero_off]
  exact hI.frozen _
theorem ldF_up {L : Nat → Ld} {p i j : Nat} (hj : j < 4) : ldF (upL L p) i j = if i * 4 + j = p * 4 + 2 then .int .i64 ((L p).op + 1) else ldF L i j := by
  by_cases e : i = p
  · subst e
    match j, hj with
    | 0, _ => simp [ldF, upL, Ld.up]
    | 1, _ => simp [ldF, upL, Ld.up]
    | 2, _ => simp [ldF, upL, Ld.up]
    | 3, _ => simp [ldF, upL, Ld.up]
  · rw [if_neg (by omega)]
    exact ldF_congr (by simp [upL, e]) j
theorem Nw.up {w : World} {ad : Addr} {n p : Nat} {L : Nat → Ld} (h : Nw w ad n L) (v : Int) (hv : v = (L p).op + 1) : Nw (w.setCell ⟨(ad.add (p * 4)).block, (ad.add (p * 4)).off + 2, none⟩ (.int .i64 v)) ad n (upL L p) := by
  subst hv
  obtain ⟨g, cur, rfl, hI, hc⟩ := h
  rw [add_zero_off]
  refine ⟨g, _, rfl, hI.put (p * 4 + 2) _, fun i hi j hj => ?_⟩
  rw [ldF_up hj, Array.getElem?_setIfInBounds]
  have h1 := hc i hi j hj
  have h2 : i * 4 + j < cur.size := (Array.getElem?_eq_some_iff.1 h1).1
  by_cases e : i * 4 + j = p * 4 + 2
  · rw [if_pos e.symm, if_pos e, if_pos (by omega)]
  · rw [if_neg (fun h => e h.symm), if_neg e]
    exact h1
theorem Gt.up {w : World} {ag : Addr} {n p : Nat} {G : Nat → Bool} (h : Gt w ag n G) : Gt (w.setCell (ag.add p) (.bool true)) ag n (upG G p) := by
  obtain ⟨g, cur, rfl, hI, hc⟩ := h
  rw [add_zero_off]
  refine ⟨g, _, rfl, hI.put p _, fun i hi => ?_⟩
  rw [Array.getElem?_setIfInBounds]
  have h1 := hc i hi
  have h2 : i < cur.size := (Array.getElem?_eq_some_iff.1 h1).1
  by_cases e : i = p
  · subst e
    rw [if_pos rfl, if_pos h2]
    simp [upG]
  · rw [if_neg (fun h => e h.symm), h1]
    simp [upG, e]
theorem Nw.far {w : World} {ad b : Addr} {n : Nat} {L : Nat → Ld} (h : Nw w ad n L) (hb : ad.block ≠ b.block) (u : Value) : Nw (w.setCell b u) ad n L := by
  obtain ⟨g, cur, rfl, hI, hc⟩ := h
  exact ⟨g, cur, rfl, hI.far hb u, hc⟩
theorem Gt.far {w : World} {ag b : Addr} {n : Nat} {G : Nat → Bool} (h : Gt w ag n G) (hb : ag.block ≠ b.block) (u : Value) : Gt (w.setCell b u) ag n G := by
  obtain ⟨g, cur, rfl, hI, hc⟩ := h
  exact ⟨g, cur, rfl, hI.far hb u, hc⟩
/-- Both. -/
def Two (w : World) (ad ag : Addr) (n : Nat) (L : Nat → Ld) (G : Nat → Bool) : Prop := Nw w ad n L ∧ Gt w ag n G
theorem Two.chg {w w' : World} {ad ag : Addr} {n : Nat} {L : Nat → Ld} {G : Nat → Bool} (h : Two w ad ag n L G) (hc : Chg none_ w w') : Two w' ad ag n L G := ⟨h.1.chg hc, h.2.chg hc⟩
theorem Two.drew {w : World} {ad ag : Addr} {n : Nat} {L : Nat → Ld} {G : Nat → Bool} (h : Two w ad ag n L G) : Two w.drew ad ag n L G := h
theorem three_at {u : World} {ad ag : Addr} {n i j : Nat} {L : Nat → Ld} {G : Nat → Bool} (h : Two u ad ag n L G) (hg : G i = true) (hj : j < n) (hi : i < n) :
    u.cell? (ag.add i) = some (.bool true) ∧ (u.cell? (ad.add (j * 4)) = some (.bool (L j).live) ∧ u.cell? ⟨(ad.add (j * 4)).block, (ad.add (j * 4)).off + 1, none⟩ = some (.bool (L j).dr) ∧ u.cell? ⟨(ad.add (j * 4)).block, (ad.add (j * 4)).off + 2, none⟩ = some (.int .i64 (L j).op) ∧ u.cell? ⟨(ad.add (j * 4)).block, (ad.add (j * 4)).off + 3, none⟩ = some (.int .i64 (L j).lf)) ∧ (u.cell? (ad.add (i * 4)) = some (.bool (L i).live) ∧ u.cell? ⟨(ad.add (i * 4)).block, (ad.add (i * 4)).off + 1, none⟩ = some (.bool (L i).dr) ∧ u.cell? ⟨(ad.add (i * 4)).block, (ad.add (i * 4)).off + 2, none⟩ = some (.int .i64 (L i).op) ∧ u.cell? ⟨(ad.add (i * 4)).block, (ad.add (i * 4)).off + 3, none⟩ = some (.int .i64 (L i).lf)) := by
  obtain ⟨c0, c1, c2, c3⟩ := ldAt h.1.lds hj
  obtain ⟨d0, d1, d2, d3⟩ := ldAt h.1.lds hi
  refine ⟨?_, ⟨c0, c1, c2, c3⟩, d0, d1, d2, d3⟩
  rw [h.2.cell hi, hg]
def Bnd (L : Nat → Ld) (n : Nat) : Prop := ∀ i, i < n → -9223372036854775808 ≤ (L i).op ∧ (L i).op ≤ 9223372036854775807
theorem bnd_up {L : Nat → Ld} {n p : Nat} {m : Int} (h : Bnd L n) (hm : m ≤ 9223372036854775807) (hb : (L p).may m = true) (hp : p < n) : Bnd (upL L p) n := fun i hi => by
  have h1 := may_bound hb
  have h2 := h p hp
  unfold upL
  by_cases e : i = p
  · rw [if_pos e]
    simp only [Ld.up]
    omega
  · rw [if_neg e]
    exact h i hi

theorem Tryd.infoBl : (Tryd.prog.info? 4).map (fun i => (i.zero, i.size, i.bytes)) = some (some (.bool false), 1, 1) := by kernel_rfl

set_option maxRecDepth 100000 in
set_option maxHeartbeats 8000000 in
theorem fair_walk {a : Nat → Addr} (w : World) (hs : Sen w.heap.size a w) (A : Option Addr) (n c : Nat) (L0 : Nat → Ld) (m x : Int) (hr : Lds w A n L0) (hnil : A = none → c = 0) (hnc : n ≤ c) (hb : n * 24 ≤ 140737488351232) (hbnd : Bnd L0 n) (hm : m ≤ 9223372036854775807) :
    Calls Tryd.prog 11 #[.slice A n c, .int .i64 m, .int .i64 x] w fun e w' => e = .returned (.bool true) ∧ Below w.heap.size w w' := by
  have hB : w.heap.size ≤ w.heap.size := Nat.le_refl _
  have HS := Lib.hid hs
  have HR := Lib.hid hr
  have HN := Lib.hid hnil
  have HB0 := Lib.hid hbnd
  clear hs hr hnil hbnd
  obtain ⟨mm, hmm, hmin⟩ : ∃ mm : Nat, (mm ≤ n ∧ mm ≤ 200) ∧ (if (200 : Int) < (n : Int) then (200 : Int) else (n : Int)) = (mm : Int) := by
    by_cases h : 200 < n
    · exact ⟨200, by omega, by rw [if_pos (by omega)]; rfl⟩
    · exact ⟨n, by omega, by rw [if_neg (by omega)]⟩
  obtain ⟨hmn, hm200⟩ := hmm
  have hmi : (mm : Int) ≤ (c : Int) := by omega
  have hm63 : mm ≤ 4611686018427387904 := by omega
  go_enter Tryd.func11, Tryd.ntmps11
  go_wp2_with fail
  refine (pfixed_any w HS.out hB).mono ?_
  rintro e w1 ⟨rfl, c1⟩
  have HC1 := Lib.hid c1
  have hsz := c1.size
  clear c1
  go_wp2_with (at_builtin; refine wpList_append_lds rfl (.tmp 20) (.tmp 25) rfl w1.heap.size ?b1 _ rfl ?b2 A mm c L0 rfl ?b3 HN.out (by omega) ?_)
  case b1 => simp
  case b2 => exact World.ownsRow_made w1 #[] 0 (Nat.le_refl _) (by decide) rfl
  case b3 => exact Lds.take (HR.out.chg (by decide) (HC1.out.alloc _) (fun _ _ _ f => f)) hmn
  intro v2 w2 hown hg2
  have HC2 := Lib.hid (chg_grown (HC1.out.alloc _) hg2 hsz)
  have hnw : ∃ adN cn, v2 = .slice adN mm cn ∧ (adN = none → cn = 0) ∧ (0 < mm → ∃ ad, adN = some ad ∧ w.heap.size ≤ ad.block ∧ Nw w2 ad mm L0) := by
    have h0 := hown
    rcases h0.2 with ⟨hv, hn'⟩ | ⟨g, cap, cur, hv, hbg, hgg, _⟩
    · subst hv hn'
      exact ⟨none, 0, rfl, fun _ => rfl, fun h => by omega⟩
    · subst hv
      refine ⟨_, _, rfl, (fun h => by cases h), fun _ => ⟨_, rfl, by simp only; omega, g, cur, rfl, hgg, fun i hi j hj => ?_⟩⟩
      have h1 := hown.cells (g := g) rfl _ _ (rowL_get hi hj)
      rw [add_zero_off, Is.cell hgg] at h1
      exact h1
  obtain ⟨adN, cn, rfl, hnl, hnw⟩ := hnw
  clear hown hg2
  by_cases hm0 : mm = 0
  · subst hm0
    have HNL := Lib.hid hnl
    clear hnw hnl
    go_wp2_with fail
    go_loopw [29] (fun xi wr => xi = .int .i64 0 ∧ Chg none_ w2 wr) (fun _ _ => 0)
    case atStart => exact ⟨rfl, Chg.refl _ _⟩
    case round =>
      obtain ⟨rfl, hg⟩ := hrel
      have HG := Lib.hid hg
      clear hg
      have hbs := Lib.hid (info_parts Tryd.infoBl)
      obtain ⟨ib, HI⟩ := hbs.out
      have HIB := Lib.hid HI
      clear HI hbs
      go_wp2_with (at_make; refine wpList_make_full _ rfl _ _ 82 rfl w2.heap.size 4 ib _ 1 Tryd.underlying82 HIB.out.1 HIB.out.2.1 HIB.out.2.2.1 _ _ _ _ 0 rfl rfl rfl rfl ?m1 ?m2 HG.out.size ?_)
      case m1 => rw [HIB.out.2.2.2]; omega
      case m2 => simp only [maxLen]; omega
      intro w3 hown3 hg3
      have HC3 : Hid (Chg none_ w w3) := (HC2.out.trans HG.out).grown hg3 (fun k e => by cases e)
      clear hown3 hg3
      obtain ⟨M, hM⟩ : ∃ M : Int, (if (500 : Int) < x then (500 : Int) else x) = M := ⟨_, rfl⟩
      go_wp2_with fail
      go_loopw [11] (fun xn wr => xn = .int .i64 0 ∧ Chg none_ w wr) (fun _ _ => 0)
      case atStart => exact ⟨rfl, HC3.out⟩
      case round =>
        obtain ⟨rfl, hg⟩ := hrel
        have HG := Lib.hid hg
        clear hg
        by_cases htM : (0 : Int) < M
        · have hsz := Nat.le_refl wr.heap.size
          go_wp2_with (at_builtin; refine wpList_append_lds rfl (.tmp 48) (.tmp 49) rfl wr.heap.size ?b1 _ rfl ?b2 adN 0 cn (ldl []) rfl (Rds.zero _ _ _ _) HNL.out (by omega) ?_)
          case b1 => simp
          case b2 => exact World.ownsRow_made wr #[] 0 (Nat.le_refl _) (by decide) rfl
          intro v4 w4 hown4 hg4
          obtain ⟨A2, c2, rfl, h4⟩ := lds_own hown4
          have HG4 := Lib.hid (HG.out.trans (chg_grown ((Chg.refl none_ wr).alloc _) hg4 hsz))
          have H4 := Lib.hid h4
          clear hown4 hg4 h4
          go_wp2_with fail
          refine (pick_c w4 (HS.out.below (HG4.out.old hB)) HG4.out.size A2 0 c2 (ldl []) m (by decide) H4.out 0 (errv a 35) rfl rfl).mono ?_
          rintro e w5 ⟨rfl, k5⟩
          have HG5 := Lib.hid (HG4.out.trans k5)
          have e35 : errv a 35 = .iface 123 (.pointer (some (a 35))) := rfl
          rw [e35]
          clear k5 H4 HG HG4 e35
          go_wp2_with fail
          go_loopw [59] (fun xi wr => xi = .int .i64 0 ∧ Chg none_ w5 wr) (fun _ _ => 0)
          case atStart => exact ⟨rfl, Chg.refl _ _⟩
          case round =>
            obtain ⟨rfl, hg⟩ := hrel
            have HG6 := Lib.hid hg
            clear hg
            go_wp2
            go_ret
            exact ⟨rfl, (HG5.out.trans HG6.out).old hB⟩
        · have hMt : M ≤ 0 := by omega
          go_wp2
          go_ret
          exact ⟨rfl, HG.out.old hB⟩
  · obtain ⟨ad, rfl, hadb, hnw1⟩ := hnw (by omega)
    clear hnl
    have HW2 := Lib.hid hnw1
    clear hnw hnw1
    go_wp2_with fail
    go_loopw [29] (fun xi wr => ∃ k : Nat, k ≤ mm ∧ xi = .int .i64 k ∧ Chg none_ w2 wr) (fun xi _ => mm - (intOf xi).toNat)
    case atStart => exact ⟨0, by omega, rfl, Chg.refl _ _⟩
    case round =>
      obtain ⟨k, hk, rfl, hg⟩ := hrel
      have HG := Lib.hid hg
      clear hg
      by_cases hkn : k < mm
      · have H5 := (HW2.out.chg HG.out).lds
        obtain ⟨x0, x1, x2, x3⟩ := ldAt H5 hkn
        clear H5
        cases hmk : (L0 k).may m with
        | false =>
          have HM := Lib.hid hmk
          clear hmk
          go_wp2_with (go_at_call 42; refine (may_c _ (L0 k) m false HM.out).mono ?_; rintro e w5 ⟨rfl, k5⟩)
          go_ret
          exact ⟨rfl, (((HC2.out.trans HG.out).alloc _).trans k5).old hB⟩
        | true =>
          have HM := Lib.hid hmk
          clear hmk
          go_wp2_with (go_at_call 42; refine (may_c _ (L0 k) m true HM.out).mono ?_; rintro e w5 ⟨rfl, k5⟩)
          go_roundw
          case rel => exact ⟨k + 1, by omega, by go_num, (HG.out.alloc _).trans k5⟩
          case measure => simp [intOf]; omega
      · obtain rfl : mm = k := by omega
        have hbs := Lib.hid (info_parts Tryd.infoBl)
        obtain ⟨ib, HI⟩ := hbs.out
        have HIB := Lib.hid HI
        clear HI hbs
        go_wp2_with (at_make; refine wpList_make_full _ rfl _ _ 82 rfl w2.heap.size 4 ib _ 1 Tryd.underlying82 HIB.out.1 HIB.out.2.1 HIB.out.2.2.1 _ _ _ _ mm rfl rfl rfl rfl ?m1 ?m2 HG.out.size ?_)
        case m1 => rw [HIB.out.2.2.2]; omega
        case m2 => simp only [maxLen]; omega
        intro w3 hown3 hg3
        have HC3 : Hid (Chg none_ w2 w3) := HG.out.grown hg3 (fun k e => by cases e)
        have HT3 : Hid (Two w3 ad ⟨wr.heap.size, 0, none⟩ mm L0 (fun _ => false)) := ⟨HW2.out.chg HC3.out, by
          rcases hown3.2 with ⟨hv, _⟩ | ⟨g, cap, cur, hv, _, hgg, _, _, hcs, htk⟩
          · cases hv
          · injection hv with hv _ hv2
            injection hv with hv
            injection hv with hv _
            subst hv hv2
            refine ⟨_, cur, rfl, hgg, fun i hi => ?_⟩
            have h1 : (cur.toList.take (mm * 1))[i]? = some (.bool false) := by
              rw [htk, toList_madeCells_one, List.getElem?_replicate, if_pos hi]
            rw [List.getElem?_take, if_pos (by omega)] at h1
            simpa using h1⟩
        have hga : w.heap.size ≤ wr.heap.size := (HC2.out.trans HG.out).size
        have hag : ad.block ≠ wr.heap.size := by
          obtain ⟨g, cur, e, hI, _⟩ := HW2.out.chg HG.out
          have := hI.lt
          rw [e]
          simp only
          omega
        have HC3' := Lib.hid (HC2.out.trans HC3.out)
        generalize hgg : (⟨wr.heap.size, 0, none⟩ : Addr) = ag at HT3
        have hagb : ag.block = wr.heap.size := by rw [← hgg]
        have HAG : Hid (ad.block ≠ ag.block ∧ w.heap.size ≤ ag.block ∧ w.heap.size ≤ ad.block) := ⟨by rw [hagb]; exact hag, by rw [hagb]; exact hga, hadb⟩
        clear hgg hagb hag hga hadb hown3 hg3 HG HC3
        obtain ⟨M, hM⟩ : ∃ M : Int, (if (500 : Int) < x then (500 : Int) else x) = M := ⟨_, rfl⟩
        have hM5 : M ≤ 500 := by rw [← hM]; split <;> omega
        go_wp2_with fail
        go_loopw [11] (fun xn wr => ∃ (t : Nat) (L : Nat → Ld) (G : Nat → Bool), t ≤ 500 ∧ xn = .int .i64 t ∧ Hid (Even L G m mm ∧ Bnd L mm) ∧ Two wr ad ag mm L G ∧ Chg none_ w wr) (fun xn _ => 500 - (intOf xn).toNat)
        case atStart => exact ⟨0, L0, fun _ => false, by omega, rfl, ⟨even_zero _ _ _, fun i h => HB0.out i (by omega)⟩, HT3.out, HC3'.out⟩
        case round =>
          clear HT3 HC3' HW2 HC2
          obtain ⟨t, L, G, ht5, rfl, HE, hT, hg⟩ := hrel
          have HT := Lib.hid hT
          have HG := Lib.hid hg
          clear hT hg
          by_cases htM : (t : Int) < M
          · have hsz := Nat.le_refl wr.heap.size
            go_wp2_with (at_builtin; refine wpList_append_lds rfl (.tmp 48) (.tmp 49) rfl wr.heap.size ?b1 _ rfl ?b2 (some ad) mm cn L rfl ?b3 (fun h => by cases h) (by omega) ?_)
            case b1 => simp
            case b2 => exact World.ownsRow_made wr #[] 0 (Nat.le_refl _) (by decide) rfl
            case b3 => exact (HT.out.1.chg ((Chg.refl none_ wr).alloc _)).lds
            intro v4 w4 hown4 hg4
            obtain ⟨A2, c2, rfl, h4⟩ := lds_own hown4
            have HC4 := Lib.hid (chg_grown ((Chg.refl none_ wr).alloc _) hg4 hsz)
            have H4 := Lib.hid h4
            clear hown4 hg4 h4
            have HG4 := Lib.hid (HG.out.trans HC4.out)
            have HT4 := Lib.hid (HT.out.chg HC4.out)
            cases hb : bst L m mm with
            | none =>
              have hall := Lib.hid (fun i hi => bst_none hb i hi)
              obtain ⟨hv, hc⟩ := pk_none' hb
              obtain ⟨q, hq⟩ : ∃ q, pkC L m mm = q + 1 := ⟨pkC L m mm - 1, by omega⟩
              go_wp2_with fail
              refine (pick_c w4 (HS.out.below (HG4.out.old hB)) HG4.out.size A2 mm c2 L m hm63 H4.out 0 (.iface 123 (.pointer (some (a (q + 1))))) hv (by rw [hq]; rfl)).mono ?_
              rintro e w5 ⟨rfl, k5⟩
              have HG5 := Lib.hid (HG4.out.trans k5)
              have HT5 := Lib.hid (HT4.out.chg k5)
              clear k5 hv hc hb H4 HC4 HT HG HT4 HG4 hq
              go_wp2_with fail
              go_loopw [59] (fun xi wr => ∃ k : Nat, k ≤ mm ∧ xi = .int .i64 k ∧ Chg none_ w5 wr) (fun xi _ => mm - (intOf xi).toNat)
              case atStart => exact ⟨0, by omega, rfl, Chg.refl _ _⟩
              case round =>
                obtain ⟨k, hk, rfl, hg⟩ := hrel
                have HG6 := Lib.hid hg
                clear hg
                by_cases hkn : k < mm
                · have H6 := (HT5.out.chg HG6.out).1.lds
                  obtain ⟨x0, x1, x2, x3⟩ := ldAt H6 hkn
                  clear H6
                  have HM := Lib.hid (hall.out k hkn)
                  go_wp2_with (go_at_call 42; refine (may_c _ (L k) m false HM.out).mono ?_; rintro e w6 ⟨rfl, k6⟩)
                  go_roundw
                  case rel => exact ⟨k + 1, by omega, by go_num, (HG6.out.alloc _).trans k6⟩
                  case measure => simp [intOf]; omega
                · obtain rfl : mm = k := by omega
                  go_wp2
                  go_ret
                  exact ⟨rfl, (HG5.out.trans HG6.out).old hB⟩
            | some p =>
              have hpn := bst_lt hb
              have hpm := Lib.hid (bst_may hb)
              have HE2 : Hid (Even (upL L p) (upG G p) m mm ∧ Bnd (upL L p) mm) := ⟨even_up HE.out.1 hb, bnd_up HE.out.2 hm (bst_may hb) hpn⟩
              have hbd := HE.out.2 p hpn
              have hlt := may_bound (bst_may hb)
              obtain ⟨hv, hc⟩ := pk_some' hb
              go_wp2_with fail
              refine (pick_c w4 (HS.out.below (HG4.out.old hB)) HG4.out.size A2 mm c2 L m hm63 H4.out (p : Int) .nilIface hv (by rw [hc]; rfl)).mono ?_
              rintro e w5 ⟨rfl, k5⟩
              have HG5 := Lib.hid (HG4.out.trans k5)
              have HT5 := Lib.hid (HT4.out.chg k5)
              clear k5 hv hc hb H4 HC4 HT HG HT4 HG4
              have hpi : (p : Int) < (mm : Int) := by omega
              have hp0 : decide ((p : Int) < 0) = false := by simp
              have hp1 : decide (mm ≤ p) = false := by simp; omega
              obtain ⟨x0, x1, x2, x3⟩ := ldAt HT5.out.1.lds hpn
              have fr := HT5.out.1.froz p
              have hw1 : IntKind.i64.wrap ((L p).op + 1) = (L p).op + 1 := IntWalk.i64_in _ (by omega)
              have HT6 : Hid (Two (w5.setCell ⟨(ad.add (p * 4)).block, (ad.add (p * 4)).off + 2, none⟩ (.int .i64 ((L p).op + 1))) ad ag mm (upL L p) G) := ⟨HT5.out.1.up _ rfl, HT5.out.2.far (by rw [block_add]; exact HAG.out.1.symm) _⟩
              have gc := HT6.out.2.cell hpn
              have gf := HT6.out.2.froz p
              have HT7 : Hid (Two ((w5.setCell ⟨(ad.add (p * 4)).block, (ad.add (p * 4)).off + 2, none⟩ (.int .i64 ((L p).op + 1))).setCell (ag.add p) (.bool true)) ad ag mm (upL L p) (upG G p)) := ⟨HT6.out.1.far (by rw [block_add]; exact HAG.out.1) _, HT6.out.2.up⟩
              have HG7 : Hid (Chg none_ w ((w5.setCell ⟨(ad.add (p * 4)).block, (ad.add (p * 4)).off + 2, none⟩ (.int .i64 ((L p).op + 1))).setCell (ag.add p) (.bool true))) :=
                (HG5.out.setCell (fun h => by rw [block_add] at h; have := HAG.out.2.2; omega) _).setCell (fun h => by rw [block_add] at h; have := HAG.out.2.1; omega) _
              go_wp2_with fail
              generalize (w5.setCell ⟨(ad.add (p * 4)).block, (ad.add (p * 4)).off + 2, none⟩ (.int .i64 ((L p).op + 1))).setCell (ag.add p) (.bool true) = w7 at HT7 HG7 ⊢
              generalize upL L p = Y at HE2 HT7
              generalize upG G p = G1 at HE2 HT7
              clear x0 x1 x2 x3 fr gc gf HT6 HT5 HG5 hw1 hbd hlt hpm
              go_loopw [88] (fun xi wr => ∃ i : Nat, i ≤ mm ∧ xi = .int .i64 i ∧ Chg none_ w7 wr) (fun xi _ => mm - (intOf xi).toNat)
              case atStart => exact ⟨0, by omega, rfl, Chg.refl _ _⟩
              case round =>
                obtain ⟨i, hii, rfl, hg⟩ := hrel
                have HGi := Lib.hid hg
                clear hg
                by_cases hi : i < mm
                · have hiI : (i : Int) < (mm : Int) := by omega
                  go_wp2_with fail
                  go_loopw [93] (fun xj wr => ∃ j : Nat, j ≤ mm ∧ xj = .int .i64 j ∧ Chg none_ w7 wr) (fun xj _ => mm - (intOf xj).toNat)
                  case atStart => exact ⟨0, by omega, rfl, HGi.out⟩
                  case round =>
                    obtain ⟨j, hjj, rfl, hg⟩ := hrel
                    have HG := Lib.hid hg
                    have HT := Lib.hid (HT7.out.chg hg)
                    clear hg
                    by_cases hj : j < mm
                    · have hjI : (j : Int) < (mm : Int) := by omega
                      cases hgt : G1 i with
                      | false =>
                        have gc := HT.out.2.cell hi
                        rw [hgt] at gc
                        clear hgt
                        go_wp2_with fail
                        go_quiet (fail)
                        go_wp2_with fail
                        go_roundw
                        case rel => exact ⟨j + 1, by omega, by go_num, HG.out.drewN _⟩
                        case measure => simp [intOf]; omega
                      | true =>
                        cases hmj : (Y j).may m with
                        | false =>
                          have HM := Lib.hid hmj
                          clear hmj
                          go_wp2_with fail
                          refine wp_region_held_drew (S := fun u => u.cell? (ag.add i) = some (.bool true) ∧ (u.cell? (ad.add (j * 4)) = some (.bool (Y j).live) ∧ u.cell? ⟨(ad.add (j * 4)).block, (ad.add (j * 4)).off + 1, none⟩ = some (.bool (Y j).dr) ∧ u.cell? ⟨(ad.add (j * 4)).block, (ad.add (j * 4)).off + 2, none⟩ = some (.int .i64 (Y j).op) ∧ u.cell? ⟨(ad.add (j * 4)).block, (ad.add (j * 4)).off + 3, none⟩ = some (.int .i64 (Y j).lf)) ∧ (u.cell? (ad.add (i * 4)) = some (.bool (Y i).live) ∧ u.cell? ⟨(ad.add (i * 4)).block, (ad.add (i * 4)).off + 1, none⟩ = some (.bool (Y i).dr) ∧ u.cell? ⟨(ad.add (i * 4)).block, (ad.add (i * 4)).off + 2, none⟩ = some (.int .i64 (Y i).op) ∧ u.cell? ⟨(ad.add (i * 4)).block, (ad.add (i * 4)).off + 3, none⟩ = some (.int .i64 (Y i).lf))) (by kernel_rfl) (three_at (u := World.drew _) HT.out hgt hj hi) (fun hHeld => ?_)
                          refine take_at 96 (i := 0) (v := .slice (some ag) mm mm) rfl (by kernel_rfl) (by kernel_rfl) (by kernel_rfl) (by kernel_rfl) (fun _ _ _ h => h) (Or.inl ⟨by kernel_rfl, by intro u hSw; (try dsimp only at hSw); go_simp⟩) (by assumption) ?_
                          try simp only [Act.put, List.setIfInBounds_toArray, List.set_cons_zero, List.set_cons_succ]
                          refine take_at 97 (i := 1) (v := .int .i64 (i : Int)) rfl (by kernel_rfl) (by kernel_rfl) (by kernel_rfl) (by kernel_rfl) (fun _ _ _ h => h) (Or.inl ⟨by kernel_rfl, by intro u hSw; (try dsimp only at hSw); go_simp⟩) (by assumption) ?_
                          try simp only [Act.put, List.setIfInBounds_toArray, List.set_cons_zero, List.set_cons_succ]
                          refine take_at 98 (i := 2) (v := .pointer (some (ag.add i))) rfl (by kernel_rfl) (by kernel_rfl) (by kernel_rfl) (by kernel_rfl) (fun _ _ _ h => h) (Or.inl ⟨by kernel_rfl, by intro u hSw; (try dsimp only at hSw); go_simp⟩) (by assumption) ?_
                          try simp only [Act.put, List.setIfInBounds_toArray, List.set_cons_zero, List.set_cons_succ]
                          refine take_at 99 (i := 3) (v := .bool true) rfl (by kernel_rfl) (by kernel_rfl) (by kernel_rfl) (by kernel_rfl) (fun _ _ _ h => h) (Or.inl ⟨by kernel_rfl, by intro u hSw; (try dsimp only at hSw); go_simp⟩) (by assumption) ?_
                          try simp only [Act.put, List.setIfInBounds_toArray, List.set_cons_zero, List.set_cons_succ]
                          refine take_at 100 (i := 4) (v := .bool true) rfl (by kernel_rfl) (by kernel_rfl) (by kernel_rfl) (by kernel_rfl) (fun _ _ _ h => h) (Or.inl ⟨by kernel_rfl, by intro u hSw; (try dsimp only at hSw); go_simp⟩) (by assumption) ?_
                          try simp only [Act.put, List.setIfInBounds_toArray, List.set_cons_zero, List.set_cons_succ]
                          refine take_at 101 (i := 5) (v := .slice (some ad) mm cn) rfl (by kernel_rfl) (by kernel_rfl) (by kernel_rfl) (by kernel_rfl) (fun _ _ _ h => h) (Or.inl ⟨by kernel_rfl, by intro u hSw; (try dsimp only at hSw); go_simp⟩) (by assumption) ?_
                          try simp only [Act.put, List.setIfInBounds_toArray, List.set_cons_zero, List.set_cons_succ]
                          refine take_at 102 (i := 6) (v := .int .i64 (j : Int)) rfl (by kernel_rfl) (by kernel_rfl) (by kernel_rfl) (by kernel_rfl) (fun _ _ _ h => h) (Or.inl ⟨by kernel_rfl, by intro u hSw; (try dsimp only at hSw); go_simp⟩) (by assumption) ?_
                          try simp only [Act.put, List.setIfInBounds_toArray, List.set_cons_zero, List.set_cons_succ]
                          refine take_at 103 (i := 7) (v := .pointer (some (ad.add (j * 4)))) rfl (by kernel_rfl) (by kernel_rfl) (by kernel_rfl) (by kernel_rfl) (fun _ _ _ h => h) (Or.inl ⟨by kernel_rfl, by intro u hSw; (try dsimp only at hSw); go_simp⟩) (by assumption) ?_
                          try simp only [Act.put, List.setIfInBounds_toArray, List.set_cons_zero, List.set_cons_succ]
                          refine take_at 104 (i := 8) (v := .agg #[.bool (Y j).live, .bool (Y j).dr, .int .i64 (Y j).op, .int .i64 (Y j).lf]) rfl (by kernel_rfl) (by kernel_rfl) (by kernel_rfl) (by kernel_rfl) (fun _ _ _ h => h) (Or.inl ⟨by kernel_rfl, by intro u hSw; (try dsimp only at hSw); go_simp⟩) (by assumption) ?_
                          try simp only [Act.put, List.setIfInBounds_toArray, List.set_cons_zero, List.set_cons_succ]
                          refine take_at 105 (i := 9) (v := .int .i64 m) rfl (by kernel_rfl) (by kernel_rfl) (by kernel_rfl) (by kernel_rfl) (fun _ _ _ h => h) (Or.inl ⟨by kernel_rfl, by intro u hSw; (try dsimp only at hSw); go_simp⟩) (by assumption) ?_
                          try simp only [Act.put, List.setIfInBounds_toArray, List.set_cons_zero, List.set_cons_succ]
                          refine wpAnyH_ready (rs := [10]) (by kernel_rfl) (by simp) ?_
                          refine AllReadyH.cons rfl (fun K hK => ?_) AllReadyH.nil
                          go_simp
                          refine (may_c _ (Y j) m false HM.out).mono ?_
                          rintro e w1 ⟨rfl, k1⟩
                          have HT1 := Lib.hid (HT.out.drew.chg k1)
                          have HG1 := Lib.hid (HG.out.drew.trans k1)
                          clear k1
                          try go_simp
                          refine hK.out _ _ (three_at HT1.out hgt hj hi) (fun hHeld => ?_)
                          clear hK K
                          try simp only [Act.put, List.setIfInBounds_toArray, List.set_cons_zero, List.set_cons_succ]
                          refine take_at 107 (i := 11) (v := .bool false) rfl (by kernel_rfl) (by kernel_rfl) (by kernel_rfl) (by kernel_rfl) (fun _ _ _ h => h) (Or.inl ⟨by kernel_rfl, by intro u hSw; (try dsimp only at hSw); go_simp⟩) (by assumption) ?_
                          try simp only [Act.put, List.setIfInBounds_toArray, List.set_cons_zero, List.set_cons_succ]
                          refine take_at 108 (i := 12) (v := .bool false) rfl (by kernel_rfl) (by kernel_rfl) (by kernel_rfl) (by kernel_rfl) (fun _ _ _ h => h) (Or.inl ⟨by kernel_rfl, by intro u hSw; (try dsimp only at hSw); go_simp⟩) (by assumption) ?_
                          try simp only [Act.put, List.setIfInBounds_toArray, List.set_cons_zero, List.set_cons_succ]
                          refine take_at 109 (i := 13) (v := undef) rfl (by kernel_rfl) (by kernel_rfl) (by kernel_rfl) (by kernel_rfl) (fun _ _ _ h => h) (Or.inr ⟨by kernel_rfl, rfl⟩) (by assumption) ?_
                          try simp only [Act.put, List.setIfInBounds_toArray, List.set_cons_zero, List.set_cons_succ]
                          refine take_at 110 (i := 14) (v := undef) rfl (by kernel_rfl) (by kernel_rfl) (by kernel_rfl) (by kernel_rfl) (fun _ _ _ h => h) (Or.inr ⟨by kernel_rfl, rfl⟩) (by assumption) ?_
                          try simp only [Act.put, List.setIfInBounds_toArray, List.set_cons_zero, List.set_cons_succ]
                          refine take_at 111 (i := 15) (v := undef) rfl (by kernel_rfl) (by kernel_rfl) (by kernel_rfl) (by kernel_rfl) (fun _ _ _ h => h) (Or.inr ⟨by kernel_rfl, rfl⟩) (by assumption) ?_
                          try simp only [Act.put, List.setIfInBounds_toArray, List.set_cons_zero, List.set_cons_succ]
                          refine take_at 112 (i := 16) (v := undef) rfl (by kernel_rfl) (by kernel_rfl) (by kernel_rfl) (by kernel_rfl) (fun _ _ _ h => h) (Or.inr ⟨by kernel_rfl, rfl⟩) (by assumption) ?_
                          try simp only [Act.put, List.setIfInBounds_toArray, List.set_cons_zero, List.set_cons_succ]
                          refine take_at 113 (i := 17) (v := undef) rfl (by kernel_rfl) (by kernel_rfl) (by kernel_rfl) (by kernel_rfl) (fun _ _ _ h => h) (Or.inr ⟨by kernel_rfl, rfl⟩) (by assumption) ?_
                          try simp only [Act.put, List.setIfInBounds_toArray, List.set_cons_zero, List.set_cons_succ]
                          refine take_at 114 (i := 18) (v := undef) rfl (by kernel_rfl) (by kernel_rfl) (by kernel_rfl) (by kernel_rfl) (fun _ _ _ h => h) (Or.inr ⟨by kernel_rfl, rfl⟩) (by assumption) ?_
                          try simp only [Act.put, List.setIfInBounds_toArray, List.set_cons_zero, List.set_cons_succ]
                          refine take_at 115 (i := 19) (v := undef) rfl (by kernel_rfl) (by kernel_rfl) (by kernel_rfl) (by kernel_rfl) (fun _ _ _ h => h) (Or.inr ⟨by kernel_rfl, rfl⟩) (by assumption) ?_
                          try simp only [Act.put, List.setIfInBounds_toArray, List.set_cons_zero, List.set_cons_succ]
                          refine take_at 116 (i := 20) (v := undef) rfl (by kernel_rfl) (by kernel_rfl) (by kernel_rfl) (by kernel_rfl) (fun _ _ _ h => h) (Or.inr ⟨by kernel_rfl, rfl⟩) (by assumption) ?_
                          try simp only [Act.put, List.setIfInBounds_toArray, List.set_cons_zero, List.set_cons_succ]
                          refine take_at 117 (i := 21) (v := undef) rfl (by kernel_rfl) (by kernel_rfl) (by kernel_rfl) (by kernel_rfl) (fun _ _ _ h => h) (Or.inr ⟨by kernel_rfl, rfl⟩) (by assumption) ?_
                          try simp only [Act.put, List.setIfInBounds_toArray, List.set_cons_zero, List.set_cons_succ]
                          refine take_at 118 (i := 22) (v := undef) rfl (by kernel_rfl) (by kernel_rfl) (by kernel_rfl) (by kernel_rfl) (fun _ _ _ h => h) (Or.inr ⟨by kernel_rfl, rfl⟩) (by assumption) ?_
                          try simp only [Act.put, List.setIfInBounds_toArray, List.set_cons_zero, List.set_cons_succ]
                          refine take_at 119 (i := 23) (v := undef) rfl (by kernel_rfl) (by kernel_rfl) (by kernel_rfl) (by kernel_rfl) (fun _ _ _ h => h) (Or.inr ⟨by kernel_rfl, rfl⟩) (by assumption) ?_
                          try simp only [Act.put, List.setIfInBounds_toArray, List.set_cons_zero, List.set_cons_succ]
                          refine take_at 120 (i := 24) (v := undef) rfl (by kernel_rfl) (by kernel_rfl) (by kernel_rfl) (by kernel_rfl) (fun _ _ _ h => h) (Or.inr ⟨by kernel_rfl, rfl⟩) (by assumption) ?_
                          try simp only [Act.put, List.setIfInBounds_toArray, List.set_cons_zero, List.set_cons_succ]
                          refine take_at 121 (i := 25) (v := .bool false) rfl (by kernel_rfl) (by kernel_rfl) (by kernel_rfl) (by kernel_rfl) (fun _ _ _ h => h) (Or.inl ⟨by kernel_rfl, by intro u hSw; (try dsimp only at hSw); go_simp⟩) (by assumption) ?_
                          try simp only [Act.put, List.setIfInBounds_toArray, List.set_cons_zero, List.set_cons_succ]
                          refine wpAnyH_done (by kernel_rfl) ?_ _
                          go_wp2_with fail
                          go_roundw
                          case rel => exact ⟨j + 1, by omega, by go_num, HG1.out⟩
                          case measure => simp [intOf]; omega
                        | true =>
                          have HM := Lib.hid hmj
                          have hle := HE2.out.1 i j hi hj hgt hmj
                          have hb1 := HE2.out.2 j hj
                          have hb2 := may_bound hmj
                          have hw2 : IntKind.i64.wrap ((Y j).op + 1) = (Y j).op + 1 := IntWalk.i64_in _ (by omega)
                          have hgr : decide ((Y j).op + 1 < (Y i).op) = false := by simp; omega
                          clear hmj
                          go_wp2_with fail
                          refine wp_region_held_drew (S := fun u => u.cell? (ag.add i) = some (.bool true) ∧ (u.cell? (ad.add (j * 4)) = some (.bool (Y j).live) ∧ u.cell? ⟨(ad.add (j * 4)).block, (ad.add (j * 4)).off + 1, none⟩ = some (.bool (Y j).dr) ∧ u.cell? ⟨(ad.add (j * 4)).block, (ad.add (j * 4)).off + 2, none⟩ = some (.int .i64 (Y j).op) ∧ u.cell? ⟨(ad.add (j * 4)).block, (ad.add (j * 4)).off + 3, none⟩ = some (.int .i64 (Y j).lf)) ∧ (u.cell? (ad.add (i * 4)) = some (.bool (Y i).live) ∧ u.cell? ⟨(ad.add (i * 4)).block, (ad.add (i * 4)).off + 1, none⟩ = some (.bool (Y i).dr) ∧ u.cell? ⟨(ad.add (i * 4)).block, (ad.add (i * 4)).off + 2, none⟩ = some (.int .i64 (Y i).op) ∧ u.cell? ⟨(ad.add (i * 4)).block, (ad.add (i * 4)).off + 3, none⟩ = some (.int .i64 (Y i).lf))) (by kernel_rfl) (three_at (u := World.drew _) HT.out hgt hj hi) (fun hHeld => ?_)
                          refine take_at 96 (i := 0) (v := .slice (some ag) mm mm) rfl (by kernel_rfl) (by kernel_rfl) (by kernel_rfl) (by kernel_rfl) (fun _ _ _ h => h) (Or.inl ⟨by kernel_rfl, by intro u hSw; (try dsimp only at hSw); go_simp⟩) (by assumption) ?_
                          try simp only [Act.put, List.setIfInBounds_toArray, List.set_cons_zero, List.set_cons_succ]
                          refine take_at 97 (i := 1) (v := .int .i64 (i : Int)) rfl (by kernel_rfl) (by kernel_rfl) (by kernel_rfl) (by kernel_rfl) (fun _ _ _ h => h) (Or.inl ⟨by kernel_rfl, by intro u hSw; (try dsimp only at hSw); go_simp⟩) (by assumption) ?_
                          try simp only [Act.put, List.setIfInBounds_toArray, List.set_cons_zero, List.set_cons_succ]
                          refine take_at 98 (i := 2) (v := .pointer (some (ag.add i))) rfl (by kernel_rfl) (by kernel_rfl) (by kernel_rfl) (by kernel_rfl) (fun _ _ _ h => h) (Or.inl ⟨by kernel_rfl, by intro u hSw; (try dsimp only at hSw); go_simp⟩) (by assumption) ?_
                          try simp only [Act.put, List.setIfInBounds_toArray, List.set_cons_zero, List.set_cons_succ]
                          refine take_at 99 (i := 3) (v := .bool true) rfl (by kernel_rfl) (by kernel_rfl) (by kernel_rfl) (by kernel_rfl) (fun _ _ _ h => h) (Or.inl ⟨by kernel_rfl, by intro u hSw; (try dsimp only at hSw); go_simp⟩) (by assumption) ?_
                          try simp only [Act.put, List.setIfInBounds_toArray, List.set_cons_zero, List.set_cons_succ]
                          refine take_at 100 (i := 4) (v := .bool true) rfl (by kernel_rfl) (by kernel_rfl) (by kernel_rfl) (by kernel_rfl) (fun _ _ _ h => h) (Or.inl ⟨by kernel_rfl, by intro u hSw; (try dsimp only at hSw); go_simp⟩) (by assumption) ?_
                          try simp only [Act.put, List.setIfInBounds_toArray, List.set_cons_zero, List.set_cons_succ]
                          refine take_at 101 (i := 5) (v := .slice (some ad) mm cn) rfl (by kernel_rfl) (by kernel_rfl) (by kernel_rfl) (by kernel_rfl) (fun _ _ _ h => h) (Or.inl ⟨by kernel_rfl, by intro u hSw; (try dsimp only at hSw); go_simp⟩) (by assumption) ?_
                          try simp only [Act.put, List.setIfInBounds_toArray, List.set_cons_zero, List.set_cons_succ]
                          refine take_at 102 (i := 6) (v := .int .i64 (j : Int)) rfl (by kernel_rfl) (by kernel_rfl) (by kernel_rfl) (by kernel_rfl) (fun _ _ _ h => h) (Or.inl ⟨by kernel_rfl, by intro u hSw; (try dsimp only at hSw); go_simp⟩) (by assumption) ?_
                          try simp only [Act.put, List.setIfInBounds_toArray, List.set_cons_zero, List.set_cons_succ]
                          refine take_at 103 (i := 7) (v := .pointer (some (ad.add (j * 4)))) rfl (by kernel_rfl) (by kernel_rfl) (by kernel_rfl) (by kernel_rfl) (fun _ _ _ h => h) (Or.inl ⟨by kernel_rfl, by intro u hSw; (try dsimp only at hSw); go_simp⟩) (by assumption) ?_
                          try simp only [Act.put, List.setIfInBounds_toArray, List.set_cons_zero, List.set_cons_succ]
                          refine take_at 104 (i := 8) (v := .agg #[.bool (Y j).live, .bool (Y j).dr, .int .i64 (Y j).op, .int .i64 (Y j).lf]) rfl (by kernel_rfl) (by kernel_rfl) (by kernel_rfl) (by kernel_rfl) (fun _ _ _ h => h) (Or.inl ⟨by kernel_rfl, by intro u hSw; (try dsimp only at hSw); go_simp⟩) (by assumption) ?_
                          try simp only [Act.put, List.setIfInBounds_toArray, List.set_cons_zero, List.set_cons_succ]
                          refine take_at 105 (i := 9) (v := .int .i64 m) rfl (by kernel_rfl) (by kernel_rfl) (by kernel_rfl) (by kernel_rfl) (fun _ _ _ h => h) (Or.inl ⟨by kernel_rfl, by intro u hSw; (try dsimp only at hSw); go_simp⟩) (by assumption) ?_
                          try simp only [Act.put, List.setIfInBounds_toArray, List.set_cons_zero, List.set_cons_succ]
                          refine wpAnyH_ready (rs := [10]) (by kernel_rfl) (by simp) ?_
                          refine AllReadyH.cons rfl (fun K hK => ?_) AllReadyH.nil
                          go_simp
                          refine (may_c _ (Y j) m true HM.out).mono ?_
                          rintro e w1 ⟨rfl, k1⟩
                          have HT1 := Lib.hid (HT.out.drew.chg k1)
                          have HG1 := Lib.hid (HG.out.drew.trans k1)
                          clear k1
                          try go_simp
                          refine hK.out _ _ (three_at HT1.out hgt hj hi) (fun hHeld => ?_)
                          clear hK K
                          try simp only [Act.put, List.setIfInBounds_toArray, List.set_cons_zero, List.set_cons_succ]
                          refine take_at 107 (i := 11) (v := .bool true) rfl (by kernel_rfl) (by kernel_rfl) (by kernel_rfl) (by kernel_rfl) (fun _ _ _ h => h) (Or.inl ⟨by kernel_rfl, by intro u hSw; (try dsimp only at hSw); go_simp⟩) (by assumption) ?_
                          try simp only [Act.put, List.setIfInBounds_toArray, List.set_cons_zero, List.set_cons_succ]
                          refine take_at 108 (i := 12) (v := .bool true) rfl (by kernel_rfl) (by kernel_rfl) (by kernel_rfl) (by kernel_rfl) (fun _ _ _ h => h) (Or.inl ⟨by kernel_rfl, by intro u hSw; (try dsimp only at hSw); go_simp⟩) (by assumption) ?_
                          try simp only [Act.put, List.setIfInBounds_toArray, List.set_cons_zero, List.set_cons_succ]
                          refine take_at 109 (i := 13) (v := .slice (some ad) mm cn) rfl (by kernel_rfl) (by kernel_rfl) (by kernel_rfl) (by kernel_rfl) (fun _ _ _ h => h) (Or.inl ⟨by kernel_rfl, by intro u hSw; (try dsimp only at hSw); go_simp⟩) (by assumption) ?_
                          try simp only [Act.put, List.setIfInBounds_toArray, List.set_cons_zero, List.set_cons_succ]
                          refine take_at 110 (i := 14) (v := .int .i64 (i : Int)) rfl (by kernel_rfl) (by kernel_rfl) (by kernel_rfl) (by kernel_rfl) (fun _ _ _ h => h) (Or.inl ⟨by kernel_rfl, by intro u hSw; (try dsimp only at hSw); go_simp⟩) (by assumption) ?_
                          try simp only [Act.put, List.setIfInBounds_toArray, List.set_cons_zero, List.set_cons_succ]
                          refine take_at 111 (i := 15) (v := .pointer (some (ad.add (i * 4)))) rfl (by kernel_rfl) (by kernel_rfl) (by kernel_rfl) (by kernel_rfl) (fun _ _ _ h => h) (Or.inl ⟨by kernel_rfl, by intro u hSw; (try dsimp only at hSw); go_simp⟩) (by assumption) ?_
                          try simp only [Act.put, List.setIfInBounds_toArray, List.set_cons_zero, List.set_cons_succ]
                          refine take_at 112 (i := 16) (v := .pointer (some ⟨(ad.add (i * 4)).block, (ad.add (i * 4)).off + 2, none⟩)) rfl (by kernel_rfl) (by kernel_rfl) (by kernel_rfl) (by kernel_rfl) (fun _ _ _ h => h) (Or.inl ⟨by kernel_rfl, by intro u hSw; (try dsimp only at hSw); go_simp⟩) (by assumption) ?_
                          try simp only [Act.put, List.setIfInBounds_toArray, List.set_cons_zero, List.set_cons_succ]
                          refine take_at 113 (i := 17) (v := .int .i64 (Y i).op) rfl (by kernel_rfl) (by kernel_rfl) (by kernel_rfl) (by kernel_rfl) (fun _ _ _ h => h) (Or.inl ⟨by kernel_rfl, by intro u hSw; (try dsimp only at hSw); go_simp⟩) (by assumption) ?_
                          try simp only [Act.put, List.setIfInBounds_toArray, List.set_cons_zero, List.set_cons_succ]
                          refine take_at 114 (i := 18) (v := .slice (some ad) mm cn) rfl (by kernel_rfl) (by kernel_rfl) (by kernel_rfl) (by kernel_rfl) (fun _ _ _ h => h) (Or.inl ⟨by kernel_rfl, by intro u hSw; (try dsimp only at hSw); go_simp⟩) (by assumption) ?_
                          try simp only [Act.put, List.setIfInBounds_toArray, List.set_cons_zero, List.set_cons_succ]
                          refine take_at 115 (i := 19) (v := .int .i64 (j : Int)) rfl (by kernel_rfl) (by kernel_rfl) (by kernel_rfl) (by kernel_rfl) (fun _ _ _ h => h) (Or.inl ⟨by kernel_rfl, by intro u hSw; (try dsimp only at hSw); go_simp⟩) (by assumption) ?_
                          try simp only [Act.put, List.setIfInBounds_toArray, List.set_cons_zero, List.set_cons_succ]
                          refine take_at 116 (i := 20) (v := .pointer (some (ad.add (j * 4)))) rfl (by kernel_rfl) (by kernel_rfl) (by kernel_rfl) (by kernel_rfl) (fun _ _ _ h => h) (Or.inl ⟨by kernel_rfl, by intro u hSw; (try dsimp only at hSw); go_simp⟩) (by assumption) ?_
                          try simp only [Act.put, List.setIfInBounds_toArray, List.set_cons_zero, List.set_cons_succ]
                          refine take_at 117 (i := 21) (v := .pointer (some ⟨(ad.add (j * 4)).block, (ad.add (j * 4)).off + 2, none⟩)) rfl (by kernel_rfl) (by kernel_rfl) (by kernel_rfl) (by kernel_rfl) (fun _ _ _ h => h) (Or.inl ⟨by kernel_rfl, by intro u hSw; (try dsimp only at hSw); go_simp⟩) (by assumption) ?_
                          try simp only [Act.put, List.setIfInBounds_toArray, List.set_cons_zero, List.set_cons_succ]
                          refine take_at 118 (i := 22) (v := .int .i64 (Y j).op) rfl (by kernel_rfl) (by kernel_rfl) (by kernel_rfl) (by kernel_rfl) (fun _ _ _ h => h) (Or.inl ⟨by kernel_rfl, by intro u hSw; (try dsimp only at hSw); go_simp⟩) (by assumption) ?_
                          try simp only [Act.put, List.setIfInBounds_toArray, List.set_cons_zero, List.set_cons_succ]
                          refine take_at 119 (i := 23) (v := .int .i64 ((Y j).op + 1)) rfl (by kernel_rfl) (by kernel_rfl) (by kernel_rfl) (by kernel_rfl) (fun _ _ _ h => h) (Or.inl ⟨by kernel_rfl, by intro u hSw; (try dsimp only at hSw); go_simp⟩) (by assumption) ?_
                          try simp only [Act.put, List.setIfInBounds_toArray, List.set_cons_zero, List.set_cons_succ]
                          refine take_at 120 (i := 24) (v := .bool false) rfl (by kernel_rfl) (by kernel_rfl) (by kernel_rfl) (by kernel_rfl) (fun _ _ _ h => h) (Or.inl ⟨by kernel_rfl, by intro u hSw; (try dsimp only at hSw); go_simp⟩) (by assumption) ?_
                          try simp only [Act.put, List.setIfInBounds_toArray, List.set_cons_zero, List.set_cons_succ]
                          refine take_at 121 (i := 25) (v := .bool false) rfl (by kernel_rfl) (by kernel_rfl) (by kernel_rfl) (by kernel_rfl) (fun _ _ _ h => h) (Or.inl ⟨by kernel_rfl, by intro u hSw; (try dsimp only at hSw); go_simp⟩) (by assumption) ?_
                          try simp only [Act.put, List.setIfInBounds_toArray, List.set_cons_zero, List.set_cons_succ]
                          refine wpAnyH_done (by kernel_rfl) ?_ _
                          go_wp2_with fail
                          go_roundw
                          case rel => exact ⟨j + 1, by omega, by go_num, HG1.out⟩
                          case measure => simp [intOf]; omega
                    · obtain rfl : mm = j := by omega
                      go_wp2_with fail
                      go_roundw
                      case rel => exact ⟨i + 1, by omega, by go_num, HG.out⟩
                      case measure => simp [intOf]; omega
                · obtain rfl : mm = i := by omega
                  go_wp2_with fail
                  go_roundw
                  case rel => exact ⟨t + 1, Y, G1, by omega, by go_num, HE2.out, HT7.out.chg HGi.out, HG7.out.trans HGi.out⟩
                  case measure => simp [intOf]; omega
          · have hMt : M ≤ (t : Int) := by omega
            go_wp2
            go_ret
            exact ⟨rfl, HG.out.old hB⟩
end Go.Proofs.YtgcodagjkbipbaaDoor
