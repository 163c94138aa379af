/-
  The walk of MsgEncodes.
  No condition of its own: the fact 'Sen' on the world; sizes within the reach.
-/
import Derived.Test.YtpmncndicdlmhaaDoorMsgNm
namespace Go.Proofs.YtpmncndicdlmhaaDoor
open Go.RowKit

section
variable {w : World} {ops : Array Oper} {rest : List Oper} {o : Oper} {a : Act} {Q : Exit → Act → World → Prop}
/-- make([]byte, 0, n). -/
theorem wpList_make_room (hgd : o.guard = none) (x y : Operand) (ho : o.op = Op.makeSlice 38 x y) (hx : a.eval x = .int .i64 0) (N : Int) (hy : a.eval y = .int .i64 N) (n : Nat) (hN : N = (n : Int)) (hn : n ≤ 140737488355328) {base : Nat} (hbase : base ≤ w.heap.size)
    (h : ∀ w', Ob w' base 5 (.slice (some ⟨w.heap.size, 0, none⟩) 0 n) 0 [] → Chg none_ w w' → wpList Tryd.prog ops Q rest (a.put o.dst (.slice (some ⟨w.heap.size, 0, none⟩) 0 n)) w') : wpList Tryd.prog ops Q (o :: rest) a w := by
  subst hN
  obtain ⟨i, hi, hz0, hz1, hz2⟩ := info_parts Tryd.infoU8
  refine wpList_plain hgd fun K hK' => ?_
  obtain ⟨w', hrun, h1, h2⟩ := run_make_own (P := Tryd.prog) w base 38 5 i (.int .u8 0) 1 Tryd.underlying38 hi hz0 hz1 .i64 .i64 n (by rw [hz2]; omega) (by simp only [maxLen]; omega) hbase
  unfold Oper.wp
  simp [execOp, ho, hx, hy, hrun, Result.andThen]
  exact hK' _ _ (h w' (ob_own h1) ((grown_chg (v := .slice none 0 0) h2).more fun k _ hk => by simp [obk] at hk))
end

theorem Ob.is_ {w : World} {base : Nat} {e : TypeId} {v : Value} {n : Nat} {xs : List Value} (h : Ob w base e v n xs) : n = 0 ∨ 0 < n ∧ ∃ g c cur, v = .slice (some ⟨g, 0, none⟩) n c ∧ Is w g e cur ∧ n ≤ cur.size ∧ base ≤ g := by
  rcases h with ⟨rfl, _⟩ | ⟨⟨_, h⟩, g, c, rfl, _⟩
  · exact .inl rfl
  · rcases Nat.eq_zero_or_pos n with h0 | h0
    · exact .inl h0
    · refine .inr ⟨h0, ?_⟩
      rcases h with ⟨e, _⟩ | ⟨g', c', cur, e, h1, h2, h3, _, h5, _⟩
      · cases e
      · cases e
        exact ⟨g, c, cur, rfl, h2, by omega, h1⟩
theorem enR_byt {most : Int} {m : List Int} (h : Byt m) : Byt (enR most m) := by
  unfold enR
  by_cases h0 : enC most m = 0
  · rw [if_pos h0]
    have := enC0.1 h0
    exact (len_byt (by omega)).append h
  · rw [if_neg h0]
    exact fun z hz => by simp at hz

set_option maxRecDepth 100000 in
set_option maxHeartbeats 4000000 in
theorem msgencodes_walk {a : Nat → Addr} (w : World) (hs : Sen w.heap.size a w) (v : Value) (xs : List Int) (hb : Bs w v xs) (hlen : xs.length ≤ 140737488351232) (most : Int) :
    Calls Tryd.prog 7 #[v, .int .i64 most] w fun e w' => e = .returned (.bool true) ∧ Below w.heap.size w w' := by
  have HB := Lib.hid hb
  have HS := Lib.hid hs
  obtain ⟨A, n, c, rfl, hN, hby, hr, hncap⟩ := hb
  have HNx := Lib.hid hN
  have hn47 : n ≤ 140737488351232 := by omega
  obtain ⟨nw, hnw⟩ : ∃ q : Nat, n + 2 = q := ⟨_, rfl⟩
  have hnwI : (n : Int) + 2 = (nw : Int) := by omega
  have HNw : Hid (n + 2 = nw ∧ nw ≤ 140737488355328) := ⟨hnw, by omega⟩
  have HR := Lib.hid hr
  have HY := Lib.hid hby
  clear hs hr hby hN hlen hnw hncap
  go_enter Tryd.func7, Tryd.ntmps7
  go_wp2_with fail
  refine (fixed_any _ HS.out (Nat.le_refl _)).mono ?_
  rintro e w1 ⟨rfl, k1⟩
  have HC1 := Lib.hid k1
  clear k1
  go_wp2_with fail
  refine (rencode_any w1 _ xs (HB.out.chg HC1.out fun _ _ f => f) most).mono ?_
  rintro e w2 ⟨vw, rfl, q1, q2⟩
  obtain ⟨Aw, cw, rfl, _, _⟩ := q1.slice
  obtain ⟨E, hE⟩ : ∃ E, enR most xs = E := ⟨_, rfl⟩
  obtain ⟨el, hel⟩ : ∃ q, E.length = q := ⟨_, rfl⟩
  have HEl : Hid (enR most xs = E ∧ E.length = el) := ⟨hE, hel⟩
  obtain ⟨cd, hcd⟩ : ∃ q, enC most xs = q := ⟨_, rfl⟩
  have HCd : Hid (enC most xs = cd ∧ cd ≤ 42) := ⟨hcd, by rw [← hcd]; exact enC_le _ _⟩
  rw [hE, hel] at q1 ⊢
  rw [hcd]
  have HW2 := Lib.hid q1
  have HC2 : Hid (Chg none_ w w2) := HC1.out.trans q2
  clear hE hel hcd q1 q2
  go_wp2_with (refine wpList_make_room rfl _ _ rfl rfl _ rfl nw rfl HNw.out.2 (base := w2.heap.size) (Nat.le_refl _) ?_)
  intro w3 k1 c3
  have HC3 : Hid (Chg none_ w w3) := HC2.out.trans c3
  have h23 : w2.heap.size ≤ w3.heap.size := c3.size
  have H3 := Lib.hid k1
  have HC23 := Lib.hid c3
  clear k1 c3
  go_wp2_with (at_builtin; refine wpList_append_bytes rfl (.tmp 26) (.tmp 27) rfl rfl H3.out A n c xs rfl HNx.out (HR.out.keep (HC3.out.old (Nat.le_refl _))) ?hb1 h23 ?_)
  case hb1 => omega
  intro v4 w4 k1 k2 k3
  have k1' : Ob w4 w2.heap.size 5 v4 n (xs.map (Value.int .u8)) := by simpa using k1
  have HC4 : Hid (Chg none_ w2 w4) := HC23.out.then (grown_chg k2) fun k hk hb => by have := (H3.out.block k hb).1; omega
  obtain ⟨A4, c4, rfl, _, _⟩ := k1'.slice
  have H4 : Hid (Ob (w4.alloc (.cells #[.int .u8 91, .int .u8 92] 5)) w2.heap.size 5 (.slice A4 n c4) n (xs.map (Value.int .u8))) := k1'.chg ((Chg.refl none_ w4).alloc _) (fun _ _ f => f)
  have HB4 : Hid (Bs (w4.alloc (.cells #[.int .u8 91, .int .u8 92] 5)) (.slice (some ⟨w4.heap.size, 0, none⟩) 2 2) [91, 92]) := bs_const w4 [91, 92] (by intro z hz; simp at hz; omega) _
  have h24 : w2.heap.size ≤ (w4.alloc (.cells #[.int .u8 91, .int .u8 92] 5)).heap.size := Nat.le_trans HC4.out.size (by simp)
  clear k1 k1' k2 k3
  go_wp2_with (at_builtin; refine wpList_append_bytes rfl (.tmp 28) (.tmp 29) rfl rfl H4.out (some ⟨w4.heap.size, 0, none⟩) 2 2 [91, 92] rfl rfl HB4.out.rdG ?hb2 h24 ?_)
  case hb2 => have := HNw.out; omega
  intro v5 w5 k1 k2 k3
  replace k1 : Ob w5 w2.heap.size 5 v5 (n + 2) ((xs ++ [91, 92]).map (Value.int .u8)) := by rw [List.map_append]; exact k1
  have HC5 : Hid (Chg none_ w2 w5) := (HC4.out.alloc _).then (grown_chg k2) fun k hk hb => by have := (H4.out.block k hb).1; omega
  obtain ⟨A5, c5, rfl, hc5, hm5⟩ := k1.slice
  rw [HNw.out.1] at k1 hc5 ⊢
  have H5 := Lib.hid k1
  clear k1 k2 k3
  have HXs : Hid (Byt (xs ++ [91, 92])) := HY.out.append (by intro z hz; simp at hz; omega)
  have HBf : Hid (Bs w5 (.slice A5 n c5) xs) := by
    have h := (Bs.of_ob H5.out HXs.out).front (m := n) (by have := HNw.out; omega)
    rw [← HNx.out, List.take_left, HNx.out] at h
    exact h
  have HCw5 : Hid (Chg none_ w w5) := HC2.out.trans HC5.out
  have hnc5 : n ≤ c5 := by have := HNw.out; omega
  have hncI : (n : Int) ≤ (c5 : Int) := by omega
  have hnI : (0 : Int) ≤ (n : Int) := by omega
  go_wp2_with fail
  refine (encode_any w5 (HS.out.below (HCw5.out.old (Nat.le_refl _))) _ xs HBf.out most).mono ?_
  rintro e w6 ⟨va, rfl, q1, q2⟩
  obtain ⟨Aa, ca, rfl, _, _⟩ := q1.slice
  rw [HEl.out.1, HEl.out.2] at q1 ⊢
  rw [HCd.out.1]
  have HA6 := Lib.hid q1
  have HC6 := Lib.hid q2
  have HCw6 : Hid (Chg none_ w w6) := HCw5.out.trans q2
  clear q1 q2
  go_wp2_with fail
  refine (encode_any w6 (HS.out.below (HCw6.out.old (Nat.le_refl _))) _ xs (HBf.out.chg HC6.out fun _ _ f => f) most).mono ?_
  rintro e w7 ⟨vb, rfl, q1, q2⟩
  obtain ⟨Ab, cb, rfl, _, _⟩ := q1.slice
  rw [HEl.out.1, HEl.out.2] at q1 ⊢
  rw [HCd.out.1]
  have HB7 := Lib.hid q1
  have HC7 := Lib.hid q2
  have HCw7 : Hid (Chg none_ w w7) := HCw6.out.trans q2
  clear q1 q2
  have HBE : Hid (Bs w7 (.slice Aw el cw) E ∧ Bs w7 (.slice Aa el ca) E ∧ Bs w7 (.slice Ab el cb) E) := by
    have hbE : Byt E := by rw [← HEl.out.1]; exact enR_byt HY.out
    have hw := (HW2.out.chg HC5.out (fun _ _ f => f)).chg HC6.out (fun _ _ f => f)
    exact ⟨Bs.of_ob (hw.chg HC7.out (fun _ _ f => f)) hbE, Bs.of_ob (HA6.out.chg HC7.out (fun _ _ f => f)) hbE, Bs.of_ob HB7.out hbE⟩
  have HX7 : Hid (Ob w7 w2.heap.size 5 (.slice A5 nw c5) nw ((xs ++ [91, 92]).map (Value.int .u8))) := (H5.out.chg HC6.out (fun _ _ f => f)).chg HC7.out (fun _ _ f => f)
  have HBf7 : Hid (Bs w7 (.slice A5 n c5) xs) := (HBf.out.chg HC6.out fun _ _ f => f).chg HC7.out fun _ _ f => f
  have HBm7 : Hid (Bs w7 (.slice A n c) xs) := HB.out.chg HCw7.out fun _ _ f => f
  obtain ⟨a5, rfl, hc5⟩ : ∃ a5, A5 = some a5 ∧ ∀ i, i < nw → w7.cell? (a5.add i) = some (.int .u8 ((xs ++ [91, 92]).getD i 0)) := (Bs.of_ob HX7.out HXs.out).rdG (by have := HNw.out; omega)
  have cn0 : ∀ Q, (w7.drewN Q).cell? (a5.add n) = some (.int .u8 91) := fun Q => by
    have h := hc5 n (by have := HNw.out; omega)
    rw [List.getD_eq_getElem?_getD, List.getElem?_append_right (by rw [HNx.out]; exact Nat.le_refl _), HNx.out, Nat.sub_self] at h
    exact h
  obtain ⟨np, hnp⟩ : ∃ q : Nat, n + 1 = q := ⟨_, rfl⟩
  have cn1 : ∀ Q, (w7.drewN Q).cell? (a5.add np) = some (.int .u8 92) := fun Q => by
    have h := hc5 np (by have := HNw.out; omega)
    rw [List.getD_eq_getElem?_getD, List.getElem?_append_right (by rw [HNx.out]; omega), HNx.out, ← hnp, Nat.add_sub_cancel_left] at h
    rw [← hnp]
    exact h
  have hnpI : (n : Int) + 1 = (np : Int) := by omega
  have hnpw : IntKind.i64.wrap (np : Int) = (np : Int) := IntWalk.i64_in _ (by omega)
  have hnpl : (np : Int) < (nw : Int) := by omega
  have hnp0 : (0 : Int) ≤ (np : Int) := by omega
  have hnwl : (n : Int) < (nw : Int) := by omega
  have ks := fun (Q : Nat) {A : Option Addr} {n c : Nat} {ys : List Int} (h : Bs w7 (.slice A n c) ys) => run_str (P := Tryd.prog) (w := w7.drewN Q) (c := c) (A := A) (n := n) (xs := ys) 38 5 Tryd.underlying38 Tryd.underlying5 (by obtain ⟨_, _, _, e, hl, _⟩ := h; cases e; exact hl) (h.rdG.drewN Q)
  have kw : ∀ (Q : Nat) (dst : TypeId), Tryd.prog.underlying dst = some .string → (convert 38 dst (.slice Aw el cw)).run Tryd.prog (w7.drewN Q) = .ok (.string (strOfNums E)) (w7.drewN Q) := fun Q => ks Q HBE.out.1
  have ka : ∀ (Q : Nat) (dst : TypeId), Tryd.prog.underlying dst = some .string → (convert 38 dst (.slice Aa el ca)).run Tryd.prog (w7.drewN Q) = .ok (.string (strOfNums E)) (w7.drewN Q) := fun Q => ks Q HBE.out.2.1
  have kb : ∀ (Q : Nat) (dst : TypeId), Tryd.prog.underlying dst = some .string → (convert 38 dst (.slice Ab el cb)).run Tryd.prog (w7.drewN Q) = .ok (.string (strOfNums E)) (w7.drewN Q) := fun Q => ks Q HBE.out.2.2
  have kx : ∀ (Q : Nat) (dst : TypeId), Tryd.prog.underlying dst = some .string → (convert 38 dst (.slice (some a5) n c5)).run Tryd.prog (w7.drewN Q) = .ok (.string (strOfNums xs)) (w7.drewN Q) := fun Q => ks Q HBf7.out
  have km : ∀ (Q : Nat) (dst : TypeId), Tryd.prog.underlying dst = some .string → (convert 38 dst (.slice A n c)).run Tryd.prog (w7.drewN Q) = .ok (.string (strOfNums xs)) (w7.drewN Q) := fun Q => ks Q HBm7.out
  have HS7 : Hid (Sen w.heap.size a w7) := HS.out.below (HCw7.out.old (Nat.le_refl _))
  clear ks hc5 hnp
  go_wp2_with fail
  go_quiet ((go_at_call 30; refine Calls.quiet_of_same ((code_any _ (HS7.out.drewN _) cd HCd.out.2).mono fun e w' h => ⟨h.1, h.2.symm⟩)))
  obtain ⟨gA, hgA0, hgA1, hgA2⟩ : ∃ gA, w5.heap.size ≤ gA ∧ (0 < el → Aa = some ⟨gA, 0, none⟩ ∧ gA < w6.heap.size ∧ ∃ cur, Is w7 gA 5 cur ∧ el ≤ cur.size) ∧ (el = 0 → gA = w7.heap.size) := by
    rcases HA6.out.is_ with h | ⟨h0, g, c', cur, e, i, h1, h2⟩
    · exact ⟨w7.heap.size, Nat.le_trans HC6.out.size HC7.out.size, fun h' => by omega, fun _ => rfl⟩
    · cases e
      exact ⟨g, h2, fun _ => ⟨rfl, i.lt, cur, i.chg HC7.out (fun f => f), h1⟩, fun h' => by omega⟩
  have HgA : Hid (w5.heap.size ≤ gA ∧ (0 < el → Aa = some ⟨gA, 0, none⟩ ∧ gA < w6.heap.size) ∧ (el = 0 → gA = w7.heap.size)) := ⟨hgA0, fun h => ⟨(hgA1 h).1, (hgA1 h).2.1⟩, hgA2⟩
  have HI0 : Hid (0 < el → ∃ cur, Is w7 gA 5 cur ∧ el ≤ cur.size) := fun h => (hgA1 h).2.2
  clear hgA0 hgA1 hgA2
  have hel20 : el ≤ 1099511627776 := by
    rw [← HEl.out.2, ← HEl.out.1]
    unfold enR
    by_cases h0 : enC most xs = 0
    · rw [if_pos h0]
      have h1 := enC0.1 h0
      have := len_len xs.length
      unfold encB
      rw [List.length_append]
      omega
    · rw [if_neg h0]
      simp
  go_wp2_with fail
  go_loopw [99] (fun x99 wr => ∃ i : Nat, x99 = .int .i64 (i : Int) ∧ i ≤ el ∧ (0 < el → ∃ cur, Is wr gA 5 cur ∧ el ≤ cur.size) ∧ Chg (fun k => k = gA) w7 wr) (fun x99 _ => el - (intOf x99).toNat)
  case atStart => exact ⟨0, rfl, Nat.zero_le _, HI0.out, (Chg.refl _ w7).drewN _⟩
  case round =>
    obtain ⟨i, rfl, hi, hI, hc⟩ := hrel
    have HW := Lib.hid hc
    have HI := Lib.hid hI
    clear hc hI
    by_cases hlt : i < el
    · obtain ⟨rfl, _⟩ := HgA.out.2.1 (by omega)
      obtain ⟨cur, hi1, hi2⟩ := HI.out (by omega)
      have hcl : wr.cell? ⟨gA, i, none⟩ = some cur[i] := hi1.at_ i _ (Array.getElem?_eq_getElem (by omega))
      have hfr := hi1.frozen i
      have HIs := Lib.hid hi1
      have HIl := Lib.hid hi2
      generalize cur[i] = cu at hcl
      clear hi1 hi2
      go_wp2
      go_roundw
      case rel => exact ⟨i + 1, by go_num, by omega, fun _ => ⟨_, HIs.out.put i _, by rw [Array.size_setIfInBounds]; exact HIl.out⟩, HW.out.setCell (fun _ => rfl) _⟩
      case measure => simp [intOf]; omega
    · obtain ⟨gW, rfl, cur, hi1, hi2, hgW⟩ : ∃ gW, a5 = ⟨gW, 0, none⟩ ∧ ∃ cur, Is w7 gW 5 cur ∧ nw ≤ cur.size ∧ w2.heap.size ≤ gW := by
        rcases HX7.out.is_ with h | ⟨_, g, c', cur, e, i, h1, h2⟩
        · have := HNw.out; omega
        · cases e
          exact ⟨g, rfl, cur, i, h1, h2⟩
      have hgW2 : gW < w5.heap.size := by
        have h := H5.out.block gW
        rcases H5.out.is_ with h' | ⟨_, g, c', cur, e, i, h1, h2⟩
        · have := HNw.out; omega
        · cases e
          exact i.lt
      have hWA : gW ≠ gA := by have := HgA.out.1; omega
      have HgW : Hid (w2.heap.size ≤ gW ∧ gW < w5.heap.size) := ⟨hgW, hgW2⟩
      have HI2 : Hid (Is wr gW 5 cur ∧ nw ≤ cur.size) := ⟨hi1.chg HW.out hWA, hi2⟩
      have hnw47 : nw ≤ 140737488355328 := HNw.out.2
      clear hi1 hi2 hgW hgW2 hWA
      go_wp2_with fail
      go_loopw [108] (fun x108 wr => ∃ (i : Nat) (cur : Array Value), x108 = .int .i64 (i : Int) ∧ i ≤ nw ∧ (Is wr gW 5 cur ∧ nw ≤ cur.size) ∧ Chg (fun k => k = gA ∨ k = gW) w7 wr) (fun x108 _ => nw - (intOf x108).toNat)
      case atStart => exact ⟨0, cur, rfl, Nat.zero_le _, HI2.out, HW.out.more fun _ _ h => .inl h⟩
      case round =>
        obtain ⟨i, cur2, rfl, hi, hI, hc⟩ := hrel
        have HV := Lib.hid hc
        have HJ := Lib.hid hI
        clear hc hI
        by_cases hlt : i < nw
        · have hj : i < cur2.size := by have := HJ.out.2; omega
          have hcl : wr.cell? ⟨gW, i, none⟩ = some (cur2[i]'hj) := HJ.out.1.at_ i _ (Array.getElem?_eq_getElem (by have := HJ.out.2; omega))
          have hfr := HJ.out.1.frozen i
          generalize cur2[i]'hj = cu at hcl
          clear hj
          go_wp2
          go_roundw
          case rel => exact ⟨i + 1, _, by go_num, by omega, ⟨HJ.out.1.put i _, by rw [Array.size_setIfInBounds]; exact HJ.out.2⟩, HV.out.setCell (fun _ => .inr rfl) _⟩
          case measure => simp [intOf]; omega
        · have HbW : Hid (Bs wr (.slice Aw el cw) E) := HBE.out.1.chg HV.out fun k hk h => by
            have := HW2.out.block k (HW2.out.rdk k hk)
            have := HgA.out.1
            have := HgW.out
            have := HC5.out.size
            omega
          have HbB : Hid (Bs wr (.slice Ab el cb) E) := HBE.out.2.2.chg HV.out fun k hk h => by
            have := HB7.out.block k (HB7.out.rdk k hk)
            have := HgW.out
            have := HC6.out.size
            have hel0 : 0 < el := by
              rcases Nat.eq_zero_or_pos el with h | h
              · rw [h] at hk; cases Ab <;> simp [rdk] at hk
              · exact h
            have := HgA.out.2.1 hel0
            omega
          have ks := fun {A : Option Addr} {n c : Nat} {ys : List Int} (h : Bs wr (.slice A n c) ys) => run_str (P := Tryd.prog) (w := wr) (c := c) (A := A) (n := n) (xs := ys) 38 5 Tryd.underlying38 Tryd.underlying5 (by obtain ⟨_, _, _, e, hl, _⟩ := h; cases e; exact hl) h.rdG
          have kw2 := ks HbW.out
          have kb2 := ks HbB.out
          have HEnd : Hid (Below w.heap.size w wr) := (HCw7.out.then HV.out fun k hk h => by have := HgA.out.1; have := HgW.out; have := HC2.out.size; have := HC5.out.size; omega).old (Nat.le_refl _)
          clear ks
          go_wp2
          go_ret
          exact ⟨by simp, HEnd.out⟩
end Go.Proofs.YtpmncndicdlmhaaDoor
