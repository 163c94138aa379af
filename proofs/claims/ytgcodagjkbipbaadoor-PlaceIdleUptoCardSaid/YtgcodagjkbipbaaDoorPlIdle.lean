/-
  The walk of culvertlaw21.PlaceIdle (printed by gen_plidle.py), for lists of at most 1048576 loads.
  No condition of its own but that bound.
-/
import Derived.Test.YtgcodagjkbipbaaDoorPlFair
import Derived.Test.YtgcodagjkbipbaaDoorPlPks
namespace Go.Proofs.YtgcodagjkbipbaaDoor
open Go.RowKit

/-! ### What the bound on bulk gives -/
section
variable {H : Type}
theorem bulk_pos : ∀ d : DataW H, 1 ≤ Rows.uptoBulk d
  | .lit (.string b) => by simp [Rows.uptoBulk]
  | .lit (.int _ _) => by simp [Rows.uptoBulk]
  | .lit (.bool _) => by simp [Rows.uptoBulk]
  | .lit (.float _ _) => by simp [Rows.uptoBulk]
  | .lit .nil => by simp [Rows.uptoBulk]
  | .nil => by simp [Rows.uptoBulk]
  | .ptr d => by simp [Rows.uptoBulk]
  | .slice es sp => by simp [Rows.uptoBulk]
  | .agg ps => by simp [Rows.uptoBulk]
  | .iface _ d => by simp [Rows.uptoBulk]
  | .map es => by simp [Rows.uptoBulk]
  | .held _ => by simp [Rows.uptoBulk]
theorem bulk_len : ∀ ds : List (DataW H), ds.length ≤ Rows.uptoBulkAll ds
  | [] => by simp [Rows.uptoBulkAll]
  | d :: r => by
    have := bulk_pos d
    have := bulk_len r
    simp only [Rows.uptoBulkAll, List.length_cons]
    omega
theorem bulk_at : ∀ (ds : List (DataW H)) (j : Nat) (d : DataW H), ds[j]? = some d → Rows.uptoBulk d ≤ Rows.uptoBulkAll ds
  | [], _, _, h => by simp at h
  | d0 :: r, 0, d, h => by
    simp only [List.getElem?_cons_zero, Option.some.injEq] at h
    subst h
    simp only [Rows.uptoBulkAll]
    omega
  | d0 :: r, j + 1, d, h => by
    have := bulk_at r j d (by simpa using h)
    simp only [Rows.uptoBulkAll]
    omega
theorem upto_len {ds : List (DataW H)} (h : Rows.uptoSmall H ds = true) (j : Nat) {d : DataW H} (hj : ds[j]? = some d) {c : Nat} (hd : (d = .nil ∧ c = 0) ∨ ∃ es sp, d = .slice es sp ∧ es.length + sp.length = c) : c ≤ 1048576 := by
  have h1 : Rows.uptoBulkAll ds ≤ 1048576 := of_decide_eq_true h
  have h2 := bulk_at ds j d hj
  rcases hd with ⟨_, rfl⟩ | ⟨es, sp, rfl, rfl⟩
  · omega
  · have h3 := bulk_len es
    have h4 := bulk_len sp
    simp only [Rows.uptoBulk] at h2
    omega
end

/-! ### The plain law -/
/-- M's first t come of L's first k, with others that may not take a stream; at' tells where. -/
structure Ins (L : Nat → Ld) (m : Int) (k t : Nat) (M : Nat → Ld) (at' : Nat → Nat) : Prop where
  b : bst M m t = (bst L m k).map at'
  a : ∀ i, i < k → at' i < t ∧ (M (at' i)).op = (L i).op
theorem ins_zero (L M : Nat → Ld) (m : Int) (at' : Nat → Nat) : Ins L m 0 0 M at' := ⟨rfl, fun i h => by omega⟩
theorem cat_lt {M L' : Nat → Ld} {t i : Nat} (h : i < t) : catL M t L' i = M i := by unfold catL; rw [if_pos h]
theorem cat_at {M L' : Nat → Ld} {t : Nat} : catL M t L' t = L' 0 := by unfold catL; rw [if_neg (by omega), Nat.sub_self]
theorem ins_idle {L M : Nat → Ld} {m : Int} {k t : Nat} {at' : Nat → Nat} {x : Ld} (h : Ins L m k t M at') (hx : x.may m = false) : Ins L m k (t + 1) (catL M t fun _ => x) at' := by
  refine ⟨?_, fun i hi => ?_⟩
  · rw [bst_skip (by rw [cat_at]; exact hx), bst_congr m t (fun i hi => cat_lt hi)]
    exact h.b
  · obtain ⟨h1, h2⟩ := h.a i hi
    exact ⟨by omega, by rw [cat_lt h1]; exact h2⟩
theorem ins_load {L M : Nat → Ld} {m : Int} {k t : Nat} {at' : Nat → Nat} {y : Ld} (h : Ins L m k t M at') (hm : y.may m = (L k).may m) (ho : y.op = (L k).op) : Ins L m (k + 1) (t + 1) (catL M t fun _ => y) (fun i => if i = k then t else at' i) := by
  have hb : bst (catL M t fun _ => y) m t = (bst L m k).map at' := by rw [bst_congr m t (fun i hi => cat_lt hi)]; exact h.b
  refine ⟨?_, fun i hi => ?_⟩
  · by_cases hmk : (L k).may m = true
    · have hmy : (catL M t (fun _ => y) t).may m = true := by rw [cat_at, hm]; exact hmk
      cases hL : bst L m k with
      | none =>
        rw [hL] at hb
        rw [bst_first hmk hL, bst_first hmy hb]
        simp
      | some p =>
        have hp := bst_lt hL
        obtain ⟨q1, q2⟩ := h.a p hp
        rw [hL] at hb
        have hop : (catL M t (fun _ => y) (at' p)).op = (L p).op := by rw [cat_lt q1]; exact q2
        have hot : (catL M t (fun _ => y) t).op = (L k).op := by rw [cat_at]; exact ho
        by_cases hl : (L k).op < (L p).op
        · rw [bst_less hmk hL hl, bst_less hmy hb (by rw [hop, hot]; exact hl)]
          simp
        · rw [bst_stay hL hl, bst_stay hb (by rw [hop, hot]; exact hl)]
          simp [show p ≠ k by omega]
    · have hmf : (L k).may m = false := by simpa using hmk
      rw [bst_skip hmf, bst_skip (by rw [cat_at, hm]; exact hmf), hb]
      cases hL : bst L m k with
      | none => rfl
      | some p =>
        have hp := bst_lt hL
        simp [show p ≠ k by omega]
  · by_cases e : i = k
    · subst e
      simp only [if_true]
      exact ⟨by omega, by rw [cat_at]; exact ho⟩
    · obtain ⟨q1, q2⟩ := h.a i (by omega)
      simp only [if_neg e]
      exact ⟨by omega, by rw [cat_lt q1]; exact q2⟩
theorem left_may {l : Ld} {m : Int} {k : Nat} (h : 1 ≤ l.lf) : (⟨l.live, l.dr, l.op, 1 + (k : Int)⟩ : Ld).may m = l.may m := by
  have h1 : decide (1 ≤ 1 + (k : Int)) = true := by simp; omega
  have h2 : decide (1 ≤ l.lf) = true := by simp [h]
  simp only [Ld.may, h1, h2]

/-! ### Blocks -/
/-- A block of the call's own that holds n ints, the first k of them known. -/
def At (w : World) (aa : Addr) (n k : Nat) (f : Nat → Nat) : Prop := ∃ g cur, aa = ⟨g, 0, none⟩ ∧ Is w g 3 cur ∧ cur.size = n ∧ (∀ i, i < n → ∃ z, cur[i]? = some (.int .i64 z)) ∧ ∀ i, i < k → cur[i]? = some (.int .i64 (f i : Int))
theorem At.chg {w w' : World} {aa : Addr} {n k : Nat} {f : Nat → Nat} (h : At w aa n k f) (hc : Chg none_ w w') : At w' aa n k f := by
  obtain ⟨g, cur, e, hi, hcc⟩ := h
  exact ⟨g, cur, e, hi.chg hc (fun f => f), hcc⟩
theorem At.froz {w : World} {aa : Addr} {n k : Nat} {f : Nat → Nat} (h : At w aa n k f) (p : Nat) : w.frozen? (aa.add p) = false := by
  obtain ⟨g, cur, rfl, hI, hc⟩ := h
  rw [add_zero_off]
  exact hI.frozen _
theorem At.val {w : World} {aa : Addr} {n k i : Nat} {f : Nat → Nat} (h : At w aa n k f) (hi : i < n) : ∃ z, w.cell? (aa.add i) = some (.int .i64 z) := by
  obtain ⟨g, cur, rfl, hI, _, hz, _⟩ := h
  obtain ⟨z, hz⟩ := hz i hi
  rw [add_zero_off]
  exact ⟨z, hI.at_ _ _ hz⟩
theorem At.cell {w : World} {aa : Addr} {n k i : Nat} {f : Nat → Nat} (h : At w aa n k f) (hi : i < k) : w.cell? (aa.add i) = some (.int .i64 (f i : Int)) := by
  obtain ⟨g, cur, rfl, hI, _, _, hc⟩ := h
  rw [add_zero_off]
  exact hI.at_ _ _ (hc i hi)
theorem At.put {w : World} {aa : Addr} {n k t : Nat} {f : Nat → Nat} (h : At w aa n k f) (hk : k < n) (v : Int) (hv : v = (t : Int)) : At (w.setCell (aa.add k) (.int .i64 v)) aa n (k + 1) (fun i => if i = k then t else f i) := by
  subst hv
  obtain ⟨g, cur, rfl, hI, hs, hz, hc⟩ := h
  rw [add_zero_off]
  refine ⟨g, _, rfl, hI.put k _, by simpa using hs, fun i hi => ?_, fun i hi => ?_⟩
  · rw [Array.getElem?_setIfInBounds]
    by_cases e : k = i
    · rw [if_pos e, if_pos (by omega)]
      exact ⟨_, rfl⟩
    · rw [if_neg e]
      exact hz i hi
  · rw [Array.getElem?_setIfInBounds]
    by_cases e : i = k
    · subst e
      rw [if_pos rfl, if_pos (by omega)]
      simp
    · rw [if_neg (fun h => e h.symm), hc i (by omega)]
      simp [e]
theorem At.far {w : World} {aa b : Addr} {n k : Nat} {f : Nat → Nat} (h : At w aa n k f) (hb : aa.block ≠ b.block) (u : Value) : At (w.setCell b u) aa n k f := by
  obtain ⟨g, cur, rfl, hI, hc⟩ := h
  exact ⟨g, cur, rfl, hI.far hb u, hc⟩
theorem At.low {w : World} {aa : Addr} {n k : Nat} {f : Nat → Nat} (h : At w aa n k f) : aa.block < w.heap.size := by
  obtain ⟨g, cur, rfl, hI, hc⟩ := h
  exact hI.lt
/-- A row of loads is no block of ints. -/
theorem own_ne {w : World} {base : Nat} {v : Value} {t : Nat} {xs : List Value} {aa : Addr} {n k : Nat} {f : Nat → Nat} (h : w.ownsRow base 72 4 v t xs) (ha : At w aa n k f) : v.ownBlock ≠ some aa.block := fun e => by
  obtain ⟨g, cur, rfl, hI, hc⟩ := ha
  rcases h.2 with ⟨hv, _⟩ | ⟨g', cap, cur', hv, _, hg, _⟩
  · rw [hv] at e
    cases e
  · rw [hv] at e
    injection e with e
    simp only at e
    subst e
    have hI' : w.heap[g']? = some (.cells cur 3 (0, 0)) := hI
    rw [hg] at hI'
    injection hI' with hI'
    injection hI' with _ h2
    revert h2
    decide
theorem At.grown {w w' : World} {row : Option Nat} {aa : Addr} {n k : Nat} {f : Nat → Nat} (h : At w aa n k f) (hg : w.grownBy w' row) (hr : row ≠ some aa.block) : At w' aa n k f := by
  obtain ⟨g, cur, rfl, hI, hc⟩ := h
  exact ⟨g, cur, rfl, (hg.block g hI.lt (fun e => hr (e ▸ rfl))).trans hI, hc⟩
theorem own_far {w : World} {base : Nat} {v : Value} {t : Nat} {xs : List Value} (h : w.ownsRow base 72 4 v t xs) (b : Addr) (hb : v.ownBlock ≠ some b.block) (u : Value) : (w.setCell b u).ownsRow base 72 4 v t xs := ownsRow_setCell_other h hb u


/-- append(v, loads...), v of the call's own; where the new row lies. -/
theorem wpList_append_cat_at {w : World} {ops : Array Oper} {rest : List Oper} {o : Oper} {a : Act} {Q : Exit → Act → World → Prop} (hgd : o.guard = none) (s x : Operand)
    (ho : o.op = .call { callee := .builtin .append, args := #[s, x], argTypes := #[76, 76] })
    (base : Nat) (hbase : base ≤ w.heap.size) (v : Value) (k : Nat) (L : Nat → Ld) (hs : a.eval s = v) (hown : w.ownsRow base 72 4 v k (rowL L k))
    (ad : Addr) (n c : Nat) (L' : Nat → Ld) (hx : a.eval x = .slice (some ad) n c) (hr : Lds w (some ad) n L') (hb : (k + n) * 24 ≤ 140737488355328)
    (h : ∀ v' w', w'.ownsRow base 72 4 v' (k + n) (rowL (catL L k L') (k + n)) → w.grownBy w' v.ownBlock → (v'.ownBlock = v.ownBlock ∨ v'.ownBlock = some w.heap.size) → wpList Tryd.prog ops Q rest (a.put o.dst v') w') : wpList Tryd.prog ops Q (o :: rest) a w := by
  obtain ⟨i0, hi, hz0, hz1, hz2⟩ := info_parts Tryd.infoLd
  have h63 : k + n ≤ maxLen := by simp only [maxLen]; omega
  refine wpList_append_own_at _ hgd s x _ ho base 72 i0 _ 4 24 Tryd.underlying76 hi hz0 hz1 hz2 rfl (by decide) v k (rowL L k) hs hown ad n c (rowL L' n) hx (rowL_len L' n) (rowL_cells hr) rowL_one h63 (by omega) hbase ?_
  intro v' w' h1 h2 _ h4
  refine h v' w' ?_ h2 h4
  rwa [rowL_cat] at h1
theorem lds_one {w : World} (y : Ld) : Lds (w.alloc (.cells #[.bool y.live, .bool y.dr, .int .i64 y.op, .int .i64 y.lf] 72)) (some ⟨w.heap.size, 0, none⟩) 1 (fun _ => y) :=
  (lds_flat (xs := [y]) (Is.new w 72 _)).congr fun i hi => by
    have hi' : i < 1 := hi
    obtain rfl : i = 0 := by omega
    rfl
theorem lds_one' {w : World} (y : Ld) (g : Nat) (hg : g = w.heap.size) : Lds (w.alloc (.cells #[.bool y.live, .bool y.dr, .int .i64 y.op, .int .i64 y.lf] 72)) (some ⟨g, 0, none⟩) 1 (fun _ => y) := by
  subst hg
  exact lds_one y
theorem Tryd.infoIn : (Tryd.prog.info? 3).map (fun i => (i.zero, i.size, i.bytes)) = some (some (.int .i64 0), 1, 8) := by kernel_rfl
theorem lds_of_own {w : World} {base : Nat} {Av : Option Addr} {t cv : Nat} {M : Nat → Ld} (h : w.ownsRow base 72 4 (.slice Av t cv) t (rowL M t)) : Lds w Av t M := by
  obtain ⟨A, c, e, hl⟩ := lds_own h
  injection e with e _ _
  subst e
  exact hl
theorem own_grown_ne {w : World} {base : Nat} {v : Value} {t : Nat} {xs : List Value} (h : w.ownsRow base 72 4 v t xs) {g : Nat} (hg : w.heap.size ≤ g) : v.ownBlock ≠ some g := fun e => by
  have := (h.lt g e).2
  omega
theorem Is.grown {w w' : World} {row : Option Nat} {g : Nat} {t : TypeId} {cs : Array Value} (h : Is w g t cs) (hg : w.grownBy w' row) (hr : row ≠ some g) : Is w' g t cs := (hg.block g h.lt (fun e => hr (e ▸ rfl))).trans h

set_option maxRecDepth 100000 in
set_option maxHeartbeats 8000000 in
theorem idle_walk {a : Nat → Addr} (w : World) (hs : Sen w.heap.size a w) (A A' : Option Addr) (n c n' c' : Nat) (L L' : Nat → Ld) (m : Int) (hr : Lds w A n L) (hr' : Lds w A' n' L') (hnil : A = none → c = 0) (hn : n ≤ 1048576) :
    Calls Tryd.prog 10 #[.slice A n c, .slice A' n' c', .int .i64 m] w fun e w' => e = .returned (.bool true) ∧ Below w.heap.size w w' := by
  have hB : w.heap.size ≤ w.heap.size := Nat.le_refl _
  have HS := Lib.hid hs
  have HR := Lib.hid hr
  have HR' := Lib.hid hr'
  have HN := Lib.hid hnil
  clear hs hr hr' hnil
  have hn63 : n ≤ 4611686018427387904 := by omega
  go_enter Tryd.func10, Tryd.ntmps10
  go_wp2_with fail
  refine (pfixed_any w HS.out hB).mono ?_
  rintro e w1 ⟨rfl, c1⟩
  have HC1 := Lib.hid c1
  have hsz := c1.size
  clear c1
  go_wp2_with (at_builtin; refine wpList_append_lds rfl (.tmp 18) (.tmp 19) rfl w1.heap.size ?b1 _ rfl ?b2 A n c L rfl ?b3 HN.out (by omega) ?_)
  case b1 => simp
  case b2 => exact World.ownsRow_made w1 #[] 0 (Nat.le_refl _) (by decide) rfl
  case b3 => exact HR.out.chg (by decide) (HC1.out.alloc _) (fun _ _ _ f => f)
  intro v2 w2 hown hg2
  obtain ⟨A2, cc, rfl, h2⟩ := lds_own hown
  have HC2 := Lib.hid (chg_grown (HC1.out.alloc _) hg2 hsz)
  have H2 := Lib.hid h2
  clear hown hg2 h2
  go_wp2_with fail
  refine (pick_any w2 (HS.out.below (HC2.out.old hB)) HC2.out.size A2 n cc L m hn63 H2.out).mono ?_
  rintro e w3 ⟨rfl, k3⟩
  have HC3 := Lib.hid (HC2.out.trans k3)
  clear k3 H2 HC2 HC1 hsz
  obtain ⟨ib, HI⟩ := info_parts Tryd.infoIn
  have HIB := Lib.hid HI
  clear HI
  go_wp2_with (at_make; refine wpList_make_full _ rfl _ _ 22 rfl w.heap.size 3 ib _ 1 Tryd.underlying22 HIB.out.1 HIB.out.2.1 HIB.out.2.2.1 _ _ _ _ n rfl rfl rfl rfl ?m1 ?m2 HC3.out.size ?_)
  case m1 => rw [HIB.out.2.2.2]; omega
  case m2 => simp only [maxLen]; omega
  intro w4 hown4 hg4
  have HC4 : Hid (Chg none_ w w4) := HC3.out.grown hg4 (fun k e => by cases e)
  have HT4 : Hid (At w4 ⟨w3.heap.size, 0, none⟩ n 0 (fun _ => 0)) := by
    rcases hown4.2 with ⟨hv, _⟩ | ⟨g, cap, cur, hv, _, hgg, _, _, hcs, htk⟩
    · cases hv
    · injection hv with hv _ hv2
      injection hv with hv
      injection hv with hv _
      subst hv hv2
      refine ⟨_, cur, rfl, hgg, by omega, fun i hi => ⟨0, ?_⟩, fun i hi => by omega⟩
      have h1 : (cur.toList.take (n * 1))[i]? = some (.int .i64 0) := by
        rw [htk, toList_madeCells_one, List.getElem?_replicate, if_pos (by omega)]
      rw [List.getElem?_take, if_pos (by omega)] at h1
      simpa using h1
  have hbg : w.heap.size ≤ w3.heap.size := HC3.out.size
  generalize hgg : (⟨w3.heap.size, 0, none⟩ : Addr) = aa at HT4
  have HAA : Hid (w.heap.size ≤ aa.block) := by rw [← hgg]; exact hbg
  clear hgg hbg hown4 hg4 HC3
  go_wp2_with fail
  go_loopw [9, 30] (fun xv xi wr => ∃ (k t : Nat) (Av : Option Addr) (cv : Nat) (M : Nat → Ld) (f : Nat → Nat), k ≤ n ∧ t ≤ 2 * k ∧ xi = .int .i64 k ∧ xv = .slice Av t cv ∧ Hid (Ins L m k t M f) ∧ wr.ownsRow w.heap.size 72 4 (.slice Av t cv) t (rowL M t) ∧ At wr aa n k f ∧ Chg none_ w wr) (fun _ xi _ => n - (intOf xi).toNat)
  case atStart => exact ⟨0, 0, none, 0, L, fun _ => 0, by omega, by omega, rfl, rfl, ins_zero _ _ _ _, World.ownsRow_nil _ _ _ _, HT4.out, HC4.out⟩
  case round =>
    clear HT4 HC4
    obtain ⟨k, t, Av, cv, M, f, hk, htk, rfl, rfl, HIns, hown, hA, hg⟩ := hrel
    by_cases hkn : k < n
    · have hkI : (k : Int) < (n : Int) := by omega
      obtain ⟨ad, rfl, hcell⟩ := HR.out (by omega)
      clear hcell
      have H5 := HR.out.chg (by decide) hg (fun _ _ _ f => f)
      obtain ⟨x0, x1, x2, x3⟩ := ldAt H5 hkn
      clear H5
      have HO := Lib.hid hown
      have HA := Lib.hid hA
      have HG := Lib.hid hg
      have hlow := Lib.hid hA.low
      clear hown hA hg
      have HIa : Hid (Is (wr.alloc (.cells (ldC (L k)) 72)) wr.heap.size 72 (ldC (L k))) := Is.new wr _ _
      by_cases hki : k < n'
      · have hkiI : (k : Int) < (n' : Int) := by omega
        obtain ⟨ad', rfl, hcell⟩ := HR'.out (by omega)
        clear hcell
        have H6 := HR'.out.chg (by decide) (HG.out.alloc (.cells (ldC (L k)) 72)) (fun _ _ _ f => f)
        obtain ⟨z0, z1, z2, z3⟩ := ldAt H6 hki
        unfold ldC at z0 z1 z2 z3
        clear H6
        cases hmi : (L' k).may m with
        | false =>
          have HM := Lib.hid hmi
          clear hmi
          have HIns1 := Lib.hid (ins_idle HIns.out HM.out)
          have HIns1 := Lib.hid (ins_idle HIns.out HM.out)
          go_wp2_with (first
            | (go_at_call 42; refine (may_c _ (L' k) m false HM.out).mono ?_; rintro e wb ⟨rfl, kb⟩; have HGb := Lib.hid ((HG.out.alloc _).trans kb); have HIb := Lib.hid (HIa.out.chg kb (fun f => f)); have HOb := Lib.hid (own_chg (HO.out.alloc _) kb); have HAb := Lib.hid ((HA.out.chg ((Chg.refl none_ wr).alloc _)).chg kb); have H7 := HR'.out.chg (by decide) HGb.out (fun _ _ _ f => f); obtain ⟨y0, y1, y2, y3⟩ := ldAt H7 hki; clear H7 kb z0 z1 z2 z3)
            | (at_builtin; refine wpList_append_cat_at rfl (.tmp 48) (.tmp 53) rfl w.heap.size (HGb.out.alloc _).size (.slice Av t cv) t M rfl (HOb.out.alloc _) ⟨wb.heap.size, 0, none⟩ 1 1 (fun _ => L' k) rfl (lds_one (L' k)) (by omega) ?_))
          intro v1 w1 hown1 hg1 hb1
          have HBN1 : Hid (v1.ownBlock ≠ some wr.heap.size) := fun e => by
            rcases hb1 with h | h
            · rw [h] at e
              exact own_grown_ne HO.out (Nat.le_refl _) e
            · rw [h] at e
              have := HIb.out.lt
              simp at e
              omega
          have HI1 := Lib.hid ((HIb.out.alloc _).grown hg1 (own_grown_ne HO.out (Nat.le_refl _)))
          have HA1 := Lib.hid ((HAb.out.chg ((Chg.refl none_ wb).alloc _)).grown hg1 (own_ne HOb.out HAb.out))
          have HG1 : Hid (Chg none_ w w1) := (HGb.out.alloc _).grown hg1 (fun g e h => by have := (HOb.out.lt g e).1; omega)
          obtain ⟨Av1, cv1, rfl⟩ := own_slice hown1
          have HO1 := Lib.hid hown1
          clear hown1 hg1 hb1 y0 y1 y2 y3 x0 x1 x2 x3 HIb HOb HAb HGb
          have HA2 : Hid (At ((w1).setCell (aa.add k) (.int .i64 ((t : Int) + 1))) aa n (k + 1) (fun i => if i = k then t + 1 else f i)) := HA1.out.put hkn _ (by omega)
          have hne : Hid (aa.block ≠ wr.heap.size) := Nat.ne_of_lt hlow.out
          have HI2 : Hid (Is ((w1).setCell (aa.add k) (.int .i64 ((t : Int) + 1))) wr.heap.size 72 (ldC (L k))) := HI1.out.far (by rw [block_add]; exact hne.out.symm) _
          have HO2 : Hid (((w1).setCell (aa.add k) (.int .i64 ((t : Int) + 1))).ownsRow w.heap.size 72 4 (.slice Av1 (t + 1) cv1) (t + 1) (rowL (catL M t fun _ => L' k) (t + 1))) := own_far HO1.out (aa.add k) (by rw [block_add]; exact own_ne HO1.out HA1.out) _
          have HG2 : Hid (Chg none_ w ((w1).setCell (aa.add k) (.int .i64 ((t : Int) + 1)))) := HG1.out.setCell (p := aa.add k) (fun h => by rw [block_add] at h; have := HAA.out; omega) _
          obtain ⟨zz, hz⟩ := HA1.out.val hkn
          have hzf := HA1.out.froz k
          have q0 : ((w1).setCell (aa.add k) (.int .i64 ((t : Int) + 1))).cell? ⟨wr.heap.size, 0, none⟩ = some (.bool (L k).live) := HI2.out.at_ 0 _ rfl
          have q1 : ((w1).setCell (aa.add k) (.int .i64 ((t : Int) + 1))).cell? ⟨wr.heap.size, 1, none⟩ = some (.bool (L k).dr) := HI2.out.at_ 1 _ rfl
          have q2 : ((w1).setCell (aa.add k) (.int .i64 ((t : Int) + 1))).cell? ⟨wr.heap.size, 2, none⟩ = some (.int .i64 (L k).op) := HI2.out.at_ 2 _ rfl
          have q3 : ((w1).setCell (aa.add k) (.int .i64 ((t : Int) + 1))).cell? ⟨wr.heap.size, 3, none⟩ = some (.int .i64 (L k).lf) := HI2.out.at_ 3 _ rfl
          have HBN : Hid ((Value.slice Av1 (t + 1) cv1).ownBlock ≠ some wr.heap.size) := HBN1.out
          by_cases hlf : 1 ≤ (L k).lf
          · have hwr : IntKind.i64.wrap (1 + (k : Int)) = 1 + (k : Int) := IntWalk.i64_in _ (by omega)
            have HI3 : Hid (Is (((w1).setCell (aa.add k) (.int .i64 ((t : Int) + 1))).setCell ⟨wr.heap.size, 3, none⟩ (.int .i64 (1 + (k : Int)))) wr.heap.size 72 (ldC (⟨(L k).live, (L k).dr, (L k).op, 1 + (k : Int)⟩ : Ld))) := HI2.out.put 3 _
            have qf := HI2.out.frozen 3
            have HA3 : Hid (At (((w1).setCell (aa.add k) (.int .i64 ((t : Int) + 1))).setCell ⟨wr.heap.size, 3, none⟩ (.int .i64 (1 + (k : Int)))) aa n (k + 1) (fun i => if i = k then t + 1 else f i)) := HA2.out.far hne.out _
            have HO3 : Hid ((((w1).setCell (aa.add k) (.int .i64 ((t : Int) + 1))).setCell ⟨wr.heap.size, 3, none⟩ (.int .i64 (1 + (k : Int)))).ownsRow w.heap.size 72 4 (.slice Av1 (t + 1) cv1) (t + 1) (rowL (catL M t fun _ => L' k) (t + 1))) := own_far HO2.out ⟨wr.heap.size, 3, none⟩ HBN.out _
            have HG3 : Hid (Chg none_ w (((w1).setCell (aa.add k) (.int .i64 ((t : Int) + 1))).setCell ⟨wr.heap.size, 3, none⟩ (.int .i64 (1 + (k : Int))))) := HG2.out.setCell (p := ⟨wr.heap.size, 3, none⟩) (fun h => by have := HG.out.size; simp only at h; omega) _
            have u0 : (((w1).setCell (aa.add k) (.int .i64 ((t : Int) + 1))).setCell ⟨wr.heap.size, 3, none⟩ (.int .i64 (1 + (k : Int)))).cell? ⟨wr.heap.size, 0, none⟩ = some (.bool (L k).live) := HI3.out.at_ 0 _ rfl
            have u1 : (((w1).setCell (aa.add k) (.int .i64 ((t : Int) + 1))).setCell ⟨wr.heap.size, 3, none⟩ (.int .i64 (1 + (k : Int)))).cell? ⟨wr.heap.size, 1, none⟩ = some (.bool (L k).dr) := HI3.out.at_ 1 _ rfl
            have u2 : (((w1).setCell (aa.add k) (.int .i64 ((t : Int) + 1))).setCell ⟨wr.heap.size, 3, none⟩ (.int .i64 (1 + (k : Int)))).cell? ⟨wr.heap.size, 2, none⟩ = some (.int .i64 (L k).op) := HI3.out.at_ 2 _ rfl
            have u3 : (((w1).setCell (aa.add k) (.int .i64 ((t : Int) + 1))).setCell ⟨wr.heap.size, 3, none⟩ (.int .i64 (1 + (k : Int)))).cell? ⟨wr.heap.size, 3, none⟩ = some (.int .i64 (1 + (k : Int))) := HI3.out.at_ 3 _ rfl
            have HIns3 := Lib.hid (ins_load (y := (⟨(L k).live, (L k).dr, (L k).op, 1 + (k : Int)⟩ : Ld)) HIns1.out (left_may hlf) rfl)
            go_wp2_with (first | (at_builtin; go_loud (refine wpList_append_cat_at rfl (.tmp 66) (.tmp 68) rfl w.heap.size (HG3.out.alloc _).size (.slice Av1 (t + 1) cv1) (t + 1) (catL M t fun _ => L' k) rfl (HO3.out.alloc _) ⟨(w1).heap.size, 0, none⟩ 1 1 (fun _ => (⟨(L k).live, (L k).dr, (L k).op, 1 + (k : Int)⟩ : Ld)) rfl (lds_one' (w := (((w1).setCell (aa.add k) (.int .i64 ((t : Int) + 1))).setCell ⟨wr.heap.size, 3, none⟩ (.int .i64 (1 + (k : Int))))) ((⟨(L k).live, (L k).dr, (L k).op, 1 + (k : Int)⟩ : Ld)) _ (by simp [World.setCell])) (by omega) ?_)))
            intro v4 w4 hown4 hg4 hb4
            obtain ⟨Av4, cv4, rfl⟩ := own_slice hown4
            have HA4 := (HA3.out.chg ((Chg.refl none_ _).alloc _)).grown hg4 (own_ne HO3.out HA3.out)
            have HG4 : Chg none_ w w4 := (HG3.out.alloc _).grown hg4 (fun g e h => by have := (HO3.out.lt g e).1; omega)
            go_wp2_with fail
            go_roundw
            case rel => exact ⟨k + 1, t + 1 + 1, Av4, cv4, _, _, by omega, by omega, by go_num, rfl, HIns3.out, hown4, HA4, HG4⟩
            case measure => simp [intOf]; omega
          · have hlf' : (L k).lf < 1 := by omega
            clear hlf
            have HA3 := HA2
            have HO3 := HO2
            have HG3 := HG2
            have HIns3 := Lib.hid (ins_load (y := L k) HIns1.out rfl rfl)
            go_wp2_with (first | (at_builtin; go_loud (refine wpList_append_cat_at rfl (.tmp 66) (.tmp 68) rfl w.heap.size (HG3.out.alloc _).size (.slice Av1 (t + 1) cv1) (t + 1) (catL M t fun _ => L' k) rfl (HO3.out.alloc _) ⟨(w1).heap.size, 0, none⟩ 1 1 (fun _ => L k) rfl (lds_one' (w := ((w1).setCell (aa.add k) (.int .i64 ((t : Int) + 1)))) (L k) _ (by simp [World.setCell])) (by omega) ?_)))
            intro v4 w4 hown4 hg4 hb4
            obtain ⟨Av4, cv4, rfl⟩ := own_slice hown4
            have HA4 := (HA3.out.chg ((Chg.refl none_ _).alloc _)).grown hg4 (own_ne HO3.out HA3.out)
            have HG4 : Chg none_ w w4 := (HG3.out.alloc _).grown hg4 (fun g e h => by have := (HO3.out.lt g e).1; omega)
            go_wp2_with fail
            go_roundw
            case rel => exact ⟨k + 1, t + 1 + 1, Av4, cv4, _, _, by omega, by omega, by go_num, rfl, HIns3.out, hown4, HA4, HG4⟩
            case measure => simp [intOf]; omega
        | true =>
          have HM := Lib.hid hmi
          clear hmi
          have HQ : Hid (∀ wb : World, Chg none_ (wr.alloc (.cells #[.bool (L k).live, .bool (L k).dr, .int .i64 (L k).op, .int .i64 (L k).lf] 72)) wb → Chg none_ w wb ∧ Is wb wr.heap.size 72 (ldC (L k)) ∧ wb.ownsRow w.heap.size 72 4 (.slice Av t cv) t (rowL M t) ∧ At wb aa n k f) := fun wb kb =>
            ⟨(HG.out.alloc _).trans kb, HIa.out.chg kb (fun f => f), own_chg (HO.out.alloc _) kb, (HA.out.chg ((Chg.refl none_ wr).alloc _)).chg kb⟩
          go_wp2_with fail
          refine (may_c _ (L' k) m true HM.out).mono ?_
          rintro e wb ⟨rfl, kb⟩
          have HG1 := Lib.hid (HQ.out wb kb).1
          have HI1 := Lib.hid (HQ.out wb kb).2.1
          have HO1 := Lib.hid (HQ.out wb kb).2.2.1
          have HA1 := Lib.hid (HQ.out wb kb).2.2.2
          have HIns1 := Lib.hid HIns.out
          clear kb HQ z0 z1 z2 z3 x0 x1 x2 x3
          have HA2 : Hid (At ((wb).setCell (aa.add k) (.int .i64 (t : Int))) aa n (k + 1) (fun i => if i = k then t else f i)) := HA1.out.put hkn _ (by omega)
          have hne : Hid (aa.block ≠ wr.heap.size) := Nat.ne_of_lt hlow.out
          have HI2 : Hid (Is ((wb).setCell (aa.add k) (.int .i64 (t : Int))) wr.heap.size 72 (ldC (L k))) := HI1.out.far (by rw [block_add]; exact hne.out.symm) _
          have HO2 : Hid (((wb).setCell (aa.add k) (.int .i64 (t : Int))).ownsRow w.heap.size 72 4 (.slice Av (t) cv) (t) (rowL (M) (t))) := own_far HO1.out (aa.add k) (by rw [block_add]; exact own_ne HO1.out HA1.out) _
          have HG2 : Hid (Chg none_ w ((wb).setCell (aa.add k) (.int .i64 (t : Int)))) := HG1.out.setCell (p := aa.add k) (fun h => by rw [block_add] at h; have := HAA.out; omega) _
          obtain ⟨zz, hz⟩ := HA1.out.val hkn
          have hzf := HA1.out.froz k
          have q0 : ((wb).setCell (aa.add k) (.int .i64 (t : Int))).cell? ⟨wr.heap.size, 0, none⟩ = some (.bool (L k).live) := HI2.out.at_ 0 _ rfl
          have q1 : ((wb).setCell (aa.add k) (.int .i64 (t : Int))).cell? ⟨wr.heap.size, 1, none⟩ = some (.bool (L k).dr) := HI2.out.at_ 1 _ rfl
          have q2 : ((wb).setCell (aa.add k) (.int .i64 (t : Int))).cell? ⟨wr.heap.size, 2, none⟩ = some (.int .i64 (L k).op) := HI2.out.at_ 2 _ rfl
          have q3 : ((wb).setCell (aa.add k) (.int .i64 (t : Int))).cell? ⟨wr.heap.size, 3, none⟩ = some (.int .i64 (L k).lf) := HI2.out.at_ 3 _ rfl
          have HBN : Hid ((Value.slice Av (t) cv).ownBlock ≠ some wr.heap.size) := own_grown_ne HO.out (Nat.le_refl _)
          by_cases hlf : 1 ≤ (L k).lf
          · have hwr : IntKind.i64.wrap (1 + (k : Int)) = 1 + (k : Int) := IntWalk.i64_in _ (by omega)
            have HI3 : Hid (Is (((wb).setCell (aa.add k) (.int .i64 (t : Int))).setCell ⟨wr.heap.size, 3, none⟩ (.int .i64 (1 + (k : Int)))) wr.heap.size 72 (ldC (⟨(L k).live, (L k).dr, (L k).op, 1 + (k : Int)⟩ : Ld))) := HI2.out.put 3 _
            have qf := HI2.out.frozen 3
            have HA3 : Hid (At (((wb).setCell (aa.add k) (.int .i64 (t : Int))).setCell ⟨wr.heap.size, 3, none⟩ (.int .i64 (1 + (k : Int)))) aa n (k + 1) (fun i => if i = k then t else f i)) := HA2.out.far hne.out _
            have HO3 : Hid ((((wb).setCell (aa.add k) (.int .i64 (t : Int))).setCell ⟨wr.heap.size, 3, none⟩ (.int .i64 (1 + (k : Int)))).ownsRow w.heap.size 72 4 (.slice Av (t) cv) (t) (rowL (M) (t))) := own_far HO2.out ⟨wr.heap.size, 3, none⟩ HBN.out _
            have HG3 : Hid (Chg none_ w (((wb).setCell (aa.add k) (.int .i64 (t : Int))).setCell ⟨wr.heap.size, 3, none⟩ (.int .i64 (1 + (k : Int))))) := HG2.out.setCell (p := ⟨wr.heap.size, 3, none⟩) (fun h => by have := HG.out.size; simp only at h; omega) _
            have u0 : (((wb).setCell (aa.add k) (.int .i64 (t : Int))).setCell ⟨wr.heap.size, 3, none⟩ (.int .i64 (1 + (k : Int)))).cell? ⟨wr.heap.size, 0, none⟩ = some (.bool (L k).live) := HI3.out.at_ 0 _ rfl
            have u1 : (((wb).setCell (aa.add k) (.int .i64 (t : Int))).setCell ⟨wr.heap.size, 3, none⟩ (.int .i64 (1 + (k : Int)))).cell? ⟨wr.heap.size, 1, none⟩ = some (.bool (L k).dr) := HI3.out.at_ 1 _ rfl
            have u2 : (((wb).setCell (aa.add k) (.int .i64 (t : Int))).setCell ⟨wr.heap.size, 3, none⟩ (.int .i64 (1 + (k : Int)))).cell? ⟨wr.heap.size, 2, none⟩ = some (.int .i64 (L k).op) := HI3.out.at_ 2 _ rfl
            have u3 : (((wb).setCell (aa.add k) (.int .i64 (t : Int))).setCell ⟨wr.heap.size, 3, none⟩ (.int .i64 (1 + (k : Int)))).cell? ⟨wr.heap.size, 3, none⟩ = some (.int .i64 (1 + (k : Int))) := HI3.out.at_ 3 _ rfl
            have HIns3 := Lib.hid (ins_load (y := (⟨(L k).live, (L k).dr, (L k).op, 1 + (k : Int)⟩ : Ld)) HIns1.out (left_may hlf) rfl)
            go_wp2_with (first | (at_builtin; go_loud (refine wpList_append_cat_at rfl (.tmp 66) (.tmp 68) rfl w.heap.size (HG3.out.alloc _).size (.slice Av (t) cv) (t) (M) rfl (HO3.out.alloc _) ⟨(wb).heap.size, 0, none⟩ 1 1 (fun _ => (⟨(L k).live, (L k).dr, (L k).op, 1 + (k : Int)⟩ : Ld)) rfl (lds_one' (w := (((wb).setCell (aa.add k) (.int .i64 (t : Int))).setCell ⟨wr.heap.size, 3, none⟩ (.int .i64 (1 + (k : Int))))) ((⟨(L k).live, (L k).dr, (L k).op, 1 + (k : Int)⟩ : Ld)) _ (by simp [World.setCell])) (by omega) ?_)))
            intro v4 w4 hown4 hg4 hb4
            obtain ⟨Av4, cv4, rfl⟩ := own_slice hown4
            have HA4 := (HA3.out.chg ((Chg.refl none_ _).alloc _)).grown hg4 (own_ne HO3.out HA3.out)
            have HG4 : Chg none_ w w4 := (HG3.out.alloc _).grown hg4 (fun g e h => by have := (HO3.out.lt g e).1; omega)
            go_wp2_with fail
            go_roundw
            case rel => exact ⟨k + 1, t + 1, Av4, cv4, _, _, by omega, by omega, by go_num, rfl, HIns3.out, hown4, HA4, HG4⟩
            case measure => simp [intOf]; omega
          · have hlf' : (L k).lf < 1 := by omega
            clear hlf
            have HA3 := HA2
            have HO3 := HO2
            have HG3 := HG2
            have HIns3 := Lib.hid (ins_load (y := L k) HIns1.out rfl rfl)
            go_wp2_with (first | (at_builtin; go_loud (refine wpList_append_cat_at rfl (.tmp 66) (.tmp 68) rfl w.heap.size (HG3.out.alloc _).size (.slice Av (t) cv) (t) (M) rfl (HO3.out.alloc _) ⟨(wb).heap.size, 0, none⟩ 1 1 (fun _ => L k) rfl (lds_one' (w := ((wb).setCell (aa.add k) (.int .i64 (t : Int)))) (L k) _ (by simp [World.setCell])) (by omega) ?_)))
            intro v4 w4 hown4 hg4 hb4
            obtain ⟨Av4, cv4, rfl⟩ := own_slice hown4
            have HA4 := (HA3.out.chg ((Chg.refl none_ _).alloc _)).grown hg4 (own_ne HO3.out HA3.out)
            have HG4 : Chg none_ w w4 := (HG3.out.alloc _).grown hg4 (fun g e h => by have := (HO3.out.lt g e).1; omega)
            go_wp2_with fail
            go_roundw
            case rel => exact ⟨k + 1, t + 1, Av4, cv4, _, _, by omega, by omega, by go_num, rfl, HIns3.out, hown4, HA4, HG4⟩
            case measure => simp [intOf]; omega
      · have hkiI : (n' : Int) ≤ (k : Int) := by omega
        have HG1 : Hid (Chg none_ w (wr.alloc (.cells #[.bool (L k).live, .bool (L k).dr, .int .i64 (L k).op, .int .i64 (L k).lf] 72))) := HG.out.alloc _
        have HI1 : Hid (Is (wr.alloc (.cells #[.bool (L k).live, .bool (L k).dr, .int .i64 (L k).op, .int .i64 (L k).lf] 72)) wr.heap.size 72 (ldC (L k))) := HIa.out
        have HO1 : Hid ((wr.alloc (.cells #[.bool (L k).live, .bool (L k).dr, .int .i64 (L k).op, .int .i64 (L k).lf] 72)).ownsRow w.heap.size 72 4 (.slice Av t cv) t (rowL M t)) := HO.out.alloc _
        have HA1 : Hid (At (wr.alloc (.cells #[.bool (L k).live, .bool (L k).dr, .int .i64 (L k).op, .int .i64 (L k).lf] 72)) aa n k f) := HA.out.chg ((Chg.refl none_ wr).alloc _)
        have HIns1 := Lib.hid HIns.out
        have HA2 : Hid (At (((wr.alloc (.cells #[.bool (L k).live, .bool (L k).dr, .int .i64 (L k).op, .int .i64 (L k).lf] 72))).setCell (aa.add k) (.int .i64 (t : Int))) aa n (k + 1) (fun i => if i = k then t else f i)) := HA1.out.put hkn _ (by omega)
        have hne : Hid (aa.block ≠ wr.heap.size) := Nat.ne_of_lt hlow.out
        have HI2 : Hid (Is (((wr.alloc (.cells #[.bool (L k).live, .bool (L k).dr, .int .i64 (L k).op, .int .i64 (L k).lf] 72))).setCell (aa.add k) (.int .i64 (t : Int))) wr.heap.size 72 (ldC (L k))) := HI1.out.far (by rw [block_add]; exact hne.out.symm) _
        have HO2 : Hid ((((wr.alloc (.cells #[.bool (L k).live, .bool (L k).dr, .int .i64 (L k).op, .int .i64 (L k).lf] 72))).setCell (aa.add k) (.int .i64 (t : Int))).ownsRow w.heap.size 72 4 (.slice Av (t) cv) (t) (rowL (M) (t))) := own_far HO1.out (aa.add k) (by rw [block_add]; exact own_ne HO1.out HA1.out) _
        have HG2 : Hid (Chg none_ w (((wr.alloc (.cells #[.bool (L k).live, .bool (L k).dr, .int .i64 (L k).op, .int .i64 (L k).lf] 72))).setCell (aa.add k) (.int .i64 (t : Int)))) := HG1.out.setCell (p := aa.add k) (fun h => by rw [block_add] at h; have := HAA.out; omega) _
        obtain ⟨zz, hz⟩ := HA1.out.val hkn
        have hzf := HA1.out.froz k
        have q0 : (((wr.alloc (.cells #[.bool (L k).live, .bool (L k).dr, .int .i64 (L k).op, .int .i64 (L k).lf] 72))).setCell (aa.add k) (.int .i64 (t : Int))).cell? ⟨wr.heap.size, 0, none⟩ = some (.bool (L k).live) := HI2.out.at_ 0 _ rfl
        have q1 : (((wr.alloc (.cells #[.bool (L k).live, .bool (L k).dr, .int .i64 (L k).op, .int .i64 (L k).lf] 72))).setCell (aa.add k) (.int .i64 (t : Int))).cell? ⟨wr.heap.size, 1, none⟩ = some (.bool (L k).dr) := HI2.out.at_ 1 _ rfl
        have q2 : (((wr.alloc (.cells #[.bool (L k).live, .bool (L k).dr, .int .i64 (L k).op, .int .i64 (L k).lf] 72))).setCell (aa.add k) (.int .i64 (t : Int))).cell? ⟨wr.heap.size, 2, none⟩ = some (.int .i64 (L k).op) := HI2.out.at_ 2 _ rfl
        have q3 : (((wr.alloc (.cells #[.bool (L k).live, .bool (L k).dr, .int .i64 (L k).op, .int .i64 (L k).lf] 72))).setCell (aa.add k) (.int .i64 (t : Int))).cell? ⟨wr.heap.size, 3, none⟩ = some (.int .i64 (L k).lf) := HI2.out.at_ 3 _ rfl
        have HBN : Hid ((Value.slice Av (t) cv).ownBlock ≠ some wr.heap.size) := own_grown_ne HO.out (Nat.le_refl _)
        by_cases hlf : 1 ≤ (L k).lf
        · have hwr : IntKind.i64.wrap (1 + (k : Int)) = 1 + (k : Int) := IntWalk.i64_in _ (by omega)
          have HI3 : Hid (Is ((((wr.alloc (.cells #[.bool (L k).live, .bool (L k).dr, .int .i64 (L k).op, .int .i64 (L k).lf] 72))).setCell (aa.add k) (.int .i64 (t : Int))).setCell ⟨wr.heap.size, 3, none⟩ (.int .i64 (1 + (k : Int)))) wr.heap.size 72 (ldC (⟨(L k).live, (L k).dr, (L k).op, 1 + (k : Int)⟩ : Ld))) := HI2.out.put 3 _
          have qf := HI2.out.frozen 3
          have HA3 : Hid (At ((((wr.alloc (.cells #[.bool (L k).live, .bool (L k).dr, .int .i64 (L k).op, .int .i64 (L k).lf] 72))).setCell (aa.add k) (.int .i64 (t : Int))).setCell ⟨wr.heap.size, 3, none⟩ (.int .i64 (1 + (k : Int)))) aa n (k + 1) (fun i => if i = k then t else f i)) := HA2.out.far hne.out _
          have HO3 : Hid (((((wr.alloc (.cells #[.bool (L k).live, .bool (L k).dr, .int .i64 (L k).op, .int .i64 (L k).lf] 72))).setCell (aa.add k) (.int .i64 (t : Int))).setCell ⟨wr.heap.size, 3, none⟩ (.int .i64 (1 + (k : Int)))).ownsRow w.heap.size 72 4 (.slice Av (t) cv) (t) (rowL (M) (t))) := own_far HO2.out ⟨wr.heap.size, 3, none⟩ HBN.out _
          have HG3 : Hid (Chg none_ w ((((wr.alloc (.cells #[.bool (L k).live, .bool (L k).dr, .int .i64 (L k).op, .int .i64 (L k).lf] 72))).setCell (aa.add k) (.int .i64 (t : Int))).setCell ⟨wr.heap.size, 3, none⟩ (.int .i64 (1 + (k : Int))))) := HG2.out.setCell (p := ⟨wr.heap.size, 3, none⟩) (fun h => by have := HG.out.size; simp only at h; omega) _
          have u0 : ((((wr.alloc (.cells #[.bool (L k).live, .bool (L k).dr, .int .i64 (L k).op, .int .i64 (L k).lf] 72))).setCell (aa.add k) (.int .i64 (t : Int))).setCell ⟨wr.heap.size, 3, none⟩ (.int .i64 (1 + (k : Int)))).cell? ⟨wr.heap.size, 0, none⟩ = some (.bool (L k).live) := HI3.out.at_ 0 _ rfl
          have u1 : ((((wr.alloc (.cells #[.bool (L k).live, .bool (L k).dr, .int .i64 (L k).op, .int .i64 (L k).lf] 72))).setCell (aa.add k) (.int .i64 (t : Int))).setCell ⟨wr.heap.size, 3, none⟩ (.int .i64 (1 + (k : Int)))).cell? ⟨wr.heap.size, 1, none⟩ = some (.bool (L k).dr) := HI3.out.at_ 1 _ rfl
          have u2 : ((((wr.alloc (.cells #[.bool (L k).live, .bool (L k).dr, .int .i64 (L k).op, .int .i64 (L k).lf] 72))).setCell (aa.add k) (.int .i64 (t : Int))).setCell ⟨wr.heap.size, 3, none⟩ (.int .i64 (1 + (k : Int)))).cell? ⟨wr.heap.size, 2, none⟩ = some (.int .i64 (L k).op) := HI3.out.at_ 2 _ rfl
          have u3 : ((((wr.alloc (.cells #[.bool (L k).live, .bool (L k).dr, .int .i64 (L k).op, .int .i64 (L k).lf] 72))).setCell (aa.add k) (.int .i64 (t : Int))).setCell ⟨wr.heap.size, 3, none⟩ (.int .i64 (1 + (k : Int)))).cell? ⟨wr.heap.size, 3, none⟩ = some (.int .i64 (1 + (k : Int))) := HI3.out.at_ 3 _ rfl
          have HIns3 := Lib.hid (ins_load (y := (⟨(L k).live, (L k).dr, (L k).op, 1 + (k : Int)⟩ : Ld)) HIns1.out (left_may hlf) rfl)
          go_wp2_with (first | (at_builtin; go_loud (refine wpList_append_cat_at rfl (.tmp 66) (.tmp 68) rfl w.heap.size (HG3.out.alloc _).size (.slice Av (t) cv) (t) (M) rfl (HO3.out.alloc _) ⟨wr.heap.size + 1, 0, none⟩ 1 1 (fun _ => (⟨(L k).live, (L k).dr, (L k).op, 1 + (k : Int)⟩ : Ld)) rfl (lds_one' (w := ((((wr.alloc (.cells #[.bool (L k).live, .bool (L k).dr, .int .i64 (L k).op, .int .i64 (L k).lf] 72))).setCell (aa.add k) (.int .i64 (t : Int))).setCell ⟨wr.heap.size, 3, none⟩ (.int .i64 (1 + (k : Int))))) ((⟨(L k).live, (L k).dr, (L k).op, 1 + (k : Int)⟩ : Ld)) _ (by simp [World.setCell])) (by omega) ?_)))
          intro v4 w4 hown4 hg4 hb4
          obtain ⟨Av4, cv4, rfl⟩ := own_slice hown4
          have HA4 := (HA3.out.chg ((Chg.refl none_ _).alloc _)).grown hg4 (own_ne HO3.out HA3.out)
          have HG4 : Chg none_ w w4 := (HG3.out.alloc _).grown hg4 (fun g e h => by have := (HO3.out.lt g e).1; omega)
          go_wp2_with fail
          go_roundw
          case rel => exact ⟨k + 1, t + 1, Av4, cv4, _, _, by omega, by omega, by go_num, rfl, HIns3.out, hown4, HA4, HG4⟩
          case measure => simp [intOf]; omega
        · have hlf' : (L k).lf < 1 := by omega
          clear hlf
          have HA3 := HA2
          have HO3 := HO2
          have HG3 := HG2
          have HIns3 := Lib.hid (ins_load (y := L k) HIns1.out rfl rfl)
          go_wp2_with (first | (at_builtin; go_loud (refine wpList_append_cat_at rfl (.tmp 66) (.tmp 68) rfl w.heap.size (HG3.out.alloc _).size (.slice Av (t) cv) (t) (M) rfl (HO3.out.alloc _) ⟨wr.heap.size + 1, 0, none⟩ 1 1 (fun _ => L k) rfl (lds_one' (w := (((wr.alloc (.cells #[.bool (L k).live, .bool (L k).dr, .int .i64 (L k).op, .int .i64 (L k).lf] 72))).setCell (aa.add k) (.int .i64 (t : Int)))) (L k) _ (by simp [World.setCell])) (by omega) ?_)))
          intro v4 w4 hown4 hg4 hb4
          obtain ⟨Av4, cv4, rfl⟩ := own_slice hown4
          have HA4 := (HA3.out.chg ((Chg.refl none_ _).alloc _)).grown hg4 (own_ne HO3.out HA3.out)
          have HG4 : Chg none_ w w4 := (HG3.out.alloc _).grown hg4 (fun g e h => by have := (HO3.out.lt g e).1; omega)
          go_wp2_with fail
          go_roundw
          case rel => exact ⟨k + 1, t + 1, Av4, cv4, _, _, by omega, by omega, by go_num, rfl, HIns3.out, hown4, HA4, HG4⟩
          case measure => simp [intOf]; omega
    · obtain rfl : n = k := by omega
      have HA := Lib.hid hA
      have HO := Lib.hid hown
      have HG := Lib.hid hg
      clear hA hown hg
      have HL := Lib.hid (lds_of_own HO.out)
      have ht63 : t ≤ 4611686018427387904 := by omega
      cases hb : bst L m n with
      | none =>
        have hbM : bst M m t = none := by rw [HIns.out.b, hb]; rfl
        obtain ⟨hv, hc⟩ := pk_none' hb
        obtain ⟨hvM, hcM⟩ := pk_none' hbM
        obtain ⟨q, hq⟩ : ∃ q, pkC L m n = q + 1 := ⟨pkC L m n - 1, by omega⟩
        obtain ⟨q', hq'⟩ : ∃ q, pkC M m t = q + 1 := ⟨pkC M m t - 1, by omega⟩
        have he : errv a (pkC L m n) = .iface 123 (.pointer (some (a (q + 1)))) := by rw [hq]; rfl
        have heM := Lib.hid (show errv a (pkC M m t) = .iface 123 (.pointer (some (a (q' + 1)))) by rw [hq']; rfl)
        have HVM := Lib.hid hvM
        clear hc hcM hq hq' hb hbM hvM
        go_wp2_with fail
        refine (pick_c wr (HS.out.below (HG.out.old hB)) HG.out.size Av t cv M m ht63 HL.out 0 _ HVM.out heM.out).mono ?_
        rintro e w5 ⟨rfl, k5⟩
        go_wp2
        go_ret
        exact ⟨rfl, (HG.out.trans k5).old hB⟩
      | some p =>
        have hpn := bst_lt hb
        have hbM : bst M m t = some (f p) := by rw [HIns.out.b, hb]; rfl
        obtain ⟨hv, hc⟩ := pk_some' hb
        obtain ⟨hvM, hcM⟩ := pk_some' hbM
        have he : errv a (pkC L m n) = .nilIface := by rw [hc]; rfl
        have heM := Lib.hid (show errv a (pkC M m t) = .nilIface by rw [hcM]; rfl)
        have HVM := Lib.hid hvM
        clear hc hcM hb hbM hvM
        have hpi : (p : Int) < (n : Int) := by omega
        have hp0 : decide ((0 : Int) ≤ (p : Int)) = true := by simp
        go_wp2_with fail
        refine (pick_c wr (HS.out.below (HG.out.old hB)) HG.out.size Av t cv M m ht63 HL.out (f p : Int) _ HVM.out heM.out).mono ?_
        rintro e w5 ⟨rfl, k5⟩
        have hcell := (HA.out.chg k5).cell hpn
        go_wp2
        go_ret
        exact ⟨rfl, (HG.out.trans k5).old hB⟩
end Go.Proofs.YtgcodagjkbipbaaDoor
