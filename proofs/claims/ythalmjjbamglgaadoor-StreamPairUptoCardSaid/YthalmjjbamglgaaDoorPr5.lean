/-
  culvertlaw10.fits and balanced by contract.
  No condition of its own: the facts 'Sen' and 'Tab' on the world; what the memory holds (Pp).
-/
import Derived.Test.YthalmjjbamglgaaDoorPr3
import Derived.Test.YthalmjjbamglgaaDoorPr2
import Derived.Deep.DeepCutAuto
import Derived.Deep.CutBlock
import Derived.Deep.RegionHeld3
import Derived.StillTailTactics
namespace Go.Proofs.YthalmjjbamglgaaDoor
open Go.RowKit
set_option linter.unusedVariables false
set_option linter.unusedSimpArgs false
theorem still_conv {P : Program} {w : World} {ops : Array Oper} {rest : List Oper} {o : Oper} {a : Act} {Q : Act → Prop} (hw : Region.wanted o (yielded ops a.tmps) = true) (src dst : TypeId) (x : Operand) (ho : o.op = Op.convert src dst x) (v r : Value) (hx : a.eval x = v) (hrun : (convert src dst v).run P w = .ok r w)
    (hK : wpStill P ops w Q rest (a.put o.dst r)) : wpStill P ops w Q (o :: rest) a := by
  unfold wpStill
  rw [if_pos hw]
  unfold Oper.still
  simp [execOp, ho, hx, hrun, Result.andThen]
  exact ⟨rfl, hK⟩

theorem szVw : (Tryd.prog.info? 58).map (·.size) = some 11 := by kernel_rfl
theorem isn2v (w : World) (x : Obj) (t : TypeId) (cs : Array Value) : Is ((w.alloc x).alloc (.cells cs t)) (w.heap.size + 1) t cs := by
  have h := Is.new (w.alloc x) t cs
  rwa [show (w.alloc x).heap.size = w.heap.size + 1 by simp] at h
def vwC (s : Sm) : Int := if s.rs || s.ct || s.lo then 0 else s.cr.h
def vwL (s : Sm) : Int := if s.rs || s.ct || s.li then 0 else s.gr.l
def vwO (s : Sm) : Int := if s.rs || s.ct || s.li then 0 else s.gr.o
theorem flat_get : ∀ (fvs : List (List Value)), (∀ x ∈ fvs, x.length = 6) → ∀ {i j : Nat} {cs : List Value}, j < 6 → fvs[i]? = some cs → fvs.flatten[i * 6 + j]? = cs[j]?
  | [], _, _, _, _, _, h => by simp at h
  | x :: xs, hx, 0, j, cs, hj, h => by
    simp only [List.getElem?_cons_zero, Option.some.injEq] at h
    subst h
    rw [List.flatten_cons, List.getElem?_append_left (by rw [hx _ (List.mem_cons_self ..)]; omega), Nat.zero_mul, Nat.zero_add]
  | x :: xs, hx, i + 1, j, cs, hj, h => by
    have h6 := hx x (List.mem_cons_self ..)
    rw [List.flatten_cons, List.getElem?_append_right (by omega), h6, show (i + 1) * 6 + j - 6 = i * 6 + j by omega]
    exact flat_get xs (fun y hy => hx y (List.mem_cons_of_mem _ hy)) hj (by simpa using h)
theorem frR_len {w : World} {L : Nat} {lab : Nat → Nat} : ∀ {fs : List Fr} {fvs : List (List Value)}, All2 (FrR w L lab) fs fvs → ∀ x ∈ fvs, x.length = 6
  | _, _, .nil, x, hx => by simp at hx
  | _, _, .cons h h', x, hx => by
    rcases List.mem_cons.1 hx with rfl | hx
    · obtain ⟨_, _, _, _, _, rfl, _⟩ := h
      rfl
    · exact frR_len h' x hx
/-- The data of frame i. -/
theorem Wq.data {w : World} {L : Nat} {lab : Nat → Nat} {d : Nat} {x : Nat → Value} {m : Wr} (h : Wq w L lab d x m) : ∃ A c, x 2 = .slice A m.frames.length c ∧ ∀ i f, m.frames[i]? = some f → ∃ g off, A = some ⟨g, off, none⟩ ∧ ∃ A4 k4, w.cell? ⟨g, off + i * 6 + 5, none⟩ = some (.slice A4 f.pl.length k4) := by
  obtain ⟨fvs, f1, f2⟩ := h.fr
  obtain ⟨A, c, e, _, _⟩ := f2.slice
  refine ⟨A, c, e, fun i f hf => ?_⟩
  have hi := (List.getElem?_eq_some_iff.1 hf).1
  obtain ⟨g, off, c', e', _, hg⟩ := f2.at_ (by omega)
  rw [e] at e'
  cases e'
  refine ⟨g, off, rfl, ?_⟩
  have hl := f1.len
  have hv : fvs[i]? = some fvs[i] := List.getElem?_eq_getElem (by omega)
  obtain ⟨fid, fk, A4, n4, k4, e4, hb, _⟩ := f1.get hf hv
  have h5 := flat_get fvs (frR_len f1) (j := 5) (by decide) hv
  rw [e4] at h5
  have h6 := hg (i * 6 + 5) _ h5
  have hn : f.pl.length = n4 := by
    obtain ⟨_, _, _, e7, h7, _⟩ := hb
    cases e7
    exact h7
  rw [hn, Nat.add_assoc]
  exact ⟨A4, k4, h6⟩
theorem Wq.grant {w : World} {L : Nat} {lab : Nat → Nat} {d : Nat} {x : Nat → Value} {m : Wr} (h : Wq w L lab d x m) : ∃ A c, x 3 = .slice A m.grants.length c ∧ ∀ i g, m.grants[i]? = some g → ∃ b off, A = some ⟨b, off, none⟩ ∧ w.cell? ⟨b, off + i, none⟩ = some (.int .u32 g) := by
  obtain ⟨A, c, e, _, _⟩ := h.gr.slice
  refine ⟨A, c, e, fun i f hf => ?_⟩
  have hi := (List.getElem?_eq_some_iff.1 hf).1
  obtain ⟨g, off, c', e', _, hg⟩ := h.gr.at_ (by omega)
  rw [e] at e'
  cases e'
  exact ⟨g, off, rfl, hg i _ (by rw [List.getElem?_map, hf]; rfl)⟩
theorem flen_take {fs : List Fr} {k : Nat} {f : Fr} (h : fs[k]? = some f) : flen (fs.take (k + 1)) = flen (fs.take k) + f.pl.length := by
  rw [List.take_add_one, h, flen_app]
  simp [flen]
theorem gsum_take {gs : List Int} {k : Nat} {g : Int} (h : gs[k]? = some g) : gsum (gs.take (k + 1)) = gsum (gs.take k) + g := by
  rw [List.take_add_one, h, gsum_app]
  simp [gsum]
theorem flen_le (fs : List Fr) (k : Nat) : flen (fs.take k) ≤ flen fs := by
  have h := flen_app (fs.take k) (fs.drop k)
  rw [List.take_append_drop] at h
  omega
theorem gsum_le {gs : List Int} (h : ∀ g ∈ gs, 1 ≤ g ∧ g ≤ 4294967295) (k : Nat) : 0 ≤ gsum (gs.take k) ∧ gsum (gs.take k) ≤ gsum gs := by
  have h1 := gsum_app (gs.take k) (gs.drop k)
  rw [List.take_append_drop] at h1
  have h2 := gsum_pos (gs := gs.drop k) fun g hg => h g (List.mem_of_mem_drop hg)
  have h3 := gsum_pos (gs := gs.take k) fun g hg => h g (List.mem_of_mem_take hg)
  omega
section
variable {B : Nat} {A : Nat → Addr}
set_option maxRecDepth 100000 in
set_option maxHeartbeats 4000000 in
theorem fits_any (w : World) {L wb : Nat} {lab : Nat → Nat} {c : Nat → Nat → Value} {d : Nat} {m : Wr} (h : Wq w L lab d (c d) m) (hI : Is w wb 103 (wcells c)) (hd : d < 2) (o : Nat) (ho : o = 6 * d) (hpre : m.wrote.take m.gave.length = m.gave) (hle : m.gave.length ≤ m.wrote.length) (hen : m.ended = true → m.closed = true ∧ m.gave.length = m.wrote.length) :
    Calls Tryd.prog 45 #[.pointer (some ⟨wb, o, none⟩)] w fun e w' => e = .returned (.bool true) ∧ Chg none_ w w' := by
  have H := Lib.hid h
  have HI := Lib.hid hI
  have HE := Lib.hid (And.intro hd ho)
  obtain ⟨A0, k0, hv0, hk0, _⟩ := h.wr.slice
  obtain ⟨A1, k1, hv1, _, _⟩ := h.gv.slice
  obtain ⟨xs, hxs⟩ : ∃ y, m.gave = y := ⟨_, rfl⟩
  obtain ⟨n, hn⟩ : ∃ y, xs.length = y := ⟨_, rfl⟩
  obtain ⟨N, hN⟩ : ∃ y, m.wrote.length = y := ⟨_, rfl⟩
  rw [hxs, hn, hN] at hle hen
  rw [hxs, hn] at hv1 hpre
  rw [hN] at hv0 hk0
  have r1 : Rd w.drew A1 n fun i => .int .u8 (xs.getD i 0) := by
    have h1 := h.gv.chg ((Chg.refl none_ w).drew) (fun _ _ f => f)
    rw [hv1, hxs, hn] at h1
    exact h1.rd (fun i hi => by unfold u8s; rw [List.getElem?_map, List.getD_eq_getElem?_getD, List.getElem?_eq_getElem (show i < xs.length by omega)]; rfl) rfl
  have r0 : Rd w.drew A0 n fun i => .int .u8 (xs.getD i 0) := by
    have h1 := h.wr.chg ((Chg.refl none_ w).drew) (fun _ _ f => f)
    rw [hv0, hN] at h1
    have h2 : Rd w.drew A0 N fun i => .int .u8 (m.wrote.getD i 0) := h1.rd (fun i hi => by unfold u8s; rw [List.getElem?_map, List.getD_eq_getElem?_getD, List.getElem?_eq_getElem (show i < m.wrote.length by omega)]; rfl) rfl
    have h3 := rd_take_ h2 hle
    rw [hpre] at h3
    exact h3
  have k1s := run_str (P := Tryd.prog) (c := k1) 23 5 Tryd.underlying23 Tryd.underlying5 hn r1 9 Tryd.underlying9
  have k0s := run_str (P := Tryd.prog) (c := k0) 23 5 Tryd.underlying23 Tryd.underlying5 hn r0 9 Tryd.underlying9
  have q0 : w.cell? ⟨wb, o, none⟩ = some (.slice A0 N k0) := by
    rw [ho, ← hv0]
    exact hI.at_ _ _ (wcells_at (j := 0) c hd (by decide))
  have q1 : w.cell? ⟨wb, o + 1, none⟩ = some (.slice A1 n k1) := by
    rw [ho, ← hv1]
    exact hI.at_ _ _ (wcells_at (j := 1) c hd (by decide))
  have HEn := Lib.hid hen
  have HV0 := Lib.hid hv0
  have HLe := Lib.hid (And.intro hle hk0)
  have d1 : decide ((N : Int) < (n : Int)) = false := decide_eq_false (by omega)
  have d2 : decide (N < n) = false := decide_eq_false (by omega)
  generalize strOfNums xs = sx at k1s k0s
  clear h hI hd ho hpre hle hen hv0 hv1 hk0 r0 r1 hn hN hxs
  go_enter Tryd.func45, Tryd.ntmps45
  go_wp2_with fail
  refine wp_region_still_lit (by kernel_rfl) (by kernel_rfl) ?_
  repeat still_step
  refine still_subH_bytes rfl (.tmp 25) (.tmp 26) rfl A0 N k0 rfl (n : Int) rfl n rfl (by have := HLe.out; omega) ?_
  repeat still_step
  refine wpStill_nil ?_
  change Exit.then _ _ _ _ w.drew
  obtain ⟨wd, hwd⟩ : ∃ y, w.drew = y := ⟨_, rfl⟩
  have HCd : Hid (Chg none_ w wd) := by
    show Chg _ _ _
    rw [← hwd]
    exact (Chg.refl none_ w).drew
  rw [hwd]
  clear hwd q1 q0 k1s k0s
  have HId : Hid (Is wd wb 103 (wcells c)) := HI.out.chg HCd.out fun f => f
  have q0 : wd.cell? ⟨wb, o, none⟩ = some (.slice A0 N k0) := by
    rw [HE.out.2, ← HV0.out]
    exact HId.out.at_ _ _ (wcells_at (j := 0) c HE.out.1 (by decide))
  have q4 : wd.cell? ⟨wb, o + 4, none⟩ = some (.bool m.closed) := by
    rw [HE.out.2, ← H.out.cl]
    exact HId.out.at_ _ _ (wcells_at (j := 4) c HE.out.1 (by decide))
  have q5 : wd.cell? ⟨wb, o + 5, none⟩ = some (.bool m.ended) := by
    rw [HE.out.2, ← H.out.en]
    exact HId.out.at_ _ _ (wcells_at (j := 5) c HE.out.1 (by decide))
  cases he : m.ended
  · rw [he] at q5
    clear he q4 q0
    go_wp2
    go_ret
    exact ⟨rfl, HCd.out⟩
  · obtain ⟨h1, h2⟩ := HEn.out he
    rw [he] at q5
    rw [h1] at q4
    subst h2
    clear he h1
    go_wp2
    go_ret
    exact ⟨rfl, HCd.out⟩
set_option maxRecDepth 100000 in
set_option maxHeartbeats 4000000 in
theorem balanced_any (w : World) {L wb : Nat} {lab : Nat → Nat} {c : Nat → Nat → Value} {d : Nat} {m : Wr} (h : Wq w L lab d (c d) m) (hI : Is w wb 103 (wcells c)) (hd : d < 2) (o : Nat) (ho : o = 6 * d) {Ta Tb : Nat → Prop} {ga gb : Nat} {a b : Sm} (ha : Pst w Ta ga a) (hb : Pst w Tb gb b) (Wn : Int) (hW : Wn ≤ 4294967295)
    (hn : 0 ≤ vwC a ∧ vwC a ≤ Wn ∧ 0 ≤ vwL b ∧ 0 ≤ vwO b) (hx1 : (b.un.length : Int) + vwO b + vwL b ≤ Wn) (hg : ∀ g ∈ m.grants, 1 ≤ g ∧ g ≤ 4294967295) (hfb : m.frames.length ≤ 1073741824) (hgb : m.grants.length ≤ 1073741824) (hx3 : a.st = 4 ∨ a.st = 6 ∨ vwC a + (b.un.length : Int) + vwO b + (flen m.frames : Int) + gsum m.grants = Wn) :
    Calls Tryd.prog 46 #[.pointer (some ⟨ga, 0, none⟩), .pointer (some ⟨gb, 0, none⟩), .pointer (some ⟨wb, o, none⟩), .int .i64 Wn] w fun e w' => e = .returned (.bool true) ∧ Chg none_ w w' := by
  have H := Lib.hid h
  have HI := Lib.hid hI
  have HE := Lib.hid (And.intro hd ho)
  have HP := Lib.hid (And.intro ha hb)
  have HG := Lib.hid hg
  obtain ⟨a0, ast, a2, a3, a4, ac, a6, a7, a8, a9, a10, hva, h1, h2⟩ : ∃ (a0 : Int) (ast : Int) (a2 a3 : Bool) (a4 ac a6 a7 a8 : Int) (a9 a10 : Bool), vwV a = .agg #[.int .u32 a0, .int .i64 ast, .bool a2, .bool a3, .int .i64 a4, .int .u32 ac, .int .i64 a6, .int .i64 a7, .int .i64 a8, .bool a9, .bool a10] ∧ a.st = ast ∧ vwC a = ac := ⟨_, _, _, _, _, _, _, _, _, _, _, rfl, rfl, rfl⟩
  obtain ⟨b0, b1, b2, b3, b4, b5, bl, bu, bo, b9, b10, hvb, h3, h4, h5⟩ : ∃ (b0 : Int) (b1 : Int) (b2 b3 : Bool) (b4 b5 bl bu bo : Int) (b9 b10 : Bool), vwV b = .agg #[.int .u32 b0, .int .i64 b1, .bool b2, .bool b3, .int .i64 b4, .int .u32 b5, .int .i64 bl, .int .i64 bu, .int .i64 bo, .bool b9, .bool b10] ∧ vwL b = bl ∧ (b.un.length : Int) = bu ∧ vwO b = bo := ⟨_, _, _, _, _, _, _, _, _, _, _, rfl, rfl, rfl, rfl⟩
  rw [h1, h2, h4, h5] at hx3
  rw [h4, h5, h3] at hx1
  rw [h2, h3, h5] at hn
  have hu0 : 0 ≤ bu := by omega
  have HX := Lib.hid (And.intro hW (And.intro hn (And.intro hx1 (And.intro hx3 hu0))))
  have HV := Lib.hid (And.intro hva hvb)
  clear h hI hd ho ha hb hg hva hvb h1 h2 h3 h4 h5 hx1 hx3 hn hW hu0
  go_enter Tryd.func46, Tryd.ntmps46
  go_wp2_with fail
  refine (sview_any w HP.out.1).mono ?_
  rintro e1 w1 ⟨rfl, c1⟩
  rw [HV.out.1]
  have HC1 := Lib.hid c1
  clear c1
  go_wp2_with fail
  refine (sview_any w1 (HP.out.2.keep HC1.out)).mono ?_
  rintro e2 w2 ⟨rfl, c2⟩
  rw [HV.out.2]
  have HC2 : Hid (Chg none_ w w2) := HC1.out.trans c2
  clear c2
  go_wp2_with (refine wpList_store_part rfl 58 (.tmp 9) (.tmp 15) rfl w2.heap.size 0 rfl (.agg #[.int .u32 a0, .int .i64 ast, .bool a2, .bool a3, .int .i64 a4, .int .u32 ac, .int .i64 a6, .int .i64 a7, .int .i64 a8, .bool a9, .bool a10]) rfl [.int .u32 a0, .int .i64 ast, .bool a2, .bool a3, .int .i64 a4, .int .u32 ac, .int .i64 a6, .int .i64 a7, .int .i64 a8, .bool a9, .bool a10] ((Is.new w2 _ _).alloc _) rfl (Nat.le_refl 11) rfl szVw _ rfl ?_)
  intro w3 hi3 hc3
  have HI3 : Hid (Is w3 w2.heap.size 58 #[.int .u32 a0, .int .i64 ast, .bool a2, .bool a3, .int .i64 a4, .int .u32 ac, .int .i64 a6, .int .i64 a7, .int .i64 a8, .bool a9, .bool a10]) := hi3
  have HZ3 : Hid (Is w3 (w2.heap.size + 1) 58 _) := (isn2v w2 _ _ _).chg hc3 (Nat.succ_ne_self _)
  have HC3 : Hid (Chg none_ w2 w3) := (((Chg.refl none_ w2).alloc _).alloc _).then hc3 fun k hk e => by omega
  clear hi3 hc3
  go_wp2_with (refine wpList_store_part rfl 58 (.tmp 10) (.tmp 17) rfl (w2.heap.size + 1) 0 rfl (.agg #[.int .u32 b0, .int .i64 b1, .bool b2, .bool b3, .int .i64 b4, .int .u32 b5, .int .i64 bl, .int .i64 bu, .int .i64 bo, .bool b9, .bool b10]) rfl [.int .u32 b0, .int .i64 b1, .bool b2, .bool b3, .int .i64 b4, .int .u32 b5, .int .i64 bl, .int .i64 bu, .int .i64 bo, .bool b9, .bool b10] HZ3.out rfl (Nat.le_refl 11) rfl szVw _ rfl ?_)
  intro w4 hi4 hc4
  have HB4 : Hid (Is w4 (w2.heap.size + 1) 58 #[.int .u32 b0, .int .i64 b1, .bool b2, .bool b3, .int .i64 b4, .int .u32 b5, .int .i64 bl, .int .i64 bu, .int .i64 bo, .bool b9, .bool b10]) := hi4
  have HA4 := Lib.hid (HI3.out.chg hc4 (fun e => by omega))
  have HC24 : Hid (Chg none_ w2 w4) := HC3.out.then hc4 fun k hk e => by omega
  have HC4 : Hid (Chg none_ w w4) := HC2.out.trans HC24.out
  clear hi4 hc4
  have p1 : w4.cell? ⟨w2.heap.size, 1, none⟩ = some (.int .i64 ast) := HA4.out.at_ 1 _ rfl
  have p5 : w4.cell? ⟨w2.heap.size, 5, none⟩ = some (.int .u32 ac) := HA4.out.at_ 5 _ rfl
  have q6 : w4.cell? ⟨w2.heap.size + 1, 6, none⟩ = some (.int .i64 bl) := HB4.out.at_ 6 _ rfl
  have q7 : w4.cell? ⟨w2.heap.size + 1, 7, none⟩ = some (.int .i64 bu) := HB4.out.at_ 7 _ rfl
  have q8 : w4.cell? ⟨w2.heap.size + 1, 8, none⟩ = some (.int .i64 bo) := HB4.out.at_ 8 _ rfl
  obtain ⟨x1, x2, x3, x4, x5⟩ := HX.out
  have k1 : IntKind.i64.wrap (bu + bo) = bu + bo := IntWalk.i64_in _ (by omega)
  have k2 : IntKind.i64.wrap (bu + bo + bl) = bu + bo + bl := IntWalk.i64_in _ (by omega)
  have k3 : IntKind.i64.wrap ac = ac := IntWalk.i64_in _ (by omega)
  have k4 : IntKind.i64.wrap (ac + bu) = ac + bu := IntWalk.i64_in _ (by omega)
  have k5 : IntKind.i64.wrap (ac + bu + bo) = ac + bu + bo := IntWalk.i64_in _ (by omega)
  have d1 : ¬ Wn < bu + bo + bl := by omega
  have d2 : ¬ Wn < ac := by omega
  clear x1 x2 x3 x5
  by_cases h4 : ast = 4
  · subst h4
    clear x4
    go_wp2
    go_ret
    exact ⟨rfl, HC4.out⟩
  by_cases h6 : ast = 6
  · subst h6
    clear x4
    go_wp2
    go_ret
    exact ⟨rfl, HC4.out⟩
  have HS : Hid (ac + bu + bo + (flen m.frames : Int) + gsum m.grants = Wn) := by
    rcases x4 with x | x | x
    · exact absurd x h4
    · exact absurd x h6
    · exact x
  have e4 : (ast == 4) = false := by simpa using h4
  have e6 : (ast == 6) = false := by simpa using h6
  have hfl := HX.out
  clear x4 h4 h6
  go_wp2_with fail
  obtain ⟨A7, k7, hA7, hdat⟩ := H.out.data
  obtain ⟨A8, k8, hA8, hgrs⟩ := H.out.grant
  have HD := Lib.hid (And.intro hdat hgrs)
  obtain ⟨n, hn⟩ : ∃ y, m.frames.length = y := ⟨_, rfl⟩
  obtain ⟨N, hN⟩ : ∃ y, m.grants.length = y := ⟨_, rfl⟩
  have hnb : n ≤ 1073741824 := by omega
  have hNb : N ≤ 1073741824 := by omega
  rw [hn] at hA7
  rw [hN] at hA8
  obtain ⟨S0, hS0⟩ : ∃ y, ac + bu + bo = y := ⟨_, rfl⟩
  rw [hS0] at HS ⊢
  have h0 : 0 ≤ S0 := by omega
  have HN := Lib.hid (And.intro hn (And.intro hN (And.intro h0 hfl.1)))
  have HA := Lib.hid (And.intro hA7 hA8)
  clear hdat hgrs hn hN hS0 h0 hfl hA7 hA8 hfb hgb p1 p5 q6 q7 q8 k1 k2 k3 k4 k5 d1 d2 e4 e6 HV HX HP HI3 HZ3 HC3 HB4 HA4
  go_loopw [11, 12] (fun xs xi wr => ∃ k : Nat, k ≤ n ∧ xs = .int .i64 (S0 + (flen (m.frames.take k) : Int)) ∧ xi = .int .i64 k ∧ Chg none_ w wr) (fun _ xi _ => n - (intOf xi).toNat)
  case atStart => exact ⟨0, by omega, by simp [flen], rfl, HC4.out⟩
  case round =>
    obtain ⟨k, hk, rfl, rfl, hg⟩ := hrel
    have HG6 := Lib.hid hg
    clear hg
    have c2 : wr.cell? ⟨wb, o + 2, none⟩ = some (.slice A7 n k7) := by
      rw [HE.out.2, ← HA.out.1]
      exact (HI.out.chg HG6.out fun f => f).at_ _ _ (wcells_at (j := 2) c HE.out.1 (by decide))
    by_cases hkn : k < n
    · have hkl : k < m.frames.length := by have := HN.out.1; omega
      obtain ⟨f, hf⟩ : ∃ f, m.frames[k]? = some f := ⟨_, List.getElem?_eq_getElem hkl⟩
      obtain ⟨A7', k7', hA', hd'⟩ := (H.out.chg (lab' := lab) HG6.out (fun _ _ f => f.elim) (fun _ _ => rfl)).data
      rw [HA.out.1, HN.out.1] at hA'
      cases hA'
      obtain ⟨g, off, rfl, A4, k4, c5⟩ := hd' k f hf
      clear hd'
      have hft := flen_take hf
      have hfl := flen_le m.frames (k + 1)
      have hgs := (gsum_le HG.out 0).2
      have hS := HS.out
      have h0 := HN.out.2.2
      have hgs0 := (gsum_le HG.out m.grants.length).1
      rw [List.take_length] at hgs0
      have k1 : IntKind.i64.wrap (S0 + (flen (m.frames.take k) : Int) + (f.pl.length : Int)) = S0 + (flen (m.frames.take k) : Int) + (f.pl.length : Int) := IntWalk.i64_in _ (by omega)
      have i0 : decide ((k : Int) < 0) = false := by simp
      have i1 : decide (n ≤ k) = false := by simp; omega
      have i2 : (k : Int) < (n : Int) := by omega
      have HFt := Lib.hid hft
      clear hft hfl hgs hS h0 hgs0 hf hkl
      go_wp2
      go_roundw
      case rel => exact ⟨k + 1, by omega, by rw [HFt.out]; simp; omega, by go_num, HG6.out⟩
      case measure => simp [intOf]; omega
    · obtain rfl : n = k := by omega
      have hall : m.frames.take n = m.frames := by rw [← HN.out.1]; exact List.take_length
      rw [hall]
      have i2 : ¬ (n : Int) < (n : Int) := by omega
      obtain ⟨S1, hS1⟩ : ∃ y, S0 + (flen m.frames : Int) = y := ⟨_, rfl⟩
      have HS1 : Hid (S1 + gsum m.grants = Wn) := by show _ = _; rw [← hS1]; exact HS.out
      have hS10 : 0 ≤ S1 := by have := HN.out.2.2; omega
      have HN1 := Lib.hid hS10
      rw [hS1]
      clear hS1 hall hS10
      go_wp2_with fail
      clear c2
      go_loopw [11, 13] (fun xs xi wr => ∃ k : Nat, k ≤ N ∧ xs = .int .i64 (S1 + gsum (m.grants.take k)) ∧ xi = .int .i64 k ∧ Chg none_ w wr) (fun _ xi _ => N - (intOf xi).toNat)
      case atStart => exact ⟨0, by omega, by simp [gsum], rfl, HG6.out⟩
      case round =>
        obtain ⟨k, hk, rfl, rfl, hg⟩ := hrel
        have HG7 := Lib.hid hg
        clear hg
        have c3 : wr.cell? ⟨wb, o + 3, none⟩ = some (.slice A8 N k8) := by
          rw [HE.out.2, ← HA.out.2]
          exact (HI.out.chg HG7.out fun f => f).at_ _ _ (wcells_at (j := 3) c HE.out.1 (by decide))
        by_cases hkn : k < N
        · have hkl : k < m.grants.length := by have := HN.out.2.1; omega
          obtain ⟨f, hf⟩ : ∃ f, m.grants[k]? = some f := ⟨_, List.getElem?_eq_getElem hkl⟩
          obtain ⟨A8', k8', hA', hd'⟩ := (H.out.chg (lab' := lab) HG7.out (fun _ _ f => f.elim) (fun _ _ => rfl)).grant
          rw [HA.out.2, HN.out.2.1] at hA'
          cases hA'
          obtain ⟨g, off, rfl, c5⟩ := hd' k f hf
          have hb := HG.out f (List.mem_of_getElem? hf)
          clear hd'
          have hft := gsum_take hf
          have hfl := (gsum_le HG.out (k + 1)).2
          have hf0 := (gsum_le HG.out k).1
          have hS := HS1.out
          have h0 := HN1.out
          have hW := HN.out.2.2.2
          have k0 : IntKind.i64.wrap f = f := IntWalk.i64_in _ (by omega)
          have k1 : IntKind.i64.wrap (S1 + gsum (m.grants.take k) + f) = S1 + gsum (m.grants.take k) + f := IntWalk.i64_in _ (by omega)
          have i0 : decide ((k : Int) < 0) = false := by simp
          have i1 : decide (N ≤ k) = false := by simp; omega
          have i3 : (k : Int) < (N : Int) := by omega
          have HFt := Lib.hid hft
          clear hft hfl hf0 hS h0 hf hkl hb hW
          go_wp2
          go_roundw
          case rel => exact ⟨k + 1, by omega, by rw [HFt.out]; simp; omega, by go_num, HG7.out⟩
          case measure => simp [intOf]; omega
        · obtain rfl : N = k := by omega
          have hall : m.grants.take N = m.grants := by rw [← HN.out.2.1]; exact List.take_length
          rw [hall, HS1.out]
          have i3 : ¬ (N : Int) < (N : Int) := by omega
          clear hall
          go_wp2
          go_ret
          exact ⟨rfl, HG7.out⟩
end
end Go.Proofs.YthalmjjbamglgaaDoor
