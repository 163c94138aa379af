/-
  culvertlaw10.behind by contract: of a stream neither reset nor cut.
  No condition of its own: the facts 'Sen' and 'Tab' on the world.
-/
import Derived.Test.YthalmjjbamglgaaDoorStrI
import Derived.Lib.SlBytesConst
namespace Go.Proofs.YthalmjjbamglgaaDoor
open Go.RowKit

section
variable {B : Nat} {a : Nat → Addr} {w wi : World} {T : Nat → Prop} {g : Nat} {s : Sm}
/-- What the calls behind a reset or a cut (code c) do: nothing. -/
structure Off (s : Sm) (c : Nat) : Prop where
  wr : wrC s = c
  wn : ∀ ys, wrN s ys = 0
  ws : ∀ ys, wrS s ys = s
  cs : clS s = s
  ac : acC s = c
  acs : acS s = s
  rd : rdyB s = false
  av : ∀ n, avC s n = 0
  vs : ∀ ys fin, avS s ys fin = s
  gc : ∀ d, gnC s d = 0
  gs : ∀ d fin, gnS s d fin = s
theorem Off.of {s : Sm} {c : Nat} (h0 : c ≠ 0) (hb : barC s = c) (h : (s.rs || s.ct) = true) : Off s c := by
  have hw : wrC s = c := by unfold wrC; rw [if_neg (by rw [hb]; exact h0), hb]
  have ha : acC s = c := by unfold acC; rw [if_neg (by rw [hb]; exact h0), hb]
  have hg : ∀ d, gnC s d = 0 := fun d => by unfold gnC; rw [if_pos (by rw [h]; rfl)]
  refine ⟨hw, fun ys => if_neg (by rw [hw]; exact h0), fun ys => wrS_no (by rw [hw]; exact h0) ys, clS_no (by rw [hw]; exact h0), ha, acS_no (by rw [ha]; exact h0), ?_, fun n => ?_, fun ys fin => ?_, hg, fun d fin => ?_⟩
  · unfold rdyB; rw [if_neg (by rw [hb]; exact h0)]
  · unfold avC; rw [if_pos (by rw [h]; rfl)]
  · unfold avS; rw [if_pos (by rw [h]; rfl)]
  · unfold gnS
    have : s.rs = true ∨ s.ct = true := by simpa using h
    rw [if_pos (by rw [h])]
theorem Sm.Up.off {s : Sm} (h : s.Up) : Off (ctS s) 27 ∧ vwV (ctS s) = .agg #[.int .u32 s.id, .int .i64 s.st, .bool s.mine, .bool s.acc, .int .i64 0, .int .u32 0, .int .i64 0, .int .i64 (s.un.length : Int), .int .i64 0, .bool s.cl, .bool s.td] ∧ (ctS s).sg = [] ∧ (ctS s).un = s.un := by
  have e : ctS s = { s with sg := [], ct := true } := by unfold ctS; rw [h.1, h.2]; rfl
  rw [e]
  refine ⟨Off.of (by decide) (by unfold barC; rw [if_neg (by show ¬ s.rs = true; rw [h.1]; decide), if_pos rfl]) (by show (s.rs || true) = true; rw [Bool.or_true]), ?_, rfl, rfl⟩
  unfold vwV
  show Value.agg #[_, _, _, _, _, .int .u32 (if (s.rs || true || s.lo) = true then 0 else s.cr.h), .int .i64 (if (s.rs || true || s.li) = true then 0 else s.gr.l), _, .int .i64 (if (s.rs || true || s.li) = true then 0 else s.gr.o), _, _] = _
  rw [Bool.or_true, Bool.true_or, Bool.true_or, if_pos rfl, if_pos rfl, if_pos rfl]
  rfl
theorem rs_off (s : Sm) : Off (rsS s) 26 ∧ vwV (rsS s) = .agg #[.int .u32 s.id, .int .i64 7, .bool s.mine, .bool s.acc, .int .i64 0, .int .u32 0, .int .i64 0, .int .i64 0, .int .i64 0, .bool s.cl, .bool s.td] ∧ dnB (rtS (rsS s) 5) = true ∧ rtC (rsS s) 5 = 26 :=
  ⟨Off.of (by decide) rfl rfl, rfl, rfl, rfl⟩
set_option maxRecDepth 100000 in
set_option maxHeartbeats 1000000 in
theorem behind_any (hs : Sen B a w) (ht : Tab B w) (hB : B ≤ w.heap.size) (h : Pst w T g s) (hTB : ∀ k, T k → B ≤ k) (hu : s.Up) (cut : Bool) :
    Calls Tryd.prog 30 #[.pointer (some ⟨g, 0, none⟩), .bool cut] w fun e w' => e = .returned (.bool true) ∧ Chg T w w' := by
  have kcc := fun (w : World) (C : Array Value) (n c : Nat) => Lib.run_convert_bytes_const (P := Tryd.prog) w 23 5 C n c Tryd.underlying23 Tryd.underlying5
  have hmk : ∀ w : World, (Instr.makeSlice 23 (.int .i64 9) (.int .i64 9)).run Tryd.prog w = .ok (.slice (some ⟨w.heap.size, 0, none⟩) 9 9) (w.alloc (.cells #[.int .u8 0, .int .u8 0, .int .u8 0, .int .u8 0, .int .u8 0, .int .u8 0, .int .u8 0, .int .u8 0, .int .u8 0] 5)) := fun _ => by kernel_rfl
  have HR0 := Lib.hid (Run.init hs ht hB h hTB)
  have hfld : ∀ (w : World) (x0 x1 x2 x3 x4 x5 x6 x7 x8 x9 x10 : Value), (Instr.field 58 (.agg #[x0, x1, x2, x3, x4, x5, x6, x7, x8, x9, x10]) 7).run Tryd.prog w = .ok x7 w := fun _ _ _ _ _ _ _ _ _ _ _ _ => by kernel_rfl
  obtain ⟨c0, l0, o0, hv⟩ : ∃ c l o, vwV s = .agg #[.int .u32 s.id, .int .i64 s.st, .bool s.mine, .bool s.acc, .int .i64 (s.sg.length : Int), .int .u32 c, .int .i64 l, .int .i64 (s.un.length : Int), .int .i64 o, .bool s.cl, .bool s.td] := ⟨_, _, _, rfl⟩
  obtain ⟨u, hun⟩ : ∃ u : Int, (s.un.length : Int) = u := ⟨_, rfl⟩
  rw [hun] at hv
  have HV := Lib.hid hv
  have HUn := Lib.hid hun
  cases cut with
  | true =>
    have hf := hu.off
    rw [hun] at hf
    have HF := Lib.hid hf
    clear hs ht hB h hTB hu hv hun hf
    go_enter Tryd.func30, Tryd.ntmps30
    go_wp2_with fail
    refine (run_view HR0.out).mono ?_
    rintro e w1 ⟨rfl, r⟩
    have HR1 := Lib.hid r
    clear r
    rw [HV.out]
    go_wp2_with fail
    refine (run_cut HR1.out).mono ?_
    rintro e w2 ⟨⟨r, rfl⟩, r2⟩
    obtain ⟨s2, hs2⟩ : ∃ y, ctS s = y := ⟨_, rfl⟩
    rw [hs2] at r2 HF
    have HR2 := Lib.hid r2
    clear r2 hs2
    go_wp2_with fail
    have HC3 : Hid (Chg none_ w2 (w2.alloc (.cells #[.int .u8 120] 5 (1, 2)))) := (Chg.refl none_ w2).alloc _
    have HV3 : Hid (BsO (w2.alloc (.cells #[.int .u8 120] 5 (1, 2))) (.slice (some ⟨w2.heap.size, 0, none⟩) 1 1) [120]) := by
      refine ⟨_, 1, 1, rfl, rfl, (by intro z hz; simp at hz; omega), Nat.le_refl _, fun _ => ⟨w2.heap.size, rfl, fun i hi => ?_⟩⟩
      rw [cell_of_row _ _ i _ _ _ (heap_alloc_new w2 _)]
      match i, hi with
      | 0, _ => rfl
    refine (run_write (HR2.out.grow HC3.out) _ [120] HV3.out (z := w2.heap.size) HC3.out.size (HR2.out.old HC3.out) (fun k hk => by
      have e : k = w2.heap.size := by simpa [rdk, eq_comm] using hk
      rw [e]
      exact ⟨Nat.le_refl _, by simp⟩) (by decide)).mono ?_
    rintro e w3 ⟨rfl, r⟩
    rw [HF.out.1.ws] at r
    rw [HF.out.1.wr, HF.out.1.wn, show errv a 27 = .iface 200 (.pointer (some (a 27))) from rfl]
    have HR3 := Lib.hid r
    clear r
    go_wp2_with fail
    refine (code_err _ HR3.out.sen 27 (by decide) (by decide)).mono ?_
    rintro e w' ⟨rfl, rfl⟩
    go_wp2_with fail
    refine (run_close HR3.out).mono ?_
    rintro e w4 ⟨rfl, r⟩
    rw [HF.out.1.cs] at r
    rw [HF.out.1.wr, show errv a 27 = .iface 200 (.pointer (some (a 27))) from rfl]
    have HR4 := Lib.hid r
    clear r
    go_wp2_with fail
    refine (code_err _ HR4.out.sen 27 (by decide) (by decide)).mono ?_
    rintro e w' ⟨rfl, rfl⟩
    go_wp2_with fail
    refine (run_accept HR4.out).mono ?_
    rintro e w5 ⟨rfl, r⟩
    rw [HF.out.1.acs] at r
    rw [HF.out.1.ac, show errv a 27 = .iface 200 (.pointer (some (a 27))) from rfl]
    have HR5 := Lib.hid r
    clear r
    go_wp2_with fail
    refine (code_err _ HR5.out.sen 27 (by decide) (by decide)).mono ?_
    rintro e w' ⟨rfl, rfl⟩
    go_wp2_with fail
    refine (run_ready HR5.out).mono ?_
    rintro e w' ⟨rfl, rfl⟩
    rw [HF.out.1.rd]
    go_wp2_with fail
    have HC6 : Hid (Chg none_ w5 (w5.alloc (.cells #[.int .u8 0, .int .u8 0, .int .u8 0, .int .u8 0, .int .u8 0, .int .u8 0, .int .u8 0, .int .u8 0, .int .u8 0] 5))) := (Chg.refl none_ w5).alloc _
    have HV6 : Hid (BsO (w5.alloc (.cells #[.int .u8 0, .int .u8 0, .int .u8 0, .int .u8 0, .int .u8 0, .int .u8 0, .int .u8 0, .int .u8 0, .int .u8 0] 5)) (.slice (some ⟨w5.heap.size, 0, none⟩) 9 9) [0, 0, 0, 0, 0, 0, 0, 0, 0]) := by
      refine ⟨_, 9, 9, rfl, rfl, (by intro z hz; simp at hz; omega), Nat.le_refl _, fun _ => ⟨w5.heap.size, rfl, fun i hi => ?_⟩⟩
      rw [cell_of_row _ _ i _ _ _ (heap_alloc_new w5 _)]
      match i, hi with
      | 0, _ => rfl
      | 1, _ => rfl
      | 2, _ => rfl
      | 3, _ => rfl
      | 4, _ => rfl
      | 5, _ => rfl
      | 6, _ => rfl
      | 7, _ => rfl
      | 8, _ => rfl
    refine (run_arrive (HR5.out.grow HC6.out) _ [0, 0, 0, 0, 0, 0, 0, 0, 0] HV6.out (z := w5.heap.size) HC6.out.size (HR5.out.old HC6.out) (fun k hk => by
      have e : k = w5.heap.size := by simpa [rdk, eq_comm] using hk
      rw [e]
      exact ⟨Nat.le_refl _, by simp⟩) (by decide) true).mono ?_
    rintro e w6 ⟨rfl, r⟩
    rw [HF.out.1.vs] at r
    rw [HF.out.1.av, show errv a 0 = Value.nilIface from rfl]
    have HR6 := Lib.hid r
    clear r
    go_wp2_with fail
    refine (run_grant HR6.out 4294967295 (by decide) (by decide) true).mono ?_
    rintro e w7 ⟨rfl, r⟩
    rw [HF.out.1.gs] at r
    rw [HF.out.1.gc, show errv a 0 = Value.nilIface from rfl]
    have HR7 := Lib.hid r
    clear r
    go_wp2_with fail
    refine (run_view HR7.out).mono ?_
    rintro e w8 ⟨rfl, r⟩
    rw [HF.out.2.1]
    have HR8 := Lib.hid r
    clear r
    go_wp2_with fail
    refine (run_held (HR8.out.grow ((Chg.refl none_ w8).alloc _))).mono ?_
    rintro e w9 ⟨rfl, r⟩
    rw [HF.out.2.2.1, HF.out.2.2.2, HUn.out, show ((([] : List Int).length : Nat) : Int) + u = u by simp]
    have HR9 := Lib.hid r
    clear r
    go_wp2
    go_ret
    exact ⟨rfl, HR9.out.chg⟩
  | false =>
    have HF : Hid (Off (rsS s) 26 ∧ vwV (rsS s) = .agg #[.int .u32 s.id, .int .i64 7, .bool s.mine, .bool s.acc, .int .i64 0, .int .u32 0, .int .i64 0, .int .i64 0, .int .i64 0, .bool s.cl, .bool s.td] ∧ dnB (rtS (rsS s) 5) = true ∧ rtC (rsS s) 5 = 26) := rs_off s
    clear hs ht hB h hTB hu hv hun
    go_enter Tryd.func30, Tryd.ntmps30
    go_wp2_with fail
    refine (run_view HR0.out).mono ?_
    rintro e w1 ⟨rfl, r⟩
    have HR1 := Lib.hid r
    clear r
    rw [HV.out]
    go_wp2_with fail
    refine (run_reset HR1.out).mono ?_
    rintro e w2 ⟨⟨r, rfl⟩, r2⟩
    obtain ⟨s2, hs2⟩ : ∃ y, rsS s = y := ⟨_, rfl⟩
    rw [hs2] at r2 HF
    have HR2 := Lib.hid r2
    clear r2 hs2
    go_wp2_with fail
    have HC3 : Hid (Chg none_ w2 (w2.alloc (.cells #[.int .u8 120] 5 (1, 2)))) := (Chg.refl none_ w2).alloc _
    have HV3 : Hid (BsO (w2.alloc (.cells #[.int .u8 120] 5 (1, 2))) (.slice (some ⟨w2.heap.size, 0, none⟩) 1 1) [120]) := by
      refine ⟨_, 1, 1, rfl, rfl, (by intro z hz; simp at hz; omega), Nat.le_refl _, fun _ => ⟨w2.heap.size, rfl, fun i hi => ?_⟩⟩
      rw [cell_of_row _ _ i _ _ _ (heap_alloc_new w2 _)]
      match i, hi with
      | 0, _ => rfl
    refine (run_write (HR2.out.grow HC3.out) _ [120] HV3.out (z := w2.heap.size) HC3.out.size (HR2.out.old HC3.out) (fun k hk => by
      have e : k = w2.heap.size := by simpa [rdk, eq_comm] using hk
      rw [e]
      exact ⟨Nat.le_refl _, by simp⟩) (by decide)).mono ?_
    rintro e w3 ⟨rfl, r⟩
    rw [HF.out.1.ws] at r
    rw [HF.out.1.wr, HF.out.1.wn, show errv a 26 = .iface 200 (.pointer (some (a 26))) from rfl]
    have HR3 := Lib.hid r
    clear r
    go_wp2_with fail
    refine (code_err _ HR3.out.sen 26 (by decide) (by decide)).mono ?_
    rintro e w' ⟨rfl, rfl⟩
    go_wp2_with fail
    refine (run_close HR3.out).mono ?_
    rintro e w4 ⟨rfl, r⟩
    rw [HF.out.1.cs] at r
    rw [HF.out.1.wr, show errv a 26 = .iface 200 (.pointer (some (a 26))) from rfl]
    have HR4 := Lib.hid r
    clear r
    go_wp2_with fail
    refine (code_err _ HR4.out.sen 26 (by decide) (by decide)).mono ?_
    rintro e w' ⟨rfl, rfl⟩
    go_wp2_with fail
    refine (run_accept HR4.out).mono ?_
    rintro e w5 ⟨rfl, r⟩
    rw [HF.out.1.acs] at r
    rw [HF.out.1.ac, show errv a 26 = .iface 200 (.pointer (some (a 26))) from rfl]
    have HR5 := Lib.hid r
    clear r
    go_wp2_with fail
    refine (code_err _ HR5.out.sen 26 (by decide) (by decide)).mono ?_
    rintro e w' ⟨rfl, rfl⟩
    go_wp2_with fail
    refine (run_ready HR5.out).mono ?_
    rintro e w' ⟨rfl, rfl⟩
    rw [HF.out.1.rd]
    go_wp2_with fail
    have HC6 : Hid (Chg none_ w5 (w5.alloc (.cells #[.int .u8 0, .int .u8 0, .int .u8 0, .int .u8 0, .int .u8 0, .int .u8 0, .int .u8 0, .int .u8 0, .int .u8 0] 5))) := (Chg.refl none_ w5).alloc _
    have HV6 : Hid (BsO (w5.alloc (.cells #[.int .u8 0, .int .u8 0, .int .u8 0, .int .u8 0, .int .u8 0, .int .u8 0, .int .u8 0, .int .u8 0, .int .u8 0] 5)) (.slice (some ⟨w5.heap.size, 0, none⟩) 9 9) [0, 0, 0, 0, 0, 0, 0, 0, 0]) := by
      refine ⟨_, 9, 9, rfl, rfl, (by intro z hz; simp at hz; omega), Nat.le_refl _, fun _ => ⟨w5.heap.size, rfl, fun i hi => ?_⟩⟩
      rw [cell_of_row _ _ i _ _ _ (heap_alloc_new w5 _)]
      match i, hi with
      | 0, _ => rfl
      | 1, _ => rfl
      | 2, _ => rfl
      | 3, _ => rfl
      | 4, _ => rfl
      | 5, _ => rfl
      | 6, _ => rfl
      | 7, _ => rfl
      | 8, _ => rfl
    refine (run_arrive (HR5.out.grow HC6.out) _ [0, 0, 0, 0, 0, 0, 0, 0, 0] HV6.out (z := w5.heap.size) HC6.out.size (HR5.out.old HC6.out) (fun k hk => by
      have e : k = w5.heap.size := by simpa [rdk, eq_comm] using hk
      rw [e]
      exact ⟨Nat.le_refl _, by simp⟩) (by decide) true).mono ?_
    rintro e w6 ⟨rfl, r⟩
    rw [HF.out.1.vs] at r
    rw [HF.out.1.av, show errv a 0 = Value.nilIface from rfl]
    have HR6 := Lib.hid r
    clear r
    go_wp2_with fail
    refine (run_grant HR6.out 4294967295 (by decide) (by decide) true).mono ?_
    rintro e w7 ⟨rfl, r⟩
    rw [HF.out.1.gs] at r
    rw [HF.out.1.gc, show errv a 0 = Value.nilIface from rfl]
    have HR7 := Lib.hid r
    clear r
    go_wp2_with fail
    refine (run_view HR7.out).mono ?_
    rintro e w8 ⟨rfl, r⟩
    rw [HF.out.2.1]
    have HR8 := Lib.hid r
    clear r
    go_wp2_with fail
    obtain ⟨wb, hwb⟩ : ∃ y, w8.alloc (.cells #[.int .u32 s.id, .int .i64 7, .bool s.mine, .bool s.acc, .int .i64 0, .int .u32 0, .int .i64 0, .int .i64 0, .int .i64 0, .bool s.cl, .bool s.td] 58) = y := ⟨_, rfl⟩
    obtain ⟨rb, hrb⟩ : ∃ y, w8.heap.size = y := ⟨_, rfl⟩
    have hcb : Chg none_ w8 wb := by rw [← hwb]; exact (Chg.refl none_ w8).alloc _
    have hib : Is wb rb 58 #[.int .u32 s.id, .int .i64 7, .bool s.mine, .bool s.acc, .int .i64 0, .int .u32 0, .int .i64 0, .int .i64 0, .int .i64 0, .bool s.cl, .bool s.td] := by rw [← hwb, ← hrb]; exact Is.new w8 _ _
    have hr8 := HR8.out.grow hcb
    obtain ⟨Ti, t1, t2⟩ := HR8.out.old hcb
    have HRb := Lib.hid (Run.init hr8.sen hr8.tab hr8.hBi t1 (hr8.low fun k hk => ⟨(t2 k hk).1, by have := (t2 k hk).2; have := hcb.size; omega⟩))
    have HCb : Hid (Chg T w wb) := hr8.chg
    have HIb := Lib.hid hib
    have HTi := Lib.hid t2
    rw [hwb, hrb]
    have HRr : Hid (w8.heap.size = rb) := hrb
    clear hwb hrb hcb hib hr8 t1 t2
    go_wp2_with fail
    refine (run_read HRb.out 5 (by decide) (by decide)).mono ?_
    rintro e w9 ⟨v, rfl, _, r⟩
    have hi9 := HIb.out.chg r.chg fun h => by have := (HTi.out _ h).2; have := HRr.out; omega
    have y1 : w9.cell? ⟨rb, 1, none⟩ = some (.int .i64 7) := hi9.at_ 1 _ rfl
    have y7 : w9.cell? ⟨rb, 7, none⟩ = some (.int .i64 0) := hi9.at_ 7 _ rfl
    rw [HF.out.2.2.2, show errv a 26 = .iface 200 (.pointer (some (a 26))) from rfl]
    have hdn : dnB (rtS s2 5) = true := HF.out.2.2.1
    have HR9 := Lib.hid r
    have HDn := Lib.hid hdn
    clear r hi9 hdn
    go_wp2_with fail
    refine (run_done HR9.out).mono ?_
    rintro e w' ⟨rfl, rfl⟩
    rw [HDn.out]
    go_wp2_with fail
    refine (code_err _ HR9.out.sen 26 (by decide) (by decide)).mono ?_
    rintro e w' ⟨rfl, rfl⟩
    go_wp2
    go_ret
    exact ⟨rfl, HCb.out.then HR9.out.chg fun k hk ht => by
      rcases (HTi.out k ht).1 with h' | h'
      · exact h'
      · omega⟩
end
end Go.Proofs.YthalmjjbamglgaaDoor
