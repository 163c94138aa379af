/-
  culvertlaw10.Pair.Step by contract, of every step.
  No condition of its own: the facts 'Sen' and 'Tab' on the world; everything lawful (Inv); the step's bytes at hand.
-/
import Derived.Test.YthalmjjbamglgaaDoorPlM
import Derived.Test.YthalmjjbamglgaaDoorOps
import Derived.Test.YthalmjjbamglgaaDoorRefL
namespace Go.Proofs.YthalmjjbamglgaaDoor
open Go.RowKit
section
variable {B : Nat} {A : Nat → Addr}
theorem step_any (w : World) {L g : Nat} (hI : Inv w L g) (hs : Sen B A w) (ht : Tab B w) (hBL : B ≤ L) (o : Opv) (hn : i64B o.n) (hz : o.zs.length = o.len) (hzb : Byt o.zs) (hzr : ∀ u, Below B w u → Rd u o.A o.len fun i => .int .u8 (o.zs.getD i 0)) (hzm : o.len ≤ 140737488355328) (hzc : o.len ≤ o.cap) (hd0 : 0 ≤ o.delta) (hd1 : o.delta ≤ 4294967295) :
    Calls Tryd.prog 18 #[.pointer (some ⟨g, 0, none⟩), .agg o.cells.toArray] w fun e w' => e = .returned (.bool true) ∧ Inv w' L g ∧ Chg (fun k => L ≤ k) w w' := by
  obtain ⟨T, p, x, n, s, h⟩ := hI
  obtain ⟨kd, xx, nn, A2, len, cap, zs, dl, fl, c0, c1, c2, c3, c4, c5, c6, c7⟩ := o
  simp only at hn hz hzb hzr hzm hzc hd0 hd1
  obtain ⟨a, ha, hbits⟩ : ∃ a : Nat, a < 2 ∧ bits .and .i64 xx 1 = (a : Int) := ⟨(xx % 2).toNat, by omega, by rw [bits_one]; omega⟩
  have hB : B ≤ w.heap.size := Nat.le_trans hBL (Nat.le_trans h.hL (Nat.le_of_lt h.im.lt))
  have hzr' : ∀ w1, Chg none_ w w1 → ∀ u, Below B w1 u → Rd u A2 len fun i => .int .u8 (zs.getD i 0) := fun w1 c u hb => hzr u ((c.old hB).trans hb)
  show Calls _ _ #[.pointer (some ⟨g, 0, none⟩), .agg #[.int .i64 kd, .int .i64 xx, .int .i64 nn, .slice A2 len cap, .int .u32 dl, .bool fl, .int .i64 c0, .int .i64 c1, .int .i64 c2, .int .i64 c3, .int .i64 c4, .int .i64 c5, .int .i64 c6, .int .i64 c7]] _ _
  by_cases e1 : kd = 1
  · subst e1
    obtain ⟨d0, d1, d2, d3, d4, d5, d6, d7, hcf0⟩ := cfg_any 1 xx nn A2 len cap dl fl c0 c1 c2 c3 c4 c5 c6 c7
    have hcf : ∀ w1 u, Chg none_ w1 u → Calls Tryd.prog 51 #[.agg #[.int .i64 1, .int .i64 xx, .int .i64 nn, .slice A2 len cap, .int .u32 dl, .bool fl, .int .i64 c0, .int .i64 c1, .int .i64 c2, .int .i64 c3, .int .i64 c4, .int .i64 c5, .int .i64 c6, .int .i64 c7]] u fun e u' => e = .returned (.agg #[.int .i64 d0, .int .i64 d1, .int .i64 d2, .int .i64 d3, .int .i64 d4, .int .i64 d5, .int .i64 d6, .int .i64 d7]) ∧ Chg none_ w1 u' := fun w1 u hu => (hcf0 u).mono fun e u' ⟨q1, q2⟩ => ⟨q1, hu.trans q2⟩
    obtain ⟨id, hid⟩ : ∃ q : Int, IntKind.u32.wrap nn = q := ⟨_, rfl⟩
    obtain ⟨i0, i1⟩ : 0 ≤ id ∧ id ≤ 4294967295 := by
      rw [← hid]
      exact u32_bounds nn
    by_cases hi0 : id = 0
    · subst hi0
      exact step_new_no w h hs ht hBL xx nn A2 len cap dl fl c0 c1 c2 c3 c4 c5 c6 c7 ha hbits hid hcf (k := 2) (by decide) (by decide) (fun u hs hB => snew_zero u hs hB fl _ _ _ _ _ _ _ _) (fun u => qnew_zero u fl _ _ _ _ _ _ _ _)
    · by_cases hk : 1 ≤ d0 ∧ d0 ≤ 2147483647 ∧ 1 ≤ d1 ∧ d1 ≤ 1048576 ∧ 1 ≤ d2 ∧ d2 ≤ 65536
      · obtain ⟨W, rfl⟩ : ∃ W : Nat, d0 = (W : Int) := ⟨d0.toNat, by omega⟩
        obtain ⟨stage, rfl⟩ : ∃ W : Nat, d1 = (W : Int) := ⟨d1.toNat, by omega⟩
        obtain ⟨frame, rfl⟩ : ∃ W : Nat, d2 = (W : Int) := ⟨d2.toNat, by omega⟩
        exact step_new_ok w h hs ht hBL xx nn A2 len cap dl fl c0 c1 c2 c3 c4 c5 c6 c7 ha hbits hid hcf (by omega) i1 (by omega) (by omega) (by omega) (by omega) (by omega) (by omega)
      · exact step_new_no w h hs ht hBL xx nn A2 len cap dl fl c0 c1 c2 c3 c4 c5 c6 c7 ha hbits hid hcf (k := 10) (by decide) (by decide) (fun u hs hB => snew_no u hs hB id fl d0 d1 d2 _ _ _ _ _ (by omega) hk) (fun u => qnew_no u id fl d0 d1 d2 _ _ _ _ _ (by omega) hk)
  · by_cases e12 : kd = 12
    · subst e12
      exact step_nil w h hs ht hBL xx nn A2 len cap dl fl c0 c1 c2 c3 c4 c5 c6 c7 ha hbits
    · by_cases k : 2 ≤ kd ∧ kd ≤ 10
      · by_cases k5 : kd ≤ 5
        · refine step_calls w h hs ht hBL kd xx nn A2 len cap dl fl c0 c1 c2 c3 c4 c5 c6 c7 ha hbits k.1 k5 fun w1 c h1 hs1 ht1 => ?_
          rcases (show kd = 2 ∨ kd = 3 ∨ kd = 4 ∨ kd = 5 by omega) with rfl | rfl | rfl | rfl
          · exact calls_acc w1 h1 hs1 ht1 hBL xx nn A2 len cap dl fl _ _ _ _ _ _ _ _ ha hbits
          · exact calls_write w1 h1 hs1 ht1 hBL xx nn A2 len cap dl fl _ _ _ _ _ _ _ _ ha hbits zs hz hzb (hzr' w1 c) hzm hzc
          · exact calls_close w1 h1 hs1 ht1 hBL xx nn A2 len cap dl fl _ _ _ _ _ _ _ _ ha hbits
          · exact calls_read w1 h1 hs1 ht1 hBL xx nn A2 len cap dl fl _ _ _ _ _ _ _ _ ha hbits hn.1 hn.2
        · refine step_wire w h hs ht hBL kd xx nn A2 len cap dl fl c0 c1 c2 c3 c4 c5 c6 c7 ha hbits (by omega) k.2 fun w1 c h1 hs1 ht1 => ?_
          rcases (show kd = 6 ∨ kd = 7 ∨ kd = 8 ∨ kd = 9 ∨ kd = 10 by omega) with rfl | rfl | rfl | rfl | rfl
          · cases hna : n a
            · exact wire_frame w1 h1 hs1 ht1 hBL xx nn A2 len cap dl fl _ _ _ _ _ _ _ _ ha hbits hna
            · exact wire_frame_nil w1 h1 hs1 ht1 hBL xx nn A2 len cap dl fl _ _ _ _ _ _ _ _ ha hbits hna
          · exact wire_arrive w1 h1 hs1 ht1 hBL xx nn A2 len cap dl fl _ _ _ _ _ _ _ _ ha hbits zs hz hzb (hzr' w1 c) hzm hzc
          · exact wire_grant w1 h1 hs1 ht1 hBL xx nn A2 len cap dl fl _ _ _ _ _ _ _ _ ha hbits hd0 hd1
          · exact wire_reset w1 h1 hs1 ht1 hBL xx nn A2 len cap dl fl _ _ _ _ _ _ _ _ ha hbits
          · exact wire_cut w1 h1 hs1 ht1 hBL xx nn A2 len cap dl fl _ _ _ _ _ _ _ _ ha hbits
      · exact step_look w h hs ht hBL kd xx nn A2 len cap dl fl c0 c1 c2 c3 c4 c5 c6 c7 ha hbits e1 e12 k
end
end Go.Proofs.YthalmjjbamglgaaDoor
