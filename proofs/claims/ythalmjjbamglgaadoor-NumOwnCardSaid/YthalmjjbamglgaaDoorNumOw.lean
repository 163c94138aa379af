/-
  The walk of NumOwn.
  No condition of its own: the fact 'Sen' on the world; sizes within the reach.
-/
import Derived.Test.YthalmjjbamglgaaDoorNumAp
namespace Go.Proofs.YthalmjjbamglgaaDoor
open Go.RowKit

theorem grown_chg1 {w w' : World} {v : Value} (h : w.grownBy w' (obk v)) : Chg (fun k => obk v = some k) w w' := grow_chg h
theorem wrap16 (v : Int) : 0 ≤ IntKind.u16.wrap v ∧ IntKind.u16.wrap v ≤ 65535 := by
  simp [IntKind.wrap, IntKind.bits, IntKind.signed]
  omega
theorem wrap32_mod (v : Int) : v % 4294967296 = IntKind.u32.wrap v := (IntKind.wrap_u32 v).symm

section
variable {w : World} {ops : Array Oper} {rest : List Oper} {o : Oper} {a : Act} {Q : Exit → Act → World → Prop} {base : Nat} {v : Value} {n : Nat}
/-- append of a list of byte lists. -/
theorem wpList_append_rows (hgd : o.guard = none) (s x : Operand) (ho : o.op = .call { callee := .builtin .append, args := #[s, x], argTypes := #[28, 28] })
    {olds : List Value} (hs : a.eval s = v) (hown : Ob w base 23 v n olds) (A : Option Addr) (m c : Nat) (vs : List Value) (hx : a.eval x = .slice A m c) (hl : vs.length = m) (hr : Rd w A m fun i => vs.getD i .nilIface)
    (h1 : ∀ u ∈ vs, u.oneCell' = true) (hb : n + m ≤ 1099511627776) (hbase : base ≤ w.heap.size)
    (h : ∀ v' w', Ob w' base 23 v' (n + m) (olds ++ vs) → w.grownBy w' (obk v) → (obk v' = obk v ∨ obk v' = some w.heap.size) → wpList Tryd.prog ops Q rest (a.put o.dst v') w') : wpList Tryd.prog ops Q (o :: rest) a w := by
  obtain ⟨i0, hi, hz0, hz1, hz2⟩ := info_parts Tryd.infoBS
  exact wpList_append_ob hgd s x _ ho i0 _ 24 Tryd.underlying28 hi hz0 hz1 hz2 rfl hs hown A m c vs hx hl (vals_list vs hl hr) h1 (by simp only [maxLen]; omega) (by omega) hbase fun v' w' h1 h2 h3 _ => h v' w' h1 h2 h3
end

set_option maxRecDepth 100000 in
set_option maxHeartbeats 4000000 in
theorem numown_walk {a : Nat → Addr} (w : World) (hs : Sen w.heap.size a w) (v : Int) (h0 : 0 ≤ v) (h1 : v ≤ 4294967295) (bv : Value) (xs : List Int) (hb : Bs w bv xs) (hlen : xs.length ≤ 140737488351232) :
    Calls Tryd.prog 3 #[.int .u32 v, bv] w fun e w' => e = .returned (.bool true) ∧ Below w.heap.size w w' := by
  have HB := Lib.hid hb
  have HS := Lib.hid hs
  obtain ⟨A, n, c, rfl, hN, hby, hr, hncap⟩ := hb
  have HNx := Lib.hid hN
  have hn47 : n ≤ 140737488351232 := by omega
  have HR := Lib.hid hr
  have HY := Lib.hid hby
  clear hs hr hby hN hlen hncap
  go_enter Tryd.func3, Tryd.ntmps3
  go_wp2_with fail
  refine (awake_any w HS.out (Nat.le_refl _)).mono ?_
  rintro e w1 ⟨rfl, k1⟩
  have HC1 : Hid (Chg none_ w w1) := Chg.of_below k1
  clear k1
  go_wp2_with fail
  refine (b32 w1 v h0 h1).mono ?_
  rintro e w2 ⟨rfl, i1, k1⟩
  have HC2 : Hid (Chg none_ w1 w2) := Chg.of_below k1
  have HI1 := Lib.hid i1
  clear i1 k1
  go_wp2_with fail
  refine (b32 w2 v h0 h1).mono ?_
  rintro e w3 ⟨rfl, i1, k1⟩
  have HC3 : Hid (Chg none_ w2 w3) := Chg.of_below k1
  have HI2 := Lib.hid i1
  clear i1 k1
  go_wp2_with fail
  refine (b16 w3 (IntKind.u16.wrap v) (wrap16 v).1 (wrap16 v).2).mono ?_
  rintro e w4 ⟨rfl, i1, k1⟩
  have HC4 : Hid (Chg none_ w3 w4) := Chg.of_below k1
  have HI3 := Lib.hid i1
  clear i1 k1
  go_wp2_with fail
  refine (b16 w4 (IntKind.u16.wrap v) (wrap16 v).1 (wrap16 v).2).mono ?_
  rintro e w5 ⟨rfl, i1, k1⟩
  have HC5 : Hid (Chg none_ w4 w5) := Chg.of_below k1
  have HI4 := Lib.hid i1
  clear i1 k1
  go_wp2_with fail
  refine (b32 w5 ((v + 1) % 4294967296) (by omega) (by omega)).mono ?_
  rintro e w6 ⟨rfl, i1, k1⟩
  have HC6 : Hid (Chg none_ w5 w6) := Chg.of_below k1
  have HI5 := Lib.hid i1
  have z1 := HI1.out.lt
  have z2 := HI2.out.lt
  have z3 := HI3.out.lt
  have z4 := HI4.out.lt
  have z5 := HI5.out.lt
  have y1 := HC1.out.size
  have HZ : Hid (w.heap.size ≤ w1.heap.size ∧ w1.heap.size + 1 < w2.heap.size ∧ w2.heap.size + 1 < w3.heap.size ∧ w3.heap.size + 1 < w4.heap.size ∧ w4.heap.size + 1 < w5.heap.size ∧ w5.heap.size + 1 < w6.heap.size) := by
    refine ⟨y1, z1, z2, z3, z4, z5⟩
  clear i1 k1 z1 z2 z3 z4 z5 y1
  obtain ⟨n3, hn3⟩ : ∃ q : Nat, n + 3 = q := ⟨_, rfl⟩
  have HN3 := Lib.hid hn3
  have HCw6 : Hid (Chg none_ w w6) := ((((HC1.out.trans HC2.out).trans HC3.out).trans HC4.out).trans HC5.out).trans HC6.out
  clear hn3
  go_wp2_with (at_builtin; refine wpList_append_bytes rfl (.tmp 24) (.tmp 25) rfl rfl (ob_nil _ (w6.heap.size + 1) _ _) A n c xs rfl HNx.out ?hr ?hb ?hs ?_)
  case hr => exact HR.out.keep (((HCw6.out.alloc _).alloc _).old (Nat.le_refl _))
  case hb => omega
  case hs => simp
  intro v7 w7 k1 k2 k3
  obtain ⟨gl, hgl⟩ : ∃ gl, w6.heap.size = gl := ⟨_, rfl⟩
  have HGl := Lib.hid hgl
  have k1' : Ob w7 (w6.heap.size + 1) 5 v7 n (xs.map (Value.int .u8)) := by simpa using k1
  have c7 : Chg none_ ((w6.alloc (.cells #[.slice (some ⟨w1.heap.size + 1, 0, none⟩) 4 4, .slice (some ⟨w2.heap.size + 1, 0, none⟩) 4 4, .slice (some ⟨w3.heap.size + 1, 0, none⟩) 2 2, .slice (some ⟨w4.heap.size + 1, 0, none⟩) 2 2, .slice (some ⟨w5.heap.size + 1, 0, none⟩) 4 4] 23)).alloc (.cells #[] 5)) w7 := (grown_chg1 k2).more fun k _ hk => by simp [obk] at hk
  have HC7 : Hid (Chg none_ w6 w7) := (((Chg.refl none_ w6).alloc _).alloc _).trans c7
  have HIl : Hid (Is w7 w6.heap.size 23 #[.slice (some ⟨w1.heap.size + 1, 0, none⟩) 4 4, .slice (some ⟨w2.heap.size + 1, 0, none⟩) 4 4, .slice (some ⟨w3.heap.size + 1, 0, none⟩) 2 2, .slice (some ⟨w4.heap.size + 1, 0, none⟩) 2 2, .slice (some ⟨w5.heap.size + 1, 0, none⟩) 4 4]) := (((Is.new w6 _ _).alloc _).chg c7 fun f => f)
  obtain ⟨A7, c7', rfl, _, _⟩ := k1'.slice
  have H7 : Hid (Ob (w7.alloc (.cells #[.int .u8 7, .int .u8 8, .int .u8 9] 5)) (w6.heap.size + 1) 5 (.slice A7 n c7') n (xs.map (Value.int .u8))) := k1'.chg ((Chg.refl none_ w7).alloc _) (fun _ _ f => f)
  have HR7 : Hid (Rd (w7.alloc (.cells #[.int .u8 7, .int .u8 8, .int .u8 9] 5)) (some ⟨w7.heap.size, 0, none⟩) 3 fun i => .int .u8 (([7, 8, 9] : List Int).getD i 0)) := Is.rdI [7, 8, 9] (Is.new w7 5 _)
  have h67 : w6.heap.size + 1 ≤ (w7.alloc (.cells #[.int .u8 7, .int .u8 8, .int .u8 9] 5)).heap.size := by have := HIl.out.lt; simp; omega
  clear k1 k1' k2 k3 c7 hgl
  go_wp2_with (at_builtin; refine wpList_append_bytes rfl (.tmp 26) (.tmp 27) rfl rfl H7.out (some ⟨w7.heap.size, 0, none⟩) 3 3 [7, 8, 9] rfl rfl HR7.out ?hb2 h67 ?_)
  case hb2 => omega
  intro v8 w8 k1 k2 k3
  replace k1 : Ob w8 (w6.heap.size + 1) 5 v8 n3 ((xs ++ [7, 8, 9]).map (Value.int .u8)) := by rw [List.map_append, ← HN3.out]; exact k1
  have HC8 : Hid (Chg none_ w6 w8) := (HC7.out.alloc _).then (grown_chg1 k2) fun k hk hb => by have := (H7.out.block k hb).1; omega
  have HI8 : Hid (Is w8 w6.heap.size 23 #[.slice (some ⟨w1.heap.size + 1, 0, none⟩) 4 4, .slice (some ⟨w2.heap.size + 1, 0, none⟩) 4 4, .slice (some ⟨w3.heap.size + 1, 0, none⟩) 2 2, .slice (some ⟨w4.heap.size + 1, 0, none⟩) 2 2, .slice (some ⟨w5.heap.size + 1, 0, none⟩) 4 4]) := (HIl.out.alloc _).chg (grown_chg1 k2) fun hb => by have := (H7.out.block _ hb).1; omega
  obtain ⟨A8, c8, rfl, hnc8, _⟩ := k1.slice
  have H8 := Lib.hid k1
  have HX3 : Hid (Byt (xs ++ [7, 8, 9])) := HY.out.append (by intro z hz; simp at hz; omega)
  have hn8 : n ≤ c8 := by have := HN3.out; omega
  have hn8I : (n : Int) ≤ (c8 : Int) := by omega
  clear k1 k2 k3 h67
  obtain ⟨X3, hX3⟩ : ∃ X, xs ++ [7, 8, 9] = X := ⟨_, rfl⟩
  have HXX := Lib.hid hX3
  rw [hX3] at HX3 H8
  clear hX3
  have HBf : Hid (Bs w8 (.slice A8 n3 c8) X3) := Bs.of_ob H8.out HX3.out
  have HRx : Hid (Rd w8 A8 n fun i => .int .u8 (xs.getD i 0)) := by
    obtain ⟨_, _, _, e, _, _, hr, _⟩ := HBf.out
    cases e
    refine fun hp => ?_
    obtain ⟨ad, e, hc⟩ := hr (by have := HN3.out; omega)
    refine ⟨ad, e, fun i hi => ?_⟩
    rw [hc i (by have := HN3.out; omega), ← HXX.out]
    show some (Value.int .u8 ((xs ++ [7, 8, 9]).getD i 0)) = some (Value.int .u8 (xs.getD i 0))
    rw [List.getD_eq_getElem?_getD, List.getD_eq_getElem?_getD, List.getElem?_append_left (by rw [HNx.out]; exact hi)]
  have ks := fun (Q : Nat) {A : Option Addr} {n c : Nat} {ys : List Int} (h : Bs w8 (.slice A n c) ys) => run_str (P := Tryd.prog) (w := w8.drewN Q) (c := c) (A := A) (n := n) (xs := ys) 23 5 Tryd.underlying23 Tryd.underlying5 (by obtain ⟨_, _, _, e, hl, _⟩ := h; cases e; exact hl) (Rd.drewN (by obtain ⟨_, _, _, e, _, _, hr, _⟩ := h; cases e; exact hr) Q)
  obtain ⟨E4, hE4⟩ : ∃ E : List Int, [v / 16777216, v / 65536 % 256, v / 256 % 256, v % 256] = E := ⟨_, rfl⟩
  obtain ⟨E2, hE2⟩ : ∃ E : List Int, [IntKind.u16.wrap v / 256, IntKind.u16.wrap v % 256] = E := ⟨_, rfl⟩
  have hbE4 : Byt E4 := by rw [← hE4]; intro z hz; simp at hz; omega
  have hbE2 : Byt E2 := by rw [← hE2]; have := wrap16 v; intro z hz; simp at hz; omega
  have HB1 : Hid (Bs w8 (.slice (some ⟨w1.heap.size + 1, 0, none⟩) 4 4) E4) := by
    have h := ((((HI1.out.chg HC3.out (fun f => f)).chg HC4.out (fun f => f)).chg HC5.out (fun f => f)).chg HC6.out (fun f => f)).chg HC8.out (fun f => f)
    rw [← hE4]
    exact ⟨_, _, _, rfl, rfl, by rw [hE4]; exact hbE4, Is.rdI [v / 16777216, v / 65536 % 256, v / 256 % 256, v % 256] h, Nat.le_refl _⟩
  have HB2 : Hid (Bs w8 (.slice (some ⟨w2.heap.size + 1, 0, none⟩) 4 4) E4) := by
    have h := (((HI2.out.chg HC4.out (fun f => f)).chg HC5.out (fun f => f)).chg HC6.out (fun f => f)).chg HC8.out (fun f => f)
    rw [← hE4]
    exact ⟨_, _, _, rfl, rfl, by rw [hE4]; exact hbE4, Is.rdI [v / 16777216, v / 65536 % 256, v / 256 % 256, v % 256] h, Nat.le_refl _⟩
  have HB3 : Hid (Bs w8 (.slice (some ⟨w3.heap.size + 1, 0, none⟩) 2 2) E2) := by
    have h := ((HI3.out.chg HC5.out (fun f => f)).chg HC6.out (fun f => f)).chg HC8.out (fun f => f)
    rw [← hE2]
    exact ⟨_, _, _, rfl, rfl, by rw [hE2]; exact hbE2, Is.rdI [IntKind.u16.wrap v / 256, IntKind.u16.wrap v % 256] h, Nat.le_refl _⟩
  have HB4 : Hid (Bs w8 (.slice (some ⟨w4.heap.size + 1, 0, none⟩) 2 2) E2) := by
    have h := (HI4.out.chg HC6.out (fun f => f)).chg HC8.out (fun f => f)
    rw [← hE2]
    exact ⟨_, _, _, rfl, rfl, by rw [hE2]; exact hbE2, Is.rdI [IntKind.u16.wrap v / 256, IntKind.u16.wrap v % 256] h, Nat.le_refl _⟩
  have kf : ∀ (dst : TypeId), Tryd.prog.underlying dst = some .string → (convert 23 dst (.slice A8 n3 c8)).run Tryd.prog w8 = .ok (.string (strOfNums X3)) w8 := ks 0 HBf.out
  have kx : ∀ (Q : Nat) (dst : TypeId), Tryd.prog.underlying dst = some .string → (convert 23 dst (.slice A8 n3 c8)).run Tryd.prog (w8.drewN Q) = .ok (.string (strOfNums X3)) (w8.drewN Q) := fun Q => ks Q HBf.out
  have kb1 : ∀ (Q : Nat) (dst : TypeId), Tryd.prog.underlying dst = some .string → (convert 23 dst (.slice (some ⟨w1.heap.size + 1, 0, none⟩) 4 4)).run Tryd.prog (w8.drewN Q) = .ok (.string (strOfNums E4)) (w8.drewN Q) := fun Q => ks Q HB1.out
  have kb2 : ∀ (Q : Nat) (dst : TypeId), Tryd.prog.underlying dst = some .string → (convert 23 dst (.slice (some ⟨w2.heap.size + 1, 0, none⟩) 4 4)).run Tryd.prog (w8.drewN Q) = .ok (.string (strOfNums E4)) (w8.drewN Q) := fun Q => ks Q HB2.out
  have kb3 : ∀ (Q : Nat) (dst : TypeId), Tryd.prog.underlying dst = some .string → (convert 23 dst (.slice (some ⟨w3.heap.size + 1, 0, none⟩) 2 2)).run Tryd.prog (w8.drewN Q) = .ok (.string (strOfNums E2)) (w8.drewN Q) := fun Q => ks Q HB3.out
  have kb4 : ∀ (Q : Nat) (dst : TypeId), Tryd.prog.underlying dst = some .string → (convert 23 dst (.slice (some ⟨w4.heap.size + 1, 0, none⟩) 2 2)).run Tryd.prog (w8.drewN Q) = .ok (.string (strOfNums E2)) (w8.drewN Q) := fun Q => ks Q HB4.out
  have l0 : ∀ Q, (w8.drewN Q).cell? ⟨w6.heap.size, 0, none⟩ = some (.slice (some ⟨w1.heap.size + 1, 0, none⟩) 4 4) := fun Q => HI8.out.at_ 0 _ rfl
  have l1 : ∀ Q, (w8.drewN Q).cell? ⟨w6.heap.size, 1, none⟩ = some (.slice (some ⟨w2.heap.size + 1, 0, none⟩) 4 4) := fun Q => HI8.out.at_ 1 _ rfl
  have l2 : ∀ Q, (w8.drewN Q).cell? ⟨w6.heap.size, 2, none⟩ = some (.slice (some ⟨w3.heap.size + 1, 0, none⟩) 2 2) := fun Q => HI8.out.at_ 2 _ rfl
  have l3 : ∀ Q, (w8.drewN Q).cell? ⟨w6.heap.size, 3, none⟩ = some (.slice (some ⟨w4.heap.size + 1, 0, none⟩) 2 2) := fun Q => HI8.out.at_ 3 _ rfl
  have HS8 : Hid (Sen w.heap.size a w8) := HS.out.below ((HCw6.out.trans HC8.out).old (Nat.le_refl _))
  clear ks hE4 hE2 hbE4 hbE2
  go_wp2_with fail
  refine (get16_any w8 HS8.out HNx.out HY.out HRx.out).mono ?_
  rintro e w9 ⟨rfl, q9, rfl⟩
  go_wp2_with fail
  refine (get32_any _ (HS8.out.drewN _) HNx.out HY.out (HRx.out.drewN _)).mono ?_
  rintro e w10 ⟨rfl, q10, rfl⟩
  go_wp2_with fail
  go_quiet (fail)
  obtain ⟨w9, hw9⟩ : ∃ w9, (w8.drewN (q9 + q10)).drewN nq = w9 := ⟨_, rfl⟩
  have c89 : Chg none_ w8 w9 := by rw [← hw9]; exact ((Chg.refl none_ w8).drewN _).drewN _
  have HC9 := Lib.hid c89
  have HI9 : Hid (Ob (w9.alloc (.cells #[.slice A8 n c8] 23)) w6.heap.size 23 (.slice (some ⟨w6.heap.size, 0, none⟩) 5 5) 5 [.slice (some ⟨w1.heap.size + 1, 0, none⟩) 4 4, .slice (some ⟨w2.heap.size + 1, 0, none⟩) 4 4, .slice (some ⟨w3.heap.size + 1, 0, none⟩) 2 2, .slice (some ⟨w4.heap.size + 1, 0, none⟩) 2 2, .slice (some ⟨w5.heap.size + 1, 0, none⟩) 4 4]) :=
    .inr ⟨⟨rfl, .inr ⟨_, 5, _, rfl, Nat.le_refl _, (HI8.out.chg c89 (fun f => f)).alloc _, Nat.le_refl _, by decide, rfl, rfl⟩⟩, _, _, rfl, by decide⟩
  have HRr : Hid (Rd (w9.alloc (.cells #[.slice A8 n c8] 23)) (some ⟨w9.heap.size, 0, none⟩) 1 fun i => ([.slice A8 n c8] : List Value).getD i .nilIface) := Is.rdV [.slice A8 n c8] (Is.new w9 23 _)
  have hb9 : w6.heap.size ≤ (w9.alloc (.cells #[.slice A8 n c8] 23)).heap.size := by have := HC8.out.size; have := c89.size; simp; omega
  rw [hw9]
  clear hw9 c89
  go_wp2_with (at_builtin; refine wpList_append_rows rfl (.tmp 67) (.tmp 72) rfl rfl HI9.out (some ⟨w9.heap.size, 0, none⟩) 1 1 [.slice A8 n c8] ?e1 rfl HRr.out (by simp [Value.oneCell']) ?e2 ?e3 ?_)
  case e1 => rfl
  case e2 => decide
  case e3 => exact hb9
  intro va wa k1 k2 k3
  have HCa : Hid (Chg (fun k => k = w6.heap.size) w8 wa) := ((HC9.out.alloc _).more (S' := fun k => k = w6.heap.size) fun _ _ f => f.elim).then (grown_chg1 k2) fun k _ hk => by simpa [obk, eq_comm] using hk
  obtain ⟨Aa, ca, rfl, _, _⟩ := k1.slice
  obtain ⟨ga, rfl⟩ := k1.addr (by decide)
  have HKa := Lib.hid k1
  have hga : obk (.slice (some ⟨ga, 0, none⟩) (5 + 1) ca) = some ga := k1.rdk ga (by simp [rdk])
  have HGa : Hid (w6.heap.size ≤ ga ∧ ga < wa.heap.size ∧ (ga = w6.heap.size ∨ w8.heap.size ≤ ga)) := by
    refine ⟨(k1.block ga hga).1, (k1.block ga hga).2, ?_⟩
    rcases k3 with h | h
    · rw [hga] at h
      simp [obk] at h
      exact .inl h
    · rw [hga] at h
      simp at h
      have := HC9.out.size
      exact .inr (by omega)
  clear k1 k2 k3 hga hb9
  obtain ⟨U, hU⟩ : ∃ U : Nat → Value, (fun j => ([.slice (some ⟨w1.heap.size + 1, 0, none⟩) 4 4, .slice (some ⟨w2.heap.size + 1, 0, none⟩) 4 4, .slice (some ⟨w3.heap.size + 1, 0, none⟩) 2 2, .slice (some ⟨w4.heap.size + 1, 0, none⟩) 2 2, .slice (some ⟨w5.heap.size + 1, 0, none⟩) 4 4, .slice A8 n c8] : List Value).getD j .nilIface) = U := ⟨_, rfl⟩
  obtain ⟨N, hN⟩ : ∃ N : Nat → Nat, (fun j => ([4, 4, 2, 2, 4, n] : List Nat).getD j 0) = N := ⟨_, rfl⟩
  have HFr : Ob wa w.heap.size 5 (.slice A8 n c8) n ((X3.map (Value.int .u8)).take n) := by
    have h0 := H8.out.front (m := n) (by have := HN3.out; omega)
    have h := (h0.chg HCa.out fun q hq e => by have := (h0.block q hq).1; omega)
    exact h.low fun q hq => by have := (h0.block q hq).1; have := HZ.out; omega
  have hF8 : ∀ q, obk (.slice A8 n c8) = some q → w6.heap.size + 1 ≤ q ∧ q < w8.heap.size := (H8.out.front (m := n) (by have := HN3.out; omega)).block
  have hoI : ∀ (g m : Nat) (cs : Array Value), Is w8 g 5 cs → cs.size = m → 0 < m → m ≤ 4 → w.heap.size ≤ g → g < w6.heap.size → ∃ xs, Ob wa w.heap.size 5 (.slice (some ⟨g, 0, none⟩) m m) m xs := fun g m cs hi hm h0 h4 hw h6 =>
    ⟨cs.toList, .inr ⟨⟨by rw [Array.length_toList, hm, Nat.mul_one], .inr ⟨g, m, cs, rfl, hw, hi.chg HCa.out (by show ¬ g = _; omega), Nat.le_refl _, by simp only [maxLen]; omega, by rw [hm, Nat.mul_one], by rw [List.take_of_length_le (by rw [Array.length_toList, hm]; omega)]⟩⟩, _, _, rfl, h0⟩⟩
  have hz := HZ.out
  have hob : ∀ j, j < 6 → ∃ xs, Ob wa w.heap.size 5 (U j) (N j) xs := fun j hj => by
    rw [← hU, ← hN]
    match j, hj with
    | 0, _ => exact hoI _ 4 _ (((((HI1.out.chg HC3.out (fun f => f)).chg HC4.out (fun f => f)).chg HC5.out (fun f => f)).chg HC6.out (fun f => f)).chg HC8.out (fun f => f)) rfl (by omega) (by omega) (by omega) (by omega)
    | 1, _ => exact hoI _ 4 _ ((((HI2.out.chg HC4.out (fun f => f)).chg HC5.out (fun f => f)).chg HC6.out (fun f => f)).chg HC8.out (fun f => f)) rfl (by omega) (by omega) (by omega) (by omega)
    | 2, _ => exact hoI _ 2 _ (((HI3.out.chg HC5.out (fun f => f)).chg HC6.out (fun f => f)).chg HC8.out (fun f => f)) rfl (by omega) (by omega) (by omega) (by omega)
    | 3, _ => exact hoI _ 2 _ ((HI4.out.chg HC6.out (fun f => f)).chg HC8.out (fun f => f)) rfl (by omega) (by omega) (by omega) (by omega)
    | 4, _ => exact hoI _ 4 _ (HI5.out.chg HC8.out (fun f => f)) rfl (by omega) (by omega) (by omega) (by omega)
    | 5, _ => exact ⟨_, HFr⟩
  have hNl : ∀ j, j < 6 → N j ≤ 140737488351232 := fun j hj => by
    rw [← hN]
    match j, hj with
    | 0, _ => show (4 : Nat) ≤ _; omega
    | 1, _ => show (4 : Nat) ≤ _; omega
    | 2, _ => show (2 : Nat) ≤ _; omega
    | 3, _ => show (2 : Nat) ≤ _; omega
    | 4, _ => show (4 : Nat) ≤ _; omega
    | 5, _ => exact hn47
  have hq : ∀ j, j < 6 → ∀ q, obk (U j) = some q → (j = 0 ∧ q = w1.heap.size + 1) ∨ (j = 1 ∧ q = w2.heap.size + 1) ∨ (j = 2 ∧ q = w3.heap.size + 1) ∨ (j = 3 ∧ q = w4.heap.size + 1) ∨ (j = 4 ∧ q = w5.heap.size + 1) ∨ (j = 5 ∧ w6.heap.size + 1 ≤ q ∧ q < w8.heap.size) := fun j hj q hq => by
    rw [← hU] at hq
    match j, hj with
    | 0, _ => simp [obk] at hq; omega
    | 1, _ => simp [obk] at hq; omega
    | 2, _ => simp [obk] at hq; omega
    | 3, _ => simp [obk] at hq; omega
    | 4, _ => simp [obk] at hq; omega
    | 5, _ => have := hF8 q hq; omega
  have hcells : ∀ j, j < 6 → wa.cell? ⟨ga, j, none⟩ = some (U j) := fun j hj => by
    rw [← hU]
    exact (HKa.out.cellAt j hj).trans (vals_get (vs := [.slice (some ⟨w1.heap.size + 1, 0, none⟩) 4 4, .slice (some ⟨w2.heap.size + 1, 0, none⟩) 4 4, .slice (some ⟨w3.heap.size + 1, 0, none⟩) 2 2, .slice (some ⟨w4.heap.size + 1, 0, none⟩) 2 2, .slice (some ⟨w5.heap.size + 1, 0, none⟩) 4 4, .slice A8 n c8]) hj)
  have hsz : w.heap.size ≤ wa.heap.size := by have := HC8.out.size; have := HCa.out.size; omega
  go_wp2_with fail
  refine (apart_any wa w.heap.size 6 ga ca U N (by omega) hsz hcells HGa.out.2.1 hob hNl (fun j j' q hj hj' hne e e' => by have := hq j hj q e; have := hq j' hj' q e'; omega) (fun j hj e => by have := hq j hj ga e; have := HGa.out; omega)).mono ?_
  rintro e w11 ⟨rfl, kb⟩
  go_wp2
  go_ret
  exact ⟨rfl, ((HCw6.out.trans HC8.out).then HCa.out fun k hk e => by omega).old (Nat.le_refl _) |>.trans kb⟩
end Go.Proofs.YthalmjjbamglgaaDoor
