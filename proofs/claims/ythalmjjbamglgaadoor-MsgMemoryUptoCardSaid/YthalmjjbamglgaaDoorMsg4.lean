/-
  culvertref27: New, Say by contracts.
  No condition of its own.
-/
import Derived.Test.YthalmjjbamglgaaDoorMsg3
import Derived.Deep.RegionHeld3
namespace Go.Proofs.YthalmjjbamglgaaDoor
open Go.RowKit

section
variable {w : World} {ops : Array Oper} {o : Oper} {a : Act} {Q : Exit → Act → World → Prop} {base : Nat} {v : Value} {n : Nat} {K : Act → World → Prop} {E : Prop}
theorem step_append_bytes (hgd : o.guard = none) (s x : Operand) (ho : o.op = .call { callee := .builtin .append, args := #[s, x], argTypes := #[23, 23] })
    {olds : List Value} (hs : a.eval s = v) (hown : Ob w base 5 v n olds) (A : Option Addr) (m c : Nat) (xs : List Int) (hx : a.eval x = .slice A m c) (hl : xs.length = m) (hr : Rd w A m fun i => .int .u8 (xs.getD i 0))
    (hb : n + m ≤ 140737488355328) (hbase : base ≤ w.heap.size)
    (h : ∀ v' w', Ob w' base 5 v' (n + m) (olds ++ xs.map (Value.int .u8)) → w.grownBy w' (obk v) → (obk v' = obk v ∨ obk v' = some w.heap.size) → K (a.put o.dst v') w') : if Region.wanted o (yielded ops a.tmps) = true then Oper.wp Tryd.prog o a w K Q else E := by
  obtain ⟨i0, hi, hz0, hz1, hz2⟩ := info_parts Tryd.infoU8
  exact step_append_ob hgd s x _ ho i0 _ 1 Tryd.underlying23 hi hz0 hz1 hz2 rfl hs hown A m c (xs.map (Value.int .u8)) hx (by simpa using hl) (rd_ints hl hr) (ints_one _) (by simp only [maxLen]; omega) (by omega) hbase fun v' w' h1 h2 h3 _ => h v' w' h1 h2 h3
theorem step_append_lists (hgd : o.guard = none) (s x : Operand) (ho : o.op = .call { callee := .builtin .append, args := #[s, x], argTypes := #[28, 28] })
    {olds : List Value} (hs : a.eval s = v) (hown : Ob w base 23 v n olds) (A : Option Addr) (m c : Nat) (vs : List Value) (hx : a.eval x = .slice A m c) (hl : vs.length = m) (hr : Rd w A m fun i => vs.getD i .nilIface) (h1 : ∀ u ∈ vs, u.oneCell' = true)
    (hb : (n + m) * 24 ≤ 140737488355328) (hbase : base ≤ w.heap.size)
    (h : ∀ v' w', Ob w' base 23 v' (n + m) (olds ++ vs) → w.grownBy w' (obk v) → (obk v' = obk v ∨ obk v' = some w.heap.size) → K (a.put o.dst v') w') : if Region.wanted o (yielded ops a.tmps) = true then Oper.wp Tryd.prog o a w K Q else E := by
  obtain ⟨i0, hi, hz0, hz1, hz2⟩ := info_parts Tryd.infoBS
  exact step_append_ob hgd s x _ ho i0 _ 24 Tryd.underlying28 hi hz0 hz1 hz2 rfl hs hown A m c vs hx hl (vals_list vs hl hr) h1 (by simp only [maxLen]; omega) hb hbase fun v' w' h1 h2 h3 _ => h v' w' h1 h2 h3
end

theorem rnew_any (w : World) (most : Int) :
    Calls Tryd.prog 33 #[.int .i64 most] w fun e w' => e = .returned (.tuple #[.agg #[.int .i64 (if most < 0 ∨ 1048576 < most then -1 else most), .slice none 0 0], .int .i64 (if most < 0 ∨ 1048576 < most then 2 else 0)]) ∧ Chg none_ w w' := by
  have HG := Lib.hid ((Chg.refl none_ w).alloc (.cells #[.int .i64 0, .slice none 0 0] 81))
  by_cases h0 : most < 0
  · rw [if_pos (.inl h0), if_pos (.inl h0)]
    go_enter Tryd.func33, Tryd.ntmps33
    go_wp2
    go_returns
    exact ⟨rfl, (Chg.refl none_ w).alloc _⟩
  · by_cases h1 : 1048576 < most
    · rw [if_pos (.inr h1), if_pos (.inr h1)]
      go_enter Tryd.func33, Tryd.ntmps33
      go_wp2
      go_returns
      exact ⟨rfl, (Chg.refl none_ w).alloc _⟩
    · rw [if_neg (by omega), if_neg (by omega)]
      go_enter Tryd.func33, Tryd.ntmps33
      go_wp2
      go_returns
      exact ⟨rfl, (Chg.refl none_ w).alloc _⟩

/-- What holds at the head of Say's loop; w1 the world ahead of it, gr and gt its blocks. -/
structure SyL (w1 : World) (gr gq gt : Nat) (most : Int) (fv : Value) (F : List Int) (wr : World) (p : Nat) (mv : Value) (vs : List Value) (ms : List (List Int)) : Prop where
  chg : Chg (fun k => k = gt) w1 wr
  ir : Is wr gr 81 #[.int .i64 most, fv]
  iq : Is wr gq 144 #[.slice none 0 0, .int .i64 0, .bool false]
  it : Is wr gt 144 #[mv, .int .i64 0, .bool false]
  le : p ≤ F.length
  say : sayB most F = (ms ++ (sayB most (F.drop p)).1, (sayB most (F.drop p)).2)
  mem : Mem wr w1.heap.size vs ms
  out : Ob wr w1.heap.size 23 mv vs.length vs
  off : ∀ v ∈ vs, ∀ k, obk v = some k → obk mv ≠ some k
  cnt : vs.length ≤ p

theorem SyL.step {w1 : World} {gr gq gt : Nat} {most : Int} {fv : Value} {F : List Int} {wr w4 w5 : World} {p p' m c4 : Nat} {A4 : Option Addr} {mv vo : Value} {vs : List Value} {ms : List (List Int)} {X : List Int}
    (HF : SyL w1 gr gq gt most fv F wr p mv vs ms) (hr : gr < w1.heap.size ∧ gr ≠ gt) (hq : gq < w1.heap.size ∧ gq ≠ gt) (ht : gt < w1.heap.size) (HC4 : Chg none_ wr w4) (hXl : X.length = m) (H4 : Ob w4 wr.heap.size 5 (.slice A4 m c4) m (X.map (Value.int .u8))) (hXb : Byt X)
    (K1 : Ob w5 w1.heap.size 23 vo (vs.length + 1) (vs ++ [.slice A4 m c4])) (K2 : Chg (fun q => obk mv = some q) (w4.alloc (.cells #[.slice A4 m c4] 23)) w5) (K3 : obk vo = obk mv ∨ obk vo = some (w4.alloc (.cells #[.slice A4 m c4] 23)).heap.size)
    (hp : p < p') (hp' : p' ≤ F.length) (hs : sayB most (F.drop p) = (X :: (sayB most (F.drop p')).1, (sayB most (F.drop p')).2)) :
    SyL w1 gr gq gt most fv F (w5.setCell ⟨gt, 0, none⟩ vo) p' vo (vs ++ [.slice A4 m c4]) (ms ++ [X]) := by
  have hsz := HF.chg.size
  have hsz4 := HC4.size
  have hsz5 := K2.size
  have e1 : (w4.alloc (.cells #[.slice A4 m c4] 23)).heap.size = w4.heap.size + 1 := by simp
  have hmv : ∀ q, obk mv = some q → w1.heap.size ≤ q ∧ q < wr.heap.size := HF.out.block
  have C5 : Chg (fun q => obk mv = some q) wr w5 := ((HC4.more fun _ _ f => False.elim f).alloc _).trans K2
  have b4 : ∀ q, obk (.slice A4 m c4) = some q → wr.heap.size ≤ q ∧ q < w4.heap.size := H4.block
  have H5 : Ob w5 w1.heap.size 5 (.slice A4 m c4) X.length (X.map (Value.int .u8)) := by
    rw [hXl]
    refine ((H4.low fun q hq => by have := (b4 q hq).1; omega).keep fun q hq => Below.heap_alloc w4 _ q (b4 q hq).2).chg K2 fun q hq hb => by
      have := (b4 q hq).1; have := (hmv q hb).2; omega
  have off4 : ∀ q, obk (.slice A4 m c4) = some q → obk vo ≠ some q := fun q hq hq' => by
    have := b4 q hq
    rcases K3 with h | h
    · have := (hmv q (by rw [← h]; exact hq')).2; omega
    · rw [h, e1] at hq'; injection hq' with e; omega
  refine ⟨(HF.chg.then (S' := fun q => obk mv = some q) C5 fun q hq hb => by have := (hmv q hb).1; omega).setCell (fun _ => rfl) _, ?_, ?_, ?_, hp', ?_, ?_, ?_, ?_, ?_⟩
  · exact (HF.ir.chg C5 fun e => by have := (hmv gr e).1; omega).far hr.2 _
  · exact (HF.iq.chg C5 fun e => by have := (hmv gq e).1; omega).far hq.2 _
  · exact (HF.it.chg C5 fun e => by have := (hmv gt e).1; omega).put 0 _
  · rw [HF.say, hs]
    simp
  · refine (Mem.put ?_ ht 0 _)
    refine (HF.mem.chg C5 fun v hv q hq hb => HF.off v hv q hq hb).app (Mem.one H5 hXb) fun v hv u hu q hq hq' => ?_
    obtain rfl := List.mem_singleton.1 hu
    have := (HF.mem.block v hv q hq).2
    have := (b4 q hq').1
    omega
  · rw [List.length_append]
    exact K1.put ht 0 _
  · intro v hv q hq hq'
    rcases List.mem_append.1 hv with hv | hv
    · rcases K3 with h | h
      · exact HF.off v hv q hq (by rw [← h]; exact hq')
      · rw [h, e1] at hq'
        injection hq' with e
        have := (HF.mem.block v hv q hq).2
        omega
    · obtain rfl := List.mem_singleton.1 hv
      exact off4 q hq hq'
  · have := HF.cnt
    simp
    omega

/-- What Say leaves. -/
def SyEnd (w : World) (most : Int) (F : List Int) (e : Ending) (w' : World) : Prop :=
  ∃ mv vs, e = .returned (.agg #[mv, .int .i64 (hldS (stS most F) : Int), .bool (stS most F).isNone]) ∧ Ob w' w.heap.size 23 mv vs.length vs ∧ Mem w' w.heap.size vs (sayB most F).1 ∧
    (∀ v ∈ vs, ∀ k, obk v = some k → obk mv ≠ some k) ∧ vs.length ≤ F.length ∧ Chg none_ w w'

theorem sy_end {w w' : World} {most : Int} {F : List Int} {ms : List (List Int)} {so : Option (List Int)} {vs : List Value} {mv : Value} {e : Ending} {r : Int} {d : Bool} {lo : Nat}
    (hsay : sayB most F = (ms, so)) (he : e = .returned (.agg #[mv, .int .i64 r, .bool d])) (hr : r = (hldS so : Int)) (hd : d = so.isNone) (hlo : w.heap.size ≤ lo) (ho : Ob w' lo 23 mv vs.length vs) (hm : Mem w' lo vs ms)
    (hoff : ∀ v ∈ vs, ∀ k, obk v = some k → obk mv ≠ some k) (hl : vs.length ≤ F.length) (hc : Chg none_ w w') : SyEnd w most F e w' := by
  have e1 : stS most F = so := by unfold stS; rw [hsay]
  refine ⟨mv, vs, by rw [he, e1, hr, hd], ho.low fun k hk => Nat.le_trans hlo (ho.block k hk).1, ?_, hoff, hl, hc⟩
  rw [hsay]
  exact hm.low hlo

set_option maxRecDepth 100000 in
set_option maxHeartbeats 2000000 in
theorem say_any (w : World) (most : Int) (hm1 : most ≤ 1048576) (F : List Int) (fv : Value) (hb : Bs w fv F) (hlen : F.length ≤ 1099511627776) :
    Calls Tryd.prog 80 #[.agg #[.int .i64 most, fv]] w fun e w' => SyEnd w most F e w' := by
  obtain ⟨A, n, c, rfl, hl, hby, hr, hnc⟩ := hb
  have HR := Lib.hid hr
  have HY := Lib.hid hby
  have HL := Lib.hid hl
  clear hr hby hl
  go_enter Tryd.func80, Tryd.ntmps80
  go_wp2
  obtain ⟨w1, hw1⟩ : ∃ w1, w1 = ((w.alloc (.cells #[.int .i64 most, .slice A n c] 81)).alloc (.cells #[.slice none 0 0, .int .i64 0, .bool false] 144)).alloc (.cells #[.slice none 0 0, .int .i64 0, .bool false] 144) := ⟨_, rfl⟩
  rw [← hw1]
  have hsz1 : w1.heap.size = w.heap.size + 3 := by rw [hw1]; simp
  have HC1 : Hid (Chg none_ w w1) := by
    show Chg _ _ _
    rw [hw1]
    exact (((Chg.refl none_ w).alloc _).alloc _).alloc _
  have R2 : Hid (∀ wr, Chg (fun k => k = w.heap.size + 1 + 1) w1 wr → Rd wr A n fun i => .int .u8 (F.getD i 0)) := fun wr hc => HR.out.keep (HC1.out.then hc (fun k hk h => by omega) |>.old (Nat.le_refl _))
  have R1 : Hid (Rd w1 A n fun i => .int .u8 (F.getD i 0)) := HR.out.keep (HC1.out.old (Nat.le_refl _))
  have F0 : Hid (SyL w1 w.heap.size (w.heap.size + 1) (w.heap.size + 1 + 1) most (.slice A n c) F w1 0 (.slice none 0 0) [] []) := by
    refine ⟨Chg.refl _ _, ?_, ?_, ?_, Nat.zero_le _, by simp, Mem.nil _ _, ob_nil _ _ _ _, (fun v hv => by simp at hv), Nat.le_refl _⟩
    · rw [hw1]; exact ((Is.new w _ _).alloc _).alloc _
    · rw [hw1]; have := (Is.new (w.alloc (.cells #[.int .i64 most, .slice A n c] 81)) 144 #[.slice none 0 0, .int .i64 0, .bool false]).alloc (.cells #[.slice none 0 0, .int .i64 0, .bool false] 144); simpa using this
    · rw [hw1]; have := Is.new ((w.alloc (.cells #[.int .i64 most, .slice A n c] 81)).alloc (.cells #[.slice none 0 0, .int .i64 0, .bool false] 144)) 144 #[.slice none 0 0, .int .i64 0, .bool false]; simpa using this
  clear hw1
  generalize hgr : w.heap.size = gr at F0 R2
  have hg1 : gr + 3 = w1.heap.size := by omega
  clear hsz1
  go_loopw [4] (fun x4 wr => ∃ p mv vs ms, x4 = .int .i64 ((p : Nat) : Int) ∧ SyL w1 gr (gr + 1) (gr + 1 + 1) most (.slice A n c) F wr p mv vs ms) (fun x4 _ => F.length - (intOf x4).toNat)
  case atStart => exact ⟨0, _, _, _, rfl, F0.out⟩
  case round =>
    obtain ⟨p, mv, vs, ms, rfl, hF⟩ := hrel
    have HF := Lib.hid hF
    clear hF
    have hpl := HF.out.le
    have hl' := HL.out
    have hc0 : wr.cell? ⟨gr, 0, none⟩ = some (.int .i64 most) := HF.out.ir.at_ 0 _ rfl
    have hc1 : wr.cell? ⟨gr, 1, none⟩ = some (.slice A n c) := HF.out.ir.at_ 1 _ rfl
    obtain ⟨Am, cm, rfl, _, _⟩ := HF.out.out.slice
    have ht0 : wr.cell? ⟨gr + 1 + 1, 0, none⟩ = some (.slice Am vs.length cm) := HF.out.it.at_ 0 _ rfl
    have ht1 : wr.cell? ⟨gr + 1 + 1, 1, none⟩ = some (.int .i64 0) := HF.out.it.at_ 1 _ rfl
    have ht2 : wr.cell? ⟨gr + 1 + 1, 2, none⟩ = some (.bool false) := HF.out.it.at_ 2 _ rfl
    have hf0 : wr.frozen? ⟨gr + 1 + 1, 0, none⟩ = false := HF.out.it.frozen 0
    have hf1 : wr.frozen? ⟨gr + 1 + 1, 1, none⟩ = false := HF.out.it.frozen 1
    have hf2 : wr.frozen? ⟨gr + 1 + 1, 2, none⟩ = false := HF.out.it.frozen 2
    have hq0 : wr.cell? ⟨gr + 1, 0, none⟩ = some (.slice none 0 0) := HF.out.iq.at_ 0 _ rfl
    have hqf0 : wr.frozen? ⟨gr + 1, 0, none⟩ = false := HF.out.iq.frozen 0
    have hq1 : wr.cell? ⟨gr + 1, 1, none⟩ = some (.int .i64 0) := HF.out.iq.at_ 1 _ rfl
    have hqf1 : wr.frozen? ⟨gr + 1, 1, none⟩ = false := HF.out.iq.frozen 1
    have hq2 : wr.cell? ⟨gr + 1, 2, none⟩ = some (.bool false) := HF.out.iq.at_ 2 _ rfl
    have hqf2 : wr.frozen? ⟨gr + 1, 2, none⟩ = false := HF.out.iq.frozen 2
    obtain ⟨A', hA'⟩ : ∃ A', (if c = p then A else Option.map (fun x => x.add p) A) = A' := ⟨_, rfl⟩
    have hRr : Hid (Rd wr A' (n - p) fun i => .int .u8 ((F.drop p).getD i 0)) := by
      have h := rd_subE hnc (R2.out wr HF.out.chg) (k := p) (by omega)
      have e : subA A p c = A' := hA'
      rw [e] at h
      exact h
    have hDl : (F.drop p).length = n - p := by rw [List.length_drop]; omega
    have HDl := Lib.hid hDl
    have HDb : Hid (Byt (F.drop p)) := HY.out.drop p
    obtain ⟨kb, hkb⟩ : ∃ b, (hdB most (F.drop p)).isNone = b := ⟨_, rfl⟩
    obtain ⟨zn, hzn⟩ : ∃ z, (szT (F.drop p)).1 = z := ⟨_, rfl⟩
    obtain ⟨zk, hzk⟩ : ∃ z, (szT (F.drop p)).2 = z := ⟨_, rfl⟩
    have HSZ : ∀ w, (Rd w A' (n - p) fun i => .int .u8 ((F.drop p).getD i 0)) → Calls Tryd.prog 114 #[.slice A' (n - p) (c - p), .int .i64 most] w fun e w' => e = .returned (.tuple #[.int .i64 zn, .int .i64 (zk : Int), .bool kb]) ∧ Dr w w' := fun w h => by
      rw [← hkb, ← hzn, ← hzk]
      exact rsize_v w most A' (n - p) (c - p) (F.drop p) HDl.out HDb.out h
    have HSZ' := Lib.hid HSZ
    have HKB := Lib.hid hkb
    have HZN := Lib.hid hzn
    have HZK := Lib.hid hzk
    have hn63 : n ≤ 1099511627776 := by omega
    clear hkb hzn hzk HSZ hDl hpl hl' hlen
    have hpn : (p : Int) ≤ (n : Int) := by have := HF.out.le; have := HL.out; omega
    have hlo : gr ≤ w1.heap.size := by omega
    have hgt : gr + 1 + 1 < w1.heap.size := by omega
    have hgq : gr + 1 < w1.heap.size := by omega
    subst hgr
    rcases hh : hdB most (F.drop p) with _ | _ | ⟨k, m⟩
    · have HSAY : Hid (sayB most F = (ms, none)) := by
        show _ = _
        rw [HF.out.say, say_no hh, List.append_nil]
      obtain rfl : true = kb := by rw [← HKB.out, hh]; rfl
      clear hh
      go_wp2_with fail
      go_quiet ((go_at_call 114; refine Calls.quiet_of ((HSZ'.out _ (Rd.drewN hRr.out _)).mono fun e w' h => ⟨h.1, h.2.imp fun _ k => k.symm⟩)))
      go_wp2
      refine bodyPost_ret (by simp [results, Tryd.results80, go_sem, hq0, hq1, hq2]; try rfl) rfl ?_
      refine sy_end HSAY.out rfl ?_ rfl hlo ?_ ?_ HF.out.off (Nat.le_trans HF.out.cnt HF.out.le) ?_
      · rfl
      · exact (((HF.out.out.drewN _).put hgt _ _).put hgq 0 _).put hgq 1 _ |>.put hgq 2 _
      · exact (((HF.out.mem.drewN _).put hgt _ _).put hgq 0 _).put hgq 1 _ |>.put hgq 2 _
      · exact HC1.out.then (S' := fun k => k = w.heap.size + 1 + 1 ∨ k = w.heap.size + 1) (((((HF.out.chg.more fun k _ h => .inl h).drewN _).setCell (fun _ => .inl rfl) _).setCell (fun _ => .inr rfl) _).setCell (fun _ => .inr rfl) _ |>.setCell (fun _ => .inr rfl) _) fun k hk h => by omega
    · have HSAY : Hid (sayB most F = (ms, some (F.drop p))) := by
        show _ = _
        rw [HF.out.say, say_few hh, List.append_nil]
      obtain rfl : false = kb := by rw [← HKB.out, hh]; rfl
      have hs := szT_few hh
      obtain rfl : 0 = zn := by rw [← HZN.out, hs]
      obtain rfl : 0 = zk := by rw [← HZK.out, hs]
      clear hh hs
      go_wp2_with fail
      go_quiet ((go_at_call 114; refine Calls.quiet_of ((HSZ'.out _ (Rd.drewN hRr.out _)).mono fun e w' h => ⟨h.1, h.2.imp fun _ k => k.symm⟩)))
      go_wp2
      refine bodyPost_ret (by simp [results, Tryd.results80, go_sem, hq0, hq1, hq2]; try rfl) rfl ?_
      refine sy_end HSAY.out rfl ?_ rfl hlo ?_ ?_ HF.out.off (Nat.le_trans HF.out.cnt HF.out.le) ?_
      · have := HDl.out; show _ = (((F.drop p).length : Nat) : Int); rw [this]; omega
      · exact (((HF.out.out.drewN _).put hgt _ _).put hgq 0 _).put hgq 1 _ |>.put hgq 2 _
      · exact (((HF.out.mem.drewN _).put hgt _ _).put hgq 0 _).put hgq 1 _ |>.put hgq 2 _
      · exact HC1.out.then (S' := fun k => k = w.heap.size + 1 + 1 ∨ k = w.heap.size + 1) (((((HF.out.chg.more fun k _ h => .inl h).drewN _).setCell (fun _ => .inl rfl) _).setCell (fun _ => .inr rfl) _).setCell (fun _ => .inr rfl) _ |>.setCell (fun _ => .inr rfl) _) fun k hk h => by omega
    · obtain ⟨hk1, hk3, hkl, hmm, _⟩ := hd_is HDb.out hh
      have hs := szT_is HDb.out hh
      obtain rfl : (m : Int) = zn := by rw [← HZN.out, hs]
      obtain rfl : k = zk := by rw [← HZK.out, hs]
      obtain rfl : false = kb := by rw [← HKB.out, hh]; rfl
      have hk0 : ((k : Int) == 0) = false := by simp; omega
      have hm20 : m ≤ 1048576 := by omega
      by_cases hen : k + m ≤ n - p
      · have hdB : decide ((n : Int) - (p : Int) - (k : Int) < (m : Int)) = false := by simp; omega
        obtain ⟨pk, hpk⟩ : ∃ pk : Nat, pk = p + k := ⟨_, rfl⟩
        obtain ⟨pm, hpm⟩ : ∃ pm : Nat, pm = pk + m := ⟨_, rfl⟩
        have hpn' := HF.out.le
        have hlF := HL.out
        obtain ⟨A2, hA2⟩ : ∃ A2, (if c = pk then A else Option.map (fun x => x.add pk) A) = A2 := ⟨_, rfl⟩
        obtain ⟨X, hX⟩ : ∃ X : List Int, X = ((F.drop p).drop k).take m := ⟨_, rfl⟩
        have hXl : X.length = m := by rw [hX, List.length_take, List.length_drop, HDl.out]; omega
        have HX := Lib.hid hX
        have HX2 : Hid (Rd wr A2 m fun i => .int .u8 (X.getD i 0)) := by
          have h := Rd.sub (R2.out wr HF.out.chg) hnc (l := pk) (m := pm) (by omega) (by omega)
          have e : subA A pk c = A2 := hA2
          have e' : pm - pk = m := by omega
          rw [e, e'] at h
          refine h.congr fun i hi => ?_
          rw [hX, List.getD_eq_getElem?_getD, List.getD_eq_getElem?_getD, List.getElem?_take, if_pos hi, List.getElem?_drop, List.getElem?_drop, hpk, Nat.add_assoc]
        have hXb : Hid (Byt X) := by
          show Byt X
          rw [hX]
          exact (HDb.out.drop k).take m
        have hgz : Hid (w.heap.size + 1 + 1 < wr.heap.size) := by show _ < _; have := HF.out.chg.size; omega
        have hwr : Hid (w1.heap.size ≤ wr.heap.size) := HF.out.chg.size
        have HXL := Lib.hid hXl
        have HW : Hid ((IntKind.i64.wrap ((p : Int) + (k : Int)) = (pk : Int) ∧ IntKind.i64.wrap ((pk : Int) + (m : Int)) = (pm : Int)) ∧ ((pk : Int) ≤ (pm : Int) ∧ (pm : Int) ≤ (c : Int)) ∧ pm - pk = m) := by
          refine ⟨⟨?_, ?_⟩, ⟨by omega, by omega⟩, by omega⟩
          · rw [IntWalk.i64_in _ (by omega)]; omega
          · rw [IntWalk.i64_in _ (by omega)]; omega
        have HPK2 : Hid (p < pm ∧ pm ≤ F.length) := ⟨by omega, by omega⟩
        have HPK3 : Hid (Value.int .i64 ((p : Int) + ((k : Int) + (m : Int))) = .int .i64 (pm : Int)) := by
          show _ = _
          rw [show ((p : Int) + ((k : Int) + (m : Int))) = (pm : Int) by omega]
        have HPKE : Hid (pm = p + (k + m)) := by show _ = _; omega
        have HSY : Hid (sayB most (F.drop p) = (X :: (sayB most (F.drop pm)).1, (sayB most (F.drop pm)).2)) := by
          show _ = _
          rw [say_one HDb.out hh (by rw [HDl.out]; exact hen), ← hX, List.drop_drop, show p + (k + m) = pm by omega]
        have hrr : w.heap.size < w1.heap.size ∧ w.heap.size ≠ w.heap.size + 1 + 1 := by omega
        have hqq : w.heap.size + 1 < w1.heap.size ∧ w.heap.size + 1 ≠ w.heap.size + 1 + 1 := by omega
        have HA2 := Lib.hid hA2
        have HE := Lib.hid hen
        clear hh hs hmm hX hXl hA2 hen hpk hpm hpn' hlF
        go_wp2_with fail
        go_quiet ((go_at_call 114; refine Calls.quiet_of ((HSZ'.out _ (Rd.drewN hRr.out _)).mono fun e w' h => ⟨h.1, h.2.imp fun _ k => k.symm⟩)))
        go_wp2
        have hA2 := HA2.out
        have hdb := HF.out.out
        have hgz' := hgz.out
        have hwr' := hwr.out
        have hvl : vs.length ≤ 1099511627776 := by have := HF.out.cnt; have := HF.out.le; have := HL.out; omega
        have HVL := Lib.hid hvl
        have hl1 : ∀ (q : Nat) (o : Obj), ((wr.drewN q).alloc o).cell? ⟨w.heap.size, 1, none⟩ = some (.slice A n c) := fun q o => (Is.alloc (Is.drewN HF.out.ir q) o).at_ 1 _ rfl
        have hl0 : ∀ (q : Nat) (o : Obj), ((wr.drewN q).alloc o).cell? ⟨w.heap.size + 1 + 1, 0, none⟩ = some (.slice Am vs.length cm) := fun q o => (Is.alloc (Is.drewN HF.out.it q) o).at_ 0 _ rfl
        obtain ⟨⟨hw1, hw2⟩, ⟨hw3, hw4⟩, hw5⟩ := HW.out
        clear hdb hvl hgz' hwr' HW
        go_region_law (first
          | (refine step_append_bytes (v := .slice (some ⟨wr.heap.size, 0, none⟩) 0 0) rfl (.tmp 45) (.tmp 56) rfl rfl (ob_nil _ wr.heap.size _ _) A2 m _ X rfl HXL.out (HX2.out.keep ((below_drewN (Below.refl _ _) _).alloc (Nat.le_refl _) _)) (by omega) (by simp) ?_
             intro v4 w4 k1 k2 k3
             simp only [Nat.zero_add, List.nil_append] at k1
             obtain ⟨A4, c4, rfl, h4a, h4b⟩ := k1.slice
             have H4 := Lib.hid k1
             have HC4 : Hid (Chg none_ wr w4) := ((((Chg.refl none_ wr).drewN _).alloc _)).trans ((grown_chg k2).more fun k _ hk => by simp [obk] at hk)
             have I4 : Hid (Is w4 (w.heap.size + 1 + 1) 144 #[.slice Am vs.length cm, .int .i64 0, .bool false]) := HF.out.it.chg HC4.out fun f => f
             have g4 : w4.cell? ⟨w.heap.size + 1 + 1, 0, none⟩ = some (.slice Am vs.length cm) := I4.out.at_ 0 _ rfl
             have g5 : ∀ o : Obj, (w4.alloc o).cell? ⟨w.heap.size + 1 + 1, 0, none⟩ = some (.slice Am vs.length cm) := fun o => (Is.alloc I4.out o).at_ 0 _ rfl
             have hsz4 : Hid (wr.heap.size ≤ w4.heap.size) := HC4.out.size
             have b4 : Hid (∀ q, obk (.slice A4 m c4) = some q → wr.heap.size ≤ q ∧ q < w4.heap.size) := fun q hq => H4.out.block q hq
             clear k1 k2 k3)
          | (refine step_append_lists (v := .slice Am vs.length cm) rfl (.tmp 44) (.tmp 58) rfl rfl (HF.out.out.chg (HC4.out.alloc (.cells #[.slice A4 m c4] 23)) (fun _ _ f => f)) (some ⟨w4.heap.size, 0, none⟩) 1 1 [.slice A4 m c4] rfl rfl (Is.rdV [.slice A4 m c4] (Is.new w4 _ _)) (by intro u hu; obtain rfl := List.mem_singleton.1 hu; rfl) (by have := HVL.out; omega) (by have := hsz4.out; have := hwr.out; simp; omega) ?_
             intro vo w5 k1 k2 k3
             obtain ⟨Ao, co, rfl, h5a, h5b⟩ := k1.slice
             have K1 := Lib.hid k1
             have K2 : Hid (Chg (fun q => obk (.slice Am vs.length cm) = some q) (w4.alloc (.cells #[.slice A4 m c4] 23)) w5) := grown_chg k2
             have K3 := Lib.hid k3
             have I5 : Hid (Is w5 (w.heap.size + 1 + 1) 144 #[.slice Am vs.length cm, .int .i64 0, .bool false]) := (Is.alloc I4.out _).chg K2.out fun e => by have := (HF.out.out.block _ e).1; have := hgt; omega
             have gs5 : w5.cell? ⟨w.heap.size + 1 + 1, 0, none⟩ = some (.slice Am vs.length cm) := I5.out.at_ 0 _ rfl
             have fs5 : w5.frozen? ⟨w.heap.size + 1 + 1, 0, none⟩ = false := I5.out.frozen 0
             have HN := Lib.hid (HF.out.step hrr hqq hgt HC4.out HXL.out H4.out hXb.out K1.out K2.out k3 HPK2.out.1 HPK2.out.2 HSY.out)
             clear k1 k2 k3))
        all_goals go_wp2
        all_goals
          go_roundw
          case rel => exact ⟨_, _, _, _, HPK3.out, HN.out⟩
          case measure => have := HPK2.out; have := HPKE.out; simp [intOf]; omega
      · have hdB : decide ((n : Int) - (p : Int) - (k : Int) < (m : Int)) = true := by simp; omega
        have HSAY : Hid (sayB most F = (ms, some (F.drop p))) := by
          show _ = _
          rw [HF.out.say, say_wait hh (by rw [HDl.out]; omega), List.append_nil]
        clear hh hs hmm
        go_wp2_with fail
        go_quiet ((go_at_call 114; refine Calls.quiet_of ((HSZ'.out _ (Rd.drewN hRr.out _)).mono fun e w' h => ⟨h.1, h.2.imp fun _ k => k.symm⟩)))
        go_wp2
        refine bodyPost_ret (by simp [results, Tryd.results80, go_sem, hq0, hq1, hq2]; try rfl) rfl ?_
        refine sy_end HSAY.out rfl ?_ rfl hlo ?_ ?_ HF.out.off (Nat.le_trans HF.out.cnt HF.out.le) ?_
        · have := HDl.out; show _ = (((F.drop p).length : Nat) : Int); rw [this]; omega
        · exact (((HF.out.out.drewN _).put hgt _ _).put hgq 0 _).put hgq 1 _ |>.put hgq 2 _
        · exact (((HF.out.mem.drewN _).put hgt _ _).put hgq 0 _).put hgq 1 _ |>.put hgq 2 _
        · exact HC1.out.then (S' := fun k => k = w.heap.size + 1 + 1 ∨ k = w.heap.size + 1) (((((HF.out.chg.more fun k _ h => .inl h).drewN _).setCell (fun _ => .inl rfl) _).setCell (fun _ => .inr rfl) _).setCell (fun _ => .inr rfl) _ |>.setCell (fun _ => .inr rfl) _) fun k hk h => by omega
end Go.Proofs.YthalmjjbamglgaaDoor
