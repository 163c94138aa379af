/-
  msg.Reader.Feed by a contract: the messages, each in memory of its own, the state behind it.
  No condition of its own: the fact 'Sen' on the world.
-/
import Derived.Test.YthalmjjbamglgaaDoorMsgSz2
import Derived.Deep.DeepCutAuto
import Derived.Deep.CutBlock
import Derived.WalkMore
import Derived.Deep.LoopGhost
namespace Go.Proofs.YthalmjjbamglgaaDoor
open Go.RowKit

theorem Chg.then0 {S : Nat → Prop} {w w' w'' : World} (h : Chg S w w') (k : Chg none_ w' w'') : Chg S w w'' := h.then (S' := none_) k fun _ _ f => False.elim f

/-- Messages in memory of their own, from block lo on. -/
structure Mem (w : World) (lo : Nat) (vs : List Value) (ms : List (List Int)) : Prop where
  all : All2 (fun v m => Ob w lo 5 v m.length (m.map (Value.int .u8)) ∧ Byt m) vs ms
  apart : vs.Pairwise fun u v => ∀ k, obk u = some k → obk v ≠ some k
theorem all2_mem {α β : Type} {R : α → β → Prop} : ∀ {us : List α} {bs : List β}, All2 R us bs → ∀ u ∈ us, ∃ b ∈ bs, R u b
  | _, _, .cons h h', u, hu => by
    rcases List.mem_cons.1 hu with rfl | hu
    · exact ⟨_, List.mem_cons_self .., h⟩
    · obtain ⟨b, hb, hr⟩ := all2_mem h' u hu
      exact ⟨b, List.mem_cons_of_mem _ hb, hr⟩
theorem Mem.nil (w : World) (lo : Nat) : Mem w lo [] [] := ⟨.nil, .nil⟩
theorem Mem.block {w : World} {lo : Nat} {vs : List Value} {ms : List (List Int)} (h : Mem w lo vs ms) : ∀ v ∈ vs, ∀ k, obk v = some k → lo ≤ k ∧ k < w.heap.size := by
  intro v hv k hk
  obtain ⟨m, _, ho, _⟩ := all2_mem h.all v hv
  exact ho.block k hk
theorem Mem.chg {S : Nat → Prop} {w w' : World} {lo : Nat} {vs : List Value} {ms : List (List Int)} (h : Mem w lo vs ms) (hc : Chg S w w') (hs : ∀ v ∈ vs, ∀ k, obk v = some k → ¬ S k) : Mem w' lo vs ms :=
  ⟨h.all.mono fun v _ hv _ ⟨ho, hb⟩ => ⟨ho.chg hc (hs v hv), hb⟩, h.apart⟩
theorem Mem.keep {w w' : World} {lo : Nat} {vs : List Value} {ms : List (List Int)} (h : Mem w lo vs ms) (hc : Chg none_ w w') : Mem w' lo vs ms := h.chg hc fun _ _ _ _ f => f
theorem Mem.low {w : World} {lo lo' : Nat} {vs : List Value} {ms : List (List Int)} (h : Mem w lo vs ms) (hl : lo' ≤ lo) : Mem w lo' vs ms :=
  ⟨h.all.mono fun _ _ _ _ ⟨ho, hb⟩ => ⟨ho.low fun k hk => Nat.le_trans hl (ho.block k hk).1, hb⟩, h.apart⟩
theorem Mem.app {w : World} {lo : Nat} {vs us : List Value} {ms ns : List (List Int)} (h : Mem w lo vs ms) (h' : Mem w lo us ns) (hx : ∀ v ∈ vs, ∀ u ∈ us, ∀ k, obk v = some k → obk u ≠ some k) : Mem w lo (vs ++ us) (ms ++ ns) :=
  ⟨h.all.app h'.all, List.pairwise_append.2 ⟨h.apart, h'.apart, hx⟩⟩
theorem Mem.one {w : World} {lo : Nat} {v : Value} {m : List Int} (h : Ob w lo 5 v m.length (m.map (Value.int .u8))) (hb : Byt m) : Mem w lo [v] [m] := ⟨.cons ⟨h, hb⟩ .nil, List.pairwise_singleton _ _⟩
theorem Mem.bs {w : World} {lo : Nat} {vs : List Value} {ms : List (List Int)} (h : Mem w lo vs ms) : All2 (Bs w) vs ms := h.all.mono fun _ _ _ _ ⟨ho, hb⟩ => Bs.of_ob ho hb
theorem Mem.len {w : World} {lo : Nat} {vs : List Value} {ms : List (List Int)} (h : Mem w lo vs ms) : vs.length = ms.length := h.all.len
theorem Mem.one_cell {w : World} {lo : Nat} {vs : List Value} {ms : List (List Int)} (h : Mem w lo vs ms) : ∀ u ∈ vs, u.oneCell' = true := by
  intro u hu
  obtain ⟨m, _, ho, _⟩ := all2_mem h.all u hu
  obtain ⟨A, c, rfl, _⟩ := ho.slice
  rfl

theorem Mem.drewN {w : World} {lo : Nat} {vs : List Value} {ms : List (List Int)} (h : Mem w lo vs ms) (n : Nat) : Mem (w.drewN n) lo vs ms := h.keep ((Chg.refl none_ w).drewN n)
theorem Mem.put {w : World} {lo : Nat} {vs : List Value} {ms : List (List Int)} (h : Mem w lo vs ms) {g : Nat} (hg : g < lo) (i : Nat) (u : Value) : Mem (w.setCell ⟨g, i, none⟩ u) lo vs ms :=
  h.chg (S := fun k => k = g) ((Chg.refl (fun k => k = g) w).setCell (p := ⟨g, i, none⟩) (fun _ => rfl) u) fun v hv k hk e => by have := (h.block v hv k hk).1; omega
theorem Ob.put {w : World} {lo : Nat} {e : TypeId} {v : Value} {n : Nat} {xs : List Value} (h : Ob w lo e v n xs) {g : Nat} (hg : g < lo) (i : Nat) (u : Value) : Ob (w.setCell ⟨g, i, none⟩ u) lo e v n xs :=
  h.keep fun k hk => Below.heap_setCell w _ _ k (by have := (h.block k hk).1; simp only; omega)
theorem Ob.drewN {w : World} {lo : Nat} {e : TypeId} {v : Value} {n : Nat} {xs : List Value} (h : Ob w lo e v n xs) (q : Nat) : Ob (w.drewN q) lo e v n xs := h.keep fun _ _ => rfl

theorem sub_rdk {A : Option Addr} {l n c d q : Nat} (h : rdk (.slice (subA A l c) (n - l) d) = some q) : rdk (.slice A n c) = some q := by
  obtain ⟨a, rfl, rfl⟩ := subA_block (_n := 0) q h
  have hn : n ≠ 0 := by
    rintro rfl
    cases hs : subA (some a) l c <;> simp [hs, rdk] at h
  simp [rdk, hn]
theorem bs_sub {w : World} {A : Option Addr} {n c : Nat} {R : List Int} (hl : R.length = n) (hnc : n ≤ c) (hb : Byt R) (hr : Rd w A n fun i => .int .u8 (R.getD i 0)) {k m : Nat} (h : k + m ≤ n) :
    Bs w (.slice (subA A k c) (k + m - k) (c - k)) ((R.drop k).take m) := by
  refine ⟨_, _, _, rfl, by rw [List.length_take, List.length_drop]; omega, (hb.drop k).take m, (hr.sub hnc (by omega) h).congr fun i hi => ?_, by omega⟩
  rw [List.getD_eq_getElem?_getD, List.getD_eq_getElem?_getD, List.getElem?_take, if_pos (by omega), List.getElem?_drop]
theorem rd_subE {w : World} {A : Option Addr} {n c : Nat} {R : List Int} (hnc : n ≤ c) (hr : Rd w A n fun i => .int .u8 (R.getD i 0)) {k : Nat} (h : k ≤ n) :
    Rd w (subA A k c) (n - k) fun i => .int .u8 ((R.drop k).getD i 0) :=
  (hr.subE hnc h).congr fun i _ => by rw [List.getD_eq_getElem?_getD, List.getD_eq_getElem?_getD, List.getElem?_drop]

/-- append to a list of byte lists. -/
theorem wpList_append_lists {w : World} {ops : Array Oper} {rest : List Oper} {o : Oper} {a : Act} {Q : Exit → Act → World → Prop} {base : Nat} {v : Value} {n : Nat} (hgd : o.guard = none) (s x : Operand) (ho : o.op = .call { callee := .builtin .append, args := #[s, x], argTypes := #[28, 28] })
    {olds : List Value} (hs : a.eval s = v) (hown : Ob w base 23 v n olds) (A : Option Addr) (m c : Nat) (vs : List Value) (hx : a.eval x = .slice A m c) (hl : vs.length = m) (hr : Rd w A m fun i => vs.getD i .nilIface) (h1 : ∀ u ∈ vs, u.oneCell' = true)
    (hb : (n + m) * 24 ≤ 140737488355328) (hbase : base ≤ w.heap.size)
    (h : ∀ v' w', Ob w' base 23 v' (n + m) (olds ++ vs) → w.grownBy w' (obk v) → (obk v' = obk v ∨ obk v' = some w.heap.size) → wpList Tryd.prog ops Q rest (a.put o.dst v') w') : wpList Tryd.prog ops Q (o :: rest) a w := by
  obtain ⟨i0, hi, hz0, hz1, hz2⟩ := info_parts Tryd.infoBS
  exact wpList_append_ob hgd s x _ ho i0 _ 24 Tryd.underlying28 hi hz0 hz1 hz2 rfl hs hown A m c vs hx hl (vals_list vs hl hr) h1 (by simp only [maxLen]; omega) hb hbase fun v' w' h1 h2 h3 _ => h v' w' h1 h2 h3

section
variable {B : Nat} {a : Nat → Addr}
set_option maxRecDepth 100000 in
theorem feed_nil (w : World) (hs : Sen B a w) (v : Value) :
    Calls Tryd.prog 35 #[.pointer none, v] w fun e w' => e = .returned (.tuple #[.slice none 0 0, errv a 1]) ∧ Chg none_ w w' := by
  have hc : w.cell? ⟨3, 0, none⟩ = some (.iface 200 (.pointer (some (a 1)))) := hs.cell 1 (by decide) (by decide)
  have HG := Lib.hid (Chg.refl none_ w)
  clear hs
  go_enter Tryd.func35, Tryd.ntmps35
  go_wp2_with fail
  go_step3
  go_wp2
  go_quiet (fail)
  go_wp2
  try rw [Exit.noGoto_ret]
  go_ret2
  exact ⟨rfl, HG.out.drewN _⟩
set_option maxRecDepth 100000 in
theorem feed_dead (w : World) (hs : Sen B a w) {base g : Nat} {most : Int} {hv : Value} (h : Rdr w base g most none hv) (v : Value) :
    Calls Tryd.prog 35 #[.pointer (some ⟨g, 0, none⟩), v] w fun e w' => e = .returned (.tuple #[.slice none 0 0, errv a 34]) ∧ Chg none_ w w' := by
  have hc : w.cell? ⟨8, 0, none⟩ = some (.iface 200 (.pointer (some (a 34)))) := hs.cell 34 (by decide) (by decide)
  have c2 := h.is.at_ 2 (.bool true) rfl
  have HG := Lib.hid (Chg.refl none_ w)
  clear hs h
  go_enter Tryd.func35, Tryd.ntmps35
  go_wp2_with fail
  go_step3
  go_wp2
  go_quiet (fail)
  go_wp2
  try rw [Exit.noGoto_ret]
  go_ret2
  exact ⟨rfl, HG.out.drewN _⟩

def lenV : Value → Nat
  | .slice _ n _ => n
  | _ => 0
/-- What holds at the head of Feed's loop, w1 the world ahead of it. -/
structure FdL (w1 : World) (most : Int) (all : List Int) (wr : World) (A : Option Addr) (n c : Nat) (R : List Int) (vo : Value) (vs : List Value) (ms : List (List Int)) : Prop where
  chg : Chg none_ w1 wr
  rd : Rd wr A n fun i => .int .u8 (R.getD i 0)
  len : R.length = n
  le : n ≤ c
  suf : ∃ pre, all = pre ++ R
  say : sayB most all = (ms ++ (sayB most R).1, (sayB most R).2)
  mem : Mem wr w1.heap.size vs ms
  out : Ob wr w1.heap.size 23 vo vs.length vs
  off : ∀ v ∈ vs, ∀ k, obk v = some k → obk vo ≠ some k
  cnt : vs.length + n ≤ all.length
  old : ∀ q, rdk (.slice A n c) = some q → q < w1.heap.size

/-- What a Feed of a living reader leaves. -/
def FdEnd (a : Nat → Addr) (w : World) (base g : Nat) (most : Int) (H xs : List Int) (hv : Value) (e : Ending) (w' : World) : Prop :=
  ∃ out vs hv', e = .returned (.tuple #[out, errv a (fdC most (some H) xs)]) ∧
    Rdr w' base g most (fdS most (some H) xs) hv' ∧ (obk hv' = obk hv ∨ obk hv' = none ∨ ∃ k, obk hv' = some k ∧ w.heap.size ≤ k) ∧
    Ob w' w.heap.size 23 out vs.length vs ∧ Mem w' w.heap.size vs (fdM most (some H) xs) ∧ (∀ v ∈ vs, ∀ k, obk v = some k → obk out ≠ some k ∧ obk hv' ≠ some k) ∧ (∀ k, obk out = some k → obk hv' ≠ some k) ∧
    Chg (fun k => k = g ∨ obk hv = some k) w w'
theorem fd_end {a : Nat → Addr} {w w' : World} {base g : Nat} {most : Int} {H xs all : List Int} {hv hv' out : Value} {e : Ending} {ms : List (List Int)} {so : Option (List Int)} {vs : List Value} {lo : Nat} {q : Nat}
    (hall : all = H ++ xs) (hsay : sayB most all = (ms, so)) (he : e = .returned (.tuple #[out, errv a q])) (hq : q = so.elim 15 fun _ => 0) (hR : Rdr w' base g most so hv') (hk : obk hv' = obk hv ∨ obk hv' = none ∨ ∃ k, obk hv' = some k ∧ w.heap.size ≤ k)
    (hlo : w.heap.size ≤ lo) (ho : Ob w' lo 23 out vs.length vs) (hm : Mem w' lo vs ms) (hoff : ∀ v ∈ vs, ∀ k, obk v = some k → obk out ≠ some k) (hx : ∀ k, obk hv' = some k → k < lo ∨ (∀ v ∈ vs, obk v ≠ some k) ∧ obk out ≠ some k) (hc : Chg (fun k => k = g ∨ obk hv = some k) w w') :
    FdEnd a w base g most H xs hv e w' := by
  subst hall
  have e1 : fdS most (some H) xs = so := by unfold fdS; simp only [Option.elim]; rw [hsay]
  have e2 : fdM most (some H) xs = ms := by unfold fdM; simp only [Option.elim]; rw [hsay]
  have e3 : fdC most (some H) xs = so.elim 15 fun _ => 0 := by unfold fdC; simp only [Option.elim]; rw [hsay]
  refine ⟨out, vs, hv', by rw [he, e3, hq], by rw [e1]; exact hR, hk, ho.low fun k hk => Nat.le_trans hlo (ho.block k hk).1, by rw [e2]; exact hm.low hlo, fun v hv k hkv => ⟨hoff v hv k hkv, fun hh => ?_⟩, fun k hko hh => ?_, hc⟩
  · rcases hx k hh with h | h
    · have := (hm.block v hv k hkv).1; omega
    · exact h.1 v hv hkv
  · rcases hx k hh with h | h
    · have := (ho.block k hko).1; omega
    · exact h.2 hko

set_option maxRecDepth 100000 in
set_option maxHeartbeats 2000000 in
theorem feed_live (w : World) (hs : Sen B a w) (hBw : B ≤ w.heap.size) {base g : Nat} {most : Int} {H : List Int} {hv : Value} (h : Rdr w base g most (some H) hv) (hbase : base ≤ w.heap.size) (hBb : B ≤ base) (hBg : B ≤ g) (hgb : g < w.heap.size) (hm0 : 0 ≤ most) (hm1 : most ≤ 1048576)
    (v : Value) (xs : List Int) (hb : Bs w v xs) (hlen : H.length + xs.length ≤ 1099511627776) :
    Calls Tryd.prog 35 #[.pointer (some ⟨g, 0, none⟩), v] w fun e w' => FdEnd a w base g most H xs hv e w' := by
  obtain ⟨A, n, c, rfl, rfl, hby, hr, _⟩ := hb
  obtain ⟨AH, cH, rfl, hH1, hH2⟩ := h.ob.slice
  simp only [Option.getD_some] at h hH1 ⊢
  have c1 := h.is.at_ 1 _ rfl
  have c2 := h.is.at_ 2 (.bool false) rfl
  simp only [List.getElem_toArray, List.getElem_cons_succ, List.getElem_cons_zero] at c1
  have HS := Lib.hid hs
  have HD := Lib.hid h
  have HR := Lib.hid hr
  have HL := Lib.hid hlen
  have HO : Hid (Ob w base 5 (.slice AH H.length cH) H.length (H.map (Value.int .u8))) := h.ob
  clear h hr hs hlen
  go_enter Tryd.func35, Tryd.ntmps35
  go_wp2_with fail
  go_step3
  go_wp2_with (at_builtin; refine wpList_append_bytes rfl (.tmp 23) (.tmp 24) rfl rfl HO.out A xs.length c xs rfl rfl HR.out ?hb hbase ?_)
  case hb => have := HL.out; omega
  intro hv1 w1 k1 k2 k3
  have HC1 := Lib.hid (grown_chg k2)
  have I1 := Lib.hid (HD.out.is.chg HC1.out fun e => HD.out.ne e)
  have K3 := Lib.hid k3
  obtain ⟨all, hall⟩ : ∃ all : List Int, all = H ++ xs := ⟨_, rfl⟩
  have H1 : Hid (Ob w1 base 5 hv1 all.length (all.map (Value.int .u8))) := by
    rw [hall, List.map_append, List.length_append]
    exact k1
  have hallb : Byt all := by rw [hall]; exact HD.out.byt.append hby
  have HA := Lib.hid hall
  have HAB := Lib.hid hallb
  clear k1 k2 k3 hall hallb
  obtain ⟨A1, C1, rfl, hA1, hA2⟩ := H1.out.slice
  have s1 : w1.cell? ⟨g, 1, none⟩ = some (.slice AH H.length cH) := I1.out.at_ 1 _ rfl
  have f1 : w1.frozen? ⟨g, 1, none⟩ = false := I1.out.frozen 1
  go_wp2
  try go_step3
  go_wp2
  obtain ⟨w2, hw2⟩ : ∃ w2, w2 = w1.setCell ⟨g, 1, none⟩ (.slice A1 all.length C1) := ⟨_, rfl⟩
  rw [← hw2]
  have hg1 : ∀ k, obk (.slice A1 all.length C1) = some k → k ≠ g := by
    intro k hk e
    rcases K3.out with h | h
    · exact HD.out.ne (by rw [← h, hk, e])
    · rw [h] at hk
      injection hk with hk
      omega
  have HC2 : Hid (Chg (fun k => k = g ∨ obk (.slice AH H.length cH) = some k) w w2) := by
    show Chg _ _ _
    rw [hw2]
    exact (HC1.out.more fun k _ hk => .inr hk).setCell (fun _ => .inl rfl) _
  have I2 : Hid (Is w2 g 142 #[.int .i64 most, .slice A1 all.length C1, .bool false]) := by
    show Is _ _ _ _
    rw [hw2]
    exact I1.out.put 1 _
  have H2 : Hid (Ob w2 base 5 (.slice A1 all.length C1) all.length (all.map (Value.int .u8))) := by
    show Ob _ _ _ _ _ _
    rw [hw2]
    exact H1.out.keep fun k hk => Below.heap_setCell w1 _ _ k (hg1 k hk)
  have HG1 := Lib.hid hg1
  have HLA : Hid (all.length ≤ 1099511627776) := by
    show _ ≤ _
    rw [HA.out, List.length_append]
    exact HL.out
  have hsz := HC2.out.size
  have hgz : g < w2.heap.size := by omega
  have F0 : Hid (FdL w2 most all w2 A1 all.length C1 all (.slice none 0 0) [] []) :=
    ⟨Chg.refl _ _, H2.out.rd (fun i hi => ints_get hi) rfl, rfl, hA1, ⟨[], rfl⟩, by simp, Mem.nil _ _, ob_nil _ _ _ _, (fun v hv => by simp at hv), by simp, rdk_rd (H2.out.rd (f := fun i => .int .u8 (all.getD i 0)) (fun i hi => ints_get hi) rfl)⟩
  clear hw2 hg1 s1 f1 c1 c2 HO HR I1 H1 HC1
  go_loopw [6, 7] (fun x6 x7 wr => ∃ A n c R vo vs ms, x6 = .slice A n c ∧ vo = x7 ∧ FdL w2 most all wr A n c R vo vs ms) (fun x6 _ _ => lenV x6)
  case atStart => exact ⟨_, _, _, _, _, _, _, rfl, rfl, F0.out⟩
  case round =>
    obtain ⟨Ar, n, cr, R, vo, vs, ms, rfl, rfl, hF⟩ := hrel
    have HF := Lib.hid hF
    clear hF
    have hn63 : n ≤ 1099511627776 := by have := HF.out.cnt; have := HLA.out; omega
    have hRB : Byt R := by
      obtain ⟨pre, e⟩ := HF.out.suf
      intro z hz
      exact HAB.out z (by rw [e]; exact List.mem_append_right _ hz)
    have HRB := Lib.hid hRB
    have Ir : Hid (Is wr g 142 #[.int .i64 most, .slice A1 all.length C1, .bool false]) := I2.out.chg HF.out.chg fun f => f
    have cg : wr.cell? ⟨g, 0, none⟩ = some (.int .i64 most) := Ir.out.at_ 0 _ rfl
    have cg1 : wr.cell? ⟨g, 1, none⟩ = some (.slice A1 all.length C1) := Ir.out.at_ 1 _ rfl
    have cg2 : wr.cell? ⟨g, 2, none⟩ = some (.bool false) := Ir.out.at_ 2 _ rfl
    have fg1 : wr.frozen? ⟨g, 1, none⟩ = false := Ir.out.frozen 1
    have fg2 : wr.frozen? ⟨g, 2, none⟩ = false := Ir.out.frozen 2
    have HZ := Lib.hid (msize_any wr g most cg Ar n cr R HF.out.len HRB.out HF.out.rd)
    have HSW : Hid (Sen B a wr) := HS.out.below ((HC2.out.then0 HF.out.chg).below (fun k hk hb => hb.elim (fun e => by omega) fun e => Nat.le_trans hBb (HD.out.ob.block k e).1) hBw)
    clear hRB
    rcases hh : hdB most R with _ | _ | ⟨k, m⟩
    · have HH := Lib.hid hh
      have hc5 : wr.cell? ⟨9, 0, none⟩ = some (.iface 200 (.pointer (some (a 15)))) := HSW.out.cell 15 (by decide) (by decide)
      have HSAY : Hid (sayB most all = (ms, none)) := by
        show _ = _
        rw [HF.out.say, say_no HH.out, List.append_nil]
      go_wp2_with fail
      refine HZ.out.mono ?_
      rintro e w3 ⟨hz, nd, rfl⟩
      rw [HH.out] at hz
      obtain ⟨kv, mv, rfl⟩ := hz
      clear hh
      go_wp2
      go_quiet (fail)
      go_wp2
      try rw [Exit.noGoto_ret]
      go_ret2
      have hwr := HF.out.chg.size
      refine fd_end (so := none) (lo := w2.heap.size) (vs := vs) (hv' := .slice none 0 0) HA.out HSAY.out rfl rfl ⟨(Ir.out.put 2 (.bool true)).put 1 (.slice none 0 0), ob_nil _ _ _ _, (fun z hz => by simp at hz), (by simp [obk]), fun _ => rfl⟩ (.inr (.inl rfl)) hsz
        ((((HF.out.out.drewN nd).put hgz 2 _).put hgz 1 _).drewN _) ((((HF.out.mem.drewN nd).put hgz 2 _).put hgz 1 _).drewN _) HF.out.off (fun k hk => by simp [obk] at hk)
        (((((HC2.out.then0 HF.out.chg).drewN _).setCell (fun _ => .inl rfl) _).setCell (fun _ => .inl rfl) _).drewN _)
    · have HH := Lib.hid hh
      have HSAY : Hid (sayB most all = (ms, some R)) := by
        show _ = _
        rw [HF.out.say, say_few HH.out, List.append_nil]
      by_cases hlt : n < all.length
      · have hltB : decide ((n : Int) < (all.length : Int)) = true := by simp; omega
        have hbs : Hid (Bs wr (.slice Ar n cr) R) := ⟨_, _, _, rfl, HF.out.len, HRB.out, HF.out.rd, HF.out.le⟩
        go_wp2_with fail
        refine HZ.out.mono ?_
        rintro e w3 ⟨hz, nd, rfl⟩
        rw [HH.out] at hz
        obtain rfl : e = _ := hz
        clear hh
        go_wp2_with fail
        refine (clone_any (wr.drewN nd) (.slice Ar n cr) R hbs.out (by have := HF.out.len; have := HLA.out; omega)).mono ?_
        rintro e w4 ⟨hv4, rfl, k1, k2⟩
        obtain ⟨A4, c4, rfl, h4a, h4b⟩ := k1.slice
        have H4 := Lib.hid k1
        have HC4 : Hid (Chg none_ w2 w4) := (HF.out.chg.drewN nd).trans k2
        have I4 : Hid (Is w4 g 142 #[.int .i64 most, .slice A1 all.length C1, .bool false]) := I2.out.chg HC4.out fun f => f
        have s1 : w4.cell? ⟨g, 1, none⟩ = some (.slice A1 all.length C1) := I4.out.at_ 1 _ rfl
        have f1 : w4.frozen? ⟨g, 1, none⟩ = false := I4.out.frozen 1
        have HM4 : Hid (Mem w4 w2.heap.size vs ms) := HF.out.mem.keep (((Chg.refl none_ wr).drewN nd).trans k2)
        have HO4 : Hid (Ob w4 w2.heap.size 23 vo vs.length vs) := HF.out.out.chg (((Chg.refl none_ wr).drewN nd).trans k2) (fun _ _ f => f)
        have hsz4 : wr.heap.size ≤ w4.heap.size := k2.size
        clear k1 k2
        go_wp2
        try rw [Exit.noGoto_ret]
        go_ret2
        have n4 : ∀ k, obk (.slice A4 R.length c4) = some k → wr.heap.size ≤ k := fun k hk => (H4.out.block k hk).1
        have hwr := HF.out.chg.size
        refine fd_end (so := some R) (lo := w2.heap.size) (vs := vs) (hv' := .slice A4 R.length c4) HA.out HSAY.out rfl rfl ⟨I4.out.put 1 _, (H4.out.low fun k hk => by have := n4 k hk; omega).keep fun k hk => Below.heap_setCell w4 _ _ k (by have := n4 k hk; simp only; omega), HRB.out, (fun hk => by have := n4 g hk; omega), fun h => by cases h⟩ ?_ (by omega) (HO4.out.put hgz 1 _) (HM4.out.put hgz 1 _) HF.out.off (fun k hk => .inr ⟨fun v hv e => ?_, fun e => ?_⟩) ((HC2.out.then0 HC4.out).setCell (fun _ => .inl rfl) _)
        · cases hob : obk (.slice A4 R.length c4) with
          | none => exact .inr (.inl rfl)
          | some k => exact .inr (.inr ⟨k, rfl, by have := n4 k hob; omega⟩)
        · have := (HF.out.mem.block v hv k e).2; have := n4 k hk; omega
        · have := (HF.out.out.block k e).2; have := n4 k hk; omega
      · have hltB : decide ((n : Int) < (all.length : Int)) = false := by simp; omega
        have hRa : R = all := by
          obtain ⟨pre, e⟩ := HF.out.suf
          have e' := congrArg List.length e
          rw [List.length_append, HF.out.len] at e'
          have : pre = [] := List.eq_nil_of_length_eq_zero (by omega)
          rw [e, this]
          rfl
        have HRA := Lib.hid hRa
        clear hRa
        go_wp2_with fail
        refine HZ.out.mono ?_
        rintro e w3 ⟨hz, nd, rfl⟩
        rw [HH.out] at hz
        obtain rfl : e = _ := hz
        clear hh
        go_wp2
        try rw [Exit.noGoto_ret]
        go_ret2
        refine fd_end (so := some R) (lo := w2.heap.size) (vs := vs) (hv' := .slice A1 all.length C1) HA.out HSAY.out rfl rfl ⟨Ir.out, by rw [Option.getD_some, HRA.out]; exact H2.out.chg (HF.out.chg.drewN nd) (fun _ _ f => f), HRB.out, (fun hk => HG1.out g hk rfl), fun h => by cases h⟩ ?_ hsz (HF.out.out.drewN nd) (HF.out.mem.drewN nd) HF.out.off (fun k hk => .inl (H2.out.block k hk).2) ((HC2.out.then0 HF.out.chg).drewN _)
        rcases K3.out with h | h
        · exact .inl h
        · exact .inr (.inr ⟨_, h, Nat.le_refl _⟩)
    · obtain ⟨hk1, hk3, hkl, hmm, _⟩ := hd_is HRB.out hh
      have HH := Lib.hid hh
      have hk0 : ((k : Int) == 0) = false := by simp; omega
      have hm20 : m ≤ 1048576 := by omega
      by_cases hen : k + m ≤ n
      · have hdB : decide ((n : Int) - (k : Int) < (m : Int)) = false := by simp; omega
        have hle := HF.out.le
        have HBS : ∀ nd, Hid (Bs (wr.drewN nd) (.slice (subA Ar k cr) m (cr - k)) ((R.drop k).take m)) := fun nd => by
          have := bs_sub (w := wr.drewN nd) HF.out.len hle HRB.out HF.out.rd hen
          rw [Nat.add_sub_cancel_left] at this
          exact this
        go_wp2_with fail
        refine HZ.out.mono ?_
        rintro e w3 ⟨hz, nd, rfl⟩
        rw [HH.out] at hz
        obtain rfl : e = _ := hz
        have HBX := HBS nd
        clear hh HBS
        go_wp2_with (with_reducible refine wpList_sub_bytes rfl (.tmp 62) (.tmp 63) (.tmp 66) rfl Ar n cr rfl _ _ rfl rfl k (k + m) rfl (by omega) (by omega) (by omega) ?_)
        go_wp2_with fail
        refine (clone_any (wr.drewN nd) _ _ HBX.out (by rw [List.length_take]; omega)).mono ?_
        rintro e w4 ⟨v4, rfl, k1, k2⟩
        obtain ⟨A4, c4, rfl, h4a, h4b⟩ := k1.slice
        obtain ⟨X, hX⟩ : ∃ X : List Int, X = (R.drop k).take m := ⟨_, rfl⟩
        have HX := Lib.hid hX
        rw [← hX] at k1 h4a ⊢
        have H4 := Lib.hid k1
        have hXb : Hid (Byt X) := by
          show Byt X
          rw [hX]
          exact (HRB.out.drop k).take m
        have HC4 : Hid (Chg none_ wr w4) := ((Chg.refl none_ wr).drewN nd).trans k2
        have hsz4 : wr.heap.size ≤ w4.heap.size := k2.size
        have hszr := HF.out.chg.size
        have HO5 : Hid (Ob (w4.alloc (.cells #[.slice A4 X.length c4] 23)) w2.heap.size 23 vo vs.length vs) := HF.out.out.chg (HC4.out.alloc _) (fun _ _ f => f)
        have hvl : vs.length ≤ 1099511627776 := by have := HF.out.cnt; have := HLA.out; omega
        clear k1 k2 hX HBX
        go_wp2_with (at_builtin; refine wpList_append_lists rfl (.tmp 61) (.tmp 69) rfl rfl HO5.out (some ⟨w4.heap.size, 0, none⟩) 1 1 [.slice A4 X.length c4] rfl rfl ?hr ?h1 ?hb ?hsz ?_)
        case hr => exact Is.rdV [.slice A4 X.length c4] (Is.new w4 _ _)
        case h1 => intro u hu; obtain rfl := List.mem_singleton.1 hu; rfl
        case hb => omega
        case hsz => simp; omega
        intro vo' w5 k1 k2 k3
        have hsz5 : w4.heap.size < w5.heap.size := by have := k2.size; simp at this; omega
        have HC5 : Hid (Chg none_ w2 w5) := ((HF.out.chg.trans HC4.out).alloc _).then (S' := fun q => obk vo = some q) (grown_chg k2) fun q hq hb => by
          have := (HF.out.out.block q hb).1
          omega
        have HC6 : Hid (Chg (fun q => obk vo = some q) wr w5) := ((HC4.out.more fun _ _ f => False.elim f).alloc _).trans (grown_chg k2)
        have b4 : ∀ q, obk (.slice A4 X.length c4) = some q → wr.heap.size ≤ q ∧ q < w4.heap.size := fun q hq => H4.out.block q hq
        have H5 : Hid (Ob w5 w2.heap.size 5 (.slice A4 X.length c4) X.length (X.map (Value.int .u8))) :=
          ((H4.out.low fun q hq => by have := (b4 q hq).1; omega).keep fun q hq => Below.heap_alloc w4 _ q (b4 q hq).2).chg (grown_chg k2) fun q hq hb => by
            have := (b4 q hq).1; have := (HF.out.out.block q hb).2; omega
        have HN : Hid (FdL w2 most all w5 (subA Ar (k + m) cr) (n - (k + m)) (cr - (k + m)) (R.drop (k + m)) vo' (vs ++ [.slice A4 X.length c4]) (ms ++ [X])) := by
          refine ⟨HC5.out, ?_, by rw [List.length_drop, HF.out.len], by omega, ?_, ?_, ?_, ?_, ?_, ?_, ?_⟩
          · refine (rd_subE hle HF.out.rd hen).same (c := cr - (k + m)) fun q hq => ?_
            have hqb := rdk_rd (rd_subE hle HF.out.rd hen) q hq
            refine HC6.out.block q hqb fun hv => ?_
            have h1 := (HF.out.out.block q hv).1
            have h2 := HF.out.old q (sub_rdk hq)
            omega
          · obtain ⟨pre, e⟩ := HF.out.suf
            exact ⟨pre ++ R.take (k + m), by rw [List.append_assoc, List.take_append_drop]; exact e⟩
          · rw [HF.out.say, say_one HRB.out HH.out (by rw [HF.out.len]; exact hen), ← HX.out]
            simp
          · refine (HF.out.mem.chg HC6.out fun v hv q hq hb => HF.out.off v hv q hq hb).app (Mem.one H5.out hXb.out) fun v hv u hu q hq hq' => ?_
            obtain rfl := List.mem_singleton.1 hu
            have := (HF.out.mem.block v hv q hq).2
            have := (b4 q hq').1
            omega
          · rw [List.length_append]
            exact k1
          · intro v hv q hq hq'
            rcases List.mem_append.1 hv with hv | hv
            · rcases k3 with h | h
              · exact HF.out.off v hv q hq (by rw [← h]; exact hq')
              · rw [h] at hq'
                injection hq' with e
                have := (HF.out.mem.block v hv q hq).2
                omega
            · obtain rfl := List.mem_singleton.1 hv
              have hb4 := b4 q hq
              rcases k3 with h | h
              · have := (HF.out.out.block q (by rw [← h]; exact hq')).2
                omega
              · rw [h] at hq'
                injection hq' with e
                omega
          · have := HF.out.cnt
            simp
            omega
          · exact fun q hq => HF.out.old q (sub_rdk hq)
        clear k1 k2 k3
        go_wp2_with (with_reducible refine wpList_subL_bytes rfl (.tmp 71) (.tmp 74) rfl Ar n cr rfl _ rfl (k + m) (by omega) (by omega) (by omega) ?_)
        go_wp2
        go_roundw
        case rel => exact ⟨_, _, _, R.drop (k + m), _, vs ++ [.slice A4 X.length c4], ms ++ [X], rfl, rfl, HN.out⟩
        case measure => simp [lenV]; omega
      · have hdB : decide ((n : Int) - (k : Int) < (m : Int)) = true := by simp; omega
        have HSAY : Hid (sayB most all = (ms, some R)) := by
          show _ = _
          rw [HF.out.say, say_wait HH.out (by rw [HF.out.len]; omega), List.append_nil]
        by_cases hlt : n < all.length
        · have hltB : decide ((n : Int) < (all.length : Int)) = true := by simp; omega
          have hbs : Hid (Bs wr (.slice Ar n cr) R) := ⟨_, _, _, rfl, HF.out.len, HRB.out, HF.out.rd, HF.out.le⟩
          go_wp2_with fail
          refine HZ.out.mono ?_
          rintro e w3 ⟨hz, nd, rfl⟩
          rw [HH.out] at hz
          obtain rfl : e = _ := hz
          clear hh
          go_wp2_with fail
          refine (clone_any (wr.drewN nd) (.slice Ar n cr) R hbs.out (by have := HF.out.len; have := HLA.out; omega)).mono ?_
          rintro e w4 ⟨hv4, rfl, k1, k2⟩
          obtain ⟨A4, c4, rfl, h4a, h4b⟩ := k1.slice
          have H4 := Lib.hid k1
          have HC4 : Hid (Chg none_ w2 w4) := (HF.out.chg.drewN nd).trans k2
          have I4 : Hid (Is w4 g 142 #[.int .i64 most, .slice A1 all.length C1, .bool false]) := I2.out.chg HC4.out fun f => f
          have s1 : w4.cell? ⟨g, 1, none⟩ = some (.slice A1 all.length C1) := I4.out.at_ 1 _ rfl
          have f1 : w4.frozen? ⟨g, 1, none⟩ = false := I4.out.frozen 1
          have HM4 : Hid (Mem w4 w2.heap.size vs ms) := HF.out.mem.keep (((Chg.refl none_ wr).drewN nd).trans k2)
          have HO4 : Hid (Ob w4 w2.heap.size 23 vo vs.length vs) := HF.out.out.chg (((Chg.refl none_ wr).drewN nd).trans k2) (fun _ _ f => f)
          have hsz4 : wr.heap.size ≤ w4.heap.size := k2.size
          clear k1 k2
          go_wp2
          try rw [Exit.noGoto_ret]
          go_ret2
          have n4 : ∀ k, obk (.slice A4 R.length c4) = some k → wr.heap.size ≤ k := fun k hk => (H4.out.block k hk).1
          have hwr := HF.out.chg.size
          refine fd_end (so := some R) (lo := w2.heap.size) (vs := vs) (hv' := .slice A4 R.length c4) HA.out HSAY.out rfl rfl ⟨I4.out.put 1 _, (H4.out.low fun k hk => by have := n4 k hk; omega).keep fun k hk => Below.heap_setCell w4 _ _ k (by have := n4 k hk; simp only; omega), HRB.out, (fun hk => by have := n4 g hk; omega), fun h => by cases h⟩ ?_ (by omega) (HO4.out.put hgz 1 _) (HM4.out.put hgz 1 _) HF.out.off (fun k hk => .inr ⟨fun v hv e => ?_, fun e => ?_⟩) ((HC2.out.then0 HC4.out).setCell (fun _ => .inl rfl) _)
          · cases hob : obk (.slice A4 R.length c4) with
            | none => exact .inr (.inl rfl)
            | some k => exact .inr (.inr ⟨k, rfl, by have := n4 k hob; omega⟩)
          · have := (HF.out.mem.block v hv k e).2; have := n4 k hk; omega
          · have := (HF.out.out.block k e).2; have := n4 k hk; omega
        · have hltB : decide ((n : Int) < (all.length : Int)) = false := by simp; omega
          have hRa : R = all := by
            obtain ⟨pre, e⟩ := HF.out.suf
            have e' := congrArg List.length e
            rw [List.length_append, HF.out.len] at e'
            have : pre = [] := List.eq_nil_of_length_eq_zero (by omega)
            rw [e, this]
            rfl
          have HRA := Lib.hid hRa
          clear hRa
          go_wp2_with fail
          refine HZ.out.mono ?_
          rintro e w3 ⟨hz, nd, rfl⟩
          rw [HH.out] at hz
          obtain rfl : e = _ := hz
          clear hh
          go_wp2
          try rw [Exit.noGoto_ret]
          go_ret2
          refine fd_end (so := some R) (lo := w2.heap.size) (vs := vs) (hv' := .slice A1 all.length C1) HA.out HSAY.out rfl rfl ⟨Ir.out, by rw [Option.getD_some, HRA.out]; exact H2.out.chg (HF.out.chg.drewN nd) (fun _ _ f => f), HRB.out, (fun hk => HG1.out g hk rfl), fun h => by cases h⟩ ?_ hsz (HF.out.out.drewN nd) (HF.out.mem.drewN nd) HF.out.off (fun k hk => .inl (H2.out.block k hk).2) ((HC2.out.then0 HF.out.chg).drewN _)
          rcases K3.out with h | h
          · exact .inl h
          · exact .inr (.inr ⟨_, h, Nat.le_refl _⟩)
end
end Go.Proofs.YthalmjjbamglgaaDoor
