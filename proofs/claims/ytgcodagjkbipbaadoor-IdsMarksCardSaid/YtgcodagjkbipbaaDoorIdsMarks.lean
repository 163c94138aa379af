/-
  The walk of culvertlaw14.IdsMarks (printed by gen_idsmarks.py).
  No condition of its own: the facts 'Sen' and 'Par' on the world; the script reads as rows.
-/
import Derived.Test.YtgcodagjkbipbaaDoorIdsAns
import Derived.Deep.DeepCutAuto
import Derived.Deep.CutBlock
import Derived.Deep.QuietTactic
import Derived.BigQuiet
namespace Go.Proofs.YtgcodagjkbipbaaDoor
open Go.RowKit

/-- What a call does to the state: the marks never fall; refused, it changes nothing. -/
structure Stp (s s' : St) (cd : Nat) : Prop where
  F : s'.F = s.F
  M : s.M ≤ s'.M
  T : s.T ≤ s'.T
  no : cd ≠ 0 → s' = s
theorem stp_refl (s : St) : Stp s s 0 := ⟨rfl, Int.le_refl _, Int.le_refl _, fun _ => rfl⟩
theorem stp_nx (s : St) : Stp s (nxS s) (nxC s) := by
  unfold nxS nxC
  by_cases h1 : s.F = 0
  · rw [if_pos h1, if_pos h1]
    exact ⟨rfl, Int.le_refl _, Int.le_refl _, fun _ => rfl⟩
  · rw [if_neg h1, if_neg h1]
    by_cases h2 : 4294967295 < s.X
    · rw [if_pos h2, if_pos h2]
      exact ⟨rfl, Int.le_refl _, Int.le_refl _, fun _ => rfl⟩
    · rw [if_neg h2, if_neg h2]
      exact ⟨rfl, Int.le_refl _, Int.le_refl _, fun h => absurd rfl h⟩
theorem stp_se (s : St) (id : Int) : Stp s (seS s id) (seC s id) := by
  by_cases h : seC s id = 0
  · have hS : seS s id = { s with M := id } := by unfold seS; rw [if_pos h]
    have hM : s.M ≤ id := by
      unfold seC at h
      by_cases h1 : s.F = 0
      · rw [if_pos h1] at h; cases h
      · rw [if_neg h1] at h
        by_cases h2 : owB s id = false
        · rw [if_pos h2] at h; cases h
        · rw [if_neg h2] at h
          by_cases h3 : id < s.R ∨ s.X ≤ id
          · rw [if_pos h3] at h; cases h
          · rw [if_neg h3] at h
            by_cases h4 : id ≤ s.M
            · rw [if_pos h4] at h; cases h
            · omega
    rw [hS]
    exact ⟨rfl, hM, Int.le_refl _, fun h' => absurd h h'⟩
  · have hS : seS s id = s := by unfold seS; rw [if_neg h]
    rw [hS]
    exact ⟨rfl, Int.le_refl _, Int.le_refl _, fun _ => rfl⟩
theorem stp_he (s : St) (id : Int) : Stp s (heS s id) (heC s id) := by
  by_cases h : heC s id = 0
  · have hS : heS s id = { s with T := id } := by unfold heS; rw [if_pos h]
    have hT : s.T ≤ id := by
      unfold heC at h
      by_cases h1 : s.F = 0
      · rw [if_pos h1] at h; cases h
      · rw [if_neg h1] at h
        by_cases h2 : id = 0
        · rw [if_pos h2] at h; cases h
        · rw [if_neg h2] at h
          by_cases h3 : owB s id = true
          · rw [if_pos h3] at h; cases h
          · rw [if_neg h3] at h
            by_cases h4 : id ≤ s.T
            · rw [if_pos h4] at h; cases h
            · omega
    rw [hS]
    exact ⟨rfl, Int.le_refl _, hT, fun h' => absurd h h'⟩
  · have hS : heS s id = s := by unfold heS; rw [if_neg h]
    rw [hS]
    exact ⟨rfl, Int.le_refl _, Int.le_refl _, fun _ => rfl⟩
theorem kn_up {s s' : St} {cd : Nat} (h : Stp s s' cd) (id : Int) (hk : knB s id = true) : knB s' id = true := by
  have hF := h.F
  have hM := h.M
  have hT := h.T
  have ho : owB s' id = owB s id := by unfold owB; rw [hF]
  unfold knB at hk ⊢
  rw [hF, ho]
  by_cases h1 : s.F = 0
  · rw [if_pos h1] at hk; cases hk
  · rw [if_neg h1] at hk ⊢
    by_cases h2 : id = 0
    · rw [if_pos h2] at hk; cases hk
    · rw [if_neg h2] at hk ⊢
      by_cases h3 : owB s id = true
      · rw [if_pos h3] at hk ⊢
        simp only [decide_eq_true_eq] at hk ⊢
        omega
      · rw [if_neg h3] at hk ⊢
        simp only [decide_eq_true_eq] at hk ⊢
        omega
/-- Known is said of just the numbers up to their opener's mark. -/
theorem kn_mark {s : St} (h : Sok s) (id : Int) (i0 : 0 ≤ id) : knB s id = (!(id == 0) && decide (id ≤ if owB s id = true then s.M else s.T)) := by
  unfold knB
  by_cases h2 : id = 0
  · subst h2
    split <;> simp
  · have hb : (id == 0) = false := by simp [h2]
    rw [hb, if_neg h2]
    by_cases h1 : s.F = 0
    · rw [if_pos h1]
      have ho : owB s id = false := by unfold owB; rw [h1]; rfl
      rw [ho]
      rcases h with rfl | h
      · have : ¬ id ≤ (0 : Int) := by omega
        simp [St.none_, this]
      · rcases h.F with hF | hF <;> omega
    · rw [if_neg h1]
      by_cases h3 : owB s id = true
      · rw [if_pos h3, if_pos h3]; simp
      · rw [if_neg h3, if_neg h3]; simp
theorem rds_sub {w : World} {ad : Addr} {n lo ln m : Nat} {F : Nat → Nat → Value} (h : Rds w (some ad) n m F) (hl : lo + ln ≤ n) : Rds w (some (ad.add (lo * m))) ln m (fun i f => F (lo + i) f) := fun hp => by
  obtain ⟨ad', e, hc⟩ := h (by omega)
  injection e with e
  subst e
  refine ⟨_, rfl, fun i hi j hj => ?_⟩
  rw [Go.Deep.add_add, show lo * m + (i * m + j) = (lo + i) * m + j by rw [Nat.add_mul]; omega]
  exact hc (lo + i) (by omega) j hj
theorem Obj.drewN' {w : World} {p : Option Addr} {s : St} (h : Obj w p s) (n : Nat) : Obj (w.drewN n) p s := h

set_option maxRecDepth 100000 in
set_option maxHeartbeats 8000000 in
theorem marks_walk {a : Nat → Addr} (w : World) (hs : Sen w.heap.size a w) (hp : Par w.heap.size w) (cl no : Bool) (kk : Int) (A : Option Addr) (n c : Nat) (F : Nat → Nat → Value) (K0 K1 : Nat → Int) (hr : Rds w A n 2 F) (h0 : ∀ i, i < n → F i 0 = .int .i64 (K0 i)) (h1 : ∀ i, i < n → F i 1 = .int .u32 (K1 i))
    (hb : ∀ i, i < n → 0 ≤ K1 i ∧ K1 i ≤ 4294967295) (hnc : n ≤ c) (hm : n ≤ 8796093022208) :
    Calls Tryd.prog 5 #[whV cl no kk, .slice A n c] w fun e w' => e = .returned (.bool true) ∧ Below w.heap.size w w' := by
  have hB : w.heap.size ≤ w.heap.size := Nat.le_refl _
  have HS := Lib.hid hs
  have HP := Lib.hid hp
  have HR := Lib.hid hr
  have HF := Lib.hid (And.intro h0 (And.intro h1 hb))
  clear hs hp hr h0 h1 hb
  have c0 : Chg none_ w (w.alloc (.cells #[.bool cl, .bool no, .int .i64 kk] 49)) := (Chg.refl none_ w).alloc _
  have b0 : Is (w.alloc (.cells #[.bool cl, .bool no, .int .i64 kk] 49)) w.heap.size 49 #[.bool cl, .bool no, .int .i64 kk] := Is.new w _ _
  unfold whV
  go_enter Tryd.func5, Tryd.ntmps5
  go_wp2_with fail
  refine (fixed_any _ (HS.out.below (c0.old hB)) (HP.out.below (c0.old hB)) c0.size).mono ?_
  rintro e w1 ⟨rfl, k1⟩
  have c1 := c0.trans k1
  have b1 := b0.chg k1 (fun f => f)
  clear c0 b0 k1
  have q0 := b1.at_ 0 _ rfl
  have q1 := b1.at_ 1 _ rfl
  have q2 := b1.at_ 2 _ rfl
  have HC1 := Lib.hid c1
  have hsz := c1.size
  clear b1 c1
  go_wp2_with fail
  refine (begin_any w1 (HS.out.below (HC1.out.old hB)) (HP.out.below (HC1.out.old hB)) hsz cl no kk).mono ?_
  rintro e w2 ⟨p, s0, rfl, o2, far, k2⟩
  have HC2 := Lib.hid (HC1.out.trans k2)
  have HFar : Hid (∀ g, p = some ⟨g, 0, none⟩ → w.heap.size ≤ g) := fun g e => by
    have h1 := far g e
    omega
  have HO2 := Lib.hid (o2.alloc (.cells (aggA s0) 53))
  have HG2 := Lib.hid (HC2.out.alloc (.cells (aggA s0) 53))
  unfold aggA at HO2 HG2
  clear o2 far k2 HC1 hsz q0 q1 q2 HC2
  unfold aggS
  go_wp2_with fail
  go_loopw [32] (fun xi wr => ∃ (k : Nat) (s : St), k ≤ n ∧ xi = .int .i64 k ∧ Obj wr p s ∧ Chg none_ w wr) (fun xi _ => n - (intOf xi).toNat)
  case atStart => exact ⟨0, s0, by omega, rfl, HO2.out, HG2.out⟩
  case round =>
    clear HO2 HG2
    obtain ⟨k, s, hk, rfl, ho, hg⟩ := hrel
    have HO := Lib.hid ho
    have HG := Lib.hid hg
    clear ho hg
    by_cases hkn : k < n
    · obtain ⟨ad, rfl, hcell⟩ := HR.out (by omega)
      clear hcell
      have x0 := HR.out.f0 rfl (HG.out.old hB) (by decide) hkn
      have x1 := HR.out.fj rfl (HG.out.old hB) hkn (j := 1) (by decide) (by decide)
      rw [HF.out.1 k hkn] at x0
      rw [HF.out.2.1 k hkn] at x1
      obtain ⟨i0, i1⟩ := HF.out.2.2 k hkn
      generalize K0 k = kd at x0
      generalize K1 k = id at x1 i0 i1
      have HIo : Hid (Is (wr.alloc (.cells #[.int .i64 kd, .int .u32 id] 57)) wr.heap.size 57 #[.int .i64 kd, .int .u32 id]) := Is.new wr _ _
      have HPo : Hid (∀ g, p = some ⟨g, 0, none⟩ → g ≠ wr.heap.size) := fun g e => by have h2 := HO.out.low g e; omega
      go_wp2_with fail
      refine (marks_o _ p s (HO.out.alloc _)).mono ?_
      rintro e w3 ⟨rfl, d3⟩
      have HO3 := Lib.hid ((HO.out.alloc _).dr d3)
      have HG3 := Lib.hid ((HG.out.alloc _).trans d3.chg)
      have HI3 : Hid (Is w3 wr.heap.size 57 #[.int .i64 kd, .int .u32 id]) := HIo.out.chg (Dr.chg (S := none_) d3) (fun f => f)
      clear d3 HO HG HIo
      go_wp2_with fail
      generalize wr.heap.size = gl at HI3 HPo ⊢
      refine (left_o _ p s HO3.out).mono ?_
      rintro e w4 ⟨rfl, d4⟩
      have HO4 := Lib.hid (HO3.out.dr d4)
      have HG4 := Lib.hid (HG3.out.trans d4.chg)
      have HI4 : Hid (Is w4 gl 57 #[.int .i64 kd, .int .u32 id]) := HI3.out.chg (Dr.chg (S := none_) d4) (fun f => f)
      clear d4 HO3 HG3 HI3
      have oi0 := HI4.out.at_ 0 (.int .i64 kd) rfl
      have oi1 := HI4.out.at_ 1 (.int .u32 id) rfl
      go_wp2_with fail
      refine (known_o w4 p s HO4.out id i0 i1).mono ?_
      rintro e w' ⟨rfl, rfl⟩
      generalize hkb : knB s id = kb
      have HKB := Lib.hid hkb
      clear hkb
      go_upto_block 2 with fail
      go_cut [14] (fun e wx => ∃ (s' : St) (cd : Nat), e = errv a cd ∧ Hid (Stp s s' cd) ∧ cd ≤ 42 ∧ Obj wx p s' ∧ Chg none_ w wx ∧ Is wx gl 57 #[.int .i64 kd, .int .u32 id])
      case first =>
        by_cases e0 : kd = 0
        · subst e0
          go_wp2_with fail
          refine (next_o w4 (HS.out.below (HG4.out.old hB)) p s HO4.out).mono ?_
          rintro e w5 ⟨rfl, o5, k5⟩
          go_wp2_with fail
          go_meet
          exact ⟨_, _, rfl, stp_nx s, nxC_le s, o5, at_far HFar.out rfl HG4.out k5, HI4.out.chg k5 (off_of HPo.out)⟩
        · have n0 : (kd == 0) = false := by simp [e0]
          by_cases e1 : kd = 1
          · subst e1
            go_wp2_with fail
            refine (sent_o w4 (HS.out.below (HG4.out.old hB)) p s HO4.out id i0 i1).mono ?_
            rintro e w5 ⟨rfl, o5, k5⟩
            go_wp2_with fail
            go_meet
            exact ⟨_, _, rfl, stp_se s id, seC_le s id, o5, at_far HFar.out rfl HG4.out k5, HI4.out.chg k5 (off_of HPo.out)⟩
          · have n1 : (kd == 1) = false := by simp [e1]
            by_cases e2 : kd = 2
            · subst e2
              go_wp2_with fail
              refine (hear_o w4 (HS.out.below (HG4.out.old hB)) p s HO4.out id i0 i1).mono ?_
              rintro e w5 ⟨rfl, o5, k5⟩
              go_wp2_with fail
              go_meet
              exact ⟨_, _, rfl, stp_he s id, heC_le s id, o5, at_far HFar.out rfl HG4.out k5, HI4.out.chg k5 (off_of HPo.out)⟩
            · have n2 : (kd == 2) = false := by simp [e2]
              go_wp2_with fail
              go_meet
              exact ⟨s, 0, rfl, stp_refl s, by omega, HO4.out, HG4.out, HI4.out⟩
      case rest =>
        obtain ⟨s', cd, rfl, HStp, hcd, o5, g5, i5⟩ := hcut
        have HO5 := Lib.hid o5
        have HG5 := Lib.hid g5
        have HI5 := Lib.hid i5
        clear o5 g5 i5 HO4 HG4 HI4 oi0 oi1
        go_wp2_with fail
        refine (marks_o wc p s' HO5.out).mono ?_
        rintro e w6 ⟨rfl, d6⟩
        have HO6 := Lib.hid (HO5.out.dr d6)
        have HG6 := Lib.hid (HG5.out.trans d6.chg)
        have HI6 : Hid (Is w6 gl 57 #[.int .i64 kd, .int .u32 id]) := HI5.out.chg (Dr.chg (S := none_) d6) (fun f => f)
        have oi1 := HI6.out.at_ 1 (.int .u32 id) rfl
        clear d6 HO5 HG5 HI5
        go_upto_region 21 with fail
        go_cut [111] (fun b wx => b = .bool false ∧ Dr w6 wx)
        case first =>
          have d1 : decide (s'.M < s.M) = false := by have := HStp.out.M; simp; omega
          have d2 : decide (s'.T < s.T) = false := by have := HStp.out.T; simp; omega
          cases kb with
          | true =>
            have HK := Lib.hid (kn_up HStp.out id HKB.out)
            by_cases hc0 : cd = 0
            · subst hc0
              have e0 : errv a 0 = .nilIface := rfl
              rw [e0]
              go_wp2_with fail
              refine (known_c w6 p s' HO6.out id i0 i1 true HK.out).mono ?_
              rintro e w' ⟨rfl, rfl⟩
              go_wp2_with fail
              go_meet
              exact ⟨rfl, Dr.refl _⟩
            · obtain rfl := HStp.out.no hc0
              obtain ⟨q, rfl⟩ : ∃ q, cd = q + 1 := ⟨cd - 1, by omega⟩
              have e0 : errv a (q + 1) = .iface 123 (.pointer (some (a (q + 1)))) := rfl
              rw [e0]
              go_wp2_with fail
              refine (known_c w6 p _ HO6.out id i0 i1 true HK.out).mono ?_
              rintro e w' ⟨rfl, rfl⟩
              go_wp2_with fail
              refine (left_o w6 p _ HO6.out).mono ?_
              rintro e w7 ⟨rfl, d7⟩
              go_wp2_with fail
              go_meet
              exact ⟨rfl, d7⟩
          | false =>
            by_cases hc0 : cd = 0
            · subst hc0
              have e0 : errv a 0 = .nilIface := rfl
              rw [e0]
              go_wp2_with fail
              go_meet
              exact ⟨rfl, Dr.refl _⟩
            · obtain rfl := HStp.out.no hc0
              obtain ⟨q, rfl⟩ : ∃ q, cd = q + 1 := ⟨cd - 1, by omega⟩
              have e0 : errv a (q + 1) = .iface 123 (.pointer (some (a (q + 1)))) := rfl
              rw [e0]
              go_wp2_with fail
              refine (left_o w6 p _ HO6.out).mono ?_
              rintro e w7 ⟨rfl, d7⟩
              go_wp2_with fail
              go_meet
              exact ⟨rfl, d7⟩
        case rest =>
          obtain ⟨rfl, d7⟩ := hcut
          have HO7 := Lib.hid (HO6.out.dr d7)
          have HG7 := Lib.hid (HG6.out.trans d7.chg)
          have HSok := Lib.hid HO7.out.sok
          clear d7 HO6 HG6 HI6 oi1
          have hk1 : IntKind.i64.wrap ((k : Int) + 1) = (k : Int) + 1 := IntWalk.i64_in _ (by omega)
          have hk2 : IntKind.i64.wrap ((k : Int) - 200) = (k : Int) - 200 := IntWalk.i64_in _ (by omega)
          have hk3 : (k : Int) + 1 ≤ (c : Int) := by omega
          by_cases hlo : k ≤ 200
          · have hlo' : (k : Int) - 200 ≤ 0 := by omega
            have HRS := HR
            have HFS := HF
            have hln : k + 1 ≤ n := by omega
            go_wp2_with fail
            go_loopw [120] (fun xj wl => ∃ j : Nat, j ≤ k + 1 ∧ xj = .int .i64 j ∧ Obj wl p s' ∧ Chg none_ w wl) (fun xj _ => k + 1 - (intOf xj).toNat)
            case atStart => exact ⟨0, by omega, rfl, HO7.out, HG7.out⟩
            case round =>
              obtain ⟨j, hj, rfl, ho, hg⟩ := hrel
              have HO5 := Lib.hid ho
              have HG5 := Lib.hid hg
              clear ho hg
              by_cases hjn : j < k + 1
              · have y0 := HRS.out.f0 rfl (HG5.out.old hB) (by decide) (show j < n by omega)
                have y1 := HRS.out.fj rfl (HG5.out.old hB) (show j < n by omega) (j := 1) (by decide) (by decide)
                rw [HFS.out.1 j (by omega)] at y0
                rw [HFS.out.2.1 j (by omega)] at y1
                obtain ⟨j0, j1⟩ := HFS.out.2.2 j (by omega)
                generalize K0 (j) = kd' at y0
                generalize K1 (j) = pid at y1 j0 j1
                cases howb : owB s' pid with
                | true =>
                  have hown := Lib.hid howb
                  clear howb
                  by_cases e0 : pid = 0
                  · have hz : (pid != 0) = false := by simp [e0]
                    have hkn : Hid (knB s' pid = false) := by
                      show _ = _
                      rw [kn_mark HSok.out pid j0, e0]
                      rfl
                    have HE := Lib.hid e0
                    clear e0
                    go_wp2_with fail
                    refine (mine_c _ p _ (HO5.out.alloc (.cells #[.int .i64 kd', .int .u32 pid] 57)) pid j0 j1 true hown.out).mono ?_
                    rintro e w' ⟨rfl, rfl⟩
                    go_wp2_with fail
                    go_quiet (first | (go_at_call 27; refine Calls.quiet_of_same ((known_c _ p s' ?_ pid j0 j1 false hkn.out).mono fun e w' h => ⟨h.1, h.2.symm⟩); first | exact HO5.out.alloc _ | exact Obj.drew1 (HO5.out.alloc _) | exact (HO5.out.alloc _).drewN' _))
                    go_wp2_with fail
                    go_roundw
                    case rel => exact ⟨j + 1, by omega, by go_num, (HO5.out.alloc _).drewN _, (HG5.out.alloc _).drewN _⟩
                    case measure => simp [intOf]; omega
                  · have hz : (pid != 0) = true := by simp [e0]
                    have hkv : knB s' pid = decide (pid ≤ s'.M) := by
                      rw [kn_mark HSok.out pid j0, show (pid == 0) = false by simp [e0], hown.out]
                      simp
                    by_cases hle : pid ≤ s'.M
                    · have hkn : Hid (knB s' pid = true) := by show _ = _; rw [hkv]; simp [hle]
                      have hd : decide (pid ≤ s'.M) = true := by simp [hle]
                      clear hkv e0
                      go_wp2_with fail
                      refine (mine_c _ p _ (HO5.out.alloc (.cells #[.int .i64 kd', .int .u32 pid] 57)) pid j0 j1 true hown.out).mono ?_
                      rintro e w' ⟨rfl, rfl⟩
                      go_wp2_with fail
                      go_quiet (first | (go_at_call 27; refine Calls.quiet_of_same ((known_c _ p s' ?_ pid j0 j1 true hkn.out).mono fun e w' h => ⟨h.1, h.2.symm⟩); first | exact HO5.out.alloc _ | exact Obj.drew1 (HO5.out.alloc _) | exact (HO5.out.alloc _).drewN' _))
                      go_wp2_with fail
                      go_roundw
                      case rel => exact ⟨j + 1, by omega, by go_num, (HO5.out.alloc _).drewN _, (HG5.out.alloc _).drewN _⟩
                      case measure => simp [intOf]; omega
                    · have hkn : Hid (knB s' pid = false) := by show _ = _; rw [hkv]; simp [hle]
                      have hd : decide (pid ≤ s'.M) = false := by simp; omega
                      have hd' : s'.M < pid := by omega
                      clear hkv hle e0
                      go_wp2_with fail
                      refine (mine_c _ p _ (HO5.out.alloc (.cells #[.int .i64 kd', .int .u32 pid] 57)) pid j0 j1 true hown.out).mono ?_
                      rintro e w' ⟨rfl, rfl⟩
                      go_wp2_with fail
                      go_quiet (first | (go_at_call 27; refine Calls.quiet_of_same ((known_c _ p s' ?_ pid j0 j1 false hkn.out).mono fun e w' h => ⟨h.1, h.2.symm⟩); first | exact HO5.out.alloc _ | exact Obj.drew1 (HO5.out.alloc _) | exact (HO5.out.alloc _).drewN' _))
                      go_wp2_with fail
                      go_roundw
                      case rel => exact ⟨j + 1, by omega, by go_num, (HO5.out.alloc _).drewN _, (HG5.out.alloc _).drewN _⟩
                      case measure => simp [intOf]; omega
                | false =>
                  have hown := Lib.hid howb
                  clear howb
                  by_cases e0 : pid = 0
                  · have hz : (pid != 0) = false := by simp [e0]
                    have hkn : Hid (knB s' pid = false) := by
                      show _ = _
                      rw [kn_mark HSok.out pid j0, e0]
                      rfl
                    have HE := Lib.hid e0
                    clear e0
                    go_wp2_with fail
                    refine (mine_c _ p _ (HO5.out.alloc (.cells #[.int .i64 kd', .int .u32 pid] 57)) pid j0 j1 false hown.out).mono ?_
                    rintro e w' ⟨rfl, rfl⟩
                    go_wp2_with fail
                    go_quiet (first | (go_at_call 27; refine Calls.quiet_of_same ((known_c _ p s' ?_ pid j0 j1 false hkn.out).mono fun e w' h => ⟨h.1, h.2.symm⟩); first | exact HO5.out.alloc _ | exact Obj.drew1 (HO5.out.alloc _) | exact (HO5.out.alloc _).drewN' _))
                    go_wp2_with fail
                    go_roundw
                    case rel => exact ⟨j + 1, by omega, by go_num, (HO5.out.alloc _).drewN _, (HG5.out.alloc _).drewN _⟩
                    case measure => simp [intOf]; omega
                  · have hz : (pid != 0) = true := by simp [e0]
                    have hkv : knB s' pid = decide (pid ≤ s'.T) := by
                      rw [kn_mark HSok.out pid j0, show (pid == 0) = false by simp [e0], hown.out]
                      simp
                    by_cases hle : pid ≤ s'.T
                    · have hkn : Hid (knB s' pid = true) := by show _ = _; rw [hkv]; simp [hle]
                      have hd : decide (pid ≤ s'.T) = true := by simp [hle]
                      clear hkv e0
                      go_wp2_with fail
                      refine (mine_c _ p _ (HO5.out.alloc (.cells #[.int .i64 kd', .int .u32 pid] 57)) pid j0 j1 false hown.out).mono ?_
                      rintro e w' ⟨rfl, rfl⟩
                      go_wp2_with fail
                      go_quiet (first | (go_at_call 27; refine Calls.quiet_of_same ((known_c _ p s' ?_ pid j0 j1 true hkn.out).mono fun e w' h => ⟨h.1, h.2.symm⟩); first | exact HO5.out.alloc _ | exact Obj.drew1 (HO5.out.alloc _) | exact (HO5.out.alloc _).drewN' _))
                      go_wp2_with fail
                      go_roundw
                      case rel => exact ⟨j + 1, by omega, by go_num, (HO5.out.alloc _).drewN _, (HG5.out.alloc _).drewN _⟩
                      case measure => simp [intOf]; omega
                    · have hkn : Hid (knB s' pid = false) := by show _ = _; rw [hkv]; simp [hle]
                      have hd : decide (pid ≤ s'.T) = false := by simp; omega
                      have hd' : s'.T < pid := by omega
                      clear hkv hle e0
                      go_wp2_with fail
                      refine (mine_c _ p _ (HO5.out.alloc (.cells #[.int .i64 kd', .int .u32 pid] 57)) pid j0 j1 false hown.out).mono ?_
                      rintro e w' ⟨rfl, rfl⟩
                      go_wp2_with fail
                      go_quiet (first | (go_at_call 27; refine Calls.quiet_of_same ((known_c _ p s' ?_ pid j0 j1 false hkn.out).mono fun e w' h => ⟨h.1, h.2.symm⟩); first | exact HO5.out.alloc _ | exact Obj.drew1 (HO5.out.alloc _) | exact (HO5.out.alloc _).drewN' _))
                      go_wp2_with fail
                      go_roundw
                      case rel => exact ⟨j + 1, by omega, by go_num, (HO5.out.alloc _).drewN _, (HG5.out.alloc _).drewN _⟩
                      case measure => simp [intOf]; omega
              · obtain rfl : k + 1 = j := by omega
                go_wp2_with fail
                go_roundw
                case rel => exact ⟨k + 1, s', by omega, by go_num, HO5.out, HG5.out⟩
                case measure => simp [intOf]; omega
          · have hlo' : (0 : Int) < (k : Int) - 200 := by omega
            obtain ⟨q, hq⟩ : ∃ q, ((k : Int) - 200).toNat = q := ⟨_, rfl⟩
            have hq2 : k + 1 - q = 201 := by omega
            have hk4 : (k : Int) - 200 ≤ (k : Int) + 1 := by omega
            have HRS : Hid (Rds w (some (ad.add (q * 2))) 201 2 (fun i f => F (q + i) f)) := rds_sub HR.out (by omega)
            have HFS : Hid ((∀ i, i < 201 → F (q + i) 0 = .int .i64 (K0 (q + i))) ∧ (∀ i, i < 201 → F (q + i) 1 = .int .u32 (K1 (q + i))) ∧ ∀ i, i < 201 → 0 ≤ K1 (q + i) ∧ K1 (q + i) ≤ 4294967295) :=
              ⟨fun i h => HF.out.1 _ (by omega), fun i h => HF.out.2.1 _ (by omega), fun i h => HF.out.2.2 _ (by omega)⟩
            go_wp2_with fail
            go_loopw [120] (fun xj wl => ∃ j : Nat, j ≤ 201 ∧ xj = .int .i64 j ∧ Obj wl p s' ∧ Chg none_ w wl) (fun xj _ => 201 - (intOf xj).toNat)
            case atStart => exact ⟨0, by omega, rfl, HO7.out, HG7.out⟩
            case round =>
              obtain ⟨j, hj, rfl, ho, hg⟩ := hrel
              have HO5 := Lib.hid ho
              have HG5 := Lib.hid hg
              clear ho hg
              by_cases hjn : j < 201
              · have y0 := HRS.out.f0 rfl (HG5.out.old hB) (by decide) (show j < 201 by omega)
                have y1 := HRS.out.fj rfl (HG5.out.old hB) (show j < 201 by omega) (j := 1) (by decide) (by decide)
                rw [HFS.out.1 j (by omega)] at y0
                rw [HFS.out.2.1 j (by omega)] at y1
                obtain ⟨j0, j1⟩ := HFS.out.2.2 j (by omega)
                generalize K0 (q + j) = kd' at y0
                generalize K1 (q + j) = pid at y1 j0 j1
                cases howb : owB s' pid with
                | true =>
                  have hown := Lib.hid howb
                  clear howb
                  by_cases e0 : pid = 0
                  · have hz : (pid != 0) = false := by simp [e0]
                    have hkn : Hid (knB s' pid = false) := by
                      show _ = _
                      rw [kn_mark HSok.out pid j0, e0]
                      rfl
                    have HE := Lib.hid e0
                    clear e0
                    go_wp2_with fail
                    refine (mine_c _ p _ (HO5.out.alloc (.cells #[.int .i64 kd', .int .u32 pid] 57)) pid j0 j1 true hown.out).mono ?_
                    rintro e w' ⟨rfl, rfl⟩
                    go_wp2_with fail
                    go_quiet (first | (go_at_call 27; refine Calls.quiet_of_same ((known_c _ p s' ?_ pid j0 j1 false hkn.out).mono fun e w' h => ⟨h.1, h.2.symm⟩); first | exact HO5.out.alloc _ | exact Obj.drew1 (HO5.out.alloc _) | exact (HO5.out.alloc _).drewN' _))
                    go_wp2_with fail
                    go_roundw
                    case rel => exact ⟨j + 1, by omega, by go_num, (HO5.out.alloc _).drewN _, (HG5.out.alloc _).drewN _⟩
                    case measure => simp [intOf]; omega
                  · have hz : (pid != 0) = true := by simp [e0]
                    have hkv : knB s' pid = decide (pid ≤ s'.M) := by
                      rw [kn_mark HSok.out pid j0, show (pid == 0) = false by simp [e0], hown.out]
                      simp
                    by_cases hle : pid ≤ s'.M
                    · have hkn : Hid (knB s' pid = true) := by show _ = _; rw [hkv]; simp [hle]
                      have hd : decide (pid ≤ s'.M) = true := by simp [hle]
                      clear hkv e0
                      go_wp2_with fail
                      refine (mine_c _ p _ (HO5.out.alloc (.cells #[.int .i64 kd', .int .u32 pid] 57)) pid j0 j1 true hown.out).mono ?_
                      rintro e w' ⟨rfl, rfl⟩
                      go_wp2_with fail
                      go_quiet (first | (go_at_call 27; refine Calls.quiet_of_same ((known_c _ p s' ?_ pid j0 j1 true hkn.out).mono fun e w' h => ⟨h.1, h.2.symm⟩); first | exact HO5.out.alloc _ | exact Obj.drew1 (HO5.out.alloc _) | exact (HO5.out.alloc _).drewN' _))
                      go_wp2_with fail
                      go_roundw
                      case rel => exact ⟨j + 1, by omega, by go_num, (HO5.out.alloc _).drewN _, (HG5.out.alloc _).drewN _⟩
                      case measure => simp [intOf]; omega
                    · have hkn : Hid (knB s' pid = false) := by show _ = _; rw [hkv]; simp [hle]
                      have hd : decide (pid ≤ s'.M) = false := by simp; omega
                      have hd' : s'.M < pid := by omega
                      clear hkv hle e0
                      go_wp2_with fail
                      refine (mine_c _ p _ (HO5.out.alloc (.cells #[.int .i64 kd', .int .u32 pid] 57)) pid j0 j1 true hown.out).mono ?_
                      rintro e w' ⟨rfl, rfl⟩
                      go_wp2_with fail
                      go_quiet (first | (go_at_call 27; refine Calls.quiet_of_same ((known_c _ p s' ?_ pid j0 j1 false hkn.out).mono fun e w' h => ⟨h.1, h.2.symm⟩); first | exact HO5.out.alloc _ | exact Obj.drew1 (HO5.out.alloc _) | exact (HO5.out.alloc _).drewN' _))
                      go_wp2_with fail
                      go_roundw
                      case rel => exact ⟨j + 1, by omega, by go_num, (HO5.out.alloc _).drewN _, (HG5.out.alloc _).drewN _⟩
                      case measure => simp [intOf]; omega
                | false =>
                  have hown := Lib.hid howb
                  clear howb
                  by_cases e0 : pid = 0
                  · have hz : (pid != 0) = false := by simp [e0]
                    have hkn : Hid (knB s' pid = false) := by
                      show _ = _
                      rw [kn_mark HSok.out pid j0, e0]
                      rfl
                    have HE := Lib.hid e0
                    clear e0
                    go_wp2_with fail
                    refine (mine_c _ p _ (HO5.out.alloc (.cells #[.int .i64 kd', .int .u32 pid] 57)) pid j0 j1 false hown.out).mono ?_
                    rintro e w' ⟨rfl, rfl⟩
                    go_wp2_with fail
                    go_quiet (first | (go_at_call 27; refine Calls.quiet_of_same ((known_c _ p s' ?_ pid j0 j1 false hkn.out).mono fun e w' h => ⟨h.1, h.2.symm⟩); first | exact HO5.out.alloc _ | exact Obj.drew1 (HO5.out.alloc _) | exact (HO5.out.alloc _).drewN' _))
                    go_wp2_with fail
                    go_roundw
                    case rel => exact ⟨j + 1, by omega, by go_num, (HO5.out.alloc _).drewN _, (HG5.out.alloc _).drewN _⟩
                    case measure => simp [intOf]; omega
                  · have hz : (pid != 0) = true := by simp [e0]
                    have hkv : knB s' pid = decide (pid ≤ s'.T) := by
                      rw [kn_mark HSok.out pid j0, show (pid == 0) = false by simp [e0], hown.out]
                      simp
                    by_cases hle : pid ≤ s'.T
                    · have hkn : Hid (knB s' pid = true) := by show _ = _; rw [hkv]; simp [hle]
                      have hd : decide (pid ≤ s'.T) = true := by simp [hle]
                      clear hkv e0
                      go_wp2_with fail
                      refine (mine_c _ p _ (HO5.out.alloc (.cells #[.int .i64 kd', .int .u32 pid] 57)) pid j0 j1 false hown.out).mono ?_
                      rintro e w' ⟨rfl, rfl⟩
                      go_wp2_with fail
                      go_quiet (first | (go_at_call 27; refine Calls.quiet_of_same ((known_c _ p s' ?_ pid j0 j1 true hkn.out).mono fun e w' h => ⟨h.1, h.2.symm⟩); first | exact HO5.out.alloc _ | exact Obj.drew1 (HO5.out.alloc _) | exact (HO5.out.alloc _).drewN' _))
                      go_wp2_with fail
                      go_roundw
                      case rel => exact ⟨j + 1, by omega, by go_num, (HO5.out.alloc _).drewN _, (HG5.out.alloc _).drewN _⟩
                      case measure => simp [intOf]; omega
                    · have hkn : Hid (knB s' pid = false) := by show _ = _; rw [hkv]; simp [hle]
                      have hd : decide (pid ≤ s'.T) = false := by simp; omega
                      have hd' : s'.T < pid := by omega
                      clear hkv hle e0
                      go_wp2_with fail
                      refine (mine_c _ p _ (HO5.out.alloc (.cells #[.int .i64 kd', .int .u32 pid] 57)) pid j0 j1 false hown.out).mono ?_
                      rintro e w' ⟨rfl, rfl⟩
                      go_wp2_with fail
                      go_quiet (first | (go_at_call 27; refine Calls.quiet_of_same ((known_c _ p s' ?_ pid j0 j1 false hkn.out).mono fun e w' h => ⟨h.1, h.2.symm⟩); first | exact HO5.out.alloc _ | exact Obj.drew1 (HO5.out.alloc _) | exact (HO5.out.alloc _).drewN' _))
                      go_wp2_with fail
                      go_roundw
                      case rel => exact ⟨j + 1, by omega, by go_num, (HO5.out.alloc _).drewN _, (HG5.out.alloc _).drewN _⟩
                      case measure => simp [intOf]; omega
              · obtain rfl : j = 201 := by omega
                go_wp2_with fail
                go_roundw
                case rel => exact ⟨k + 1, s', by omega, by go_num, HO5.out, HG5.out⟩
                case measure => simp [intOf]; omega
    · obtain rfl : n = k := by omega
      go_wp2
      go_ret
      exact ⟨rfl, HG.out.old hB⟩
end Go.Proofs.YtgcodagjkbipbaaDoor
