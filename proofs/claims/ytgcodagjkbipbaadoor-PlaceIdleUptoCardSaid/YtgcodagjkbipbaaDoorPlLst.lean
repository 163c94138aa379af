/-
  The walk of culvertlaw21.PlaceLeast.
  No condition of its own: the fact 'Sen' on the world; the argument reads as rows.
-/
import Derived.Test.YtgcodagjkbipbaaDoorPlClone
namespace Go.Proofs.YtgcodagjkbipbaaDoor
open Go.RowKit

theorem may_c (w : World) (l : Ld) (m : Int) (r : Bool) (hr : l.may m = r) :
    Calls Tryd.prog 42 #[ldV l, .int .i64 m] w fun e w' => e = .returned (.bool r) ∧ Chg none_ w w' := by
  subst hr
  exact may_any w l m
/-- What grew out of an empty slice of the call's own is new. -/
theorem chg_grown {w u u' : World} {g : Nat} (hc : Chg none_ w u) (h : u.grownBy u' (some g)) (hg : w.heap.size ≤ g) : Chg none_ w u' :=
  hc.grown h fun k e hk => by injection e with e; omega

theorem pk_some' {L : Nat → Ld} {m : Int} {n p : Nat} (h : bst L m n = some p) : pkV L m n = (p : Int) ∧ pkC L m n = 0 := by
  unfold pkV pkC
  rw [h]
  exact ⟨rfl, rfl⟩
theorem pk_none' {L : Nat → Ld} {m : Int} {n : Nat} (h : bst L m n = none) : pkV L m n = 0 ∧ pkC L m n ≠ 0 := by
  refine ⟨by unfold pkV; rw [h], fun hc => ?_⟩
  obtain ⟨p, hp⟩ := (pkC_zero L m n).1 hc
  rw [h] at hp
  cases hp

/-- Rows with fields of the kinds of a load are loads. -/
theorem lds_rds {w : World} {A : Option Addr} {n : Nat} {F : Nat → Nat → Value} (h : Rds w A n 4 F) {K0 K1 : Nat → Bool} {K2 K3 : Nat → Int} (h0 : ∀ i, i < n → F i 0 = .bool (K0 i)) (h1 : ∀ i, i < n → F i 1 = .bool (K1 i))
    (h2 : ∀ i, i < n → F i 2 = .int .i64 (K2 i) ∧ (Lit.int .i64 (K2 i)).wf = true) (h3 : ∀ i, i < n → F i 3 = .int .i64 (K3 i) ∧ (Lit.int .i64 (K3 i)).wf = true) : Lds w A n (fun i => ⟨K0 i, K1 i, K2 i, K3 i⟩) := fun hn => by
  obtain ⟨ad, e, hc⟩ := h hn
  refine ⟨ad, e, fun i hi j hj => ?_⟩
  rw [hc i hi j hj]
  match j, hj with
  | 0, _ => rw [h0 i hi]; rfl
  | 1, _ => rw [h1 i hi]; rfl
  | 2, _ => rw [(h2 i hi).1]; rfl
  | 3, _ => rw [(h3 i hi).1]; rfl

set_option maxRecDepth 100000 in
set_option maxHeartbeats 4000000 in
theorem least_walk {a : Nat → Addr} (w : World) (hs : Sen w.heap.size a w) (A : Option Addr) (n c : Nat) (L : Nat → Ld) (m : Int) (hr : Lds w A n L) (hnil : A = none → c = 0) (hb : n * 24 ≤ 140737488351232) :
    Calls Tryd.prog 9 #[.slice A n c, .int .i64 m] w fun e w' => e = .returned (.bool true) ∧ Below w.heap.size w w' := by
  have hB : w.heap.size ≤ w.heap.size := Nat.le_refl _
  have HS := Lib.hid hs
  have HR := Lib.hid hr
  have HN := Lib.hid hnil
  clear hs hr hnil
  have hn63 : n ≤ 4611686018427387904 := by omega
  go_enter Tryd.func9, Tryd.ntmps9
  go_wp2_with fail
  refine (pfixed_any w HS.out hB).mono ?_
  rintro e w1 ⟨rfl, c1⟩
  have HC1 := Lib.hid c1
  have hsz := c1.size
  clear c1
  go_wp2_with (at_builtin; refine wpList_append_lds rfl (.tmp 12) (.tmp 13) rfl w1.heap.size ?b1 _ rfl ?b2 A n c L rfl ?b3 HN.out hb ?_)
  case b1 => simp
  case b2 => exact World.ownsRow_made w1 #[] 0 (Nat.le_refl _) (by decide) rfl
  case b3 => exact HR.out.chg (by decide) (HC1.out.alloc _) (fun _ _ _ f => f)
  intro v2 w2 hown hg2
  obtain ⟨A2, cc, rfl, h2⟩ := lds_own hown
  have HC2 := Lib.hid (chg_grown (HC1.out.alloc _) hg2 hsz)
  have H2 := Lib.hid h2
  clear hown hg2 h2
  go_wp2_with fail
  cases hb : bst L m n with
  | some p =>
    have hpn := bst_lt hb
    have hpm := Lib.hid (bst_may hb)
    have hbt := Lib.hid (bst_btr hb)
    obtain ⟨hv, hc⟩ := pk_some' hb
    refine (pick_c w2 (HS.out.below (HC2.out.old hB)) HC2.out.size A2 n cc L m hn63 H2.out (p : Int) .nilIface hv (by rw [hc]; rfl)).mono ?_
    rintro e w3 ⟨rfl, k3⟩
    have HC3 := Lib.hid (HC2.out.trans k3)
    clear k3 hv hc hb H2 HC2 HC1 hsz
    obtain ⟨ad, rfl, hcell⟩ := HR.out (by omega)
    clear hcell
    have H3 := Lib.hid (HR.out.chg (by decide) HC3.out (fun _ _ _ f => f))
    obtain ⟨x0, x1, x2, x3⟩ := ldAt H3.out hpn
    have hpi : (p : Int) < (n : Int) := by omega
    have hp0 : decide ((p : Int) < 0) = false := by simp
    have hp1 : decide (n ≤ p) = false := by simp; omega
    go_wp2_with fail
    refine (may_c w3 (L p) m true hpm.out).mono ?_
    rintro e w4 ⟨rfl, k4⟩
    have HC4 := Lib.hid (HC3.out.trans k4)
    clear k4 HC3 x0 x1 x2 x3 H3
    go_wp2_with fail
    go_loopw [42] (fun xi wr => ∃ k : Nat, k ≤ n ∧ xi = .int .i64 k ∧ Chg none_ w wr) (fun xi _ => n - (intOf xi).toNat)
    case atStart => exact ⟨0, by omega, rfl, HC4.out⟩
    case round =>
      obtain ⟨k, hk, rfl, hg⟩ := hrel
      by_cases hkn : k < n
      · have H5 := Lib.hid (HR.out.chg (by decide) hg (fun _ _ _ f => f))
        obtain ⟨x0, x1, x2, x3⟩ := ldAt H5.out hkn
        have HG := Lib.hid hg
        clear hg
        cases hmk : (L k).may m with
        | false =>
          have HM := Lib.hid hmk
          clear hmk
          go_wp2_with (go_at_call 42; refine (may_c _ (L k) m false HM.out).mono ?_; rintro e w5 ⟨rfl, k5⟩)
          go_roundw
          case rel => exact ⟨k + 1, by omega, by go_num, (HG.out.alloc _).trans k5⟩
          case measure => simp [intOf]; omega
        | true =>
          have HM := Lib.hid hmk
          clear hmk
          have hq := hbt.out k hkn HM.out
          simp only [btr, Bool.or_eq_false_iff, decide_eq_false_iff_not, Bool.and_eq_false_iff, beq_eq_false_iff_ne] at hq
          obtain ⟨q1, q2⟩ := hq
          have hlt : decide ((L k).op < (L p).op) = false := by simp; omega
          have HLT := Lib.hid hlt
          have HS5 : Hid (Sees (wr.alloc (.cells (ldC (L k)) 72)) wr.heap.size ad n L k) := ⟨Is.new wr _ _, H5.out.chg (by decide) ((Chg.refl none_ wr).alloc _) (fun _ _ _ hf => hf)⟩
          by_cases heq : (L k).op = (L p).op
          · have heq' : ((L k).op == (L p).op) = true := by simp [heq]
            have hpk : p ≤ k := by omega
            have hkp : decide ((k : Int) < (p : Int)) = false := by simp; omega
            clear q1 q2 heq
            go_wp2_with (go_at_call 42; refine (may_c _ (L k) m true HM.out).mono ?_; rintro e w5 ⟨rfl, k5⟩; have HS6 := HS5.out.chg k5 (fun f => f) (fun _ _ _ f => f); obtain ⟨⟨y0, y1, y2, y3⟩, z0, z1, z2, z3⟩ := HS6.eight hpn)
            go_quiet (fail)
            go_wp2_with fail
            go_roundw
            case rel => exact ⟨k + 1, by omega, by go_num, ((HG.out.alloc _).trans k5).drewN _⟩
            case measure => simp [intOf]; omega
          · have heq' : ((L k).op == (L p).op) = false := by simp [heq]
            clear q1 q2 heq
            go_wp2_with (go_at_call 42; refine (may_c _ (L k) m true HM.out).mono ?_; rintro e w5 ⟨rfl, k5⟩; have HS6 := HS5.out.chg k5 (fun f => f) (fun _ _ _ f => f); obtain ⟨⟨y0, y1, y2, y3⟩, z0, z1, z2, z3⟩ := HS6.eight hpn)
            go_quiet (fail)
            go_wp2_with fail
            go_roundw
            case rel => exact ⟨k + 1, by omega, by go_num, ((HG.out.alloc _).trans k5).drewN _⟩
            case measure => simp [intOf]; omega
      · obtain rfl : k = n := by omega
        have HG := Lib.hid hg
        clear hg
        go_wp2
        go_ret
        exact ⟨rfl, HG.out.old hB⟩
  | none =>
    have hall := Lib.hid (fun i hi => bst_none hb i hi)
    obtain ⟨hv, hc⟩ := pk_none' hb
    obtain ⟨q, hq⟩ : ∃ q, pkC L m n = q + 1 := ⟨pkC L m n - 1, by omega⟩
    refine (pick_c w2 (HS.out.below (HC2.out.old hB)) HC2.out.size A2 n cc L m hn63 H2.out 0 (.iface 123 (.pointer (some (a (q + 1))))) hv (by rw [hq]; rfl)).mono ?_
    rintro e w3 ⟨rfl, k3⟩
    have HC3 := Lib.hid (HC2.out.trans k3)
    clear k3 hv hc hb H2 HC2 HC1 hsz hq
    go_wp2_with fail
    go_loopw [42] (fun xi wr => ∃ k : Nat, k ≤ n ∧ xi = .int .i64 k ∧ Chg none_ w wr) (fun xi _ => n - (intOf xi).toNat)
    case atStart => exact ⟨0, by omega, rfl, HC3.out⟩
    case round =>
      obtain ⟨k, hk, rfl, hg⟩ := hrel
      by_cases hkn : k < n
      · obtain ⟨ad, rfl, hcell⟩ := HR.out (by omega)
        clear hcell
        have H5 := Lib.hid (HR.out.chg (by decide) hg (fun _ _ _ f => f))
        obtain ⟨x0, x1, x2, x3⟩ := ldAt H5.out hkn
        have HG := Lib.hid hg
        clear hg
        have HM := Lib.hid (hall.out k hkn)
        go_wp2_with (go_at_call 42; refine (may_c _ (L k) m false HM.out).mono ?_; rintro e w5 ⟨rfl, k5⟩)
        go_roundw
        case rel => exact ⟨k + 1, by omega, by go_num, (HG.out.alloc _).trans k5⟩
        case measure => simp [intOf]; omega
      · obtain rfl : k = n := by omega
        have HG := Lib.hid hg
        clear hg
        go_wp2
        go_ret
        exact ⟨rfl, HG.out.old hB⟩
end Go.Proofs.YtgcodagjkbipbaaDoor
