/-
  place.least and place.Pick by contract.
  No condition of its own: the fact 'Sen' on the world; a slice of loads that reads as rows.
-/
import Derived.Test.YtgcodagjkbipbaaDoorPlClo
import Derived.Deep.RegionHeld3
namespace Go.Proofs.YtgcodagjkbipbaaDoor
open Go.RowKit

theorem bst_skip {L : Nat → Ld} {m : Int} {k : Nat} (h : (L k).may m = false) : bst L m (k + 1) = bst L m k := by
  simp only [bst, h]
  cases bst L m k <;> simp
theorem bst_first {L : Nat → Ld} {m : Int} {k : Nat} (h : (L k).may m = true) (hb : bst L m k = none) : bst L m (k + 1) = some k := by simp only [bst, h, hb, if_true]
theorem bst_less {L : Nat → Ld} {m : Int} {k p : Nat} (h : (L k).may m = true) (hb : bst L m k = some p) (hl : (L k).op < (L p).op) : bst L m (k + 1) = some k := by simp [bst, h, hb, hl]
theorem bst_stay {L : Nat → Ld} {m : Int} {k p : Nat} (hb : bst L m k = some p) (hl : ¬ (L k).op < (L p).op) : bst L m (k + 1) = some p := by simp [bst, hb, hl]

theorem Rds.chg {S : Nat → Prop} {w w' : World} {A : Option Addr} {n m : Nat} {f : Nat → Nat → Value} (h : Rds w A n m f) (hm : 0 < m) (hc : Chg S w w') (hs : ∀ ad, 0 < n → A = some ad → ¬ S ad.block) : Rds w' A n m f := fun hn => by
  obtain ⟨ad, e, hcl⟩ := h hn
  exact ⟨ad, e, fun i hi j hj => (hc.cell (p := ad.add (i * m + j)) (by rw [block_add]; exact h.lt hm ad hn e) (by rw [block_add]; exact hs ad hn e)).trans (hcl i hi j hj)⟩

/-- The cells of load k. -/
structure LdAt (w : World) (ad : Addr) (k : Nat) (x : Ld) : Prop where
  c0 : w.cell? (ad.add (k * 4)) = some (.bool x.live)
  c1 : w.cell? ⟨(ad.add (k * 4)).block, (ad.add (k * 4)).off + 1, none⟩ = some (.bool x.dr)
  c2 : w.cell? ⟨(ad.add (k * 4)).block, (ad.add (k * 4)).off + 2, none⟩ = some (.int .i64 x.op)
  c3 : w.cell? ⟨(ad.add (k * 4)).block, (ad.add (k * 4)).off + 3, none⟩ = some (.int .i64 x.lf)
theorem ldAt {w : World} {n : Nat} {L : Nat → Ld} {ad : Addr} (h : Lds w (some ad) n L) {k : Nat} (hk : k < n) : LdAt w ad k (L k) :=
  ⟨h.f0 rfl (Below.refl _ _) (by decide) hk, h.fj rfl (Below.refl _ _) hk (j := 1) (by decide) (by decide), h.fj rfl (Below.refl _ _) hk (j := 2) (by decide) (by decide), h.fj rfl (Below.refl _ _) hk (j := 3) (by decide) (by decide)⟩

theorem Cap4.drew {w : World} {b0 b1 b2 b3 : Nat} {lv op rm : Bool} {m : Int} (h : Cap4 w b0 b1 b2 b3 lv op rm m) : Cap4 w.drew b0 b1 b2 b3 lv op rm m := ⟨h.m0, h.l1, h.o2, h.r3⟩
theorem Cap4.alloc {w : World} {b0 b1 b2 b3 : Nat} {lv op rm : Bool} {m : Int} (h : Cap4 w b0 b1 b2 b3 lv op rm m) (o : Obj) : Cap4 (w.alloc o) b0 b1 b2 b3 lv op rm m := ⟨h.m0.alloc o, h.l1.alloc o, h.o2.alloc o, h.r3.alloc o⟩
theorem Cap4.keep {w w' : World} {b0 b1 b2 b3 : Nat} {lv op rm : Bool} {m : Int} (h : Cap4 w b0 b1 b2 b3 lv op rm m) (hc : Chg none_ w w') : Cap4 w' b0 b1 b2 b3 lv op rm m :=
  ⟨h.m0.chg hc (fun f => f), h.l1.chg hc (fun f => f), h.o2.chg hc (fun f => f), h.r3.chg hc (fun f => f)⟩

theorem clo_c (w : World) (b0 b1 b2 b3 : Nat) (ha : Apart4 b0 b1 b2 b3) (lv op rm : Bool) (m : Int) (l : Ld) (r lv' op' rm' : Bool) (hr : l.may m = r) (h1 : lv' = (lv || l.live)) (h2 : op' = (op || (l.live && !l.dr))) (h3 : rm' = (rm || (l.live && !l.dr && decide (l.op < m)))) (h : Cap4 w b0 b1 b2 b3 lv op rm m) :
    Calls Tryd.prog 51 #[ldV l, .pointer (some ⟨b1, 0, none⟩), .pointer (some ⟨b2, 0, none⟩), .pointer (some ⟨b3, 0, none⟩), .pointer (some ⟨b0, 0, none⟩)] w fun e w' =>
      e = .returned (.bool r) ∧ Cap4 w' b0 b1 b2 b3 lv' op' rm' m ∧ Chg (in3 b1 b2 b3) w w' := by
  subst hr h1 h2 h3
  exact clo_any w b0 b1 b2 b3 ha lv op rm m l h
theorem less_c (w : World) (x y : Ld) (r : Bool) (hr : decide (x.op < y.op) = r) :
    Calls Tryd.prog 52 #[ldV x, ldV y] w fun e w' => e = .returned (.bool r) ∧ Chg none_ w w' := by
  subst hr
  exact less_any w x y

/-- The cells that the region reads. -/
def Sees (u : World) (b : Nat) (ad : Addr) (n : Nat) (L : Nat → Ld) (k : Nat) : Prop := Is u b 72 (ldC (L k)) ∧ Lds u (some ad) n L
theorem Sees.chg {S : Nat → Prop} {u u' : World} {b : Nat} {ad : Addr} {n k : Nat} {L : Nat → Ld} (h : Sees u b ad n L k) (hc : Chg S u u') (h1 : ¬ S b) (h2 : ∀ ad', 0 < n → some ad = some ad' → ¬ S ad'.block) : Sees u' b ad n L k :=
  ⟨h.1.chg hc h1, h.2.chg (by decide) hc h2⟩
theorem Sees.drew {u : World} {b : Nat} {ad : Addr} {n k : Nat} {L : Nat → Ld} (h : Sees u b ad n L k) : Sees u.drew b ad n L k := ⟨h.1, h.2⟩
theorem Sees.four {u : World} {b : Nat} {ad : Addr} {n k : Nat} {L : Nat → Ld} (h : Sees u b ad n L k) : u.cell? ⟨b, 0, none⟩ = some (.bool (L k).live) ∧ u.cell? ⟨b, 1, none⟩ = some (.bool (L k).dr) ∧ u.cell? ⟨b, 2, none⟩ = some (.int .i64 (L k).op) ∧ u.cell? ⟨b, 3, none⟩ = some (.int .i64 (L k).lf) :=
  ⟨h.1.at_ 0 _ rfl, h.1.at_ 1 _ rfl, h.1.at_ 2 _ rfl, h.1.at_ 3 _ rfl⟩
theorem Sees.eight {u : World} {b : Nat} {ad : Addr} {n k p : Nat} {L : Nat → Ld} (h : Sees u b ad n L k) (hp : p < n) :
    (u.cell? ⟨b, 0, none⟩ = some (.bool (L k).live) ∧ u.cell? ⟨b, 1, none⟩ = some (.bool (L k).dr) ∧ u.cell? ⟨b, 2, none⟩ = some (.int .i64 (L k).op) ∧ u.cell? ⟨b, 3, none⟩ = some (.int .i64 (L k).lf)) ∧
    u.cell? (ad.add (p * 4)) = some (.bool (L p).live) ∧ u.cell? ⟨(ad.add (p * 4)).block, (ad.add (p * 4)).off + 1, none⟩ = some (.bool (L p).dr) ∧ u.cell? ⟨(ad.add (p * 4)).block, (ad.add (p * 4)).off + 2, none⟩ = some (.int .i64 (L p).op) ∧
    u.cell? ⟨(ad.add (p * 4)).block, (ad.add (p * 4)).off + 3, none⟩ = some (.int .i64 (L p).lf) := by
  obtain ⟨c0, c1, c2, c3⟩ := ldAt h.2 hp
  exact ⟨h.four, c0, c1, c2, c3⟩

/-- 'wpAnyH_take' with the slot given. -/
theorem take_at {P : Program} {md : Region.Mode} {ops : Array Oper} {Q : Exit → Act → World → Prop} {S : World → Prop} {i : Nat} (d : Nat) {oi : Oper} {v : Value} {fuel : Nat} {listed : Array Bool} {a : Act} {w : World} (hi : ops[i]? = some oi) (hd : oi.dst = some d)
    (hs : Region.noSelect ops = true) (hf : Region.free md ops listed i = true) (hr : (Region.ready md ops listed).contains i = true)
    (hQ : ∀ c a w, Q (.panic c) (a.put (some d) v) w → Q (.panic c) a w) (hy : YieldsIf P ops S oi v a) (hS : S w)
    (h : wpAnyH P md ops Q S fuel (listed.setIfInBounds i true) (a.put (some d) v) w) : wpAnyH P md ops Q S (fuel + 1) listed a w :=
  wpAnyH_take hi hs hf hr (by rw [hd]; exact hQ) hy hS (by rw [hd]; exact h)

set_option maxRecDepth 100000 in
set_option maxHeartbeats 4000000 in
theorem least_any (w : World) (A : Option Addr) (n c : Nat) (L : Nat → Ld) (m : Int) (hm : n ≤ 4611686018427387904) (hr : Lds w A n L) (b0 b1 b2 b3 : Nat) (ha : Apart4 b0 b1 b2 b3)
    (hcap : Cap4 w b0 b1 b2 b3 false false false m) (hlow : ∀ ad, 0 < n → A = some ad → ¬ in3 b1 b2 b3 ad.block) :
    Calls Tryd.prog 50 #[.slice A n c, .func (.func 51) #[] #[.pointer (some ⟨b1, 0, none⟩), .pointer (some ⟨b2, 0, none⟩), .pointer (some ⟨b3, 0, none⟩), .pointer (some ⟨b0, 0, none⟩)], .func (.func 52) #[] #[]] w fun e w' =>
      e = .returned (.int .i64 (atV (bst L m n))) ∧ Cap4 w' b0 b1 b2 b3 (lvB L n) (opB L n) (rmB L m n) m ∧ Chg (in3 b1 b2 b3) w w' := by
  have HR := Lib.hid hr
  have HL := Lib.hid hlow
  clear hr hlow
  go_enter Tryd.func50, Tryd.ntmps50
  go_wp2_with fail
  go_loopw [7, 12] (fun xa i wr => ∃ k : Nat, k ≤ n ∧ i = .int .i64 k ∧ xa = .int .i64 (atV (bst L m k)) ∧ Cap4 wr b0 b1 b2 b3 (lvB L k) (opB L k) (rmB L m k) m ∧ Chg (in3 b1 b2 b3) w wr) (fun _ i _ => n - (intOf i).toNat)
  case atStart => exact ⟨0, by omega, rfl, rfl, hcap, Chg.refl _ _⟩
  case round =>
    obtain ⟨k, hk, rfl, rfl, hcr, hg⟩ := hrel
    by_cases hlt : k < n
    · obtain ⟨ad, rfl, hcell⟩ := HR.out (by omega)
      clear hcell
      have hrr := Lib.hid (HR.out.chg (by decide) hg HL.out)
      obtain ⟨x0, x1, x2, x3⟩ := ldAt hrr.out hlt
      have hsz := Lib.hid hg.size
      have HC := Lib.hid hcr
      have HG := Lib.hid hg
      clear hcr hg
      have hlv : lvB L (k + 1) = (lvB L k || (L k).live) := rfl
      have hop : opB L (k + 1) = (opB L k || ((L k).live && !(L k).dr)) := rfl
      have hrm : rmB L m (k + 1) = (rmB L m k || ((L k).live && !(L k).dr && decide ((L k).op < m))) := rfl
      have HX := Lib.hid (And.intro hlv (And.intro hop hrm))
      clear hlv hop hrm
      have HS1 : Hid (Sees (wr.alloc (.cells (ldC (L k)) 72)) wr.heap.size ad n L k) := ⟨Is.new wr _ _, hrr.out.chg (by decide) ((Chg.refl none_ wr).alloc _) (fun _ _ _ hf => hf)⟩
      have hnb : Hid (¬ in3 b1 b2 b3 wr.heap.size) := fun h => by
        have := HC.out.l1.lt
        have := HC.out.o2.lt
        have := HC.out.r3.lt
        rcases h with h | h | h <;> omega
      by_cases hmay : (L k).may m = true
      · cases hb : bst L m k with
        | none =>
          obtain ⟨x, hx⟩ : ∃ x, x = atV none := ⟨_, rfl⟩
          have hx0 : decide (x < 0) = true := by rw [hx]; decide
          rw [← hx]
          have HB := Lib.hid (bst_first hmay hb)
          have HM := Lib.hid hmay
          clear hx hb hmay
          go_wp2_with fail
          refine wp_region_held_drew (S := fun u => (u.cell? ⟨wr.heap.size, 0, none⟩ = some (.bool (L k).live) ∧ u.cell? ⟨wr.heap.size, 1, none⟩ = some (.bool (L k).dr) ∧ u.cell? ⟨wr.heap.size, 2, none⟩ = some (.int .i64 (L k).op) ∧ u.cell? ⟨wr.heap.size, 3, none⟩ = some (.int .i64 (L k).lf))) (by kernel_rfl) HS1.out.drew.four (fun hHeld => ?_)
          refine take_at 17 (i := 0) (v := .func (.func 51) #[] #[.pointer (some ⟨b1, 0, none⟩), .pointer (some ⟨b2, 0, none⟩), .pointer (some ⟨b3, 0, none⟩), .pointer (some ⟨b0, 0, none⟩)]) rfl (by kernel_rfl) (by kernel_rfl) (by kernel_rfl) (by kernel_rfl) (fun _ _ _ h => h) (Or.inl ⟨by kernel_rfl, by intro u hSw; (try dsimp only at hSw); go_simp⟩) (by assumption) ?_
          try simp only [Act.put, List.setIfInBounds_toArray, List.set_cons_zero, List.set_cons_succ]
          refine take_at 18 (i := 1) (v := .agg #[.bool (L k).live, .bool (L k).dr, .int .i64 (L k).op, .int .i64 (L k).lf]) rfl (by kernel_rfl) (by kernel_rfl) (by kernel_rfl) (by kernel_rfl) (fun _ _ _ h => h) (Or.inl ⟨by kernel_rfl, by intro u hSw; (try dsimp only at hSw); go_simp⟩) (by assumption) ?_
          try simp only [Act.put, List.setIfInBounds_toArray, List.set_cons_zero, List.set_cons_succ]
          refine wpAnyH_ready (rs := [2]) (by kernel_rfl) (by simp) ?_
          refine AllReadyH.cons rfl (fun K hK => ?_) AllReadyH.nil
          go_simp
          refine (clo_c _ b0 b1 b2 b3 ha (lvB L k) (opB L k) (rmB L m k) m (L k) true _ _ _ HM.out HX.out.1 HX.out.2.1 HX.out.2.2 ?_).mono ?_
          · exact (HC.out.alloc _).drew
          rintro e w1 ⟨rfl, hc1, hg1⟩
          have HS2 := Lib.hid (HS1.out.drew.chg hg1 hnb.out (fun ad' hn e => HL.out ad' hn e))
          try go_simp
          refine hK.out _ _ HS2.out.four (fun hHeld => ?_)
          clear hK K
          try simp only [Act.put, List.setIfInBounds_toArray, List.set_cons_zero, List.set_cons_succ]
          refine take_at 20 (i := 3) (v := .bool true) rfl (by kernel_rfl) (by kernel_rfl) (by kernel_rfl) (by kernel_rfl) (fun _ _ _ h => h) (Or.inl ⟨by kernel_rfl, by intro u hSw; (try dsimp only at hSw); go_simp⟩) (by assumption) ?_
          try simp only [Act.put, List.setIfInBounds_toArray, List.set_cons_zero, List.set_cons_succ]
          refine take_at 21 (i := 4) (v := .int .i64 x) rfl (by kernel_rfl) (by kernel_rfl) (by kernel_rfl) (by kernel_rfl) (fun _ _ _ h => h) (Or.inl ⟨by kernel_rfl, by intro u hSw; (try dsimp only at hSw); go_simp⟩) (by assumption) ?_
          try simp only [Act.put, List.setIfInBounds_toArray, List.set_cons_zero, List.set_cons_succ]
          refine take_at 22 (i := 5) (v := .bool true) rfl (by kernel_rfl) (by kernel_rfl) (by kernel_rfl) (by kernel_rfl) (fun _ _ _ h => h) (Or.inl ⟨by kernel_rfl, by intro u hSw; (try dsimp only at hSw); go_simp⟩) (by assumption) ?_
          try simp only [Act.put, List.setIfInBounds_toArray, List.set_cons_zero, List.set_cons_succ]
          refine take_at 23 (i := 6) (v := .bool true) rfl (by kernel_rfl) (by kernel_rfl) (by kernel_rfl) (by kernel_rfl) (fun _ _ _ h => h) (Or.inl ⟨by kernel_rfl, by intro u hSw; (try dsimp only at hSw); go_simp⟩) (by assumption) ?_
          try simp only [Act.put, List.setIfInBounds_toArray, List.set_cons_zero, List.set_cons_succ]
          refine take_at 24 (i := 7) (v := undef) rfl (by kernel_rfl) (by kernel_rfl) (by kernel_rfl) (by kernel_rfl) (fun _ _ _ h => h) (Or.inr ⟨by kernel_rfl, rfl⟩) (by assumption) ?_
          try simp only [Act.put, List.setIfInBounds_toArray, List.set_cons_zero, List.set_cons_succ]
          refine take_at 25 (i := 8) (v := undef) rfl (by kernel_rfl) (by kernel_rfl) (by kernel_rfl) (by kernel_rfl) (fun _ _ _ h => h) (Or.inr ⟨by kernel_rfl, rfl⟩) (by assumption) ?_
          try simp only [Act.put, List.setIfInBounds_toArray, List.set_cons_zero, List.set_cons_succ]
          refine take_at 26 (i := 9) (v := undef) rfl (by kernel_rfl) (by kernel_rfl) (by kernel_rfl) (by kernel_rfl) (fun _ _ _ h => h) (Or.inr ⟨by kernel_rfl, rfl⟩) (by assumption) ?_
          try simp only [Act.put, List.setIfInBounds_toArray, List.set_cons_zero, List.set_cons_succ]
          refine take_at 27 (i := 10) (v := undef) rfl (by kernel_rfl) (by kernel_rfl) (by kernel_rfl) (by kernel_rfl) (fun _ _ _ h => h) (Or.inr ⟨by kernel_rfl, rfl⟩) (by assumption) ?_
          try simp only [Act.put, List.setIfInBounds_toArray, List.set_cons_zero, List.set_cons_succ]
          refine take_at 28 (i := 11) (v := undef) rfl (by kernel_rfl) (by kernel_rfl) (by kernel_rfl) (by kernel_rfl) (fun _ _ _ h => h) (Or.inr ⟨by kernel_rfl, rfl⟩) (by assumption) ?_
          try simp only [Act.put, List.setIfInBounds_toArray, List.set_cons_zero, List.set_cons_succ]
          refine take_at 29 (i := 12) (v := undef) rfl (by kernel_rfl) (by kernel_rfl) (by kernel_rfl) (by kernel_rfl) (fun _ _ _ h => h) (Or.inr ⟨by kernel_rfl, rfl⟩) (by assumption) ?_
          try simp only [Act.put, List.setIfInBounds_toArray, List.set_cons_zero, List.set_cons_succ]
          refine take_at 30 (i := 13) (v := undef) rfl (by kernel_rfl) (by kernel_rfl) (by kernel_rfl) (by kernel_rfl) (fun _ _ _ h => h) (Or.inr ⟨by kernel_rfl, rfl⟩) (by assumption) ?_
          try simp only [Act.put, List.setIfInBounds_toArray, List.set_cons_zero, List.set_cons_succ]
          refine take_at 31 (i := 14) (v := .bool true) rfl (by kernel_rfl) (by kernel_rfl) (by kernel_rfl) (by kernel_rfl) (fun _ _ _ h => h) (Or.inl ⟨by kernel_rfl, by intro u hSw; (try dsimp only at hSw); go_simp⟩) (by assumption) ?_
          try simp only [Act.put, List.setIfInBounds_toArray, List.set_cons_zero, List.set_cons_succ]
          refine take_at 32 (i := 15) (v := .bool true) rfl (by kernel_rfl) (by kernel_rfl) (by kernel_rfl) (by kernel_rfl) (fun _ _ _ h => h) (Or.inl ⟨by kernel_rfl, by intro u hSw; (try dsimp only at hSw); go_simp⟩) (by assumption) ?_
          try simp only [Act.put, List.setIfInBounds_toArray, List.set_cons_zero, List.set_cons_succ]
          refine wpAnyH_done (by kernel_rfl) ?_ _
          go_wp2_with fail
          go_roundw
          case rel => exact ⟨k + 1, by omega, by go_num, by rw [HB.out]; rfl, hc1, ((HG.out.alloc _).drew).trans hg1⟩
          case measure => simp [intOf]; omega
        | some p =>
          have hpk := bst_lt hb
          have hpn : p < n := by omega
          have hpi : (p : Int) < (n : Int) := by omega
          have hp0 : decide ((p : Int) < 0) = false := by simp
          have hat : atV (some p) = (p : Int) := rfl
          rw [hat]
          clear hat
          by_cases hlo : (L k).op < (L p).op
          · have hld : decide ((L k).op < (L p).op) = true := by simp [hlo]
            have HB := Lib.hid (bst_less hmay hb hlo)
            have HD := Lib.hid hld
            have HM := Lib.hid hmay
            clear hb hlo hld hmay hpk
            go_wp2_with fail
            go_region_held3 (fun u => (u.cell? ⟨wr.heap.size, 0, none⟩ = some (.bool (L k).live) ∧ u.cell? ⟨wr.heap.size, 1, none⟩ = some (.bool (L k).dr) ∧ u.cell? ⟨wr.heap.size, 2, none⟩ = some (.int .i64 (L k).op) ∧ u.cell? ⟨wr.heap.size, 3, none⟩ = some (.int .i64 (L k).lf)) ∧
                u.cell? (ad.add (p * 4)) = some (.bool (L p).live) ∧ u.cell? ⟨(ad.add (p * 4)).block, (ad.add (p * 4)).off + 1, none⟩ = some (.bool (L p).dr) ∧ u.cell? ⟨(ad.add (p * 4)).block, (ad.add (p * 4)).off + 2, none⟩ = some (.int .i64 (L p).op) ∧
                u.cell? ⟨(ad.add (p * 4)).block, (ad.add (p * 4)).off + 3, none⟩ = some (.int .i64 (L p).lf))
              (first | exact HS1.out.eight hpn | exact HS1.out.drew.eight hpn | exact HS2.out.eight hpn | exact HS2.out.drew.eight hpn | exact HS3.out.eight hpn | exact HS3.out.drew.eight hpn)
              (first
                | (go_at_call 51; refine (clo_c _ b0 b1 b2 b3 ha (lvB L k) (opB L k) (rmB L m k) m (L k) true _ _ _ HM.out HX.out.1 HX.out.2.1 HX.out.2.2 ?_).mono ?_; exact (HC.out.alloc _).drew; rintro e w1 ⟨rfl, hc1, hg1⟩; have HS2 := Lib.hid (HS1.out.drew.chg hg1 hnb.out (fun ad' hn e => HL.out ad' hn e)))
                | (go_at_call 52; refine (less_c _ (L k) (L p) true HD.out).mono ?_; rintro e w2 ⟨rfl, hg2⟩; have HS3 := Lib.hid (HS2.out.chg hg2 (fun f => f) (fun _ _ _ f => f))))
            go_wp2_with fail
            go_roundw
            case rel => exact ⟨k + 1, by omega, by go_num, by rw [HB.out]; rfl, hc1.keep hg2, (((HG.out.alloc _).drew).trans hg1).trans (hg2.more (fun _ _ f => f.elim))⟩
            case measure => simp [intOf]; omega
          · have hld : decide ((L k).op < (L p).op) = false := by simp; omega
            have HB := Lib.hid (bst_stay (m := m) hb hlo)
            have HD := Lib.hid hld
            have HM := Lib.hid hmay
            clear hb hlo hld hmay hpk
            go_wp2_with fail
            go_region_held3 (fun u => (u.cell? ⟨wr.heap.size, 0, none⟩ = some (.bool (L k).live) ∧ u.cell? ⟨wr.heap.size, 1, none⟩ = some (.bool (L k).dr) ∧ u.cell? ⟨wr.heap.size, 2, none⟩ = some (.int .i64 (L k).op) ∧ u.cell? ⟨wr.heap.size, 3, none⟩ = some (.int .i64 (L k).lf)) ∧
                u.cell? (ad.add (p * 4)) = some (.bool (L p).live) ∧ u.cell? ⟨(ad.add (p * 4)).block, (ad.add (p * 4)).off + 1, none⟩ = some (.bool (L p).dr) ∧ u.cell? ⟨(ad.add (p * 4)).block, (ad.add (p * 4)).off + 2, none⟩ = some (.int .i64 (L p).op) ∧
                u.cell? ⟨(ad.add (p * 4)).block, (ad.add (p * 4)).off + 3, none⟩ = some (.int .i64 (L p).lf))
              (first | exact HS1.out.eight hpn | exact HS1.out.drew.eight hpn | exact HS2.out.eight hpn | exact HS2.out.drew.eight hpn | exact HS3.out.eight hpn | exact HS3.out.drew.eight hpn)
              (first
                | (go_at_call 51; refine (clo_c _ b0 b1 b2 b3 ha (lvB L k) (opB L k) (rmB L m k) m (L k) true _ _ _ HM.out HX.out.1 HX.out.2.1 HX.out.2.2 ?_).mono ?_; exact (HC.out.alloc _).drew; rintro e w1 ⟨rfl, hc1, hg1⟩; have HS2 := Lib.hid (HS1.out.drew.chg hg1 hnb.out (fun ad' hn e => HL.out ad' hn e)))
                | (go_at_call 52; refine (less_c _ (L k) (L p) false HD.out).mono ?_; rintro e w2 ⟨rfl, hg2⟩; have HS3 := Lib.hid (HS2.out.chg hg2 (fun f => f) (fun _ _ _ f => f))))
            go_wp2_with fail
            go_roundw
            case rel => exact ⟨k + 1, by omega, by go_num, by rw [HB.out]; rfl, hc1.keep hg2, (((HG.out.alloc _).drew).trans hg1).trans (hg2.more (fun _ _ f => f.elim))⟩
            case measure => simp [intOf]; omega
      · have hmf : (L k).may m = false := by simpa using hmay
        have HM := Lib.hid hmf
        have HB := Lib.hid (bst_skip hmf)
        clear hmay hmf
        generalize bst L m k = q at HB
        go_wp2_with fail
        refine wp_region_held_drew (S := fun u => (u.cell? ⟨wr.heap.size, 0, none⟩ = some (.bool (L k).live) ∧ u.cell? ⟨wr.heap.size, 1, none⟩ = some (.bool (L k).dr) ∧ u.cell? ⟨wr.heap.size, 2, none⟩ = some (.int .i64 (L k).op) ∧ u.cell? ⟨wr.heap.size, 3, none⟩ = some (.int .i64 (L k).lf))) (by kernel_rfl) HS1.out.drew.four (fun hHeld => ?_)
        refine take_at 17 (i := 0) (v := .func (.func 51) #[] #[.pointer (some ⟨b1, 0, none⟩), .pointer (some ⟨b2, 0, none⟩), .pointer (some ⟨b3, 0, none⟩), .pointer (some ⟨b0, 0, none⟩)]) rfl (by kernel_rfl) (by kernel_rfl) (by kernel_rfl) (by kernel_rfl) (fun _ _ _ h => h) (Or.inl ⟨by kernel_rfl, by intro u hSw; (try dsimp only at hSw); go_simp⟩) (by assumption) ?_
        try simp only [Act.put, List.setIfInBounds_toArray, List.set_cons_zero, List.set_cons_succ]
        refine take_at 18 (i := 1) (v := .agg #[.bool (L k).live, .bool (L k).dr, .int .i64 (L k).op, .int .i64 (L k).lf]) rfl (by kernel_rfl) (by kernel_rfl) (by kernel_rfl) (by kernel_rfl) (fun _ _ _ h => h) (Or.inl ⟨by kernel_rfl, by intro u hSw; (try dsimp only at hSw); go_simp⟩) (by assumption) ?_
        try simp only [Act.put, List.setIfInBounds_toArray, List.set_cons_zero, List.set_cons_succ]
        refine wpAnyH_ready (rs := [2]) (by kernel_rfl) (by simp) ?_
        refine AllReadyH.cons rfl (fun K hK => ?_) AllReadyH.nil
        go_simp
        refine (clo_c _ b0 b1 b2 b3 ha (lvB L k) (opB L k) (rmB L m k) m (L k) false _ _ _ HM.out HX.out.1 HX.out.2.1 HX.out.2.2 ?_).mono ?_
        · exact (HC.out.alloc _).drew
        rintro e w1 ⟨rfl, hc1, hg1⟩
        have HS2 := Lib.hid (HS1.out.drew.chg hg1 hnb.out (fun ad' hn e => HL.out ad' hn e))
        try go_simp
        refine hK.out _ _ HS2.out.four (fun hHeld => ?_)
        clear hK K
        try simp only [Act.put, List.setIfInBounds_toArray, List.set_cons_zero, List.set_cons_succ]
        refine take_at 20 (i := 3) (v := .bool false) rfl (by kernel_rfl) (by kernel_rfl) (by kernel_rfl) (by kernel_rfl) (fun _ _ _ h => h) (Or.inl ⟨by kernel_rfl, by intro u hSw; (try dsimp only at hSw); go_simp⟩) (by assumption) ?_
        try simp only [Act.put, List.setIfInBounds_toArray, List.set_cons_zero, List.set_cons_succ]
        refine take_at 21 (i := 4) (v := undef) rfl (by kernel_rfl) (by kernel_rfl) (by kernel_rfl) (by kernel_rfl) (fun _ _ _ h => h) (Or.inr ⟨by kernel_rfl, rfl⟩) (by assumption) ?_
        try simp only [Act.put, List.setIfInBounds_toArray, List.set_cons_zero, List.set_cons_succ]
        refine take_at 22 (i := 5) (v := undef) rfl (by kernel_rfl) (by kernel_rfl) (by kernel_rfl) (by kernel_rfl) (fun _ _ _ h => h) (Or.inr ⟨by kernel_rfl, rfl⟩) (by assumption) ?_
        try simp only [Act.put, List.setIfInBounds_toArray, List.set_cons_zero, List.set_cons_succ]
        refine take_at 23 (i := 6) (v := undef) rfl (by kernel_rfl) (by kernel_rfl) (by kernel_rfl) (by kernel_rfl) (fun _ _ _ h => h) (Or.inr ⟨by kernel_rfl, rfl⟩) (by assumption) ?_
        try simp only [Act.put, List.setIfInBounds_toArray, List.set_cons_zero, List.set_cons_succ]
        refine take_at 24 (i := 7) (v := undef) rfl (by kernel_rfl) (by kernel_rfl) (by kernel_rfl) (by kernel_rfl) (fun _ _ _ h => h) (Or.inr ⟨by kernel_rfl, rfl⟩) (by assumption) ?_
        try simp only [Act.put, List.setIfInBounds_toArray, List.set_cons_zero, List.set_cons_succ]
        refine take_at 25 (i := 8) (v := undef) rfl (by kernel_rfl) (by kernel_rfl) (by kernel_rfl) (by kernel_rfl) (fun _ _ _ h => h) (Or.inr ⟨by kernel_rfl, rfl⟩) (by assumption) ?_
        try simp only [Act.put, List.setIfInBounds_toArray, List.set_cons_zero, List.set_cons_succ]
        refine take_at 26 (i := 9) (v := undef) rfl (by kernel_rfl) (by kernel_rfl) (by kernel_rfl) (by kernel_rfl) (fun _ _ _ h => h) (Or.inr ⟨by kernel_rfl, rfl⟩) (by assumption) ?_
        try simp only [Act.put, List.setIfInBounds_toArray, List.set_cons_zero, List.set_cons_succ]
        refine take_at 27 (i := 10) (v := undef) rfl (by kernel_rfl) (by kernel_rfl) (by kernel_rfl) (by kernel_rfl) (fun _ _ _ h => h) (Or.inr ⟨by kernel_rfl, rfl⟩) (by assumption) ?_
        try simp only [Act.put, List.setIfInBounds_toArray, List.set_cons_zero, List.set_cons_succ]
        refine take_at 28 (i := 11) (v := undef) rfl (by kernel_rfl) (by kernel_rfl) (by kernel_rfl) (by kernel_rfl) (fun _ _ _ h => h) (Or.inr ⟨by kernel_rfl, rfl⟩) (by assumption) ?_
        try simp only [Act.put, List.setIfInBounds_toArray, List.set_cons_zero, List.set_cons_succ]
        refine take_at 29 (i := 12) (v := undef) rfl (by kernel_rfl) (by kernel_rfl) (by kernel_rfl) (by kernel_rfl) (fun _ _ _ h => h) (Or.inr ⟨by kernel_rfl, rfl⟩) (by assumption) ?_
        try simp only [Act.put, List.setIfInBounds_toArray, List.set_cons_zero, List.set_cons_succ]
        refine take_at 30 (i := 13) (v := undef) rfl (by kernel_rfl) (by kernel_rfl) (by kernel_rfl) (by kernel_rfl) (fun _ _ _ h => h) (Or.inr ⟨by kernel_rfl, rfl⟩) (by assumption) ?_
        try simp only [Act.put, List.setIfInBounds_toArray, List.set_cons_zero, List.set_cons_succ]
        refine take_at 31 (i := 14) (v := undef) rfl (by kernel_rfl) (by kernel_rfl) (by kernel_rfl) (by kernel_rfl) (fun _ _ _ h => h) (Or.inr ⟨by kernel_rfl, rfl⟩) (by assumption) ?_
        try simp only [Act.put, List.setIfInBounds_toArray, List.set_cons_zero, List.set_cons_succ]
        refine take_at 32 (i := 15) (v := .bool false) rfl (by kernel_rfl) (by kernel_rfl) (by kernel_rfl) (by kernel_rfl) (fun _ _ _ h => h) (Or.inl ⟨by kernel_rfl, by intro u hSw; (try dsimp only at hSw); go_simp⟩) (by assumption) ?_
        try simp only [Act.put, List.setIfInBounds_toArray, List.set_cons_zero, List.set_cons_succ]
        refine wpAnyH_done (by kernel_rfl) ?_ _
        go_wp2_with fail
        go_roundw
        case rel => exact ⟨k + 1, by omega, by go_num, by rw [HB.out], hc1, ((HG.out.alloc _).drew).trans hg1⟩
        case measure => simp [intOf]; omega
    · obtain rfl : k = n := by omega
      go_wp2
      go_ret
      exact ⟨rfl, hcr, hg⟩
end Go.Proofs.YtgcodagjkbipbaaDoor
