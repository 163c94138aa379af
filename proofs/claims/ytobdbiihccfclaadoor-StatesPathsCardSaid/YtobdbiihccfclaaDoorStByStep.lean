/-
  The walk of culvertlaw09.StatesByStep: Play is Next again and again.
  No condition of its own: the facts 'Sen' and 'Tab' on the world; the argument reads as a list.
-/
import Derived.Test.YtobdbiihccfclaaDoorStPlay
namespace Go.Proofs.YtobdbiihccfclaaDoor
open Go.RowKit

theorem play_snoc (x : Int) : ∀ (zs : List Int) (s : Int) (k : Nat) (q : Int) (j : Nat), play s zs k = (q, j, 0) → play s (zs ++ [x]) k = if ncd q x = 0 then (nst q x, j + 1, 0) else (q, j, ncd q x)
  | [], s, k, q, j, h => by
    simp only [play, Prod.mk.injEq] at h
    obtain ⟨rfl, rfl, _⟩ := h
    simp [play]
  | y :: zs, s, k, q, j, h => by
    simp only [List.cons_append, play] at h ⊢
    by_cases h0 : ncd s y = 0
    · rw [if_pos h0] at h ⊢
      exact play_snoc x zs _ _ q j h
    · rw [if_neg h0] at h
      simp only [Prod.mk.injEq] at h
      exact absurd h.2.2 h0

theorem play_stop (x : Int) (r : List Int) : ∀ (zs : List Int) (s : Int) (k : Nat) (q : Int) (j : Nat), play s zs k = (q, j, 0) → ncd q x ≠ 0 → play s (zs ++ x :: r) k = (q, j, ncd q x)
  | [], s, k, q, j, h, hn => by
    simp only [play, Prod.mk.injEq] at h
    obtain ⟨rfl, rfl, _⟩ := h
    simp [play, hn]
  | y :: zs, s, k, q, j, h, hn => by
    simp only [List.cons_append, play] at h ⊢
    by_cases h0 : ncd s y = 0
    · rw [if_pos h0] at h ⊢
      exact play_stop x r zs _ _ q j h hn
    · rw [if_neg h0] at h
      simp only [Prod.mk.injEq] at h
      exact absurd h.2.2 h0

theorem nst_bad (s x : Int) (h : ncd s x ≠ 0) : nst s x = 0 := by
  unfold ncd at h
  unfold nst
  split at h
  · rename_i hi
    rw [if_pos hi]
    split at h
    · rename_i hc
      rw [if_pos hc]
    · exact absurd rfl h
  · rename_i hi
    rw [if_neg hi]

theorem take_snoc {zs : List Int} {k : Nat} (h : k < zs.length) : zs.take (k + 1) = zs.take k ++ [zs.getD k 0] := by
  rw [List.take_succ_eq_append_getElem h, List.getD_eq_getElem?_getD, List.getElem?_eq_getElem h]
  rfl

theorem Rd.take {kd : IntKind} {w : World} {A : Option Addr} {n : Nat} {zs : List Int} (h : Rd w A n fun i => .int kd (zs.getD i 0)) {k : Nat} (hk : k ≤ n) : Rd w A k fun i => .int kd ((zs.take k).getD i 0) := fun hn => by
  obtain ⟨ad, e, h⟩ := h (by omega)
  refine ⟨ad, e, fun i hi => ?_⟩
  have e1 : (zs.take k).getD i 0 = zs.getD i 0 := by rw [List.getD_eq_getElem?_getD, List.getD_eq_getElem?_getD, List.getElem?_take, if_pos hi]
  show _ = some (Value.int kd ((zs.take k).getD i 0))
  rw [e1]
  exact h i (by omega)

theorem play_res {B : Nat} {a : Nat → Addr} (w : World) (hs : Sen B a w) (ht : Tab B w) (A : Option Addr) (n c : Nat) (zs : List Int) (hz : zs.length = n) (hm : n ≤ 17592186044416) (hr : Rd w A n fun i => .int .i64 (zs.getD i 0))
    (q : Int) (k e : Nat) (hp : play 0 zs 0 = (q, k, e)) :
    Calls Tryd.prog 10 #[.slice A n c] w fun x w' => x = .returned (.tuple #[.int .i64 q, .int .i64 (k : Int), errv a e]) ∧ Dr w w' := by
  have h := play_any w hs ht A n c zs hz hm hr
  rw [hp] at h
  exact h

set_option maxRecDepth 100000 in
set_option maxHeartbeats 2000000 in
theorem byStep_walk {a : Nat → Addr} (w : World) (hs : Sen w.heap.size a w) (ht : Tab w.heap.size w) (A : Option Addr) (n c : Nat) (hnc : n ≤ c) (zs : List Int) (hz : zs.length = n) (hm : n ≤ 17592186044416) (hr : Rd w A n fun i => .int .i64 (zs.getD i 0)) :
    Calls Tryd.prog 4 #[.slice A n c] w fun e w' => e = .returned (.bool true) ∧ Below w.heap.size w w' := by
  have HZ : Hid (zs.length = n) := hz
  clear hz
  have e0 : errv a 0 = .nilIface := rfl
  go_enter Tryd.func4, Tryd.ntmps4
  go_wp2_with fail
  refine (wakes_any _ hs ht (Nat.le_refl _)).mono ?_
  rintro e w1 ⟨rfl, hb1⟩
  go_wp2_with fail
  go_loopw [3, 4] (fun s i wr => ∃ (k : Nat) (q : Int), k ≤ n ∧ i = .int .i64 k ∧ s = .int .i64 q ∧ Hid (play 0 (zs.take k) 0 = (q, k, 0)) ∧ Below w.heap.size w wr) (fun _ i _ => n - (intOf i).toNat)
  case atStart => exact ⟨0, 0, by omega, rfl, rfl, by simp [Hid, play], hb1⟩
  case round =>
    obtain ⟨k, q, hk, rfl, rfl, hp, hb⟩ := hrel
    have hsR := hs.below hb
    have htR := ht.below hb
    by_cases hlt : k < n
    · obtain ⟨ad, rfl, hc⟩ := hr (by omega)
      have hck : wr.cell? (ad.add k) = some (.int .i64 (zs.getD k 0)) := (hb.cell (by rw [block_add]; exact hr.lt ad (by omega) rfl)).trans (hc k hlt)
      have HD : Hid (zs.take (k + 1) = zs.take k ++ [zs.getD k 0]) := take_snoc (by rw [HZ.out]; exact hlt)
      have HE : Hid (zs = zs.take k ++ zs.getD k 0 :: zs.drop (k + 1)) := by
        have h := drop_get (zs := zs) (k := k) (by rw [HZ.out]; exact hlt)
        show zs = _
        rw [← h, List.take_append_drop]
      generalize zs.getD k 0 = x at hck HD HE
      clear hc
      have hle := ncd_le q x
      by_cases h0 : ncd q x = 0
      · have he : errv a (ncd q x) = .nilIface := by rw [h0]; rfl
        have HP : Hid (play 0 (zs.take (k + 1)) 0 = (nst q x, k + 1, 0)) := by
          have h := play_snoc x _ _ _ _ _ hp.out
          rw [if_pos h0, ← HD.out] at h
          exact h
        have H0 : Hid (ncd q x = 0) := h0
        clear h0 hp HE HD
        go_wp2_with fail
        refine (next_any _ hsR htR _ _).mono ?_
        rintro e w' ⟨rfl, m, rfl⟩
        go_wp2_with fail
        have hr1 := hr.take (k := k + 1) (by omega)
        have hl1 : (zs.take (k + 1)).length = k + 1 := by rw [List.length_take, HZ.out]; omega
        refine (events_any _ (some ad) (k + 1) c _ hl1 (by omega) ((hr1.keep hb).drewN m)).mono ?_
        rintro e w2 ⟨v, rfl, hown, hb2⟩
        clear hr1
        have HL : Hid ((zs.take (k + 1)).length = k + 1) := hl1
        clear hl1
        obtain ⟨A2, c2, rfl⟩ := own_slice hown
        have hbb : Below w.heap.size w w2 := (below_drewN hb m).trans (hb2.mono hb.size)
        go_wp2_with fail
        refine (play_res _ (hs.below hbb) (ht.below hbb) A2 (k + 1) c2 _ HL.out (by omega) (Rd.own hown fun i hi => ints_get (by rw [HL.out]; exact hi)) _ _ _ HP.out).mono ?_
        rintro e w3 ⟨rfl, m2, rfl⟩
        clear hown
        go_wp2
        go_roundw
        case rel => exact ⟨k + 1, nst q x, by omega, by go_num, rfl, HP, below_drewN hbb m2⟩
        case measure => simp [intOf]; omega
      · have he : errv a (ncd q x) = .iface 66 (.pointer (some (a (ncd q x)))) := errv_pos a h0
        have HP : Hid (play 0 zs 0 = (q, k, ncd q x)) := by
          have h := play_stop x (zs.drop (k + 1)) _ _ _ _ _ hp.out h0
          rw [← HE.out] at h
          exact h
        have hn0 : nst q x = 0 := nst_bad q x h0
        have h1 : 1 ≤ ncd q x := by omega
        clear h0 hp HE HD
        go_wp2_with fail
        refine (next_any _ hsR htR _ _).mono ?_
        rintro e w' ⟨rfl, m, rfl⟩
        go_wp2_with fail
        refine (events_any _ (some ad) n c _ HZ.out hm ((hr.keep hb).drewN m)).mono ?_
        rintro e w2 ⟨v, rfl, hown, hb2⟩
        obtain ⟨A2, c2, rfl⟩ := own_slice hown
        have hbb : Below w.heap.size w w2 := (below_drewN hb m).trans (hb2.mono hb.size)
        go_wp2_with fail
        refine (play_res _ (hs.below hbb) (ht.below hbb) A2 n c2 _ HZ.out hm (Rd.own hown fun i hi => ints_get (by rw [HZ.out]; exact hi)) _ _ _ HP.out).mono ?_
        rintro e w3 ⟨rfl, m2, rfl⟩
        clear hown
        go_wp2_with (go_at_call 13; refine (code_err _ ((hs.below hbb).drewN _) _ h1 hle).mono ?_; rintro e w' ⟨rfl, rfl⟩)
        go_ret
        exact ⟨rfl, below_drewN hbb m2⟩
    · obtain rfl : k = n := by omega
      have HP : Hid (play 0 zs 0 = (q, k, 0)) := by
        have h := hp.out
        rw [List.take_of_length_le (by rw [HZ.out]; omega)] at h
        exact h
      clear hp
      go_wp2_with fail
      refine (events_any _ A k c _ HZ.out hm (hr.keep hb)).mono ?_
      rintro e w2 ⟨v, rfl, hown, hb2⟩
      obtain ⟨A2, c2, rfl⟩ := own_slice hown
      have hbb : Below w.heap.size w w2 := hb.trans (hb2.mono hb.size)
      go_wp2_with fail
      refine (play_res _ (hs.below hbb) (ht.below hbb) A2 k c2 _ HZ.out hm (Rd.own hown fun i hi => ints_get (by rw [HZ.out]; exact hi)) _ _ _ HP.out).mono ?_
      rintro e w3 ⟨rfl, m2, rfl⟩
      clear hown
      go_wp2
      go_ret
      exact ⟨rfl, below_drewN hbb m2⟩
end Go.Proofs.YtobdbiihccfclaaDoor
