/-
  states.Play, culvertref09.Play, culvertlaw09.events, count and wakes by contracts: both Plays answer one function 'play' of the list.
  No condition of its own: the facts 'Sen' and 'Tab' on the world; a slice that reads as a list.
-/
import Derived.Test.YtgcodagjkbipbaaDoorStNext
import Derived.Test.YtgcodagjkbipbaaDoorMore
namespace Go.Proofs.YtgcodagjkbipbaaDoor
open Go.RowKit

/-- From state s on, k events behind: the state reached, how many were taken in all, the error's code. -/
def play : Int → List Int → Nat → Int × Nat × Nat
  | s, [], k => (s, k, 0)
  | s, x :: r, k => if ncd s x = 0 then play (nst s x) r (k + 1) else (s, k, ncd s x)

theorem ncd_le (s x : Int) : ncd s x ≤ 42 := by unfold ncd; split <;> (try split) <;> omega
theorem play_le (zs : List Int) : ∀ (s : Int) (k : Nat), (play s zs k).2.2 ≤ 42 := by
  induction zs with
  | nil => intro s k; simp [play]
  | cons x r ih =>
    intro s k
    simp only [play]
    split
    · exact ih _ _
    · exact ncd_le s x

theorem errv_pos (a : Nat → Addr) {k : Nat} (h : k ≠ 0) : errv a k = .iface 123 (.pointer (some (a k))) := by
  cases k with
  | zero => exact absurd rfl h
  | succ k => rfl

set_option maxHeartbeats 1000000 in
theorem play_any {B : Nat} {a : Nat → Addr} (w : World) (hs : Sen B a w) (ht : Tab B w) (A : Option Addr) (n c : Nat) (zs : List Int) (hz : zs.length = n) (hm : n ≤ 17592186044416) (hr : Rd w A n fun i => .int .i64 (zs.getD i 0)) :
    Calls Tryd.prog 14 #[.slice A n c] w fun e w' => e = .returned (.tuple #[.int .i64 (play 0 zs 0).1, .int .i64 ((play 0 zs 0).2.1 : Int), errv a (play 0 zs 0).2.2]) ∧ Dr w w' := by
  go_enter Tryd.func14, Tryd.ntmps14
  go_wp2_with fail
  go_loopw [5, 12] (fun s i wr => ∃ (k : Nat) (q : Int), k ≤ n ∧ i = .int .i64 k ∧ s = .int .i64 q ∧ Hid (play q (zs.drop k) k = play 0 zs 0) ∧ Dr w wr) (fun _ i _ => n - (intOf i).toNat)
  case atStart => exact ⟨0, 0, by omega, rfl, rfl, by simp [Hid], Dr.refl w⟩
  case round =>
    obtain ⟨k, q, hk, rfl, rfl, hp, d, rfl⟩ := hrel
    by_cases hlt : k < n
    · obtain ⟨ad, rfl, hc⟩ := hr (by omega)
      have hck : w.cell? (ad.add k) = some (.int .i64 (zs.getD k 0)) := hc k hlt
      have hd := drop_get (zs := zs) (k := k) (by omega)
      generalize zs.getD k 0 = x at hck hd
      clear hc hr
      have hp' := hp.out
      rw [hd] at hp'
      simp only [play] at hp'
      have HP : Hid ((if ncd q x = 0 then play (nst q x) (zs.drop (k + 1)) (k + 1) else (q, k, ncd q x)) = play 0 zs 0) := hp'
      clear hp hp' hd
      by_cases h0 : ncd q x = 0
      · have he : errv a (ncd q x) = .nilIface := by rw [h0]; rfl
        have H0 : Hid (ncd q x = 0) := h0
        have HZ : Hid (zs.length = n) := hz
        clear h0 hz
        go_wp2_with (go_at_call 43; refine (next_any _ (hs.drewN _) (ht.drewN _) _ _).mono ?_; rintro e w' ⟨rfl, m, rfl⟩)
        go_roundw
        case rel => exact ⟨k + 1, nst q x, by omega, by go_num, rfl, by have := HP.out; rw [if_pos H0.out] at this; exact this, _, rfl⟩
        case measure => simp [intOf]; omega
      · have he : errv a (ncd q x) = .iface 123 (.pointer (some (a (ncd q x)))) := errv_pos a h0
        have H0 : Hid (¬ ncd q x = 0) := h0
        have HZ : Hid (zs.length = n) := hz
        clear h0 hz
        go_wp2_with (go_at_call 43; refine (next_any _ (hs.drewN _) (ht.drewN _) _ _).mono ?_; rintro e w' ⟨rfl, m, rfl⟩)
        go_ret3
        have := HP.out
        rw [if_neg H0.out] at this
        exact ⟨by rw [← this]; show _ = Ending.returned (.tuple #[.int .i64 q, .int .i64 (k : Int), errv a (ncd q x)]); rw [he]; rfl, _, rfl⟩
    · obtain rfl : k = n := by omega
      have h2 := hp.out
      rw [List.drop_eq_nil_of_le (by omega)] at h2
      have HP : Hid ((q, k, 0) = play 0 zs 0) := h2
      clear hp h2
      go_wp2
      go_ret3
      exact ⟨by rw [← HP.out]; rfl, _, rfl⟩

set_option maxHeartbeats 1000000 in
theorem rplay_any (w : World) (A : Option Addr) (n c : Nat) (zs : List Int) (hz : zs.length = n) (hm : n ≤ 17592186044416) (hr : Rd w A n fun i => .int .i64 (zs.getD i 0)) :
    Calls Tryd.prog 15 #[.slice A n c] w fun e w' => e = .returned (.tuple #[.int .i64 (play 0 zs 0).1, .int .i64 ((play 0 zs 0).2.1 : Int), .int .i64 ((play 0 zs 0).2.2 : Int)]) ∧ w = w' := by
  go_enter Tryd.func15, Tryd.ntmps15
  go_wp2_with fail
  go_loop [5, 6] (fun s i => ∃ (k : Nat) (q : Int), k ≤ n ∧ i = .int .i64 k ∧ s = .int .i64 q ∧ Hid (play q (zs.drop k) k = play 0 zs 0)) (fun _ i => n - (intOf i).toNat)
  case atStart => exact ⟨0, 0, by omega, rfl, rfl, by simp [Hid]⟩
  case round =>
    obtain ⟨k, q, hk, rfl, rfl, hp⟩ := hrel
    by_cases hlt : k < n
    · obtain ⟨ad, rfl, hc⟩ := hr (by omega)
      have hck : w.cell? (ad.add k) = some (.int .i64 (zs.getD k 0)) := hc k hlt
      have hd := drop_get (zs := zs) (k := k) (by omega)
      generalize zs.getD k 0 = x at hck hd
      clear hc hr
      have hp' := hp.out
      rw [hd] at hp'
      simp only [play] at hp'
      have HP : Hid ((if ncd q x = 0 then play (nst q x) (zs.drop (k + 1)) (k + 1) else (q, k, ncd q x)) = play 0 zs 0) := hp'
      clear hp hp' hd
      have HZ : Hid (zs.length = n) := hz
      clear hz
      by_cases h0 : ncd q x = 0
      · have he : ((ncd q x : Int) != 0) = false := by simp [h0]
        have H0 : Hid (ncd q x = 0) := h0
        clear h0
        go_wp2_with (go_at_call 44; refine (rnext_any _ _ _).mono ?_; rintro e w' ⟨rfl, rfl⟩)
        go_round
        case rel => exact ⟨k + 1, nst q x, by omega, by go_num, rfl, by have := HP.out; rw [if_pos H0.out] at this; exact this⟩
        case measure => simp [intOf]; omega
      · have he : ((ncd q x : Int) != 0) = true := by simp [h0]
        have H0 : Hid (¬ ncd q x = 0) := h0
        clear h0
        go_wp2_with (go_at_call 44; refine (rnext_any _ _ _).mono ?_; rintro e w' ⟨rfl, rfl⟩)
        go_ret3
        have := HP.out
        rw [if_neg H0.out] at this
        exact ⟨by rw [← this]; rfl, rfl⟩
    · obtain rfl : k = n := by omega
      have h2 := hp.out
      rw [List.drop_eq_nil_of_le (by omega)] at h2
      have HP : Hid ((q, k, 0) = play 0 zs 0) := h2
      clear hp h2
      go_wp2
      go_ret3
      exact ⟨by rw [← HP.out]; rfl, rfl⟩

theorem Tryd.infoEv : (Tryd.prog.info? 26).map (fun i => (i.zero, i.size, i.bytes)) = some (some (.int .i64 0), 1, 8) := by kernel_rfl

set_option maxHeartbeats 1000000 in
/-- The numbers as events, in memory of the call's own. -/
theorem events_any (w : World) (A : Option Addr) (n c : Nat) (zs : List Int) (hz : zs.length = n) (hm : n ≤ 17592186044416) (hr : Rd w A n fun i => .int .i64 (zs.getD i 0)) :
    Calls Tryd.prog 13 #[.slice A n c] w fun e w' => ∃ v, e = .returned v ∧ w'.ownsRow w.heap.size 26 1 v n (zs.map (Value.int .i64)) ∧ Below w.heap.size w w' := by
  obtain ⟨i0, hi, hz0, hz1, hz2⟩ := info_parts Tryd.infoEv
  go_enter Tryd.func13, Tryd.ntmps13
  go_wp2_with fail
  go_loopw [3, 4] (fun v i wr => ∃ k : Nat, k ≤ n ∧ i = .int .i64 k ∧ wr.ownsRow w.heap.size 26 1 v k ((zs.map (Value.int .i64)).take k) ∧ Below w.heap.size w wr) (fun _ i _ => n - (intOf i).toNat)
  case atStart => exact ⟨0, by omega, rfl, World.ownsRow_nil _ _ _ _, Below.refl _ _⟩
  case round =>
    obtain ⟨k, hk, rfl, hown, hb⟩ := hrel
    by_cases hlt : k < n
    · obtain ⟨ad, rfl, hc⟩ := hr (by omega)
      have hck : wr.cell? (ad.add k) = some (.int .i64 (zs.getD k 0)) := (hb.cell (by rw [block_add]; exact hr.lt ad (by omega) rfl)).trans (hc k hlt)
      have hd := take_get (kd := .i64) (zs := zs) (k := k) (by omega)
      generalize zs.getD k 0 = x at hck hd
      have HZ : Hid (zs.length = n) := hz
      have HD : Hid ((zs.map (Value.int .i64)).take (k + 1) = (zs.map (Value.int .i64)).take k ++ [.int .i64 x]) := hd
      clear hc hr hz hd
      have hsz := hb.size
      have h63 : k + 1 ≤ maxLen := by simp only [maxLen]; omega
      go_wp2_with (at_builtin; refine wpList_append_own _ rfl (.tmp 11) (.tmp 16) 24 rfl w.heap.size 26 i0 (.int .i64 0) 1 8 Tryd.underlying24 hi hz0 hz1 hz2 rfl (by decide) _ _ _ rfl (hown.alloc _) ⟨wr.heap.size, 0, none⟩ 1 1 [.int .i64 x] rfl rfl ?c1 ?c2 ?c3 ?c4 ?c5 ?_)
      case c1 => exact cell_one_new _ _ _
      case c2 => simp [Value.oneCell']
      case c3 => exact h63
      case c4 => omega
      case c5 => simp; omega
      intro v1 w1 hown1 hg1 _
      have hb1 : Below w.heap.size w w1 := (hb.alloc hsz _).grown hg1 (by simp; omega) (fun g hg => (hown.lt g hg).1)
      have hown2 : w1.ownsRow w.heap.size 26 1 v1 (k + 1) ((zs.map (Value.int .i64)).take (k + 1)) := by rw [HD.out]; exact hown1
      clear hown hown1 hg1 HD hck hb
      go_wp2
      go_roundw
      case rel => exact ⟨k + 1, by omega, by go_num, hown2, hb1⟩
      case measure => simp [intOf]; omega
    · obtain rfl : k = n := by omega
      have hown2 := hown
      rw [List.take_of_length_le (by rw [List.length_map]; omega)] at hown2
      clear hown
      have HZ : Hid (zs.length = k) := hz
      clear hz
      go_wp2
      go_ret
      exact ⟨_, rfl, hown2, hb⟩
theorem play_four {B : Nat} {a : Nat → Addr} (w : World) (hs : Sen B a w) (ht : Tab B w) (g c : Nat)
    (c0 : w.cell? ⟨g, 0, none⟩ = some (.int .i64 1)) (c1 : w.cell? ⟨g, 1, none⟩ = some (.int .i64 5)) (c2 : w.cell? ⟨g, 2, none⟩ = some (.int .i64 2)) (c3 : w.cell? ⟨g, 3, none⟩ = some (.int .i64 4)) :
    Calls Tryd.prog 14 #[.slice (some ⟨g, 0, none⟩) 4 c] w fun e w' => e = .returned (.tuple #[.int .i64 6, .int .i64 4, .nilIface]) ∧ Dr w w' := by
  have h := play_any w hs ht (some ⟨g, 0, none⟩) 4 c [1, 5, 2, 4] rfl (by omega) (fun _ => ⟨_, rfl, fun i hi => by
    match i, hi with
    | 0, _ => exact c0
    | 1, _ => exact c1
    | 2, _ => exact c2
    | 3, _ => exact c3⟩)
  have e : play 0 [1, 5, 2, 4] 0 = (6, 4, 0) := by decide
  rw [e] at h
  exact h

set_option maxHeartbeats 1000000 in
theorem wakes_any {B : Nat} {a : Nat → Addr} (w : World) (hs : Sen B a w) (ht : Tab B w) (hB : B ≤ w.heap.size) :
    Calls Tryd.prog 12 #[] w fun e w' => e = .returned (.bool true) ∧ Below w.heap.size w w' := by
  have e0 : errv a 0 = .nilIface := rfl
  go_enter Tryd.func12, Tryd.ntmps12
  go_wp2_with fail
  refine (next_1_4 w hs ht).mono ?_
  rintro e w' ⟨rfl, m, rfl⟩
  go_wp2_with fail
  refine (next_3_3 (w.drewN m) (hs.drewN _) (ht.drewN _)).mono ?_
  rintro e w' ⟨rfl, m2, rfl⟩
  go_wp2_with fail
  have hc1 : Chg none_ w ((w.drewN (m + m2)).alloc (.cells #[.int .i64 1, .int .i64 5, .int .i64 2, .int .i64 4] 26)) := ((Chg.refl _ w).drewN _).alloc _
  have hsA := hs.below (hc1.old hB)
  have htA := ht.below (hc1.old hB)
  have hi := Is.new (w.drewN (m + m2)) 26 #[.int .i64 1, .int .i64 5, .int .i64 2, .int .i64 4]
  refine (play_four _ hsA htA w.heap.size 4 (hi.at_ 0 _ rfl) (hi.at_ 1 _ rfl) (hi.at_ 2 _ rfl) (hi.at_ 3 _ rfl)).mono ?_
  rintro e w' ⟨rfl, m3, rfl⟩
  go_wp2_with (go_at_call 16; refine (code_any _ (hsA.drewN _) 23 (by omega)).mono ?_; rintro e w' ⟨rfl, rfl⟩)
  go_ret
  exact ⟨rfl, (hc1.drewN _).old (Nat.le_refl _)⟩


end Go.Proofs.YtgcodagjkbipbaaDoor
