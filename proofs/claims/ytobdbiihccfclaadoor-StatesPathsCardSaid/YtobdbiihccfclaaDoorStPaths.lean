/-
  The walk of culvertlaw09.StatesPaths: what each list that is taken has, and reaches.
  No condition of its own: the facts 'Sen' and 'Tab' on the world; the argument reads as a list.
-/
import Derived.Test.YtobdbiihccfclaaDoorStPure
import Derived.Lib.Hide
namespace Go.Proofs.YtobdbiihccfclaaDoor
open Go.RowKit

set_option maxHeartbeats 1000000 in
theorem count_any (w : World) (A : Option Addr) (n c : Nat) (x : Int) (zs : List Int) (hz : zs.length = n) (hm : n ≤ 17592186044416) (hr : Rd w A n fun i => .int .i64 (zs.getD i 0)) :
    Calls Tryd.prog 15 #[.slice A n c, .int .i64 x] w fun e w' => e = .returned (.int .i64 (cnt x zs : Int)) ∧ w = w' := by
  have HZ : Hid (zs.length = n) := hz
  clear hz
  go_enter Tryd.func15, Tryd.ntmps15
  go_wp2_with fail
  go_loop [5, 6] (fun y i => ∃ k : Nat, k ≤ n ∧ i = .int .i64 k ∧ y = .int .i64 (cnt x (zs.take k) : Int)) (fun _ i => n - (intOf i).toNat)
  case atStart => exact ⟨0, by omega, rfl, by simp [cnt]⟩
  case round =>
    obtain ⟨k, hk, rfl, rfl⟩ := hrel
    by_cases hlt : k < n
    · obtain ⟨ad, rfl, hc⟩ := hr (by omega)
      have hck : w.cell? (ad.add k) = some (.int .i64 (zs.getD k 0)) := hc k hlt
      have HD : Hid (zs.take (k + 1) = zs.take k ++ [zs.getD k 0]) := take_snoc (by rw [HZ.out]; exact hlt)
      have hle : cnt x (zs.take k) ≤ k := by
        have := List.count_le_length (a := x) (l := zs.take k)
        rw [List.length_take] at this
        unfold cnt; omega
      generalize zs.getD k 0 = y at hck HD
      generalize hcn : cnt x (zs.take k) = m at hle
      have HC : Hid (cnt x (zs.take (k + 1)) = m + if y = x then 1 else 0) := by
        rw [HD.out]
        show cnt x _ = _
        rw [cnt_snoc, hcn]
      clear hc hr HD hcn
      by_cases hy : y = x
      · have hb : (y == x) = true := by simp [hy]
        have HY : Hid (y = x) := hy
        clear hy
        go_wp2
        go_round
        case rel => exact ⟨k + 1, by omega, by go_num, by rw [HC.out, if_pos HY.out]; go_num⟩
        case measure => simp [intOf]; omega
      · have hb : (y == x) = false := by simp [hy]
        have HY : Hid (¬ y = x) := hy
        clear hy
        go_wp2
        go_round
        case rel => exact ⟨k + 1, by omega, by go_num, by rw [HC.out, if_neg HY.out]; rfl⟩
        case measure => simp [intOf]; omega
    · obtain rfl : k = n := by omega
      have HC : Hid (cnt x (zs.take k) = cnt x zs) := by rw [List.take_of_length_le (by rw [HZ.out]; omega)]; exact rfl
      go_wp2
      go_ret
      exact ⟨by rw [← HC.out]; rfl, rfl⟩

set_option maxRecDepth 100000 in
set_option maxHeartbeats 1000000 in
theorem paths_walk {a : Nat → Addr} (w : World) (hs : Sen w.heap.size a w) (ht : Tab w.heap.size w) (A : Option Addr) (n c : Nat) (hnc : n ≤ c) (zs : List Int) (hz : zs.length = n) (hm : n ≤ 17592186044416) (hr : Rd w A n fun i => .int .i64 (zs.getD i 0)) :
    Calls Tryd.prog 6 #[.slice A n c] w fun e w' => e = .returned (.bool true) ∧ Below w.heap.size w w' := by
  have HZ : Hid (zs.length = n) := hz
  have e0 : errv a 0 = .nilIface := rfl
  obtain ⟨j, hj1, hj2, hH, hE0, hE1⟩ := taken zs
  rw [hz] at hj2 hE0 hE1
  have hle := play_le zs 0 0
  have HP : Hid (play 0 zs 0 = ((play 0 zs 0).1, j, (play 0 zs 0).2.2)) := by rw [← hj1]; exact rfl
  generalize (play 0 zs 0).1 = q at hH HP
  generalize (play 0 zs 0).2.2 = E at hE0 hE1 hle HP
  have HL : Hid ((zs.take j).length = j) := by show _ = _; rw [List.length_take, hz]; omega
  have hrY := Lib.hid (hr.take hj2)
  clear hz hj1
  by_cases hE : E = 0
  · subst hE
    obtain rfl : j = n := hE0 rfl
    clear hE0 hE1
    have HR : Hid (∀ ad, A = some ad → 0 < j → ad.block < w.heap.size) := fun ad e h => hr.lt ad h e
    go_enter Tryd.func6, Tryd.ntmps6
    go_wp2_with fail
    refine (wakes_any _ hs ht (Nat.le_refl _)).mono ?_
    rintro e w1 ⟨rfl, hb1⟩
    go_wp2_with fail
    refine (events_any _ A j c zs HZ.out hm (hr.keep hb1)).mono ?_
    rintro e w2 ⟨v, rfl, hown, hb2⟩
    obtain ⟨A2, c2, rfl⟩ := own_slice hown
    have hbb : Below w.heap.size w w2 := hb1.trans (hb2.mono hb1.size)
    go_wp2_with fail
    refine (play_res _ (hs.below hbb) (ht.below hbb) A2 j c2 _ HZ.out hm (Rd.own hown fun i hi => ints_get (by rw [HZ.out]; exact hi)) _ _ _ HP.out).mono ?_
    rintro e w3 ⟨rfl, m2, rfl⟩
    clear hown HP
    go_wp2_with fail
    rcases hH with ⟨rfl, hnil⟩ | ⟨hpos, hf, hq⟩
    · have hj0 : j = 0 := by rw [← HL.out, hnil]; rfl
      subst hj0
      clear hnil
      refine (count_any _ _ _ _ 0 _ HL.out (by omega) ((hrY.out.keep hbb).drewN m2)).mono ?_
      rintro e w' ⟨rfl, rfl⟩
      go_wp2_with fail
      refine (count_any _ _ _ _ 1 _ HL.out (by omega) ((hrY.out.keep hbb).drewN m2)).mono ?_
      rintro e w' ⟨rfl, rfl⟩
      go_wp2_with fail
      refine (count_any _ _ _ _ 4 _ HL.out (by omega) ((hrY.out.keep hbb).drewN m2)).mono ?_
      rintro e w' ⟨rfl, rfl⟩
      go_wp2_with fail
      refine (count_any _ _ _ _ 5 _ HL.out (by omega) ((hrY.out.keep hbb).drewN m2)).mono ?_
      rintro e w' ⟨rfl, rfl⟩
      go_wp2_with fail
      refine (count_any _ _ _ _ 6 _ HL.out (by omega) ((hrY.out.keep hbb).drewN m2)).mono ?_
      rintro e w' ⟨rfl, rfl⟩
      go_wp2_with fail
      go_wp2
      go_ret
      exact ⟨rfl, below_drewN hbb m2⟩
    · rw [HL.out] at hpos hq
      obtain ⟨ad, rfl, hcl⟩ := hrY.out hpos
      have hc0 : w.cell? (ad.add 0) = some (.int .i64 ((zs.take j).getD 0 0)) := hcl 0 hpos
      have ha0 : ad.add 0 = ad := by simp [Addr.add]
      rw [ha0] at hc0
      clear ha0
      have h6 : cnt 6 (zs.take j) ≤ j := by have := List.count_le_length (a := (6 : Int)) (l := zs.take j); rw [HL.out] at this; exact this
      have hu : cnt 4 (zs.take j) ≤ 1 := by rcases hq with ⟨_, h, _, _⟩ | ⟨_, h, _, _⟩ | ⟨_, h, _, _⟩ | ⟨_, h, _, _⟩ | ⟨_, h, _, _⟩ <;> omega
      have hv : cnt 5 (zs.take j) ≤ 1 := by rcases hq with ⟨_, _, h, _⟩ | ⟨_, _, h, _⟩ | ⟨_, _, h, _⟩ | ⟨_, _, h, _⟩ | ⟨_, _, h, _⟩ <;> omega
      have hall : ∀ i, j - cnt 6 (zs.take j) ≤ i → i < j → (zs.take j).getD i 0 = 6 := by
        rcases hq with ⟨_, _, _, h⟩ | ⟨_, _, _, h⟩ | ⟨_, _, _, h⟩ | ⟨_, _, _, h⟩ | ⟨_, _, _, _, _, h⟩
        · intro i h1 h2; omega
        · intro i h1 h2; omega
        · intro i h1 h2; omega
        · intro i h1 h2; omega
        · exact h
      have HQ := Lib.hid hq
      have HA := Lib.hid hall
      have HC := Lib.hid hcl
      clear hq hall hcl
      have hfx : ∃ x0 : Int, (x0 = 0 ∨ x0 = 1) ∧ (zs.take j).getD 0 0 = x0 ∧ ((cnt 0 (zs.take j) : Int) + (cnt 1 (zs.take j) : Int) = 1) := by
        rcases hf with ⟨h, h0, h1⟩ | ⟨h, h0, h1⟩
        · exact ⟨0, .inl rfl, h, by omega⟩
        · exact ⟨1, .inr rfl, h, by omega⟩
      clear hf
      obtain ⟨x0, hx0, hxe, hsum⟩ := hfx
      rw [hxe] at hc0
      clear hxe
      have hb0 : (((cnt 0 (zs.take j) : Int) + (cnt 1 (zs.take j) : Int)) != 1) = false := by simp [hsum]
      have hs0 : 0 ≤ (cnt 0 (zs.take j) : Int) + (cnt 1 (zs.take j) : Int) := by omega
      have hs1 : (cnt 0 (zs.take j) : Int) + (cnt 1 (zs.take j) : Int) ≤ 1 := by omega
      clear hsum
      have hjb : ((j : Int) == 0) = false := by simp; omega
      have hc0' : (w2.drewN m2).cell? ad = some (.int .i64 x0) := (hbb.cell (HR.out ad rfl hpos)).trans hc0
      rcases hx0 with rfl | rfl
      all_goals
        refine (count_any _ _ _ _ 0 _ HL.out (by omega) ((hrY.out.keep hbb).drewN m2)).mono ?_
        rintro e w' ⟨rfl, rfl⟩
        go_wp2_with fail
        refine (count_any _ _ _ _ 1 _ HL.out (by omega) ((hrY.out.keep hbb).drewN m2)).mono ?_
        rintro e w' ⟨rfl, rfl⟩
        go_wp2_with fail
        refine (count_any _ _ _ _ 4 _ HL.out (by omega) ((hrY.out.keep hbb).drewN m2)).mono ?_
        rintro e w' ⟨rfl, rfl⟩
        go_wp2_with fail
        refine (count_any _ _ _ _ 5 _ HL.out (by omega) ((hrY.out.keep hbb).drewN m2)).mono ?_
        rintro e w' ⟨rfl, rfl⟩
        go_wp2_with fail
        refine (count_any _ _ _ _ 6 _ HL.out (by omega) ((hrY.out.keep hbb).drewN m2)).mono ?_
        rintro e w' ⟨rfl, rfl⟩
        go_wp2_with fail
        go_loop [12] (fun i => ∃ k : Nat, j - cnt 6 (zs.take j) ≤ k ∧ k ≤ j ∧ i = .int .i64 k) (fun i => j - (intOf i).toNat)
        case atStart => exact ⟨j - cnt 6 (zs.take j), by omega, by omega, by congr 1; omega⟩
        case round =>
          obtain ⟨k, hk1, hk2, rfl⟩ := hrel
          by_cases hlt : k < j
          · have hck : (w2.drewN m2).cell? (ad.add k) = some (.int .i64 6) := by
              rw [← HA.out k hk1 hlt]
              exact (hbb.cell (by rw [block_add]; exact HR.out ad rfl hpos)).trans (HC.out k hlt)
            go_wp2
            go_round
            case rel => exact ⟨k + 1, by omega, by omega, by go_num⟩
            case measure => simp [intOf]; omega
          · have hq := HQ.out
            rcases hq with ⟨hq, k4, k5, k6⟩ | ⟨rfl, k4, k5, k6⟩ | ⟨rfl, k4, k5, k6⟩ | ⟨rfl, k4, k5, k6⟩ | ⟨rfl, _, _, hr0, _⟩
            · rcases hq with rfl | rfl | rfl
              all_goals
                go_wp2
                go_ret
                exact ⟨rfl, below_drewN hbb m2⟩
            · go_wp2
              go_ret
              exact ⟨rfl, below_drewN hbb m2⟩
            · go_wp2
              go_ret
              exact ⟨rfl, below_drewN hbb m2⟩
            · go_wp2
              go_ret
              exact ⟨rfl, below_drewN hbb m2⟩
            · have hrb : ((cnt 6 (zs.take j) : Int) == 0) = false := by simp; omega
              have hrp : 0 < (cnt 6 (zs.take j) : Int) := by omega
              have hu' : cnt 4 (zs.take j) = 0 ∨ cnt 4 (zs.take j) = 1 := by omega
              have hv' : cnt 5 (zs.take j) = 0 ∨ cnt 5 (zs.take j) = 1 := by omega
              clear hu hv HQ
              rcases hu' with k4 | k4
              all_goals
                rcases hv' with k5 | k5
                all_goals
                  go_wp2
                  go_ret
                  exact ⟨rfl, below_drewN hbb m2⟩
  · have he : errv a E = .iface 66 (.pointer (some (a E))) := errv_pos a hE
    have hjn : j < n := hE1 hE
    clear hE0 hE1 hE
    have HR : Hid (∀ ad, A = some ad → 0 < j → ad.block < w.heap.size) := fun ad e h => hr.lt ad (by omega) e
    go_enter Tryd.func6, Tryd.ntmps6
    go_wp2_with fail
    refine (wakes_any _ hs ht (Nat.le_refl _)).mono ?_
    rintro e w1 ⟨rfl, hb1⟩
    go_wp2_with fail
    refine (events_any _ A n c zs HZ.out hm (hr.keep hb1)).mono ?_
    rintro e w2 ⟨v, rfl, hown, hb2⟩
    obtain ⟨A2, c2, rfl⟩ := own_slice hown
    have hbb : Below w.heap.size w w2 := hb1.trans (hb2.mono hb1.size)
    go_wp2_with fail
    refine (play_res _ (hs.below hbb) (ht.below hbb) A2 n c2 _ HZ.out hm (Rd.own hown fun i hi => ints_get (by rw [HZ.out]; exact hi)) _ _ _ HP.out).mono ?_
    rintro e w3 ⟨rfl, m2, rfl⟩
    clear hown HP
    go_wp2_with fail
    rcases hH with ⟨rfl, hnil⟩ | ⟨hpos, hf, hq⟩
    · have hj0 : j = 0 := by rw [← HL.out, hnil]; rfl
      subst hj0
      clear hnil
      refine (count_any _ _ _ _ 0 _ HL.out (by omega) ((hrY.out.keep hbb).drewN m2)).mono ?_
      rintro e w' ⟨rfl, rfl⟩
      go_wp2_with fail
      refine (count_any _ _ _ _ 1 _ HL.out (by omega) ((hrY.out.keep hbb).drewN m2)).mono ?_
      rintro e w' ⟨rfl, rfl⟩
      go_wp2_with fail
      refine (count_any _ _ _ _ 4 _ HL.out (by omega) ((hrY.out.keep hbb).drewN m2)).mono ?_
      rintro e w' ⟨rfl, rfl⟩
      go_wp2_with fail
      refine (count_any _ _ _ _ 5 _ HL.out (by omega) ((hrY.out.keep hbb).drewN m2)).mono ?_
      rintro e w' ⟨rfl, rfl⟩
      go_wp2_with fail
      refine (count_any _ _ _ _ 6 _ HL.out (by omega) ((hrY.out.keep hbb).drewN m2)).mono ?_
      rintro e w' ⟨rfl, rfl⟩
      go_wp2_with fail
      go_wp2
      go_ret
      exact ⟨rfl, below_drewN hbb m2⟩
    · rw [HL.out] at hpos hq
      obtain ⟨ad, rfl, hcl⟩ := hrY.out hpos
      have hc0 : w.cell? (ad.add 0) = some (.int .i64 ((zs.take j).getD 0 0)) := hcl 0 hpos
      have ha0 : ad.add 0 = ad := by simp [Addr.add]
      rw [ha0] at hc0
      clear ha0
      have h6 : cnt 6 (zs.take j) ≤ j := by have := List.count_le_length (a := (6 : Int)) (l := zs.take j); rw [HL.out] at this; exact this
      have hu : cnt 4 (zs.take j) ≤ 1 := by rcases hq with ⟨_, h, _, _⟩ | ⟨_, h, _, _⟩ | ⟨_, h, _, _⟩ | ⟨_, h, _, _⟩ | ⟨_, h, _, _⟩ <;> omega
      have hv : cnt 5 (zs.take j) ≤ 1 := by rcases hq with ⟨_, _, h, _⟩ | ⟨_, _, h, _⟩ | ⟨_, _, h, _⟩ | ⟨_, _, h, _⟩ | ⟨_, _, h, _⟩ <;> omega
      have hall : ∀ i, j - cnt 6 (zs.take j) ≤ i → i < j → (zs.take j).getD i 0 = 6 := by
        rcases hq with ⟨_, _, _, h⟩ | ⟨_, _, _, h⟩ | ⟨_, _, _, h⟩ | ⟨_, _, _, h⟩ | ⟨_, _, _, _, _, h⟩
        · intro i h1 h2; omega
        · intro i h1 h2; omega
        · intro i h1 h2; omega
        · intro i h1 h2; omega
        · exact h
      have HQ := Lib.hid hq
      have HA := Lib.hid hall
      have HC := Lib.hid hcl
      clear hq hall hcl
      have hfx : ∃ x0 : Int, (x0 = 0 ∨ x0 = 1) ∧ (zs.take j).getD 0 0 = x0 ∧ ((cnt 0 (zs.take j) : Int) + (cnt 1 (zs.take j) : Int) = 1) := by
        rcases hf with ⟨h, h0, h1⟩ | ⟨h, h0, h1⟩
        · exact ⟨0, .inl rfl, h, by omega⟩
        · exact ⟨1, .inr rfl, h, by omega⟩
      clear hf
      obtain ⟨x0, hx0, hxe, hsum⟩ := hfx
      rw [hxe] at hc0
      clear hxe
      have hb0 : (((cnt 0 (zs.take j) : Int) + (cnt 1 (zs.take j) : Int)) != 1) = false := by simp [hsum]
      have hs0 : 0 ≤ (cnt 0 (zs.take j) : Int) + (cnt 1 (zs.take j) : Int) := by omega
      have hs1 : (cnt 0 (zs.take j) : Int) + (cnt 1 (zs.take j) : Int) ≤ 1 := by omega
      clear hsum
      have hjb : ((j : Int) == 0) = false := by simp; omega
      have hc0' : (w2.drewN m2).cell? ad = some (.int .i64 x0) := (hbb.cell (HR.out ad rfl hpos)).trans hc0
      rcases hx0 with rfl | rfl
      all_goals
        refine (count_any _ _ _ _ 0 _ HL.out (by omega) ((hrY.out.keep hbb).drewN m2)).mono ?_
        rintro e w' ⟨rfl, rfl⟩
        go_wp2_with fail
        refine (count_any _ _ _ _ 1 _ HL.out (by omega) ((hrY.out.keep hbb).drewN m2)).mono ?_
        rintro e w' ⟨rfl, rfl⟩
        go_wp2_with fail
        refine (count_any _ _ _ _ 4 _ HL.out (by omega) ((hrY.out.keep hbb).drewN m2)).mono ?_
        rintro e w' ⟨rfl, rfl⟩
        go_wp2_with fail
        refine (count_any _ _ _ _ 5 _ HL.out (by omega) ((hrY.out.keep hbb).drewN m2)).mono ?_
        rintro e w' ⟨rfl, rfl⟩
        go_wp2_with fail
        refine (count_any _ _ _ _ 6 _ HL.out (by omega) ((hrY.out.keep hbb).drewN m2)).mono ?_
        rintro e w' ⟨rfl, rfl⟩
        go_wp2_with fail
        go_loop [12] (fun i => ∃ k : Nat, j - cnt 6 (zs.take j) ≤ k ∧ k ≤ j ∧ i = .int .i64 k) (fun i => j - (intOf i).toNat)
        case atStart => exact ⟨j - cnt 6 (zs.take j), by omega, by omega, by congr 1; omega⟩
        case round =>
          obtain ⟨k, hk1, hk2, rfl⟩ := hrel
          by_cases hlt : k < j
          · have hck : (w2.drewN m2).cell? (ad.add k) = some (.int .i64 6) := by
              rw [← HA.out k hk1 hlt]
              exact (hbb.cell (by rw [block_add]; exact HR.out ad rfl hpos)).trans (HC.out k hlt)
            go_wp2
            go_round
            case rel => exact ⟨k + 1, by omega, by omega, by go_num⟩
            case measure => simp [intOf]; omega
          · have hq := HQ.out
            rcases hq with ⟨hq, k4, k5, k6⟩ | ⟨rfl, k4, k5, k6⟩ | ⟨rfl, k4, k5, k6⟩ | ⟨rfl, k4, k5, k6⟩ | ⟨rfl, _, _, hr0, _⟩
            · rcases hq with rfl | rfl | rfl
              all_goals
                go_wp2
                go_ret
                exact ⟨rfl, below_drewN hbb m2⟩
            · go_wp2
              go_ret
              exact ⟨rfl, below_drewN hbb m2⟩
            · go_wp2
              go_ret
              exact ⟨rfl, below_drewN hbb m2⟩
            · go_wp2
              go_ret
              exact ⟨rfl, below_drewN hbb m2⟩
            · have hrb : ((cnt 6 (zs.take j) : Int) == 0) = false := by simp; omega
              have hrp : 0 < (cnt 6 (zs.take j) : Int) := by omega
              have hu' : cnt 4 (zs.take j) = 0 ∨ cnt 4 (zs.take j) = 1 := by omega
              have hv' : cnt 5 (zs.take j) = 0 ∨ cnt 5 (zs.take j) = 1 := by omega
              clear hu hv HQ
              rcases hu' with k4 | k4
              all_goals
                rcases hv' with k5 | k5
                all_goals
                  go_wp2
                  go_ret
                  exact ⟨rfl, below_drewN hbb m2⟩
end Go.Proofs.YtobdbiihccfclaaDoor
