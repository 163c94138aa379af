/-
  grant.Recv by contracts: Arrive and Read, at any pointer, nil too.
  No condition of its own: the fact 'Sen' on the world.
-/
import Derived.Test.YthalmjjbamglgaaDoorGrant
import Derived.Handy
namespace Go.Proofs.YthalmjjbamglgaaDoor
open Go.RowKit

theorem arrive_nil {B : Nat} {a : Nat → Addr} (w : World) (hs : Sen B a w) (n : Int) :
    Calls Tryd.prog 74 #[.pointer none, .int .i64 n] w fun e w' => e = .returned (errv a 1) ∧ w = w' := by
  have hc : w.cell? ⟨3, 0, none⟩ = some (.iface 200 (.pointer (some (a 1)))) := hs.cell 1 (by decide) (by decide)
  clear hs
  go_enter Tryd.func74, Tryd.ntmps74
  go_wp2
  go_ret
  exact ⟨rfl, rfl⟩

theorem arrive_any {B : Nat} {a : Nat → Addr} (w : World) (hs : Sen B a w) (p : Option Addr) (s : Gr) (h : Rc w p s) (n : Int) (n0 : -9223372036854775808 ≤ n) (n1 : n ≤ 9223372036854775807) :
    Calls Tryd.prog 74 #[.pointer p, .int .i64 n] w fun e w' => e = .returned (errv a (arC s n)) ∧ Rc w' p (arS s n) ∧ Chg (at_ p) w w' := by
  rcases h with ⟨rfl, rfl⟩ | ⟨ok, g, rfl, hi⟩
  · exact (arrive_nil w hs n).mono fun e w' h => ⟨h.1, .inl ⟨rfl, rfl⟩, by rw [← h.2]; exact Chg.refl _ _⟩
  · have k2 : w.cell? ⟨4, 0, none⟩ = some (.iface 200 (.pointer (some (a 2)))) := hs.cell 2 (by decide) (by decide)
    have k16 : w.cell? ⟨21, 0, none⟩ = some (.iface 200 (.pointer (some (a 16)))) := hs.cell 16 (by decide) (by decide)
    have c0 := hi.at_ 0 (.int .i64 s.l) rfl
    have c1 := hi.at_ 1 (.int .i64 s.u) rfl
    have f0 := hi.frozen 0
    have f1 := hi.frozen 1
    have hW : s.W ≠ 0 := by have := ok.W1; omega
    have HK := Lib.hid (arS_ok ok n)
    have HI := Lib.hid hi
    have HO := Lib.hid ok
    have l0 := ok.l0
    have u0 := ok.u0
    have l1 : s.l ≤ 2147483647 := by have := ok.sum; have := ok.W2; have := ok.o0; omega
    have u1 : s.u ≤ 2147483647 := by have := ok.sum; have := ok.W2; have := ok.o0; omega
    clear hs hi ok
    by_cases h1 : n < 0
    · have hc : arC s n = 2 := by unfold arC; rw [if_neg hW, if_pos h1]
      have hS : arS s n = s := by unfold arS; rw [hc, if_neg (by decide)]
      rw [hc, hS]
      clear hc hS hW HK
      go_enter Tryd.func74, Tryd.ntmps74
      go_wp2
      go_ret
      exact ⟨rfl, .inr ⟨HO.out, g, rfl, HI.out⟩, Chg.refl _ _⟩
    · have n2 : 0 ≤ n := by omega
      by_cases h2 : s.l < n
      · have hc : arC s n = 16 := by unfold arC; rw [if_neg hW, if_neg h1, if_pos h2]
        have hS : arS s n = s := by unfold arS; rw [hc, if_neg (by decide)]
        rw [hc, hS]
        clear hc hS hW HK h1
        go_enter Tryd.func74, Tryd.ntmps74
        go_wp2
        go_ret
        exact ⟨rfl, .inr ⟨HO.out, g, rfl, HI.out⟩, Chg.refl _ _⟩
      · have hc : arC s n = 0 := by unfold arC; rw [if_neg hW, if_neg h1, if_neg h2]
        have hS : arS s n = { s with l := s.l - n, u := s.u + n } := by unfold arS; rw [hc, if_pos rfl]
        rw [hS] at HK ⊢
        rw [hc]
        have n3 : n ≤ s.l := by omega
        have HP := Lib.hid (show Is ((w.setCell ⟨g, 0, none⟩ (.int .i64 (s.l - n))).setCell ⟨g, 1, none⟩ (.int .i64 (s.u + n))) g 175 (grC { s with l := s.l - n, u := s.u + n }) from (HI.out.put 0 _).put 1 _)
        clear hc hS hW h1 h2
        go_enter Tryd.func74, Tryd.ntmps74
        go_wp2
        go_ret
        exact ⟨rfl, .inr ⟨HK.out, g, rfl, HP.out⟩, ((Chg.refl _ w).setCell (p := ⟨g, 0, none⟩) (fun _ => ⟨g, rfl, rfl⟩) _).setCell (p := ⟨g, 1, none⟩) (fun _ => ⟨g, rfl, rfl⟩) _⟩

theorem read_nil {B : Nat} {a : Nat → Addr} (w : World) (hs : Sen B a w) (n : Int) :
    Calls Tryd.prog 71 #[.pointer none, .int .i64 n] w fun e w' => e = .returned (.tuple #[.int .u32 0, errv a 1]) ∧ Dr w w' := by
  have hc : w.cell? ⟨3, 0, none⟩ = some (.iface 200 (.pointer (some (a 1)))) := hs.cell 1 (by decide) (by decide)
  clear hs
  go_enter Tryd.func71, Tryd.ntmps71
  go_wp2
  go_quiet (fail)
  go_wp2
  go_ret2
  exact ⟨rfl, _, rfl⟩

theorem read_any {B : Nat} {a : Nat → Addr} (w : World) (hs : Sen B a w) (p : Option Addr) (s : Gr) (h : Rc w p s) (n : Int) (n0 : -9223372036854775808 ≤ n) (n1 : n ≤ 9223372036854775807) :
    Calls Tryd.prog 71 #[.pointer p, .int .i64 n] w fun e w' => e = .returned (.tuple #[.int .u32 (rdV s n), errv a (rdC s n)]) ∧ Rc w' p (rdS s n) ∧ Chg (at_ p) w w' := by
  rcases h with ⟨rfl, rfl⟩ | ⟨ok, g, rfl, hi⟩
  · exact (read_nil w hs n).mono fun e w' h => ⟨h.1, .inl ⟨rfl, rfl⟩, h.2.chg⟩
  · have k2 : w.cell? ⟨4, 0, none⟩ = some (.iface 200 (.pointer (some (a 2)))) := hs.cell 2 (by decide) (by decide)
    have k5 : w.cell? ⟨12, 0, none⟩ = some (.iface 200 (.pointer (some (a 5)))) := hs.cell 5 (by decide) (by decide)
    have c0 := hi.at_ 0 (.int .i64 s.l) rfl
    have c1 := hi.at_ 1 (.int .i64 s.u) rfl
    have c2 := hi.at_ 2 (.int .i64 s.o) rfl
    have c3 := hi.at_ 3 (.int .i64 s.W) rfl
    have f0 := hi.frozen 0
    have f1 := hi.frozen 1
    have f2 := hi.frozen 2
    have hW : s.W ≠ 0 := by have := ok.W1; omega
    have HK := Lib.hid (rdS_ok ok n)
    have HI := Lib.hid hi
    have HO := Lib.hid ok
    have l0 := ok.l0
    have u0 := ok.u0
    have o0 := ok.o0
    have l1 : s.l + s.u + s.o ≤ 2147483647 := by have := ok.sum; have := ok.W2; omega
    clear hs hi ok
    by_cases h1 : n < 0
    · have hc : rdC s n = 2 := by unfold rdC; rw [if_neg hW, if_pos h1]
      have hV : rdV s n = 0 := by unfold rdV; rw [hc, if_neg (by decide)]
      have hS : rdS s n = s := by unfold rdS; rw [hc, if_neg (by decide)]
      rw [hc, hS, hV]
      clear hc hS hV hW HK
      go_enter Tryd.func71, Tryd.ntmps71
      go_wp2
      go_quiet (fail)
      go_wp2
      go_ret2
      exact ⟨rfl, .inr ⟨HO.out, g, rfl, HI.out⟩, (Chg.refl _ _).drewN _⟩
    · have n2 : 0 ≤ n := by omega
      by_cases h2 : s.u < n
      · have hc : rdC s n = 5 := by unfold rdC; rw [if_neg hW, if_neg h1, if_pos h2]
        have hV : rdV s n = 0 := by unfold rdV; rw [hc, if_neg (by decide)]
        have hS : rdS s n = s := by unfold rdS; rw [hc, if_neg (by decide)]
        rw [hc, hS, hV]
        clear hc hS hV hW HK h1
        go_enter Tryd.func71, Tryd.ntmps71
        go_wp2
        go_quiet (fail)
        go_wp2
        go_ret2
        exact ⟨rfl, .inr ⟨HO.out, g, rfl, HI.out⟩, (Chg.refl _ _).drewN _⟩
      · have hc : rdC s n = 0 := by unfold rdC; rw [if_neg hW, if_neg h1, if_neg h2]
        have n3 : n ≤ s.u := by omega
        by_cases h3 : s.o + n < thr s.W
        · have hV : rdV s n = 0 := by unfold rdV; rw [hc, if_pos rfl, if_pos h3]
          have hS : rdS s n = { s with u := s.u - n, o := s.o + n } := by unfold rdS; rw [hc, if_pos rfl, if_pos h3]
          rw [hS] at HK ⊢
          rw [hc, hV]
          have HP := Lib.hid (show Is ((w.setCell ⟨g, 1, none⟩ (.int .i64 (s.u - n))).setCell ⟨g, 2, none⟩ (.int .i64 (s.o + n))) g 175 (grC { s with u := s.u - n, o := s.o + n }) from (HI.out.put 1 _).put 2 _)
          clear hc hS hV hW h1 h2
          go_enter Tryd.func71, Tryd.ntmps71
          go_wp2
          go_quiet (first | (go_at_call 106; refine Calls.quiet_of_same ((thr_any _ _).mono fun e w' h => ⟨h.1, h.2.symm⟩)))
          go_wp2
          go_ret2
          exact ⟨rfl, .inr ⟨HK.out, g, rfl, HP.out⟩, (((Chg.refl _ w).setCell (p := ⟨g, 1, none⟩) (fun _ => ⟨g, rfl, rfl⟩) _).setCell (p := ⟨g, 2, none⟩) (fun _ => ⟨g, rfl, rfl⟩) _).drewN _⟩
        · have hV : rdV s n = s.o + n := by unfold rdV; rw [hc, if_pos rfl, if_neg h3]
          have hS : rdS s n = { s with l := s.l + (s.o + n), u := s.u - n, o := 0 } := by unfold rdS; rw [hc, if_pos rfl, if_neg h3]
          rw [hS] at HK ⊢
          rw [hc, hV]
          have h3' : thr s.W ≤ s.o + n := by omega
          clear hc hS hV hW h1 h2 h3
          go_enter Tryd.func71, Tryd.ntmps71
          go_wp2
          go_quiet (first | (go_at_call 106; refine Calls.quiet_of_same ((thr_any _ _).mono fun e w' h => ⟨h.1, h.2.symm⟩)))
          go_wp2
          go_ret2
          exact ⟨rfl, .inr ⟨HK.out, g, rfl, ((((HI.out.put 1 _).put 2 _).drewN _).put 0 _).put 2 _⟩, (((((Chg.refl _ w).setCell (p := ⟨g, 1, none⟩) (fun _ => ⟨g, rfl, rfl⟩) _).setCell (p := ⟨g, 2, none⟩) (fun _ => ⟨g, rfl, rfl⟩) _).drewN _).setCell (p := ⟨g, 0, none⟩) (fun _ => ⟨g, rfl, rfl⟩) _).setCell (p := ⟨g, 2, none⟩) (fun _ => ⟨g, rfl, rfl⟩) _⟩
end Go.Proofs.YthalmjjbamglgaaDoor
