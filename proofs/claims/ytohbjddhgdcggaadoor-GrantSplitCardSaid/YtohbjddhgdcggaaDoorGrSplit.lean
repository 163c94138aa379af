/-
  culvertlaw08.all by contract; the walk of GrantSplit.
  No condition of its own: the fact 'Sen' on the world; the arguments read as lists.
-/
import Derived.Test.YtohbjddhgdcggaaDoorGrPure
namespace Go.Proofs.YtohbjddhgdcggaaDoor
open Go.RowKit

/-- What holds behind some Reads: x granted in all, N bytes to begin with. -/
structure Spl (N W x : Int) (s : Gr) : Prop where
  ok : s.Ok
  W : s.W = W
  sum : x + s.o + s.u = N
  x0 : 0 ≤ x
theorem Spl.rd {N W x : Int} {s : Gr} (h : Spl N W x s) {n : Int} (h0 : 0 ≤ n) (h1 : n ≤ s.u) : Spl N W (x + rdV s n) (rdS s n) := by
  obtain ⟨_, r1, r2, r3, _, r5, _⟩ := rd_in h.ok h0 h1
  have := h.sum
  have := h.x0
  exact ⟨rdS_ok h.ok n, by rw [r3, h.W], by omega, by omega⟩

set_option maxHeartbeats 4000000 in
theorem gall_any {B : Nat} {a : Nat → Addr} (w : World) (hs : Sen B a w) (hB : B ≤ w.heap.size) (g : Nat) (hgB : B ≤ g) (s : Gr) (N W : Int) (hN : N ≤ 2147483647) (h : Rc w (some ⟨g, 0, none⟩) s) (hsp : Spl N W 0 s) (A : Option Addr) (n c : Nat) (zs : List Int) (hz : zs.length = n) (hm : n ≤ 17592186044416)
    (hr : Rd w A n fun i => .int .i64 (zs.getD i 0)) (hlow : ∀ ad, 0 < n → A = some ad → ad.block < B) :
    Calls Tryd.prog 22 #[.pointer (some ⟨g, 0, none⟩), .int .i64 s.u, .slice A n c] w fun e w' =>
      ∃ x s', e = .returned (.tuple #[.int .i64 x, .bool true]) ∧ Rc w' (some ⟨g, 0, none⟩) s' ∧ Spl N W x s' ∧ s'.u = 0 ∧ Chg (at_ (some ⟨g, 0, none⟩)) w w' := by
  have HS := Lib.hid hs
  have HR := Lib.hid hr
  have HL := Lib.hid hlow
  have HZ := Lib.hid hz
  have H0 := Lib.hid h
  have HP := Lib.hid hsp
  clear hs hr hlow hz h hsp
  have HBl : Hid (∀ u : World, Chg (at_ (some ⟨g, 0, none⟩)) w u → Below B w u) := fun u hu => hu.below (fun b _ hb => by
    obtain ⟨g', e, rfl⟩ := hb
    injection e with e
    injection e with e _
    omega) hB
  go_enter Tryd.func22, Tryd.ntmps22
  go_wp2_with fail
  go_loopw [1, 8, 17] (fun xn xs xi wr => ∃ (k : Nat) (s1 : Gr) (x : Int), k ≤ n ∧ xi = .int .i64 k ∧ xn = .int .i64 s1.u ∧ xs = .int .i64 x ∧ Rc wr (some ⟨g, 0, none⟩) s1 ∧ Spl N W x s1 ∧ Chg (at_ (some ⟨g, 0, none⟩)) w wr) (fun _ _ xi _ => n - (intOf xi).toNat)
  case atStart => exact ⟨0, s, 0, by omega, rfl, rfl, rfl, H0.out, HP.out, Chg.refl _ _⟩
  case round =>
    clear H0 HP
    obtain ⟨k, s1, x, hk, rfl, rfl, rfl, hrc, hsp, hg⟩ := hrel
    have HRc := Lib.hid hrc
    have HSp := Lib.hid hsp
    have HG := Lib.hid hg
    have u0 := hsp.ok.u0
    have o0 := hsp.ok.o0
    have sm := hsp.sum
    have x0 := hsp.x0
    clear hrc hsp hg
    by_cases hkn : k < n
    · obtain ⟨ad, e, hc⟩ := HR.out.below (HBl.out wr HG.out) (fun ad hn e => HL.out ad hn e) (by omega)
      subst e
      have hck : wr.cell? (ad.add k) = some (.int .i64 (zs.getD k 0)) := hc k hkn
      clear hc
      generalize zs.getD k 0 = z at hck
      obtain ⟨v, hv0, hv1, hvz⟩ : ∃ v : Int, 0 ≤ v ∧ v ≤ s1.u ∧ ((z < 0 ∧ v = 0) ∨ (0 ≤ z ∧ z ≤ s1.u ∧ v = z) ∨ (0 ≤ z ∧ s1.u < z ∧ v = s1.u)) := by
        by_cases h1 : z < 0
        · exact ⟨0, by omega, by omega, .inl ⟨h1, rfl⟩⟩
        · by_cases h2 : z ≤ s1.u
          · exact ⟨z, by omega, by omega, .inr (.inl ⟨by omega, h2, rfl⟩)⟩
          · exact ⟨s1.u, by omega, by omega, .inr (.inr ⟨by omega, by omega, rfl⟩)⟩
      have HSp2 := Lib.hid (HSp.out.rd hv0 hv1)
      obtain ⟨rc, r1, r2, r3, r4, r5, r6⟩ := rd_in HSp.out.ok hv0 hv1
      have HRd := Lib.hid (show errv a (rdC s1 v) = .nilIface by rw [rc]; rfl)
      have HU := Lib.hid r2
      have hw1 : IntKind.i64.wrap (x + rdV s1 v) = x + rdV s1 v := IntWalk.i64_in _ (by omega)
      have hw2 : IntKind.i64.wrap (rdV s1 v) = rdV s1 v := IntWalk.i64_in _ (by omega)
      have hw3 : IntKind.i64.wrap (s1.u - v) = s1.u - v := IntWalk.i64_in _ (by omega)
      clear rc r1 r2 r3 r4
      have key : Hid (∀ u : World, u = wr → Calls Tryd.prog 27 #[.pointer (some ⟨g, 0, none⟩), .int .i64 v] u fun e w' => e = .returned (.tuple #[.int .u32 (rdV s1 v), .nilIface]) ∧ Rc w' (some ⟨g, 0, none⟩) (rdS s1 v) ∧ Chg (at_ (some ⟨g, 0, none⟩)) u w') := by
        rintro u rfl
        exact read_c u (HS.out.below (HBl.out u HG.out)) _ s1 HRc.out v (by omega) (by omega) _ _ _ rfl HRd.out rfl
      rcases hvz with ⟨h1, rfl⟩ | ⟨h1, h2, rfl⟩ | ⟨h1, h2, rfl⟩
      all_goals
        go_wp2_with fail
        refine (key.out wr rfl).mono ?_
        rintro e w2 ⟨rfl, o2, k2⟩
        go_wp2_with fail
        go_roundw
        case rel => exact ⟨k + 1, _, _, by omega, by go_num, congrArg (Value.int IntKind.i64) (by have hu := HU.out; omega), rfl, o2, HSp2.out, HG.out.trans k2⟩
        case measure => simp [intOf]; omega
    · obtain rfl : n = k := by omega
      have HSp2 := Lib.hid (HSp.out.rd u0 (Int.le_refl s1.u))
      obtain ⟨rc, r1, r2, r3, r4, r5, r6⟩ := rd_in HSp.out.ok u0 (Int.le_refl s1.u)
      have hw1 : IntKind.i64.wrap (x + rdV s1 s1.u) = x + rdV s1 s1.u := IntWalk.i64_in _ (by omega)
      have hw2 : IntKind.i64.wrap (rdV s1 s1.u) = rdV s1 s1.u := IntWalk.i64_in _ (by omega)
      have HU : Hid ((rdS s1 s1.u).u = 0) := by show _ = _; omega
      have HRd := Lib.hid (show errv a (rdC s1 s1.u) = .nilIface by rw [rc]; rfl)
      clear rc r1 r2 r3 r4
      go_wp2_with fail
      refine (read_c wr (HS.out.below (HBl.out wr HG.out)) _ s1 HRc.out s1.u (by omega) (by omega) _ _ _ rfl HRd.out rfl).mono ?_
      rintro e w2 ⟨rfl, o2, k2⟩
      go_wp2_with fail
      go_quiet (fail)
      go_wp2
      go_ret2
      exact ⟨_, _, rfl, o2.dr ⟨_, rfl⟩, HSp2.out, HU.out, (HG.out.trans k2).drewN _⟩
end Go.Proofs.YtohbjddhgdcggaaDoor
