/-
  The closure 'may' of place.Pick by contract (printed by gen_plclo.py).
  No condition of its own.
-/
import Derived.Test.YtgcodagjkbipbaaDoorPlace
namespace Go.Proofs.YtgcodagjkbipbaaDoor
open Go.RowKit

/-- The four captured variables at any four blocks. -/
structure Cap4 (w : World) (b0 b1 b2 b3 : Nat) (lv op rm : Bool) (m : Int) : Prop where
  m0 : Is w b0 3 #[.int .i64 m]
  l1 : Is w b1 4 #[.bool lv]
  o2 : Is w b2 4 #[.bool op]
  r3 : Is w b3 4 #[.bool rm]
structure Apart4 (b0 b1 b2 b3 : Nat) : Prop where
  n12 : b1 ≠ b2
  n13 : b1 ≠ b3
  n23 : b2 ≠ b3
  n01 : b0 ≠ b1
  n02 : b0 ≠ b2
  n03 : b0 ≠ b3
def in3 (b1 b2 b3 : Nat) (b : Nat) : Prop := b = b1 ∨ b = b2 ∨ b = b3
theorem cap_put4 {w : World} {b0 b1 b2 b3 : Nat} (ha : Apart4 b0 b1 b2 b3) {lv op rm : Bool} {m : Int} (h : Cap4 w b0 b1 b2 b3 lv op rm m) (o : Obj) (lv' op' rm' : Bool) :
    Cap4 ((((w.setCell ⟨b1, 0, none⟩ (.bool lv')).setCell ⟨b2, 0, none⟩ (.bool op')).setCell ⟨b3, 0, none⟩ (.bool rm')).alloc o) b0 b1 b2 b3 lv' op' rm' m ∧
    Chg (in3 b1 b2 b3) w ((((w.setCell ⟨b1, 0, none⟩ (.bool lv')).setCell ⟨b2, 0, none⟩ (.bool op')).setCell ⟨b3, 0, none⟩ (.bool rm')).alloc o) :=
  ⟨⟨(((h.m0.far (p := ⟨b1, 0, none⟩) ha.n01 _).far (p := ⟨b2, 0, none⟩) ha.n02 _).far (p := ⟨b3, 0, none⟩) ha.n03 _).alloc o,
    (((h.l1.put 0 (.bool lv')).far (p := ⟨b2, 0, none⟩) ha.n12 _).far (p := ⟨b3, 0, none⟩) ha.n13 _).alloc o,
    (((h.o2.far (p := ⟨b1, 0, none⟩) ha.n12.symm _).put 0 (.bool op')).far (p := ⟨b3, 0, none⟩) ha.n23 _).alloc o,
    (((h.r3.far (p := ⟨b1, 0, none⟩) ha.n13.symm _).far (p := ⟨b2, 0, none⟩) ha.n23.symm _).put 0 (.bool rm')).alloc o⟩,
   ((((Chg.refl _ w).setCell (p := ⟨b1, 0, none⟩) (fun _ => .inl rfl) _).setCell (p := ⟨b2, 0, none⟩) (fun _ => .inr (.inl rfl)) _).setCell (p := ⟨b3, 0, none⟩) (fun _ => .inr (.inr rfl)) _).alloc o⟩


set_option maxHeartbeats 2000000 in
theorem clo_000 (w : World) (b0 b1 b2 b3 : Nat) (ha : Apart4 b0 b1 b2 b3) (m : Int) (l : Ld) (h : Cap4 w b0 b1 b2 b3 false false false m) :
    Calls Tryd.prog 51 #[ldV l, .pointer (some ⟨b1, 0, none⟩), .pointer (some ⟨b2, 0, none⟩), .pointer (some ⟨b3, 0, none⟩), .pointer (some ⟨b0, 0, none⟩)] w fun e w' =>
      e = .returned (.bool (l.may m)) ∧ Cap4 w' b0 b1 b2 b3 (false || l.live) (false || (l.live && !l.dr)) (false || (l.live && !l.dr && decide (l.op < m))) m ∧ Chg (in3 b1 b2 b3) w w' := by
  obtain ⟨xl, xd, xo, xf⟩ := l
  rw [may_eq]
  unfold ldV
  simp only
  have n12 := ha.n12
  have n13 := ha.n13
  have n23 := ha.n23
  have n01 := ha.n01
  have n02 := ha.n02
  have n03 := ha.n03
  have q0 := h.m0.at_ 0 _ rfl
  have q1 := h.l1.at_ 0 _ rfl
  have q2 := h.o2.at_ 0 _ rfl
  have q3 := h.r3.at_ 0 _ rfl
  have f1 := h.l1.frozen 0
  have f2 := h.o2.frozen 0
  have f3 := h.r3.frozen 0
  have t0 := h.m0.lt
  have t1 := h.l1.lt
  have t2 := h.o2.lt
  have t3 := h.r3.lt
  have HP := fun o x y z => Lib.hid (cap_put4 ha h o x y z)
  clear h ha
  cases xl
  · skip
    have HQ := HP (.cells #[.bool false, .bool xd, .int .i64 xo, .int .i64 xf] 72) false false false
    clear HP
    go_enter Tryd.func51, Tryd.ntmps51
    go_wp2
    go_ret
    exact ⟨rfl, HQ.out.1, HQ.out.2⟩
  · cases xd
    · by_cases h1 : xo < m
      · have h1' : decide (xo < m) = true := by simp [h1]
        rw [h1']
        clear h1'
        have HQ := HP (.cells #[.bool true, .bool false, .int .i64 xo, .int .i64 xf] 72) true true true
        clear HP
        go_enter Tryd.func51, Tryd.ntmps51
        go_wp2
        go_ret
        exact ⟨rfl, HQ.out.1, HQ.out.2⟩
      · have h1' : decide (xo < m) = false := by simp; omega
        have h3 : m ≤ xo := by omega
        rw [h1']
        clear h1' h1
        have HQ := HP (.cells #[.bool true, .bool false, .int .i64 xo, .int .i64 xf] 72) true true false
        clear HP
        go_enter Tryd.func51, Tryd.ntmps51
        go_wp2
        go_ret
        exact ⟨rfl, HQ.out.1, HQ.out.2⟩
    · skip
      have HQ := HP (.cells #[.bool true, .bool true, .int .i64 xo, .int .i64 xf] 72) true false false
      clear HP
      go_enter Tryd.func51, Tryd.ntmps51
      go_wp2
      go_ret
      exact ⟨rfl, HQ.out.1, HQ.out.2⟩

set_option maxHeartbeats 2000000 in
theorem clo_001 (w : World) (b0 b1 b2 b3 : Nat) (ha : Apart4 b0 b1 b2 b3) (m : Int) (l : Ld) (h : Cap4 w b0 b1 b2 b3 false false true m) :
    Calls Tryd.prog 51 #[ldV l, .pointer (some ⟨b1, 0, none⟩), .pointer (some ⟨b2, 0, none⟩), .pointer (some ⟨b3, 0, none⟩), .pointer (some ⟨b0, 0, none⟩)] w fun e w' =>
      e = .returned (.bool (l.may m)) ∧ Cap4 w' b0 b1 b2 b3 (false || l.live) (false || (l.live && !l.dr)) (true || (l.live && !l.dr && decide (l.op < m))) m ∧ Chg (in3 b1 b2 b3) w w' := by
  obtain ⟨xl, xd, xo, xf⟩ := l
  rw [may_eq]
  unfold ldV
  simp only
  have n12 := ha.n12
  have n13 := ha.n13
  have n23 := ha.n23
  have n01 := ha.n01
  have n02 := ha.n02
  have n03 := ha.n03
  have q0 := h.m0.at_ 0 _ rfl
  have q1 := h.l1.at_ 0 _ rfl
  have q2 := h.o2.at_ 0 _ rfl
  have q3 := h.r3.at_ 0 _ rfl
  have f1 := h.l1.frozen 0
  have f2 := h.o2.frozen 0
  have f3 := h.r3.frozen 0
  have t0 := h.m0.lt
  have t1 := h.l1.lt
  have t2 := h.o2.lt
  have t3 := h.r3.lt
  have HP := fun o x y z => Lib.hid (cap_put4 ha h o x y z)
  clear h ha
  cases xl
  · skip
    have HQ := HP (.cells #[.bool false, .bool xd, .int .i64 xo, .int .i64 xf] 72) false false true
    clear HP
    go_enter Tryd.func51, Tryd.ntmps51
    go_wp2
    go_ret
    exact ⟨rfl, HQ.out.1, HQ.out.2⟩
  · cases xd
    · by_cases h1 : xo < m
      · have h1' : decide (xo < m) = true := by simp [h1]
        rw [h1']
        clear h1'
        have HQ := HP (.cells #[.bool true, .bool false, .int .i64 xo, .int .i64 xf] 72) true true true
        clear HP
        go_enter Tryd.func51, Tryd.ntmps51
        go_wp2
        go_ret
        exact ⟨rfl, HQ.out.1, HQ.out.2⟩
      · have h1' : decide (xo < m) = false := by simp; omega
        have h3 : m ≤ xo := by omega
        rw [h1']
        clear h1' h1
        have HQ := HP (.cells #[.bool true, .bool false, .int .i64 xo, .int .i64 xf] 72) true true true
        clear HP
        go_enter Tryd.func51, Tryd.ntmps51
        go_wp2
        go_ret
        exact ⟨rfl, HQ.out.1, HQ.out.2⟩
    · skip
      have HQ := HP (.cells #[.bool true, .bool true, .int .i64 xo, .int .i64 xf] 72) true false true
      clear HP
      go_enter Tryd.func51, Tryd.ntmps51
      go_wp2
      go_ret
      exact ⟨rfl, HQ.out.1, HQ.out.2⟩

set_option maxHeartbeats 2000000 in
theorem clo_010 (w : World) (b0 b1 b2 b3 : Nat) (ha : Apart4 b0 b1 b2 b3) (m : Int) (l : Ld) (h : Cap4 w b0 b1 b2 b3 false true false m) :
    Calls Tryd.prog 51 #[ldV l, .pointer (some ⟨b1, 0, none⟩), .pointer (some ⟨b2, 0, none⟩), .pointer (some ⟨b3, 0, none⟩), .pointer (some ⟨b0, 0, none⟩)] w fun e w' =>
      e = .returned (.bool (l.may m)) ∧ Cap4 w' b0 b1 b2 b3 (false || l.live) (true || (l.live && !l.dr)) (false || (l.live && !l.dr && decide (l.op < m))) m ∧ Chg (in3 b1 b2 b3) w w' := by
  obtain ⟨xl, xd, xo, xf⟩ := l
  rw [may_eq]
  unfold ldV
  simp only
  have n12 := ha.n12
  have n13 := ha.n13
  have n23 := ha.n23
  have n01 := ha.n01
  have n02 := ha.n02
  have n03 := ha.n03
  have q0 := h.m0.at_ 0 _ rfl
  have q1 := h.l1.at_ 0 _ rfl
  have q2 := h.o2.at_ 0 _ rfl
  have q3 := h.r3.at_ 0 _ rfl
  have f1 := h.l1.frozen 0
  have f2 := h.o2.frozen 0
  have f3 := h.r3.frozen 0
  have t0 := h.m0.lt
  have t1 := h.l1.lt
  have t2 := h.o2.lt
  have t3 := h.r3.lt
  have HP := fun o x y z => Lib.hid (cap_put4 ha h o x y z)
  clear h ha
  cases xl
  · skip
    have HQ := HP (.cells #[.bool false, .bool xd, .int .i64 xo, .int .i64 xf] 72) false true false
    clear HP
    go_enter Tryd.func51, Tryd.ntmps51
    go_wp2
    go_ret
    exact ⟨rfl, HQ.out.1, HQ.out.2⟩
  · cases xd
    · by_cases h1 : xo < m
      · have h1' : decide (xo < m) = true := by simp [h1]
        rw [h1']
        clear h1'
        have HQ := HP (.cells #[.bool true, .bool false, .int .i64 xo, .int .i64 xf] 72) true true true
        clear HP
        go_enter Tryd.func51, Tryd.ntmps51
        go_wp2
        go_ret
        exact ⟨rfl, HQ.out.1, HQ.out.2⟩
      · have h1' : decide (xo < m) = false := by simp; omega
        have h3 : m ≤ xo := by omega
        rw [h1']
        clear h1' h1
        have HQ := HP (.cells #[.bool true, .bool false, .int .i64 xo, .int .i64 xf] 72) true true false
        clear HP
        go_enter Tryd.func51, Tryd.ntmps51
        go_wp2
        go_ret
        exact ⟨rfl, HQ.out.1, HQ.out.2⟩
    · skip
      have HQ := HP (.cells #[.bool true, .bool true, .int .i64 xo, .int .i64 xf] 72) true true false
      clear HP
      go_enter Tryd.func51, Tryd.ntmps51
      go_wp2
      go_ret
      exact ⟨rfl, HQ.out.1, HQ.out.2⟩

set_option maxHeartbeats 2000000 in
theorem clo_011 (w : World) (b0 b1 b2 b3 : Nat) (ha : Apart4 b0 b1 b2 b3) (m : Int) (l : Ld) (h : Cap4 w b0 b1 b2 b3 false true true m) :
    Calls Tryd.prog 51 #[ldV l, .pointer (some ⟨b1, 0, none⟩), .pointer (some ⟨b2, 0, none⟩), .pointer (some ⟨b3, 0, none⟩), .pointer (some ⟨b0, 0, none⟩)] w fun e w' =>
      e = .returned (.bool (l.may m)) ∧ Cap4 w' b0 b1 b2 b3 (false || l.live) (true || (l.live && !l.dr)) (true || (l.live && !l.dr && decide (l.op < m))) m ∧ Chg (in3 b1 b2 b3) w w' := by
  obtain ⟨xl, xd, xo, xf⟩ := l
  rw [may_eq]
  unfold ldV
  simp only
  have n12 := ha.n12
  have n13 := ha.n13
  have n23 := ha.n23
  have n01 := ha.n01
  have n02 := ha.n02
  have n03 := ha.n03
  have q0 := h.m0.at_ 0 _ rfl
  have q1 := h.l1.at_ 0 _ rfl
  have q2 := h.o2.at_ 0 _ rfl
  have q3 := h.r3.at_ 0 _ rfl
  have f1 := h.l1.frozen 0
  have f2 := h.o2.frozen 0
  have f3 := h.r3.frozen 0
  have t0 := h.m0.lt
  have t1 := h.l1.lt
  have t2 := h.o2.lt
  have t3 := h.r3.lt
  have HP := fun o x y z => Lib.hid (cap_put4 ha h o x y z)
  clear h ha
  cases xl
  · skip
    have HQ := HP (.cells #[.bool false, .bool xd, .int .i64 xo, .int .i64 xf] 72) false true true
    clear HP
    go_enter Tryd.func51, Tryd.ntmps51
    go_wp2
    go_ret
    exact ⟨rfl, HQ.out.1, HQ.out.2⟩
  · cases xd
    · by_cases h1 : xo < m
      · have h1' : decide (xo < m) = true := by simp [h1]
        rw [h1']
        clear h1'
        have HQ := HP (.cells #[.bool true, .bool false, .int .i64 xo, .int .i64 xf] 72) true true true
        clear HP
        go_enter Tryd.func51, Tryd.ntmps51
        go_wp2
        go_ret
        exact ⟨rfl, HQ.out.1, HQ.out.2⟩
      · have h1' : decide (xo < m) = false := by simp; omega
        have h3 : m ≤ xo := by omega
        rw [h1']
        clear h1' h1
        have HQ := HP (.cells #[.bool true, .bool false, .int .i64 xo, .int .i64 xf] 72) true true true
        clear HP
        go_enter Tryd.func51, Tryd.ntmps51
        go_wp2
        go_ret
        exact ⟨rfl, HQ.out.1, HQ.out.2⟩
    · skip
      have HQ := HP (.cells #[.bool true, .bool true, .int .i64 xo, .int .i64 xf] 72) true true true
      clear HP
      go_enter Tryd.func51, Tryd.ntmps51
      go_wp2
      go_ret
      exact ⟨rfl, HQ.out.1, HQ.out.2⟩

set_option maxHeartbeats 2000000 in
theorem clo_100 (w : World) (b0 b1 b2 b3 : Nat) (ha : Apart4 b0 b1 b2 b3) (m : Int) (l : Ld) (h : Cap4 w b0 b1 b2 b3 true false false m) :
    Calls Tryd.prog 51 #[ldV l, .pointer (some ⟨b1, 0, none⟩), .pointer (some ⟨b2, 0, none⟩), .pointer (some ⟨b3, 0, none⟩), .pointer (some ⟨b0, 0, none⟩)] w fun e w' =>
      e = .returned (.bool (l.may m)) ∧ Cap4 w' b0 b1 b2 b3 (true || l.live) (false || (l.live && !l.dr)) (false || (l.live && !l.dr && decide (l.op < m))) m ∧ Chg (in3 b1 b2 b3) w w' := by
  obtain ⟨xl, xd, xo, xf⟩ := l
  rw [may_eq]
  unfold ldV
  simp only
  have n12 := ha.n12
  have n13 := ha.n13
  have n23 := ha.n23
  have n01 := ha.n01
  have n02 := ha.n02
  have n03 := ha.n03
  have q0 := h.m0.at_ 0 _ rfl
  have q1 := h.l1.at_ 0 _ rfl
  have q2 := h.o2.at_ 0 _ rfl
  have q3 := h.r3.at_ 0 _ rfl
  have f1 := h.l1.frozen 0
  have f2 := h.o2.frozen 0
  have f3 := h.r3.frozen 0
  have t0 := h.m0.lt
  have t1 := h.l1.lt
  have t2 := h.o2.lt
  have t3 := h.r3.lt
  have HP := fun o x y z => Lib.hid (cap_put4 ha h o x y z)
  clear h ha
  cases xl
  · skip
    have HQ := HP (.cells #[.bool false, .bool xd, .int .i64 xo, .int .i64 xf] 72) true false false
    clear HP
    go_enter Tryd.func51, Tryd.ntmps51
    go_wp2
    go_ret
    exact ⟨rfl, HQ.out.1, HQ.out.2⟩
  · cases xd
    · by_cases h1 : xo < m
      · have h1' : decide (xo < m) = true := by simp [h1]
        rw [h1']
        clear h1'
        have HQ := HP (.cells #[.bool true, .bool false, .int .i64 xo, .int .i64 xf] 72) true true true
        clear HP
        go_enter Tryd.func51, Tryd.ntmps51
        go_wp2
        go_ret
        exact ⟨rfl, HQ.out.1, HQ.out.2⟩
      · have h1' : decide (xo < m) = false := by simp; omega
        have h3 : m ≤ xo := by omega
        rw [h1']
        clear h1' h1
        have HQ := HP (.cells #[.bool true, .bool false, .int .i64 xo, .int .i64 xf] 72) true true false
        clear HP
        go_enter Tryd.func51, Tryd.ntmps51
        go_wp2
        go_ret
        exact ⟨rfl, HQ.out.1, HQ.out.2⟩
    · skip
      have HQ := HP (.cells #[.bool true, .bool true, .int .i64 xo, .int .i64 xf] 72) true false false
      clear HP
      go_enter Tryd.func51, Tryd.ntmps51
      go_wp2
      go_ret
      exact ⟨rfl, HQ.out.1, HQ.out.2⟩

set_option maxHeartbeats 2000000 in
theorem clo_101 (w : World) (b0 b1 b2 b3 : Nat) (ha : Apart4 b0 b1 b2 b3) (m : Int) (l : Ld) (h : Cap4 w b0 b1 b2 b3 true false true m) :
    Calls Tryd.prog 51 #[ldV l, .pointer (some ⟨b1, 0, none⟩), .pointer (some ⟨b2, 0, none⟩), .pointer (some ⟨b3, 0, none⟩), .pointer (some ⟨b0, 0, none⟩)] w fun e w' =>
      e = .returned (.bool (l.may m)) ∧ Cap4 w' b0 b1 b2 b3 (true || l.live) (false || (l.live && !l.dr)) (true || (l.live && !l.dr && decide (l.op < m))) m ∧ Chg (in3 b1 b2 b3) w w' := by
  obtain ⟨xl, xd, xo, xf⟩ := l
  rw [may_eq]
  unfold ldV
  simp only
  have n12 := ha.n12
  have n13 := ha.n13
  have n23 := ha.n23
  have n01 := ha.n01
  have n02 := ha.n02
  have n03 := ha.n03
  have q0 := h.m0.at_ 0 _ rfl
  have q1 := h.l1.at_ 0 _ rfl
  have q2 := h.o2.at_ 0 _ rfl
  have q3 := h.r3.at_ 0 _ rfl
  have f1 := h.l1.frozen 0
  have f2 := h.o2.frozen 0
  have f3 := h.r3.frozen 0
  have t0 := h.m0.lt
  have t1 := h.l1.lt
  have t2 := h.o2.lt
  have t3 := h.r3.lt
  have HP := fun o x y z => Lib.hid (cap_put4 ha h o x y z)
  clear h ha
  cases xl
  · skip
    have HQ := HP (.cells #[.bool false, .bool xd, .int .i64 xo, .int .i64 xf] 72) true false true
    clear HP
    go_enter Tryd.func51, Tryd.ntmps51
    go_wp2
    go_ret
    exact ⟨rfl, HQ.out.1, HQ.out.2⟩
  · cases xd
    · by_cases h1 : xo < m
      · have h1' : decide (xo < m) = true := by simp [h1]
        rw [h1']
        clear h1'
        have HQ := HP (.cells #[.bool true, .bool false, .int .i64 xo, .int .i64 xf] 72) true true true
        clear HP
        go_enter Tryd.func51, Tryd.ntmps51
        go_wp2
        go_ret
        exact ⟨rfl, HQ.out.1, HQ.out.2⟩
      · have h1' : decide (xo < m) = false := by simp; omega
        have h3 : m ≤ xo := by omega
        rw [h1']
        clear h1' h1
        have HQ := HP (.cells #[.bool true, .bool false, .int .i64 xo, .int .i64 xf] 72) true true true
        clear HP
        go_enter Tryd.func51, Tryd.ntmps51
        go_wp2
        go_ret
        exact ⟨rfl, HQ.out.1, HQ.out.2⟩
    · skip
      have HQ := HP (.cells #[.bool true, .bool true, .int .i64 xo, .int .i64 xf] 72) true false true
      clear HP
      go_enter Tryd.func51, Tryd.ntmps51
      go_wp2
      go_ret
      exact ⟨rfl, HQ.out.1, HQ.out.2⟩

set_option maxHeartbeats 2000000 in
theorem clo_110 (w : World) (b0 b1 b2 b3 : Nat) (ha : Apart4 b0 b1 b2 b3) (m : Int) (l : Ld) (h : Cap4 w b0 b1 b2 b3 true true false m) :
    Calls Tryd.prog 51 #[ldV l, .pointer (some ⟨b1, 0, none⟩), .pointer (some ⟨b2, 0, none⟩), .pointer (some ⟨b3, 0, none⟩), .pointer (some ⟨b0, 0, none⟩)] w fun e w' =>
      e = .returned (.bool (l.may m)) ∧ Cap4 w' b0 b1 b2 b3 (true || l.live) (true || (l.live && !l.dr)) (false || (l.live && !l.dr && decide (l.op < m))) m ∧ Chg (in3 b1 b2 b3) w w' := by
  obtain ⟨xl, xd, xo, xf⟩ := l
  rw [may_eq]
  unfold ldV
  simp only
  have n12 := ha.n12
  have n13 := ha.n13
  have n23 := ha.n23
  have n01 := ha.n01
  have n02 := ha.n02
  have n03 := ha.n03
  have q0 := h.m0.at_ 0 _ rfl
  have q1 := h.l1.at_ 0 _ rfl
  have q2 := h.o2.at_ 0 _ rfl
  have q3 := h.r3.at_ 0 _ rfl
  have f1 := h.l1.frozen 0
  have f2 := h.o2.frozen 0
  have f3 := h.r3.frozen 0
  have t0 := h.m0.lt
  have t1 := h.l1.lt
  have t2 := h.o2.lt
  have t3 := h.r3.lt
  have HP := fun o x y z => Lib.hid (cap_put4 ha h o x y z)
  clear h ha
  cases xl
  · skip
    have HQ := HP (.cells #[.bool false, .bool xd, .int .i64 xo, .int .i64 xf] 72) true true false
    clear HP
    go_enter Tryd.func51, Tryd.ntmps51
    go_wp2
    go_ret
    exact ⟨rfl, HQ.out.1, HQ.out.2⟩
  · cases xd
    · by_cases h1 : xo < m
      · have h1' : decide (xo < m) = true := by simp [h1]
        rw [h1']
        clear h1'
        have HQ := HP (.cells #[.bool true, .bool false, .int .i64 xo, .int .i64 xf] 72) true true true
        clear HP
        go_enter Tryd.func51, Tryd.ntmps51
        go_wp2
        go_ret
        exact ⟨rfl, HQ.out.1, HQ.out.2⟩
      · have h1' : decide (xo < m) = false := by simp; omega
        have h3 : m ≤ xo := by omega
        rw [h1']
        clear h1' h1
        have HQ := HP (.cells #[.bool true, .bool false, .int .i64 xo, .int .i64 xf] 72) true true false
        clear HP
        go_enter Tryd.func51, Tryd.ntmps51
        go_wp2
        go_ret
        exact ⟨rfl, HQ.out.1, HQ.out.2⟩
    · skip
      have HQ := HP (.cells #[.bool true, .bool true, .int .i64 xo, .int .i64 xf] 72) true true false
      clear HP
      go_enter Tryd.func51, Tryd.ntmps51
      go_wp2
      go_ret
      exact ⟨rfl, HQ.out.1, HQ.out.2⟩

set_option maxHeartbeats 2000000 in
theorem clo_111 (w : World) (b0 b1 b2 b3 : Nat) (ha : Apart4 b0 b1 b2 b3) (m : Int) (l : Ld) (h : Cap4 w b0 b1 b2 b3 true true true m) :
    Calls Tryd.prog 51 #[ldV l, .pointer (some ⟨b1, 0, none⟩), .pointer (some ⟨b2, 0, none⟩), .pointer (some ⟨b3, 0, none⟩), .pointer (some ⟨b0, 0, none⟩)] w fun e w' =>
      e = .returned (.bool (l.may m)) ∧ Cap4 w' b0 b1 b2 b3 (true || l.live) (true || (l.live && !l.dr)) (true || (l.live && !l.dr && decide (l.op < m))) m ∧ Chg (in3 b1 b2 b3) w w' := by
  obtain ⟨xl, xd, xo, xf⟩ := l
  rw [may_eq]
  unfold ldV
  simp only
  have n12 := ha.n12
  have n13 := ha.n13
  have n23 := ha.n23
  have n01 := ha.n01
  have n02 := ha.n02
  have n03 := ha.n03
  have q0 := h.m0.at_ 0 _ rfl
  have q1 := h.l1.at_ 0 _ rfl
  have q2 := h.o2.at_ 0 _ rfl
  have q3 := h.r3.at_ 0 _ rfl
  have f1 := h.l1.frozen 0
  have f2 := h.o2.frozen 0
  have f3 := h.r3.frozen 0
  have t0 := h.m0.lt
  have t1 := h.l1.lt
  have t2 := h.o2.lt
  have t3 := h.r3.lt
  have HP := fun o x y z => Lib.hid (cap_put4 ha h o x y z)
  clear h ha
  cases xl
  · skip
    have HQ := HP (.cells #[.bool false, .bool xd, .int .i64 xo, .int .i64 xf] 72) true true true
    clear HP
    go_enter Tryd.func51, Tryd.ntmps51
    go_wp2
    go_ret
    exact ⟨rfl, HQ.out.1, HQ.out.2⟩
  · cases xd
    · by_cases h1 : xo < m
      · have h1' : decide (xo < m) = true := by simp [h1]
        rw [h1']
        clear h1'
        have HQ := HP (.cells #[.bool true, .bool false, .int .i64 xo, .int .i64 xf] 72) true true true
        clear HP
        go_enter Tryd.func51, Tryd.ntmps51
        go_wp2
        go_ret
        exact ⟨rfl, HQ.out.1, HQ.out.2⟩
      · have h1' : decide (xo < m) = false := by simp; omega
        have h3 : m ≤ xo := by omega
        rw [h1']
        clear h1' h1
        have HQ := HP (.cells #[.bool true, .bool false, .int .i64 xo, .int .i64 xf] 72) true true true
        clear HP
        go_enter Tryd.func51, Tryd.ntmps51
        go_wp2
        go_ret
        exact ⟨rfl, HQ.out.1, HQ.out.2⟩
    · skip
      have HQ := HP (.cells #[.bool true, .bool true, .int .i64 xo, .int .i64 xf] 72) true true true
      clear HP
      go_enter Tryd.func51, Tryd.ntmps51
      go_wp2
      go_ret
      exact ⟨rfl, HQ.out.1, HQ.out.2⟩

theorem clo_any (w : World) (b0 b1 b2 b3 : Nat) (ha : Apart4 b0 b1 b2 b3) (lv op rm : Bool) (m : Int) (l : Ld) (h : Cap4 w b0 b1 b2 b3 lv op rm m) :
    Calls Tryd.prog 51 #[ldV l, .pointer (some ⟨b1, 0, none⟩), .pointer (some ⟨b2, 0, none⟩), .pointer (some ⟨b3, 0, none⟩), .pointer (some ⟨b0, 0, none⟩)] w fun e w' =>
      e = .returned (.bool (l.may m)) ∧ Cap4 w' b0 b1 b2 b3 (lv || l.live) (op || (l.live && !l.dr)) (rm || (l.live && !l.dr && decide (l.op < m))) m ∧ Chg (in3 b1 b2 b3) w w' := by
  cases lv
  · cases op
    · cases rm
      · exact clo_000 w b0 b1 b2 b3 ha m l h
      · exact clo_001 w b0 b1 b2 b3 ha m l h
    · cases rm
      · exact clo_010 w b0 b1 b2 b3 ha m l h
      · exact clo_011 w b0 b1 b2 b3 ha m l h
  · cases op
    · cases rm
      · exact clo_100 w b0 b1 b2 b3 ha m l h
      · exact clo_101 w b0 b1 b2 b3 ha m l h
    · cases rm
      · exact clo_110 w b0 b1 b2 b3 ha m l h
      · exact clo_111 w b0 b1 b2 b3 ha m l h
end Go.Proofs.YtgcodagjkbipbaaDoor
