/-
  Readers, nil ones among them: Feed, Held, Done of the program's and of the document's reader by one contract each.
  No condition of its own: the fact 'Sen' on the world.
-/
import Derived.Test.YthalmjjbamglgaaDoorMsgFix
namespace Go.Proofs.YthalmjjbamglgaaDoor
open Go.RowKit

def fC (most : Int) (F xs : List Int) : Nat := if most < 0 then 1 else fdC most (stS most F) xs
def fM (most : Int) (F xs : List Int) : List (List Int) := if most < 0 then [] else fdM most (stS most F) xs
def dC (most : Int) (F : List Int) : Nat := if most < 0 then 1 else dnC (stS most F)
def hC (most : Int) (F : List Int) : Nat := if most < 0 then 0 else hldS (stS most F)
def nF (most : Int) (F xs : List Int) : List Int := if most < 0 then F else if (stS most F).isNone then F else F ++ xs
theorem fC_le (most : Int) (F xs : List Int) : fC most F xs ≤ 42 := by
  unfold fC
  split
  · omega
  · exact fdC_le _ _ _
theorem dC_le (most : Int) (F : List Int) : dC most F ≤ 42 := by
  unfold dC
  split
  · omega
  · exact dnC_le _
theorem nF_byt {most : Int} {F xs : List Int} (h : Byt F) (h' : Byt xs) : Byt (nF most F xs) := by
  unfold nF
  split
  · exact h
  · split
    · exact h
    · exact h.append h'
theorem nF_len (most : Int) (F xs : List Int) : (nF most F xs).length ≤ F.length + xs.length := by
  unfold nF
  split
  · omega
  · split
    · omega
    · rw [List.length_append]; omega
theorem say_cnt {most : Int} : ∀ a, Byt a → (sayB most a).1.length ≤ a.length := by
  refine say_ind (most := most) ?_ ?_ ?_ ?_
  · intro b _ h; rw [say_no h]; simp
  · intro b _ h; rw [say_few h]; simp
  · intro b k n _ h hl; rw [say_wait h hl]; simp
  · intro b k n hb h hl hk ih
    rw [say_one hb h hl]
    rw [List.length_drop] at ih
    simp only [List.length_cons]
    omega
theorem st_sub {most : Int} {F H : List Int} (hF : Byt F) (h : stS most F = some H) : H.length ≤ F.length ∧ Byt H := by
  obtain ⟨r, e, _, hr⟩ := say_back (most := most) F hF
  have hr' : stS most F = some r := by
    rcases hr with hr | ⟨hr, _⟩
    · exact hr
    · exact absurd (show (sayB most F).2 = some H from h) (by rw [hr]; simp)
  rw [h] at hr'
  obtain rfl := Option.some.inj hr'
  refine ⟨?_, (say_idem F hF H h).2⟩
  have := congrArg List.length e
  rw [List.length_append] at this
  omega
theorem fM_len {most : Int} {F xs : List Int} (hF : Byt F) (hx : Byt xs) : (fM most F xs).length ≤ F.length + xs.length := by
  unfold fM
  split
  · simp
  · cases h : stS most F with
    | none => simp [fdM]
    | some H =>
      have h1 := st_sub hF h
      have := say_cnt (most := most) (H ++ xs) (h1.2.append hx)
      rw [List.length_append] at this
      simp only [fdM, Option.elim]
      omega
theorem fd_next {most : Int} {F xs : List Int} (hF : Byt F) (hx : Byt xs) (hm : 0 ≤ most) : fdS most (stS most F) xs = stS most (nF most F xs) := by
  unfold nF
  rw [if_neg (by omega)]
  cases h : stS most F with
  | none => simp only [Option.isNone_none, if_true]; rw [h]; rfl
  | some H => simp only [Option.isNone_some, Bool.false_eq_true, if_false]; exact (fd_live hF hx h).1

/-- What a Feed may write. -/
def fW (p : Option Addr) (hv : Value) : Nat → Prop := fun k => (∃ ad, p = some ad ∧ ad.block = k) ∨ obk hv = some k
/-- The reader behind a pointer, fed F in all; most is -1 of a nil one. -/
def Pr (w : World) (base : Nat) (p : Option Addr) (most : Int) (F : List Int) (hv : Value) : Prop :=
  (most = -1 ∧ p = none ∧ hv = .slice none 0 0) ∨ (0 ≤ most ∧ most ≤ 1048576 ∧ ∃ g, p = some ⟨g, 0, none⟩ ∧ Rdr w base g most (stS most F) hv ∧ base ≤ g)
theorem Pr.chg {S : Nat → Prop} {w w' : World} {base : Nat} {p : Option Addr} {most : Int} {F : List Int} {hv : Value} (h : Pr w base p most F hv) (hc : Chg S w w') (hs : ∀ k, fW p hv k → ¬ S k) : Pr w' base p most F hv := by
  rcases h with h | ⟨h0, h1, g, rfl, h2, h3⟩
  · exact .inl h
  · exact .inr ⟨h0, h1, g, rfl, h2.chg hc (hs g (.inl ⟨_, rfl, rfl⟩)) fun k hk => hs k (.inr hk), h3⟩
theorem Pr.keep {w w' : World} {base : Nat} {p : Option Addr} {most : Int} {F : List Int} {hv : Value} (h : Pr w base p most F hv) (hc : Chg none_ w w') : Pr w' base p most F hv := h.chg hc fun _ _ f => f
theorem Pr.own {w : World} {base : Nat} {p : Option Addr} {most : Int} {F : List Int} {hv : Value} (h : Pr w base p most F hv) : ∀ k, fW p hv k → base ≤ k ∧ k < w.heap.size := by
  intro k hk
  rcases h with ⟨_, rfl, rfl⟩ | ⟨h0, h1, g, rfl, h2, h3⟩
  · rcases hk with ⟨_, h, _⟩ | h
    · cases h
    · simp [obk] at h
  · rcases hk with ⟨_, h, rfl⟩ | h
    · cases h
      exact ⟨h3, h2.is.lt⟩
    · exact h2.ob.block k h
theorem Pr.byt {w : World} {base : Nat} {p : Option Addr} {most : Int} {F : List Int} {hv : Value} (h : Pr w base p most F hv) : most = -1 ∨ 0 ≤ most ∧ most ≤ 1048576 := by
  rcases h with ⟨h, _, _⟩ | ⟨h0, h1, _⟩
  · exact .inl h
  · exact .inr ⟨h0, h1⟩

/-- What a Feed leaves. -/
def PfEnd (a : Nat → Addr) (w : World) (base : Nat) (p : Option Addr) (most : Int) (F xs : List Int) (hv : Value) (e : Ending) (w' : World) : Prop :=
  ∃ out us hv', e = .returned (.tuple #[out, errv a (fC most F xs)]) ∧ Pr w' base p most (nF most F xs) hv' ∧ (∀ k, fW p hv' k → fW p hv k ∨ w.heap.size ≤ k) ∧
    Ob w' w.heap.size 23 out us.length us ∧ Mem w' w.heap.size us (fM most F xs) ∧ (∀ v ∈ us, ∀ k, obk v = some k → obk out ≠ some k ∧ ¬ fW p hv' k) ∧ (∀ k, obk out = some k → ¬ fW p hv' k) ∧ Chg (fW p hv) w w'

section
variable {B : Nat} {a : Nat → Addr}
theorem pfeed_any (w : World) (hs : Sen B a w) {base : Nat} (hbase : base ≤ w.heap.size) (hBb : B ≤ base) {p : Option Addr} {most : Int} {F : List Int} {hv : Value} (h : Pr w base p most F hv) (hF : Byt F) (v : Value) (xs : List Int) (hb : Bs w v xs) (hlen : F.length + xs.length ≤ 1099511627776) :
    Calls Tryd.prog 35 #[.pointer p, v] w fun e w' => PfEnd a w base p most F xs hv e w' := by
  have h00 := h
  rcases h with ⟨rfl, rfl, rfl⟩ | ⟨h0, h1, g, rfl, h2, h3⟩
  · refine (feed_nil w hs v).mono fun e w' ⟨he, hc⟩ => ⟨.slice none 0 0, [], .slice none 0 0, he, .inl ⟨rfl, rfl, rfl⟩, fun k hk => .inl hk, ob_nil _ _ _ _, Mem.nil _ _, (fun v hv => by simp at hv), (fun k hk => by simp [obk] at hk), hc.more fun _ _ f => False.elim f⟩
  · have e1 : fC most F xs = fdC most (stS most F) xs := if_neg (by omega)
    have e2 : fM most F xs = fdM most (stS most F) xs := if_neg (by omega)
    have e3 := fd_next hF hb.byt h0 (most := most)
    have hFl : ∀ H, stS most F = some H → H.length ≤ F.length := fun H hH => by
      obtain ⟨r, e, _, hr⟩ := say_back (most := most) F hF
      have hr' : stS most F = some r := by
        rcases hr with hr | ⟨hr, _⟩
        · exact hr
        · exact absurd (show (sayB most F).2 = some H from hH) (by rw [hr]; simp)
      rw [hH] at hr'
      obtain rfl := Option.some.inj hr'
      have := congrArg List.length e
      rw [List.length_append] at this
      omega
    unfold PfEnd
    rw [e1, e2]
    cases hst : stS most F with
    | none =>
      rw [hst] at h2 e3
      have hv0 := h2.no rfl
      subst hv0
      refine (feed_dead w hs h2 v).mono fun e w' ⟨he, hc⟩ => ⟨.slice none 0 0, [], .slice none 0 0, he, .inr ⟨h0, h1, g, rfl, ?_, h3⟩, fun k hk => .inl hk, ob_nil _ _ _ _, Mem.nil _ _, (fun v hv => by simp at hv), (fun k hk => by simp [obk] at hk), hc.more fun _ _ f => False.elim f⟩
      rw [← e3]
      exact h2.chg hc (fun f => f) fun _ _ f => f
    | some H =>
      rw [hst] at h2 e3
      have := hFl H hst
      refine (feed_live w hs (Nat.le_trans hBb hbase) h2 hbase hBb (Nat.le_trans hBb h3) h2.is.lt h0 h1 v xs hb (by omega)).mono fun e w' h => ?_
      obtain ⟨out, vs, hv', he, hR, hk, ho, hm, hoff, hx, hc⟩ := h
      have hfw : ∀ k, fW (some ⟨g, 0, none⟩) hv' k → k = g ∨ obk hv' = some k := fun k hk => by
        rcases hk with ⟨_, h, rfl⟩ | h
        · cases h; exact .inl rfl
        · exact .inr h
      refine ⟨out, vs, hv', he, .inr ⟨h0, h1, g, rfl, by rw [← e3]; exact hR, h3⟩, fun k hkk => ?_, ho, hm, fun v hv k hkk => ⟨(hoff v hv k hkk).1, fun hw => ?_⟩, fun k hkk hw => ?_, hc.more fun k _ hk => ?_⟩
      · rcases hkk with h | h
        · exact .inl (.inl h)
        · rcases hk with e | e | ⟨q, e, hq⟩
          · rw [e] at h; exact .inl (.inr h)
          · rw [e] at h; cases h
          · rw [e] at h; injection h with h; exact .inr (by omega)
      · rcases hfw k hw with rfl | h
        · have := (hm.block v hv _ hkk).1; have := h2.is.lt; omega
        · exact (hoff v hv k hkk).2 h
      · rcases hfw k hw with rfl | h
        · have := (ho.block _ hkk).1; have := h2.is.lt; omega
        · exact hx k hkk h
      · rcases hk with rfl | h
        · exact .inl ⟨_, rfl, rfl⟩
        · exact .inr h
theorem pheld_any (w : World) {base : Nat} {p : Option Addr} {most : Int} {F : List Int} {hv : Value} (h : Pr w base p most F hv) :
    Calls Tryd.prog 37 #[.pointer p] w fun e w' => e = .returned (.int .i64 (hC most F : Int)) ∧ w = w' := by
  rcases h with ⟨rfl, rfl, rfl⟩ | ⟨h0, h1, g, rfl, h2, h3⟩
  · exact mheld_nil w
  · rw [show hC most F = hldS (stS most F) from if_neg (by omega)]
    exact mheld_any w h2
theorem pdone_any (w : World) (hs : Sen B a w) {base : Nat} {p : Option Addr} {most : Int} {F : List Int} {hv : Value} (h : Pr w base p most F hv) :
    Calls Tryd.prog 39 #[.pointer p] w fun e w' => e = .returned (errv a (dC most F)) ∧ w = w' := by
  rcases h with ⟨rfl, rfl, rfl⟩ | ⟨h0, h1, g, rfl, h2, h3⟩
  · exact mdone_nil w hs
  · rw [show dC most F = dnC (stS most F) from if_neg (by omega)]
    exact mdone_any w hs h2
theorem pnew_any (w : World) (hs : Sen B a w) (most : Int) :
    Calls Tryd.prog 32 #[.int .i64 most] w fun e w' => ∃ p, e = .returned (.tuple #[.pointer p, errv a (if most < 0 ∨ 1048576 < most then 2 else 0)]) ∧ (p = none ↔ most < 0 ∨ 1048576 < most) ∧
      Pr w' w.heap.size p (if most < 0 ∨ 1048576 < most then -1 else most) [] (.slice none 0 0) ∧ Chg none_ w w' := by
  by_cases h : most < 0 ∨ 1048576 < most
  · rw [if_pos h, if_pos h]
    exact (mnew_no w hs most h).mono fun e w' ⟨he, hc⟩ => ⟨none, he, ⟨fun _ => h, fun _ => rfl⟩, .inl ⟨rfl, rfl, rfl⟩, hc⟩
  · rw [if_neg h, if_neg h]
    refine (mnew_ok w most (by omega) (by omega)).mono fun e w' ⟨g, he, hg, hr, hc⟩ => ⟨some ⟨g, 0, none⟩, he, ⟨fun h' => (nomatch h'), fun h' => absurd h' h⟩, .inr ⟨by omega, by omega, g, rfl, ?_, hg⟩, hc⟩
    rw [stS_nil]
    exact hr
end

/-! ### The document's -/
/-- What its Feed leaves. -/
def QfEnd (w : World) (most : Int) (F xs : List Int) (fv : Value) (e : Ending) (w' : World) : Prop :=
  ∃ fv2 mv us, e = .returned (.tuple #[.agg #[.int .i64 most, fv2], mv, .int .i64 (fC most F xs : Int)]) ∧ Bs w' fv2 (nF most F xs) ∧ (∀ k, rdk fv2 = some k → rdk fv = some k ∨ w.heap.size ≤ k) ∧ Lst w' w.heap.size mv us (fM most F xs) ∧ Chg none_ w w'
theorem qfeed_nil (w : World) (most : Int) (hm : most < 0) (A : Option Addr) (n c : Nat) (v : Value) :
    Calls Tryd.prog 34 #[.agg #[.int .i64 most, .slice A n c], v] w fun e w' => e = .returned (.tuple #[.agg #[.int .i64 most, .slice A n c], .slice none 0 0, .int .i64 1]) ∧ Chg none_ w w' := by
  go_enter Tryd.func34, Tryd.ntmps34
  go_wp2
  go_returns
  exact ⟨rfl, ((Chg.refl none_ w).alloc _).alloc _⟩
theorem qfeed_any (w : World) (most : Int) (hm : most = -1 ∨ 0 ≤ most ∧ most ≤ 1048576) (F xs : List Int) (fv v : Value) (hb : Bs w fv F) (hx : Bs w v xs) (hlen : F.length + xs.length ≤ 1099511627776) :
    Calls Tryd.prog 34 #[.agg #[.int .i64 most, fv], v] w fun e w' => QfEnd w most F xs fv e w' := by
  rcases hm with rfl | ⟨h0, h1⟩
  · have hb' := hb
    obtain ⟨A, n, c, rfl, _, _, _, _⟩ := hb
    exact (qfeed_nil w (-1) (by decide) A n c v).mono fun e w' ⟨he, hc⟩ => ⟨.slice A n c, .slice none 0 0, [], he, hb'.chg hc (fun _ _ f => f), fun k hk => .inl hk, Lst.nil _ _, hc⟩
  · refine (rfeed_any w most h0 h1 F xs fv v hb hx hlen).mono fun e w' h => ?_
    unfold RfEnd at h
    unfold QfEnd
    rw [show fC most F xs = fdC most (stS most F) xs from if_neg (by omega), show fM most F xs = fdM most (stS most F) xs from if_neg (by omega), show nF most F xs = if (stS most F).isNone then F else F ++ xs from if_neg (by omega)]
    exact h
theorem qheld_any (w : World) (most : Int) (hm : most = -1 ∨ 0 ≤ most ∧ most ≤ 1048576) (F : List Int) (fv : Value) (hb : Bs w fv F) (hlen : F.length ≤ 1099511627776) :
    Calls Tryd.prog 38 #[.agg #[.int .i64 most, fv]] w fun e w' => e = .returned (.int .i64 (hC most F : Int)) ∧ Chg none_ w w' := by
  rcases hm with rfl | ⟨h0, h1⟩
  · obtain ⟨A, n, c, rfl, _, _, _, _⟩ := hb
    show Calls _ _ _ w fun e w' => e = .returned (.int .i64 0) ∧ Chg none_ w w'
    clear hlen
    go_enter Tryd.func38, Tryd.ntmps38
    go_wp2
    go_ret
    exact ⟨rfl, (Chg.refl none_ w).alloc _⟩
  · rw [show hC most F = hldS (stS most F) from if_neg (by omega)]
    exact rheld_any w most h0 h1 F fv hb hlen
theorem qdone_any (w : World) (most : Int) (hm : most = -1 ∨ 0 ≤ most ∧ most ≤ 1048576) (F : List Int) (fv : Value) (hb : Bs w fv F) (hlen : F.length ≤ 1099511627776) :
    Calls Tryd.prog 40 #[.agg #[.int .i64 most, fv]] w fun e w' => e = .returned (.int .i64 (dC most F : Int)) ∧ Chg none_ w w' := by
  rcases hm with rfl | ⟨h0, h1⟩
  · obtain ⟨A, n, c, rfl, _, _, _, _⟩ := hb
    show Calls _ _ _ w fun e w' => e = .returned (.int .i64 1) ∧ Chg none_ w w'
    clear hlen
    go_enter Tryd.func40, Tryd.ntmps40
    go_wp2
    go_ret
    exact ⟨rfl, (Chg.refl none_ w).alloc _⟩
  · rw [show dC most F = dnC (stS most F) from if_neg (by omega)]
    exact rdone_any w most h0 h1 F fv hb hlen
end Go.Proofs.YthalmjjbamglgaaDoor
