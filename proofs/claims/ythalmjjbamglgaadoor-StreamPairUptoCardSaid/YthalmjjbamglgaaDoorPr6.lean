/-
  culvertlaw10.user and carry as one step, and what a step keeps.
  No condition.
-/
import Derived.Test.YthalmjjbamglgaaDoorPr4
import Derived.Test.YthalmjjbamglgaaDoorPr5
namespace Go.Proofs.YthalmjjbamglgaaDoor
open Go.RowKit
set_option linter.unusedVariables false
set_option linter.unusedSimpArgs false
/-- What user makes of the streams and the wires. -/
def uS (k nn : Int) (zs : List Int) (e : Nat) (s : Nat → Sm) (W : Nat → Wr) : (Nat → Sm) × (Nat → Wr) :=
  if k = 0 then (upd s e (wrS (s e) zs), upd W e { W e with wrote := (W e).wrote ++ zs.take (wrN (s e) zs) })
  else if k = 1 then
    if nn < 1 then (s, W)
    else if (s e).un = [] ∧ (s e).li = true then (upd s e (rtS (s e) nn), upd W (1 - e) { W (1 - e) with ended := true })
    else (upd s e (rtS (s e) nn), upd W (1 - e) { W (1 - e) with gave := (W (1 - e)).gave ++ (s e).un.take (rtN (s e) nn), grants := addG (W (1 - e)).grants (rtG (s e) nn) })
  else if k = 5 then (upd s e (clS (s e)), upd W e { W e with closed := true })
  else (s, W)
/-- What carry makes of them. -/
def cS (k : Int) (e : Nat) (s : Nat → Sm) (W : Nat → Wr) : (Nat → Sm) × (Nat → Wr) :=
  if k = 2 then
    if rdyB (s e) = true then (upd s e (frS (s e)), upd W e { W e with frames := (W e).frames ++ [⟨(s e).sg.take (frK (s e)), frE (s e)⟩] }) else (s, W)
  else if k = 3 then
    match (W e).frames with
    | [] => (s, W)
    | f :: fs => (upd s (1 - e) (avS (s (1 - e)) f.pl f.fin), upd W e { W e with frames := fs })
  else if k = 4 then
    match (W e).grants with
    | [] => (s, W)
    | d :: gs => (upd s e (gnS (s e) d false), upd W e { W e with grants := gs })
  else (s, W)
/-- Two directions, t steps behind the start. -/
structure Inv2 (s : Nat → Sm) (W : Nat → Wr) (t : Nat) : Prop where
  dj : ∀ d, d < 2 → Dj (s d) (s (1 - d)) (W d)
  byt : ∀ d, d < 2 → Byt (W d).wrote
  cnt : ∀ d, d < 2 → (W d).wrote.length ≤ t * 1048576 ∧ (W d).frames.length ≤ t ∧ (W d).grants.length ≤ t
section
variable {s : Nat → Sm} {W : Nat → Wr} {t e : Nat}
theorem Inv2.more (h : Inv2 s W t) {t' : Nat} (ht : t ≤ t') : Inv2 s W t' := ⟨h.dj, h.byt, fun d hd => by
  have h1 := h.cnt d hd
  exact ⟨Nat.le_trans h1.1 (Nat.mul_le_mul_right _ ht), Nat.le_trans h1.2.1 ht, Nat.le_trans h1.2.2 ht⟩⟩
theorem Inv2.put (h : Inv2 s W t) {i j : Nat} (hi : i < 2) (hj : j < 2) {s' : Sm} {m' : Wr} (h1 : Dj (upd s i s' j) (upd s i s' (1 - j)) m') (h2 : Dj (upd s i s' (1 - j)) (upd s i s' j) (W (1 - j))) (hb : Byt m'.wrote) (hc : m'.wrote.length ≤ (t + 1) * 1048576 ∧ m'.frames.length ≤ t + 1 ∧ m'.grants.length ≤ t + 1) : Inv2 (upd s i s') (upd W j m') (t + 1) := by
  refine ⟨fun d hd => ?_, fun d hd => ?_, fun d hd => ?_⟩
  · by_cases hdj : d = j
    · subst hdj
      rw [upd_at]
      exact h1
    · have e1 : d = 1 - j := by omega
      have e2 : 1 - (1 - j) = j := by omega
      rw [upd_ne W m' hdj, e1, e2]
      exact h2
  · by_cases hdj : d = j
    · subst hdj
      rw [upd_at]
      exact hb
    · rw [upd_ne W m' hdj]
      exact h.byt d hd
  · by_cases hdj : d = j
    · subst hdj
      rw [upd_at]
      exact hc
    · rw [upd_ne W m' hdj]
      have h5 := h.cnt d hd
      exact ⟨Nat.le_trans h5.1 (Nat.mul_le_mul_right _ (Nat.le_succ t)), Nat.le_succ_of_le h5.2.1, Nat.le_succ_of_le h5.2.2⟩
/-- Stream e and wire e. -/
theorem Inv2.own (h : Inv2 s W t) (he : e < 2) {s' : Sm} {m' : Wr} (h1 : Dj s' (s (1 - e)) m') (hu : s'.Up) (q1 : s'.un = (s e).un) (q2 : s'.li = (s e).li) (q3 : s'.td = (s e).td) (q4 : s'.gr = (s e).gr) (hb : Byt m'.wrote) (hc : m'.wrote.length ≤ (t + 1) * 1048576 ∧ m'.frames.length ≤ t + 1 ∧ m'.grants.length ≤ t + 1) : Inv2 (upd s e s') (upd W e m') (t + 1) := by
  have hne : 1 - e ≠ e := by omega
  refine h.put he he ?_ ?_ hb hc
  · rw [upd_at, upd_ne s s' hne]
    exact h1
  · rw [upd_at, upd_ne s s' hne]
    have h2 := h.dj (1 - e) (by omega)
    rw [show 1 - (1 - e) = e by omega] at h2
    exact h2.congB hu q1 q2 q3 q4
/-- Stream e, and the wire towards it. -/
theorem Inv2.other (h : Inv2 s W t) (he : e < 2) {s' : Sm} {m' : Wr} (h1 : Dj (s (1 - e)) s' m') (hu : s'.Up) (q1 : s'.sg = (s e).sg) (q2 : s'.cl = (s e).cl) (q3 : s'.lo = (s e).lo) (q4 : s'.cr = (s e).cr) (hb : Byt m'.wrote) (hc : m'.wrote.length ≤ (t + 1) * 1048576 ∧ m'.frames.length ≤ t + 1 ∧ m'.grants.length ≤ t + 1) : Inv2 (upd s e s') (upd W (1 - e) m') (t + 1) := by
  have hne : 1 - e ≠ e := by omega
  have hee : 1 - (1 - e) = e := by omega
  refine h.put he (show 1 - e < 2 by omega) ?_ ?_ hb hc
  · rw [hee, upd_at, upd_ne s s' hne]
    exact h1
  · rw [hee, upd_at, upd_ne s s' hne]
    exact (h.dj e he).congA hu q1 q2 q3 q4
theorem rtS_keep {s : Sm} (hu : s.Up) (n : Int) : (rtS s n).Up ∧ (rtS s n).sg = s.sg ∧ (rtS s n).cl = s.cl ∧ (rtS s n).lo = s.lo ∧ (rtS s n).cr = s.cr := by
  unfold rtS srS
  repeat' split
  all_goals exact ⟨hu, rfl, rfl, rfl, rfl⟩
theorem avS_keep {s : Sm} (hu : s.Up) (ys : List Int) (f : Bool) : (avS s ys f).Up ∧ (avS s ys f).sg = s.sg ∧ (avS s ys f).cl = s.cl ∧ (avS s ys f).lo = s.lo ∧ (avS s ys f).cr = s.cr := by
  unfold avS
  repeat' split
  all_goals exact ⟨hu, rfl, rfl, rfl, rfl⟩
theorem gnS_keep {s : Sm} (hu : s.Up) (d : Int) : (gnS s d false).Up ∧ (gnS s d false).un = s.un ∧ (gnS s d false).li = s.li ∧ (gnS s d false).td = s.td ∧ (gnS s d false).gr = s.gr := by
  unfold gnS gnL
  repeat' split
  all_goals first | exact ⟨hu, rfl, rfl, rfl, rfl⟩ | simp_all
theorem clS_keep {s : Sm} (hu : s.Up) : (clS s).Up ∧ (clS s).un = s.un ∧ (clS s).li = s.li ∧ (clS s).td = s.td ∧ (clS s).gr = s.gr := by
  unfold clS
  split
  all_goals exact ⟨hu, rfl, rfl, rfl, rfl⟩
theorem addG_len (gs : List Int) (g : Int) : (addG gs g).length ≤ gs.length + 1 := by
  unfold addG
  split <;> simp
theorem byt_app {xs ys : List Int} (h : Byt xs) (h' : Byt ys) : Byt (xs ++ ys) := fun z hz => (List.mem_append.1 hz).elim (h z) (h' z)
theorem Inv2.user (h : Inv2 s W t) (hok : ∀ d, d < 2 → (s d).Ok) (he : e < 2) (k nn : Int) {zs : List Int} (hz : Byt zs) : Inv2 (uS k nn zs e s W).1 (uS k nn zs e s W).2 (t + 1) := by
  have h1 := h.dj e he
  have h2 := h.dj (1 - e) (by omega)
  rw [show 1 - (1 - e) = e by omega] at h2
  have c1 := h.cnt e he
  have c2 := h.cnt (1 - e) (by omega)
  have hb1 := h.byt e he
  have hb2 := h.byt (1 - e) (by omega)
  have hs : (t + 1) * 1048576 = t * 1048576 + 1048576 := Nat.succ_mul _ _
  have hup := h1.upa
  unfold uS
  split
  · refine h.own he (h1.write zs) (wrS_up hup zs) rfl rfl rfl rfl (byt_app hb1 (hz.take _)) ⟨?_, by show (W e).frames.length ≤ _; omega, by show (W e).grants.length ≤ _; omega⟩
    show ((W e).wrote ++ zs.take (wrN (s e) zs)).length ≤ _
    rw [List.length_append, List.length_take]
    have hw : wrN (s e) zs ≤ 1048576 := by
      have := (hok e he).g2
      unfold wrN
      split
      · exact Nat.le_trans (Nat.min_le_right _ _) (by omega)
      · exact Nat.zero_le _
    have := Nat.min_le_left (wrN (s e) zs) zs.length
    omega
  · split
    · split
      · exact h.more (Nat.le_succ t)
      · rename_i hn
        have hn1 : 1 ≤ nn := by omega
        obtain ⟨r1, r2, r3, r4, r5⟩ := rtS_keep hup nn
        split
        · rename_i hx
          exact h.other he (h2.readEof hn1 hx.1 hx.2) r1 r2 r3 r4 r5 hb2 ⟨by show (W (1 - e)).wrote.length ≤ _; omega, by show (W (1 - e)).frames.length ≤ _; omega, by show (W (1 - e)).grants.length ≤ _; omega⟩
        · rename_i hx
          exact h.other he (h2.readOk (hok e he) hn1 hx) r1 r2 r3 r4 r5 hb2 ⟨by show (W (1 - e)).wrote.length ≤ _; omega, by show (W (1 - e)).frames.length ≤ _; omega, by
            show (addG (W (1 - e)).grants (rtG (s e) nn)).length ≤ _
            have := addG_len (W (1 - e)).grants (rtG (s e) nn)
            omega⟩
    · split
      · obtain ⟨r1, r2, r3, r4, r5⟩ := clS_keep hup
        exact h.own he h1.close r1 r2 r3 r4 r5 hb1 ⟨by show (W e).wrote.length ≤ _; omega, by show (W e).frames.length ≤ _; omega, by show (W e).grants.length ≤ _; omega⟩
      · exact h.more (Nat.le_succ t)
theorem Inv2.carry (h : Inv2 s W t) (hok : ∀ d, d < 2 → (s d).Ok) (he : e < 2) (k : Int) : Inv2 (cS k e s W).1 (cS k e s W).2 (t + 1) := by
  have h1 := h.dj e he
  have c1 := h.cnt e he
  have hb1 := h.byt e he
  have hs : (t + 1) * 1048576 = t * 1048576 + 1048576 := Nat.succ_mul _ _
  have hup := h1.upa
  unfold cS
  split
  · split
    · rename_i hr
      exact h.own he (h1.frame (hok e he) (hok (1 - e) (by omega)) hr) hup rfl rfl rfl rfl hb1 ⟨by show (W e).wrote.length ≤ _; omega, by
        show ((W e).frames ++ [_]).length ≤ _
        rw [List.length_append, List.length_singleton]
        omega, by show (W e).grants.length ≤ _; omega⟩
    · exact h.more (Nat.le_succ t)
  · split
    · split
      · exact h.more (Nat.le_succ t)
      · rename_i f fs hf
        obtain ⟨r1, r2, r3, r4, r5⟩ := avS_keep h1.upb f.pl f.fin
        have hfl : fs.length + 1 = (W e).frames.length := by rw [hf]; rfl
        have h3 := h.other (e := 1 - e) (m' := { W e with frames := fs }) (by omega) (by rw [show 1 - (1 - e) = e by omega]; exact (h1.deliver (hok (1 - e) (by omega)) hf).2) r1 r2 r3 r4 r5 hb1 ⟨by show (W e).wrote.length ≤ _; omega, by show fs.length ≤ _; omega, by show (W e).grants.length ≤ _; omega⟩
        rw [show 1 - (1 - e) = e by omega] at h3
        exact h3
    · split
      · split
        · exact h.more (Nat.le_succ t)
        · rename_i g gs hg
          obtain ⟨r1, r2, r3, r4, r5⟩ := gnS_keep hup g
          have hgl : gs.length + 1 = (W e).grants.length := by rw [hg]; rfl
          exact h.own he (h1.grant (hok e he) (hok (1 - e) (by omega)) hg).2 r1 r2 r3 r4 r5 hb1 ⟨by show (W e).wrote.length ≤ _; omega, by show (W e).frames.length ≤ _; omega, by show gs.length ≤ _; omega⟩
      · exact h.more (Nat.le_succ t)
theorem Inv2.accept (h : Inv2 s W t) (he : e < 2) : Inv2 (upd s e (acS (s e))) W t := by
  refine ⟨fun d hd => ?_, h.byt, h.cnt⟩
  have h1 := h.dj d hd
  by_cases hde : d = e
  · subst hde
    rw [upd_at, upd_ne s _ (show 1 - d ≠ d by omega)]
    exact h1.acceptA
  · have e1 : 1 - d = e := by omega
    rw [upd_ne s _ hde, e1, upd_at]
    rw [e1] at h1
    exact h1.acceptB
end
section
variable {B : Nat} {A : Nat → Addr} {E0 : World} {X0 : Nat → Prop} {w : World} {L wb : Nat} {q lab : Nat → Nat} {s : Nat → Sm} {W : Nat → Wr} {c : Nat → Nat → Value} {t e : Nat}
theorem Pp.ok (h : Pp E0 X0 w L wb q lab s W c) : ∀ d, d < 2 → (s d).Ok := fun d hd => by
  obtain ⟨_, _, _, _, _, _, hp⟩ := h.st d hd
  exact hp.ok
theorem user_any (h : Pp E0 X0 w L wb q lab s W c) (hs : Sen B A w) (ht : Tab B w) (hBL : B ≤ L) (hLw : L ≤ w.heap.size) (he : e < 2) (o1 o2 : Nat) (ho1 : o1 = 6 * e) (ho2 : o2 = 6 * (1 - e)) (kd nn : Int) (A2 : Option Addr) (len cap : Nat) (zs : List Int) (hz : zs.length = len) (hzb : Byt zs) (hzr : ∀ u, Below B w u → Rd u A2 len fun i => .int .u8 (zs.getD i 0)) (hzm : len ≤ 140737488355328) (hzc : len ≤ cap) (hnn : nn ≤ 9223372036854775807) (hi : Inv2 s W t) (htb : t ≤ 8388608) :
    Calls Tryd.prog 43 #[.pointer (some ⟨q e, 0, none⟩), .pointer (some ⟨wb, o1, none⟩), .pointer (some ⟨wb, o2, none⟩), .agg #[.int .i64 kd, .int .i64 nn, .slice A2 len cap]] w fun e' w' => e' = .returned (.bool true) ∧ (∃ lab' c', Pp E0 X0 w' L wb q lab' (uS (kd / 2) nn zs e s W).1 (uS (kd / 2) nn zs e s W).2 c') ∧ Chg (fun k => L ≤ k) w w' := by
  have h1 := hi.dj e he
  have h2 := hi.dj (1 - e) (by omega)
  rw [show 1 - (1 - e) = e by omega] at h2
  have c1 := hi.cnt e he
  have c2 := hi.cnt (1 - e) (by omega)
  have hok := h.ok e he
  unfold uS
  split
  · rename_i hk
    exact user_write w h hs ht hBL hLw he o1 o2 ho1 ho2 kd nn A2 len cap hk zs hz hzb hzr hzm hzc h1.cl h1.upa (by omega)
  · rename_i hk0
    split
    · rename_i hk
      split
      · rename_i hn
        exact (user_none w h hs ht hBL hLw he o1 o2 ho1 ho2 kd nn A2 len cap hk hn).mono fun e' w' ⟨x1, x2, x3⟩ => ⟨x1, ⟨_, _, x2⟩, x3⟩
      · rename_i hn
        have hn1 : 1 ≤ nn := by omega
        split
        · rename_i hx
          exact user_eof w h hs ht hBL hLw he o1 o2 ho1 ho2 kd nn A2 len cap hk hn1 hnn h1.upa hx.1 hx.2
        · rename_i hx
          refine user_read w h hs ht hBL hLw he o1 o2 ho1 ho2 kd nn A2 len cap hk hn1 hnn h1.upa hx ?_ ?_ (by omega)
          · by_cases hun : (s e).un = []
            · rw [rtG_nil hun]
              omega
            · obtain ⟨_, e2, e3⟩ := rtS_some h1.upa hn1 hun
              rw [e3]
              split
              · omega
              · rename_i hli
                have hli : (s e).li = false := by simpa using hli
                have hk : rtN (s e) nn ≤ (s e).un.length := by rw [e2]; exact Nat.min_le_right _ _
                have hr := rd_counts hok h1.upa hli hk
                have hW2 := hok.gr.W2
                omega
          · have hb := congrArg List.length h2.bytes
            rw [List.length_append, List.length_append] at hb
            omega
    · rename_i hk1
      split
      · rename_i hk
        exact user_close w h hs ht hBL hLw he o1 o2 ho1 ho2 kd nn A2 len cap hk h1.upa h1.cl
      · rename_i hk5
        exact (user_other w h hs ht hBL hLw he o1 o2 ho1 ho2 kd nn A2 len cap hk0 hk1 hk5).mono fun e' w' ⟨x1, x2, x3⟩ => ⟨x1, ⟨_, _, x2⟩, x3⟩
theorem carry_any (h : Pp E0 X0 w L wb q lab s W c) (hs : Sen B A w) (ht : Tab B w) (hBL : B ≤ L) (hLw : L ≤ w.heap.size) (he : e < 2) (o1 : Nat) (ho1 : o1 = 6 * e) (kd nn : Int) (A2 : Option Addr) (len cap : Nat) (hi : Inv2 s W t) (htb : t ≤ 8388608) :
    Calls Tryd.prog 44 #[.pointer (some ⟨q e, 0, none⟩), .pointer (some ⟨q (1 - e), 0, none⟩), .pointer (some ⟨wb, o1, none⟩), .agg #[.int .i64 kd, .int .i64 nn, .slice A2 len cap]] w fun e' w' => e' = .returned (.bool true) ∧ (∃ lab' c', Pp E0 X0 w' L wb q lab' (cS (kd / 2) e s W).1 (cS (kd / 2) e s W).2 c') ∧ Chg (fun k => L ≤ k) w w' := by
  have h1 := hi.dj e he
  have c1 := hi.cnt e he
  have hb := hi.byt e he
  have hby := h1.bytes
  have hlen := congrArg List.length hby
  rw [List.length_append, List.length_append, List.length_append, fpl_len] at hlen
  unfold cS
  split
  · rename_i hk
    split
    · rename_i hr
      exact carry_fyes w h hs ht hBL hLw he o1 ho1 kd nn A2 len cap hk hr (fun z hz => hb z (by rw [hby]; simp [hz])) (by omega)
    · rename_i hr
      exact carry_fno w h hs ht hBL hLw he o1 ho1 kd nn A2 len cap hk (by simpa using hr)
  · rename_i hk2
    split
    · rename_i hk
      split
      · rename_i hf
        exact (carry_dl0 w h hs ht hBL hLw he o1 ho1 kd nn A2 len cap hk hf).mono fun e' w' ⟨x1, x2, x3⟩ => ⟨x1, ⟨_, _, x2⟩, x3⟩
      · rename_i f fs hf
        rw [hf, flen_cons] at hlen
        exact carry_dl w h hs ht hBL hLw he o1 ho1 kd nn A2 len cap hk f fs hf (by omega) (h1.deliver (h.ok (1 - e) (by omega)) hf).1
    · rename_i hk3
      split
      · rename_i hk
        split
        · rename_i hf
          exact (carry_gr0 w h hs ht hBL hLw he o1 ho1 kd nn A2 len cap hk hf).mono fun e' w' ⟨x1, x2, x3⟩ => ⟨x1, ⟨_, _, x2⟩, x3⟩
        · rename_i g gs hg
          have hgp := h1.gp g (by rw [hg]; simp)
          exact carry_gr w h hs ht hBL hLw he o1 ho1 kd nn A2 len cap hk g gs hg (by omega) hgp.2 (h1.grant (h.ok e he) (h.ok (1 - e) (by omega)) hg).1
      · rename_i hk4
        exact (carry_other w h hs ht hBL hLw he o1 ho1 kd nn A2 len cap hk2 hk3 hk4).mono fun e' w' ⟨x1, x2, x3⟩ => ⟨x1, ⟨_, _, x2⟩, x3⟩
/-- fits and balanced, in direction d. -/
theorem fits_dj (h : Pp E0 X0 w L wb q lab s W c) {d : Nat} (hd : d < 2) (hi : Inv2 s W t) (o : Nat) (ho : o = 6 * d) :
    Calls Tryd.prog 45 #[.pointer (some ⟨wb, o, none⟩)] w fun e w' => e = .returned (.bool true) ∧ Chg none_ w w' := by
  obtain ⟨f1, f2, f3⟩ := (hi.dj d hd).fits
  exact fits_any w (h.wq d hd) h.im hd o ho f2.symm f1 f3
theorem balanced_dj (h : Pp E0 X0 w L wb q lab s W c) {d : Nat} (hd : d < 2) (hi : Inv2 s W t) (htb : t ≤ 8388608) (o : Nat) (ho : o = 6 * d) (Wn : Int) (hW : (s d).cr.W = Wn) :
    Calls Tryd.prog 46 #[.pointer (some ⟨q d, 0, none⟩), .pointer (some ⟨q (1 - d), 0, none⟩), .pointer (some ⟨wb, o, none⟩), .int .i64 Wn] w fun e w' => e = .returned (.bool true) ∧ Chg none_ w w' := by
  have h1 := hi.dj d hd
  have ha := h.ok d hd
  have hb := h.ok (1 - d) (by omega)
  have c1 := hi.cnt d hd
  have hWW := h1.W
  obtain ⟨r1, r2⟩ := h1.upa
  obtain ⟨r3, r4⟩ := h1.upb
  obtain ⟨a1, a2, a3, a4, a5⟩ := ha.cr
  obtain ⟨g1, g2, g3, g4, g5, g6, g7⟩ := hb.gr
  have hun := hb.un
  have hwin : ((s (1 - d)).un.length : Int) ≤ (s (1 - d)).gr.W := by
    obtain ⟨_, _, _, _, _, _, hp⟩ := h.st (1 - d) (by omega)
    have h5 := hp.r2.len
    unfold Sm.win at h5
    omega
  refine balanced_any w (h.wq d hd) h.im hd o ho (h.st d hd) (h.st (1 - d) (by omega)) Wn (by omega) ?_ ?_ h1.gp (by omega) (by omega) ?_
  · unfold vwC vwL vwO
    rw [r1, r2, r3, r4]
    cases (s d).lo <;> cases (s (1 - d)).li <;> simp <;> omega
  · unfold vwL vwO
    rw [r3, r4]
    have hw := hwin
    cases hl : (s (1 - d)).li
    · have := hun hl r4 r3
      simp
      omega
    · simp
      omega
  · cases hl : (s d).lo
    · refine .inr (.inr ?_)
      have hli : (s (1 - d)).li = false := by
        cases hb : (s (1 - d)).li
        · rfl
        · have := (h1.fin.heard hb).1; rw [hl] at this; cases this
      have hw := h1.win hl
      unfold vwC vwO
      rw [r1, r2, r3, r4, hl, hli]
      simp
      omega
    · unfold Sm.st stOf
      rw [r1, hl]
      cases (s d).li <;> simp
end
end Go.Proofs.YthalmjjbamglgaaDoor
