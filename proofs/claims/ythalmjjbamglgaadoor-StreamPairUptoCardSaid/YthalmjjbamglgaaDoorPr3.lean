/-
  Two ends of a stream: what holds of a direction at every step (the plain law: no program in sight).
  No condition.
-/
import Derived.Test.YthalmjjbamglgaaDoorPr1
namespace Go.Proofs.YthalmjjbamglgaaDoor
open Go.RowKit
set_option linter.unusedVariables false
set_option linter.unusedSimpArgs false

def flen (fs : List Fr) : Nat := (fs.map fun f => f.pl.length).sum
def fpl (fs : List Fr) : List Int := fs.flatMap Fr.pl
def gsum (gs : List Int) : Int := gs.sum
theorem flen_app (fs gs : List Fr) : flen (fs ++ gs) = flen fs + flen gs := by simp [flen]
theorem flen_cons (f : Fr) (fs : List Fr) : flen (f :: fs) = f.pl.length + flen fs := by simp [flen]
theorem fpl_app (fs gs : List Fr) : fpl (fs ++ gs) = fpl fs ++ fpl gs := by simp [fpl]
theorem fpl_cons (f : Fr) (fs : List Fr) : fpl (f :: fs) = f.pl ++ fpl fs := by simp [fpl]
theorem fpl_len (fs : List Fr) : (fpl fs).length = flen fs := by
  induction fs with
  | nil => rfl
  | cons f r ih => rw [fpl_cons, flen_cons, List.length_append, ih]
theorem gsum_app (gs hs : List Int) : gsum (gs ++ hs) = gsum gs + gsum hs := by simp [gsum]
theorem gsum_cons (g : Int) (gs : List Int) : gsum (g :: gs) = g + gsum gs := by simp [gsum]
theorem gsum_pos {gs : List Int} (h : ∀ g ∈ gs, 1 ≤ g ∧ g ≤ 4294967295) : 0 ≤ gsum gs := by
  induction gs with
  | nil => simp [gsum]
  | cons g r ih =>
    rw [gsum_cons]
    have := h g (by simp)
    have := ih fun x hx => h x (by simp [hx])
    omega
/-- FIN stands on the last frame alone. -/
structure FinOk (fs : List Fr) (lo li : Bool) : Prop where
  heard : li = true → lo = true ∧ fs = []
  no : lo = false → ∀ f ∈ fs, f.fin = false
  yes : lo = true → li = false → ∃ pre l, fs = pre ++ [l] ∧ l.fin = true ∧ ∀ f ∈ pre, f.fin = false
/-- A direction: the sender a, the receiver b, the wire m. -/
structure Dj (a b : Sm) (m : Wr) : Prop where
  upa : a.Up
  upb : b.Up
  W : a.cr.W = b.gr.W
  bytes : m.wrote = m.gave ++ (b.un ++ (fpl m.frames ++ a.sg))
  cl : m.closed = a.cl
  lo : a.lo = true → a.cl = true ∧ a.sg = []
  fin : FinOk m.frames a.lo b.li
  en : m.ended = true → b.li = true ∧ b.un = []
  td : m.ended = b.td
  room : b.li = false → (flen m.frames : Int) ≤ b.gr.l
  win : a.lo = false → a.cr.h + (b.un.length : Int) + b.gr.o + (flen m.frames : Int) + gsum m.grants = b.gr.W
  gp : ∀ g ∈ m.grants, 1 ≤ g ∧ g ≤ 4294967295
section
variable {a b a' b' : Sm} {m : Wr}
theorem Dj.congB (h : Dj a b m) (hu : b'.Up) (h1 : b'.un = b.un) (h2 : b'.li = b.li) (h3 : b'.td = b.td) (h4 : b'.gr = b.gr) : Dj a b' m :=
  ⟨h.upa, hu, by rw [h4]; exact h.W, by rw [h1]; exact h.bytes, h.cl, h.lo, by rw [h2]; exact h.fin, by rw [h1, h2]; exact h.en, by rw [h3]; exact h.td, by rw [h2, h4]; exact h.room, by rw [h1, h4]; exact h.win, h.gp⟩
theorem Dj.congA (h : Dj a b m) (hu : a'.Up) (h1 : a'.sg = a.sg) (h2 : a'.cl = a.cl) (h3 : a'.lo = a.lo) (h4 : a'.cr = a.cr) : Dj a' b m :=
  ⟨hu, h.upb, by rw [h4]; exact h.W, by rw [h1]; exact h.bytes, by rw [h2]; exact h.cl, by rw [h1, h2, h3]; exact h.lo, by rw [h3]; exact h.fin, h.en, h.td, h.room, by rw [h3, h4]; exact h.win, h.gp⟩
theorem Dj.write (h : Dj a b m) (zs : List Int) : Dj (wrS a zs) b { m with wrote := m.wrote ++ zs.take (wrN a zs) } := by
  refine ⟨wrS_up h.upa zs, h.upb, h.W, ?_, h.cl, fun hl => ?_, h.fin, h.en, h.td, h.room, h.win, h.gp⟩
  · show m.wrote ++ zs.take (wrN a zs) = m.gave ++ (b.un ++ (fpl m.frames ++ (a.sg ++ zs.take (wrN a zs))))
    rw [h.bytes]
    simp only [List.append_assoc]
  · obtain ⟨h1, h2⟩ := h.lo hl
    refine ⟨h1, ?_⟩
    show a.sg ++ zs.take (wrN a zs) = []
    have h0 : wrN a zs = 0 := by
      unfold wrN wrC barC
      rw [h.upa.1, h.upa.2, h1]
      simp
    rw [h0, h2]
    rfl
theorem clS_cl (hu : a.Up) : clS a = { a with cl := true } := by
  obtain ⟨id, mine, acc, frame, sg, stage, cl, lo, cr, un, li, td, gr, rs, ct⟩ := a
  obtain ⟨h1, h2⟩ := hu
  simp only at h1 h2
  subst h1 h2
  cases cl <;> rfl
theorem Dj.close (h : Dj a b m) : Dj (clS a) b { m with closed := true } := by
  rw [clS_cl h.upa]
  exact ⟨h.upa, h.upb, h.W, h.bytes, rfl, fun hl => ⟨rfl, (h.lo hl).2⟩, h.fin, h.en, h.td, h.room, h.win, h.gp⟩
theorem acS_eq (hu : a.Up) : acS a = { a with acc := true } := by
  obtain ⟨id, mine, acc, frame, sg, stage, cl, lo, cr, un, li, td, gr, rs, ct⟩ := a
  obtain ⟨h1, h2⟩ := hu
  simp only at h1 h2
  subst h1 h2
  cases acc <;> rfl
theorem Dj.acceptA (h : Dj a b m) : Dj (acS a) b m := by
  rw [acS_eq h.upa]
  exact h.congA h.upa rfl rfl rfl rfl
theorem Dj.acceptB (h : Dj a b m) : Dj a (acS b) m := by
  rw [acS_eq h.upb]
  exact h.congB h.upb rfl rfl rfl rfl
/-- What a ready sender is. -/
theorem rdy_eq (hu : a.Up) : rdyB a = ((a.mine || a.acc) && !a.lo && (if a.sg = [] then a.cl else decide (0 < a.cr.h))) := by
  unfold rdyB barC
  rw [hu.1, hu.2]
  cases a.mine <;> cases a.acc <;> cases a.lo <;> simp
theorem frK_le (a : Sm) : frK a ≤ a.sg.length := Nat.min_le_right _ _
theorem frK_h (hok : a.Ok) : (frK a : Int) ≤ a.cr.h := by
  have := hok.cr.h0
  have h1 : frK a ≤ Nat.min a.frame a.cr.h.toNat := Nat.min_le_left _ _
  have h2 : Nat.min a.frame a.cr.h.toNat ≤ a.cr.h.toNat := Nat.min_le_right _ _
  omega
theorem spS_fr (hok : a.Ok) : (spS a.cr (frK a)).h = a.cr.h - frK a ∧ (spS a.cr (frK a)).W = a.cr.W := by
  have hk := frK_h hok
  have h1 := hok.cr.W1
  have : spC a.cr (frK a) = 0 := by simp [spC, show ¬ a.cr.W = 0 by omega, show ¬ a.cr.h < (frK a : Int) by omega, show ¬ (frK a : Int) < 0 by omega]
  unfold spS
  rw [if_pos this]
  exact ⟨rfl, rfl⟩
theorem Dj.frame (h : Dj a b m) (hoa : a.Ok) (hob : b.Ok) (hr : rdyB a = true) : Dj (frS a) b { m with frames := m.frames ++ [⟨a.sg.take (frK a), frE a⟩] } := by
  have hl : a.lo = false := (rdy_lo hr).1
  obtain ⟨s1, s2⟩ := spS_fr hoa
  have hk := frK_h hoa
  have hkl := frK_le a
  have hli : b.li = false := by
    cases hb : b.li
    · rfl
    · have := (h.fin.heard hb).1; rw [hl] at this; cases this
  have hw := h.win hl
  have hg := gsum_pos h.gp
  have hu := hob.un hli h.upb.2 h.upb.1
  have hs := hob.gr.sum
  have htl : (a.sg.take (frK a)).length = frK a := by rw [List.length_take]; omega
  refine ⟨h.upa, h.upb, by show (spS a.cr (frK a)).W = _; rw [s2]; exact h.W, ?_, h.cl, fun hlo => ?_, ?_, h.en, h.td, fun _ => ?_, fun hlo => ?_, h.gp⟩
  · show m.wrote = m.gave ++ (b.un ++ (fpl (m.frames ++ [⟨a.sg.take (frK a), frE a⟩]) ++ a.sg.drop (frK a)))
    rw [fpl_app, fpl_cons, h.bytes]
    simp only [fpl, List.flatMap_nil, List.append_nil, List.append_assoc, List.take_append_drop]
  · have he : frE a = true := by
      have : (a.lo || frE a) = true := hlo
      rw [hl, Bool.false_or] at this
      exact this
    unfold frE at he
    simp only [Bool.and_eq_true, decide_eq_true_eq] at he
    exact ⟨he.1, List.drop_of_length_le he.2⟩
  · have hlo' : (frS a).lo = frE a := by show (a.lo || frE a) = frE a; rw [hl, Bool.false_or]
    rw [hlo']
    refine ⟨(fun e => by rw [hli] at e; cases e), fun e f hf => ?_, fun e _ => ⟨m.frames, _, rfl, e, h.fin.no hl⟩⟩
    rcases List.mem_append.1 hf with hf | hf
    · exact h.fin.no hl f hf
    · rw [List.mem_singleton.1 hf]; exact e
  · show (flen (m.frames ++ [⟨a.sg.take (frK a), frE a⟩]) : Int) ≤ b.gr.l
    rw [flen_app, flen_cons]
    show ((flen m.frames + ((a.sg.take (frK a)).length + flen [])) : Nat) ≤ b.gr.l
    rw [htl]
    simp only [flen, List.map_nil, List.sum_nil, Nat.add_zero]
    have : flen m.frames = (List.map (fun f => f.pl.length) m.frames).sum := rfl
    omega
  · show (spS a.cr (frK a)).h + (b.un.length : Int) + b.gr.o + (flen (m.frames ++ [⟨a.sg.take (frK a), frE a⟩]) : Int) + gsum m.grants = b.gr.W
    rw [flen_app, flen_cons, s1]
    show a.cr.h - (frK a : Int) + (b.un.length : Int) + b.gr.o + ((flen m.frames + ((a.sg.take (frK a)).length + flen [])) : Nat) + gsum m.grants = b.gr.W
    rw [htl]
    have h0 : flen [] = 0 := rfl
    rw [h0]
    omega
theorem Dj.deliver (h : Dj a b m) (hob : b.Ok) {f : Fr} {r : List Fr} (hf : m.frames = f :: r) : avC b f.pl.length = 0 ∧ Dj a (avS b f.pl f.fin) { m with frames := r } := by
  have hli : b.li = false := by
    cases hb : b.li
    · rfl
    · have := (h.fin.heard hb).2; rw [hf] at this; cases this
  have hro := h.room hli
  rw [hf, flen_cons] at hro
  have hle : ¬ b.gr.l < (f.pl.length : Int) := by omega
  have hC : avC b f.pl.length = 0 := by simp [avC, h.upb.1, h.upb.2, hli, hle]
  have hS : avS b f.pl f.fin = { b with un := b.un ++ f.pl, gr := { b.gr with l := b.gr.l - f.pl.length, u := b.gr.u + f.pl.length }, li := f.fin } := by simp [avS, h.upb.1, h.upb.2, hli, hle]
  refine ⟨hC, ?_⟩
  rw [hS]
  have hfin : f.fin = true → a.lo = true ∧ r = [] := fun e => by
    have hlo : a.lo = true := by
      cases hl : a.lo
      · have := h.fin.no hl f (by rw [hf]; simp); rw [this] at e; cases e
      · rfl
    obtain ⟨pre, l, e1, e2, e3⟩ := h.fin.yes hlo hli
    rw [hf] at e1
    cases pre with
    | nil => simp at e1; exact ⟨hlo, e1.2⟩
    | cons p ps =>
      simp at e1
      have := e3 p (by simp)
      rw [← e1.1, e] at this
      cases this
  refine ⟨h.upa, h.upb, h.W, ?_, h.cl, h.lo, ?_, fun e => ?_, h.td, fun e => ?_, fun hl => ?_, h.gp⟩
  · show m.wrote = m.gave ++ ((b.un ++ f.pl) ++ (fpl r ++ a.sg))
    rw [h.bytes, hf, fpl_cons]
    simp only [List.append_assoc]
  · refine ⟨hfin, fun hl g hg => h.fin.no hl g (by rw [hf]; simp [hg]), fun hl hl2 => ?_⟩
    obtain ⟨pre, l, e1, e2, e3⟩ := h.fin.yes hl hli
    rw [hf] at e1
    cases pre with
    | nil =>
      simp at e1
      have : f.fin = false := hl2
      rw [e1.1, e2] at this
      cases this
    | cons p ps =>
      simp at e1
      exact ⟨ps, l, e1.2, e2, fun g hg => e3 g (by simp [hg])⟩
  · have := (h.en e).1
    rw [hli] at this
    cases this
  · show (flen r : Int) ≤ b.gr.l - f.pl.length
    omega
  · have hw := h.win hl
    rw [hf, flen_cons] at hw
    show a.cr.h + ((b.un ++ f.pl).length : Int) + b.gr.o + (flen r : Int) + gsum m.grants = b.gr.W
    rw [List.length_append]
    omega
theorem Dj.grant (h : Dj a b m) (hoa : a.Ok) (hob : b.Ok) {g : Int} {r : List Int} (hg : m.grants = g :: r) : gnC a g = 0 ∧ Dj (gnS a g false) b { m with grants := r } := by
  have hgp := h.gp
  rw [hg] at hgp
  have h1 := hgp g (by simp)
  have h2 : 0 ≤ gsum r := gsum_pos fun x hx => hgp x (by simp [hx])
  have ho := hob.gr.o0
  cases hl : a.lo
  · have hw := h.win hl
    rw [hg, gsum_cons] at hw
    have hle : ¬ a.cr.W < a.cr.h + g := by rw [h.W]; omega
    have hW := hoa.cr.W1
    have hga : gaC a.cr g = 0 := by simp [gaC, hle, show ¬ a.cr.W = 0 by omega]
    have hC : gnC a g = 0 := by simp [gnC, hga]
    have hS : gnS a g false = { a with cr := { a.cr with h := a.cr.h + g } } := by simp [gnS, h.upa.1, h.upa.2, hC, gnL, hl, gaS, hga]
    refine ⟨hC, ?_⟩
    rw [hS]
    refine ⟨h.upa, h.upb, h.W, h.bytes, h.cl, h.lo, h.fin, h.en, h.td, h.room, fun _ => ?_, fun x hx => hgp x (by simp [hx])⟩
    show a.cr.h + g + (b.un.length : Int) + b.gr.o + (flen m.frames : Int) + gsum r = b.gr.W
    omega
  · have hC : gnC a g = 0 := by simp [gnC, hl]
    have hS : gnS a g false = a := by simp [gnS, h.upa.1, h.upa.2, hC, gnL, hl]
    refine ⟨hC, ?_⟩
    rw [hS]
    exact ⟨h.upa, h.upb, h.W, h.bytes, h.cl, h.lo, h.fin, h.en, h.td, h.room, (fun e => by rw [hl] at e; cases e), fun x hx => hgp x (by simp [hx])⟩
/-- A reading's effect on an open receiver. -/
theorem rtS_nil (hu : b.Up) {n : Int} (hn : 1 ≤ n) (hun : b.un = []) : rtS b n = if b.li then { b with td := true } else b := by
  unfold rtS srS
  rw [if_neg (by rw [hu.1]; simp; omega), if_pos hun]
theorem rtS_some (hu : b.Up) {n : Int} (hn : 1 ≤ n) (hun : b.un ≠ []) : rtS b n = { b with un := b.un.drop (rtN b n), gr := if b.li then b.gr else rdS b.gr (rtN b n) } ∧ rtN b n = Nat.min n.toNat b.un.length ∧ rtG b n = if b.li then 0 else rdV b.gr (rtN b n) := by
  have h3 : ¬ (n ≤ 0 ∨ b.rs = true) := by rw [hu.1]; simp; omega
  have hN : rtN b n = Nat.min n.toNat b.un.length := by rw [rtN, if_neg h3]
  refine ⟨?_, hN, ?_⟩
  · rw [hN, rtS, if_neg h3, srS, if_neg hun, hu.2]
    simp
  · rw [hN, rtG, if_neg h3, srG, if_neg hun, hu.2]
    simp
theorem Dj.readEof (h : Dj a b m) {n : Int} (hn : 1 ≤ n) (hun : b.un = []) (hli : b.li = true) : Dj a (rtS b n) { m with ended := true } := by
  rw [rtS_nil h.upb hn hun, if_pos hli]
  exact ⟨h.upa, h.upb, h.W, h.bytes, h.cl, h.lo, h.fin, fun _ => ⟨hli, hun⟩, rfl, h.room, h.win, h.gp⟩
theorem rd_counts (hob : b.Ok) (hu : b.Up) (hli : b.li = false) {k : Nat} (hk : k ≤ b.un.length) :
    (rdS b.gr k).W = b.gr.W ∧ b.gr.l ≤ (rdS b.gr k).l ∧ (rdS b.gr k).o + rdV b.gr k = b.gr.o + k ∧ 0 ≤ rdV b.gr k ∧ rdV b.gr k ≤ b.gr.W := by
  obtain ⟨g1, g2, g3, g4, g5, g6, g7⟩ := hob.gr
  have hun := hob.un hli hu.2 hu.1
  have hC : rdC b.gr k = 0 := by simp [rdC, show ¬ b.gr.W = 0 by omega, show ¬ b.gr.u < (k : Int) by omega, show ¬ (k : Int) < 0 by omega]
  unfold rdS rdV
  rw [if_pos hC, if_pos hC]
  split
  · exact ⟨rfl, Int.le_refl _, by simp only; omega, Int.le_refl _, by omega⟩
  · exact ⟨rfl, by simp only; omega, by simp only; omega, by omega, by omega⟩
theorem Dj.readOk (h : Dj a b m) (hob : b.Ok) {n : Int} (hn : 1 ≤ n) (hne : ¬ (b.un = [] ∧ b.li = true)) :
    Dj a (rtS b n) { m with gave := m.gave ++ b.un.take (rtN b n), grants := if rtG b n = 0 then m.grants else m.grants ++ [rtG b n] } := by
  by_cases hun : b.un = []
  · have hli : b.li = false := by
      cases hb : b.li
      · rfl
      · exact absurd ⟨hun, hb⟩ hne
    have hg : rtG b n = 0 := by
      unfold rtG srG
      rw [if_pos hun]
      split <;> rfl
    rw [rtS_nil h.upb hn hun, hli, hg, hun]
    simp only [List.take_nil, List.append_nil, if_true, Bool.false_eq_true, if_false]
    exact h
  · obtain ⟨e1, e2, e3⟩ := rtS_some h.upb hn hun
    have hk : rtN b n ≤ b.un.length := by rw [e2]; exact Nat.min_le_right _ _
    rw [e1]
    have hen : m.ended = false := by
      cases he : m.ended
      · rfl
      · exact absurd (h.en he).2 hun
    have hby : m.wrote = (m.gave ++ b.un.take (rtN b n)) ++ (b.un.drop (rtN b n) ++ (fpl m.frames ++ a.sg)) := by
      rw [h.bytes]
      simp only [List.append_assoc]
      rw [← List.append_assoc (b.un.take (rtN b n)), List.take_append_drop]
    cases hli : b.li
    · obtain ⟨r1, r2, r3, r4, r5⟩ := rd_counts hob h.upb hli hk
      rw [e3, hli]
      simp only [Bool.false_eq_true, if_false]
      have hW2 := hob.gr.W2
      refine ⟨h.upa, h.upb, by show a.cr.W = (rdS b.gr (rtN b n)).W; rw [r1]; exact h.W, hby, h.cl, h.lo, by have hf := h.fin; rw [hli] at hf; exact hf, (fun e => by rw [show m.ended = true from e] at hen; cases hen), h.td, fun e => ?_, fun hl => ?_, fun x hx => ?_⟩
      · have := h.room hli
        show (flen m.frames : Int) ≤ (rdS b.gr (rtN b n)).l
        omega
      · have hw := h.win hl
        show a.cr.h + ((b.un.drop (rtN b n)).length : Int) + (rdS b.gr (rtN b n)).o + (flen m.frames : Int) + gsum (if rdV b.gr (rtN b n) = 0 then m.grants else m.grants ++ [rdV b.gr (rtN b n)]) = (rdS b.gr (rtN b n)).W
        rw [List.length_drop, r1]
        have hgs : gsum (if rdV b.gr (rtN b n) = 0 then m.grants else m.grants ++ [rdV b.gr (rtN b n)]) = gsum m.grants + rdV b.gr (rtN b n) := by
          split
          · rename_i h0; rw [h0]; omega
          · rw [gsum_app, gsum_cons]; simp [gsum]
        rw [hgs]
        omega
      · have hx' : x ∈ (if rdV b.gr (rtN b n) = 0 then m.grants else m.grants ++ [rdV b.gr (rtN b n)]) := hx
        split at hx'
        · exact h.gp x hx'
        · rcases List.mem_append.1 hx' with hx' | hx'
          · exact h.gp x hx'
          · rw [List.mem_singleton.1 hx']
            omega
    · rw [e3, hli]
      simp only [if_true]
      exact ⟨h.upa, h.upb, h.W, hby, h.cl, h.lo, by have hf := h.fin; rw [hli] at hf; exact hf, (fun e => by rw [show m.ended = true from e] at hen; cases hen), h.td, (fun e => by cases e), (fun hl => by have h9 := (h.fin.heard hli).1; rw [show a.lo = false from hl] at h9; cases h9), h.gp⟩
/-- What fits and balanced look at. -/
theorem Dj.fits (h : Dj a b m) : m.gave.length ≤ m.wrote.length ∧ m.gave = m.wrote.take m.gave.length ∧ (m.ended = true → m.closed = true ∧ m.gave.length = m.wrote.length) := by
  refine ⟨by rw [h.bytes, List.length_append]; omega, by rw [h.bytes, List.take_left], fun e => ?_⟩
  obtain ⟨h1, h2⟩ := h.en e
  obtain ⟨h3, h4⟩ := h.fin.heard h1
  obtain ⟨h5, h6⟩ := h.lo h3
  refine ⟨by rw [h.cl]; exact h5, ?_⟩
  rw [h.bytes, h2, h4, h6]
  simp [fpl]
end
end Go.Proofs.YthalmjjbamglgaaDoor
