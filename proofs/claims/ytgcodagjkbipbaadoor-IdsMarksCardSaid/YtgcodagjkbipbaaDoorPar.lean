/-
  ids: the two parities out of the row's list; New by contracts; the nil ones.
  No condition of its own.
-/
import Derived.Test.YtgcodagjkbipbaaDoorIds
import Derived.Lib.LaidTab
import Derived.OpenShut
import Derived.ChangeSame
namespace Go.Proofs.YtgcodagjkbipbaaDoor
open Go.RowKit Go.ChangeShapes

/-- The world holds the two parities, below block B. -/
structure Par (B : Nat) (w : World) : Prop where
  p0 : w.cell? ⟨43, 0, none⟩ = some (.int .u64 2)
  p1 : w.cell? ⟨43, 1, none⟩ = some (.int .u64 4294967294)
  p2 : w.cell? ⟨43, 2, none⟩ = some (.int .u64 1)
  p3 : w.cell? ⟨43, 3, none⟩ = some (.int .u64 4294967295)
  low : 43 < B
theorem Par.below {B : Nat} {w w' : World} (h : Par B w) (hb : Below B w w') : Par B w' :=
  ⟨(hb.cell (p := ⟨43, 0, none⟩) h.low).trans h.p0, (hb.cell (p := ⟨43, 1, none⟩) h.low).trans h.p1, (hb.cell (p := ⟨43, 2, none⟩) h.low).trans h.p2, (hb.cell (p := ⟨43, 3, none⟩) h.low).trans h.p3, h.low⟩
theorem Par.drewN {B : Nat} {w : World} (h : Par B w) (n : Nat) : Par B (w.drewN n) := ⟨h.p0, h.p1, h.p2, h.p3, h.low⟩

theorem laid_drop {P : Program} {W : World} : ∀ (k : Nat) {l : List (String × DataW Unit)}, laidMet P l W → laidMet P (l.drop k) W
  | 0, _, h => h
  | k + 1, [], h => by simpa using h
  | k + 1, _ :: _, h => laid_drop k h.tail

def dataP : DataW Unit := .agg [.agg [.lit (.int .u64 2), .lit (.int .u64 4294967294)], .agg [.lit (.int .u64 1), .lit (.int .u64 4294967295)]]
theorem Tryd.gP : Tryd.prog.globalNamed "culvert/ids.parities" = some 43 := by kernel_rfl
theorem Tryd.gPt : (Tryd.prog.globals[43]?).map (·.type) = some 111 := by kernel_rfl
theorem Tryd.cellsPar : Tryd.prog.cellsOf 98 = 2 := by kernel_rfl
theorem Tryd.cellsU : Tryd.prog.cellsOf 96 = 1 := by kernel_rfl

theorem par_pair {W : World} {m : Nat} {cs : List Value} {a b : Int} {x : DataW Unit × List MemPlace}
    (h : DataW.trod (fun _ => ()) Tryd.prog W 0 (fun _ => true) false m 98 cs = some x) (hx : x.1 = .agg [.lit (.int .u64 a), .lit (.int .u64 b)]) : cs[0]? = some (.int .u64 a) ∧ cs[1]? = some (.int .u64 b) := by
  obtain ⟨y0, y1, n, rfl, hl, h0, h1⟩ := trod_struct2 Tryd.underlying98 h
  rw [Tryd.cellsPar] at hl
  rw [Tryd.cellsU] at h0 h1
  simp only [DataW.agg.injEq, List.cons.injEq] at hx
  obtain ⟨u0, hc0, e0, _⟩ := DataW.trod_int Tryd.underlying96 h0
  obtain ⟨u1, hc1, e1, _⟩ := DataW.trod_int Tryd.underlying96 h1
  rw [e0, e1] at hx
  obtain ⟨hx0, hx1, _⟩ := hx
  injection hx0 with hx0
  injection hx0 with _ hx0
  injection hx1 with hx1
  injection hx1 with _ hx1
  subst hx0 hx1
  match cs, hl with
  | [c0, c1], _ =>
    simp at hc0 hc1
    exact ⟨by simp [hc0], by simp [hc1]⟩

theorem par_of_laid {W : World} {laid : List (String × DataW Unit)} (hm : laidMet Tryd.prog laid W) (hl : laid.drop 42 = [("culvert/ids.parities", dataP)]) : Par W.heap.size W := by
  have h := laid_drop 42 hm
  rw [hl] at h
  obtain ⟨ps, ⟨g, t, cs, fuel, p, q, hg, ht, hv, hd, _, _⟩, _, _⟩ := h
  obtain rfl := Option.some.inj (Tryd.gP.symm.trans hg)
  obtain rfl := Option.some.inj (Tryd.gPt.symm.trans ht)
  obtain ⟨xs, m, _, hx, hlen, hxl, hrow⟩ := DataW.trod_array Tryd.underlying111 hd
  simp only [dataP, Prod.mk.injEq, DataW.agg.injEq] at hx
  rw [Tryd.cellsPar] at hrow
  match xs, hxl with
  | [x0, x1], _ =>
    have e0 : x0.1 = .agg [.lit (.int .u64 2), .lit (.int .u64 4294967294)] := by
      have := congrArg (·[0]?) hx.1
      simpa using this.symm
    have e1 : x1.1 = .agg [.lit (.int .u64 1), .lit (.int .u64 4294967295)] := by
      have := congrArg (·[1]?) hx.1
      simpa using this.symm
    have q0 := par_pair (hrow 0 (by decide)) e0
    have q1 := par_pair (hrow 1 (by decide)) e1
    have hlow : 43 < W.heap.size := World.block_lt_of_cell? W ⟨43, 0, none⟩ (u := .int .u64 2) (by
      rw [World.var?_cell hg hv 0]
      simpa using q0.1)
    refine ⟨?_, ?_, ?_, ?_, hlow⟩
    · rw [World.var?_cell hg hv 0]
      simpa using q0.1
    · rw [World.var?_cell hg hv 1]
      simpa using q0.2
    · rw [World.var?_cell hg hv 2]
      simpa using q1.1
    · rw [World.var?_cell hg hv 3]
      simpa using q1.2

/-! ### The numbers as the document has them -/
structure St where
  (F R X M T : Int)
  deriving DecidableEq
def St.none_ : St := ⟨0, 0, 0, 0, 0⟩
def top (F : Int) : Int := if F = 1 then 4294967295 else 4294967294
def lowOf (c : Bool) : Int := if c then 1 else 2
structure St.Ok (s : St) : Prop where
  F : s.F = 1 ∨ s.F = 2
  R1 : 1 ≤ s.R
  RX : s.R ≤ s.X
  XG : s.X ≤ top s.F + 2
  par : s.X % 2 = s.F % 2
  parR : s.R % 2 = s.F % 2
  M0 : 0 ≤ s.M
  M1 : s.M ≤ 4294967295
  T0 : 0 ≤ s.T
  T1 : s.T ≤ 4294967295
def St.new (c : Bool) (k : Int) : St := ⟨lowOf c, lowOf c + 2 * k, lowOf c + 2 * k, 0, 0⟩
theorem St.new_ok (c : Bool) (k : Int) (k0 : 0 ≤ k) (k1 : k ≤ 2147483647) : (St.new c k).Ok := by
  cases c
  · exact ⟨.inr rfl, by simp [St.new, lowOf]; omega, by simp [St.new], by simp [St.new, lowOf, top]; omega, by simp [St.new, lowOf], by simp [St.new, lowOf], by simp [St.new], by simp [St.new], by simp [St.new], by simp [St.new]⟩
  · exact ⟨.inl rfl, by simp [St.new, lowOf]; omega, by simp [St.new], by simp [St.new, lowOf, top]; omega, by simp [St.new, lowOf], by simp [St.new, lowOf], by simp [St.new], by simp [St.new], by simp [St.new], by simp [St.new]⟩
theorem St.Ok.ids {s : St} (h : s.Ok) : IdsOk s.F (top s.F) s.R s.X s.M s.T := by
  obtain ⟨hF, R1, RX, XG, _, _, M0, M1, T0, T1⟩ := h
  unfold top at *
  refine ⟨?_, ?_, ?_, ?_, R1, RX, XG, M0, M1, T0, T1⟩ <;> rcases hF with hF | hF <;> simp [hF]
/-- The object behind a pointer. -/
def Obj (w : World) (p : Option Addr) (s : St) : Prop := (s = St.none_ ∧ p = none) ∨ (s.Ok ∧ ∃ g, p = some ⟨g, 0, none⟩ ∧ IdsIs w g s.F (top s.F) s.R s.X s.M s.T)
/-- The block behind a pointer. -/
def at_ (p : Option Addr) (b : Nat) : Prop := ∃ g, p = some ⟨g, 0, none⟩ ∧ b = g

theorem Obj.drewN {w : World} {p : Option Addr} {s : St} (h : Obj w p s) (n : Nat) : Obj (w.drewN n) p s := h
theorem Obj.chg {S : Nat → Prop} {w w' : World} {p : Option Addr} {s : St} (h : Obj w p s) (hc : Chg S w w') (hs : ∀ b, at_ p b → ¬ S b) : Obj w' p s := by
  rcases h with h | ⟨ho, g, hp, hi⟩
  · exact .inl h
  · exact .inr ⟨ho, g, hp, Is.chg hi hc (hs g ⟨g, hp, rfl⟩)⟩

def nxV (s : St) : Int := if s.F = 0 then 0 else if 4294967295 < s.X then 0 else s.X
def nxC (s : St) : Nat := if s.F = 0 then 1 else if 4294967295 < s.X then 32 else 0
def nxS (s : St) : St := if s.F = 0 then s else if 4294967295 < s.X then s else { s with X := s.X + 2 }
def lfV (s : St) : Int := if s.F = 0 then 0 else if 4294967295 < s.X then 0 else (4294967295 - s.X) / 2 + 1
def owB (s : St) (id : Int) : Bool := decide (0 < s.F) && (decide (0 < id) && (id % 2 == s.F % 2))
def seC (s : St) (id : Int) : Nat := if s.F = 0 then 1 else if owB s id = false then 18 else if id < s.R ∨ s.X ≤ id then 9 else if id ≤ s.M then 19 else 0
def seS (s : St) (id : Int) : St := if seC s id = 0 then { s with M := id } else s
def heC (s : St) (id : Int) : Nat := if s.F = 0 then 1 else if id = 0 then 14 else if owB s id = true then 18 else if id ≤ s.T then 19 else 0
def heS (s : St) (id : Int) : St := if heC s id = 0 then { s with T := id } else s
def knB (s : St) (id : Int) : Bool := if s.F = 0 then false else if id = 0 then false else if owB s id = true then decide (id ≤ s.M) else decide (id ≤ s.T)

theorem own_eq {s : St} (h : s.Ok) (id : Int) (i0 : 0 ≤ id) : ownB s.F id = owB s id := by
  have hF : 0 < s.F := by rcases h.F with h | h <;> omega
  unfold ownB owB
  by_cases h0 : id = 0
  · subst h0
    simp
  · have h1 : 0 < id := by omega
    simp [hF, h0, h1]
theorem sentC_eq {s : St} (h : s.Ok) (id : Int) (i0 : 0 ≤ id) : sentC s.F s.R s.X s.M id = seC s id := by
  have hF : s.F ≠ 0 := by rcases h.F with h | h <;> omega
  unfold sentC seC
  rw [own_eq h id i0, if_neg hF]
theorem hearC_eq {s : St} (h : s.Ok) (id : Int) (i0 : 0 ≤ id) : hearC s.F s.T id = heC s id := by
  have hF : s.F ≠ 0 := by rcases h.F with h | h <;> omega
  unfold hearC heC
  rw [own_eq h id i0, if_neg hF]
theorem knownB_eq {s : St} (h : s.Ok) (id : Int) (i0 : 0 ≤ id) : knownB s.F s.M s.T id = knB s id := by
  have hF : s.F ≠ 0 := by rcases h.F with h | h <;> omega
  unfold knownB knB
  rw [own_eq h id i0, if_neg hF]
theorem top_iff {s : St} (h : s.Ok) : top s.F < s.X ↔ 4294967295 < s.X := by
  have hp := h.par
  have := h.XG
  unfold top at *
  rcases h.F with hF | hF <;> rw [hF] at hp ⊢ <;> simp <;> omega
theorem left_eq {s : St} (h : s.Ok) : leftV (top s.F) s.X = lfV s := by
  have hF : s.F ≠ 0 := by rcases h.F with h | h <;> omega
  unfold leftV lfV
  rw [if_neg hF]
  simp only [top_iff h]
  split
  · rfl
  · have hp := h.par
    unfold top
    rcases h.F with hF | hF <;> rw [hF] at hp ⊢ <;> simp <;> omega
end Go.Proofs.YtgcodagjkbipbaaDoor
