/- One who leads goes as the few numbers say. -/
import Derived.Test.YtflhcknnjembjaaLeadP
import Derived.Test.YtflhcknnjembjaaSxM
namespace Go.Proofs.Ytflhcknnjembjaa
open Go.RowKit
namespace LD
def wv (k : Nat) : Int := 200 * ((k / 2 : Nat) : Int) + ((k % 2 : Nat) : Int)
def mv (k : Nat) : Int := if k = 1 then 1 else 100 * (k : Int)
structure Sim (x : LeadM) (ch : Nat) (dr : Bool) (a : LA) : Prop where
  chunk : x.chunk = 100 * (ch : Int)
  draw : x.draw = dr
  line : x.line = a.line
  w : x.w = wv a.w
  l : x.l = 100 * (a.l : Int)
  n : x.n = 100 * (a.n : Int)
  m : x.m = mv a.m
  mate : x.mate = 100 * (a.mate : Int)
  aft : x.aft = 100 * (a.aft : Int)
structure SimG (V : Vw) (g : GA) : Prop where
  len : V.ws.length = 600
  N : ∀ c : Nat, 1 ≤ c → c ≤ 3 → V.rd (100 * (c : Int) + 2) = wv (g.nx c)
  L : ∀ c : Nat, 1 ≤ c → c ≤ 3 → V.rd (100 * (c : Int) + 3) = 100 * (g.ld c : Int)
  T : ∀ c : Nat, 1 ≤ c → c ≤ 3 → V.rd (100 * (c : Int) + 4) = mv (g.mt c)
theorem wv_inj {a b : Nat} (h : wv a = wv b) : a = b := by unfold wv at h; omega
theorem mv_zero {a : Nat} : mv a = 0 ↔ a = 0 := by unfold mv; split <;> omega
theorem mv_one {a : Nat} : mv a = 1 ↔ a = 1 := by unfold mv; split <;> omega
theorem wv_mod (k : Nat) : (wv k % 2 = 1) = (k % 2 = 1) := by unfold wv; apply propext; omega
theorem wv_div (k : Nat) : wv k / 2 = 100 * ((k / 2 : Nat) : Int) := by unfold wv; omega
theorem or_wv {k : Nat} (h : k ≤ 7) (h2 : k % 2 = 0) : orF (wv k) = wv (k + 1) := by
  obtain rfl | rfl | rfl | rfl : k = 0 ∨ k = 2 ∨ k = 4 ∨ k = 6 := by omega
  all_goals decide
theorem inbG {V : Vw} {g : GA} (h : SimG V g) {i : Int} (h0 : 0 ≤ i) (h1 : i < 600) : V.inb i := by
  have := h.len
  unfold Vw.inb; omega
theorem three {c : Nat} (h1 : 1 ≤ c) (h2 : c ≤ 3) : c = 1 ∨ c = 2 ∨ c = 3 := by omega
theorem setN_nx {g : GA} {c d v : Nat} (h1 : 1 ≤ c) (h2 : c ≤ 3) (h3 : 1 ≤ d) (h4 : d ≤ 3) : (g.setN c v).nx d = if c = d then v else g.nx d := by
  rcases three h1 h2 with rfl | rfl | rfl <;> rcases three h3 h4 with rfl | rfl | rfl <;> rfl
theorem setN_ld {g : GA} {c d v : Nat} : (g.setN c v).ld d = g.ld d := by unfold GA.setN; split <;> rfl
theorem setN_mt {g : GA} {c d v : Nat} : (g.setN c v).mt d = g.mt d := by unfold GA.setN; split <;> rfl
theorem setL_ld {g : GA} {c d v : Nat} (h1 : 1 ≤ c) (h2 : c ≤ 3) (h3 : 1 ≤ d) (h4 : d ≤ 3) : (g.setL c v).ld d = if c = d then v else g.ld d := by
  rcases three h1 h2 with rfl | rfl | rfl <;> rcases three h3 h4 with rfl | rfl | rfl <;> rfl
theorem setL_nx {g : GA} {c d v : Nat} : (g.setL c v).nx d = g.nx d := by unfold GA.setL; split <;> rfl
theorem setL_mt {g : GA} {c d v : Nat} : (g.setL c v).mt d = g.mt d := by unfold GA.setL; split <;> rfl
theorem setT_mt {g : GA} {c d v : Nat} (h1 : 1 ≤ c) (h2 : c ≤ 3) (h3 : 1 ≤ d) (h4 : d ≤ 3) : (g.setT c v).mt d = if c = d then v else g.mt d := by
  rcases three h1 h2 with rfl | rfl | rfl <;> rcases three h3 h4 with rfl | rfl | rfl <;> rfl
theorem setT_nx {g : GA} {c d v : Nat} : (g.setT c v).nx d = g.nx d := by unfold GA.setT; split <;> rfl
theorem setT_ld {g : GA} {c d v : Nat} : (g.setT c v).ld d = g.ld d := by unfold GA.setT; split <;> rfl
theorem swap_len (V : Vw) (i o v : Int) : (V.swap i o v).ws.length = V.ws.length := by
  show (if V.swaps i o then V.wr i v else V).ws.length = _
  split
  · exact vwr_len V i v
  · rfl
theorem SimG.load {V : Vw} {g : GA} (h : SimG V g) (i : Int) : SimG (V.load i) g :=
  ⟨h.len, fun c h1 h2 => by rw [sx_rd_load]; exact h.N c h1 h2, fun c h1 h2 => by rw [sx_rd_load]; exact h.L c h1 h2, fun c h1 h2 => by rw [sx_rd_load]; exact h.T c h1 h2⟩
theorem SimG.swapN {V : Vw} {g : GA} (h : SimG V g) {c o v : Nat} (h1 : 1 ≤ c) (h2 : c ≤ 3) : SimG (V.swap (100 * (c : Int) + 2) (wv o) (wv v)) (if g.nx c = o then g.setN c v else g) := by
  have hi := inbG h (i := 100 * (c : Int) + 2) (by omega) (by omega)
  refine ⟨by rw [swap_len]; exact h.len, fun d h3 h4 => ?_, fun d h3 h4 => ?_, fun d h3 h4 => ?_⟩
  · rw [sx_rd_swap, h.N c h1 h2]
    by_cases ho : g.nx c = o
    · rw [if_pos ho, setN_nx h1 h2 h3 h4]
      by_cases hd : c = d
      · rw [if_pos ⟨by rw [hd], hi, by rw [ho]⟩, if_pos hd]
      · rw [if_neg (fun q => hd (by omega)), if_neg hd]; exact h.N d h3 h4
    · rw [if_neg ho, if_neg (fun q => ho (wv_inj q.2.2))]; exact h.N d h3 h4
  · rw [sx_rd_swap, if_neg (fun q => by omega), h.L d h3 h4]
    split
    · rw [setN_ld]
    · rfl
  · rw [sx_rd_swap, if_neg (fun q => by omega), h.T d h3 h4]
    split
    · rw [setN_mt]
    · rfl
theorem SimG.swapL {V : Vw} {g : GA} (h : SimG V g) {c v : Nat} (h1 : 1 ≤ c) (h2 : c ≤ 3) : SimG (V.swap (100 * (c : Int) + 3) 0 (100 * (v : Int))) (if g.ld c = 0 then g.setL c v else g) := by
  have hi := inbG h (i := 100 * (c : Int) + 3) (by omega) (by omega)
  refine ⟨by rw [swap_len]; exact h.len, fun d h3 h4 => ?_, fun d h3 h4 => ?_, fun d h3 h4 => ?_⟩
  · rw [sx_rd_swap, if_neg (fun q => by omega), h.N d h3 h4]
    split
    · rw [setL_nx]
    · rfl
  · rw [sx_rd_swap, h.L c h1 h2]
    by_cases ho : g.ld c = 0
    · rw [if_pos ho, setL_ld h1 h2 h3 h4]
      by_cases hd : c = d
      · rw [if_pos ⟨by rw [hd], hi, by rw [ho]; rfl⟩, if_pos hd]
      · rw [if_neg (fun q => hd (by omega)), if_neg hd]; exact h.L d h3 h4
    · rw [if_neg ho, if_neg (fun q => ho (by omega))]; exact h.L d h3 h4
  · rw [sx_rd_swap, if_neg (fun q => by omega), h.T d h3 h4]
    split
    · rw [setL_mt]
    · rfl
theorem SimG.swapT {V : Vw} {g : GA} (h : SimG V g) {c v : Nat} (h1 : 1 ≤ c) (h2 : c ≤ 3) : SimG (V.swap (100 * (c : Int) + 4) 0 (mv v)) (if g.mt c = 0 then g.setT c v else g) := by
  have hi := inbG h (i := 100 * (c : Int) + 4) (by omega) (by omega)
  refine ⟨by rw [swap_len]; exact h.len, fun d h3 h4 => ?_, fun d h3 h4 => ?_, fun d h3 h4 => ?_⟩
  · rw [sx_rd_swap, if_neg (fun q => by omega), h.N d h3 h4]
    split
    · rw [setT_nx]
    · rfl
  · rw [sx_rd_swap, if_neg (fun q => by omega), h.L d h3 h4]
    split
    · rw [setT_ld]
    · rfl
  · rw [sx_rd_swap, h.T c h1 h2]
    by_cases ho : g.mt c = 0
    · rw [if_pos ho, setT_mt h1 h2 h3 h4]
      by_cases hd : c = d
      · rw [if_pos ⟨by rw [hd], hi, by rw [ho]; rfl⟩, if_pos hd]
      · rw [if_neg (fun q => hd (by omega)), if_neg hd]; exact h.T d h3 h4
    · rw [if_neg ho, if_neg (fun q => ho (mv_zero.1 q.2.2))]; exact h.T d h3 h4
structure Wf (a : LA) : Prop where
  line : a.line ≤ 11
  w : a.w ≤ 7
  l : a.l ≤ 3
  n : a.n ≤ 3
  l1 : 3 ≤ a.line → 1 ≤ a.l
  n1 : 8 ≤ a.line → 1 ≤ a.n
  no : a.n ≠ 1
  ev : a.line = 4 ∨ a.line = 11 → a.w % 2 = 0
theorem wf_of {a : LA} (h : a.wf = true) : Wf a := by
  simp only [LA.wf, Bool.and_eq_true, Bool.or_eq_true, Bool.not_eq_true', Nat.ble_eq, Nat.beq_eq] at h
  obtain ⟨h1, h2, h3, h4, _, h6, h7, h8, h9⟩ := h
  refine ⟨h1, h2, h3, h4, fun q => by omega, fun q => by omega, fun q => by rw [q] at h8; exact absurd h8 (by decide), fun q => ?_⟩
  rcases h9 with ⟨u, v⟩ | u
  · rcases q with q | q
    · rw [q] at u; exact absurd u (by decide)
    · rw [q] at v; exact absurd v (by decide)
  · exact u
theorem sim_step {x : LeadM} {V : Vw} {a : LA} {g : GA} {ch : Nat} {dr : Bool} (hs : Sim x ch dr a) (hg : SimG V g) (hw : Wf a) (hc : ch = 1 ∨ ch = 2) :
    Sim (x.step V).1 ch dr (a.step ch dr g).1 ∧ SimG (x.step V).2 (a.step ch dr g).2 := by
  obtain ⟨wl, ww, wll, wn, wl1, wn1, wno, wev⟩ := hw
  have eC3 : W64 (x.chunk + 3) = 100 * (ch : Int) + 3 := by rw [hs.chunk]; exact wrapI (by omega) (by omega)
  have eL2 : W64 (x.l + 2) = 100 * (a.l : Int) + 2 := by rw [hs.l]; exact wrapI (by omega) (by omega)
  have eL4 : W64 (x.l + 4) = 100 * (a.l : Int) + 4 := by rw [hs.l]; exact wrapI (by omega) (by omega)
  have eN2 : W64 (x.n + 2) = 100 * (a.n : Int) + 2 := by rw [hs.n]; exact wrapI (by omega) (by omega)
  have eN3 : W64 (x.n + 3) = 100 * (a.n : Int) + 3 := by rw [hs.n]; exact wrapI (by omega) (by omega)
  have c1 : 1 ≤ ch := by omega
  have c3 : ch ≤ 3 := by omega
  have mvn : mv a.n = 100 * (a.n : Int) := by unfold mv; rw [if_neg wno]
  have n0 : (x.n = 0) = (a.n = 0) := by rw [hs.n]; apply propext; omega
  obtain ⟨s1, s2, s3, s4, s5, s6, s7, s8, s9⟩ := hs
  obtain h | h | h | h | h | h | h | h | h | h | h | h : a.line = 0 ∨ a.line = 1 ∨ a.line = 2 ∨ a.line = 3 ∨ a.line = 4 ∨ a.line = 5 ∨ a.line = 6 ∨ a.line = 7 ∨ a.line = 8 ∨ a.line = 9 ∨ a.line = 10 ∨ a.line = 11 := by omega
  all_goals (have hx := s3; rw [h] at hx; simp only [LeadM.step, LA.step, h, hx])
  · exact ⟨⟨s1, s2, s3, s4, s5, s6, s7, s8, s9⟩, hg⟩
  · rw [eC3, s1]
    exact ⟨⟨rfl, s2, rfl, s4, s5, s6, s7, s8, s9⟩, hg.swapL c1 c3⟩
  · rw [eC3, hg.L ch c1 c3]
    exact ⟨⟨s1, s2, rfl, s4, rfl, s6, s7, s8, s9⟩, hg.load _⟩
  · have l1 := wl1 (by omega)
    rw [eL2, hg.N a.l l1 wll, wv_div]
    simp only [wv_mod]
    split
    · exact ⟨⟨s1, s2, rfl, rfl, s5, rfl, s7, s8, s9⟩, hg.load _⟩
    · exact ⟨⟨s1, s2, rfl, rfl, s5, s6, s7, s8, s9⟩, hg.load _⟩
  · have l1 := wl1 (by omega)
    rw [eL2, s4, or_wv ww (wev (.inl h))]
    exact ⟨⟨s1, s2, rfl, rfl, s5, s6, s7, s8, s9⟩, hg.swapN l1 wll⟩
  · have l1 := wl1 (by omega)
    rw [eL4, hg.T a.l l1 wll]
    simp only [mv_zero, mv_one, n0]
    split
    · exact ⟨⟨s1, s2, rfl, s4, s5, s6, rfl, s8, s9⟩, hg.load _⟩
    · split
      · exact ⟨⟨s1, s2, rfl, s4, s5, s6, rfl, s8, s6⟩, hg.load _⟩
      · exact ⟨⟨s1, s2, rfl, s4, s5, s6, rfl, s8, s9⟩, hg.load _⟩
  · have l1 := wl1 (by omega)
    have hv : (if x.draw = true ∧ x.n ≠ 0 then x.n else 1) = mv (if dr = true ∧ a.n ≠ 0 then a.n else 1) := by
      simp only [s2, ne_eq, n0]
      split
      · rw [mvn, s6]
      · rfl
    rw [eL4, hv]
    exact ⟨⟨s1, s2, rfl, s4, s5, s6, s7, s8, s9⟩, hg.swapT l1 wll⟩
  · have l1 := wl1 (by omega)
    rw [eL4, hg.T a.l l1 wll]
    simp only [mv_one, n0]
    split
    · exact ⟨⟨s1, s2, rfl, s4, s5, s6, rfl, s8, s6⟩, hg.load _⟩
    · exact ⟨⟨s1, s2, rfl, s4, s5, s6, rfl, s8, s9⟩, hg.load _⟩
  · have n1 := wn1 (by omega)
    rw [eN3, s5]
    exact ⟨⟨s1, s2, rfl, s4, rfl, s6, s7, s8, s9⟩, hg.swapL n1 wn⟩
  · have n1 := wn1 (by omega)
    rw [eN3, hg.L a.n n1 wn, s5]
    have e : (100 * (g.ld a.n : Int) ≠ 100 * (a.l : Int)) = (g.ld a.n ≠ a.l) := by apply propext; omega
    simp only [e]
    split
    · exact ⟨⟨s1, s2, rfl, s4, rfl, s6, s7, s8, s6⟩, hg.load _⟩
    · exact ⟨⟨s1, s2, rfl, s4, rfl, s6, s7, s8, s9⟩, hg.load _⟩
  · have n1 := wn1 (by omega)
    rw [eN2, hg.N a.n n1 wn, wv_div]
    simp only [wv_mod]
    split
    · exact ⟨⟨s1, s2, rfl, rfl, s5, s6, s7, s6, rfl⟩, hg.load _⟩
    · exact ⟨⟨s1, s2, rfl, rfl, s5, s6, s7, s8, s9⟩, hg.load _⟩
  · have n1 := wn1 (by omega)
    rw [eN2, s4, or_wv ww (wev (.inr h))]
    exact ⟨⟨s1, s2, rfl, rfl, s5, s6, s7, s8, s9⟩, hg.swapN n1 wn⟩
/-- Two, and where they may be. -/
structure Two (a b more : Bool) (x y : LeadM) (V : Vw) (s : St) : Prop where
  x : Sim x 1 a s.x
  y : Sim y 2 b s.y
  g : SimG V s.g
  at' : s ∈ reach a b more
theorem fines {a b more : Bool} {s : St} (h : s ∈ reach a b more) : s.sx a ∈ reach a b more ∧ s.sy b ∈ reach a b more ∧ Wf s.x ∧ Wf s.y ∧ good b more (run a b 40 s) = true := by
  have := all_fine a b more
  unfold fine at this
  rw [Bool.and_eq_true, List.all_eq_true] at this
  have := this.2 s h
  simp only [Bool.and_eq_true] at this
  exact ⟨memB_mem this.1, memB_mem this.2.1, wf_of this.2.2.1, wf_of this.2.2.2.1, this.2.2.2.2.2⟩
theorem first_in (a b more : Bool) : st0 more ∈ reach a b more := by
  have := all_fine a b more
  unfold fine at this
  rw [Bool.and_eq_true] at this
  exact memB_mem this.1
theorem Two.stepX {a b more : Bool} {x y : LeadM} {V : Vw} {s : St} (h : Two a b more x y V s) : Two a b more (x.step V).1 y (x.step V).2 (s.sx a) := by
  obtain ⟨f1, f2, f3, f4, f5⟩ := fines h.at'
  obtain ⟨q1, q2⟩ := sim_step h.x h.g f3 (.inl rfl)
  exact ⟨q1, h.y, q2, f1⟩
theorem Two.stepY {a b more : Bool} {x y : LeadM} {V : Vw} {s : St} (h : Two a b more x y V s) : Two a b more x (y.step V).1 (y.step V).2 (s.sy b) := by
  obtain ⟨f1, f2, f3, f4, f5⟩ := fines h.at'
  obtain ⟨q1, q2⟩ := sim_step h.y h.g f4 (.inr rfl)
  exact ⟨h.x, q1, q2, f2⟩
theorem Two.line {a b more : Bool} {x y : LeadM} {V : Vw} {s : St} (h : Two a b more x y V s) : x.line ≤ 11 ∧ y.line ≤ 11 := by
  obtain ⟨f1, f2, f3, f4, f5⟩ := fines h.at'
  rw [h.x.line, h.y.line]
  exact ⟨f3.line, f4.line⟩
theorem run_succ {a b more : Bool} {k : Nat} {s : St} (h : good b more (run a b (k + 1) s) = true) : good b more (run a b k ((s.sx a).sy b)) = true := h
theorem ends {a b more : Bool} {x y : LeadM} {V : Vw} {s : St} (h : Two a b more x y V s) (hg : good b more (run a b 0 s) = true) :
    x.line = 0 ∧ y.line = 0 ∧ x.l = 100 ∧ V.rd 103 = 100 ∧
      ((x.mate = 200 ∧ y.l = 100 ∧ y.mate = 200 ∧ x.aft = y.aft ∧ V.rd 203 = 100) ∨
       (x.mate = 0 ∧ x.aft = 200 ∧ y.l = 200 ∧ V.rd 203 = 200 ∧ ((y.mate = 300 ∧ more = true ∧ b = true ∧ V.rd 303 = 200 ∧ y.aft = 0) ∨ (y.mate = 0 ∧ y.aft = match more with | true => 300 | false => 0)))) := by
  obtain ⟨hx, hy, hG, _⟩ := h
  have L1 : V.rd 103 = 100 * (s.g.l1 : Int) := hG.L 1 (by decide) (by decide)
  have L2 : V.rd 203 = 100 * (s.g.l2 : Int) := hG.L 2 (by decide) (by decide)
  have L3 : V.rd 303 = 100 * (s.g.l3 : Int) := hG.L 3 (by decide) (by decide)
  have hg : good b more s = true := hg
  simp only [good, Bool.and_eq_true, Bool.or_eq_true, Nat.beq_eq] at hg
  obtain ⟨h1, h2, h3, h4, h5⟩ := hg
  rw [L1, L2, L3, hx.line, hy.line, hx.l, hx.mate, hx.aft, hy.l, hy.mate, hy.aft, h1, h2, h3, h4]
  refine ⟨rfl, rfl, rfl, rfl, ?_⟩
  rcases h5 with ⟨q1, q2, q3, q4, q5⟩ | ⟨q1, q2, q3, q4, ⟨r1, r2, r3, r4, r5⟩ | ⟨r1, r2⟩⟩
  · left; rw [q1, q2, q3, q4, q5]; exact ⟨rfl, rfl, rfl, rfl, rfl⟩
  · right; rw [q1, q2, q3, q4, r1, r4, r5]; exact ⟨rfl, rfl, rfl, rfl, .inl ⟨rfl, r2, r3, rfl, rfl⟩⟩
  · right; rw [q1, q2, q3, q4, r1]
    refine ⟨rfl, rfl, rfl, rfl, .inr ⟨rfl, ?_⟩⟩
    cases more
    · rw [Nat.eq_of_beq_eq_true r2]; rfl
    · rw [Nat.eq_of_beq_eq_true r2]; rfl
end LD
end Go.Proofs.Ytflhcknnjembjaa
