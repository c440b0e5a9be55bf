/- A row of chunks, one of which is replaced: tried out. -/
import Derived.Test.YtflhcknnjembjaaSpliceC
import Derived.Test.YtflhcknnjembjaaOpq
import Derived.Test.YtflhcknnjembjaaSxM
namespace Go.Proofs.Ytflhcknnjembjaa
open Go.RowKit
namespace SR
/-- Words, as they were laid, the last one first. -/
def rdL : List (Int × Int) → Int → Int
  | [], _ => 0
  | (a, v) :: l, p => if a = p then v else rdL l p
def wrL (L : List (Int × Int)) (i v : Int) : List (Int × Int) := if 0 ≤ i ∧ i < 2000 then (i, v) :: L else L
structure SimV (V : Vw) (L : List (Int × Int)) : Prop where
  len : V.ws.length = 2000
  rd : ∀ p, V.rd p = rdL L p
theorem SimV.inb {V : Vw} {L : List (Int × Int)} (h : SimV V L) (i : Int) : V.inb i ↔ (0 ≤ i ∧ i < 2000) := by
  have := h.len
  unfold Vw.inb; omega
theorem SimV.wr {V : Vw} {L : List (Int × Int)} (h : SimV V L) (i v : Int) : SimV (V.wr i v) (wrL L i v) := by
  refine ⟨by simp [h.len], fun p => ?_⟩
  rw [sx_rd_wr, h.rd p]
  unfold wrL
  by_cases hi : 0 ≤ i ∧ i < 2000
  · rw [if_pos hi]
    show _ = if i = p then v else rdL L p
    by_cases hp : i = p
    · rw [if_pos ⟨hp, (h.inb i).2 hi⟩, if_pos hp]
    · rw [if_neg (fun q => hp q.1), if_neg hp]
  · rw [if_neg hi, if_neg (fun q => hi ((h.inb i).1 q.2))]
theorem SimV.load {V : Vw} {L : List (Int × Int)} (h : SimV V L) (i : Int) : SimV (V.load i) L := ⟨h.len, fun p => by rw [sx_rd_load]; exact h.rd p⟩
theorem SimV.store {V : Vw} {L : List (Int × Int)} (h : SimV V L) (i v : Int) : SimV (V.store i v) (wrL L i v) := by
  have := h.wr i v
  exact ⟨this.len, fun p => this.rd p⟩
def swB (L : List (Int × Int)) (i o : Int) : Bool := decide ((0 ≤ i ∧ i < 2000) ∧ rdL L i = o)
theorem SimV.swaps {V : Vw} {L : List (Int × Int)} (h : SimV V L) (i o : Int) : V.swaps i o = swB L i o := by
  unfold Vw.swaps swB
  rw [h.rd i]
  exact decide_eq_decide.2 (by rw [h.inb i])
theorem SimV.swap {V : Vw} {L : List (Int × Int)} (h : SimV V L) (i o v : Int) : SimV (V.swap i o v) (match swB L i o with | true => wrL L i v | false => L) := by
  have e : (V.swap i o v) = (if V.swaps i o then V.wr i v else V).note ⟨3, i, V.rd i, if V.swaps i o then v else V.rd i, V.swaps i o⟩ := rfl
  rw [e, ← h.swaps i o]
  cases V.swaps i o
  · exact ⟨h.len, fun p => h.rd p⟩
  · have := h.wr i v
    exact ⟨this.len, fun p => this.rd p⟩
def stepL (x : SplM) (L : List (Int × Int)) : SplM × List (Int × Int) :=
  match x.line with
  | 1 => ({ x with m := rdL L (W64 (x.c0 + 0)), cur := headF x.c, line := 2 }, L)
  | 2 => (if rdL L (W64 (x.cur + 2)) % 2 = 1 then { x with w := rdL L (W64 (x.cur + 2)), stuck := x.cur, line := 0 } else { x with w := rdL L (W64 (x.cur + 2)), n := rdL L (W64 (x.cur + 2)) / 2, line := if rdL L (W64 (x.cur + 2)) / 2 = 0 then 5 else if rdL L (W64 (x.cur + 2)) / 2 = x.c0 then 3 else 4 }, L)
  | 3 => (if swB L (W64 (x.cur + 2)) x.w = true then { x with line := 5 } else { x with cur := headF x.c, line := 2 }, match swB L (W64 (x.cur + 2)) x.w with | true => wrL L (W64 (x.cur + 2)) (nextF x.repl false) | false => L)
  | 4 => (if x.m ≤ rdL L (W64 (x.n + 0)) then { x with line := 5 } else { x with cur := x.n, line := 2 }, L)
  | 5 => ({ x with line := if x.c1 = 0 then 7 else 6 }, wrL L (W64 (x.c0 + 6)) 2)
  | 6 => ({ x with line := 7 }, wrL L (W64 (x.c1 + 6)) 2)
  | 7 => ({ x with line := 0 }, wrL L (hintF x.c (keyF x.m)) x.repl)
  | _ => (x, L)
theorem step_sim {V : Vw} {L : List (Int × Int)} (h : SimV V L) (x : SplM) : (x.step V).1 = (stepL x L).1 ∧ SimV (x.step V).2 (stepL x L).2 := by
  obtain ⟨c, c0, c1, repl, line, m, cur, w, n, stuck⟩ := x
  obtain rfl | rfl | rfl | rfl | rfl | rfl | rfl | rfl | ⟨q, rfl⟩ : line = 0 ∨ line = 1 ∨ line = 2 ∨ line = 3 ∨ line = 4 ∨ line = 5 ∨ line = 6 ∨ line = 7 ∨ ∃ q, line = q + 8 := by
    by_cases e : line < 8
    · omega
    · exact .inr (.inr (.inr (.inr (.inr (.inr (.inr (.inr ⟨line - 8, by omega⟩)))))))
  all_goals (simp only [SplM.step, stepL, h.rd, h.swaps])
  · exact ⟨trivial, h⟩
  · exact ⟨trivial, h.load _⟩
  · exact ⟨trivial, h.load _⟩
  · exact ⟨trivial, h.swap _ _ _⟩
  · exact ⟨trivial, h.load _⟩
  · exact ⟨trivial, h.store _ _⟩
  · exact ⟨trivial, h.store _ _⟩
  · exact ⟨trivial, h.store _ _⟩
  · exact ⟨trivial, h⟩
abbrev cf : Cf := ⟨1, 3, 2000, 1000⟩
def base : List (Int × Int) := [(2, 31), (8, -1), (10, 30)]
theorem base_sim : SimV cf.box base := by
  refine ⟨by rw [Cf.box_eq]; simp [Cf.arena], fun p => ?_⟩
  simp only [sx_rd_box, sx_lies, base, rdL]
  simp
  omega
/-- The place behind a chunk of a row of k. -/
def nx (k i : Nat) : Int := if i + 1 < k then 150 + 50 * (i : Int) else 0
def bL (k : Nat) : Nat → List (Int × Int)
  | 0 => base
  | i + 1 => wrL (wrL (bL k i) (100 + 50 * (i : Int)) (5 * (i : Int))) (102 + 50 * (i : Int)) (nextF (nx k i) false)
def L1 (k j h : Nat) (m : Bool) : List (Int × Int) :=
  wrL (wrL (match m with
    | true => wrL (wrL (bL k k) 10 (nextF 100 false)) (102 + 50 * (h : Int)) (orF (rdL (wrL (bL k k) 10 (nextF 100 false)) (102 + 50 * (h : Int))))
    | false => wrL (bL k k) 10 (nextF 100 false)) 900 (5 * (j : Int))) 902 (nextF (nx k j) false)
def stuckF (j h : Nat) (m : Bool) : Int := match m with
  | true => if h < j then 100 + 50 * (h : Int) else 0
  | false => 0
def chainL (L : List (Int × Int)) : Nat → Int
  | 0 => rdL L 10 / 2
  | i + 1 => rdL L (W64 (chainL L i + 2)) / 2
theorem chainL_succ (L : List (Int × Int)) (i : Nat) : chainL L (i + 1) = rdL L (W64 (chainL L i + 2)) / 2 := rfl
theorem chainL_zero (L : List (Int × Int)) : chainL L 0 = rdL L 10 / 2 := rfl
def wantF (j : Nat) (st : Int) (i : Nat) : Int := if i = j ∧ st = 0 then 900 else 100 + 50 * (i : Int)
def allB (p : Nat → Bool) : Nat → Bool
  | 0 => true
  | k + 1 => p k && allB p k
theorem allB_at {p : Nat → Bool} : ∀ {k : Nat}, allB p k = true → ∀ i, i < k → p i = true
  | k + 1, h, i, hi => by
    unfold allB at h
    rw [Bool.and_eq_true] at h
    by_cases e : i = k
    · rw [e]; exact h.1
    · exact allB_at h.2 i (by omega)
def chk (k j h : Nat) (m : Bool) (x : SplM) (L : List (Int × Int)) : Bool :=
  decide (x.stuck = stuckF j h m) && (allB (fun i => decide (chainL L i = wantF j (stuckF j h m) i)) k && (decide (chainL L k = 0) && decide (rdL L (106 + 50 * (j : Int)) = if stuckF j h m = 0 then 2 else 0)))
def runsB (k j h : Nat) (m : Bool) : Nat → SplM → List (Int × Int) → Bool
  | 0, _, _ => false
  | r + 1, x, L => Nat.ble x.line 7 && (match stepL x L with
    | (x', L') => (match Nat.beq x'.line 0 with
      | true => chk k j h m x' L'
      | false => runsB k j h m r x' L'))
def okB (k j h : Nat) (m : Bool) : Bool := runsB k j h m 100 (SplM.new cf (100 + 50 * (j : Int)) 0 900) (L1 k j h m)
theorem ok_all : allB (fun k => allB (fun j => allB (fun h => okB (k + 1) j h false && okB (k + 1) j h true) (k + 1)) (k + 1)) 8 = true := by kernel_rfl
theorem ok_at {k j h : Nat} {m : Bool} (h1 : 1 ≤ k) (h2 : k ≤ 8) (hj : j < k) (hh : h < k) : okB k j h m = true := by
  obtain ⟨k, rfl⟩ : ∃ q, k = q + 1 := ⟨k - 1, by omega⟩
  have := allB_at (allB_at (allB_at ok_all k (by omega)) j hj) h hh
  simp only [Bool.and_eq_true] at this
  cases m
  · exact this.1
  · exact this.2
theorem runs_spec {k j h : Nat} {m : Bool} {r : Nat} {x : SplM} {V : Vw} {L : List (Int × Int)} (hV : SimV V L) (hr : runsB k j h m r x L = true) :
    ∃ r', r = r' + 1 ∧ x.line ≤ 7 ∧ (((x.step V).1.line = 0 ∧ chk k j h m (x.step V).1 (stepL x L).2 = true) ∨ (¬ (x.step V).1.line = 0 ∧ runsB k j h m r' (x.step V).1 (stepL x L).2 = true)) := by
  cases r with
  | zero => cases hr
  | succ r =>
    refine ⟨r, rfl, ?_⟩
    unfold runsB at hr
    rw [Bool.and_eq_true, Nat.ble_eq] at hr
    refine ⟨hr.1, ?_⟩
    have h2 := hr.2
    rw [(step_sim hV x).1]
    revert h2
    generalize stepL x L = p
    obtain ⟨x', L'⟩ := p
    simp only
    split
    · rename_i q; intro h2; exact .inl ⟨Nat.eq_of_beq_eq_true q, h2⟩
    · rename_i q; intro h2; exact .inr ⟨(fun e => by rw [e] at q; cases q), h2⟩
theorem chk_spec {k j h : Nat} {m : Bool} {x : SplM} {L : List (Int × Int)} (hc : chk k j h m x L = true) :
    x.stuck = stuckF j h m ∧ (∀ i, i < k → chainL L i = wantF j (stuckF j h m) i) ∧ chainL L k = 0 ∧ rdL L (106 + 50 * (j : Int)) = if stuckF j h m = 0 then 2 else 0 := by
  unfold chk at hc
  simp only [Bool.and_eq_true, decide_eq_true_eq] at hc
  exact ⟨hc.1, fun i hi => of_decide_eq_true (allB_at hc.2.1 i hi), hc.2.2.1, hc.2.2.2⟩
end SR
end Go.Proofs.Ytflhcknnjembjaa
