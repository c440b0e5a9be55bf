/- SealAgainst: what holds while a chunk is sealed and one cell may be posted. -/
import Derived.Test.YtakbnbmbiaejiaaSxM
namespace Go.Proofs.Ytakbnbmbiaejiaa
open Go.RowKit

namespace SA
/-- Where the state of cell q lies. -/
def pos (q : Nat) : Int := 22 + 3 * (q : Int)
def posted1 (p : Nat) (V : Vw) (d : Bool) (q : Nat) : Prop := V.rd (pos q) = 1 ∧ d = true ∧ q = p
def raw (p : Nat) (V : Vw) (d : Bool) (q : Nat) : Prop := V.rd (pos q) = 0 ∨ posted1 p V d q
def given (clock : Int) (p : Nat) (V : Vw) (d : Bool) (q : Nat) : Prop := V.rd (pos q) = clock + 3 ∧ d = true ∧ q = p
def fin (clock : Int) (p : Nat) (V : Vw) (d : Bool) (q : Nat) : Prop := V.rd (pos q) = 2 ∨ given clock p V d q
structure base (clock : Int) (x : SealM) (V : Vw) : Prop where
  len : V.ws.length = 200
  clk : V.rd 1 = clock
  cap : x.c.cap = 6
  c0 : x.c0 = 15
  c1 : x.c1 = 0
  at0 : x.at' = 0
def now (clock : Int) (p j i : Nat) (x : SealM) (V : Vw) (d : Bool) : Prop :=
  (x.line = 1 ∧ j = 0 ∧ i = 0 ∧ raw p V d 0) ∨
  (x.line = 3 ∧ ((V.rd (pos j) = 0 ∧ i ≤ 1 + 6 * j) ∨ (posted1 p V d j ∧ i ≤ 3 + 6 * j) ∨ (V.rd (pos j) = 2 ∧ i ≤ 3 + 6 * j) ∨ (given clock p V d j ∧ i ≤ 6 + 6 * j))) ∨
  (x.line = 4 ∧ raw p V d j ∧ i ≤ 2 + 6 * j) ∨
  (x.line = 5 ∧ posted1 p V d j ∧ i ≤ 4 + 6 * j) ∨
  (x.line = 6 ∧ posted1 p V d j ∧ x.g = clock ∧ i ≤ 5 + 6 * j)
def inv (clock : Int) (p i : Nat) (x : SealM) (V : Vw) (d : Bool) : Prop :=
  base clock x V ∧ ∃ j : Nat, j < 6 ∧ x.i = j ∧ (∀ q, q < j → fin clock p V d q) ∧ (∀ q, q < 6 → j < q → raw p V d q) ∧ now clock p j i x V d
def ended (clock : Int) (p : Nat) (V : Vw) (d : Bool) : Prop := V.ws.length = 200 ∧ V.rd 1 = clock ∧ ∀ q, q < 6 → fin clock p V d q

theorem inb {V : Vw} (h : V.ws.length = 200) {q : Nat} (hq : q < 6) : V.inb (pos q) := by unfold Vw.inb pos; omega
theorem pos_ne {q r : Nat} : pos q = pos r ↔ q = r := by unfold pos; omega
theorem rd_swap {V : Vw} (h : V.ws.length = 200) {q : Nat} (hq : q < 6) (o v j : Int) : (V.swap (pos q) o v).rd j = if pos q = j ∧ V.rd (pos q) = o then v else V.rd j := by
  rw [sx_rd_swap]
  have := inb h hq
  by_cases e : pos q = j ∧ V.rd (pos q) = o
  · rw [if_pos e, if_pos ⟨e.1, this, e.2⟩]
  · rw [if_neg e, if_neg fun z => e ⟨z.1, z.2.2⟩]
theorem len_swap (V : Vw) (i o v : Int) : (V.swap i o v).ws.length = V.ws.length := by
  show (if V.swaps i o then V.wr i v else V).ws.length = _
  split
  · exact vwr_len ..
  · rfl
theorem one_ne (q : Nat) : pos q ≠ 1 := by unfold pos; omega
theorem mono {clock : Int} {p : Nat} {V V' : Vw} {d : Bool} {q : Nat} (e : V'.rd (pos q) = V.rd (pos q)) : (fin clock p V d q → fin clock p V' d q) ∧ (raw p V d q → raw p V' d q) ∧ (posted1 p V d q → posted1 p V' d q) ∧ (given clock p V d q → given clock p V' d q) := by
  unfold fin raw posted1 given; rw [e]; exact ⟨id, id, id, id⟩

/-- The cell is posted, or not. -/
theorem post {clock : Int} {p i : Nat} (hp : p < 6) {x : SealM} {V : Vw} (h : inv clock p i x V false) : inv clock p i x (V.swap (pos p) 0 1) (V.swaps (pos p) 0) := by
  obtain ⟨⟨b1, b2, b3, b4, b5, b6⟩, j, hj, hi, h1, h2, h3⟩ := h
  have hsw : V.swaps (pos p) 0 = decide (V.rd (pos p) = 0) := by
    rw [sx_swaps]; exact decide_eq_decide.2 ⟨fun z => z.2, fun z => ⟨inb b1 hp, z⟩⟩
  have nf : ∀ q, fin clock p V false q → V.rd (pos q) = 2 := fun q hq => by
    rcases hq with q | q
    · exact q
    · cases q.2.1
  have nr : ∀ q, raw p V false q → V.rd (pos q) = 0 := fun q hq => by
    rcases hq with q | q
    · exact q
    · cases q.2.1
  by_cases hz : V.rd (pos p) = 0
  · have rd' : ∀ q, (V.swap (pos p) 0 1).rd (pos q) = if q = p then 1 else V.rd (pos q) := fun q => by
      rw [rd_swap b1 hp]
      by_cases e : q = p
      · subst e; rw [if_pos ⟨rfl, hz⟩, if_pos rfl]
      · rw [if_neg (fun z => e (pos_ne.1 z.1).symm), if_neg e]
    rw [hsw, decide_eq_true hz]
    have toRaw : ∀ q, raw p V false q → raw p (V.swap (pos p) 0 1) true q := fun q hq => by
      unfold raw posted1
      rw [rd']
      by_cases e : q = p
      · right; exact ⟨by rw [if_pos e], rfl, e⟩
      · left; rw [if_neg e]; exact nr q hq
    refine ⟨⟨by rw [len_swap]; exact b1, by rw [rd_swap b1 hp, if_neg (fun z => one_ne p z.1)]; exact b2, b3, b4, b5, b6⟩, j, hj, hi, fun q hq => ?_, fun q hq hjq => toRaw q (h2 q hq hjq), ?_⟩
    · have := nf q (h1 q hq)
      left; rw [rd', if_neg (fun e => by subst e; omega)]; exact this
    · unfold now at h3 ⊢
      rcases h3 with ⟨g1, g2, g3, g4⟩ | ⟨g1, g2⟩ | ⟨g1, g2, g3⟩ | ⟨g1, g2, g3⟩ | ⟨g1, g2, g3⟩
      · exact .inl ⟨g1, g2, g3, toRaw 0 g4⟩
      · refine .inr (.inl ⟨g1, ?_⟩)
        rcases g2 with ⟨k1, k2⟩ | ⟨k1, k2⟩ | ⟨k1, k2⟩ | ⟨k1, k2⟩
        · rcases toRaw j (.inl k1) with k | k
          · exact .inl ⟨k, k2⟩
          · exact .inr (.inl ⟨k, by omega⟩)
        · cases k1.2.1
        · refine .inr (.inr (.inl ⟨?_, k2⟩))
          rw [rd', if_neg (fun e => by subst e; omega)]; exact k1
        · cases k1.2.1
      · exact .inr (.inr (.inl ⟨g1, toRaw j g2, g3⟩))
      · cases g2.2.1
      · cases g2.2.1
  · have rd' : ∀ z, (V.swap (pos p) 0 1).rd z = V.rd z := fun z => by rw [rd_swap b1 hp, if_neg (fun q => hz q.2)]
    rw [hsw, decide_eq_false hz]
    refine ⟨⟨by rw [len_swap]; exact b1, by rw [rd']; exact b2, b3, b4, b5, b6⟩, j, hj, hi, fun q hq => (mono (clock := clock) (rd' _)).1 (h1 q hq), fun q hq hjq => (mono (clock := clock) (rd' _)).2.1 (h2 q hq hjq), ?_⟩
    unfold now at h3 ⊢
    unfold posted1 given raw at *
    unfold posted1 at *
    simp only [rd']
    exact h3

/-- A step of the seal. -/
theorem step {clock : Int} (hc0 : 0 ≤ clock) (hc1 : clock ≤ 65535) {p i : Nat} {x : SealM} {V : Vw} {d : Bool} (h : inv clock p i x V d) :
    ((x.step V).1.line ≠ 0 ∧ inv clock p (i + 1) (x.step V).1 (x.step V).2 d) ∨ ((x.step V).1.line = 0 ∧ ended clock p (x.step V).2 d) := by
  obtain ⟨⟨b1, b2, b3, b4, b5, b6⟩, j, hj, hi, h1, h2, h3⟩ := h
  have hst : x.st = pos j := by
    unfold SealM.st psF pos
    rw [if_pos b6, b4, hi]
    rw [show W64 (15 + 7) = 22 from wrapI (by omega) (by omega), show W64 (3 * (j : Int)) = 3 * (j : Int) from wrapI (by omega) (by omega)]
    exact wrapI (by omega) (by omega)
  have hsf : stateF clock = clock + 3 := by unfold stateF; rw [clamp_in hc0 (by omega)]
  have hnx : ∀ (U : Vw), U.ws.length = 200 → (∀ z, U.rd z = V.rd z) → fin clock p V d j → i + 1 ≤ 1 + 6 * (j + 1) → x.line ≠ 0 → (x.next.line ≠ 0 ∧ inv clock p (i + 1) x.next U d) ∨ (x.next.line = 0 ∧ ended clock p U d) := by
    intro U hU hr hf hle hl
    have hw : W64 (x.i + 1) = ((j + 1 : Nat) : Int) := by rw [hi]; exact wrapI (by omega) (by omega)
    have allf : ∀ q, q < j + 1 → fin clock p U d q := fun q hq => by
      rcases Nat.lt_or_eq_of_le (Nat.lt_succ_iff.1 hq) with q' | rfl
      · exact (mono (clock := clock) (hr _)).1 (h1 q q')
      · exact (mono (clock := clock) (hr _)).1 hf
    by_cases h6 : j + 1 < 6
    · left
      have e : x.next = { x with i := ((j + 1 : Nat) : Int), line := 3 } := by
        unfold SealM.next
        rw [hw, b3, if_pos (by omega)]
      rw [e]
      refine ⟨by simp, ⟨hU, by rw [hr]; exact b2, b3, b4, b5, b6⟩, j + 1, h6, rfl, allf, fun q hq hjq => (mono (clock := clock) (hr _)).2.1 (h2 q hq (by omega)), ?_⟩
      refine .inr (.inl ⟨rfl, ?_⟩)
      rcases (mono (clock := clock) (hr _)).2.1 (h2 (j + 1) h6 (by omega)) with k | k
      · exact .inl ⟨k, hle⟩
      · exact .inr (.inl ⟨k, by omega⟩)
    · right
      have e : x.next = { x with at' := 1, i := 0, line := 0 } := by
        unfold SealM.next
        rw [hw, b3, if_neg (by omega), if_neg (fun z => z.2 b5), b6]
      rw [e]
      exact ⟨rfl, hU, by rw [hr]; exact b2, fun q hq => allf q (by omega)⟩
  have ld : ∀ z y, (V.load z).rd y = V.rd y := fun _ _ => rfl
  have mk : ∀ (y : SealM) (U : Vw), y.c = x.c → y.c0 = x.c0 → y.c1 = x.c1 → y.at' = x.at' → y.i = x.i → U.ws.length = 200 → U.rd 1 = V.rd 1 → (∀ q, q ≠ j → U.rd (pos q) = V.rd (pos q)) → y.line ≠ 0 → now clock p j (i + 1) y U d →
      (y.line ≠ 0 ∧ inv clock p (i + 1) y U d) ∨ (y.line = 0 ∧ ended clock p U d) := fun y U e1 e2 e3 e4 e5 hU hk hr hl hn => by
    refine .inl ⟨hl, ⟨hU, by rw [hk]; exact b2, by rw [e1]; exact b3, by rw [e2]; exact b4, by rw [e3]; exact b5, by rw [e4]; exact b6⟩, j, hj, by rw [e5]; exact hi, fun q hq => (mono (clock := clock) (hr q (by omega))).1 (h1 q hq), fun q hq hjq => (mono (clock := clock) (hr q (by omega))).2.1 (h2 q hq hjq), hn⟩
  unfold now at h3
  rcases h3 with ⟨g1, rfl, rfl, g4⟩ | ⟨g1, g2⟩ | ⟨g1, g2, g3⟩ | ⟨g1, g2, g3⟩ | ⟨g1, g2, g4, g3⟩
  · have e : x.step V = ({ x with line := 3 }, V.store (W64 (x.c0 + 6)) 1) := by unfold SealM.step; rw [g1]; simp only [b5, if_true]
    rw [e]
    have h21 : W64 (x.c0 + 6) = 21 := by rw [b4]; exact wrapI (by omega) (by omega)
    have hr : ∀ z, z ≠ 21 → (V.store (W64 (x.c0 + 6)) 1).rd z = V.rd z := fun z hz => by rw [sx_rd_store, h21, if_neg (fun q => hz q.1.symm)]
    have hp21 : ∀ q, pos q ≠ 21 := fun q => by unfold pos; omega
    refine mk { x with line := 3 } _ rfl rfl rfl rfl rfl (by show (V.wr _ _).ws.length = 200; rw [vwr_len]; exact b1) (hr 1 (by omega)) (fun q _ => hr _ (hp21 q)) (by simp) (.inr (.inl ⟨rfl, ?_⟩))
    rcases (mono (clock := clock) (hr _ (hp21 0))).2.1 g4 with k | k
    · exact .inl ⟨k, by omega⟩
    · exact .inr (.inl ⟨k, by omega⟩)
  · have e : x.step V = (if V.rd (pos j) = 0 then { x with line := 4 } else if V.rd (pos j) = 1 then { x with line := 5 } else x.next, V.load (pos j)) := by unfold SealM.step; rw [g1]; simp only [hst]
    rw [e]
    rcases g2 with ⟨k1, k2⟩ | ⟨k1, k2⟩ | ⟨k1, k2⟩ | ⟨k1, k2⟩
    · simp only [k1, if_true]
      exact mk { x with line := 4 } _ rfl rfl rfl rfl rfl b1 rfl (fun _ _ => rfl) (by simp) (.inr (.inr (.inl ⟨rfl, .inl k1, by omega⟩)))
    · simp only [k1.1, Int.reduceEq, if_false, if_true]
      exact mk { x with line := 5 } _ rfl rfl rfl rfl rfl b1 rfl (fun _ _ => rfl) (by simp) (.inr (.inr (.inr (.inl ⟨rfl, k1, by omega⟩))))
    · simp only [k1, Int.reduceEq, if_false]
      exact hnx _ b1 (fun _ => rfl) (.inl k1) (by omega) (by omega)
    · simp only [k1.1, show ¬ clock + 3 = 0 from by omega, show ¬ clock + 3 = 1 from by omega, if_false]
      exact hnx _ b1 (fun _ => rfl) (.inr k1) (by omega) (by omega)
  · have e : x.step V = ({ x with line := 3 }, V.swap (pos j) 0 2) := by unfold SealM.step; rw [g1]; simp only [hst]
    rw [e]
    refine mk { x with line := 3 } _ rfl rfl rfl rfl rfl (by rw [len_swap]; exact b1) (by rw [rd_swap b1 hj, if_neg (fun z => one_ne j z.1)]) (fun q hq => by rw [rd_swap b1 hj, if_neg (fun z => hq (pos_ne.1 z.1).symm)]) (by simp) (.inr (.inl ⟨rfl, ?_⟩))
    rcases g2 with k | k
    · exact .inr (.inr (.inl ⟨by rw [rd_swap b1 hj, if_pos ⟨rfl, k⟩], by omega⟩))
    · refine .inr (.inl ⟨⟨?_, k.2⟩, by omega⟩)
      rw [rd_swap b1 hj, if_neg (fun z => by rw [k.1] at z; exact absurd z.2 (by decide))]; exact k.1
  · have e : x.step V = ({ x with g := V.rd 1, line := 6 }, V.load 1) := by unfold SealM.step; simp only [g1]
    rw [e]
    exact mk { x with g := V.rd 1, line := 6 } _ rfl rfl rfl rfl rfl b1 rfl (fun _ _ => rfl) (by simp) (.inr (.inr (.inr (.inr ⟨rfl, g2, b2, by omega⟩))))
  · have e : x.step V = ({ x with line := 3 }, V.swap (pos j) 1 (clock + 3)) := by unfold SealM.step; rw [g1]; simp only [hst, g4, hsf]
    rw [e]
    refine mk { x with line := 3 } _ rfl rfl rfl rfl rfl (by rw [len_swap]; exact b1) (by rw [rd_swap b1 hj, if_neg (fun z => one_ne j z.1)]) (fun q hq => by rw [rd_swap b1 hj, if_neg (fun z => hq (pos_ne.1 z.1).symm)]) (by simp) (.inr (.inl ⟨rfl, .inr (.inr (.inr ⟨⟨?_, g2.2⟩, by omega⟩))⟩))
    rw [rd_swap b1 hj, if_pos ⟨rfl, g2.1⟩]
theorem small {clock : Int} {p i : Nat} {x : SealM} {V : Vw} {d : Bool} (h : inv clock p i x V d) : i ≤ 36 ∧ x.line ≤ 6 ∧ x.at' ≤ 1 := by
  obtain ⟨⟨_, _, _, _, _, b6⟩, j, hj, _, _, _, h3⟩ := h
  unfold now at h3
  rcases h3 with ⟨g1, _⟩ | ⟨g1, g2⟩ | ⟨g1, g2⟩ | ⟨g1, g2⟩ | ⟨g1, g2⟩ <;> omega
end SA
end Go.Proofs.Ytakbnbmbiaejiaa
