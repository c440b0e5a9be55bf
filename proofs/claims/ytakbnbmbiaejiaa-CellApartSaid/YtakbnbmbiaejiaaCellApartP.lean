/- CellApart: two puts by turns: numbers alone. -/
import Derived.Test.YtakbnbmbiaejiaaCellRun
namespace Go.Proofs.Ytakbnbmbiaejiaa.CA
open Go.RowKit Go.Proofs.Ytakbnbmbiaejiaa

def n1 : Option Nat → Nat
  | none => 0
  | some _ => 1
/-- Which line a put is at, what its cell holds then. -/
def Ph (o : Option Nat) (ky d : Int) (x : CellM) (V : Vw) : Prop :=
  x.c = ⟨2, 5, 200, 1000⟩ ∧ x.chunk = 16 ∧ x.key = ky ∧ x.data = d ∧
  match o with
  | none => x.line = 1 ∨ x.line = 2
  | some i => i < 2 ∧ x.i = (i : Int) ∧
    ((x.line = 3 ∧ V.rd (cpos 16 i) = 0) ∨ (x.line = 4 ∧ V.rd (cpos 16 i) = 0 ∧ V.rd (cpos 16 i + 1) = ky) ∨
     (V.rd (cpos 16 i + 1) = ky ∧ V.rd (cpos 16 i + 2) = d ∧
      ((x.line = 5 ∧ V.rd (cpos 16 i) = 0) ∨ (x.line = 6 ∧ V.rd (cpos 16 i) = 1) ∨ (x.line = 7 ∧ V.rd (cpos 16 i) = 1 ∧ x.g = 0) ∨ (x.line = 8 ∧ V.rd (cpos 16 i) = 3) ∨
       (x.line = 0 ∧ V.rd (cpos 16 i) = 3 ∧ x.version = 0 ∧ x.ok = true))))
def ap : Option Nat → Option Nat → Prop
  | some i, some j => i ≠ j
  | some i, none => i = 0
  | none, some j => j = 0
  | none, none => True
structure Cm (o o' : Option Nat) (V : Vw) : Prop where
  len : V.ws.length = 200
  clk : V.rd 1 = 0
  st : V.rd 22 = 0
  cnt : V.rd 17 = ((n1 o + n1 o' : Nat) : Int)
  free : ∀ q : Nat, n1 o + n1 o' ≤ q → q < 2 → V.rd (cpos 16 q) = 0
  apart : ap o o'
structure Inv (k1 d1 k2 d2 : Int) (x y : CellM) (V : Vw) : Prop where
  ex : ∃ o o', Ph o k1 d1 x V ∧ Ph o' k2 d2 y V ∧ Cm o o' V
theorem Inv.symm {k1 d1 k2 d2 : Int} {x y : CellM} {V : Vw} (h : Inv k1 d1 k2 d2 x y V) : Inv k2 d2 k1 d1 y x V := by
  obtain ⟨o, o', h1, h2, hc⟩ := h
  refine ⟨o', o, h2, h1, hc.len, hc.clk, hc.st, by rw [hc.cnt, Nat.add_comm], fun q hq => hc.free q (by omega), ?_⟩
  have := hc.apart
  cases o <;> cases o' <;> simp_all [ap]
  exact fun z => this z.symm
theorem Ph.line {o : Option Nat} {k d : Int} {x : CellM} {V : Vw} (h : Ph o k d x V) : x.line ≤ 8 := by
  obtain ⟨_, _, _, _, h⟩ := h
  cases o with
  | none => rcases h with h | h <;> omega
  | some i => obtain ⟨_, _, h⟩ := h; omega
theorem Inv.line {k1 d1 k2 d2 : Int} {x y : CellM} {V : Vw} (h : Inv k1 d1 k2 d2 x y V) : x.line ≤ 8 ∧ y.line ≤ 8 := by
  obtain ⟨o, o', h1, h2, _⟩ := h
  exact ⟨h1.line, h2.line⟩
theorem cp (q : Nat) : cpos 16 q = 23 + 3 * (q : Int) := by unfold cpos; omega
theorem Ph.keep {o : Option Nat} {k d : Int} {x : CellM} {V V' : Vw} (h : Ph o k d x V) (hr : ∀ i : Nat, o = some i → ∀ j, cpos 16 i ≤ j → j ≤ cpos 16 i + 2 → V'.rd j = V.rd j) : Ph o k d x V' := by
  obtain ⟨a, b, c, e, h⟩ := h
  refine ⟨a, b, c, e, ?_⟩
  cases o with
  | none => exact h
  | some i =>
    have h0 := hr i rfl (cpos 16 i) (by omega) (by omega)
    have h1 := hr i rfl (cpos 16 i + 1) (by omega) (by omega)
    have h2 := hr i rfl (cpos 16 i + 2) (by omega) (by omega)
    simp only [h0, h1, h2]
    exact h
/-- A step that changes the put's own cell alone. -/
theorem own {i : Nat} {o' : Option Nat} {k1 d1 k2 d2 : Int} {x x' y : CellM} {V V' : Vw} (h : Ph (some i) k1 d1 x V) (h2 : Ph o' k2 d2 y V) (hc : Cm (some i) o' V) (hl : V'.ws.length = 200)
    (hr : ∀ j, (j < cpos 16 i ∨ cpos 16 i + 2 < j) → V'.rd j = V.rd j) (hx : Ph (some i) k1 d1 x' V') : Inv k1 d1 k2 d2 x' y V' := by
  obtain ⟨_, _, _, _, hi, _⟩ := h
  have hp := cp i
  refine ⟨some i, o', hx, h2.keep fun j e q h0 h1 => ?_, hl, ?_, ?_, ?_, fun q hq hq2 => ?_, hc.apart⟩
  · subst e
    have hne : i ≠ j := hc.apart
    have hpj := cp j
    exact hr q (by omega)
  · rw [hr _ (by omega)]; exact hc.clk
  · rw [hr _ (by omega)]; exact hc.st
  · rw [hr _ (by omega)]; exact hc.cnt
  · have hpq := cp q
    have hle : i ≠ q := by
      intro e; subst e
      cases o' with
      | none => have : i = 0 := hc.apart; simp [n1] at hq; omega
      | some j => simp [n1] at hq; omega
    rw [hr _ (by omega)]; exact hc.free q hq hq2
theorem step {k1 d1 k2 d2 : Int} {x y : CellM} {V : Vw} (h : Inv k1 d1 k2 d2 x y V) : Inv k1 d1 k2 d2 (x.step V).1 y (x.step V).2 ∧ (x.line = 0 → (x.step V).1.line = 0) ∧ (0 < x.line → (x.step V).1.line = 0 ∨ (x.step V).1.line = x.line + 1) ∧ (x.line = 8 → (x.step V).1.line = 0) := by
  obtain ⟨o, o', h1, h2, hc⟩ := h
  have h1' := h1
  obtain ⟨e1, e2, e3, e4, hs⟩ := h1
  have w6 : W64 (16 + 6) = 22 := rfl
  have w1 : W64 (16 + 1) = 17 := rfl
  cases o with
  | none =>
    rcases hs with hl | hl
    · have es : x.step V = ({ x with line := 2 }, V.load 22) := by simp only [CellM.step, hl, e2, w6, hc.st, if_true]
      rw [es]
      exact ⟨⟨none, o', ⟨e1, e2, e3, e4, .inr rfl⟩, h2.keep fun _ _ _ _ _ => sx_rd_load .., hc.len, by rw [sx_rd_load]; exact hc.clk, by rw [sx_rd_load]; exact hc.st, by rw [sx_rd_load]; exact hc.cnt, fun q a b => by rw [sx_rd_load]; exact hc.free q a b, hc.apart⟩, fun z => by omega, fun _ => .inr (by rw [hl]), fun z => by omega⟩
    · have hn : n1 o' < 2 := by cases o' <;> simp [n1]
      have hcnt : V.rd 17 = (n1 o' : Int) := by rw [hc.cnt]; simp [n1]
      have es : x.step V = ({ x with i := (n1 o' : Int), line := 3 }, V.add 17 1) := by
        simp only [CellM.step, hl, e1, e2, w1, hcnt]
        rw [if_neg (by omega)]
      have hb : V.inb 17 := vinb hc.len (by omega) (by omega)
      have hr : ∀ j, (V.add 17 1).rd j = if 17 = j then (n1 o' : Int) + 1 else V.rd j := fun j => by rw [vrd_add hb, hcnt, w64_small' (by omega) (by omega)]
      rw [es]
      have hp := cp (n1 o')
      refine ⟨⟨some (n1 o'), o', ⟨e1, e2, e3, e4, hn, rfl, .inl ⟨rfl, ?_⟩⟩, h2.keep fun j _ q h0 _ => ?_, by rw [vlen_add]; exact hc.len, ?_, ?_, ?_, fun q hq hq2 => ?_, ?_⟩, fun z => by omega, fun _ => .inr (by rw [hl]), fun z => by omega⟩
      · rw [hr, if_neg (by omega)]; exact hc.free _ (by simp [n1]) hn
      · have := cp j; rw [hr, if_neg (by omega)]
      · rw [hr, if_neg (by omega)]; exact hc.clk
      · rw [hr, if_neg (by omega)]; exact hc.st
      · rw [hr, if_pos rfl]; simp only [n1]; omega
      · have := cp q; rw [hr, if_neg (by omega)]; exact hc.free q (by simp [n1] at hq ⊢; omega) hq2
      · have ha := hc.apart
        cases o' with
        | none => rfl
        | some j => have : j = 0 := ha; subst this; simp [ap, n1]
  | some i =>
    obtain ⟨hi, ei, hs⟩ := hs
    have hp := cp i
    have ps : psF 16 (i : Int) = cpos 16 i := psF_cpos (c := 16) (q := i) (by omega) (by omega)
    have p1 : W64 (cpos 16 i + 1) = cpos 16 i + 1 := w64_small (by omega) (by omega)
    have p2 : W64 (cpos 16 i + 2) = cpos 16 i + 2 := w64_small (by omega) (by omega)
    have hb : V.inb (cpos 16 i) := vinb hc.len (by omega) (by omega)
    have hb1 : V.inb (cpos 16 i + 1) := vinb hc.len (by omega) (by omega)
    have hb2 : V.inb (cpos 16 i + 2) := vinb hc.len (by omega) (by omega)
    rcases hs with ⟨hl, r0⟩ | ⟨hl, r0, r1⟩ | ⟨r1, r2, ⟨hl, r0⟩ | ⟨hl, r0⟩ | ⟨hl, r0, hg⟩ | ⟨hl, r0⟩ | ⟨hl, r0, hv, hk⟩⟩
    · have es : x.step V = ({ x with line := 4 }, V.store (cpos 16 i + 1) x.key) := by simp only [CellM.step, hl, CellM.at, e2, ei, ps, p1]
      have hr := fun j => vrd_store hb1 x.key j
      rw [es]
      refine ⟨own h1' h2 hc (by rw [vlen_store]; exact hc.len) (fun j hj => by rw [hr, if_neg (by omega)]) ⟨e1, e2, e3, e4, hi, ei, .inr (.inl ⟨rfl, ?_, ?_⟩)⟩, fun z => by omega, fun _ => .inr (by rw [hl]), fun z => by omega⟩
      · rw [hr, if_neg (by omega)]; exact r0
      · rw [hr, if_pos rfl]; exact e3
    · have es : x.step V = ({ x with line := 5 }, V.store (cpos 16 i + 2) x.data) := by simp only [CellM.step, hl, CellM.at, e2, ei, ps, p2]
      have hr := fun j => vrd_store hb2 x.data j
      rw [es]
      refine ⟨own h1' h2 hc (by rw [vlen_store]; exact hc.len) (fun j hj => by rw [hr, if_neg (by omega)]) ⟨e1, e2, e3, e4, hi, ei, .inr (.inr ⟨?_, ?_, .inl ⟨rfl, ?_⟩⟩)⟩, fun z => by omega, fun _ => .inr (by rw [hl]), fun z => by omega⟩
      · rw [hr, if_neg (by omega)]; exact r1
      · rw [hr, if_pos rfl]; exact e4
      · rw [hr, if_neg (by omega)]; exact r0
    · have es : x.step V = ({ x with line := 6 }, V.swap (cpos 16 i) 0 1) := by
        simp only [CellM.step, hl, CellM.at, e2, ei, ps]
        rw [vswaps hb, r0]; rfl
      have hr := fun j => vrd_swap hb 0 1 j
      rw [es]
      refine ⟨own h1' h2 hc (by rw [vlen_swap]; exact hc.len) (fun j hj => by rw [hr, if_neg (by omega)]) ⟨e1, e2, e3, e4, hi, ei, .inr (.inr ⟨?_, ?_, .inr (.inl ⟨rfl, ?_⟩)⟩)⟩, fun z => by omega, fun _ => .inr (by rw [hl]), fun z => by omega⟩
      · rw [hr, if_neg (by omega)]; exact r1
      · rw [hr, if_neg (by omega)]; exact r2
      · rw [hr, if_pos ⟨rfl, r0⟩]
    · have es : x.step V = ({ x with g := 0, line := 7 }, V.load 1) := by simp only [CellM.step, hl, hc.clk]
      rw [es]
      refine ⟨own h1' h2 hc hc.len (fun j hj => sx_rd_load ..) ⟨e1, e2, e3, e4, hi, ei, .inr (.inr ⟨by rw [sx_rd_load]; exact r1, by rw [sx_rd_load]; exact r2, .inr (.inr (.inl ⟨rfl, by rw [sx_rd_load]; exact r0, rfl⟩))⟩)⟩, fun z => by omega, fun _ => .inr (by rw [hl]), fun z => by omega⟩
    · have s0 : stateF 0 = 3 := by decide
      have es : x.step V = ({ x with line := 8 }, V.swap (cpos 16 i) 1 3) := by simp only [CellM.step, hl, CellM.at, e2, ei, ps, hg, s0]
      have hr := fun j => vrd_swap hb 1 3 j
      rw [es]
      refine ⟨own h1' h2 hc (by rw [vlen_swap]; exact hc.len) (fun j hj => by rw [hr, if_neg (by omega)]) ⟨e1, e2, e3, e4, hi, ei, .inr (.inr ⟨?_, ?_, .inr (.inr (.inr (.inl ⟨rfl, ?_⟩)))⟩)⟩, fun z => by omega, fun _ => .inr (by rw [hl]), fun z => by omega⟩
      · rw [hr, if_neg (by omega)]; exact r1
      · rw [hr, if_neg (by omega)]; exact r2
      · rw [hr, if_pos ⟨rfl, r0⟩]
    · have v3 : verW 3 = 0 := rfl
      have es : x.step V = ({ x with version := 0, ok := true, line := 0 }, V.load (cpos 16 i)) := by
        simp only [CellM.step, hl, CellM.at, e2, ei, ps, r0, v3]
        rw [if_pos (by omega)]
      rw [es]
      refine ⟨own h1' h2 hc hc.len (fun j hj => sx_rd_load ..) ⟨e1, e2, e3, e4, hi, ei, .inr (.inr ⟨by rw [sx_rd_load]; exact r1, by rw [sx_rd_load]; exact r2, .inr (.inr (.inr (.inr ⟨rfl, by rw [sx_rd_load]; exact r0, rfl, rfl⟩)))⟩)⟩, fun z => by omega, fun _ => .inl rfl, fun _ => rfl⟩
    · have es : x.step V = (x, V) := by simp only [CellM.step, hl]
      rw [es]
      exact ⟨⟨some i, o', h1', h2, hc⟩, fun z => z, fun z => by omega, fun z => by omega⟩
theorem step' {k1 d1 k2 d2 : Int} {x y : CellM} {V : Vw} (h : Inv k1 d1 k2 d2 x y V) : Inv k1 d1 k2 d2 x (y.step V).1 (y.step V).2 ∧ (y.line = 0 → (y.step V).1.line = 0) ∧ (0 < y.line → (y.step V).1.line = 0 ∨ (y.step V).1.line = y.line + 1) ∧ (y.line = 8 → (y.step V).1.line = 0) := by
  obtain ⟨a, b⟩ := step h.symm
  exact ⟨a.symm, b⟩
/-- So many rounds are behind. -/
def Late (r : Nat) (x y : CellM) : Prop := (x.line = 0 ∨ r < x.line) ∧ (y.line = 0 ∨ r < y.line)
theorem both {k1 d1 k2 d2 : Int} {x y : CellM} {V : Vw} (h : Inv k1 d1 k2 d2 x y V) {r : Nat} (hr : Late r x y) :
    Inv k1 d1 k2 d2 (x.step V).1 (y.step (x.step V).2).1 (y.step (x.step V).2).2 ∧ Late (r + 1) (x.step V).1 (y.step (x.step V).2).1 := by
  obtain ⟨a1, a2, a3, a4⟩ := step h
  obtain ⟨b1, b2, b3, b4⟩ := step' a1
  refine ⟨b1, ?_, ?_⟩
  · rcases hr.1 with z | z
    · exact .inl (a2 z)
    · rcases a3 (by omega) with q | q
      · exact .inl q
      · exact .inr (by omega)
  · rcases hr.2 with z | z
    · exact .inl (b2 z)
    · rcases b3 (by omega) with q | q
      · exact .inl q
      · exact .inr (by omega)
/-- At the end. -/
theorem ends {k1 d1 k2 d2 : Int} {x y : CellM} {V : Vw} (h : Inv k1 d1 k2 d2 x y V) (hr : Late 9 x y) :
    x.ok = true ∧ y.ok = true ∧ x.version = 0 ∧ y.version = 0 ∧ V.rd 17 = 2 ∧
    ((x.i = 0 ∧ y.i = 1 ∧ V.rd 25 = d1 ∧ V.rd 28 = d2 ∧ V.rd 24 = k1 ∧ V.rd 27 = k2) ∨ (x.i = 1 ∧ y.i = 0 ∧ V.rd 28 = d1 ∧ V.rd 25 = d2 ∧ V.rd 27 = k1 ∧ V.rd 24 = k2)) := by
  have hl := h.line
  obtain ⟨o, o', ⟨_, _, _, _, h1⟩, ⟨_, _, _, _, h2⟩, hc⟩ := h
  have l1 : x.line = 0 := by have := hr.1; omega
  have l2 : y.line = 0 := by have := hr.2; omega
  cases o with
  | none => exact absurd h1 (by omega)
  | some i =>
    cases o' with
    | none => exact absurd h2 (by omega)
    | some j =>
      obtain ⟨hi, ei, h1⟩ := h1
      obtain ⟨hj, ej, h2⟩ := h2
      have hne : i ≠ j := hc.apart
      have hcnt : V.rd 17 = 2 := hc.cnt
      have q0 : cpos 16 0 = 23 := rfl
      have q1 : cpos 16 1 = 26 := rfl
      rcases h1 with ⟨hl, _⟩ | ⟨hl, _⟩ | ⟨r1, r2, ⟨hl, _⟩ | ⟨hl, _⟩ | ⟨hl, _⟩ | ⟨hl, _⟩ | ⟨_, _, hv, hk⟩⟩ <;> try omega
      rcases h2 with ⟨hl, _⟩ | ⟨hl, _⟩ | ⟨s1, s2, ⟨hl, _⟩ | ⟨hl, _⟩ | ⟨hl, _⟩ | ⟨hl, _⟩ | ⟨_, _, hv', hk'⟩⟩ <;> try omega
      refine ⟨hk, hk', hv, hv', hcnt, ?_⟩
      have : (i = 0 ∧ j = 1) ∨ (i = 1 ∧ j = 0) := by omega
      rcases this with ⟨rfl, rfl⟩ | ⟨rfl, rfl⟩
      · exact .inl ⟨ei, ej, r2, s2, r1, s1⟩
      · exact .inr ⟨ei, ej, r2, s2, r1, s1⟩
theorem start (k1 k2 : Int) : Inv k1 111 k2 222 (CellM.new ⟨2, 5, 200, 1000⟩ 16 k1 111) (CellM.new ⟨2, 5, 200, 1000⟩ 16 k2 222) (Cf.arena ⟨2, 5, 200, 1000⟩) := by
  have hz : ∀ q : Int, (q = 1 ∨ q = 22 ∨ q = 17 ∨ (23 ≤ q ∧ q < 30)) → (Cf.arena ⟨2, 5, 200, 1000⟩).rd q = 0 := fun q hq => by
    simp only [sx_rd_arena, sx_lies]
    repeat' split
    all_goals omega
  exact ⟨none, none, ⟨rfl, rfl, rfl, rfl, .inl rfl⟩, ⟨rfl, rfl, rfl, rfl, .inl rfl⟩, by simp [Cf.arena], hz _ (by omega), hz _ (by omega), hz _ (by omega), fun q _ hq => hz _ (by have := cp q; omega), trivial⟩
end Go.Proofs.Ytakbnbmbiaejiaa.CA
