/- A claim, step by step: numbers alone. -/
import Derived.Test.YtakbnbmbiaejiaaCellRun
namespace Go.Proofs.Ytakbnbmbiaejiaa
open Go.RowKit

def clmF (s : ClaimM × Vw) : ClaimM × Vw := s.1.step s.2
theorem claim_runs {V : Vw} {n : Nat} {cf : Cf} {t : Nat} {q g : Int} (hn : V.ws.length = n) (hn2 : 20 ≤ n) (ht : t < 8) (hv : g < cf.versions) (hg : V.rd 1 = g) (h0 : 0 ≤ g) (h1 : g ≤ 100000) (q0 : 0 ≤ q) (q1 : q ≤ 100000) :
    (∀ k, k < 5 → 0 < k → (iterS clmF k (ClaimM.new cf t q, V)).1.line = k + 1) ∧ ∃ V', iterS clmF 5 (ClaimM.new cf t q, V) = ({ ClaimM.new cf t q with line := 0, v := g, version := g }, V') ∧ V'.ws.length = n ∧
      ∀ j, V'.rd j = if j = 1 then g + 1 else if j = 3 + (t : Int) then claimF q (g + 2) else V.rd j := by
  have ps : psaF (t : Int) = 3 + t := w64_small (by omega) (by omega)
  have b1 : ∀ {U : Vw}, U.ws.length = n → U.inb 1 := fun h => vinb h (by omega) (by omega)
  have bp : ∀ {U : Vw}, U.ws.length = n → U.inb (3 + (t : Int)) := fun h => vinb h (by omega) (by omega)
  let x0 := ClaimM.new cf t q
  have e1 : clmF (x0, V) = ({ x0 with line := 2 }, V.load 1) := by
    simp only [clmF, ClaimM.step, ClaimM.new, x0, hg]
    rw [if_neg (by omega)]
  let V2 := (V.load 1).store (3 + (t : Int)) (claimF q 1)
  have e2 : clmF ({ x0 with line := 2 }, V.load 1) = ({ x0 with line := 3 }, V2) := by
    simp only [clmF, ClaimM.step, ClaimM.new, x0, ps, V2]
  have l2 : V2.ws.length = n := by show (Vw.store _ _ _).ws.length = _; rw [vlen_store]; exact hn
  have r2 : ∀ j, V2.rd j = if 3 + (t : Int) = j then claimF q 1 else V.rd j := fun j => by
    show (Vw.store _ _ _).rd j = _
    rw [vrd_store (V := V.load 1) (bp hn), sx_rd_load]
  have k2 : V2.rd 1 = g := by rw [r2, if_neg (by omega)]; exact hg
  let V3 := V2.add 1 1
  have e3 : clmF ({ x0 with line := 3 }, V2) = ({ x0 with line := 4, v := g }, V3) := by
    simp only [clmF, ClaimM.step, ClaimM.new, x0, k2, V3]
  have l3 : V3.ws.length = n := by show (Vw.add _ _ _).ws.length = _; rw [vlen_add]; exact l2
  have r3 : ∀ j, V3.rd j = if 1 = j then g + 1 else V2.rd j := fun j => by
    show (Vw.add _ _ _).rd j = _
    rw [vrd_add (b1 l2), k2, w64_small' (by omega) (by omega)]
  have k3 : V3.rd (3 + (t : Int)) = claimF q 1 := by rw [r3, if_neg (by omega), r2, if_pos rfl]
  have wg : W64 (g + 2) = g + 2 := w64_small (by omega) (by omega)
  let V4 := V3.swap (3 + (t : Int)) (claimF q 1) (claimF q (g + 2))
  have e4 : clmF ({ x0 with line := 4, v := g }, V3) = ({ x0 with line := 5, v := g }, V4) := by
    simp only [clmF, ClaimM.step, ClaimM.new, x0, ps, wg, V4]
  have l4 : V4.ws.length = n := by show (Vw.swap _ _ _ _).ws.length = _; rw [vlen_swap]; exact l3
  have r4 : ∀ j, V4.rd j = if 3 + (t : Int) = j then claimF q (g + 2) else V3.rd j := fun j => by
    show (Vw.swap _ _ _ _).rd j = _
    rw [vrd_swap (bp l3)]
    by_cases e : 3 + (t : Int) = j
    · rw [if_pos ⟨e, k3⟩, if_pos e]
    · rw [if_neg (fun z => e z.1), if_neg e]
  have k4 : V4.rd (3 + (t : Int)) = claimF q (g + 2) := by rw [r4, if_pos rfl]
  have hpart : partF (claimF q (g + 2)) = g + 2 := by
    rw [claimF_in (by omega) (by omega) (by omega) (by omega)]; unfold partF; omega
  have e5 : clmF ({ x0 with line := 5, v := g }, V4) = ({ x0 with line := 0, v := g, version := g }, V4.load (3 + (t : Int))) := by
    simp only [clmF, ClaimM.step, ClaimM.new, x0, ps, k4, hpart]
    rw [show g + 2 - 2 = g from by omega, w64_small (by omega) (by omega)]
  clear_value V4 V3 V2
  have it0 : iterS clmF 0 (x0, V) = (x0, V) := rfl
  have it1 : iterS clmF 1 (x0, V) = ({ x0 with line := 2 }, V.load 1) := by rw [show (1 : Nat) = 0 + 1 from rfl, iterS_s, it0, e1]
  have it2 : iterS clmF 2 (x0, V) = ({ x0 with line := 3 }, V2) := by rw [show (2 : Nat) = 1 + 1 from rfl, iterS_s, it1, e2]
  have it3 : iterS clmF 3 (x0, V) = ({ x0 with line := 4, v := g }, V3) := by rw [show (3 : Nat) = 2 + 1 from rfl, iterS_s, it2, e3]
  have it4 : iterS clmF 4 (x0, V) = ({ x0 with line := 5, v := g }, V4) := by rw [show (4 : Nat) = 3 + 1 from rfl, iterS_s, it3, e4]
  have it5 : iterS clmF 5 (x0, V) = ({ x0 with line := 0, v := g, version := g }, V4.load (3 + (t : Int))) := by rw [show (5 : Nat) = 4 + 1 from rfl, iterS_s, it4, e5]
  refine ⟨fun k hk h0 => ?_, _, it5, l4, fun j => ?_⟩
  · have hr : k = 1 ∨ k = 2 ∨ k = 3 ∨ k = 4 := by omega
    show (iterS clmF k (x0, V)).1.line = k + 1
    rcases hr with rfl | rfl | rfl | rfl
    · rw [it1]
    · rw [it2]
    · rw [it3]
    · rw [it4]
  · rw [sx_rd_load, r4, r3, r2]
    by_cases a : j = 1
    · rw [if_pos a, if_neg (by omega), if_pos a.symm]
    · rw [if_neg a]
      by_cases b : j = 3 + (t : Int)
      · rw [if_pos b, if_pos b.symm]
      · rw [if_neg b, if_neg (fun z => b z.symm), if_neg (fun z => a z.symm), if_neg (fun z => b z.symm)]
namespace CR
abbrev S (t : Nat) (q : Int) (V : Vw) (k : Nat) : ClaimM × Vw := iterS clmF k (ClaimM.new ⟨4, 6, 200, 1000⟩ t q, V)
theorem S_zero (t : Nat) (q : Int) (V : Vw) : S t q V 0 = (ClaimM.new ⟨4, 6, 200, 1000⟩ t q, V) := rfl
theorem S_succ (t : Nat) (q : Int) (V : Vw) (k : Nat) : (S t q V k).1.step (S t q V k).2 = S t q V (k + 1) := rfl
attribute [local irreducible] iterS ClaimM.step clmF claimF partF
/-- Of i claims: the clock, the threads' words. -/
structure inv (start : Int) (i : Nat) (w0 w1 w2 w3 : Int) (V : Vw) : Prop where
  len : V.ws.length = 200
  clk : V.rd 1 = start + i
  w0 : V.rd 3 = w0
  w1 : V.rd 4 = w1
  w2 : V.rd 5 = w2
  w3 : V.rd 6 = w3
def pick4 (t j : Nat) (a b : Int) : Int := if t = j then a else b
theorem run {start : Int} (h0 : 0 ≤ start) (h1 : start < 900) {i : Nat} (hi : i < 30) {w0 w1 w2 w3 : Int} {V : Vw} (h : inv start i w0 w1 w2 w3 V) {t : Nat} (ht : t < 4) :
    (∀ k, k < 5 → (S t (i + 1) V k).1.line ≤ 5 ∧ (0 < k → (S t (i + 1) V k).1.line ≠ 0)) ∧ (S t (i + 1) V 5).1.line = 0 ∧ (S t (i + 1) V 5).1.err = false ∧ (S t (i + 1) V 5).1.version = start + i ∧
    inv start (i + 1) (pick4 t 0 (claimF (i + 1) (start + i + 2)) w0) (pick4 t 1 (claimF (i + 1) (start + i + 2)) w1) (pick4 t 2 (claimF (i + 1) (start + i + 2)) w2) (pick4 t 3 (claimF (i + 1) (start + i + 2)) w3) (S t (i + 1) V 5).2 := by
  obtain ⟨a, V', b, c, d⟩ := claim_runs (cf := ⟨4, 6, 200, 1000⟩) (t := t) (q := (i : Int) + 1) h.len (by decide) (by omega) (g := start + i) (by show start + i < 1000; omega) h.clk (by omega) (by omega) (by omega) (by omega)
  have b' : S t (i + 1) V 5 = _ := b
  rw [b']
  refine ⟨fun k hk => ?_, rfl, rfl, rfl, c, ?_, ?_, ?_, ?_, ?_⟩
  · cases k with
    | zero => rw [S_zero]; exact ⟨by show 1 ≤ 5; decide, fun z => by omega⟩
    | succ k =>
      have z : (S t (i + 1) V (k + 1)).1.line = k + 1 + 1 := a (k + 1) hk (by omega)
      rw [z]; exact ⟨by omega, fun _ => by omega⟩
  · rw [d, if_pos rfl]; omega
  · rw [d, if_neg (by omega)]; unfold pick4; by_cases e : t = 0
    · rw [if_pos (by omega), if_pos e]
    · rw [if_neg (by omega), if_neg e]; exact h.w0
  · rw [d, if_neg (by omega)]; unfold pick4; by_cases e : t = 1
    · rw [if_pos (by omega), if_pos e]
    · rw [if_neg (by omega), if_neg e]; exact h.w1
  · rw [d, if_neg (by omega)]; unfold pick4; by_cases e : t = 2
    · rw [if_pos (by omega), if_pos e]
    · rw [if_neg (by omega), if_neg e]; exact h.w2
  · rw [d, if_neg (by omega)]; unfold pick4; by_cases e : t = 3
    · rw [if_pos (by omega), if_pos e]
    · rw [if_neg (by omega), if_neg e]; exact h.w3
theorem start {s : Int} : inv s 0 0 0 0 0 ((Cf.arena ⟨4, 6, 200, 1000⟩).wr 1 s) := by
  have hz : ∀ q : Int, (3 ≤ q ∧ q ≤ 6) → ((Cf.arena ⟨4, 6, 200, 1000⟩).wr 1 s).rd q = 0 := fun q hq => by
    simp only [sx_rd_wr, sx_rd_arena, sx_lies]
    repeat' split
    all_goals omega
  refine ⟨by simp [Cf.arena], ?_, hz _ (by omega), hz _ (by omega), hz _ (by omega), hz _ (by omega)⟩
  simp
end CR
end Go.Proofs.Ytakbnbmbiaejiaa
