/- A put, step by step, in a chunk of the first kind: numbers alone. -/
import Derived.Test.YtakbnbmbiaejiaaSxM
namespace Go.Proofs.Ytakbnbmbiaejiaa
open Go.RowKit

/-- The word of a cell's state in a chunk that lies at c. -/
def cpos (c q : Nat) : Int := (c : Int) + 7 + 3 * (q : Int)
theorem psF_cpos {c q : Nat} (hc : c ≤ 20000) (hq : q ≤ 16) : psF (c : Int) (q : Int) = cpos c q := by
  unfold psF cpos
  rw [show W64 ((c : Int) + 7) = (c : Int) + 7 from wrapI (by omega) (by omega), show W64 (3 * (q : Int)) = 3 * (q : Int) from wrapI (by omega) (by omega)]
  exact wrapI (by omega) (by omega)
theorem w64_small {x : Int} (h0 : -100000 ≤ x) (h1 : x ≤ 100000000) : W64 x = x := wrapI (by omega) (by omega)
theorem w64_small' {x : Int} (h0 : -100000 ≤ x) (h1 : x ≤ 100000000) : wrap64 x = x := by unfold wrap64; omega
theorem vlen_store (V : Vw) (i v : Int) : (V.store i v).ws.length = V.ws.length := by show (V.wr i v).ws.length = _; exact vwr_len ..
theorem vlen_add (V : Vw) (i v : Int) : (V.add i v).ws.length = V.ws.length := by show (V.wr i _).ws.length = _; exact vwr_len ..
theorem vlen_load (V : Vw) (i : Int) : (V.load i).ws.length = V.ws.length := rfl
theorem vlen_swap (V : Vw) (i o v : Int) : (V.swap i o v).ws.length = V.ws.length := by
  show (if V.swaps i o then V.wr i v else V).ws.length = _
  split
  · exact vwr_len ..
  · rfl
theorem vrd_store {V : Vw} {i : Int} (hi : V.inb i) (v j : Int) : (V.store i v).rd j = if i = j then v else V.rd j := by
  rw [sx_rd_store]; by_cases e : i = j
  · rw [if_pos e, if_pos ⟨e, hi⟩]
  · rw [if_neg e, if_neg (fun q => e q.1)]
theorem vrd_add {V : Vw} {i : Int} (hi : V.inb i) (v j : Int) : (V.add i v).rd j = if i = j then wrap64 (V.rd i + v) else V.rd j := by
  rw [sx_rd_add]; by_cases e : i = j
  · rw [if_pos e, if_pos ⟨e, hi⟩]
  · rw [if_neg e, if_neg (fun q => e q.1)]
theorem vrd_swap {V : Vw} {i : Int} (hi : V.inb i) (o v j : Int) : (V.swap i o v).rd j = if i = j ∧ V.rd i = o then v else V.rd j := by
  rw [sx_rd_swap]; by_cases e : i = j ∧ V.rd i = o
  · rw [if_pos e, if_pos ⟨e.1, hi, e.2⟩]
  · rw [if_neg e, if_neg (fun q => e ⟨q.1, q.2.2⟩)]
theorem vinb {V : Vw} {n : Nat} (h : V.ws.length = n) {i : Int} (h0 : 0 ≤ i) (h1 : i < n) : V.inb i := by unfold Vw.inb; omega
theorem vswaps {V : Vw} {i : Int} (hi : V.inb i) (o : Int) : V.swaps i o = decide (V.rd i = o) := by
  rw [sx_swaps]; exact decide_eq_decide.2 ⟨fun z => z.2, fun z => ⟨hi, z⟩⟩
/-- A run of a step function. -/
def iterS {α : Type} (f : α → α) : Nat → α → α
  | 0, s => s
  | n + 1, s => f (iterS f n s)
theorem iterS_s {α : Type} (f : α → α) (n : Nat) (s : α) : iterS f (n + 1) s = f (iterS f n s) := rfl
def cellF (s : CellM × Vw) : CellM × Vw := s.1.step s.2

/-- A put that finds no cell. -/
theorem cell_none {V : Vw} {c n : Nat} {cf : Cf} {ky d : Int} (hn : V.ws.length = n) (hc : c ≤ 1000) (hcn : c + 60 ≤ n) (hs : V.rd ((c : Int) + 6) = 0) {i : Nat} (hi : V.rd ((c : Int) + 1) = (i : Int)) (hfull : cf.cap ≤ (i : Int)) (hi2 : i ≤ 1000) :
    (iterS cellF 1 (CellM.new cf c ky d, V)).1.line = 2 ∧ ∃ V', iterS cellF 2 (CellM.new cf c ky d, V) = ({ CellM.new cf c ky d with line := 0 }, V') ∧ V'.ws.length = n ∧ ∀ j, V'.rd j = if j = (c : Int) + 1 then (i : Int) + 1 else V.rd j := by
  have w6 : W64 ((c : Int) + 6) = (c : Int) + 6 := w64_small (by omega) (by omega)
  have w1 : W64 ((c : Int) + 1) = (c : Int) + 1 := w64_small (by omega) (by omega)
  have e1 : cellF (CellM.new cf c ky d, V) = ({ CellM.new cf c ky d with line := 2 }, V.load ((c : Int) + 6)) := by
    simp only [cellF, CellM.step, CellM.new, w6, hs, if_true]
  refine ⟨by simp only [iterS, e1], ?_⟩
  have hb1 : V.inb ((c : Int) + 1) := vinb hn (by omega) (by omega)
  refine ⟨(V.load ((c : Int) + 6)).add ((c : Int) + 1) 1, ?_, by rw [vlen_add]; exact hn, fun j => ?_⟩
  · simp only [iterS, e1]
    simp only [cellF, CellM.step, CellM.new, w1, sx_rd_load, hi]
    rw [if_pos (.inr hfull)]
  · rw [vrd_add (V := V.load _) hb1, sx_rd_load, sx_rd_load, hi]
    by_cases e : (c : Int) + 1 = j
    · rw [if_pos e, if_pos e.symm]; exact w64_small' (by omega) (by omega)
    · rw [if_neg e, if_neg (fun q => e q.symm)]

/-- A put that finds one: line by line. -/
theorem cell_runs {V : Vw} {c n : Nat} {cf : Cf} {ky d : Int} (hn : V.ws.length = n) (hc : c ≤ 1000) (hcn : c + 60 ≤ n) (hc2 : 2 ≤ c) (hs : V.rd ((c : Int) + 6) = 0) {i : Nat} (hi : V.rd ((c : Int) + 1) = (i : Int)) (hfree : (i : Int) < cf.cap) (hi2 : i < 16)
    (hz : V.rd (cpos c i) = 0) (hk0 : 0 ≤ V.rd 1) (hk1 : V.rd 1 ≤ 16777212) :
    (∀ t, t < 8 → 0 < t → (iterS cellF t (CellM.new cf c ky d, V)).1.line = t + 1) ∧ ∃ V', iterS cellF 8 (CellM.new cf c ky d, V) = ({ CellM.new cf c ky d with line := 0, i := (i : Int), g := V.rd 1, version := V.rd 1, ok := true }, V') ∧ V'.ws.length = n ∧
      ∀ j, V'.rd j = if j = (c : Int) + 1 then (i : Int) + 1 else if j = cpos c i then V.rd 1 + 3 else if j = cpos c i + 1 then ky else if j = cpos c i + 2 then d else V.rd j := by
  have w6 : W64 ((c : Int) + 6) = (c : Int) + 6 := w64_small (by omega) (by omega)
  have w1 : W64 ((c : Int) + 1) = (c : Int) + 1 := w64_small (by omega) (by omega)
  have hp : cpos c i = (c : Int) + 7 + 3 * (i : Int) := rfl
  have wp1 : W64 (cpos c i + 1) = cpos c i + 1 := w64_small (by omega) (by omega)
  have wp2 : W64 (cpos c i + 2) = cpos c i + 2 := w64_small (by omega) (by omega)
  have ps := psF_cpos (c := c) (q := i) (by omega) (by omega)
  let x0 := CellM.new cf c ky d
  have e1 : cellF (x0, V) = ({ x0 with line := 2 }, V.load ((c : Int) + 6)) := by
    simp only [cellF, CellM.step, CellM.new, x0, w6, hs, if_true]
  let V2 := (V.load ((c : Int) + 6)).add ((c : Int) + 1) 1
  have e2 : cellF ({ x0 with line := 2 }, V.load ((c : Int) + 6)) = ({ x0 with line := 3, i := (i : Int) }, V2) := by
    simp only [cellF, CellM.step, CellM.new, x0, w1, sx_rd_load, hi]
    rw [if_neg (by omega)]
  let V3 := V2.store (cpos c i + 1) ky
  have e3 : cellF ({ x0 with line := 3, i := (i : Int) }, V2) = ({ x0 with line := 4, i := (i : Int) }, V3) := by
    simp only [cellF, CellM.step, CellM.new, CellM.at, x0, ps, wp1, V3]
  let V4 := V3.store (cpos c i + 2) d
  have e4 : cellF ({ x0 with line := 4, i := (i : Int) }, V3) = ({ x0 with line := 5, i := (i : Int) }, V4) := by
    simp only [cellF, CellM.step, CellM.new, CellM.at, x0, ps, wp2, V4]
  have b1 : V.inb ((c : Int) + 1) := vinb hn (by omega) (by omega)
  have l2 : V2.ws.length = n := by show (Vw.add _ _ _).ws.length = _; rw [vlen_add]; exact hn
  have l3 : V3.ws.length = n := by show (Vw.store _ _ _).ws.length = _; rw [vlen_store]; exact l2
  have l4 : V4.ws.length = n := by show (Vw.store _ _ _).ws.length = _; rw [vlen_store]; exact l3
  have r2 : ∀ j, V2.rd j = if j = (c : Int) + 1 then (i : Int) + 1 else V.rd j := fun j => by
    show (Vw.add _ _ _).rd j = _
    rw [vrd_add (V := V.load _) b1, sx_rd_load, sx_rd_load, hi]
    by_cases e : (c : Int) + 1 = j
    · rw [if_pos e, if_pos e.symm]; exact w64_small' (by omega) (by omega)
    · rw [if_neg e, if_neg (fun q => e q.symm)]
  have r3 : ∀ j, V3.rd j = if j = cpos c i + 1 then ky else V2.rd j := fun j => by
    show (Vw.store _ _ _).rd j = _
    rw [vrd_store (vinb l2 (by omega) (by omega))]
    by_cases e : cpos c i + 1 = j
    · rw [if_pos e, if_pos e.symm]
    · rw [if_neg e, if_neg (fun q => e q.symm)]
  have r4 : ∀ j, V4.rd j = if j = cpos c i + 2 then d else V3.rd j := fun j => by
    show (Vw.store _ _ _).rd j = _
    rw [vrd_store (vinb l3 (by omega) (by omega))]
    by_cases e : cpos c i + 2 = j
    · rw [if_pos e, if_pos e.symm]
    · rw [if_neg e, if_neg (fun q => e q.symm)]
  have z4 : V4.rd (cpos c i) = 0 := by rw [r4, if_neg (by omega), r3, if_neg (by omega), r2, if_neg (by omega)]; exact hz
  have k4 : V4.rd 1 = V.rd 1 := by rw [r4, if_neg (by omega), r3, if_neg (by omega), r2, if_neg (by omega)]
  let V5 := V4.swap (cpos c i) 0 1
  have bp : ∀ {U : Vw}, U.ws.length = n → U.inb (cpos c i) := fun h => vinb h (by omega) (by omega)
  have e5 : cellF ({ x0 with line := 5, i := (i : Int) }, V4) = ({ x0 with line := 6, i := (i : Int) }, V5) := by
    simp only [cellF, CellM.step, CellM.new, CellM.at, x0, ps, V5]
    rw [vswaps (bp l4), z4]; rfl
  have l5 : V5.ws.length = n := by show (Vw.swap _ _ _ _).ws.length = _; rw [vlen_swap]; exact l4
  have r5 : ∀ j, V5.rd j = if j = cpos c i then 1 else V4.rd j := fun j => by
    show (Vw.swap _ _ _ _).rd j = _
    rw [vrd_swap (bp l4)]
    by_cases e : cpos c i = j
    · rw [if_pos ⟨e, z4⟩, if_pos e.symm]
    · rw [if_neg (fun q => e q.1), if_neg (fun q => e q.symm)]
  have k5 : V5.rd 1 = V.rd 1 := by rw [r5, if_neg (by omega), k4]
  have e6 : cellF ({ x0 with line := 6, i := (i : Int) }, V5) = ({ x0 with line := 7, i := (i : Int), g := V.rd 1 }, V5.load 1) := by
    simp only [cellF, CellM.step, CellM.new, x0, k5]
  clear_value V5 V4 V3 V2
  have hsf : stateF (V.rd 1) = V.rd 1 + 3 := by unfold stateF; rw [clamp_in hk0 hk1]
  let V7 := (V5.load 1).swap (cpos c i) 1 (V.rd 1 + 3)
  have e7 : cellF ({ x0 with line := 7, i := (i : Int), g := V.rd 1 }, V5.load 1) = ({ x0 with line := 8, i := (i : Int), g := V.rd 1 }, V7) := by
    simp only [cellF, CellM.step, CellM.new, CellM.at, x0, ps, hsf, V7]
  have l7 : V7.ws.length = n := by show (Vw.swap _ _ _ _).ws.length = _; rw [vlen_swap, vlen_load]; exact l5
  have r7 : ∀ j, V7.rd j = if j = cpos c i then V.rd 1 + 3 else V4.rd j := fun j => by
    show (Vw.swap _ _ _ _).rd j = _
    rw [vrd_swap (V := V5.load 1) (bp l5), sx_rd_load, sx_rd_load, r5, r5]
    by_cases e : cpos c i = j
    · rw [if_pos ⟨e, by rw [if_pos rfl]⟩, if_pos e.symm]
    · rw [if_neg (fun q => e q.1), if_neg (fun q => e q.symm), if_neg (fun q => e q.symm)]
  clear_value V7
  have e8 : cellF ({ x0 with line := 8, i := (i : Int), g := V.rd 1 }, V7) = ({ x0 with line := 0, i := (i : Int), g := V.rd 1, version := V.rd 1, ok := true }, V7.load (cpos c i)) := by
    have hv : verW (V7.rd (cpos c i)) = V.rd 1 := by
      rw [r7, if_pos rfl]; unfold verW
      rw [if_neg (by omega), show V.rd 1 + 3 - 3 = V.rd 1 from by omega]; exact w64_small (by omega) (by omega)
    simp only [cellF, CellM.step, CellM.new, CellM.at, x0, ps, hv]
    rw [if_pos hk0]
  have it0 : iterS cellF 0 (x0, V) = (x0, V) := rfl
  have it1 : iterS cellF 1 (x0, V) = ({ x0 with line := 2 }, V.load ((c : Int) + 6)) := by rw [show (1 : Nat) = 0 + 1 from rfl, iterS_s, it0, e1]
  have it2 : iterS cellF 2 (x0, V) = ({ x0 with line := 3, i := (i : Int) }, V2) := by rw [show (2 : Nat) = 1 + 1 from rfl, iterS_s, it1, e2]
  have it3 : iterS cellF 3 (x0, V) = ({ x0 with line := 4, i := (i : Int) }, V3) := by rw [show (3 : Nat) = 2 + 1 from rfl, iterS_s, it2, e3]
  have it4 : iterS cellF 4 (x0, V) = ({ x0 with line := 5, i := (i : Int) }, V4) := by rw [show (4 : Nat) = 3 + 1 from rfl, iterS_s, it3, e4]
  have it5 : iterS cellF 5 (x0, V) = ({ x0 with line := 6, i := (i : Int) }, V5) := by rw [show (5 : Nat) = 4 + 1 from rfl, iterS_s, it4, e5]
  have it6 : iterS cellF 6 (x0, V) = ({ x0 with line := 7, i := (i : Int), g := V.rd 1 }, V5.load 1) := by rw [show (6 : Nat) = 5 + 1 from rfl, iterS_s, it5, e6]
  have it7 : iterS cellF 7 (x0, V) = ({ x0 with line := 8, i := (i : Int), g := V.rd 1 }, V7) := by rw [show (7 : Nat) = 6 + 1 from rfl, iterS_s, it6, e7]
  have it8 : iterS cellF 8 (x0, V) = ({ x0 with line := 0, i := (i : Int), g := V.rd 1, version := V.rd 1, ok := true }, V7.load (cpos c i)) := by rw [show (8 : Nat) = 7 + 1 from rfl, iterS_s, it7, e8]
  refine ⟨fun t ht h0 => ?_, _, it8, l7, fun j => ?_⟩
  · have hr : t = 1 ∨ t = 2 ∨ t = 3 ∨ t = 4 ∨ t = 5 ∨ t = 6 ∨ t = 7 := by omega
    show (iterS cellF t (x0, V)).1.line = t + 1
    rcases hr with rfl | rfl | rfl | rfl | rfl | rfl | rfl
    · rw [it1]
    · rw [it2]
    · rw [it3]
    · rw [it4]
    · rw [it5]
    · rw [it6]
    · rw [it7]
  · rw [sx_rd_load, r7, r4, r3, r2]
    by_cases q1 : j = (c : Int) + 1
    · rw [if_pos q1, if_neg (by omega), if_neg (by omega), if_neg (by omega), if_pos q1]
    · rw [if_neg q1, if_neg q1]
      by_cases q2 : j = cpos c i
      · rw [if_pos q2, if_pos q2]
      · rw [if_neg q2, if_neg q2]
        by_cases q3 : j = cpos c i + 1
        · rw [if_neg (by omega), if_pos q3, if_pos q3]
        · rw [if_neg q3, if_neg q3]
end Go.Proofs.Ytakbnbmbiaejiaa
