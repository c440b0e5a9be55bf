/- Slices of structs of integers that came in; structs that came in. -/
import Derived.Test.YtdmodejpcfhbhaaSxV
namespace Go.Proofs.Ytdmodejpcfhbhaa
open Go.RowKit Go.ChangeShapes Go.WideShapes Go.Deep
variable {W : World}

/-- Of a slice of structs of s integers that came in: its cells. -/
def IsTri (W : World) (A : Option Addr) (s len cap : Nat) (z : Nat → Int) : Prop :=
  (A = none ∧ len = 0 ∧ cap = 0) ∨ (∃ a, A = some a ∧ len = 0) ∨
    ∃ b off, A = some ⟨b, off, none⟩ ∧ 0 < len ∧ len ≤ cap ∧ cap ≤ maxLen ∧ ∀ q, q < len * s → W.cell? ⟨b, off + q, none⟩ = some (.int .i64 (z q)) ∧ (Lit.int .i64 (z q)).wf = true
/-- Such a slice, as the i-th row. -/
def TabAt (i s len : Nat) (sv : Value) (r : OldRow) : Prop :=
  (sv = .slice none 0 0 ∧ len = 0) ∨ (sv = .slice (some ⟨0, 0, some 0⟩) 0 1 ∧ len = 0) ∨
    ∃ cap, sv = .slice (some ⟨i, r.lo, none⟩) len cap ∧ r.lo + len * s ≤ r.n ∧ 0 < len ∧ len ≤ maxLen
theorem tab_arg {A : Option Addr} {s len cap : Nat} {z : Nat → Int} (h : IsTri W A s len cap z) (i : Nat) :
    ∃ sv r, TabAt i s len sv r ∧ r.c = intsC .i64 z r.lo ∧ r.ok W ∧ ∀ (L : Nat → Prop) (ρ : Nat → Nat × Nat), L i → (ρ i).1 = r.b → VR L ρ sv (.slice A len cap) := by
  rcases h with ⟨rfl, rfl, rfl⟩ | ⟨a, rfl, rfl⟩ | ⟨b, off, rfl, h0, h1, h2, h3⟩
  · exact ⟨.slice none 0 0, ⟨0, 0, 0, intsC .i64 z 0⟩, .inl ⟨rfl, rfl⟩, rfl, fun j _ hj => by simp at hj, fun _ _ _ _ => .plain rfl⟩
  · exact ⟨.slice (some ⟨0, 0, some 0⟩) 0 1, ⟨0, 0, 0, intsC .i64 z 0⟩, .inr (.inl ⟨rfl, rfl⟩), rfl, fun j _ hj => by simp at hj, fun _ _ _ _ => .emp⟩
  · refine ⟨.slice (some ⟨i, off, none⟩) len cap, ⟨b, off, off + len * s, intsC .i64 z off⟩, .inr (.inr ⟨cap, rfl, Nat.le_refl _, h0, by omega⟩), rfl, fun j hj0 hj => ?_, fun L ρ hL hb => ?_⟩
    · simp only at hj0 hj
      have := (h3 (j - off) (by omega)).1
      rw [show off + (j - off) = j from by omega] at this
      refine ⟨World.block_lt_of_cell? W _ this, ?_⟩
      rw [this]; simp [intsC, Rw.get]
    · simp only at hb
      rw [← hb]; exact .slice hL
section
variable {H : Type} {enc : TypeId × Value → H} {P : Program} {w : World} {base : Nat} {spare : Nat → Bool} {held : Bool}
theorem tri_of_trod {t e : TypeId} {fs : Array Field} {fuel : Nat} {cs : List Value} {x : DataW H × List MemPlace} (ht : P.underlying t = some (.slice e)) (he : P.underlying e = some (.struct fs)) (hone : oneCellFields P fs = true)
    (hint : ∀ (j : Nat) (f : Field), fs[j]? = some f → P.underlying f.type = some (.int .i64)) (hC : P.cellsOf e = fs.size) (h0 : 0 < fs.size) (hf : DataW.trod enc P w base spare held fuel t cs = some x) :
    ∃ A len cap z, cs = [.slice A len cap] ∧ IsTri w A fs.size len cap z := by
  rcases open_slice ht hf with ⟨hcs, _⟩ | ⟨x, l, c, m, n, D, Pl, hcs, _, hl, hmx, hm, _, hi⟩
  · exact ⟨none, 0, 0, fun _ => 0, hcs, .inl ⟨rfl, rfl, rfl⟩⟩
  · have hlm : l ≤ m := by rw [hm]; split <;> omega
    by_cases hlen : l = 0
    · exact ⟨some x, l, c, fun _ => 0, hcs, .inr (.inl ⟨x, rfl, hlen⟩)⟩
    have key : ∀ q, q < l * fs.size → ∃ z, w.cell? (x.add q) = some (.int .i64 z) ∧ (Lit.int .i64 z).wf = true := by
      intro q hq
      obtain ⟨cs', hc, ht'⟩ := hi (q / fs.size) (by have := (Nat.div_lt_iff_lt_mul h0).2 hq; omega)
      rw [hC] at hc
      obtain ⟨_, _, hat⟩ := World.cells?_some hc
      have hmod := Nat.mod_lt q h0
      obtain ⟨z, hz, wz⟩ := ints_of_struct he hone hint ht' (q % fs.size) hmod
      refine ⟨z, ?_, wz⟩
      have e1 : q / fs.size * fs.size + q % fs.size = q := by rw [Nat.mul_comm]; exact Nat.div_add_mod q fs.size
      have e2 := hat (q % fs.size) hmod
      rw [Go.Deep.add_add, e1] at e2
      rw [e2, hz]
    obtain ⟨b, off, spot⟩ := x
    obtain ⟨z0, hz0, _⟩ := key 0 (Nat.mul_pos (by omega) h0)
    have hspot : spot = none := by simpa [Addr.add] using World.cell?_spot hz0
    subst hspot
    have key' : ∀ q, q < l * fs.size → ∃ z, w.cell? ⟨b, off + q, none⟩ = some (.int .i64 z) ∧ (Lit.int .i64 z).wf = true := fun q hq => by
      obtain ⟨z, h1, h2⟩ := key q hq
      rw [Addr.add_lit] at h1
      exact ⟨z, h1, h2⟩
    refine ⟨some ⟨b, off, none⟩, l, c, fun q => if hq : q < l * fs.size then (key' q hq).choose else 0, hcs, .inr (.inr ⟨b, off, rfl, by omega, hl, hmx, fun q hq => ?_⟩)⟩
    simp only [dif_pos hq]
    exact (key' q hq).choose_spec
/-- A struct that came in, field by field. -/
theorem fields_of_trod {t : TypeId} {fs : Array Field} {r : Reach} {b0 : Nat} {v : Value} {d : DataW H} {p : List MemPlace} (hs : P.underlying t = some (.struct fs)) (hone : oneCellFields P fs = true) (hC : P.cellsOf t = fs.size)
    (hv : Value.okWide P w r b0 t v) (h : DataW.Trod enc P w base spare held t v d p) :
    ∃ cs, v = .agg ⟨cs⟩ ∧ cs.length = fs.size ∧ ∀ (i : Nat) (f : Field), fs[i]? = some f → ∃ n y, DataW.trod enc P w base spare held n f.type [cs.getD i undef] = some y := by
  obtain ⟨cs, rfl, hsz⟩ := okWide_struct hs hv
  obtain ⟨cs⟩ := cs
  obtain ⟨fuel, hf⟩ := h
  have hf' : DataW.trod enc P w base spare held fuel t cs = some (d, p) := hf
  obtain ⟨ys, n, _, _, _, hyl, hg⟩ := DataW.trod_struct hs hf'
  refine ⟨cs, rfl, by rw [← hC]; exact hsz, fun i f hi => ?_⟩
  have hlt : i < fs.size := (Array.getElem?_eq_some_iff.1 hi).1
  obtain ⟨ho, hc1⟩ := hone_of hone i f hi
  have g := hg i f hi
  have hl : cs.length = fs.size := by rw [← hC]; exact hsz
  rw [ho, hc1, take1_drop cs i undef (by omega), List.getElem?_eq_getElem (by omega)] at g
  exact ⟨n, _, g⟩
end
end Go.Proofs.Ytdmodejpcfhbhaa
