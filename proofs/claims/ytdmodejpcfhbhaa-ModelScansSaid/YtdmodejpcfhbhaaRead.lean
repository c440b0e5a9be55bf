/- Reading what came in: slices whose elements are rows of integers. -/
import Derived.Test.YtdmodejpcfhbhaaBase
import Derived.Deep.Slices
import Derived.Deep.Fields
import Derived.ChangeSame
namespace Go.Proofs.Ytdmodejpcfhbhaa
open Go.RowKit Go.ChangeShapes Go.WideShapes Go.Deep

/-- A slice of rows of n integers of kind int that came in: element j has the numbers zs j. -/
def IsTab (n : Nat) (w : World) (a : Option Addr) (len : Nat) (zs : Nat → Nat → Int) : Prop :=
  ∀ j, j < len → ∃ b off, a = some ⟨b, off, none⟩ ∧ ∀ f, f < n → w.cell? ⟨b, off + j * n + f, none⟩ = some (.int .i64 (zs j f)) ∧ (Lit.int .i64 (zs j f)).wf = true

section
variable {H : Type} {enc : TypeId × Value → H} {P : Program} {w : World} {base : Nat} {spare : Nat → Bool} {held : Bool}

theorem ints_of_struct {e : TypeId} {fs : Array Field} {fuel : Nat} {cs : List Value} {x : DataW H × List MemPlace} (he : P.underlying e = some (.struct fs)) (hone : oneCellFields P fs = true)
    (hint : ∀ (j : Nat) (f : Field), fs[j]? = some f → P.underlying f.type = some (.int .i64)) (h : DataW.trod enc P w base spare held fuel e cs = some x) :
    ∀ j, j < fs.size → ∃ z, cs[j]? = some (.int .i64 z) ∧ (Lit.int .i64 z).wf = true := by
  intro j hj
  obtain ⟨ys, n, _, _, _, hyl, hf⟩ := DataW.trod_struct he h
  have hfj : fs[j]? = some fs[j] := Array.getElem?_eq_getElem hj
  obtain ⟨ho, hk⟩ := hone_of hone j _ hfj
  have h1 := hf j _ hfj
  rw [ho, hk] at h1
  have hy : ys[j]? = some (ys[j]'(by omega)) := List.getElem?_eq_getElem (by omega)
  obtain ⟨z, hz, _, wz⟩ := DataW.trod_int (hint j _ hfj) (h1.trans hy)
  refine ⟨z, ?_, wz⟩
  have h2 : ((cs.drop j).take 1)[0]? = some (.int .i64 z) := by rw [hz]; rfl
  simpa using h2

theorem tab_of_trod {t e : TypeId} {fs : Array Field} {a : Option Addr} {len cap : Nat} {d : DataW H} {p : List MemPlace} (ht : P.underlying t = some (.slice e)) (he : P.underlying e = some (.struct fs)) (hone : oneCellFields P fs = true)
    (hint : ∀ (j : Nat) (f : Field), fs[j]? = some f → P.underlying f.type = some (.int .i64)) (hC : P.cellsOf e = fs.size) (h0 : 0 < fs.size) (h : DataW.Trod enc P w base spare held t (.slice a len cap) d p) :
    ∃ zs, IsTab fs.size w a len zs := by
  obtain ⟨fuel, hf⟩ := h
  have hf' : DataW.trod enc P w base spare held fuel t [.slice a len cap] = some (d, p) := hf
  rcases open_slice ht hf' with ⟨hcs, _⟩ | ⟨x, l, c, m, n, D, Pl, hcs, _, hl, _, hm, _, hi⟩
  · simp only [List.cons.injEq, Value.slice.injEq, and_true] at hcs
    obtain ⟨_, rfl, _⟩ := hcs
    exact ⟨fun _ _ => 0, fun j hj => by omega⟩
  · simp only [List.cons.injEq, Value.slice.injEq, and_true] at hcs
    obtain ⟨rfl, rfl, rfl⟩ := hcs
    have hlm : len ≤ m := by rw [hm]; split <;> omega
    have key : ∀ j, j < len → ∀ f, f < fs.size → ∃ z, w.cell? (x.add (j * fs.size + f)) = some (.int .i64 z) ∧ (Lit.int .i64 z).wf = true := by
      intro j hj f hfj
      obtain ⟨cs', hc, ht'⟩ := hi j (by omega)
      rw [hC] at hc
      obtain ⟨_, _, hat⟩ := World.cells?_some hc
      obtain ⟨z, hz, wz⟩ := ints_of_struct he hone hint ht' f hfj
      exact ⟨z, by rw [← Go.Deep.add_add, hat f hfj, hz], wz⟩
    by_cases hlen : len = 0
    · exact ⟨fun _ _ => 0, fun j hj => by omega⟩
    obtain ⟨b, off, spot⟩ := x
    obtain ⟨z0, hz0, _⟩ := key 0 (by omega) 0 h0
    have hspot : spot = none := by simpa [Addr.add] using World.cell?_spot hz0
    subst hspot
    have key' : ∀ j, j < len → ∀ f, f < fs.size → ∃ z, w.cell? ⟨b, off + j * fs.size + f, none⟩ = some (.int .i64 z) ∧ (Lit.int .i64 z).wf = true := by
      intro j hj f hfj
      obtain ⟨z, hz, wz⟩ := key j hj f hfj
      rw [Addr.add_lit, ← Nat.add_assoc] at hz
      exact ⟨z, hz, wz⟩
    refine ⟨fun j f => if hq : j < len ∧ f < fs.size then (key' j hq.1 f hq.2).choose else 0, fun j hj => ⟨b, off, rfl, fun f hfj => ?_⟩⟩
    simp only [dif_pos (And.intro hj hfj)]
    exact (key' j hj f hfj).choose_spec
end

end Go.Proofs.Ytdmodejpcfhbhaa
