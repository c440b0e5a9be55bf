/- Slices that came in, as they are told. -/
import Derived.Test.YtdmodejpcfhbhaaSxT
import Derived.Deep.Grids
namespace Go.Proofs.Ytdmodejpcfhbhaa
open Go.RowKit
variable {W : World}

/-- A slice that came in, as the i-th row: nil; empty; some of a row. -/
def SlAt (i len : Nat) (sv : Value) (r : OldRow) : Prop :=
  (sv = .slice none 0 0 ∧ len = 0) ∨ (sv = .slice (some ⟨0, 0, some 0⟩) 0 1 ∧ len = 0) ∨
    ∃ cap, sv = .slice (some ⟨i, r.lo, none⟩) len cap ∧ r.lo + len ≤ r.n ∧ len ≤ maxLen
/-- Of a slice that came in: its cells. -/
def IsCells (W : World) (A : Option Addr) (len cap : Nat) (f : Nat → Value) : Prop :=
  (A = none ∧ len = 0 ∧ cap = 0) ∨ (∃ a, A = some a ∧ len = 0) ∨
    ∃ b off, A = some ⟨b, off, none⟩ ∧ len ≤ cap ∧ cap ≤ maxLen ∧ ∀ j, j < cap → W.cell? ⟨b, off + j, none⟩ = some (f j)
theorem cells_of {x : Addr} {len cap : Nat} {f : Nat → Value} (hl : len ≤ cap) (hm : cap ≤ maxLen) (hc : ∀ j, j < cap → W.cell? (x.add j) = some (f j)) : IsCells W (some x) len cap f := by
  by_cases h0 : cap = 0
  · exact .inr (.inl ⟨x, rfl, by omega⟩)
  · obtain ⟨b, off, spot⟩ := x
    have h1 := hc 0 (by omega)
    have hspot : spot = none := by simpa [Addr.add] using World.cell?_spot h1
    subst hspot
    exact .inr (.inr ⟨b, off, rfl, hl, hm, fun j hj => by have := hc j hj; rwa [Addr.add_lit] at this⟩)
theorem sl_arg {A : Option Addr} {len cap : Nat} {f : Nat → Value} (h : IsCells W A len cap f) (c : Nat → Rw) (hc : ∀ lo j, (c lo).get (lo + j) = f j) (i : Nat) :
    ∃ sv r, SlAt i len sv r ∧ r.c = c r.lo ∧ r.ok W ∧ ∀ (L : Nat → Prop) (ρ : Nat → Nat × Nat), L i → (ρ i).1 = r.b → VR L ρ sv (.slice A len cap) := by
  rcases h with ⟨rfl, rfl, rfl⟩ | ⟨a, rfl, rfl⟩ | ⟨b, off, rfl, h1, h2, h3⟩
  · exact ⟨.slice none 0 0, ⟨0, 0, 0, c 0⟩, .inl ⟨rfl, rfl⟩, rfl, fun j _ hj => by simp at hj, fun _ _ _ _ => .plain rfl⟩
  · exact ⟨.slice (some ⟨0, 0, some 0⟩) 0 1, ⟨0, 0, 0, c 0⟩, .inr (.inl ⟨rfl, rfl⟩), rfl, fun j _ hj => by simp at hj, fun _ _ _ _ => .emp⟩
  · refine ⟨.slice (some ⟨i, off, none⟩) len cap, ⟨b, off, off + cap, c off⟩, .inr (.inr ⟨cap, rfl, by simp; omega, by omega⟩), rfl, fun j h0 hj => ?_, fun L ρ hL hb => ?_⟩
    · simp only at h0 hj
      have := h3 (j - off) (by omega)
      rw [show off + (j - off) = j from by omega] at this
      refine ⟨World.block_lt_of_cell? W _ this, ?_⟩
      rw [this, ← hc off (j - off), show off + (j - off) = j from by omega]
    · simp only at hb
      rw [← hb]; exact .slice hL
def boolsC (B : Nat → Bool) (lo : Nat) : Rw := .bools fun j => B (j - lo)
theorem bools_arg {A : Option Addr} {len cap : Nat} {B : Nat → Bool} (h : IsCells W A len cap fun j => .bool (B j)) (i : Nat) :
    ∃ sv r, SlAt i len sv r ∧ r.c = boolsC B r.lo ∧ r.ok W ∧ ∀ (L : Nat → Prop) (ρ : Nat → Nat × Nat), L i → (ρ i).1 = r.b → VR L ρ sv (.slice A len cap) :=
  sl_arg h (boolsC B) (fun lo j => by simp [boolsC, Rw.get]) i
def intsC (k : IntKind) (z : Nat → Int) (lo : Nat) : Rw := .ints k fun j => z (j - lo)
theorem ints_arg {k : IntKind} {A : Option Addr} {len cap : Nat} {z : Nat → Int} (h : IsCells W A len cap fun j => .int k (z j)) (i : Nat) :
    ∃ sv r, SlAt i len sv r ∧ r.c = intsC k z r.lo ∧ r.ok W ∧ ∀ (L : Nat → Prop) (ρ : Nat → Nat × Nat), L i → (ρ i).1 = r.b → VR L ρ sv (.slice A len cap) :=
  sl_arg h (intsC k z) (fun lo j => by simp [intsC, Rw.get]) i
end Go.Proofs.Ytdmodejpcfhbhaa
