/- Words for all proofs of this seat: which blocks of memory a call owns and what they hold; small facts on words' bits. No program is named here. -/
import Derived.WalkKit
import Derived.ProofKit
import Derived.WalkLawsBesides
import Derived.WalkSpells
import Derived.Outline
import Derived.Handy
import Derived.Laws.Bits64b
import Derived.Laws.BitsLemmas
namespace Go.Proofs.Ytceliebbpkgifaa
open Go.RowKit

/-- A heap of one's own: which blocks are owned, and what their cells hold. -/
abbrev GH := Nat → Option (Array Value)

def upd (h : GH) (k : Nat) (c : Array Value) : GH := fun i => if i = k then some c else h i
theorem upd_same (h : GH) (k : Nat) (c : Array Value) : upd h k c k = some c := by simp [upd]
theorem upd_other (h : GH) {k i : Nat} (c : Array Value) (hi : i ≠ k) : upd h k c i = h i := by simp [upd, hi]
theorem upd_upd (h : GH) (k : Nat) (c d : Array Value) : upd (upd h k c) k d = upd h k d := by funext i; simp only [upd]; split <;> rfl
theorem upd_comm (h : GH) {k i : Nat} (c d : Array Value) (hi : i ≠ k) : upd (upd h k c) i d = upd (upd h i d) k c := by
  funext j; simp only [upd]; split <;> split <;> simp_all

/-- Behind w0: nothing that w0 had has turned; each owned block is newer than w0, whole, not frozen, and holds what h says. -/
structure Mem (w0 : World) (h : GH) (w : World) : Prop where
  below : Below w0.heap.size w0 w
  own : ∀ k c, h k = some c → w0.heap.size ≤ k
  blk : ∀ k c, h k = some c → ∃ T, w.heap[k]? = some (.cells c T (0, 0))

def none0 : GH := fun _ => none

theorem Mem.start (w : World) : Mem w none0 w := ⟨Below.refl _ _, fun _ _ h => by simp [none0] at h, fun _ _ h => by simp [none0] at h⟩

theorem Mem.lt {w0 w : World} {h : GH} (m : Mem w0 h w) {k : Nat} {c : Array Value} (hk : h k = some c) : k < w.heap.size := by
  obtain ⟨T, hT⟩ := m.blk k c hk
  exact (Array.getElem?_eq_some_iff.1 hT).1

theorem Mem.fresh {w0 w : World} {h : GH} (m : Mem w0 h w) {k : Nat} (hk : w.heap.size ≤ k) : h k = none := by
  cases e : h k with
  | none => rfl
  | some c => have := m.lt e; omega

theorem Mem.cell {w0 w : World} {h : GH} (m : Mem w0 h w) {k : Nat} {c : Array Value} (hk : h k = some c) (i : Nat) : w.cell? ⟨k, i, none⟩ = c[i]? := by
  obtain ⟨T, hT⟩ := m.blk k c hk
  simp [World.cell?, hT]

theorem Mem.free {w0 w : World} {h : GH} (m : Mem w0 h w) {k : Nat} {c : Array Value} (hk : h k = some c) (i : Nat) : w.frozen? ⟨k, i, none⟩ = false := by
  obtain ⟨T, hT⟩ := m.blk k c hk
  simp [World.frozen?, hT]

theorem Mem.drew {w0 w : World} {h : GH} (m : Mem w0 h w) : Mem w0 h w.drew := ⟨m.below.drew, m.own, m.blk⟩

/-- A new block that is not looked at again. -/
theorem Mem.alloc {w0 w : World} {h : GH} (m : Mem w0 h w) (o : Obj) : Mem w0 h (w.alloc o) :=
  ⟨m.below.alloc m.below.size o, m.own, fun k c hk => by
    obtain ⟨T, hT⟩ := m.blk k c hk
    exact ⟨T, by rw [Below.heap_alloc _ _ _ (m.lt hk)]; exact hT⟩⟩

/-- A new block that is kept. -/
theorem Mem.keep {w0 w : World} {h : GH} (m : Mem w0 h w) (c : Array Value) (T : TypeId) : Mem w0 (upd h w.heap.size c) (w.alloc (.cells c T)) :=
  ⟨m.below.alloc m.below.size _, fun k d hk => by
    by_cases e : k = w.heap.size
    · rw [e]; exact m.below.size
    · rw [upd_other _ _ e] at hk; exact m.own k d hk, fun k d hk => by
    by_cases e : k = w.heap.size
    · subst e; rw [upd_same] at hk; obtain rfl := Option.some.inj hk; exact ⟨T, by show (w.heap.push _)[w.heap.size]? = _; simp⟩
    · rw [upd_other _ _ e] at hk
      obtain ⟨T, hT⟩ := m.blk k d hk
      exact ⟨T, by rw [Below.heap_alloc _ _ _ (m.lt hk)]; exact hT⟩⟩

theorem Mem.set {w0 w : World} {h : GH} (m : Mem w0 h w) {k : Nat} {c : Array Value} (hk : h k = some c) (i : Nat) (v : Value) :
    Mem w0 (upd h k (c.setIfInBounds i v)) (w.setCell ⟨k, i, none⟩ v) :=
  ⟨m.below.setCell (m.own k c hk) v, fun j d hj => by
    by_cases e : j = k
    · rw [e]; exact m.own k c hk
    · rw [upd_other _ _ e] at hj; exact m.own j d hj, fun j d hj => by
    by_cases e : j = k
    · subst e; rw [upd_same] at hj; obtain rfl := Option.some.inj hj
      obtain ⟨T, hT⟩ := m.blk j c hk
      exact ⟨T, by simp [World.setCell, Array.getElem?_modify, hT]⟩
    · rw [upd_other _ _ e] at hj
      obtain ⟨T, hT⟩ := m.blk j d hj
      exact ⟨T, by rw [Below.heap_setCell _ _ _ _ (by simpa using e)]; exact hT⟩⟩

/-- What is owned may be forgotten. -/
theorem Mem.less {w0 w : World} {h h' : GH} (m : Mem w0 h w) (hl : ∀ k c, h' k = some c → h k = some c) : Mem w0 h' w :=
  ⟨m.below, fun k c hk => m.own k c (hl k c hk), fun k c hk => m.blk k c (hl k c hk)⟩

theorem Mem.to {w0 w : World} {h h' : GH} (m : Mem w0 h w) (e : h = h') : Mem w0 h' w := e ▸ m

/-- New blocks alone. -/
theorem Mem.grown {w0 w w' : World} {h : GH} (m : Mem w0 h w) (g : Below w.heap.size w w') : Mem w0 h w' :=
  ⟨m.below.trans (g.mono m.below.size), m.own, fun k c hk => by
    obtain ⟨T, hT⟩ := m.blk k c hk
    exact ⟨T, by rw [g.block k (m.lt hk)]; exact hT⟩⟩

theorem ret_int {k : IntKind} {a b : Int} (h : a = b) : Ending.returned (.int k a) = .returned (.int k b) := by rw [h]
theorem ret_bool {a b : Bool} (h : a = b) : Ending.returned (.bool a) = .returned (.bool b) := by rw [h]

theorem and_t {a b : Bool} (ha : a = true) (hb : b = true) : (a && b) = true := by rw [ha, hb]; rfl
theorem bne_t {a b : Int} (h : a ≠ b) : (a != b) = true := by simpa using h
theorem beq_t {a b : Int} (h : a = b) : (a == b) = true := by simpa using h
theorem not_t {a : Bool} (h : a = false) : (!a) = true := by rw [h]; rfl
theorem beq_f {a b : Int} (h : a ≠ b) : (a == b) = false := by simpa using h
theorem bne_f {a b : Int} (h : a = b) : (a != b) = false := by simpa using h
theorem beqb_t {a b c d : Int} (h : a = b ↔ c = d) : ((a == b) == (c == d)) = true := by rw [beq_iff_eq, Bool.eq_iff_iff]; simpa using h
/-- Equal or not, without an equation. -/
theorem eq_or (a b : Int) : (a ≤ b ∧ b ≤ a) ∨ a < b ∨ b < a := by omega

theorem wf_i64_bounds {x : Int} (h : (Lit.int .i64 x).wf = true) : -9223372036854775808 ≤ x ∧ x ≤ 9223372036854775807 := by
  simpa [Lit.wf, IntKind.min, IntKind.max, IntKind.signed, IntKind.bits] using h

theorem wf_i64_of {x : Int} (h0 : -9223372036854775808 ≤ x) (h1 : x ≤ 9223372036854775807) : (Lit.int .i64 x).wf = true := by
  simpa [Lit.wf, IntKind.min, IntKind.max, IntKind.signed, IntKind.bits] using ⟨h0, h1⟩
theorem wf_u32_bounds {x : Int} (h : (Lit.int .u32 x).wf = true) : 0 ≤ x ∧ x ≤ 4294967295 := by
  simpa [Lit.wf, IntKind.min, IntKind.max, IntKind.signed, IntKind.bits] using h
theorem wf_u16_bounds {x : Int} (h : (Lit.int .u16 x).wf = true) : 0 ≤ x ∧ x ≤ 65535 := by
  simpa [Lit.wf, IntKind.min, IntKind.max, IntKind.signed, IntKind.bits] using h
theorem wf_u8_bounds {x : Int} (h : (Lit.int .u8 x).wf = true) : 0 ≤ x ∧ x ≤ 255 := by
  simpa [Lit.wf, IntKind.min, IntKind.max, IntKind.signed, IntKind.bits] using h
theorem wf_i8_bounds {x : Int} (h : (Lit.int .i8 x).wf = true) : -128 ≤ x ∧ x ≤ 127 := by
  simpa [Lit.wf, IntKind.min, IntKind.max, IntKind.signed, IntKind.bits] using h

/-! ### Words' bits -/

/-- A number held from a to b. -/
def clamp (n a b : Int) : Int := min (max n a) b
theorem clamp_in {n a b : Int} (h0 : a ≤ n) (h1 : n ≤ b) : clamp n a b = n := by unfold clamp; omega
theorem clamp_lo {n a b : Int} (h : a ≤ b) : a ≤ clamp n a b := by unfold clamp; omega
theorem clamp_hi {n a b : Int} : clamp n a b ≤ b := by unfold clamp; omega

theorem or_shift (s h l : Nat) (hl : l < 2 ^ s) : (h * 2 ^ s) ||| l = h * 2 ^ s + l := by
  rw [Nat.mul_comm, Nat.two_pow_add_eq_or_of_lt hl]

theorem bits_or_shift (s : Nat) (h l : Int) (P : Int) (hP : P = 2 ^ s) (h0 : 0 ≤ h) (l0 : 0 ≤ l) (l1 : l < P) (hb : h * P + l < 18446744073709551616) :
    bits .or .u64 (h * P) l = h * P + l := by
  subst hP
  obtain ⟨m, rfl⟩ := Int.eq_ofNat_of_zero_le h0
  obtain ⟨n, rfl⟩ := Int.eq_ofNat_of_zero_le l0
  have e : ((m : Int) * 2 ^ s) = ((m * 2 ^ s : Nat) : Int) := by simp
  have hn : n < 2 ^ s := by exact_mod_cast l1
  rw [e] at hb ⊢
  rw [bits_or_u64_nat _ _ (by omega) (by omega), or_shift _ _ _ hn]
  simp

/-- The lowest s bits of a word. -/
theorem bits_and_low (s : Nat) (hs : s ≤ 63) (x : Int) (M : Int) (hM : M = 2 ^ s - 1) (h0 : 0 ≤ x) (h1 : x < 18446744073709551616) : bits .and .u64 x M = x % 2 ^ s := by
  subst hM
  obtain ⟨m, rfl⟩ := Int.eq_ofNat_of_zero_le h0
  have hp : 1 ≤ 2 ^ s := Nat.one_le_two_pow
  have hq : 2 ^ s ≤ 2 ^ 63 := Nat.pow_le_pow_right (by decide) hs
  have e : ((2 : Int) ^ s - 1) = ((2 ^ s - 1 : Nat) : Int) := by rw [Int.ofNat_sub hp]; simp
  rw [e, bits_and_u64_nat _ _ (by omega) (by omega), Nat.and_two_pow_sub_one_eq_mod]
  simp

/-- An even word, or 1. -/
theorem or_one (x : Int) (h0 : 0 ≤ x) (h1 : x < 4611686018427387904) (h2 : x % 2 = 0) : bits .or .i64 x 1 = x + 1 := by
  obtain ⟨m, rfl⟩ := Int.eq_ofNat_of_zero_le h0
  have h := (bits_nat .i64 62 (by decide) (fun n a b => by rw [IntKind.wrap_i64]; omega) m 1 (by omega) (by decide)).2
  have e : m ||| 1 = m + 1 := by
    obtain ⟨k, rfl⟩ : ∃ k, m = k * 2 ^ 1 := ⟨m / 2, by omega⟩
    exact or_shift 1 k 1 (by decide)
  rw [e] at h
  simpa using h

end Go.Proofs.Ytceliebbpkgifaa
