/- Words for all proofs of this seat: which blocks of memory a call owns and what they hold; small facts on words' bits. No program is named here. -/
import Derived.WalkKit
import Derived.ProofKit
import Derived.WalkLawsBesides
import Derived.WalkSpells
import Derived.Outline
import Derived.Lib.Hide
import Derived.Handy
import Derived.Laws.Bits64b
import Derived.Laws.BitsLemmas
import Derived.OwnWalk
import Derived.BigQuiet
import Derived.Lib.SliceRun
namespace Go.Proofs.Ytdmodejpcfhbhaa
open Go.RowKit

/-- A heap of one's own: which blocks are owned, and what they hold. -/
abbrev GH := Nat → Option Obj

def upd (h : GH) (k : Nat) (c : Obj) : GH := fun i => if i = k then some c else h i
theorem upd_same (h : GH) (k : Nat) (c : Obj) : upd h k c k = some c := by simp [upd]
theorem upd_other (h : GH) {k i : Nat} (c : Obj) (hi : i ≠ k) : upd h k c i = h i := by simp [upd, hi]
theorem upd_upd (h : GH) (k : Nat) (c d : Obj) : upd (upd h k c) k d = upd h k d := by funext i; simp only [upd]; split <;> rfl
theorem upd_comm (h : GH) {k i : Nat} (c d : Obj) (hi : i ≠ k) : upd (upd h k c) i d = upd (upd h i d) k c := by
  funext j; simp only [upd]; split <;> split <;> simp_all
theorem upd_eq {h : GH} {k : Nat} {c : Obj} (hk : h k = some c) : upd h k c = h := by
  funext i
  by_cases e : i = k
  · rw [e, upd_same, hk]
  · rw [upd_other _ _ e]

/-- Behind w0: nothing that w0 had has turned; each owned block is newer than w0 and is what h says. -/
structure Mem (w0 : World) (h : GH) (w : World) : Prop where
  below : Below w0.heap.size w0 w
  own : ∀ k b, h k = some b → w0.heap.size ≤ k
  blk : ∀ k b, h k = some b → w.heap[k]? = some b

def none0 : GH := fun _ => none

theorem Mem.start (w : World) : Mem w none0 w := ⟨Below.refl _ _, fun _ _ h => by simp [none0] at h, fun _ _ h => by simp [none0] at h⟩

theorem Mem.lt {w0 w : World} {h : GH} (m : Mem w0 h w) {k : Nat} {b : Obj} (hk : h k = some b) : k < w.heap.size :=
  (Array.getElem?_eq_some_iff.1 (m.blk k b hk)).1

theorem Mem.fresh {w0 w : World} {h : GH} (m : Mem w0 h w) {k : Nat} (hk : w.heap.size ≤ k) : h k = none := by
  cases e : h k with
  | none => rfl
  | some c => have := m.lt e; omega

theorem Mem.cell {w0 w : World} {h : GH} (m : Mem w0 h w) {k : Nat} {c : Array Value} {T : TypeId} (hk : h k = some (.cells c T)) (i : Nat) : w.cell? ⟨k, i, none⟩ = c[i]? := by
  simp [World.cell?, m.blk k _ hk]

theorem Mem.free {w0 w : World} {h : GH} (m : Mem w0 h w) {k : Nat} {c : Array Value} {T : TypeId} (hk : h k = some (.cells c T)) (i : Nat) : w.frozen? ⟨k, i, none⟩ = false := by
  simp [World.frozen?, m.blk k _ hk]

theorem Mem.drew {w0 w : World} {h : GH} (m : Mem w0 h w) : Mem w0 h w.drew := ⟨m.below.drew, m.own, m.blk⟩

/-- A new block that is not looked at again. -/
theorem Mem.alloc {w0 w : World} {h : GH} (m : Mem w0 h w) (o : Obj) : Mem w0 h (w.alloc o) :=
  ⟨m.below.alloc m.below.size o, m.own, fun k c hk => by
    rw [Below.heap_alloc _ _ _ (m.lt hk)]; exact m.blk k c hk⟩

/-- A new block that is kept. -/
theorem Mem.keepO {w0 w : World} {h : GH} (m : Mem w0 h w) (o : Obj) : Mem w0 (upd h w.heap.size o) (w.alloc o) :=
  ⟨m.below.alloc m.below.size _, fun k d hk => by
    by_cases e : k = w.heap.size
    · rw [e]; exact m.below.size
    · rw [upd_other _ _ e] at hk; exact m.own k d hk, fun k d hk => by
    by_cases e : k = w.heap.size
    · subst e; rw [upd_same] at hk; obtain rfl := Option.some.inj hk; show (w.heap.push _)[w.heap.size]? = _; simp
    · rw [upd_other _ _ e] at hk
      rw [Below.heap_alloc _ _ _ (m.lt hk)]; exact m.blk k d hk⟩
theorem Mem.keep {w0 w : World} {h : GH} (m : Mem w0 h w) (c : Array Value) (T : TypeId) : Mem w0 (upd h w.heap.size (.cells c T)) (w.alloc (.cells c T)) := m.keepO _

theorem Mem.set {w0 w : World} {h : GH} (m : Mem w0 h w) {k : Nat} {c : Array Value} {T : TypeId} (hk : h k = some (.cells c T)) (i : Nat) (v : Value) :
    Mem w0 (upd h k (.cells (c.setIfInBounds i v) T)) (w.setCell ⟨k, i, none⟩ v) :=
  ⟨m.below.setCell (m.own k _ hk) v, fun j d hj => by
    by_cases e : j = k
    · rw [e]; exact m.own k _ hk
    · rw [upd_other _ _ e] at hj; exact m.own j d hj, fun j d hj => by
    by_cases e : j = k
    · subst e; rw [upd_same] at hj; obtain rfl := Option.some.inj hj
      have hT := m.blk j _ hk
      simp [World.setCell, Array.getElem?_modify, hT]
    · rw [upd_other _ _ e] at hj
      rw [Below.heap_setCell _ _ _ _ (by simpa using e)]; exact m.blk j d hj⟩

theorem Mem.set2 {w0 w : World} {h : GH} {k : Nat} {c : Array Value} {T : TypeId} (m : Mem w0 (upd h k (.cells c T)) w) (i : Nat) (v : Value) :
    Mem w0 (upd h k (.cells (c.setIfInBounds i v) T)) (w.setCell ⟨k, i, none⟩ v) := by
  have := m.set (upd_same h k (.cells c T)) i v
  rwa [upd_upd] at this

theorem Mem.eqv {w0 w : World} {h : GH} {k : Nat} {c c' : Array Value} {T : TypeId} (m : Mem w0 (upd h k (.cells c T)) w) (e : c = c') : Mem w0 (upd h k (.cells c' T)) w := e ▸ m

/-- What is owned may be forgotten. -/
theorem Mem.less {w0 w : World} {h h' : GH} (m : Mem w0 h w) (hl : ∀ k c, h' k = some c → h k = some c) : Mem w0 h' w :=
  ⟨m.below, fun k c hk => m.own k c (hl k c hk), fun k c hk => m.blk k c (hl k c hk)⟩

theorem Mem.to {w0 w : World} {h h' : GH} (m : Mem w0 h w) (e : h = h') : Mem w0 h' w := e ▸ m

/-- New blocks alone. -/
theorem Mem.grown {w0 w w' : World} {h : GH} (m : Mem w0 h w) (g : Below w.heap.size w w') : Mem w0 h w' :=
  ⟨m.below.trans (g.mono m.below.size), m.own, fun k c hk => by
    rw [g.block k (m.lt hk)]; exact m.blk k c hk⟩

/-- Behind an append or a make: nothing owned has turned (the one row that may be written is not owned). -/
theorem Mem.grew {w0 w w' : World} {h : GH} {row : Option Nat} (m : Mem w0 h w) (g : w.grownBy w' row) (hr : ∀ k, row = some k → w0.heap.size ≤ k ∧ h k = none) : Mem w0 h w' :=
  ⟨m.below.grown g m.below.size (fun k hk => (hr k hk).1), m.own, fun k b hk => by
    rw [g.block k (m.lt hk) (fun e => by have := (hr k e.symm).2; rw [hk] at this; exact absurd this (by simp))]; exact m.blk k b hk⟩

/-- One owned block has turned. -/
theorem Mem.turned {w0 w w' : World} {h : GH} {k : Nat} {o o' : Obj} (m : Mem w0 h w) (hk : h k = some o) (g : w.grownBy w' (some k)) (ho : w'.heap[k]? = some o') : Mem w0 (upd h k o') w' :=
  ⟨m.below.grown g m.below.size (fun j hj => by cases hj; exact m.own k _ hk), fun j b hj => by
    by_cases e : j = k
    · rw [e]; exact m.own k _ hk
    · rw [upd_other _ _ e] at hj; exact m.own j b hj, fun j b hj => by
    by_cases e : j = k
    · subst e; rw [upd_same] at hj; obtain rfl := Option.some.inj hj; exact ho
    · rw [upd_other _ _ e] at hj
      rw [g.block j (m.lt hj) (fun q => e (Option.some.inj q))]; exact m.blk j b hj⟩

/-- A block is taken over. -/
theorem Mem.addO {w0 w : World} {h : GH} (m : Mem w0 h w) {g : Nat} {o : Obj} (hg : w.heap[g]? = some o) (h0 : w0.heap.size ≤ g) : Mem w0 (upd h g o) w :=
  ⟨m.below, fun k b hk => by
    by_cases e : k = g
    · rw [e]; exact h0
    · rw [upd_other _ _ e] at hk; exact m.own k b hk, fun k b hk => by
    by_cases e : k = g
    · subst e; rw [upd_same] at hk; obtain rfl := Option.some.inj hk; exact hg
    · rw [upd_other _ _ e] at hk; exact m.blk k b hk⟩
theorem Mem.add {w0 w : World} {h : GH} (m : Mem w0 h w) {g : Nat} {c : Array Value} {T : TypeId} (hg : w.heap[g]? = some (.cells c T (0, 0))) (h0 : w0.heap.size ≤ g) : Mem w0 (upd h g (.cells c T)) w := m.addO hg h0

/-- What w had, and what was owned, seen from w itself. -/
theorem Mem.cell_old {w0 w : World} {h : GH} (m : Mem w0 h w) {k : Nat} (hk : k < w0.heap.size) : w.heap[k]? = w0.heap[k]? := m.below.block k hk

/-- A world behind w0 whose owned heap is h. -/
structure MW (w0 : World) (h : GH) where
  w : World
  m : Mem w0 h w

/-- A region that draws its order, whose operations and callees leave the owned heap as it is: one walk, in the order of the text. -/
theorem region_mem {P : Program} {id : Nat} {Q : Exit → Act → World → Prop} {a : Act} {w w0 : World} {h : GH} {l : List Oper} (hmix : P.follows .mixedOrders = true) (hB : Region.lexB .any l.toArray = true) (m : Mem w0 h w)
    (hq : wpQuiet P l.toArray (fun w' => ∃ x : MW w0 h, w' = x.w) (fun a' => ∀ w', (∃ x : MW w0 h, w' = x.w) → Q .normal a' w') l a) : (Code.region id l.toArray true).wp P Q a w :=
  wp_region_quiet (C := fun w' => ∃ x : MW w0 h, w' = x.w) hmix hB ⟨⟨_, m.drew⟩, rfl⟩ (by simpa using hq)

theorem Calls.in_mem {P : Program} {f : FuncId} {args : Array Value} {w0 : World} {h : GH} {x : MW w0 h} {v : Value}
    (hc : Calls P f args x.w fun e w' => e = .returned v ∧ Mem w0 h w') : Calls P f args x.w fun e w'' => e = .returned v ∧ ∃ y : MW w0 h, w'' = y.w :=
  hc.mono fun _ _ ⟨he, hm⟩ => ⟨he, ⟨_, hm⟩, rfl⟩
theorem Calls.in_mem_same {P : Program} {f : FuncId} {args : Array Value} {w0 : World} {h : GH} {x : MW w0 h} {v : Value}
    (hc : Calls P f args x.w fun e w' => e = .returned v ∧ x.w = w') : Calls P f args x.w fun e w'' => e = .returned v ∧ ∃ y : MW w0 h, w'' = y.w :=
  hc.mono fun _ _ ⟨he, hm⟩ => ⟨he, x, hm.symm⟩

/-- A slice of integers that came in: nil or empty, or a row of 'cap' numbers of which the first 'len' are its elements. -/
def IsRow (k : IntKind) (w : World) (a : Option Addr) (len cap : Nat) (zs : List Int) : Prop :=
  (len = 0) ∨
  ∃ b off, a = some ⟨b, off, none⟩ ∧ len ≤ cap ∧ cap ≤ maxLen ∧ zs.length = cap ∧ (∀ i, i < zs.length → w.cell? ⟨b, off + i, none⟩ = some (.int k (zs.getD i 0))) ∧ ∀ n ∈ zs, (Lit.int k n).wf = true

theorem row_of_cells {k : IntKind} {w : World} {x : Addr} {len cap : Nat} {zs : List Int} (hl : len ≤ cap) (hm : cap ≤ maxLen) (hz : zs.length = cap) (hc : ∀ i, i < zs.length → w.cell? (x.add i) = some (.int k (zs.getD i 0))) (hw : ∀ n ∈ zs, (Lit.int k n).wf = true) :
    IsRow k w (some x) len cap zs := by
  by_cases h0 : zs.length = 0
  · exact .inl (by omega)
  · obtain ⟨b, off, spot⟩ := x
    have h1 := hc 0 (by omega)
    have hspot : spot = none := by simpa [Addr.add] using World.cell?_spot h1
    subst hspot
    exact .inr ⟨b, off, rfl, hl, hm, hz, fun i hi => by have := hc i hi; rwa [Addr.add_lit] at this, hw⟩

theorem ret_int {k : IntKind} {a b : Int} (h : a = b) : Ending.returned (.int k a) = .returned (.int k b) := by rw [h]
theorem ret_bool {a b : Bool} (h : a = b) : Ending.returned (.bool a) = .returned (.bool b) := by rw [h]

theorem and_t {a b : Bool} (ha : a = true) (hb : b = true) : (a && b) = true := by rw [ha, hb]; rfl
theorem bne_t {a b : Int} (h : a ≠ b) : (a != b) = true := by simpa using h
theorem beq_t {a b : Int} (h : a = b) : (a == b) = true := by simpa using h
theorem not_t {a : Bool} (h : a = false) : (!a) = true := by rw [h]; rfl
theorem beq_f {a b : Int} (h : a ≠ b) : (a == b) = false := by simpa using h
theorem bne_f {a b : Int} (h : a = b) : (a != b) = false := by simpa using h
theorem beqb_t {a b c d : Int} (h : a = b ↔ c = d) : ((a == b) == (c == d)) = true := by rw [beq_iff_eq, Bool.eq_iff_iff]; simpa using h
/-- Equal or not, without an equation. -/
theorem eq_or (a b : Int) : (a ≤ b ∧ b ≤ a) ∨ a < b ∨ b < a := by omega

theorem wf_i64_bounds {x : Int} (h : (Lit.int .i64 x).wf = true) : -9223372036854775808 ≤ x ∧ x ≤ 9223372036854775807 := by
  simpa [Lit.wf, IntKind.min, IntKind.max, IntKind.signed, IntKind.bits] using h

theorem wf_i64_of {x : Int} (h0 : -9223372036854775808 ≤ x) (h1 : x ≤ 9223372036854775807) : (Lit.int .i64 x).wf = true := by
  simpa [Lit.wf, IntKind.min, IntKind.max, IntKind.signed, IntKind.bits] using ⟨h0, h1⟩
theorem wf_u32_bounds {x : Int} (h : (Lit.int .u32 x).wf = true) : 0 ≤ x ∧ x ≤ 4294967295 := by
  simpa [Lit.wf, IntKind.min, IntKind.max, IntKind.signed, IntKind.bits] using h
theorem wf_u16_bounds {x : Int} (h : (Lit.int .u16 x).wf = true) : 0 ≤ x ∧ x ≤ 65535 := by
  simpa [Lit.wf, IntKind.min, IntKind.max, IntKind.signed, IntKind.bits] using h
theorem wf_u8_bounds {x : Int} (h : (Lit.int .u8 x).wf = true) : 0 ≤ x ∧ x ≤ 255 := by
  simpa [Lit.wf, IntKind.min, IntKind.max, IntKind.signed, IntKind.bits] using h
theorem wf_i8_bounds {x : Int} (h : (Lit.int .i8 x).wf = true) : -128 ≤ x ∧ x ≤ 127 := by
  simpa [Lit.wf, IntKind.min, IntKind.max, IntKind.signed, IntKind.bits] using h

/-! ### Words' bits -/

/-- A number held from a to b. -/
def clamp (n a b : Int) : Int := min (max n a) b
theorem clamp_in {n a b : Int} (h0 : a ≤ n) (h1 : n ≤ b) : clamp n a b = n := by unfold clamp; omega
theorem clamp_lo {n a b : Int} (h : a ≤ b) : a ≤ clamp n a b := by unfold clamp; omega
theorem clamp_hi {n a b : Int} : clamp n a b ≤ b := by unfold clamp; omega

theorem or_shift (s h l : Nat) (hl : l < 2 ^ s) : (h * 2 ^ s) ||| l = h * 2 ^ s + l := by
  rw [Nat.mul_comm, Nat.two_pow_add_eq_or_of_lt hl]

theorem bits_or_shift (s : Nat) (h l : Int) (P : Int) (hP : P = 2 ^ s) (h0 : 0 ≤ h) (l0 : 0 ≤ l) (l1 : l < P) (hb : h * P + l < 18446744073709551616) :
    bits .or .u64 (h * P) l = h * P + l := by
  subst hP
  obtain ⟨m, rfl⟩ := Int.eq_ofNat_of_zero_le h0
  obtain ⟨n, rfl⟩ := Int.eq_ofNat_of_zero_le l0
  have e : ((m : Int) * 2 ^ s) = ((m * 2 ^ s : Nat) : Int) := by simp
  have hn : n < 2 ^ s := by exact_mod_cast l1
  rw [e] at hb ⊢
  rw [bits_or_u64_nat _ _ (by omega) (by omega), or_shift _ _ _ hn]
  simp

/-- The lowest s bits of a word. -/
theorem bits_and_low (s : Nat) (hs : s ≤ 63) (x : Int) (M : Int) (hM : M = 2 ^ s - 1) (h0 : 0 ≤ x) (h1 : x < 18446744073709551616) : bits .and .u64 x M = x % 2 ^ s := by
  subst hM
  obtain ⟨m, rfl⟩ := Int.eq_ofNat_of_zero_le h0
  have hp : 1 ≤ 2 ^ s := Nat.one_le_two_pow
  have hq : 2 ^ s ≤ 2 ^ 63 := Nat.pow_le_pow_right (by decide) hs
  have e : ((2 : Int) ^ s - 1) = ((2 ^ s - 1 : Nat) : Int) := by rw [Int.ofNat_sub hp]; simp
  rw [e, bits_and_u64_nat _ _ (by omega) (by omega), Nat.and_two_pow_sub_one_eq_mod]
  simp

/-- An even word, or 1. -/
theorem or_one (x : Int) (h0 : 0 ≤ x) (h1 : x < 4611686018427387904) (h2 : x % 2 = 0) : bits .or .i64 x 1 = x + 1 := by
  obtain ⟨m, rfl⟩ := Int.eq_ofNat_of_zero_le h0
  have h := (bits_nat .i64 62 (by decide) (fun n a b => by rw [IntKind.wrap_i64]; omega) m 1 (by omega) (by decide)).2
  have e : m ||| 1 = m + 1 := by
    obtain ⟨k, rfl⟩ : ∃ k, m = k * 2 ^ 1 := ⟨m / 2, by omega⟩
    exact or_shift 1 k 1 (by decide)
  rw [e] at h
  simpa using h

end Go.Proofs.Ytdmodejpcfhbhaa
