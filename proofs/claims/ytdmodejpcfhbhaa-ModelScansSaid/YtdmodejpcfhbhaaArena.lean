/- Package arena: what each method answers, and what it leaves. -/
import Derived.Test.YtdmodejpcfhbhaaProg
import Derived.Test.YtdmodejpcfhbhaaBase
import Derived.RegionTactic
import Derived.ChangeAlike
namespace Go.Proofs.Ytdmodejpcfhbhaa
open Go.RowKit

/-- One access, as it went. -/
structure Acc where
  kind : Int
  pos : Int
  old : Int
  new : Int
  ok : Bool

def Acc.zero : Acc := ⟨0, 0, 0, 0, false⟩

/-- An arena: its words, how many accesses of each kind there were (counted without end), the last one. -/
structure Ar where
  ws : List Int
  cap : Nat
  tail : List Value
  d0 : Int
  d1 : Int
  d2 : Int
  d3 : Int
  d4 : Int
  last : Acc

def Ar.n (A : Ar) : Int := A.d0 + A.d1 + A.d2 + A.d3 + A.d4

def encA (A : Ar) (d : Nat) : Array Value :=
  #[.slice (some ⟨d, 0, none⟩) A.ws.length A.cap, .int .i64 (wrap64 A.d0), .int .i64 (wrap64 A.d1), .int .i64 (wrap64 A.d2), .int .i64 (wrap64 A.d3), .int .i64 (wrap64 A.d4),
    .int .i64 A.last.kind, .int .i64 A.last.pos, .int .i64 A.last.old, .int .i64 A.last.new, .bool A.last.ok]
def encW (l : List Int) (tl : List Value) : Array Value := (l.map (Value.int .i64) ++ tl).toArray
def encD (A : Ar) : Array Value := encW A.ws A.tail

/-- An access of a kind from 1 to 4 is noted. -/
def Ar.note (A : Ar) (x : Acc) : Ar :=
  if x.kind = 1 then { A with d1 := A.d1 + 1, last := x } else if x.kind = 2 then { A with d2 := A.d2 + 1, last := x }
  else if x.kind = 3 then { A with d3 := A.d3 + 1, last := x } else { A with d4 := A.d4 + 1, last := x }

theorem wrap_succ (x : Int) : wrap64 (wrap64 x + 1) = wrap64 (x + 1) := by unfold wrap64; omega

structure IsAr (h : GH) (a d : Nat) (A : Ar) : Prop where
  at_a : h a = some (.cells (encA A d) 119)
  at_d : h d = some (.cells (encD A) 3)
  ne : a ≠ d
  len : A.ws.length ≤ 20000
  pos : 1 ≤ A.ws.length

theorem is_calls (a d : Nat) (A : Ar) (i : Int) {w0 w : World} {h : GH} (hm : Mem w0 h w) (ha : IsAr h a d A) :
    Calls Try.prog 78 #[.pointer (some ⟨a, 0, none⟩), .int .i64 i] w fun e w' => e = .returned (.bool (decide (0 ≤ i ∧ i < A.ws.length))) ∧ w = w' := by
  have c0 : w.cell? ⟨a, 0, none⟩ = some (.slice (some ⟨d, 0, none⟩) A.ws.length A.cap) := hm.cell ha.at_a 0
  by_cases h0 : 0 ≤ i
  · by_cases h1 : i < A.ws.length
    · go_enter Try.func78, Try.ntmps78
      go_wp2
      go_returns
      exact ⟨ret_bool (by simp; omega), rfl⟩
    · go_enter Try.func78, Try.ntmps78
      go_wp2
      go_returns
      exact ⟨ret_bool (by simp; omega), rfl⟩
  · go_enter Try.func78, Try.ntmps78
    go_wp2
    go_returns
    exact ⟨ret_bool (by simp; omega), rfl⟩

theorem notes_calls (a d : Nat) (A : Ar) (x : Acc) (hk : x.kind = 1 ∨ x.kind = 2 ∨ x.kind = 3 ∨ x.kind = 4) {w0 w : World} {h : GH} (hm : Mem w0 h w) (ha : h a = some (.cells (encA A d) 119)) :
    Calls Try.prog 144 #[.pointer (some ⟨a, 0, none⟩), .agg #[.int .i64 x.kind, .int .i64 x.pos, .int .i64 x.old, .int .i64 x.new, .bool x.ok]] w fun e w' => e = .returned (.tuple #[]) ∧ Mem w0 (upd h a (.cells (encA (A.note x) d) 119)) w' := by
  have hlt := hm.lt ha
  have c2 : w.cell? ⟨a, 2, none⟩ = some (.int .i64 (wrap64 A.d1)) := hm.cell ha 2
  have c3 : w.cell? ⟨a, 3, none⟩ = some (.int .i64 (wrap64 A.d2)) := hm.cell ha 3
  have c4 : w.cell? ⟨a, 4, none⟩ = some (.int .i64 (wrap64 A.d3)) := hm.cell ha 4
  have c5 : w.cell? ⟨a, 5, none⟩ = some (.int .i64 (wrap64 A.d4)) := hm.cell ha 5
  have c6 : w.cell? ⟨a, 6, none⟩ = some (.int .i64 A.last.kind) := hm.cell ha 6
  have c7 : w.cell? ⟨a, 7, none⟩ = some (.int .i64 A.last.pos) := hm.cell ha 7
  have c8 : w.cell? ⟨a, 8, none⟩ = some (.int .i64 A.last.old) := hm.cell ha 8
  have c9 : w.cell? ⟨a, 9, none⟩ = some (.int .i64 A.last.new) := hm.cell ha 9
  have c10 : w.cell? ⟨a, 10, none⟩ = some (.bool A.last.ok) := hm.cell ha 10
  have f2 := hm.free ha 2
  have f3 := hm.free ha 3
  have f4 := hm.free ha 4
  have f5 := hm.free ha 5
  have f6 := hm.free ha 6
  have f7 := hm.free ha 7
  have f8 := hm.free ha 8
  have f9 := hm.free ha 9
  have f10 := hm.free ha 10
  obtain ⟨k, p, o, n, ok⟩ := x
  simp only at hk ⊢
  rcases hk with rfl | rfl | rfl | rfl
  · go_enter Try.func144, Try.ntmps144
    go_wp2
    go_region
    all_goals
      go_wp2
      go_end0
      exact ⟨rfl, (((((((((hm.set ha 2 _).set2 6 _).set2 7 _).set2 8 _).set2 9 _).set2 10 _).alloc _).drew).eqv (by simp [encA, Ar.note, wrap_succ]))⟩
  · go_enter Try.func144, Try.ntmps144
    go_wp2
    go_region
    all_goals
      go_wp2
      go_end0
      exact ⟨rfl, (((((((((hm.set ha 3 _).set2 6 _).set2 7 _).set2 8 _).set2 9 _).set2 10 _).alloc _).drew).eqv (by simp [encA, Ar.note, wrap_succ]))⟩
  · go_enter Try.func144, Try.ntmps144
    go_wp2
    go_region
    all_goals
      go_wp2
      go_end0
      exact ⟨rfl, (((((((((hm.set ha 4 _).set2 6 _).set2 7 _).set2 8 _).set2 9 _).set2 10 _).alloc _).drew).eqv (by simp [encA, Ar.note, wrap_succ]))⟩
  · go_enter Try.func144, Try.ntmps144
    go_wp2
    go_region
    all_goals
      go_wp2
      go_end0
      exact ⟨rfl, (((((((((hm.set ha 5 _).set2 6 _).set2 7 _).set2 8 _).set2 9 _).set2 10 _).alloc _).drew).eqv (by simp [encA, Ar.note, wrap_succ]))⟩

def Ar.inb (A : Ar) (i : Int) : Prop := 0 ≤ i ∧ i < A.ws.length
instance (A : Ar) (i : Int) : Decidable (A.inb i) := inferInstanceAs (Decidable (0 ≤ i ∧ i < A.ws.length))

theorem is_yes (a d : Nat) (A : Ar) (i : Int) (h0 : 0 ≤ i) (h1 : i < A.ws.length) {w0 w : World} {h : GH} (hm : Mem w0 h w) (ha : IsAr h a d A) :
    Calls Try.prog 78 #[.pointer (some ⟨a, 0, none⟩), .int .i64 i] w fun e w' => e = .returned (.bool true) ∧ w = w' := by
  have := is_calls a d A i hm ha
  rwa [show decide (0 ≤ i ∧ i < A.ws.length) = true from decide_eq_true ⟨h0, h1⟩] at this
theorem is_no (a d : Nat) (A : Ar) (i : Int) (hi : ¬ A.inb i) {w0 w : World} {h : GH} (hm : Mem w0 h w) (ha : IsAr h a d A) :
    Calls Try.prog 78 #[.pointer (some ⟨a, 0, none⟩), .int .i64 i] w fun e w' => e = .returned (.bool false) ∧ w = w' := by
  have := is_calls a d A i hm ha
  rwa [show decide (0 ≤ i ∧ i < A.ws.length) = false from decide_eq_false hi] at this

/-! ### What the accesses are. -/
def Ar.rd (A : Ar) (i : Int) : Int := if A.inb i then A.ws.getD i.toNat 0 else 0
def Ar.wr (A : Ar) (i v : Int) : Ar := if A.inb i then { A with ws := A.ws.set i.toNat v } else A
def Ar.load (A : Ar) (i : Int) : Ar := A.note ⟨1, i, A.rd i, A.rd i, false⟩
def Ar.store (A : Ar) (i v : Int) : Ar := (A.wr i v).note ⟨2, i, A.rd i, if A.inb i then v else 0, false⟩
def Ar.swaps (A : Ar) (i o : Int) : Bool := decide (A.inb i ∧ A.rd i = o)
def Ar.swap (A : Ar) (i o n : Int) : Ar := (if A.swaps i o then A.wr i n else A).note ⟨3, i, A.rd i, if A.swaps i o then n else A.rd i, A.swaps i o⟩
def Ar.add (A : Ar) (i n : Int) : Ar := (A.wr i (wrap64 (A.rd i + n))).note ⟨4, i, A.rd i, if A.inb i then wrap64 (A.rd i + n) else 0, false⟩

/-- The owned heap with this arena in it. -/
def ua (h : GH) (a d : Nat) (A : Ar) : GH := upd (upd h d (.cells (encD A) 3)) a (.cells (encA A d) 119)

@[simp] theorem note_ws (A : Ar) (x : Acc) : (A.note x).ws = A.ws := by unfold Ar.note; split <;> (try split) <;> (try split) <;> rfl
@[simp] theorem note_tail (A : Ar) (x : Acc) : (A.note x).tail = A.tail := by unfold Ar.note; split <;> (try split) <;> (try split) <;> rfl
@[simp] theorem note_cap (A : Ar) (x : Acc) : (A.note x).cap = A.cap := by unfold Ar.note; split <;> (try split) <;> (try split) <;> rfl
@[simp] theorem wr_len (A : Ar) (i v : Int) : (A.wr i v).ws.length = A.ws.length := by unfold Ar.wr; split <;> simp

theorem IsAr.ua {h : GH} {a d : Nat} {A A' : Ar} (hi : IsAr h a d A) (hl : A'.ws.length = A.ws.length) : IsAr (ua h a d A') a d A' :=
  ⟨upd_same _ _ _, by unfold Go.Proofs.Ytdmodejpcfhbhaa.ua; rw [upd_other _ _ (Ne.symm hi.ne)]; exact upd_same _ _ _, hi.ne, by rw [hl]; exact hi.len, by rw [hl]; exact hi.pos⟩

theorem ua_other {h : GH} {a d k : Nat} {A : Ar} (h1 : k ≠ a) (h2 : k ≠ d) : ua h a d A k = h k := by
  unfold ua; rw [upd_other _ _ h1, upd_other _ _ h2]

theorem ua_ua {h : GH} {a d : Nat} {A A' : Ar} (hn : a ≠ d) : ua (ua h a d A) a d A' = ua h a d A' := by
  unfold ua; rw [upd_comm _ _ _ (Ne.symm hn), upd_upd, upd_upd]

theorem encW_set (l : List Int) (tl : List Value) {k : Nat} (hk : k < l.length) (v : Int) : (encW l tl).setIfInBounds k (.int .i64 v) = encW (l.set k v) tl := by
  unfold encW
  rw [List.setIfInBounds_toArray, List.set_append_left _ _ (by simpa using hk), List.map_set]

theorem set_getD (l : List Int) (k : Nat) : l.set k (l.getD k 0) = l := by
  apply List.ext_getElem?
  intro i
  rw [List.getElem?_set]
  split
  · rename_i e; subst e
    by_cases h : k < l.length
    · simp [h]
    · simp [h]
  · rfl

theorem encW_get {l : List Int} (tl : List Value) {k : Nat} (hk : k < l.length) : (encW l tl)[k]? = some (.int .i64 (l.getD k 0)) := by
  unfold encW; rw [List.getElem?_toArray, List.getElem?_append_left (by simpa using hk)]; simp [hk]

theorem rd_in {A : Ar} {k : Nat} (h1 : k < A.ws.length) : A.rd k = A.ws.getD k 0 := by
  unfold Ar.rd; rw [if_pos ⟨by omega, by omega⟩]; simp
theorem rd_out {A : Ar} {i : Int} (hi : ¬ A.inb i) : A.rd i = 0 := by unfold Ar.rd; rw [if_neg hi]
theorem wr_out {A : Ar} {i v : Int} (hi : ¬ A.inb i) : A.wr i v = A := by unfold Ar.wr; rw [if_neg hi]
theorem wr_in {A : Ar} {k : Nat} {v : Int} (h1 : k < A.ws.length) : A.wr k v = { A with ws := A.ws.set k v } := by
  unfold Ar.wr; rw [if_pos ⟨by omega, by omega⟩]; simp
theorem inb_nat {A : Ar} {k : Nat} (h1 : k < A.ws.length) : A.inb k := ⟨by omega, by omega⟩

/-- Behind a word's change, its access noted. -/
theorem Mem.acc {w0 w : World} {h : GH} {a d : Nat} {A A' : Ar} (m : Mem w0 (upd (upd h d (.cells (encD A') 3)) a (.cells (encA A' d) 119)) w) (e : A' = A) : Mem w0 (ua h a d A) w := by
  subst e; exact m

theorem ua_same {h : GH} {a d : Nat} {A : Ar} (ha : IsAr h a d A) (A' : Ar) (hw : A'.ws = A.ws) (ht : A'.tail = A.tail) : ua h a d A' = upd h a (.cells (encA A' d) 119) := by
  funext k
  unfold ua
  by_cases e : k = a
  · subst e; rw [upd_same, upd_same]
  · rw [upd_other _ _ e, upd_other _ _ e]
    by_cases e2 : k = d
    · subst e2; rw [upd_same, ha.at_d]; unfold encD; rw [hw, ht]
    · rw [upd_other _ _ e2]

end Go.Proofs.Ytdmodejpcfhbhaa
