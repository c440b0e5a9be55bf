/- The kinds of objects that are told whole, and operations on rows. -/
import Derived.Test.YtdmodejpcfhbhaaSxS
import Derived.Test.YtdmodejpcfhbhaaPlaceMake
import Derived.Test.YtdmodejpcfhbhaaErrs
import Derived.Test.YtdmodejpcfhbhaaMods
import Derived.Test.YtdmodejpcfhbhaaSlices
import Derived.Test.YtdmodejpcfhbhaaIm
namespace Go.Proofs.Ytdmodejpcfhbhaa
open Go.RowKit

/-- What a row's cells hold. -/
inductive Rw where
  | ints (k : IntKind) (f : Nat → Int)
  | bools (f : Nat → Bool)
def Rw.get : Rw → Nat → Value
  | .ints k f, j => .int k (f j)
  | .bools f, j => .bool (f j)
theorem Rw.plain (c : Rw) (j : Nat) : Go.Proofs.Ytdmodejpcfhbhaa.plain (c.get j) = true := by cases c <;> rfl
theorem Rw.one (c : Rw) (j : Nat) : Go.Proofs.Ytdmodejpcfhbhaa.one (c.get j) = true := by cases c <;> rfl
def ClaimM.enc (x : ClaimM) : List Value := [.int .i64 x.c.threads, .int .i64 x.c.cap, .int .i64 x.c.words, .int .i64 x.c.versions, .int .i64 x.thread, .int .i64 x.seq, .int .i64 (x.line : Int), .int .i64 x.v, .int .i64 x.version, match x.err with | true => .iface 100 (.int .i64 15) | false => .nilIface]

/-- What a map from whole numbers holds. -/
inductive Mc where
  | ints (f : Int → Option Int)
  | bools (f : Int → Option Bool)
  | trip (f : Int → Option (Int × Int × Int))
def tripV (p : Int × Int × Int) : Value := .agg ⟨[.int .i64 p.1, .int .i64 p.2.1, .int .i64 p.2.2]⟩
def Mc.get : Mc → Int → Option Value
  | .ints f, a => (f a).map (.int .i64)
  | .bools f, a => (f a).map .bool
  | .trip f, a => (f a).map tripV
def Mc.has : Mc → Int → Bool
  | .ints f, a => (f a).isSome
  | .bools f, a => (f a).isSome
  | .trip f, a => (f a).isSome
theorem Mc.has_eq (c : Mc) (a : Int) : (c.get a).isSome = c.has a := by cases c <;> simp [Mc.get, Mc.has]
def Mc.room : Mc → Nat
  | .bools _ => 30000
  | _ => 64
theorem Mc.room_le (c : Mc) : c.room ≤ 1000000 := by cases c <;> simp [Mc.room]
theorem Mc.scal {c : Mc} {a : Int} {v : Value} (h : c.get a = some v) : Go.Proofs.Ytdmodejpcfhbhaa.scal 3 v = true := by
  cases c <;> simp only [Mc.get, Option.map_eq_some_iff] at h <;> obtain ⟨x, _, rfl⟩ := h <;> rfl
def ImIs (h : GH) (k : Nat) (c : Mc) (τ : Tk) : Prop := ∃ es clock, h k = some (.map es clock) ∧ MapOk c.room c.get τ es clock
def ModlIs (h : GH) (b : Nat) (e : List Nat) (f g : Int → Option Int) : Prop := ∃ bm bw T, e = [b, bm, bw] ∧ b ≠ bm ∧ b ≠ bw ∧ bm ≠ bw ∧ h b = some (.cells #[.map (some bm), .map (some bw)] T) ∧ (∃ τ, ImIs h bm (.ints f) τ) ∧ ∃ τ, ImIs h bw (.ints g) τ
def FixIs (h : GH) (k n : Nat) (c : Rw) : Prop := ∃ (cur : Array Value) (T : TypeId), h k = some (.cells cur T) ∧ cur.size = n ∧ ∀ j, j < n → cur[j]? = some (c.get j)

/-- The further kinds of objects: an arena; a row that was there ahead of all; a row of one's own: its elements' type, how many cells each has, how many there are; structs. -/
inductive Ext where
  | arena (V : Vw)
  | old (lo n : Nat) (c : Rw)
  | row (T : TypeId) (s n : Nat) (c : Rw)
  | cell (x : CellM)
  | claim (x : ClaimM)
  | sealm (x : SealM)
  | leadm (x : LeadM)
  | splm (x : SplM)
  | mp (es : List MapEntry) (clock : Nat)
  | im (c : Mc) (τ : Tk)
  | modl (f g : Int → Option Int)
  | needm (x : NeedM)
  | fix (n : Nat) (c : Rw)
def RowIs (h : GH) (k room : Nat) (T : TypeId) (s n : Nat) (c : Rw) : Prop :=
  ∃ cur : Array Value, h k = some (.cells cur T) ∧ cur.size = room * s ∧ n ≤ room ∧ room ≤ maxLen ∧ ∀ j, j < n * s → cur[j]? = some (c.get j)
def flat (cs : List Value) (b : Nat × Nat) (e : List Nat) (h : GH) : Prop := e = [b.1] ∧ ∃ T, h b.1 = some (.cells ⟨cs⟩ T)
/-- What they mean; W: memory as it was ahead of all. -/
def Ext.sat (W : World) : Ext → Nat × Nat → List Nat → GH → Prop
  | .arena V, b, e, h => ∃ d, e = [b.1, d] ∧ IsV h b.1 d V
  | .old lo n c, b, e, _ => e = [] ∧ ∀ j, lo ≤ j → j < n → b.1 < W.heap.size ∧ W.cell? ⟨b.1, j, none⟩ = some (c.get j)
  | .row T s n c, b, e, h => e = [b.1] ∧ RowIs h b.1 b.2 T s n c
  | .cell x, b, e, h => flat x.enc b e h
  | .claim x, b, e, h => flat x.enc b e h
  | .sealm x, b, e, h => flat x.enc b e h
  | .leadm x, b, e, h => flat x.enc b e h
  | .splm x, b, e, h => flat x.enc b e h
  | .mp es clock, b, e, h => e = [b.1] ∧ h b.1 = some (.map ⟨es⟩ clock)
  | .im c τ, b, e, h => e = [b.1] ∧ ImIs h b.1 c τ
  | .modl f g, b, e, h => ModlIs h b.1 e f g
  | .needm x, b, e, h => flat x.enc b e h
  | .fix n c, b, e, h => e = [b.1] ∧ FixIs h b.1 n c
theorem flat.congr {cs : List Value} {b : Nat × Nat} {e : List Nat} {h h' : GH} (hf : flat cs b e h) (hk : ∀ k, k ∈ e → h' k = h k) : flat cs b e h' := by
  obtain ⟨rfl, T, hT⟩ := hf
  exact ⟨rfl, T, by rw [hk _ (by simp)]; exact hT⟩
theorem flat.here {cs : List Value} {b : Nat × Nat} {e : List Nat} {h : GH} (hf : flat cs b e h) : ∀ k, k ∈ e → ∃ o, h k = some o := by
  obtain ⟨rfl, T, hT⟩ := hf
  intro k hk; simp at hk; subst hk; exact ⟨_, hT⟩
def means (W : World) : Means Ext where
  org w := w = W
  sat := Ext.sat W
  congr := by
    intro x b e h h' hs hk
    cases x with
    | arena V =>
      obtain ⟨d, rfl, hv⟩ := hs
      exact ⟨d, rfl, hv.keep (hk b.1 (by simp)) (hk d (by simp))⟩
    | old lo n c => exact hs
    | row T s n c =>
      obtain ⟨rfl, cur, h1, h2⟩ := hs
      exact ⟨rfl, cur, by rw [hk _ (by simp)]; exact h1, h2⟩
    | cell x => exact flat.congr hs hk
    | claim x => exact flat.congr hs hk
    | sealm x => exact flat.congr hs hk
    | leadm x => exact flat.congr hs hk
    | splm x => exact flat.congr hs hk
    | mp es clock =>
      obtain ⟨rfl, h1⟩ := hs
      exact ⟨rfl, by rw [hk _ (by simp)]; exact h1⟩
    | im c τ =>
      obtain ⟨rfl, es, clock, h1, h2⟩ := hs
      exact ⟨rfl, es, clock, by rw [hk _ (by simp)]; exact h1, h2⟩
    | modl f g =>
      obtain ⟨bm, bw, T, rfl, n1, n2, n3, h1, ⟨τ1, es, c, h2, h3⟩, τ2, es2, c2, h4, h5⟩ := hs
      exact ⟨bm, bw, T, rfl, n1, n2, n3, by rw [hk _ (by simp)]; exact h1, ⟨τ1, es, c, by rw [hk _ (by simp)]; exact h2, h3⟩, τ2, es2, c2, by rw [hk _ (by simp)]; exact h4, h5⟩
    | needm x => exact flat.congr hs hk
    | fix n c =>
      obtain ⟨rfl, cur, T, h1, h2⟩ := hs
      exact ⟨rfl, cur, T, by rw [hk _ (by simp)]; exact h1, h2⟩
  here := by
    intro x b e h hs
    cases x with
    | arena V =>
      obtain ⟨d, rfl, hv⟩ := hs
      intro k hk
      simp only [List.mem_cons, List.not_mem_nil, or_false] at hk
      rcases hk with rfl | rfl
      · obtain ⟨c, hc⟩ := hv.some_a; exact ⟨_, hc⟩
      · obtain ⟨c, hc⟩ := hv.some_d; exact ⟨_, hc⟩
    | old lo n c =>
      obtain ⟨rfl, _⟩ := hs
      intro k hk; simp at hk
    | row T s n c =>
      obtain ⟨rfl, cur, h1, h2⟩ := hs
      intro k hk; simp at hk; subst hk; exact ⟨_, h1⟩
    | cell x => exact flat.here hs
    | claim x => exact flat.here hs
    | sealm x => exact flat.here hs
    | leadm x => exact flat.here hs
    | splm x => exact flat.here hs
    | mp es clock =>
      obtain ⟨rfl, h1⟩ := hs
      intro k hk; simp at hk; subst hk; exact ⟨_, h1⟩
    | im c τ =>
      obtain ⟨rfl, es, clock, h1, h2⟩ := hs
      intro k hk; simp at hk; subst hk; exact ⟨_, h1⟩
    | modl f g =>
      obtain ⟨bm, bw, T, rfl, n1, n2, n3, h1, ⟨τ1, es, c, h2, h3⟩, τ2, es2, c2, h4, h5⟩ := hs
      intro k hk
      simp only [List.mem_cons, List.not_mem_nil, or_false] at hk
      rcases hk with rfl | rfl | rfl
      · exact ⟨_, h1⟩
      · exact ⟨_, h2⟩
      · exact ⟨_, h4⟩
    | needm x => exact flat.here hs
    | fix n c =>
      obtain ⟨rfl, cur, T, h1, h2⟩ := hs
      intro k hk; simp at hk; subst hk; exact ⟨_, h1⟩
abbrev HX := AH Ext

/-! ### Operations on rows -/
def cellsG (c : Rw) : Nat → Nat → List Value
  | _, 0 => []
  | off, n + 1 => c.get off :: cellsG c (off + 1) n
/-- A variable of type T at a place of a row of n cells. -/
def tRead (P : Program) (T : TypeId) (off lo n : Nat) (c : Rw) (H : HX) : DT Ext :=
  match aggB P T with
  | some true => (match sizeP P T with
    | some z => .ite (decide (lo ≤ off ∧ off + z ≤ n)) (.ret (.agg ⟨cellsG c off z⟩) H) .no
    | none => .no)
  | some false => .ite (decide (lo ≤ off ∧ off < n)) (.ret (c.get off) H) .no
  | none => .no
def tLoad (P : Program) (T : TypeId) (i off : Nat) (H : HX) : DT Ext :=
  match nth H i with
  | some (_, .ext (.old lo n c)) => tRead P T off lo n c H
  | some (_, .ext (.row _ s n c)) => tRead P T off 0 (n * s) c H
  | some (_, .ext (.fix n c)) => tRead P T off 0 n c H
  | _ => .no
/-- Cells that are laid in a row. -/
def Rw.lay : Rw → Nat → List Value → Option Rw
  | c, _, [] => some c
  | .ints k f, off, .int l x :: vs => (match decide (k = l) with
    | true => Rw.lay (.ints k fun j => if j = off then x else f j) (off + 1) vs
    | false => none)
  | .bools f, off, .bool x :: vs => Rw.lay (.bools fun j => if j = off then x else f j) (off + 1) vs
  | _, _, _ => none
def tStore (P : Program) (T : TypeId) (i off : Nat) (v : Value) (H : HX) : DT Ext :=
  match nth H i with
  | some (true, .ext (.row U s n c)) => (match sizeP P T, c.lay off (cellsL v) with
    | some z, some c' => .ite (decide ((cellsL v).length = z ∧ off + z ≤ n * s)) (.ret undef (put H i (some (true, .ext (.row U s n c'))))) .no
    | _, _ => .no)
  | some (true, .ext (.fix n c)) => (match sizeP P T, c.lay off (cellsL v) with
    | some z, some c' => .ite (decide ((cellsL v).length = z ∧ off + z ≤ n)) (.ret undef (put H i (some (true, .ext (.fix n c'))))) .no
    | _, _ => .no)
  | _ => .no
/-- What lies in a row from a place on; how many cells. -/
def intsL : List Value → Option (List Int)
  | [] => some []
  | .int .i64 x :: l => (match intsL l with | some r => some (x :: r) | none => none)
  | _ => none
def tFrom (H : HX) (j o : Nat) : Option (Rw × Nat) :=
  match nth H j with
  | some (_, .cells cs _) => (match intsL cs with
    | some xs => some (.ints .i64 fun q => xs.getD (o + q) 0, cs.length)
    | none => none)
  | some (_, .ext (.old _ n c)) => (match c with
    | .ints k f => some (.ints k fun q => f (o + q), n)
    | .bools f => some (.bools fun q => f (o + q), n))
  | some (_, .ext (.row _ s n c)) => (match c with
    | .ints k f => some (.ints k fun q => f (o + q), n * s)
    | .bools f => some (.bools fun q => f (o + q), n * s))
  | _ => none
/-- One behind the other. -/
def Rw.app (n : Nat) : Rw → Rw → Option Rw
  | .ints k f, .ints l g => (match decide (k = l) with
    | true => some (.ints k fun j => if j < n then f j else g (j - n))
    | false => none)
  | .bools f, .bools g => some (.bools fun j => if j < n then f j else g (j - n))
  | _, _ => none
/-- The elements' type: its size, its bytes. -/
def elemP (P : Program) (T : TypeId) : Option (TypeId × Nat × Nat) :=
  match P.underlying T with
  | some (.slice e) => (match P.info? e, zeroC P e with
    | some i, some zs => (match decide (zs.length = i.size ∧ 0 < i.size ∧ i.bytes ≤ 1000) with
      | true => some (e, i.size, i.bytes)
      | false => none)
    | _, _ => none)
  | _ => none
/-- What the slice holds to which is appended. -/
def tDest (H : HX) (e : TypeId) (s : Nat) : Value → Option (Nat × Rw × HX × Bool)
  | .slice none 0 0 => some (0, .ints .i64 fun _ => 0, H, true)
  | .slice (some ⟨i, 0, some 0⟩) n 0 => (match nth H i with
    | some (true, .ext (.row U s' n' c)) => some (n, c, put H i none, decide (U = e ∧ s' = s ∧ n = n'))
    | _ => none)
  | .slice (some ⟨i, 0, none⟩) n c => (match nth H i with
    | some (true, .cells cs U) => (match intsL cs with
      | some xs => some (n, .ints .i64 fun q => xs.getD q 0, put H i none, decide (U = e ∧ cs.length = n * s ∧ c = n ∧ n ≤ 1000000))
      | none => none)
    | _ => none)
  | _ => none
/-- Nothing is appended. -/
def tSame (P : Program) (T : TypeId) (v : Value) (H : HX) : DT Ext :=
  match elemP P T with
  | some (e, s, _) => (match tDest H e s v with
    | some (_, _, _, ok) => .ite ok (.ret v H) .no
    | none => .no)
  | none => .no
def tFromB (H : HX) (j o : Nat) : Bool :=
  match nth H j with
  | some (_, .ext (.old lo _ _)) => decide (lo ≤ o)
  | _ => true
def tMain (P : Program) (T : TypeId) (v : Value) (j o m : Nat) (H : HX) : DT Ext :=
  match elemP P T with
  | some (e, s, _) => (match tDest H e s v with
    | some (n, c, G, ok) => (match tFrom H j o with
      | some (d, r) => (match (match v with | .slice none _ _ => some d | _ => c.app (n * s) d) with
        | some c' => .ite (tFromB H j o) (.ite (ok && decide (0 < m ∧ o + m * s ≤ r ∧ n + m ≤ 1000000)) (.ret (.slice (some ⟨H.length, 0, some 0⟩) (n + m) 0) (G ++ [some (true, .ext (.row e s (n + m) c'))])) .no) .no
        | none => .no)
      | none => .no)
    | none => .no)
  | none => .no
def tAppend0 (P : Program) (T : TypeId) (v : Value) (x : Value) (H : HX) : DT Ext :=
  match x with
  | .slice none 0 0 => tSame P T v H
  | .slice (some ⟨0, 0, some 0⟩) 0 1 => tSame P T v H
  | .slice (some ⟨j, o, _⟩) m _ => tMain P T v j o m H
  | _ => .no
theorem tAppend0_main {P : Program} {T : TypeId} {v : Value} {j o m c : Nat} {H : HX} : tAppend0 P T v (.slice (some ⟨j, o, none⟩) m c) H = tMain P T v j o m H := by
  unfold tAppend0
  split
  · rename_i h; cases h
  · rename_i h; cases h
  · rename_i h; cases h; rfl
  · rename_i h; exact absurd rfl (h j o none m c)
/-- Where it lies is asked first. -/
def tAppend (P : Program) (T : TypeId) (v : Value) (x : Value) (H : HX) : DT Ext :=
  match x with
  | .slice (some a) m c => (match a.spot with
    | none => tMain P T v a.block a.off m H
    | some _ => tAppend0 P T v (.slice (some a) m c) H)
  | x => tAppend0 P T v x H
/-- Cells of nothing. -/
def zeroRw : List Value → Option Rw
  | [.int k 0] => some (.ints k fun _ => 0)
  | [.bool false] => some (.bools fun _ => false)
  | l => (match l.all (fun v => match v with | .int .i64 0 => true | _ => false) with
    | true => some (.ints .i64 fun _ => 0)
    | false => none)
/-- Slices written out. -/
def rep (zs : List Value) : Nat → List Value
  | 0 => []
  | n + 1 => zs ++ rep zs n
def tMake (P : Program) (T : TypeId) (n c : Int) (H : HX) : DT Ext :=
  match elemP P T with
  | some (e, s, _) => (match zeroC P e with
    | some zs => (match zeroRw zs with
      | some d => .ite (decide (0 ≤ n ∧ n = c ∧ n ≤ 1000000)) (.ret (.slice (some ⟨H.length, 0, some 0⟩) n.toNat 0) (H ++ [some (true, .ext (.row e s n.toNat d))])) .no
      | none => .ite (decide (0 ≤ n ∧ n = c ∧ n ≤ 10000 ∧ n.toNat * s ≤ 16777216)) (.ret (.slice (some ⟨H.length, 0, none⟩) n.toNat n.toNat) (H ++ [some (true, .cells (rep zs n.toNat) e)])) .no)
    | none => .no)
  | none => .no
/-- A cut of an array, or of a row. -/
def tSlice (P : Program) (T : TypeId) (x : Value) (lo hi : Option Value) (H : HX) : DT Ext :=
  match x with
  | .pointer (some ⟨i, o, none⟩) => (match P.underlying T, lo, hi with
    | some (.array n e), none, none => (match P.info? e with
      | some _ => .ret (.slice (some ⟨i, o, none⟩) n n) H
      | none => .no)
    | _, _, _ => .no)
  | .slice (some ⟨i, o, some k⟩) n 0 => (match nth H i, elemP P T with
    | some (_, .ext (.row _ _ n' _)), some (_, s, _) => (match lo, hi with
      | none, some (.int .i64 b) => .ite (decide (0 ≤ b ∧ b ≤ n ∧ k + n ≤ n')) (.ret (.slice (some ⟨i, o, some k⟩) b.toNat 0) H) .no
      | some (.int .i64 a), none => .ite (decide (0 ≤ a ∧ a < n ∧ k + n ≤ n')) (.ret (.slice (some ⟨i, o + a.toNat * s, some (k + a.toNat)⟩) (n - a.toNat) 0) H) .no
      | some (.int .i64 a), some (.int .i64 b) => .ite (decide (0 ≤ a ∧ a ≤ b ∧ b ≤ n ∧ a < n ∧ k + n ≤ n')) (.ret (.slice (some ⟨i, o + a.toNat * s, some (k + a.toNat)⟩) (b.toNat - a.toNat) 0) H) .no
      | _, _ => .no)
    | _, _ => .no)
  | _ => .no
def pairUp : List (Nat × Operand) → List Value → Option (List (Nat × Value))
  | [], [] => some []
  | (i, _) :: l, v :: vs => (match pairUp l vs with | some r => some ((i, v) :: r) | none => none)
  | _, _ => none
def tBuild (P : Program) (T : TypeId) (n : Nat) (parts : List (Nat × Operand)) (vs : List Value) (H : HX) : DT Ext :=
  match elemP P T with
  | some (e, s, _) => (match zeroC P e, pairUp parts vs with
    | some zs, some ps => (match fillL (fun i => some (i * s, s)) (rep zs n) ps with
      | some cs => .ite (decide (0 < n ∧ n * s ≤ 16777216)) (.ret (.slice (some ⟨H.length, 0, none⟩) n n) (H ++ [some (true, .cells cs e)])) .no
      | none => .no)
    | _, _ => .no)
  | none => .no
/-- Maps of plain keys and values, their entries written out. -/
def lkV : Bool → Value → Bool → Value
  | true, y, b => .tuple ⟨[y, .bool b]⟩
  | false, y, _ => y
def tLookup (P : Program) (T : TypeId) (i : Nat) (k : Value) (c : Bool) (H : HX) : DT Ext :=
  match nth H i, P.underlying T with
  | some (_, .ext (.mp es _)), some (.map kt et) => (match scal 3 k, semP P (Instr.checkKey (⟨es⟩ : Array MapEntry).isEmpty 10000 kt k), semP P (Instr.findKey kt k es), semP P (zeroValue et) with
    | true, some (), some r, some z => (match r with
      | some (_, v) => (match scal 3 v with | true => .ret (lkV c v true) H | false => .no)
      | none => (match scal 3 z with | true => .ret (lkV c z false) H | false => .no))
    | _, _, _, _ => .no)
  | _, _ => .no
def tUpdate (P : Program) (T : TypeId) (i : Nat) (k v : Value) (H : HX) : DT Ext :=
  match nth H i, P.underlying T with
  | some (true, .ext (.mp es clock)), some (.map kt _) => (match scal 3 k, scal 3 v, semP P (Instr.checkKey false 10000 kt k), semP P (Instr.findKey kt k es) with
    | true, true, some (), some none => .ret undef (put H i (some (true, .ext (.mp (es ++ [⟨k, v, clock⟩]) (clock + 1)))))
    | _, _, _, _ => .no)
  | _, _ => .no
/-- Maps from whole numbers. -/
def tNewMap (P : Program) (T : TypeId) (H : HX) : DT Ext :=
  match P.underlying T with
  | some (.map kt et) => (match P.underlying kt, semP P (zeroValue et) with
    | some (.int .i64), some (.int .i64 0) => .ret (.map (some H.length)) (H ++ [some (true, .ext (.im (.ints fun _ => none) Tk.new))])
    | some (.int .i64), some (.bool false) => .ret (.map (some H.length)) (H ++ [some (true, .ext (.im (.bools fun _ => none) Tk.new))])
    | some (.int .i64), some (.agg ⟨[.int .i64 0, .int .i64 0, .int .i64 0]⟩) => .ret (.map (some H.length)) (H ++ [some (true, .ext (.im (.trip fun _ => none) Tk.new))])
    | _, _ => .ret (.map (some H.length)) (H ++ [some (true, .ext (.mp [] 0))]))
  | _ => .ret (.map (some H.length)) (H ++ [some (true, .ext (.mp [] 0))])
def tLookI (P : Program) (T : TypeId) (m : Mc) (a : Int) (c : Bool) (H : HX) : DT Ext :=
  match P.underlying T with
  | some (.map kt et) => (match P.underlying kt, semP P (zeroValue et), m with
    | some (.int .i64), some (.int .i64 0), .ints f => .ite (Lit.int .i64 a).wf (.ret (lkV c (.int .i64 ((f a).getD 0)) (f a).isSome) H) .no
    | some (.int .i64), some (.bool false), .bools f => .ite (Lit.int .i64 a).wf (.ret (lkV c (.bool ((f a).getD false)) (f a).isSome) H) .no
    | some (.int .i64), some (.agg ⟨[.int .i64 0, .int .i64 0, .int .i64 0]⟩), .trip f => .ite (Lit.int .i64 a).wf (.ret (lkV c (tripV ((f a).getD (0, 0, 0))) (f a).isSome) H) .no
    | _, _, _ => .no)
  | _ => .no
def Mc.set : Mc → Int → Value → Option Mc
  | .ints f, a, .int .i64 y => some (.ints fun x => if x = a then some y else f x)
  | .bools f, a, .bool y => some (.bools fun x => if x = a then some y else f x)
  | .trip f, a, .agg ⟨[.int .i64 y, .int .i64 z, .int .i64 u]⟩ => some (.trip fun x => if x = a then some (y, z, u) else f x)
  | _, _, _ => none
def Mc.del : Mc → Int → Mc
  | .ints f, a => .ints fun x => if x = a then none else f x
  | .bools f, a => .bools fun x => if x = a then none else f x
  | .trip f, a => .trip fun x => if x = a then none else f x
def tUpdI (P : Program) (T : TypeId) (i : Nat) (m : Mc) (τ : Tk) (a : Int) (v : Value) (H : HX) : DT Ext :=
  match P.underlying T, m.set a v with
  | some (.map kt _), some m' => (match P.underlying kt with
    | some (.int .i64) => .ite (decide (0 ≤ a ∧ a < (m.room : Int))) (.ret undef (put H i (some (true, .ext (.im m' (τ.put a (m.has a))))))) .no
    | _ => .no)
  | _, _ => .no
def tDelI (P : Program) (T kt' : TypeId) (i : Nat) (a : Int) (H : HX) : DT Ext :=
  match nth H i, P.underlying T with
  | some (true, .ext (.im m τ)), some (.map kt _) => (match P.underlying kt, decide (kt = kt') with
    | some (.int .i64), true => .ite (Lit.int .i64 a).wf (.ret undef (put H i (some (true, .ext (.im (m.del a) τ))))) .no
    | _, _ => .no)
  | _, _ => .no
/-- An entry is looked up, to be changed (whole numbers). -/
def tEntry (P : Program) (T : TypeId) (i : Nat) (a : Int) (H : HX) : DT Ext :=
  match nth H i, P.underlying T with
  | some (true, .ext (.im (.ints f) τ)), some (.map kt et) => (match P.underlying kt, semP P (zeroValue et) with
    | some (.int .i64), some (.int .i64 0) => .ite (decide (0 ≤ a ∧ a < 64)) (.ret (.tuple ⟨[.int .i64 ((f a).getD 0), .int .i64 (if (f a).isSome then τ.st a else τ.clock : Nat)]⟩)
        (put H i (some (true, .ext (.im (.ints fun x => if x = a then some ((f a).getD 0) else f x) (τ.put a (f a).isSome)))))) .no
    | _, _ => .no)
  | _, _ => .no
def tEntrySt (i : Nat) (s : Int) (v : Value) (H : HX) : DT Ext :=
  match nth H i, v with
  | some (true, .ext (.im (.ints f) τ)), .int .i64 y => .ite (decide (s = (τ.st τ.pend : Nat)) && (f τ.pend).isSome && decide (0 ≤ τ.pend ∧ τ.pend < 64)) (.ret undef (put H i (some (true, .ext (.im (.ints fun x => if x = τ.pend then some y else f x) τ))))) .no
  | _, _ => .no
def tLook1 (P : Program) (T : TypeId) (i : Nat) (k : Value) (c : Bool) (H : HX) : DT Ext :=
  match nth H i with
  | some (_, .ext (.im m _)) => (match k with
    | .int .i64 a => tLookI P T m a c H
    | _ => .no)
  | _ => tLookup P T i k c H
def tUpd1 (P : Program) (T : TypeId) (i : Nat) (k v : Value) (H : HX) : DT Ext :=
  match nth H i with
  | some (true, .ext (.im m τ)) => (match k with
    | .int .i64 a => tUpdI P T i m τ a v H
    | _ => .no)
  | _ => tUpdate P T i k v H
/-- An array's value by an index, tried one behind the other. -/
def idxL (P : Program) (e : TypeId) (s : Nat) (cs : List Value) (H : HX) (n : Int) : Nat → Nat → DT Ext
  | 0, _ => .no
  | z + 1, i => .ite (decide (n = (i : Int))) (match rd P e cs (i * s) with
    | some v => .ret v H
    | none => .no) (idxL P e s cs H n z (i + 1))
def tIndex (P : Program) (T : TypeId) (cs : List Value) (n : Int) (H : HX) : DT Ext :=
  match P.underlying T with
  | some (.array m e) => (match sizeP P e with
    | some s => idxL P e s cs H n m 0
    | none => .no)
  | _ => .no
def tellOps (P : Program) : TellT Ext := fun o vs H =>
  match o.op, vs with
  | .load T _, [.pointer (some ⟨i, off, none⟩)] => tLoad P T i off H
  | .store T _ _, [.pointer (some ⟨i, off, none⟩), v] => tStore P T i off v H
  | .call ⟨.builtin .append, xs, ts⟩, [v, x] => (match xs.toList, ts.toList with
    | [_, _], [T, U] => (match decide (T = U) with
      | true => tAppend P T v x H
      | false => .no)
    | _, _ => .no)
  | .makeSlice T _ _, [.int _ n, .int _ c] => tMake P T n c H
  | .call ⟨.builtin .delete, xs, ts⟩, [.map (some i), .int .i64 a] => (match xs.toList, ts.toList with
    | [_, _], [T, kt] => tDelI P T kt i a H
    | _, _ => .no)
  | .makeMap T none, [] => tNewMap P T H
  | .mapEntry T _ _, [.map (some i), .int .i64 a] => tEntry P T i a H
  | .entryStore _ _ _ _, [.map (some i), .int .i64 s, v] => tEntrySt i s v H
  | .mapUpdate T _ _ _, [.map (some i), k, v] => tUpd1 P T i k v H
  | .lookup T _ _ c, [.map (some i), k] => tLook1 P T i k c H
  | .index T _ _, [.agg ⟨cs⟩, .int _ n] => tIndex P T cs n H
  | .buildSlice T n parts, vs => tBuild P T n parts.toList vs H
  | .slice T _ lo hi none, x :: l => (match lo, hi, l with
    | none, none, [] => tSlice P T x none none H
    | none, some _, [b] => tSlice P T x none (some b) H
    | some _, none, [a] => tSlice P T x (some a) none H
    | some _, some _, [a, b] => tSlice P T x (some a) (some b) H
    | _, _, _ => .no)
  | _, _ => .no
end Go.Proofs.Ytdmodejpcfhbhaa
