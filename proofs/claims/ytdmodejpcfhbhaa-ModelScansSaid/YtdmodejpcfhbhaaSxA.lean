/- Memory seen through numbers of one's own: values, objects, what a step may leave. No program is named here. -/
import Derived.Test.YtdmodejpcfhbhaaRegion
namespace Go.Proofs.Ytdmodejpcfhbhaa
open Go.RowKit

/-! ### Lists with holes -/
def nth {α : Type} : List (Option α) → Nat → Option α
  | [], _ => none
  | a :: _, 0 => a
  | _ :: l, n + 1 => nth l n
def put {α : Type} : List (Option α) → Nat → Option α → List (Option α)
  | [], _, _ => []
  | _ :: l, 0, x => x :: l
  | a :: l, n + 1, x => a :: put l n x
section
variable {α : Type}
@[simp] theorem put_len (l : List (Option α)) (n : Nat) (x : Option α) : (put l n x).length = l.length := by
  induction l generalizing n with
  | nil => rfl
  | cons a l ih => cases n <;> simp [put, ih]
theorem nth_put (l : List (Option α)) (n m : Nat) (x : Option α) : nth (put l n x) m = if n = m ∧ n < l.length then x else nth l m := by
  induction l generalizing n m with
  | nil => simp [put, nth]
  | cons a l ih =>
    cases n <;> cases m <;> simp [put, nth, ih]
theorem nth_lt {l : List (Option α)} {n : Nat} {x : α} (h : nth l n = some x) : n < l.length := by
  induction l generalizing n with
  | nil => simp [nth] at h
  | cons a l ih =>
    cases n with
    | zero => simp
    | succ n => have := ih (n := n) h; simp; omega
theorem nth_append (l r : List (Option α)) (n : Nat) : nth (l ++ r) n = if n < l.length then nth l n else nth r (n - l.length) := by
  induction l generalizing n with
  | nil => simp
  | cons a l ih =>
    cases n with
    | zero => simp [nth]
    | succ n => simp [nth, ih]
theorem nth_none {l : List (Option α)} {n : Nat} (h : l.length ≤ n) : nth l n = none := by
  cases e : nth l n with
  | none => rfl
  | some x => have := nth_lt e; omega
theorem nth_eq (l : List (Option α)) (n : Nat) : nth l n = (l[n]?).join := by
  induction l generalizing n with
  | nil => simp [nth]
  | cons a l ih => cases n <;> simp [nth, ih]
end

/-! ### Values -/
/-- Holds no address. -/
def plain : Value → Bool
  | .bool _ | .int _ _ | .string _ | .pointer none | .slice none _ _ | .map none | .nilFunc | .nilIface => true
  | .tuple ⟨[]⟩ => true
  | _ => false

mutual
/-- v, by numbers of one's own, and v' as it is: L: which numbers there are; ρ: whose block each one is, how much room there is in it. -/
inductive VR (L : Nat → Prop) (ρ : Nat → Nat × Nat) : Value → Value → Prop
  | plain {v : Value} : plain v = true → VR L ρ v v
  | ptr {i o : Nat} : L i → VR L ρ (.pointer (some ⟨i, o, none⟩)) (.pointer (some ⟨(ρ i).1, o, none⟩))
  | slice {i o l c : Nat} : L i → VR L ρ (.slice (some ⟨i, o, none⟩) l c) (.slice (some ⟨(ρ i).1, o, none⟩) l c)
  | row {i o k l : Nat} : L i → VR L ρ (.slice (some ⟨i, o, some k⟩) l 0) (.slice (some ⟨(ρ i).1, o, none⟩) l ((ρ i).2 - k))
  | emp {a : Addr} {c : Nat} : VR L ρ (.slice (some ⟨0, 0, some 0⟩) 0 1) (.slice (some a) 0 c)
  | map {i : Nat} : L i → VR L ρ (.map (some i)) (.map (some (ρ i).1))
  | iface {t : TypeId} {v v' : Value} : VR L ρ v v' → VR L ρ (.iface t v) (.iface t v')
  | agg {l l' : List Value} : VRL L ρ l l' → VR L ρ (.agg ⟨l⟩) (.agg ⟨l'⟩)
  | tuple {l l' : List Value} : VRL L ρ l l' → VR L ρ (.tuple ⟨l⟩) (.tuple ⟨l'⟩)
  | func {fn : Fn} {f f' c c' : List Value} : VRL L ρ f f' → VRL L ρ c c' → VR L ρ (.func fn ⟨f⟩ ⟨c⟩) (.func fn ⟨f'⟩ ⟨c'⟩)
inductive VRL (L : Nat → Prop) (ρ : Nat → Nat × Nat) : List Value → List Value → Prop
  | nil : VRL L ρ [] []
  | cons {v v' : Value} {l l' : List Value} : VR L ρ v v' → VRL L ρ l l' → VRL L ρ (v :: l) (v' :: l')
end

section
variable {L L' : Nat → Prop} {ρ ρ' : Nat → Nat × Nat}
mutual
theorem VR.mono (hL : ∀ x, L x → L' x ∧ ρ' x = ρ x) : ∀ {v v' : Value}, VR L ρ v v' → VR L' ρ' v v'
  | _, _, .plain h => .plain h
  | _, _, .ptr h => by rw [← (hL _ h).2]; exact .ptr (hL _ h).1
  | _, _, .slice h => by rw [← (hL _ h).2]; exact .slice (hL _ h).1
  | _, _, .emp => .emp
  | _, _, .row h => by rw [← (hL _ h).2]; exact .row (hL _ h).1
  | _, _, .map h => by rw [← (hL _ h).2]; exact .map (hL _ h).1
  | _, _, .iface h => .iface (VR.mono hL h)
  | _, _, .agg h => .agg (VRL.mono hL h)
  | _, _, .tuple h => .tuple (VRL.mono hL h)
  | _, _, .func h h' => .func (VRL.mono hL h) (VRL.mono hL h')
theorem VRL.mono (hL : ∀ x, L x → L' x ∧ ρ' x = ρ x) : ∀ {v v' : List Value}, VRL L ρ v v' → VRL L' ρ' v v'
  | _, _, .nil => .nil
  | _, _, .cons h h' => .cons (VR.mono hL h) (VRL.mono hL h')
end

theorem VR.plain_eq {v v' : Value} (h : VR L ρ v v') (hp : Go.Proofs.Ytdmodejpcfhbhaa.plain v = true) : v' = v := by
  cases h with
  | plain => rfl
  | tuple h => cases h with
    | nil => rfl
    | cons => simp [Go.Proofs.Ytdmodejpcfhbhaa.plain] at hp
  | _ => simp [Go.Proofs.Ytdmodejpcfhbhaa.plain] at hp
theorem VR.int_eq {k : IntKind} {n : Int} {v' : Value} (h : VR L ρ (.int k n) v') : v' = .int k n := h.plain_eq rfl
theorem VR.bool_eq {b : Bool} {v' : Value} (h : VR L ρ (.bool b) v') : v' = .bool b := h.plain_eq rfl
theorem VR.ptr_eq {i o : Nat} {v' : Value} (h : VR L ρ (.pointer (some ⟨i, o, none⟩)) v') : L i ∧ v' = .pointer (some ⟨(ρ i).1, o, none⟩) := by
  cases h with
  | plain h => simp [Go.Proofs.Ytdmodejpcfhbhaa.plain] at h
  | ptr h => exact ⟨h, rfl⟩
theorem VR.slice_eq {i o l c : Nat} {v' : Value} (h : VR L ρ (.slice (some ⟨i, o, none⟩) l c) v') : L i ∧ v' = .slice (some ⟨(ρ i).1, o, none⟩) l c := by
  cases h with
  | plain h => simp [Go.Proofs.Ytdmodejpcfhbhaa.plain] at h
  | slice h => exact ⟨h, rfl⟩
theorem VR.row_eq {i o k l : Nat} {v' : Value} (h : VR L ρ (.slice (some ⟨i, o, some k⟩) l 0) v') : L i ∧ v' = .slice (some ⟨(ρ i).1, o, none⟩) l ((ρ i).2 - k) := by
  cases h with
  | plain h => simp [Go.Proofs.Ytdmodejpcfhbhaa.plain] at h
  | row h => exact ⟨h, rfl⟩
theorem VR.map_eq {i : Nat} {v' : Value} (h : VR L ρ (.map (some i)) v') : L i ∧ v' = .map (some (ρ i).1) := by
  cases h with
  | plain h => simp [Go.Proofs.Ytdmodejpcfhbhaa.plain] at h
  | map h => exact ⟨h, rfl⟩
theorem VR.agg_eq {l : List Value} {v' : Value} (h : VR L ρ (.agg ⟨l⟩) v') : ∃ l', v' = .agg ⟨l'⟩ ∧ VRL L ρ l l' := by
  cases h with
  | plain h => simp [Go.Proofs.Ytdmodejpcfhbhaa.plain] at h
  | agg h => exact ⟨_, rfl, h⟩
theorem VR.tuple_eq {l : List Value} {v' : Value} (h : VR L ρ (.tuple ⟨l⟩) v') : ∃ l', v' = .tuple ⟨l'⟩ ∧ VRL L ρ l l' := by
  cases h with
  | plain h => cases l with
    | nil => exact ⟨_, rfl, .nil⟩
    | cons => simp [Go.Proofs.Ytdmodejpcfhbhaa.plain] at h
  | tuple h => exact ⟨_, rfl, h⟩
theorem VR.iface_eq {t : TypeId} {v v' : Value} (h : VR L ρ (.iface t v) v') : ∃ u, v' = .iface t u ∧ VR L ρ v u := by
  cases h with
  | plain h => simp [Go.Proofs.Ytdmodejpcfhbhaa.plain] at h
  | iface h => exact ⟨_, rfl, h⟩
theorem VR.func_eq {fn : Fn} {f c : List Value} {v' : Value} (h : VR L ρ (.func fn ⟨f⟩ ⟨c⟩) v') : ∃ f' c', v' = .func fn ⟨f'⟩ ⟨c'⟩ ∧ VRL L ρ f f' ∧ VRL L ρ c c' := by
  cases h with
  | plain h => simp [Go.Proofs.Ytdmodejpcfhbhaa.plain] at h
  | func h h' => exact ⟨_, _, rfl, h, h'⟩

theorem VRL.len {l l' : List Value} (h : VRL L ρ l l') : l'.length = l.length := by
  induction l generalizing l' with
  | nil => cases h; rfl
  | cons a l ih => cases h with
    | cons _ h => simp [ih h]
theorem VRL.get {l l' : List Value} (h : VRL L ρ l l') {j : Nat} {v : Value} (hj : l[j]? = some v) : ∃ v', l'[j]? = some v' ∧ VR L ρ v v' := by
  induction l generalizing l' j with
  | nil => simp at hj
  | cons a l ih => cases h with
    | cons h0 h => cases j with
      | zero => simp at hj; subst hj; exact ⟨_, by simp, h0⟩
      | succ j => simp at hj ⊢; exact ih h hj
theorem VRL.app {l l' r r' : List Value} (h : VRL L ρ l l') (h2 : VRL L ρ r r') : VRL L ρ (l ++ r) (l' ++ r') := by
  induction l generalizing l' with
  | nil => cases h; exact h2
  | cons a l ih => cases h with
    | cons h0 h => exact .cons h0 (ih h)
theorem VRL.set {l l' : List Value} (h : VRL L ρ l l') (j : Nat) {v v' : Value} (hv : VR L ρ v v') : VRL L ρ (l.set j v) (l'.set j v') := by
  induction l generalizing l' j with
  | nil => cases h; exact .nil
  | cons a l ih => cases h with
    | cons h0 h => cases j with
      | zero => exact .cons hv h
      | succ j => exact .cons h0 (ih h j)
theorem VRL.drop {l l' : List Value} (h : VRL L ρ l l') (j : Nat) : VRL L ρ (l.drop j) (l'.drop j) := by
  induction j generalizing l l' with
  | zero => exact h
  | succ j ih => cases h with
    | nil => exact .nil
    | cons _ h => exact ih h
theorem VRL.take {l l' : List Value} (h : VRL L ρ l l') (j : Nat) : VRL L ρ (l.take j) (l'.take j) := by
  induction j generalizing l l' with
  | zero => exact .nil
  | succ j ih => cases h with
    | nil => exact .nil
    | cons h0 h => exact .cons h0 (ih h)
theorem VRL.plain {l : List Value} (h : l.all Go.Proofs.Ytdmodejpcfhbhaa.plain = true) : VRL L ρ l l := by
  induction l with
  | nil => exact .nil
  | cons a l ih => simp only [List.all_cons, Bool.and_eq_true] at h; exact .cons (.plain h.1) (ih h.2)
end

/-! ### Objects -/
/-- A row of cells, or something of which a predicate tells. -/
inductive AObj (X : Type) where
  | cells (cs : List Value) (T : TypeId)
  | ext (x : X)

/-- Of each number where it lies, and how much room there is; which blocks are its own. -/
structure Ren where
  b : Nat → Nat × Nat
  e : Nat → List Nat
def Ren.k (ρ : Ren) (i : Nat) : Nat := (ρ.b i).1
def Ren.blocks (ρ : Ren) (i : Nat) : List Nat := ρ.e i

/-- What the further kinds of objects mean. -/
structure Means (X : Type) where
  org : World → Prop
  sat : X → Nat × Nat → List Nat → GH → Prop
  congr : ∀ {x b e h h'}, sat x b e h → (∀ k, k ∈ e → h' k = h k) → sat x b e h'
  here : ∀ {x b e h}, sat x b e h → ∀ k, k ∈ e → ∃ o, h k = some o

/-- Of each number: nothing is known; or an object, and whether it may be changed. -/
abbrev AH (X : Type) := List (Option (Bool × AObj X))

section
variable {X : Type} (I : Means X)
def OSat (L : Nat → Prop) (ρ : Ren) (i : Nat) (h : GH) : AObj X → Prop
  | .cells cs T => ρ.e i = [ρ.k i] ∧ ∃ cs', h (ρ.k i) = some (.cells ⟨cs'⟩ T) ∧ VRL L ρ.b cs cs'
  | .ext x => I.sat x (ρ.b i) (ρ.e i) h

structure Sat (L : Nat → Prop) (ρ : Ren) (H : AH X) (h : GH) : Prop where
  obj : ∀ i p o, nth H i = some (p, o) → OSat I L ρ i h o
  live : ∀ i p o, nth H i = some (p, o) → L i
  apart : ∀ i j p o q u, nth H i = some (p, o) → nth H j = some (q, u) → i ≠ j → ∀ x, x ∈ ρ.blocks i → x ∉ ρ.blocks j
end

/-- From memory h, of which H tells, to h': only what may change has. -/
structure Tr {X : Type} (ρ : Ren) (H : AH X) (h : GH) (ρ' : Ren) (H' : AH X) (h' : GH) : Prop where
  le : H.length ≤ H'.length
  base : ∀ i, i < H.length → ρ'.b i = ρ.b i
  perm : ∀ i p o', i < H.length → nth H' i = some (p, o') → ∃ o, nth H i = some (p, o)
  keep : ∀ i, i < H.length → (∀ o, nth H i ≠ some (true, o)) → ρ'.e i = ρ.e i
  fresh : ∀ i p o, nth H' i = some (p, o) → ∀ x, x ∈ ρ'.blocks i → (∃ j q u, nth H j = some (q, u) ∧ x ∈ ρ.blocks j ∧ (q = true ∨ j = i)) ∨ h x = none
  frame : ∀ x o, h x = some o → (∀ i u, nth H i = some (true, u) → x ∉ ρ.blocks i) → h' x = some o
  dom : ∀ x o, h x = some o → ∃ o', h' x = some o'

section
variable {X : Type} {I : Means X} {L L' : Nat → Prop} {ρ ρ' ρ'' : Ren} {H H' H'' : AH X} {h h' h'' : GH}

theorem Tr.refl (ρ : Ren) (H : AH X) (h : GH) : Tr ρ H h ρ H h :=
  ⟨Nat.le_refl _, fun _ _ => rfl, fun _ _ _ _ e => ⟨_, e⟩, fun _ _ _ => rfl, fun i p o e _ hx => .inl ⟨i, p, o, e, hx, .inr rfl⟩, fun _ _ e _ => e, fun _ _ e => ⟨_, e⟩⟩

theorem Tr.trans (a : Tr ρ H h ρ' H' h') (b : Tr ρ' H' h' ρ'' H'' h'') : Tr ρ H h ρ'' H'' h'' where
  le := Nat.le_trans a.le b.le
  base i hi := (b.base i (by have := a.le; omega)).trans (a.base i hi)
  perm i p o' hi e := by
    obtain ⟨o, e2⟩ := b.perm i p o' (by have := a.le; omega) e
    exact a.perm i p o hi e2
  keep i hi hn := by
    rw [b.keep i (by have := a.le; omega) (fun o e => by obtain ⟨u, hu⟩ := a.perm i true o hi e; exact hn u hu), a.keep i hi hn]
  fresh i p o e x hx := by
    rcases b.fresh i p o e x hx with ⟨j, q, u, h1, h2, h3⟩ | h2
    · rcases a.fresh j q u h1 x h2 with ⟨k, r, v, g1, g2, g3⟩ | g2
      · refine .inl ⟨k, r, v, g1, g2, ?_⟩
        rcases g3 with g3 | rfl
        · exact .inl g3
        · rcases h3 with rfl | rfl
          · obtain ⟨z, hz⟩ := a.perm k true u (nth_lt g1) h1
            rw [g1] at hz; cases hz; exact .inl rfl
          · exact .inr rfl
      · exact .inr g2
    · right
      cases q : h x with
      | none => rfl
      | some o => obtain ⟨o', ho⟩ := a.dom x o q; rw [ho] at h2; cases h2
  frame x o e hx := by
    refine b.frame x o (a.frame x o e hx) fun i u hi hm => ?_
    rcases a.fresh i true u hi x hm with ⟨k, r, v, g1, g2, g3⟩ | h2
    · have hr : r = true := by
        rcases g3 with g3 | rfl
        · exact g3
        · obtain ⟨z, hz⟩ := a.perm k true u (nth_lt g1) hi
          rw [g1] at hz; cases hz; rfl
      subst hr
      exact hx k v g1 g2
    · rw [e] at h2; cases h2
  dom x o e := by
    obtain ⟨o', e'⟩ := a.dom x o e
    exact b.dom x o' e'

theorem OSat.mono {i : Nat} {o : AObj X} (hL : ∀ x, L x → L' x ∧ ρ'.b x = ρ.b x) (hb : ρ'.b i = ρ.b i) (he : ρ'.e i = ρ.e i) (hh : ∀ k, k ∈ ρ.blocks i → h' k = h k) (hs : OSat I L ρ i h o) : OSat I L' ρ' i h' o := by
  cases o with
  | cells cs T =>
    obtain ⟨h1, cs', h2, h3⟩ := hs
    have hk : ρ'.k i = ρ.k i := by unfold Ren.k; rw [hb]
    exact ⟨he.trans (by rw [hk]; exact h1), cs', by rw [hk, hh _ (by simp [Ren.blocks, h1])]; exact h2, h3.mono hL⟩
  | ext x =>
    show I.sat x (ρ'.b i) (ρ'.e i) h'
    rw [hb, he]
    exact I.congr hs hh

theorem OSat.here {i : Nat} {o : AObj X} (hs : OSat I L ρ i h o) : ∀ k, k ∈ ρ.blocks i → ∃ u, h k = some u := by
  cases o with
  | cells cs T =>
    obtain ⟨h1, cs', h2, h3⟩ := hs
    intro k hk
    simp only [Ren.blocks, h1, List.mem_singleton] at hk
    subst hk
    exact ⟨_, h2⟩
  | ext x => exact I.here hs

/-- What is known, forgotten in part. -/
theorem Sat.less (hs : Sat I L ρ H h) (hl : ∀ i p o, nth H' i = some (p, o) → ∃ q, nth H i = some (q, o)) : Sat I L ρ H' h where
  obj i p o e := by obtain ⟨q, hq⟩ := hl i p o e; exact hs.obj i q o hq
  live i p o e := by obtain ⟨q, hq⟩ := hl i p o e; exact hs.live i q o hq
  apart i j p o q u e1 e2 := by
    obtain ⟨q1, h1⟩ := hl i p o e1
    obtain ⟨q2, h2⟩ := hl j q u e2
    exact hs.apart i j q1 o q2 u h1 h2

end

end Go.Proofs.Ytdmodejpcfhbhaa
