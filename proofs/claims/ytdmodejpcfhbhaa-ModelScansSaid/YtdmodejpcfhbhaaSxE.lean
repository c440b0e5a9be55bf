/- Regions that draw their order: who stands ahead of whom; how the region went in the order of its text. No program is named here. -/
import Derived.Test.YtdmodejpcfhbhaaSxD
namespace Go.Proofs.Ytdmodejpcfhbhaa
open Go.RowKit

/-! ### Which version of a thing stands there, where some have been done -/
def allB (_ : Nat) : Bool := true
def ver (S : Nat → Bool) (W : Nat → Nat → Bool) : Nat → Nat → Nat
  | 0, _ => 0
  | k + 1, c => if S k = true ∧ W k c = true then k + 1 else ver S W k c
section
variable {S S' : Nat → Bool} {W : Nat → Nat → Bool} {c j n : Nat}
theorem ver_le (n : Nat) : ver S W n c ≤ n := by
  induction n with
  | zero => exact Nat.le_refl _
  | succ n ih => simp only [ver]; split <;> omega
theorem ver_up {i : Nat} (h : ∀ k, j ≤ k → k < j + i → S k = true → W k c = false) : ver S W (j + i) c = ver S W j c := by
  induction i with
  | zero => rfl
  | succ i ih =>
    show ver S W (j + i + 1) c = _
    simp only [ver]
    rw [if_neg (fun q => by have := h (j + i) (by omega) (by omega) q.1; rw [this] at q; cases q.2)]
    exact ih fun k h1 h2 => h k h1 (by omega)
theorem ver_all (h : ∀ k, k < j → W k c = true → S k = true) : ver S W j c = ver allB W j c := by
  induction j with
  | zero => rfl
  | succ j ih =>
    simp only [ver]
    have e : (S j = true ∧ W j c = true) ↔ (allB j = true ∧ W j c = true) := ⟨fun q => ⟨rfl, q.2⟩, fun q => ⟨h j (by omega) q.2, q.2⟩⟩
    by_cases q : S j = true ∧ W j c = true
    · rw [if_pos q, if_pos (e.1 q)]
    · rw [if_neg q, if_neg (fun r => q (e.2 r))]
      exact ih fun k hk => h k (by omega)
theorem ver_agree (hj : j ≤ n) (h1 : ∀ k, j ≤ k → k < n → S k = true → W k c = false) (h2 : ∀ k, k < j → W k c = true → S k = true) : ver S W n c = ver allB W j c := by
  obtain ⟨i, rfl⟩ : ∃ i, n = j + i := ⟨n - j, by omega⟩
  rw [ver_up h1, ver_all h2]
theorem ver_same (h : ∀ k, k < n → W k c = true → S' k = S k) : ver S' W n c = ver S W n c := by
  induction n with
  | zero => rfl
  | succ n ih =>
    simp only [ver]
    rw [ih fun k hk => h k (by omega)]
    by_cases q : W n c = true
    · rw [h n (by omega) q]
    · rw [if_neg (fun r => q r.2), if_neg (fun r => q r.2)]
theorem ver_new (hj : j < n) (hS : S j = true) (hW : W j c = true) (h : ∀ k, j < k → k < n → S k = true → W k c = false) : ver S W n c = j + 1 := by
  obtain ⟨i, rfl⟩ : ∃ i, n = (j + 1) + i := ⟨n - (j + 1), by omega⟩
  rw [ver_up fun k h1 h2 => h k (by omega) h2]
  simp only [ver]
  rw [if_pos ⟨hS, hW⟩]
theorem ver_canon {β : Type} {f : Nat → Nat → β} (h : ∀ k, k < n → W k c = false → f (k + 1) c = f k c) : f n c = f (ver allB W n c) c := by
  induction n with
  | zero => rfl
  | succ n ih =>
    simp only [ver]
    by_cases q : W n c = true
    · rw [if_pos ⟨rfl, q⟩]
    · rw [if_neg (fun r => q r.2), h n (by omega) (by simpa using q)]
      exact ih fun k hk => h k (by omega)
end

/-! ### Who stands ahead of whom -/
def bef1 (acc : List Nat) (o : Oper) : Nat := o.after.toList.foldl (fun s e => match Region.binds .any e with | true => s ||| 2 ^ e.on ||| acc.getD e.on 0 | false => s) 0
def forceNat {β : Type} (n : Nat) (K : Nat → β) : β :=
  match n with
  | 0 => K 0
  | m + 1 => K (m + 1)
theorem forceNat_eq {β : Type} (n : Nat) (K : Nat → β) : forceNat n K = K n := by cases n <;> rfl
def befs : List Nat → List Oper → List Nat
  | _, [] => []
  | acc, o :: l => forceNat (bef1 acc o) fun b => b :: befs (acc ++ [b]) l
theorem befs_cons (acc : List Nat) (o : Oper) (l : List Oper) : befs acc (o :: l) = bef1 acc o :: befs (acc ++ [bef1 acc o]) l := by
  rw [befs, forceNat_eq]
theorem bef1_bit {acc : List Nat} {o : Oper} {i : Nat} (h : (bef1 acc o).testBit i = true) : ∃ e ∈ o.after, Region.binds .any e = true ∧ (e.on = i ∨ (acc.getD e.on 0).testBit i = true) := by
  have key : ∀ (l : List Edge) (s : Nat), (l.foldl (fun s e => match Region.binds .any e with | true => s ||| 2 ^ e.on ||| acc.getD e.on 0 | false => s) s).testBit i = true → s.testBit i = true ∨ ∃ e ∈ l, Region.binds .any e = true ∧ (e.on = i ∨ (acc.getD e.on 0).testBit i = true) := by
    intro l
    induction l with
    | nil => intro s h; exact .inl h
    | cons e l ih =>
      intro s h
      rw [List.foldl_cons] at h
      rcases ih _ h with h | ⟨e', h1, h2⟩
      · split at h
        · rename_i hb
          simp only [Nat.testBit_or, Bool.or_eq_true, Nat.testBit_two_pow, decide_eq_true_eq] at h
          rcases h with (h | h) | h
          · exact .inl h
          · exact .inr ⟨e, List.mem_cons_self, hb, .inl h⟩
          · exact .inr ⟨e, List.mem_cons_self, hb, .inr h⟩
        · exact .inl h
      · exact .inr ⟨e', List.mem_cons_of_mem _ h1, h2⟩
  rcases key _ 0 h with h | ⟨e, h1, h2⟩
  · simp at h
  · exact ⟨e, by simpa using h1, h2⟩
theorem befs_get : ∀ {l : List Oper} {acc : List Nat} {k : Nat} {o : Oper}, l[k]? = some o → (befs acc l)[k]? = some (bef1 (acc ++ (befs acc l).take k) o)
  | [], _, _, _, h => by simp at h
  | o :: l, acc, 0, o', h => by simp at h; subst h; simp [befs_cons]
  | o :: l, acc, k + 1, o', h => by
    simp at h
    have := befs_get (acc := acc ++ [bef1 acc o]) h
    simp only [befs_cons, List.getElem?_cons_succ, List.take_succ_cons]
    rw [this]
    simp
theorem befs_closed {ops : List Oper} {S : Nat → Bool} (hb : backward ops.toArray = true) (hS : ∀ k o, ops[k]? = some o → S k = true → ∀ e ∈ o.after, Region.binds .any e = true → S e.on = true) :
    ∀ (k : Nat) (o : Oper), ops[k]? = some o → (∀ e ∈ o.after, Region.binds .any e = true → S e.on = true) → ∀ m i, (befs [] ops)[k]? = some m → m.testBit i = true → S i = true := by
  intro k
  induction k using Nat.strongRecOn with
  | ind k ih =>
    intro o ho hd m i hm hi
    rw [befs_get ho] at hm
    obtain rfl := Option.some.inj hm
    obtain ⟨e, h1, h2, h3⟩ := bef1_bit hi
    have hlt : e.on < k := backward_spec hb (by simpa using ho) e h1 h2
    rcases h3 with h3 | h3
    · rw [← h3]; exact hd e h1 h2
    · have hkl : k < ops.length := (List.getElem?_eq_some_iff.1 ho).1
      have ho' : ops[e.on]? = some ops[e.on] := by simp
      simp only [List.nil_append, List.getD_eq_getElem?_getD, List.getElem?_take_of_lt hlt] at h3
      cases q : (befs [] ops)[e.on]? with
      | none => rw [q] at h3; simp at h3
      | some m' =>
        rw [q] at h3
        exact ih e.on hlt _ ho' (fun e' he' hb' => hS e.on _ ho' (hd e h1 h2) e' he' hb') m' i q h3

/-! ### Slots -/
def tmpsL : List Operand → List Nat
  | [] => []
  | .tmp t :: l => t :: tmpsL l
  | _ :: l => tmpsL l
theorem tmpsL_eq (l : List Operand) : tmpsL l = l.filterMap (fun | .tmp t => some t | _ => none) := by
  induction l with
  | nil => rfl
  | cons x l ih => cases x <;> simp [tmpsL, ih]
def looksL (ops : List Oper) (o : Oper) : List Nat := tmpsL (opndsL o.op) ++ (match o.guard with
  | some (g, _) => (match (ops[g]?).bind (·.dst) with | some d => [d] | none => [])
  | none => [])
theorem looksL_eq (ops : List Oper) (o : Oper) : looksL ops o = o.looksAt ops.toArray := by
  unfold looksL Oper.looksAt
  rw [tmpsL_eq, opndsL_eq]
  congr 1
  split
  · rename_i g w hg
    simp only [hg]
    have : (ops.toArray[g]?).bind (·.dst) = (ops[g]?).bind (·.dst) := by simp
    rw [this]
    cases (ops[g]?).bind (·.dst) <;> rfl
  · rename_i hg; simp [hg]
def slots (ops : List Oper) (o : Oper) : Nat × Nat := ((match o.dst with | some d => 2 ^ d | none => 0), (looksL ops o).foldl (fun s d => s ||| 2 ^ d) 0)
def bwd : Nat → List Oper → Bool
  | _, [] => true
  | i, o :: l => o.after.toList.all (fun e => (match Region.binds .any e with | true => Nat.blt e.on i | false => true)) && bwd (i + 1) l
theorem bwd_spec : ∀ {l : List Oper} {i : Nat}, bwd i l = true → ∀ k o, l[k]? = some o → ∀ e ∈ o.after, Region.binds .any e = true → e.on < i + k
  | [], _, _, k, o, h => by simp at h
  | o :: l, i, hb, k, o', h => by
    simp only [bwd, Bool.and_eq_true, List.all_eq_true] at hb
    cases k with
    | zero => simp at h; subst h; intro e he hbd; have := hb.1 e (by simpa using he); simpa [hbd, Nat.blt_eq] using this
    | succ k => simp at h; intro e he hbd; have := bwd_spec hb.2 k o' h e he hbd; omega
theorem bwd_back {l : List Oper} (h : bwd 0 l = true) : backward l.toArray = true := by
  unfold backward
  rw [List.all_eq_true]
  intro i hi
  cases q : l.toArray[i]? with
  | none => rfl
  | some o =>
    simp only [Option.map_some, Option.getD_some]
    rw [Array.all_eq_true_iff_forall_mem]
    intro e he
    cases hbd : Region.binds .any e with
    | false => rfl
    | true => have := bwd_spec h i o (by simpa using q) e he hbd; simpa using this
def ovS (x y : Nat × Nat) : Bool := Nat.ble 1 ((x.1 &&& (y.2 ||| y.1)) ||| (y.1 &&& x.2))
theorem looks_bit {l : List Nat} {d : Nat} (h : d ∈ l) : (l.foldl (fun s d => s ||| 2 ^ d) 0).testBit d = true := by
  have key : ∀ (l : List Nat) (s : Nat), (s.testBit d = true ∨ d ∈ l) → (l.foldl (fun s d => s ||| 2 ^ d) s).testBit d = true := by
    intro l
    induction l with
    | nil => intro s h; rcases h with h | h; exact h; cases h
    | cons e l ih =>
      intro s h
      rw [List.foldl_cons]
      refine ih _ ?_
      rcases h with h | h
      · left; simp [Nat.testBit_or, h]
      · cases h with
        | head => left; simp [Nat.testBit_or]
        | tail _ h => exact .inr h
  exact key l 0 (.inr h)
theorem ovS_of {ops : List Oper} {x y : Oper} {d : Nat} (h : (x.dst = some d ∧ (d ∈ y.looksAt ops.toArray ∨ y.dst = some d)) ∨ (y.dst = some d ∧ d ∈ x.looksAt ops.toArray)) : ovS (slots ops x) (slots ops y) = true := by
  unfold ovS
  rw [Nat.ble_eq]
  rw [← looksL_eq, ← looksL_eq] at h
  have hb : ((((slots ops x).1 &&& ((slots ops y).2 ||| (slots ops y).1)) ||| ((slots ops y).1 &&& (slots ops x).2)).testBit d) = true := by
    rcases h with ⟨h1, h2⟩ | ⟨h1, h2⟩
    · have e1 : (slots ops x).1 = 2 ^ d := by simp [slots, h1]
      have e2 : ((slots ops y).2 ||| (slots ops y).1).testBit d = true := by
        rcases h2 with h2 | h2
        · simp [Nat.testBit_or, slots, looks_bit h2]
        · simp [Nat.testBit_or, slots, h2]
      simp [Nat.testBit_or, Nat.testBit_and, e1, e2]
    · have e1 : (slots ops y).1 = 2 ^ d := by simp [slots, h1]
      have e2 : (slots ops x).2.testBit d = true := by simp [slots, looks_bit h2]
      simp [Nat.testBit_or, Nat.testBit_and, e1, e2]
  cases q : (((slots ops x).1 &&& ((slots ops y).2 ||| (slots ops y).1)) ||| ((slots ops y).1 &&& (slots ops x).2)) with
  | zero => rw [q] at hb; simp at hb
  | succ n => omega

def drawOk (ops : List Oper) : Bool := bwd 0 ops && pairs ovS [] 0 (ops.map (slots ops)) (befs [] ops)

/-! ### The region -/
def ids : Nat → Value → List Nat
  | _, .pointer (some ⟨i, _, _⟩) => [i]
  | _, .slice (some ⟨i, _, _⟩) _ _ => [i]
  | _, .map (some i) => [i]
  | n + 1, .iface _ v => ids n v
  | n + 1, .agg ⟨l⟩ => l.flatMap (ids n)
  | n + 1, .func _ ⟨f⟩ ⟨c⟩ => f.flatMap (ids n) ++ c.flatMap (ids n)
  | _, _ => []
def reach {X : Type} (H : AH X) : Nat → List Nat → List Nat
  | 0, l => l
  | n + 1, l => l ++ l.flatMap fun i => match nth H i with
    | some (_, .cells cs _) => reach H n (cs.flatMap (ids 2))
    | _ => []
/-- Of each argument: 0: not looked at; 1: looked at; 2: it may be changed; 3, 4: and what it leads to, looked at, changed. -/
def footArgs {X : Type} (H : AH X) : List Nat → List Value → Foot
  | _, [] => []
  | [], v :: l => (reach H 3 (ids 2 v)).map (·, true) ++ footArgs H [] l
  | c :: cs, v :: l => (match c with
    | 0 => []
    | 1 => (ids 2 v).map (·, false)
    | 2 => (ids 2 v).map (·, true)
    | 3 => (reach H 3 (ids 2 v)).map (·, false)
    | _ => (reach H 3 (ids 2 v)).map (·, true)) ++ footArgs H cs l
section
variable {X : Type} (tl : TellT X) (P : Program) (call : CallT X) (eff : FuncId → List Nat)
def footOf (o : Oper) (t : Gt) (H : AH X) : Foot :=
  match o.op with
  | .load _ x => (match aev t x with | some v => (ids 1 v).map (·, false) | none => [])
  | .store _ x _ => (match aev t x with | some v => (ids 1 v).map (·, true) | none => [])
  | .call c => (match c.callee with
    | .value f => (match aev t f, aevs t c.args.toList with
      | some (.func (.func f) ⟨fs⟩ ⟨cs⟩), some xs => footArgs H (eff f) (fs ++ xs ++ cs)
      | _, _ => [])
    | .builtin b => (match hookOp (.call ⟨.builtin b, c.args, c.argTypes⟩) with
      | true => (match aevs t c.args.toList with | some vs => (vs.flatMap (ids 2)).map (·, true) | none => [])
      | false => [])
    | _ => [])
  | .lookup _ x _ _ => (match aev t x with | some v => (ids 1 v).map (·, false) | none => [])
  | .mapUpdate _ x _ _ | .insert _ x _ _ | .mapEntry _ x _ | .entryStore _ x _ _ => (match aev t x with | some v => (ids 1 v).map (·, true) | none => [])
  | .range _ x => (match aev t x with | some v => (ids 1 v).map (·, false) | none => [])
  | .slice _ x _ _ _ => (match aev t x with | some v => (ids 1 v).map (·, false) | none => [])
  | .next x _ => (match aev t x with | some v => (ids 1 v).map (·, true) | none => [])
  | _ => []
def forceF : Foot → (Foot → Prop) → Prop
  | [], K => K []
  | (i, p) :: l, K => forceN i fun i => forceF l fun l => K ((i, p) :: l)
theorem forceF_eq (F : Foot) (K : Foot → Prop) : forceF F K = K F := by
  induction F generalizing K with
  | nil => rfl
  | cons x F ih => obtain ⟨i, p⟩ := x; simp only [forceF, forceN_eq, ih]
/-- It doesn't look at memory. -/
def pureOp : Op → Bool
  | .move _ | .assign _ | .nilCheck _ | .fieldAddr _ _ _ | .indexAddr _ _ _ | .binOp _ _ _ _ _ | .unOp _ _ _ | .pick _ _ _ | .makeInterface _ _ | .makeFunc (.func _) _ _ | .build _ _ | .field _ _ _ | .extract _ _ | .convert _ _ _ => true
  | _ => false
def loadOp : Op → Bool
  | .load _ _ => true
  | _ => false
noncomputable def regDs (ops : List Oper) (o : Oper) (ih : List Foot → Sl → AH X → (Sl → AH X → Prop) → Prop) (fs : List Foot) (t : Sl) (H : AH X) (K : Sl → AH X → Prop) : Prop :=
  guardK ops o t
    (fun t => match pureOp o.op with
      | true => oev P call o (gs t) [] fun v _ => nxt v false H t o.dst fun t H => ih ([] :: fs) t H K
      | false => (match loadOp o.op && !hookB o (gs t) H with
        | true => forceF (footOf eff o (gs t) H) fun F => oev P call o (gs t) (mask F H 0) fun v _ => nxt v false H t o.dst fun t H => ih (F :: fs) t H K
        | false => forceF (footOf eff o (gs t) H) fun F => spine (mask F H 0) fun HM => oevT tl noOpn P call o (gs t) HM fun v G => (match Nat.ble H.length G.length with
          | true => forceF (F ++ newF H.length G.length) fun F' => nxt v true (merge F H 0 G) t o.dst fun t H => ih (F' :: fs) t H K
          | false => No o)))
    (fun t => nxt undef false H t o.dst fun t H => ih ([] :: fs) t H K)
noncomputable def regDn (ops : List Oper) (fs : List Foot) (t : Sl) (H : AH X) (K : Sl → AH X → Prop) : Prop := match pairs conf [] 0 fs.reverse (befs [] ops) with
    | true => K t H
    | false => No fs
noncomputable def regD (ops : List Oper) (l : List Oper) : List Foot → Sl → AH X → (Sl → AH X → Prop) → Prop :=
  List.rec (motive := fun _ => List Foot → Sl → AH X → (Sl → AH X → Prop) → Prop) (regDn ops) (fun o _ ih => regDs tl P call eff ops o ih) l
theorem regD_nil (ops : List Oper) (fs : List Foot) (t : Sl) (H : AH X) (K : Sl → AH X → Prop) : regD tl P call eff ops [] fs t H K = (match pairs conf [] 0 fs.reverse (befs [] ops) with
    | true => K t H
    | false => No fs) := rfl
theorem regD_cons (ops : List Oper) (o : Oper) (l : List Oper) (fs : List Foot) (t : Sl) (H : AH X) (K : Sl → AH X → Prop) : regD tl P call eff ops (o :: l) fs t H K =
  guardK ops o t
    (fun t => match pureOp o.op with
      | true => oev P call o (gs t) [] fun v _ => nxt v false H t o.dst fun t H => regD tl P call eff ops l ([] :: fs) t H K
      | false => (match loadOp o.op && !hookB o (gs t) H with
        | true => forceF (footOf eff o (gs t) H) fun F => oev P call o (gs t) (mask F H 0) fun v _ => nxt v false H t o.dst fun t H => regD tl P call eff ops l (F :: fs) t H K
        | false => forceF (footOf eff o (gs t) H) fun F => spine (mask F H 0) fun HM => oevT tl noOpn P call o (gs t) HM fun v G => (match Nat.ble H.length G.length with
          | true => forceF (F ++ newF H.length G.length) fun F' => nxt v true (merge F H 0 G) t o.dst fun t H => regD tl P call eff ops l (F' :: fs) t H K
          | false => No o)))
    (fun t => nxt undef false H t o.dst fun t H => regD tl P call eff ops l ([] :: fs) t H K) := rfl
end

/-- How the region went, in the order of its text. -/
structure Tra {X : Type} (tl : TellT X) (P : Program) (call : CallT X) (ops l : List Oper) (T : Nat → Sl) (M : Nat → AH X) (wn : Nat → Bool) (F : Nat → Foot) (R : Nat → Value) (G : Nat → AH X) : Prop where
  step : ∀ k o, l[k]? = some o → T (k + 1) = putd (T k) o.dst (R k) ∧
    (wn k = false → wantd ops o (T k) = some false ∧ R k = undef ∧ M (k + 1) = M k) ∧
    (wn k = true → wantd ops o (T k) = some true ∧ oevT tl noOpn P call o (gs (T k)) (mask (F k) (M k) 0) (fun a b => a = R k ∧ b = G k) ∧ (M k).length ≤ (G k).length ∧ M (k + 1) = merge (F k) (M k) 0 (G k))
/-- All that an operation touches. -/
def footAll {X : Type} (M : Nat → AH X) (wn : Nat → Bool) (F : Nat → Foot) (k : Nat) : Foot := match wn k with
  | true => F k ++ newF (M k).length (M (k + 1)).length
  | false => []

def shift {α : Type} (a : α) (f : Nat → α) : Nat → α
  | 0 => a
  | k + 1 => f k

section
variable {X : Type} {P : Program} {call : CallT X} {g : Gt} {o : Oper}
theorem scalOp_swap {H1 H2 : AH X} {K1 K2 : Value → AH X → Prop} (h : scalOp P o g H1 K1) (hK : ∀ v, K1 v H1 → K2 v H2) : scalOp P o g H2 K2 := by
  unfold scalOp at *
  split at h
  · exact h.elim
  split at h
  · exact h.elim
  split at h
  · split at h
    · first | exact hK _ h | (simp only [*]; done) | (simp only [*]; exact hK _ h)
    · exact h.elim
  · first | exact hK _ h | (simp only [*]; done) | (simp only [*]; exact hK _ h)
  · exact h.elim
theorem oev_pure (hp : pureOp o.op = true) {H1 H2 : AH X} {K1 K2 : Value → AH X → Prop} (h : oev P call o g H1 K1) (hK : ∀ v, K1 v H1 → K2 v H2) : oev P call o g H2 K2 := by
  obtain ⟨dst, op, type, pos, after, guard⟩ := o
  have hsc := fun h => scalOp_swap (P := P) (o := ⟨dst, op, type, pos, after, guard⟩) (g := g) h hK
  unfold oev at *
  cases op <;> simp only [pureOp, Bool.false_eq_true] at hp <;> simp only at h ⊢ <;> (try simp only [forceN_eq] at h ⊢) <;> try exact hsc h
  case makeFunc fn fs cs =>
    cases fn <;> simp only [Bool.false_eq_true] at hp
    (try simp only at h ⊢)
    split at h
    · first | exact hK _ h | (simp only [*]; done) | (simp only [*]; exact hK _ h)
    · exact h.elim
  case binOp op T x y yt =>
    split at h
    · split at h
      · split at h
        · split at h
          · first | exact hK _ h | (simp only [*]; done) | (simp only [*]; exact hK _ h)
          · exact h.elim
        · first | exact hsc h | (simp only [*]; done) | (simp only [*]; exact hsc h)
      · split at h
        · split at h
          · first | exact hK _ h | (simp only [*]; done) | (simp only [*]; exact hK _ h)
          · first | exact hK _ h | (simp only [*]; done) | (simp only [*]; exact hK _ h)
          · exact h.elim
        · exact h.elim
    · exact h.elim
  all_goals
    (repeat' (split at h)) <;> first | exact h.elim | exact hK _ h | (simp only [*]; done) | (simp only [*]; exact hK _ h)
theorem oev_load (hp : loadOp o.op = true) {H : AH X} {K1 K2 : Value → AH X → Prop} (h : oev P call o g H K1) (hK : ∀ v, K1 v H → K2 v H) : oev P call o g H K2 := by
  obtain ⟨dst, op, type, pos, after, guard⟩ := o
  unfold oev at *
  cases op <;> simp only [loadOp, Bool.false_eq_true] at hp
  simp only at h ⊢
  (repeat' (split at h)) <;> first | exact h.elim | (simp only [*]; done) | (simp only [*]; exact hK _ h)
theorem merge_none {F : Foot} (hF : ∀ i, look F i ≠ some true) : ∀ (H G : AH X) (i : Nat), G.length = H.length → merge F H i G = H
  | [], G, _, h => by cases G with
    | nil => rfl
    | cons a G => simp at h
  | e :: H, G, i, h => by cases G with
    | nil => rfl
    | cons a G =>
      simp only [merge]
      rw [merge_none hF H G (i + 1) (by simpa using h)]
      congr 1
      split
      · rename_i e'; exact absurd e' (hF i)
      · rfl
theorem look_false {l : List Nat} (i : Nat) : look (l.map (·, false)) i ≠ some true := by
  induction l with
  | nil => simp [look]
  | cons a l ih =>
    simp only [List.map_cons, look]
    split
    · split
      · rename_i e; rw [e] at ih; exact ih
      · simp
    · exact ih
theorem pure_hook {t : Gt} {H : AH X} (hp : pureOp o.op = true) : hookB o t H = false := by
  obtain ⟨dst, op, type, pos, after, guard⟩ := o
  cases op <;> first | rfl | (simp [pureOp] at hp; done)
theorem oevT_off {tl : TellT X} {opn : OpnT X} {H : AH X} {K : Value → AH X → Prop} (hb : hookB o g H = false) (h : oev P call o g H K) : oevT tl opn P call o g H K := by
  unfold oevT; simp only [hb]; exact h
theorem hook_mask {t : Gt} {H : AH X} {F : Foot} (hp : loadOp o.op = true) (hb : hookB o t H = false) : hookB o t (mask F H 0) = false := by
  obtain ⟨dst, op, type, pos, after, guard⟩ := o
  cases op <;> simp only [loadOp, Bool.false_eq_true] at hp
  unfold hookB at *
  simp only at *
  split at hb
  · rename_i i off sp he
    (try simp only [he])
    rw [mask_nth, Nat.zero_add]
    split
    · rename_i p x he2
      split at he2
      · split at hb
        · cases hb
        · rename_i hn
          cases hl : look F i with
          | none => rw [hl] at he2; cases hh : nth H i <;> rw [hh] at he2 <;> cases he2
          | some b =>
            rw [hl] at he2
            cases hh : nth H i with
            | none => rw [hh] at he2; cases b <;> cases he2
            | some e =>
              obtain ⟨p', o'⟩ := e
              rw [hh] at he2
              cases b <;> (simp only [maskE, Option.some.injEq, Prod.mk.injEq] at he2; obtain ⟨_, rfl⟩ := he2; exact absurd hh (hn _ _))
      · cases he2
    · rfl
  · rfl
theorem foot_load {eff : FuncId → List Nat} (hp : loadOp o.op = true) (H : AH X) (i : Nat) : look (footOf eff o g H) i ≠ some true := by
  obtain ⟨dst, op, type, pos, after, guard⟩ := o
  cases op <;> simp only [loadOp, Bool.false_eq_true] at hp
  unfold footOf
  simp only
  split
  · exact look_false i
  · simp [look]
end
theorem newF_nil (a : Nat) : newF a a = [] := by unfold newF; simp

theorem regD_tra {X : Type} {tl : TellT X} {P : Program} {call : CallT X} {eff : FuncId → List Nat} (hd : CallDet call) {ops : List Oper} {K : Sl → AH X → Prop} : ∀ {l : List Oper} {fs : List Foot} {t : Sl} {H : AH X}, regD tl P call eff ops l fs t H K →
    ∃ T M wn F R G, Tra tl P call ops l T M wn F R G ∧ T 0 = t ∧ M 0 = H ∧ pairs conf [] 0 (fs.reverse ++ (List.range l.length).map (footAll M wn F)) (befs [] ops) = true ∧ K (T l.length) (M l.length)
  | [], fs, t, H, h => by
    rw [regD_nil] at h
    split at h
    · rename_i hp
      exact ⟨fun _ => t, fun _ => H, fun _ => false, fun _ => [], fun _ => undef, fun _ => H, ⟨fun k o ho => by simp at ho⟩, rfl, rfl, by simpa using hp, h⟩
    · exact h.elim
  | o :: l, fs, t, H, h => by
    rw [regD_cons] at h
    simp only [nxt_eq, forceF_eq, spine_eq] at h
    -- one more operation ahead of a trace
    have step : ∀ {v : Value} {F0 : Foot} {G0 H1 : AH X}, wantd ops o t = some true → oevT tl noOpn P call o (gs t) (mask F0 H 0) (fun a b => a = v ∧ b = G0) → H.length ≤ G0.length → H1 = merge F0 H 0 G0 →
        (∃ T M wn F R G, Tra tl P call ops l T M wn F R G ∧ T 0 = putd t o.dst v ∧ M 0 = H1 ∧ pairs conf [] 0 (((F0 ++ newF H.length H1.length) :: fs).reverse ++ (List.range l.length).map (footAll M wn F)) (befs [] ops) = true ∧ K (T l.length) (M l.length)) →
        ∃ T M wn F R G, Tra tl P call ops (o :: l) T M wn F R G ∧ T 0 = t ∧ M 0 = H ∧ pairs conf [] 0 (fs.reverse ++ (List.range (o :: l).length).map (footAll M wn F)) (befs [] ops) = true ∧ K (T (o :: l).length) (M (o :: l).length) := by
      intro v F0 G0 H1 g h1 hle hH1 ⟨T, M, wn, F, R, G, ⟨hs⟩, e1, e2, hp, hk⟩
      refine ⟨shift t T, shift H M, shift true wn, shift F0 F, shift v R, shift G0 G, ⟨fun k o' ho => ?_⟩, rfl, rfl, ?_, hk⟩
      · cases k with
        | zero =>
          simp at ho; subst ho
          exact ⟨e1, (fun q => by cases q), fun _ => ⟨g, h1, hle, e2.trans hH1⟩⟩
        | succ k => simp at ho; exact hs k o' ho
      · rw [List.reverse_cons] at hp
        have e : (List.range (l.length + 1)).map (footAll (shift H M) (shift true wn) (shift F0 F)) = (F0 ++ newF H.length H1.length) :: (List.range l.length).map (footAll M wn F) := by
          rw [List.range_succ_eq_map, List.map_cons, List.map_map]
          congr 1
          show F0 ++ newF H.length (M 0).length = _
          rw [e2]
        rw [List.length_cons, e]
        simpa using hp
    rcases guardK_eq h with ⟨g, h⟩ | ⟨g, h⟩
    · split at h
      · rename_i hpo
        obtain ⟨v, G0, h1, h2⟩ := oev_det hd h
        have hm : ∀ H : AH X, merge [] H 0 (mask [] H 0) = H := fun H => merge_none (fun i => by simp [look]) H _ 0 (mask_len H 0)
        refine step (v := v) (F0 := []) (G0 := mask [] H 0) (H1 := H) g (oevT_off (pure_hook hpo) (oev_pure hpo h1 fun u hu => ⟨hu.1, rfl⟩)) (by rw [mask_len]; exact Nat.le_refl _) (hm H).symm ?_
        rw [newF_nil]
        exact regD_tra hd h2
      · split at h
        · rename_i hlo'
          obtain ⟨hlo, hlb⟩ : loadOp o.op = true ∧ hookB o (gs t) H = false := by simpa using hlo'
          obtain ⟨v, G0, h1, h2⟩ := oev_det hd h
          refine step (v := v) (F0 := footOf eff o (gs t) H) (G0 := mask (footOf eff o (gs t) H) H 0) (H1 := H) g (oevT_off (hook_mask hlo hlb) (oev_load hlo h1 fun u hu => ⟨hu.1, rfl⟩)) (by rw [mask_len]; exact Nat.le_refl _) (merge_none (fun i => foot_load hlo H i) H _ 0 (mask_len H 0)).symm ?_
          rw [newF_nil, List.append_nil]
          exact regD_tra hd h2
        · obtain ⟨v, G0, h1, h2⟩ := oevT_det hd noOpn_det h
          split at h2
          · rename_i hb
            have hle := Nat.le_of_ble_eq_true hb
            refine step (v := v) (F0 := footOf eff o (gs t) H) (G0 := G0) g h1 hle rfl ?_
            rw [merge_len _ _ _ hle]
            exact regD_tra hd h2
          · exact h2.elim
    · obtain ⟨T, M, wn, F, R, G, ⟨hs⟩, e1, e2, hp, hk⟩ := regD_tra hd h
      refine ⟨shift t T, shift H M, shift false wn, shift [] F, shift undef R, shift H G, ⟨fun k o' ho => ?_⟩, rfl, rfl, ?_, hk⟩
      · cases k with
        | zero =>
          simp at ho; subst ho
          exact ⟨e1, (fun _ => ⟨g, rfl, e2⟩), (fun q => by cases q)⟩
        | succ k => simp at ho; exact hs k o' ho
      · rw [List.reverse_cons] at hp
        have e : (List.range (l.length + 1)).map (footAll (shift H M) (shift false wn) (shift [] F)) = [] :: (List.range l.length).map (footAll M wn F) := by
          rw [List.range_succ_eq_map, List.map_cons, List.map_map]
          rfl
        rw [List.length_cons, e]
        simpa using hp
end Go.Proofs.Ytdmodejpcfhbhaa
