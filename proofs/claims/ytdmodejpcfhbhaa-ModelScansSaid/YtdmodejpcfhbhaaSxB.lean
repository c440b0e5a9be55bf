/- What one operation makes of memory seen through numbers of one's own. No program is named here. -/
import Derived.Test.YtdmodejpcfhbhaaSxA
import Derived.WalkKit
namespace Go.Proofs.Ytdmodejpcfhbhaa
open Go.RowKit

/-! ### What a computation gives that touches no memory -/
def semP {α : Type} (P : Program) : Sem α → Option α
  | .pure a => some a
  | .program k => semP P (k P)
  | .mark _ k => semP P k
  | _ => none
theorem semP_run {α : Type} {P : Program} {s : Sem α} {a : α} (h : semP P s = some a) (w : World) : s.run P w = .ok a w := by
  induction s with
  | pure b => simp only [semP, Option.some.injEq] at h; subst h; rfl
  | program k ih => exact ih _ h
  | mark m k ih => exact ih h
  | _ => simp [semP] at h

/-- Bears no address, to depth n. -/
def scal : Nat → Value → Bool
  | n + 1, .agg ⟨l⟩ => l.all (scal n)
  | n + 1, .tuple ⟨l⟩ => l.all (scal n)
  | n + 1, .iface _ v => scal n v
  | _, v => plain v
theorem scal_eq {L : Nat → Prop} {ρ : Nat → Nat × Nat} : ∀ (n : Nat) {v v' : Value}, scal n v = true → VR L ρ v v' → v' = v := by
  intro n
  induction n with
  | zero => intro v v' hs h; exact h.plain_eq (by cases v <;> exact hs)
  | succ n ih =>
    have hl : ∀ {l l' : List Value}, l.all (scal n) = true → VRL L ρ l l' → l' = l := by
      intro l
      induction l with
      | nil => intro l' _ h; cases h; rfl
      | cons a l ihl => intro l' hs h; cases h with
        | cons h0 h => simp only [List.all_cons, Bool.and_eq_true] at hs; rw [ih hs.1 h0, ihl hs.2 h]
    intro v v' hs h
    cases h with
    | plain => rfl
    | iface h => rw [ih hs h]
    | agg h => rw [hl hs h]
    | tuple h => rw [hl hs h]
    | ptr => simp [scal, plain] at hs
    | slice => simp [scal, plain] at hs
    | row => simp [scal, plain] at hs
    | emp => simp [scal, plain] at hs
    | map => simp [scal, plain] at hs
    | func => simp [scal, plain] at hs
theorem scal_refl {L : Nat → Prop} {ρ : Nat → Nat × Nat} : ∀ (n : Nat) {v : Value}, scal n v = true → VR L ρ v v := by
  intro n
  induction n with
  | zero => intro v hs; exact .plain (by cases v <;> exact hs)
  | succ n ih =>
    have hl : ∀ {l : List Value}, l.all (scal n) = true → VRL L ρ l l := by
      intro l
      induction l with
      | nil => intro _; exact .nil
      | cons a l ihl => intro hs; simp only [List.all_cons, Bool.and_eq_true] at hs; exact .cons (ih hs.1) (ihl hs.2)
    intro v hs
    cases v with
    | agg c => exact .agg (hl hs)
    | tuple c => exact .tuple (hl hs)
    | iface t v => exact .iface (ih hs)
    | _ => exact .plain hs


/-! ### Written out -/
def forceN : Nat → (Nat → Prop) → Prop
  | 0, K => K 0
  | n + 1, K => forceN n fun m => K (m + 1)
theorem forceN_eq (n : Nat) (K : Nat → Prop) : forceN n K = K n := by
  induction n generalizing K with
  | zero => rfl
  | succ n ih => exact ih _
def forceLw (f : Value → (Value → Prop) → Prop) : List Value → (List Value → Prop) → Prop
  | [], K => K []
  | v :: l, K => f v fun v => forceLw f l fun l => K (v :: l)
theorem forceLw_eq {f : Value → (Value → Prop) → Prop} (hf : ∀ v K, f v K = K v) (l : List Value) (K : List Value → Prop) : forceLw f l K = K l := by
  induction l generalizing K with
  | nil => rfl
  | cons v l ih => simp only [forceLw, hf, ih]
def forceV : Nat → Value → (Value → Prop) → Prop
  | 0, v, K => K v
  | n + 1, v, K => match v with
    | .bool b => K (.bool b)
    | .int k n => K (.int k n)
    | .pointer none => K (.pointer none)
    | .pointer (some ⟨i, o, none⟩) => K (.pointer (some ⟨i, o, none⟩))
    | .slice (some ⟨i, o, none⟩) l c => K (.slice (some ⟨i, o, none⟩) l c)
    | .slice (some ⟨i, o, some k⟩) l c => K (.slice (some ⟨i, o, some k⟩) l c)
    | .map (some i) => K (.map (some i))
    | .nilIface => K .nilIface
    | .agg ⟨l⟩ => forceLw (forceV n) l fun l => K (.agg ⟨l⟩)
    | .tuple ⟨l⟩ => forceLw (forceV n) l fun l => K (.tuple ⟨l⟩)
    | .iface t v => forceV n v fun v => K (.iface t v)
    | .func f ⟨l⟩ ⟨c⟩ => forceLw (forceV n) l fun l => forceLw (forceV n) c fun c => K (.func f ⟨l⟩ ⟨c⟩)
    | v => K v
theorem forceV_eq (n : Nat) (v : Value) (K : Value → Prop) : forceV n v K = K v := by
  induction n generalizing v K with
  | zero => rfl
  | succ n ih =>
    unfold forceV
    split <;> first | rfl | simp only [forceLw_eq ih] | exact ih _ _
abbrev forceL : List Value → (List Value → Prop) → Prop := forceLw (forceV 4)
/-- The list alone. -/
def spine {X : Type} : AH X → (AH X → Prop) → Prop
  | [], K => K []
  | none :: H, K => spine H fun H => K (none :: H)
  | some (p, .cells cs T) :: H, K => (match p with
    | true => spine H fun H => K (some (true, .cells cs T) :: H)
    | false => spine H fun H => K (some (false, .cells cs T) :: H))
  | some (p, .ext x) :: H, K => (match p with
    | true => spine H fun H => K (some (true, .ext x) :: H)
    | false => spine H fun H => K (some (false, .ext x) :: H))
theorem spine_eq {X : Type} (H : AH X) (K : AH X → Prop) : spine H K = K H := by
  induction H generalizing K with
  | nil => rfl
  | cons e H ih =>
    cases e with
    | none => simp only [spine, ih]
    | some e =>
      obtain ⟨p, o⟩ := e
      cases o <;> cases p <;> simp only [spine, ih]
/-! ### Slots -/
/-- What is looked up of a slot. -/
abbrev Gt := Nat → Option Value
def aev (t : Gt) : Operand → Option Value
  | .tmp i => t i
  | .const v => match scal 3 v with | true => some v | false => none
  | .global _ => none
  | .func f => some (.func (.func f) ⟨[]⟩ ⟨[]⟩)
def aevs (t : Gt) : List Operand → Option (List Value)
  | [] => some []
  | x :: l => match aev t x with
    | some v => match aevs t l with
      | some r => some (v :: r)
      | none => none
    | none => none

def TR (L : Nat → Prop) (ρ : Nat → Nat × Nat) (t : Gt) (tmps : Array Value) : Prop :=
  ∀ j v, t j = some v → ∃ v', tmps[j]? = some v' ∧ VR L ρ v v'

section
variable {L L' : Nat → Prop} {ρ ρ' : Nat → Nat × Nat} {t : Gt} {a : Act}
theorem aev_sound {x : Operand} {v : Value} (h : aev t x = some v) (ht : TR L ρ t a.tmps) : VR L ρ v (a.eval x) := by
  cases x with
  | tmp i =>
    obtain ⟨v', h1, h2⟩ := ht i v h
    have : a.eval (.tmp i) = v' := by simp [Act.eval, h1]
    rw [this]; exact h2
  | const u =>
    simp only [aev] at h
    cases e : scal 3 u with
    | false => rw [e] at h; cases h
    | true => rw [e] at h; obtain rfl := Option.some.inj h; exact scal_refl 3 e
  | global g => cases h
  | func f => simp only [aev, Option.some.injEq] at h; subst h; exact .func .nil .nil
theorem aevs_sound {l : List Operand} {r : List Value} (h : aevs t l = some r) (ht : TR L ρ t a.tmps) : VRL L ρ r (l.map a.eval) := by
  induction l generalizing r with
  | nil => simp only [aevs, Option.some.injEq] at h; subst h; exact .nil
  | cons x l ih =>
    simp only [aevs] at h
    cases e1 : aev t x with
    | none => rw [e1] at h; cases h
    | some v =>
      rw [e1] at h
      cases e2 : aevs t l with
      | none => rw [e2] at h; cases h
      | some q => rw [e2] at h; obtain rfl := Option.some.inj h; exact .cons (aev_sound e1 ht) (ih e2)
theorem TR.mono (hL : ∀ x, L x → L' x ∧ ρ' x = ρ x) {tmps : Array Value} (h : TR L ρ t tmps) : TR L' ρ' t tmps :=
  fun j v e => let ⟨v', h1, h2⟩ := h j v e; ⟨v', h1, h2.mono hL⟩
end

/-- Slots as a tree: where nothing was laid: undefined, or (un) nothing is known; none: nothing is known. -/
inductive Tri where
  | lf
  | un
  | nd (l : Tri) (v : Option Value) (r : Tri)
def Tri.get : Tri → Nat → Option Value
  | .lf, _ => some undef
  | .un, _ => none
  | .nd _ v _, 0 => v
  | .nd l _ r, k + 1 => match k % 2 with
    | 0 => l.get (k / 2)
    | _ + 1 => r.get (k / 2)
def putF : Nat → Tri → Nat → Option Value → Tri
  | _, .lf, 0, x => .nd .lf x .lf
  | _, .un, 0, x => .nd .un x .un
  | _, .nd l _ r, 0, x => .nd l x r
  | 0, t, _ + 1, _ => t
  | f + 1, .lf, k + 1, x => match k % 2 with
    | 0 => .nd (putF f .lf (k / 2) x) (some undef) .lf
    | _ + 1 => .nd .lf (some undef) (putF f .lf (k / 2) x)
  | f + 1, .un, k + 1, x => match k % 2 with
    | 0 => .nd (putF f .un (k / 2) x) none .un
    | _ + 1 => .nd .un none (putF f .un (k / 2) x)
  | f + 1, .nd l v r, k + 1, x => match k % 2 with
    | 0 => .nd (putF f l (k / 2) x) v r
    | _ + 1 => .nd l v (putF f r (k / 2) x)
def putK : Nat → Tri → Nat → Option Value → (Tri → Prop) → Prop
  | _, .lf, 0, x, K => K (.nd .lf x .lf)
  | _, .un, 0, x, K => K (.nd .un x .un)
  | _, .nd l _ r, 0, x, K => K (.nd l x r)
  | 0, t, _ + 1, _, K => K t
  | f + 1, .lf, k + 1, x, K => match k % 2 with
    | 0 => putK f .lf (k / 2) x fun l => K (.nd l (some undef) .lf)
    | _ + 1 => putK f .lf (k / 2) x fun r => K (.nd .lf (some undef) r)
  | f + 1, .un, k + 1, x, K => match k % 2 with
    | 0 => putK f .un (k / 2) x fun l => K (.nd l none .un)
    | _ + 1 => putK f .un (k / 2) x fun r => K (.nd .un none r)
  | f + 1, .nd l v r, k + 1, x, K => match k % 2 with
    | 0 => putK f l (k / 2) x fun l => K (.nd l v r)
    | _ + 1 => putK f r (k / 2) x fun r => K (.nd l v r)
theorem putK_eq : ∀ (f : Nat) (t : Tri) (k : Nat) (x : Option Value) (K : Tri → Prop), putK f t k x K = K (putF f t k x)
  | 0, .lf, 0, _, _ => rfl
  | _ + 1, .lf, 0, _, _ => rfl
  | 0, .un, 0, _, _ => rfl
  | _ + 1, .un, 0, _, _ => rfl
  | 0, .un, _ + 1, _, _ => rfl
  | f + 1, .un, k + 1, x, K => by
    simp only [putK, putF]
    split <;> exact putK_eq f _ _ _ _
  | 0, .nd _ _ _, 0, _, _ => rfl
  | _ + 1, .nd _ _ _, 0, _, _ => rfl
  | 0, .lf, _ + 1, _, _ => rfl
  | 0, .nd _ _ _, _ + 1, _, _ => rfl
  | f + 1, .lf, k + 1, x, K => by
    simp only [putK, putF]
    split <;> exact putK_eq f _ _ _ _
  | f + 1, .nd l v r, k + 1, x, K => by
    simp only [putK, putF]
    split <;> exact putK_eq f _ _ _ _
theorem get_put : ∀ (f : Nat) (t : Tri) (k j : Nat) (x : Option Value), k ≤ f → (putF f t k x).get j = if k = j then x else t.get j
  | 0, .lf, 0, j, _, _ => by cases j <;> simp [putF, Tri.get]; split <;> rfl
  | _ + 1, .lf, 0, j, _, _ => by cases j <;> simp [putF, Tri.get]; split <;> rfl
  | 0, .un, 0, j, _, _ => by cases j <;> simp [putF, Tri.get]; split <;> rfl
  | _ + 1, .un, 0, j, _, _ => by cases j <;> simp [putF, Tri.get]; split <;> rfl
  | 0, .nd _ _ _, 0, j, _, _ => by cases j <;> simp [putF, Tri.get]
  | _ + 1, .nd _ _ _, 0, j, _, _ => by cases j <;> simp [putF, Tri.get]
  | 0, _, _ + 1, _, _, h => by omega
  | f + 1, .lf, k + 1, j, x, h => by
    simp only [putF]
    cases j with
    | zero => split <;> simp [Tri.get]
    | succ j =>
      split
      · rename_i e
        simp only [Tri.get]
        split
        · rename_i e2
          rw [get_put f _ _ _ _ (by omega)]
          by_cases q : k / 2 = j / 2
          · rw [if_pos q, if_pos (by omega)]
          · rw [if_neg q, if_neg (by omega)]; rfl
        · rename_i e2; rw [if_neg (by omega)]
      · rename_i m e
        simp only [Tri.get]
        split
        · rename_i e2; rw [if_neg (by omega)]
        · rename_i m2 e2
          rw [get_put f _ _ _ _ (by omega)]
          by_cases q : k / 2 = j / 2
          · rw [if_pos q, if_pos (by omega)]
          · rw [if_neg q, if_neg (by omega)]; rfl
  | f + 1, .un, k + 1, j, x, h => by
    simp only [putF]
    cases j with
    | zero => split <;> simp [Tri.get]
    | succ j =>
      split
      · rename_i e
        simp only [Tri.get]
        split
        · rename_i e2
          rw [get_put f _ _ _ _ (by omega)]
          by_cases q : k / 2 = j / 2
          · rw [if_pos q, if_pos (by omega)]
          · rw [if_neg q, if_neg (by omega)]; rfl
        · rename_i e2; rw [if_neg (by omega)]
      · rename_i m e
        simp only [Tri.get]
        split
        · rename_i e2; rw [if_neg (by omega)]
        · rename_i m2 e2
          rw [get_put f _ _ _ _ (by omega)]
          by_cases q : k / 2 = j / 2
          · rw [if_pos q, if_pos (by omega)]
          · rw [if_neg q, if_neg (by omega)]; rfl
  | f + 1, .nd l v r, k + 1, j, x, h => by
    simp only [putF]
    cases j with
    | zero => split <;> simp [Tri.get]
    | succ j =>
      split
      · rename_i e
        simp only [Tri.get]
        split
        · rename_i e2
          rw [get_put f _ _ _ _ (by omega)]
          by_cases q : k / 2 = j / 2
          · rw [if_pos q, if_pos (by omega)]
          · rw [if_neg q, if_neg (by omega)]
        · rename_i e2; rw [if_neg (by omega)]
      · rename_i m e
        simp only [Tri.get]
        split
        · rename_i e2; rw [if_neg (by omega)]
        · rename_i m2 e2
          rw [get_put f _ _ _ _ (by omega)]
          by_cases q : k / 2 = j / 2
          · rw [if_pos q, if_pos (by omega)]
          · rw [if_neg q, if_neg (by omega)]
theorem put_get : ∀ (f : Nat) (t : Tri) (k : Nat) (v : Value), t.get k = some v → v ≠ undef → putF f t k (some v) = t
  | _, .lf, _, v, h, hv => by simp only [Tri.get, Option.some.injEq] at h; exact absurd h.symm hv
  | _, .un, _, v, h, hv => by simp only [Tri.get] at h; cases h
  | 0, .nd l u r, 0, v, h, _ => by simp only [Tri.get] at h; simp only [putF]; rw [h]
  | _ + 1, .nd l u r, 0, v, h, _ => by simp only [Tri.get] at h; simp only [putF]; rw [h]
  | 0, .nd l u r, k + 1, v, h, _ => rfl
  | f + 1, .nd l u r, k + 1, v, h, hv => by
    simp only [Tri.get] at h
    simp only [putF]
    split
    · rename_i e; simp only [e] at h; rw [put_get f l _ v h hv]
    · rename_i m e; simp only [e] at h; rw [put_get f r _ v h hv]
structure Sl where
  n : Nat
  t : Tri
def gs (s : Sl) : Gt := fun k => match Nat.blt k s.n with
  | true => s.t.get k
  | false => none
def ps (s : Sl) (k : Nat) (x : Option Value) : Sl := ⟨s.n, putF k s.t k x⟩
theorem gs_lt {s : Sl} {k : Nat} {v : Value} (h : gs s k = some v) : k < s.n := by
  unfold gs at h
  split at h
  · rename_i e; simpa [Nat.blt_eq] using e
  · cases h
theorem gs_ps (s : Sl) (k j : Nat) (x : Option Value) : gs (ps s k x) j = if k = j ∧ k < s.n then x else gs s j := by
  unfold gs ps
  simp only
  rw [get_put _ _ _ _ _ (Nat.le_refl k)]
  by_cases q : j < s.n
  · rw [show Nat.blt j s.n = true from by simpa [Nat.blt_eq] using q]
    simp only
    by_cases e : k = j
    · subst e; rw [if_pos rfl, if_pos ⟨rfl, q⟩]
    · rw [if_neg e, if_neg (fun z => e z.1)]
  · rw [show Nat.blt j s.n = false from by simpa [← Nat.blt_eq] using q]
    simp only
    rw [if_neg (by rintro ⟨rfl, h⟩; exact q h)]
theorem ps_same {s : Sl} {k : Nat} {v : Value} (h : gs s k = some v) (hv : v ≠ undef) : ps s k (some v) = s := by
  unfold gs at h
  split at h
  · unfold ps; rw [put_get _ _ _ _ h hv]
  · cases h
/-- Slots, as they are. -/
def TRs (L : Nat → Prop) (ρ : Nat → Nat × Nat) (t : Sl) (tmps : Array Value) : Prop := t.n = tmps.size ∧ TR L ρ (gs t) tmps
theorem TRs.mono {L L' : Nat → Prop} {ρ ρ' : Nat → Nat × Nat} {t : Sl} (hL : ∀ x, L x → L' x ∧ ρ' x = ρ x) {tmps : Array Value} (h : TRs L ρ t tmps) : TRs L' ρ' t tmps := ⟨h.1, h.2.mono hL⟩

/-- May memory be another one behind it? -/
def heapOp : Op → Bool
  | .call _ => true
  | _ => false
def forceB {X : Type} (b : Bool) (H : AH X) (K : AH X → Prop) : Prop :=
  match b with
  | true => spine H K
  | false => K H
theorem forceB_eq {X : Type} (b : Bool) (H : AH X) (K : AH X → Prop) : forceB b H K = K H := by cases b; rfl; exact spine_eq _ _
/-- What an operation's slot is behind it. -/
def putd (t : Sl) (dst : Option Tmp) (v : Value) : Sl :=
  match dst with
  | some d => ps t d (some v)
  | none => t
def putdK (t : Sl) (dst : Option Tmp) (v : Value) (K : Sl → Prop) : Prop :=
  match dst with
  | some d => (match t with | ⟨n, u⟩ => putK d u d (some v) fun u => K ⟨n, u⟩)
  | none => K t
theorem putdK_eq (t : Sl) (dst : Option Tmp) (v : Value) (K : Sl → Prop) : putdK t dst v K = K (putd t dst v) := by
  cases dst with
  | none => rfl
  | some d => exact putK_eq _ _ _ _ _
theorem TRs.put {L : Nat → Prop} {ρ : Nat → Nat × Nat} {t : Sl} {a : Act} (h : TRs L ρ t a.tmps) (dst : Option Tmp) {v v' : Value} (hv : VR L ρ v v') : TRs L ρ (putd t dst v) (a.put dst v').tmps := by
  cases dst with
  | none => exact h
  | some d =>
    refine ⟨by simp [putd, ps, Act.put, h.1], fun j u e => ?_⟩
    simp only [putd, gs_ps] at e
    by_cases q : d = j ∧ d < t.n
    · rw [if_pos q] at e
      obtain rfl := Option.some.inj e
      obtain ⟨rfl, q2⟩ := q
      exact ⟨v', by simp [Act.put, ← h.1, q2], hv⟩
    · rw [if_neg q] at e
      obtain ⟨u', h1, h2⟩ := h.2 j u e
      refine ⟨u', ?_, h2⟩
      have hne : d ≠ j := fun e2 => q ⟨e2, by subst e2; exact gs_lt e⟩
      simp [Act.put, Array.getElem?_setIfInBounds_ne hne, h1]
/-- Behind an operation, written out. -/
def nxt {X : Type} (v : Value) (hb : Bool) (H : AH X) (t : Sl) (dst : Option Tmp) (K : Sl → AH X → Prop) : Prop :=
  forceV 4 v fun v => forceB hb H fun H => putdK t dst v fun t => K t H
theorem nxt_eq {X : Type} (v : Value) (hb : Bool) (H : AH X) (t : Sl) (dst : Option Tmp) (K : Sl → AH X → Prop) : nxt v hb H t dst K = K (putd t dst v) H := by
  unfold nxt; rw [forceV_eq, forceB_eq, putdK_eq]

/-! ### Types -/
def fieldOff (P : Program) (s : TypeId) (f : Nat) : Option Nat :=
  match P.underlying s with
  | some (.struct fs) => match fs[f]? with
    | some fd => match P.info? fd.type with
      | some i => match i.size with
        | 0 => none
        | _ + 1 => some fd.offset
      | none => none
    | none => none
  | _ => none
def aggB (P : Program) (t : TypeId) : Option Bool :=
  match P.underlying t with
  | some (.struct _) | some (.array _ _) => some true
  | some _ => some false
  | none => none
def sizeP (P : Program) (t : TypeId) : Option Nat := (P.info? t).map (·.size)
/-- A variable of that type among cells, from a place on. -/
def rd (P : Program) (T : TypeId) (cs : List Value) (off : Nat) : Option Value :=
  match aggB P T with
  | some true => match sizeP P T with
    | some n => match decide (off + n ≤ cs.length) with
      | true => some (.agg ⟨(cs.drop off).take n⟩)
      | false => none
    | none => none
  | some false => cs[off]?
  | none => none
def zeroC (P : Program) (T : TypeId) : Option (List Value) :=
  match P.info? T with
  | some i => match i.zero with
    | some v => match v.cells.toList.all (scal 1) with
      | true => some v.cells.toList
      | false => none
    | none => none
  | none => none
def cellsL : Value → List Value
  | .agg ⟨l⟩ => l
  | v => [v]
theorem cellsL_eq (v : Value) : v.cells = ⟨cellsL v⟩ := by cases v <;> rfl
theorem VR.cells {L : Nat → Prop} {ρ : Nat → Nat × Nat} {v v' : Value} (h : VR L ρ v v') : VRL L ρ (cellsL v) (cellsL v') := by
  cases h with
  | plain h => cases v <;> first | exact .cons (.plain h) .nil | (simp [Go.Proofs.Ytdmodejpcfhbhaa.plain] at h; done)
  | agg h => exact h
  | ptr h => exact .cons (.ptr h) .nil
  | slice h => exact .cons (.slice h) .nil
  | row h => exact .cons (.row h) .nil
  | emp => exact .cons .emp .nil
  | map h => exact .cons (.map h) .nil
  | iface h => exact .cons (.iface h) .nil
  | tuple h => exact .cons (.tuple h) .nil
  | func h h' => exact .cons (.func h h') .nil

/-- Is that an array, or a slice: how long it is at least, its elements' size. -/
def idx (P : Program) (T : TypeId) (x ix : Value) : Option (Bool × Value) :=
  match ix with
  | .int _ n => match P.underlying T, x with
    | some (.array len e), .pointer (some ⟨i, o, none⟩) => match sizeP P e with
      | some s => some (decide (0 ≤ n ∧ n < len), .pointer (some ⟨i, o + n.toNat * s, none⟩))
      | none => none
    | some (.slice e), .slice (some ⟨i, o, none⟩) len _ => match sizeP P e with
      | some s => some (decide (0 ≤ n ∧ n < len), .pointer (some ⟨i, o + n.toNat * s, none⟩))
      | none => none
    | some (.slice e), .slice (some ⟨i, o, some _⟩) len 0 => match sizeP P e with
      | some s => some (decide (0 ≤ n ∧ n < len), .pointer (some ⟨i, o + n.toNat * s, none⟩))
      | none => none
    | _, _ => none
  | _ => none

/-- Is nil compared with what isn't? -/
def nilCmp (P : Program) (T : TypeId) (x y : Value) : Option Unit :=
  match P.underlying T, x, y with
  | some (.pointer _), .pointer (some _), .pointer none | some (.pointer _), .pointer none, .pointer (some _)
  | some (.interface _), .iface _ _, .nilIface | some (.interface _), .nilIface, .iface _ _
  | some (.slice _), .slice (some _) _ _, .slice none _ _ | some (.slice _), .slice none _ _, .slice (some _) _ _
  | some (.map _ _), .map (some _), .map none | some (.map _ _), .map none, .map (some _)
  | some (.func _ _ _), .func _ _ _, .nilFunc | some (.func _ _ _), .nilFunc, .func _ _ _ => some ()
  | _, _, _ => none

/-- Structs of plain fields: are they alike? -/
def eqF (P : Program) (xs ys : List Value) : List Field → Option Bool
  | [] => some true
  | f :: fs => match decide (f.name = "_"), P.underlying f.type, rd P f.type xs f.offset, rd P f.type ys f.offset with
    | false, some (.int _), some (.int k a), some (.int l b) => (match decide (k = l), eqF P xs ys fs with
      | true, some r => some ((a == b) && r)
      | _, _ => none)
    | false, some .bool, some (.bool a), some (.bool b) => (match eqF P xs ys fs with
      | some r => some ((a == b) && r)
      | none => none)
    | _, _, _, _ => none
def mayB (P : Program) (gs : Array Field) (t : TypeId) : Bool :=
  match ((P.info? t).map (fun i => i.desc) : Option TypeDesc) with
  | some (.struct fs) => (match fs.toList, gs.toList with
    | f :: _, g :: _ => decide (fs.size = gs.size) && decide (f.name = g.name)
    | _, _ => true)
  | _ => false
/-- No type of those that stand in is like it. -/
def apartB (P : Program) (T : TypeId) : Bool :=
  match ((P.info? (P.underlyingId T)).map (fun i => i.desc) : Option TypeDesc) with
  | some (.struct gs) => P.cutTypes.toList.all fun c => !(decide (P.underlyingId c.2 = P.underlyingId T) || mayB P gs (P.underlyingId c.2))
  | _ => false
theorem alike_no {P : Program} {n : Nat} {t u : TypeId} {gs : Array Field} (hu : (P.info? u).map (fun i => i.desc) = some (.struct gs)) (hne : t ≠ u) (hm : mayB P gs t = false) : P.alikeButTags (n + 1) t u = false := by
  unfold Program.alikeButTags
  unfold mayB at hm
  rw [show (P.info? u).map (·.desc) = some (.struct gs) from hu]
  rw [show (t == u) = false from by simpa using hne]
  cases q : (P.info? t).map (fun i => i.desc) with
  | none => simp
  | some d =>
    rw [q] at hm
    cases d <;> simp only [Bool.false_or]
    case struct fs =>
      obtain ⟨fs⟩ := fs
      obtain ⟨gs⟩ := gs
      cases fs with
      | nil => simp at hm
      | cons f fs =>
        cases gs with
        | nil => simp at hm
        | cons g gs =>
          simp only [Bool.and_eq_false_imp, decide_eq_true_eq, decide_eq_false_iff_not] at hm
          simp only [Bool.and_eq_false_imp, beq_iff_eq]
          intro hs
          have := hm hs
          rw [Bool.eq_false_iff]
          intro hall
          rw [Array.all_eq_true] at hall
          have h0 := hall 0 (by simp)
          simp at h0
          exact this h0.1.1.1
theorem apart_held {P : Program} {T : TypeId} (h : apartB P T = true) : P.stoodInHeld T = false := by
  unfold apartB at h
  split at h <;> try (cases h; done)
  rename_i gs hu
  have : P.stoodInAs T = [] := by
    have hf : (P.cutTypes.toList.filter fun c => P.alikeButTags P.depth (P.underlyingId c.2) (P.underlyingId T)) = [] := by
      rw [List.filter_eq_nil_iff]
      intro c hc
      have := List.all_eq_true.1 h c hc
      simp only [Bool.not_eq_true', Bool.or_eq_false_iff, decide_eq_false_iff_not] at this
      rw [show P.depth = (2 * (P.types.size + Made.depth) + 1) + 1 from rfl, alike_no hu this.1 this.2]
      simp
    unfold Program.stoodInAs
    rw [hf]
    simp
  unfold Program.stoodInHeld
  rw [this]
  rfl
def aggEq (P : Program) (op : BinOp) (T : TypeId) (u v : Value) : Option Bool :=
  match u, v with
  | .agg ⟨xs⟩, .agg ⟨ys⟩ => (match P.underlying T, apartB P T with
    | some (.struct fs), true => (match eqF P xs ys fs.toList with
      | some r => (match op with
        | .eql => some r
        | .neq => some (!r)
        | _ => none)
      | none => none)
    | _, _ => none)
  | _, _ => none
/-- Operations that are told of themselves: a remainder; structs compared. -/
def binSp (P : Program) (op : BinOp) (T : TypeId) (u v : Value) : Option (Bool × Value) :=
  match op, u, v with
  | .rem, .int k a, .int l b => (match decide (k = l) with
    | true => some (!decide (b = 0), .int k (a.tmod b))
    | false => none)
  | op, u, v => (match aggEq P op T u v with
    | some b => some (true, .bool b)
    | none => none)
/-- One cell's value. -/
def one : Value → Bool
  | .agg _ | .tuple _ => false
  | _ => true
theorem VR.one {L : Nat → Prop} {ρ : Nat → Nat × Nat} {v v' : Value} (h : VR L ρ v v') (h1 : Go.Proofs.Ytdmodejpcfhbhaa.one v = true) : Go.Proofs.Ytdmodejpcfhbhaa.one v' = true := by
  cases h with
  | plain h => cases v <;> first | rfl | (simp [Go.Proofs.Ytdmodejpcfhbhaa.one] at h1; done)
  | agg h => cases h1
  | tuple h => cases h1
  | _ => rfl
def setAt : List Value → Nat → List Value → List Value
  | cs, _, [] => cs
  | cs, o, v :: l => setAt (cs.set o v) (o + 1) l
theorem setAt_len (cs : List Value) (o : Nat) (l : List Value) : (setAt cs o l).length = cs.length := by
  induction l generalizing cs o with
  | nil => rfl
  | cons v l ih => rw [show setAt cs o (v :: l) = setAt (cs.set o v) (o + 1) l from rfl, ih]; simp

/-- 'build', of the parts' values. -/
def fillL (place : Nat → Option (Nat × Nat)) : List Value → List (Nat × Value) → Option (List Value)
  | cs, [] => some cs
  | cs, (i, v) :: rest => match place i with
    | none => none
    | some (off, size) => match decide ((cellsL v).length = size ∧ off + (cellsL v).length ≤ cs.length) with
      | true => fillL place (setAt cs off (cellsL v)) rest
      | false => none
def placesP (P : Program) : List Field → Option (List (Nat × Nat))
  | [] => some []
  | f :: l => match sizeP P f.type with
    | some s => match placesP P l with
      | some r => some ((f.offset, s) :: r)
      | none => none
    | none => none
def buildA (P : Program) (T : TypeId) (parts : List (Nat × Value)) : Option (List Value) :=
  match zeroC P T with
  | none => none
  | some zs => match P.underlying T with
    | some (.struct fs) => match placesP P fs.toList with
      | some ps => fillL (ps[·]?) zs parts
      | none => none
    | some (.array _ e) => match sizeP P e with
      | some s => fillL (fun i => some (i * s, s)) zs parts
      | none => none
    | _ => none
def partsA (t : Gt) : List (Nat × Operand) → Option (List (Nat × Value))
  | [] => some []
  | (i, x) :: l => match aev t x with
    | some v => match partsA t l with
      | some r => some ((i, v) :: r)
      | none => none
    | none => none
def isIface (P : Program) (T : TypeId) : Bool :=
  match P.underlying T with
  | some (.interface _) => true
  | some _ => false
  | none => true

/-- One of two. -/
noncomputable def selP (c : Bool) (A B : Prop) : Prop := @Bool.rec (fun _ => Prop) B A c

/-- What is told, by tests. -/
inductive DT (X : Type) where
  | ret (v : Value) (H : AH X)
  | ite (c : Bool) (a b : DT X)
  | no
/-- 'E' where nothing is told. -/
noncomputable def DT.runE {X : Type} (E : Prop) : DT X → (Value → AH X → Prop) → Prop
  | .ret v H, K => K v H
  | .ite c a b, K => selP c (a.runE E K) (b.runE E K)
  | .no, _ => E

/-! ### One operation -/
/-- Nothing is said of x. -/
inductive No {α : Type} (x : α) : Prop
theorem No.elim {α : Type} {x : α} {C : Prop} (h : No x) : C := by cases h

/-- A call of a Go function. -/
abbrev CallT (X : Type) := FuncId → List Value → AH X → (Value → AH X → Prop) → Prop

def ptsL : List (Nat × Operand) → List Operand
  | [] => []
  | (_, x) :: l => x :: ptsL l
def opt1 : Option Operand → List Operand
  | some x => [x]
  | none => []
def calleeL : Callee → List Operand
  | .value f => [f]
  | .invoke r _ => [r]
  | .builtin _ => []
/-- An operation's operands. -/
def opndsL : Op → List Operand
  | .alloc _ | .ready _ | .waits _ => []
  | .move x | .assign x | .box _ x | .load _ x | .nilCheck x | .unOp _ _ x | .convert _ _ x | .sliceToArrayPointer _ x | .makeInterface _ x
  | .makeChan _ x | .fieldAddr _ x _ | .field _ x _ | .range _ x | .next x _ | .entry x | .typeAssert x _ _ _ | .extract x _ | .panic x | .recv _ x _ => [x]
  | .pick c a b => [c, a, b]
  | .build _ ps => ptsL ps.toList
  | .buildSlice _ _ ps => ptsL ps.toList
  | .store _ a v | .binOp _ _ a v _ | .makeSlice _ a v | .indexAddr _ a v | .index _ a v | .lookup _ a v _ | .mapEntry _ a v | .send a v => [a, v]
  | .makeFunc _ first captured => first.toList ++ captured.toList
  | .makeMap _ r => opt1 r
  | .slice _ x l h m => x :: (opt1 l ++ (opt1 h ++ opt1 m))
  | .mapUpdate _ m k v | .entryStore _ m k v | .insert _ m k v => [m, k, v]
  | .call c | .go c | .defer c => calleeL c.callee ++ c.args.toList
  | .select cs b => (Op.select cs b).operands.toList
theorem ptsL_eq (l : List (Nat × Operand)) : ptsL l = l.map (·.2) := by
  induction l with
  | nil => rfl
  | cons x l ih => obtain ⟨i, x⟩ := x; simp [ptsL, ih]
theorem calleeL_eq (c : Call) : calleeL c.callee ++ c.args.toList = c.operands.toList := by
  unfold Call.operands
  cases c.callee <;> simp [calleeL]
theorem opndsL_eq (op : Op) : opndsL op = op.operands.toList := by
  cases op <;> first | rfl | (simp [opndsL, Op.operands, ptsL_eq]; done) | exact calleeL_eq _ | skip
  case makeMap t r => cases r <;> rfl
  case slice t x l h m => cases l <;> cases h <;> cases m <;> simp [opndsL, opt1, Op.operands]
def allScal (t : Gt) (l : List Operand) : Bool :=
  match aevs t l with
  | some vs => vs.all (scal 3)
  | none => false
def scalOp {X : Type} (P : Program) (o : Oper) (t : Gt) (H : AH X) (K : Value → AH X → Prop) : Prop :=
  match o.op with
  | .select _ _ => No o
  | _ => match allScal t (opndsL o.op) with
  | false => No o
  | true => match semP P (execOp (fun x => (aev t x).getD undef) o) with
    | some (.value r) => (match scal 3 r with | true => K r H | false => No o)
    | some .skip => K undef H
    | _ => No o

def oev {X : Type} (P : Program) (call : CallT X) (o : Oper) (t : Gt) (H : AH X) (K : Value → AH X → Prop) : Prop :=
  match o.op with
  | .move x | .assign x => match aev t x with
    | some v => K v H
    | none => No o
  | .pick c x y => match aev t c with
    | some (.bool b) => (match b with
      | true => (match aev t x with | some v => K v H | none => No o)
      | false => (match aev t y with | some v => K v H | none => No o))
    | _ => No o
  | .nilCheck x => match aev t x with
    | some (.pointer (some a)) => K (.pointer (some a)) H
    | some (.iface T v) => K (.iface T v) H
    | some (.func (.func f) a b) => K (.func (.func f) a b) H
    | _ => No o
  | .fieldAddr s x f => match aev t x with
    | some (.pointer (some ⟨i, o, none⟩)) => (match fieldOff P s f with
      | some d => forceN (o + d) fun d => K (.pointer (some ⟨i, d, none⟩)) H
      | none => No o)
    | _ => No o
  | .indexAddr T x ix => match aev t x, aev t ix with
    | some x, some ix => (match idx P T x ix with
      | some (ok, v) => (match ok with | true => K v H | false => No o)
      | none => No o)
    | _, _ => No o
  | .alloc T => match zeroC P T with
    | some cs => forceL cs fun cs => forceN H.length fun n => spine (H ++ [some (true, .cells cs T)]) fun H => K (.pointer (some ⟨n, 0, none⟩)) H
    | none => No o
  | .box T x => match aev t x with
    | some v => forceL (cellsL v) fun cs => forceN H.length fun n => spine (H ++ [some (true, .cells cs T)]) fun H => K (.pointer (some ⟨n, 0, none⟩)) H
    | none => No o
  | .load T x => match aev t x with
    | some (.pointer (some ⟨i, off, none⟩)) => (match nth H i with
      | some (_, .cells cs _) => (match rd P T cs off with
        | some v => K v H
        | none => No o)
      | _ => No o)
    | _ => No o
  | .store T x y => match aev t x, aev t y with
    | some (.pointer (some ⟨i, off, none⟩)), some v => (match nth H i with
      | some (true, .cells cs U) => (match sizeP P T with
        | some n => (match decide ((cellsL v).length = n ∧ off + n ≤ cs.length) && (cellsL v).all one with
          | true => forceL (setAt cs off (cellsL v)) fun cs => spine (put H i (some (true, .cells cs U))) fun H => K undef H
          | false => No o)
        | none => No o)
      | _ => No o)
    | _, _ => No o
  | .makeFunc (.func f) fs cs => match aevs t fs.toList, aevs t cs.toList with
    | some a, some b => K (.func (.func f) ⟨a⟩ ⟨b⟩) H
    | _, _ => No o
  | .build T parts => match partsA t parts.toList with
    | some ps => (match buildA P T ps with
      | some cs => K (.agg ⟨cs⟩) H
      | none => No o)
    | none => No o
  | .makeInterface T x => match aev t x, isIface P T with
    | some v, false => K (.iface T v) H
    | _, _ => No o
  | .field T x f => match aev t x, fieldOff P T f, P.underlying T with
    | some (.agg ⟨cs⟩), some d, some (.struct fs) => (match fs[f]? with
      | some fd => (match rd P fd.type cs d with
        | some v => K v H
        | none => No o)
      | none => No o)
    | _, _, _ => No o
  | .extract x i => match aev t x with
    | some (.tuple ⟨vs⟩) => (match vs[i]? with
      | some v => K v H
      | none => No o)
    | _ => No o
  | .binOp op T x y _ => match aev t x, aev t y with
    | some u, some v => (match scal 3 u && scal 3 v with
      | true => (match binSp P op T u v with
        | some (c, b) => (match c with
          | true => K b H
          | false => No o)
        | none => scalOp P o t H K)
      | false => (match nilCmp P T u v with
        | some _ => (match op with
          | .eql => K (.bool false) H
          | .neq => K (.bool true) H
          | _ => No o)
        | none => No o))
    | _, _ => No o
  | .call c => match c.callee with
    | .value f => (match aev t f, aevs t c.args.toList with
      | some (.func (.func f) ⟨fs⟩ ⟨cs⟩), some xs => call f (fs ++ xs ++ cs) H K
      | _, _ => No o)
    | .builtin .len => (match c.argTypes.toList, aevs t c.args.toList with
      | [T], some [.slice (some _) n _] => (match P.underlying T with
        | some (.slice _) => K (.int .i64 n) H
        | _ => No o)
      | [T], some [.slice none n _] => (match P.underlying T with
        | some (.slice _) => K (.int .i64 n) H
        | _ => No o)
      | [T], some [.string s] => (match P.underlying T with
        | some .string => K (.int .i64 s.size) H
        | _ => No o)
      | _, _ => scalOp P o t H K)
    | .builtin .max => (match aevs t c.args.toList with
      | some [.int k x, .int l y] => (match decide (k = l) with
        | true => K (.int k (if y > x then y else x)) H
        | false => No o)
      | _ => No o)
    | .builtin .min => (match aevs t c.args.toList with
      | some [.int k x, .int l y] => (match decide (k = l) with
        | true => K (.int k (if y < x then y else x)) H
        | false => No o)
      | _ => No o)
    | .builtin _ => scalOp P o t H K
    | .invoke _ _ => No o
  | _ => scalOp P o t H K

/-! ### Operations that are told -/
def hookOp : Op → Bool
  | .slice _ _ _ _ _ | .lookup _ _ _ _ | .mapUpdate _ _ _ _ | .makeMap _ _ | .makeSlice _ _ _ | .buildSlice _ _ _ | .range _ _ | .next _ _ | .index _ _ _ | .insert _ _ _ _ | .entry _ | .entryStore _ _ _ _ | .mapEntry _ _ _ => true
  | .call ⟨.builtin .append, _, _⟩ | .call ⟨.builtin .copy, _, _⟩ | .call ⟨.builtin .delete, _, _⟩ | .call ⟨.builtin .clear, _, _⟩ => true
  | _ => false
/-- Is it told elsewhere? -/
def hookB {X : Type} (o : Oper) (t : Gt) (H : AH X) : Bool :=
  match o.op with
  | .load _ x | .store _ x _ => (match aev t x with
    | some (.pointer (some ⟨i, _, _⟩)) => (match nth H i with
      | some (_, .ext _) => true
      | _ => false)
    | _ => false)
  | op => hookOp op
abbrev TellT (X : Type) := Oper → List Value → AH X → DT X
/-- What stands where it isn't told. -/
abbrev OpnT (X : Type) := Oper → List Value → AH X → (Value → AH X → Prop) → Prop
def noOpn {X : Type} : OpnT X := fun o _ _ _ => No o
noncomputable def oevT {X : Type} (tl : TellT X) (opn : OpnT X) (P : Program) (call : CallT X) (o : Oper) (t : Gt) (H : AH X) (K : Value → AH X → Prop) : Prop :=
  match hookB o t H with
  | true => (match aevs t (opndsL o.op) with
    | some vs => (tl o vs H).runE (match allScal t (opndsL o.op) with | true => oev P call o t H K | false => opn o vs H K) K
    | none => No o)
  | false => oev P call o t H K

/-- The numbers there were, and those from m to k. -/
def LU (L : Nat → Prop) (m k : Nat) (x : Nat) : Prop := L x ∨ (m ≤ x ∧ x < k)
/-- What holds: numbers that there are (L), whose blocks they are, what is known of them, memory. -/
structure Now {X : Type} (I : Means X) (w0 : World) (L : Nat → Prop) (ρ : Ren) (H : AH X) (h : GH) (w : World) : Prop where
  mem : Mem w0 h w
  sat : Sat I L ρ H h
  lt : ∀ x, L x → x < H.length
  org : I.org w0

def CallSound {X : Type} (P : Program) (I : Means X) (call : CallT X) : Prop :=
  ∀ f args H K, call f args H K → (∀ xs w, (callFunc f xs).run P w = .ok (.enter f xs) w) ∧ ∀ w0 w L h ρ args', Now I w0 L ρ H h w → VRL L ρ.b args args' →
    Calls P f ⟨args'⟩ w fun e w' => ∃ v v' H' ρ' h', e = .returned v' ∧ K v H' ∧ Now I w0 (LU L H.length H'.length) ρ' H' h' w' ∧ Tr ρ H h ρ' H' h' ∧ VR (LU L H.length H'.length) ρ'.b v v'

/-- An operation, from whatever memory that is as told. -/
def OWP {X : Type} (P : Program) (I : Means X) (o : Oper) (vs : List Value) (H : AH X) (K : Value → AH X → Prop) : Prop :=
  ∀ (w0 w : World) (L : Nat → Prop) (h : GH) (ρ : Ren) (a : Act), Now I w0 L ρ H h w → VRL L ρ.b vs ((opndsL o.op).map a.eval) → ∀ {next : Act → World → Prop} {Q : Exit → Act → World → Prop},
    (∀ v v' H' ρ' h' w', K v H' → Now I w0 (LU L H.length H'.length) ρ' H' h' w' → Tr ρ H h ρ' H' h' → VR (LU L H.length H'.length) ρ'.b v v' → next (a.put o.dst v') w') → o.wp P a w next Q
def DT.out {X : Type} : DT X → Option (Value × AH X)
  | .ret v H => some (v, H)
  | .ite c a b => (match c with | true => a.out | false => b.out)
  | .no => none
def DT.dry {X : Type} : DT X → Bool
  | .ret _ _ => false
  | .ite c a b => (match c with | true => a.dry | false => b.dry)
  | .no => true
theorem DT.runE_iff {X : Type} {E : Prop} {K : Value → AH X → Prop} : ∀ (d : DT X), d.runE E K ↔ (∃ v H, d.out = some (v, H) ∧ K v H) ∨ (d.out = none ∧ E)
  | .ret v H => ⟨fun h => .inl ⟨v, H, rfl, h⟩, fun h => by rcases h with ⟨v', H', e, h⟩ | ⟨e, _⟩; cases e; exact h; cases e⟩
  | .ite c a b => by cases c <;> simp only [DT.runE, DT.out, selP] <;> exact DT.runE_iff _
  | .no => by simp [DT.runE, DT.out]
def TellSound {X : Type} (P : Program) (I : Means X) (tl : TellT X) : Prop := ∀ o vs H v H', (tl o vs H).out = some (v, H') → OWP P I o vs H fun a b => a = v ∧ b = H'
def OpnSound {X : Type} (P : Program) (I : Means X) (opn : OpnT X) : Prop := ∀ o vs H K, opn o vs H K → OWP P I o vs H K
theorem OWP.mono {X : Type} {P : Program} {I : Means X} {o : Oper} {vs : List Value} {H : AH X} {K K' : Value → AH X → Prop} (h : OWP P I o vs H K) (hK : ∀ v H, K v H → K' v H) : OWP P I o vs H K' :=
  fun w0 w L h' ρ a hn hv _ _ hq => h w0 w L h' ρ a hn hv fun v v' H' ρ' h'' w' k => hq v v' H' ρ' h'' w' (hK v H' k)
theorem noOpn_sound {X : Type} {P : Program} {I : Means X} : OpnSound P I (noOpn (X := X)) := fun _ _ _ _ h => h.elim

end Go.Proofs.Ytdmodejpcfhbhaa
