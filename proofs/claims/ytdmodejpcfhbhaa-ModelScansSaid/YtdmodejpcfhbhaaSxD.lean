/- Regions, as they were reckoned, and as they go, in the order of their text; what two operations may have to do with one another. No program is named here. -/
import Derived.Test.YtdmodejpcfhbhaaSxC
namespace Go.Proofs.Ytdmodejpcfhbhaa
open Go.RowKit

/-! ### Regions -/
/-- Is the operation wanted? The slot that decides it is then written out. -/
noncomputable def guardK (ops : List Oper) (o : Oper) (t : Sl) (yes no : Sl → Prop) : Prop :=
  match o.guard with
  | none => yes t
  | some (g, want) => match (ops[g]?).bind (·.dst) with
    | some d => (match gs t d with
      | some (.bool c) => selP c (match want with | true => putdK t (some d) (.bool true) yes | false => putdK t (some d) (.bool true) no)
          (match want with | true => putdK t (some d) (.bool false) no | false => putdK t (some d) (.bool false) yes)
      | some (.tuple ⟨[]⟩) => no t
      | _ => No o)
    | none => No o

theorem putd_same {t : Sl} {d : Nat} {b : Bool} (h : gs t d = some (.bool b)) : putd t (some d) (.bool b) = t := ps_same h (by simp [undef])
/-- What it comes to, as it is. -/
def wantd (ops : List Oper) (o : Oper) (t : Sl) : Option Bool :=
  match o.guard with
  | none => some true
  | some (g, want) => match (ops[g]?).bind (·.dst) with
    | some d => (match gs t d with
      | some (.bool c) => some (c == want)
      | some (.tuple ⟨[]⟩) => some false
      | _ => none)
    | none => none
theorem guardK_eq {ops : List Oper} {o : Oper} {t : Sl} {yes no : Sl → Prop} (h : guardK ops o t yes no) : (wantd ops o t = some true ∧ yes t) ∨ (wantd ops o t = some false ∧ no t) := by
  unfold guardK at h
  unfold wantd
  split at h
  · exact .inl ⟨rfl, h⟩
  · rename_i g want hg
    split at h <;> try exact h.elim
    rename_i d hd
    split at h <;> try exact h.elim
    · rename_i c hc
      cases c <;> cases want <;> simp only [putdK_eq] at h <;> rw [putd_same hc] at h
      · exact .inl ⟨rfl, h⟩
      · exact .inr ⟨rfl, h⟩
      · exact .inr ⟨rfl, h⟩
      · exact .inl ⟨rfl, h⟩
    · rename_i hc
      exact .inr ⟨rfl, h⟩
theorem wantd_real {ops : List Oper} {o : Oper} {t : Sl} {b : Bool} (h : wantd ops o t = some b) {tmps : Array Value} {L : Nat → Prop} {ρ : Nat → Nat × Nat}
    (ht : ∀ g w d, o.guard = some (g, w) → (ops[g]?).bind (·.dst) = some d → ∀ v, gs t d = some v → ∃ v', tmps[d]? = some v' ∧ VR L ρ v v') : Region.wanted o (yielded ops.toArray tmps) = b := by
  unfold wantd at h
  unfold Region.wanted
  split at h
  · rename_i hg; rw [hg]; exact Option.some.inj h
  · rename_i g want hg
    rw [hg]
    simp only
    split at h <;> try (cases h; done)
    rename_i d hd
    unfold yielded
    have hd2 : (ops.toArray[g]?).bind (·.dst) = some d := by simpa using hd
    rw [hd2]
    simp only [Option.bind_some]
    split at h <;> try (cases h; done)
    · rename_i c hc
      obtain ⟨v', h1, h2⟩ := ht g want d hg hd _ hc
      obtain rfl := h2.bool_eq
      rw [h1]
      simp only
      rw [← Option.some.inj h]
      cases c <;> cases want <;> rfl
    · rename_i hc
      obtain ⟨v', h1, h2⟩ := ht g want d hg hd _ hc
      obtain rfl := h2.plain_eq rfl
      rw [h1]
      simp only
      rw [← Option.some.inj h]
      rfl

section
variable {X : Type} (tl : TellT X) (opn : OpnT X) (P : Program) (call : CallT X)
/-- One operation, ahead of the rest. -/
noncomputable def regOs (ops : List Oper) (o : Oper) (ih : Sl → AH X → (Sl → AH X → Prop) → Prop) (t : Sl) (H : AH X) (K : Sl → AH X → Prop) : Prop :=
  guardK ops o t (fun t => oevT tl opn P call o (gs t) H fun v H => nxt v (heapOp o.op) H t o.dst fun t H => ih t H K) (fun t => nxt undef false H t o.dst fun t H => ih t H K)
/-- A region in the order of its text. -/
noncomputable def regO (ops : List Oper) (l : List Oper) : Sl → AH X → (Sl → AH X → Prop) → Prop :=
  List.rec (motive := fun _ => Sl → AH X → (Sl → AH X → Prop) → Prop) (fun t H K => K t H) (fun o _ ih => regOs tl opn P call ops o ih) l
theorem regO_cons (ops : List Oper) (o : Oper) (l : List Oper) (t : Sl) (H : AH X) (K : Sl → AH X → Prop) : regO tl opn P call ops (o :: l) t H K =
  guardK ops o t (fun t => oevT tl opn P call o (gs t) H fun v H => nxt v (heapOp o.op) H t o.dst fun t H => regO tl opn P call ops l t H K) (fun t => nxt undef false H t o.dst fun t H => regO tl opn P call ops l t H K) := rfl
end

/-- What is left behind a piece of code. -/
def After {X : Type} (I : Means X) (w0 : World) (L : Nat → Prop) (ρ : Ren) (H : AH X) (h : GH) (K : Sl → AH X → Prop) (a : Act) (w : World) : Prop :=
  ∃ t' H' ρ' h', K t' H' ∧ Now I w0 (LU L H.length H'.length) ρ' H' h' w ∧ Tr ρ H h ρ' H' h' ∧ TRs (LU L H.length H'.length) ρ'.b t' a.tmps ∧ a.defers = []

section
variable {X : Type} {P : Program} {I : Means X} {tl : TellT X} {opn : OpnT X} {call : CallT X} {w0 w : World} {L : Nat → Prop} {ρ ρ' : Ren} {H H' : AH X} {h h' : GH} {t : Sl} {a : Act}
theorem LU.lu {L : Nat → Prop} {a b c : Nat} (h1 : a ≤ b) (h2 : b ≤ c) {x : Nat} : LU (LU L a b) b c x ↔ LU L a c x := by
  constructor
  · rintro ((h | h) | h)
    · exact .inl h
    · exact .inr (by omega)
    · exact .inr (by omega)
  · rintro (h | h)
    · exact .inl (.inl h)
    · by_cases q : x < b
      · exact .inl (.inr (by omega))
      · exact .inr (by omega)
theorem Now.to {L' : Nat → Prop} (hn : Now I w0 L ρ H h w) (hL : ∀ x, L x ↔ L' x) : Now I w0 L' ρ H h w := by
  have : L = L' := funext fun x => propext (hL x)
  exact this ▸ hn
theorem TRs.to {L' : Nat → Prop} {r : Nat → Nat × Nat} {tmps : Array Value} (hn : TRs L r t tmps) (hL : ∀ x, L x ↔ L' x) : TRs L' r t tmps := by
  have : L = L' := funext fun x => propext (hL x)
  exact this ▸ hn
theorem After.of {K : Sl → AH X → Prop} (hT : Tr ρ H h ρ' H' h') (hA : After I w0 (LU L H.length H'.length) ρ' H' h' K a w) : After I w0 L ρ H h K a w := by
  obtain ⟨t', H'', ρ'', h'', k, n, q, r, d⟩ := hA
  exact ⟨t', H'', ρ'', h'', k, n.to fun x => LU.lu hT.le q.le, hT.trans q, r.to fun x => LU.lu hT.le q.le, d⟩
theorem put_defers (a : Act) (dst : Option Tmp) (v : Value) : (a.put dst v).defers = a.defers := by cases dst <;> rfl

theorem TRs.lu {tmps : Array Value} {m : Nat} {r : Nat → Nat × Nat} (ht : TRs L r t tmps) : TRs (LU L m m) r t tmps := ht.mono fun _ hx => ⟨.inl hx, rfl⟩
theorem regO_sound (hc : CallSound P I call) (htl : TellSound P I tl) (hop : OpnSound P I opn) {ops : List Oper} {Q : Exit → Act → World → Prop} {K : Sl → AH X → Prop} : ∀ {l : List Oper} {t : Sl} {L : Nat → Prop} {H : AH X} {ρ : Ren} {h : GH} {a : Act} {w : World}, regO tl opn P call ops l t H K → Now I w0 L ρ H h w → TRs L ρ.b t a.tmps → a.defers = [] →
    (∀ a' w', After I w0 L ρ H h K a' w' → Q .normal a' w') → wpList P ops.toArray Q l a w
  | [], t, L, H, ρ, h, a, w, hk, hn, ht, hd, hQ => hQ a w ⟨t, H, ρ, h, hk, hn.lu, Tr.refl _ _ _, ht.lu, hd⟩
  | o :: l, t, L, H, ρ, h, a, w, hk, hn, ht, hd, hQ => by
    refine wpList_step fun N hN => ?_
    rw [regO_cons] at hk
    simp only [nxt_eq] at hk
    rcases guardK_eq hk with ⟨g, hk⟩ | ⟨g, hk⟩
    · rw [if_pos (wantd_real g fun _ _ d _ _ v e => ht.2 d v e)]
      refine oevT_sound hc htl hop hk hn ht.2 fun v v' H' ρ' h' w' hk' n' T' hv => hN _ _ ?_
      exact regO_sound hc htl hop hk' n' ((ht.mono fun x hx => ⟨.inl hx, T'.base x (hn.lt x hx)⟩).put o.dst hv) (by rw [put_defers]; exact hd) fun a'' w'' hA => hQ _ _ (After.of T' hA)
    · rw [if_neg (by rw [wantd_real g fun _ _ d _ _ v e => ht.2 d v e]; simp)]
      exact hN _ _ (regO_sound hc htl hop hk hn (ht.put o.dst (.plain rfl)) (by rw [put_defers]; exact hd) hQ)
end

/-! ### Of one thing or the other, one comes out -/
def CallDet {X : Type} (call : CallT X) : Prop := ∀ f args H K, call f args H K → ∃ v H', call f args H (fun a b => a = v ∧ b = H') ∧ K v H'

section
variable {X : Type} {P : Program} {call : CallT X} {H : AH X} {t : Gt} {o : Oper} {K : Value → AH X → Prop}
theorem scalOp_det (hk : scalOp P o t H K) : ∃ v H', scalOp P o t H (fun a b => a = v ∧ b = H') ∧ K v H' := by
  unfold scalOp at *
  split at hk
  · exact hk.elim
  split at hk
  · exact hk.elim
  split at hk
  · split at hk
    · exact ⟨_, _, by simp [*], hk⟩
    · exact hk.elim
  · exact ⟨_, _, by simp [*], hk⟩
  · exact hk.elim
def OpnDet {X : Type} (opn : OpnT X) : Prop := ∀ o vs H K, opn o vs H K → ∃ v H', opn o vs H (fun a b => a = v ∧ b = H') ∧ K v H'
def OpnMono {X : Type} (opn : OpnT X) : Prop := ∀ o vs H K K', (∀ v H, K v H → K' v H) → opn o vs H K → opn o vs H K'
theorem noOpn_det {X : Type} : OpnDet (noOpn (X := X)) := fun _ _ _ _ h => h.elim
theorem noOpn_mono {X : Type} : OpnMono (noOpn (X := X)) := fun _ _ _ _ _ _ h => h.elim
theorem oev_det (hd : CallDet call) (hk : oev P call o t H K) : ∃ v H', oev P call o t H (fun a b => a = v ∧ b = H') ∧ K v H' := by
  unfold oev at *
  obtain ⟨dst, op, type, pos, after, guard⟩ := o
  cases op <;> simp only at hk ⊢ <;> try exact scalOp_det hk
  case call c =>
    obtain ⟨callee, args, argTypes⟩ := c
    simp only at hk ⊢
    cases callee <;> (try simp only at hk ⊢)
    case value f =>
      split at hk
      · obtain ⟨v, H', h1, h2⟩ := hd _ _ _ _ hk
        exact ⟨v, H', by simp [*, -List.append_assoc], h2⟩
      · exact hk.elim
    case invoke r m => exact hk.elim
    case builtin b =>
      cases b <;> (try simp only at hk ⊢) <;> try exact scalOp_det hk
      case max =>
        split at hk <;> try exact hk.elim
        split at hk <;> try exact hk.elim
        exact ⟨_, _, by simp [*], hk⟩
      case min =>
        split at hk <;> try exact hk.elim
        split at hk <;> try exact hk.elim
        exact ⟨_, _, by simp [*], hk⟩
      split at hk
      · split at hk
        · exact ⟨_, _, by simp [*], hk⟩
        · exact hk.elim
      · split at hk
        · exact ⟨_, _, by simp [*], hk⟩
        · exact hk.elim
      · split at hk
        · exact ⟨_, _, by simp [*], hk⟩
        · exact hk.elim
      · exact scalOp_det hk
  case binOp op T x y yt =>
    split at hk
    · split at hk
      · split at hk
        · split at hk
          · exact ⟨_, _, by simp [*], hk⟩
          · exact hk.elim
        · obtain ⟨v, H', h1, h2⟩ := scalOp_det hk
          exact ⟨v, H', by simp [*], h2⟩
      · split at hk
        · split at hk
          · exact ⟨_, _, by simp [*], hk⟩
          · exact ⟨_, _, by simp [*], hk⟩
          · exact hk.elim
        · exact hk.elim
    · exact hk.elim
  case makeFunc fn fs cs =>
    cases fn <;> (try simp only at hk ⊢) <;> try exact scalOp_det hk
    split at hk
    · exact ⟨_, _, by simp [*], hk⟩
    · exact hk.elim
  all_goals
    (try simp only [forceL, forceLw_eq (forceV_eq 4), forceN_eq, spine_eq] at hk ⊢)
    (repeat' (split at hk)) <;> first | exact hk.elim | exact ⟨_, _, by simp [*], hk⟩
theorem oevT_det {tl : TellT X} {opn : OpnT X} (hd : CallDet call) (ho : OpnDet opn) (hk : oevT tl opn P call o t H K) : ∃ v H', oevT tl opn P call o t H (fun a b => a = v ∧ b = H') ∧ K v H' := by
  unfold oevT at *
  split at hk
  · rename_i hb
    split at hk
    · rename_i vs hvs
      rcases (DT.runE_iff _).1 hk with ⟨v, H', e, hk⟩ | ⟨e, hk⟩
      · refine ⟨v, H', ?_, hk⟩
        exact (DT.runE_iff _).2 (.inl ⟨v, H', e, rfl, rfl⟩)
      · split at hk
        · rename_i hs
          obtain ⟨v, H', h1, h2⟩ := oev_det hd hk
          refine ⟨v, H', ?_, h2⟩
          exact (DT.runE_iff _).2 (.inr ⟨e, by first | exact h1 | (simp only [hs]; exact h1)⟩)
        · rename_i hs
          obtain ⟨v, H', h1, h2⟩ := ho _ _ _ _ hk
          refine ⟨v, H', ?_, h2⟩
          exact (DT.runE_iff _).2 (.inr ⟨e, by first | exact h1 | (simp only [hs]; exact h1)⟩)
    · exact hk.elim
  · rename_i hb
    obtain ⟨v, H', h1, h2⟩ := oev_det hd hk
    exact ⟨v, H', by first | exact h1 | (simp only [hb]; exact h1), h2⟩
end


/-! ### Regions that draw their order -/
/-- Which numbers an operation looks at, and whether it may change them. -/
abbrev Foot := List (Nat × Bool)
def look : Foot → Nat → Option Bool
  | [], _ => none
  | (j, p) :: F, i => match Nat.beq j i with
    | true => (match p with
      | true => some true
      | false => (match look F i with | some b => some b | none => some false))
    | false => look F i
def maskE {X : Type} : Option Bool → Option (Bool × AObj X) → Option (Bool × AObj X)
  | some true, e => e
  | some false, some (_, o) => some (false, o)
  | _, _ => none
def mask {X : Type} (F : Foot) : AH X → Nat → AH X
  | [], _ => []
  | e :: H, i => maskE (look F i) e :: mask F H (i + 1)
def merge {X : Type} (F : Foot) : AH X → Nat → AH X → AH X
  | [], _, G => G
  | e :: H, _, [] => e :: H
  | e :: H, i, f :: G => (match look F i with | some true => f | _ => e) :: merge F H (i + 1) G
section
variable {X : Type} {F : Foot}
theorem mask_len (H : AH X) (i : Nat) : (mask F H i).length = H.length := by
  induction H generalizing i with
  | nil => rfl
  | cons e H ih => simp [mask, ih]
theorem mask_nth (H : AH X) (i n : Nat) : nth (mask F H i) n = if n < H.length then maskE (look F (i + n)) (nth H n) else none := by
  induction H generalizing i n with
  | nil => simp [mask, nth]
  | cons e H ih =>
    cases n with
    | zero => simp [mask, nth]
    | succ n => simp only [mask, nth, ih, List.length_cons]; rw [show i + 1 + n = i + (n + 1) from by omega]; simp
theorem merge_len (H : AH X) (i : Nat) (G : AH X) (hl : H.length ≤ G.length) : (merge F H i G).length = G.length := by
  induction H generalizing i G with
  | nil => rfl
  | cons e H ih => cases G with
    | nil => simp at hl
    | cons f G => simp at hl; simp [merge, ih _ _ hl]
theorem merge_nth (H : AH X) (i : Nat) (G : AH X) (hl : H.length ≤ G.length) (n : Nat) : nth (merge F H i G) n = if n < H.length ∧ look F (i + n) ≠ some true then nth H n else nth G n := by
  induction H generalizing i G n with
  | nil => simp [merge]
  | cons e H ih => cases G with
    | nil => simp at hl
    | cons f G =>
      simp at hl
      cases n with
      | zero =>
        simp only [merge, nth, Nat.add_zero, List.length_cons]
        cases look F i with
        | none => simp
        | some b => cases b <;> simp
      | succ n =>
        simp only [merge, nth, ih _ _ hl, List.length_cons]
        rw [show i + 1 + n = i + (n + 1) from by omega]
        simp
end
def newF (a b : Nat) : Foot := (List.range' a (b - a)).map (·, true)
def conf (F G : Foot) : Bool := F.any fun (i, p) => G.any fun (j, q) => Nat.beq i j && (p || q)
theorem look_mem {F : Foot} {i : Nat} {b : Bool} (h : look F i = some b) : ∃ p, (i, p) ∈ F ∧ (b = true → p = true) := by
  induction F with
  | nil => cases h
  | cons x F ih =>
    obtain ⟨j, p⟩ := x
    simp only [look] at h
    split at h
    · rename_i e
      have e : j = i := Nat.eq_of_beq_eq_true e
      subst e
      split at h
      · exact ⟨true, List.mem_cons_self, fun _ => rfl⟩
      · split at h
        · rename_i b' hb
          obtain rfl := Option.some.inj h
          obtain ⟨p, hp, hq⟩ := ih hb
          exact ⟨p, List.mem_cons_of_mem _ hp, hq⟩
        · obtain rfl := Option.some.inj h
          exact ⟨false, List.mem_cons_self, fun q => by cases q⟩
    · obtain ⟨p, hp, hq⟩ := ih h
      exact ⟨p, List.mem_cons_of_mem _ hp, hq⟩
theorem conf_of {F G : Foot} {i : Nat} {b c : Bool} (hF : look F i = some b) (hG : look G i = some c) (hb : b = true ∨ c = true) : conf F G = true := by
  obtain ⟨p, h1, h2⟩ := look_mem hF
  obtain ⟨q, h3, h4⟩ := look_mem hG
  refine List.any_eq_true.2 ⟨_, h1, List.any_eq_true.2 ⟨_, h3, ?_⟩⟩
  rcases hb with hb | hb
  · simp [h2 hb]
  · simp [h4 hb]
theorem look_app {F G : Foot} {i : Nat} : look (F ++ G) i = (match look F i, look G i with | some true, _ => some true | some false, some b => some b | some false, none => some false | none, x => x) := by
  induction F with
  | nil => simp [look]
  | cons x F ih =>
    obtain ⟨j, p⟩ := x
    simp only [List.cons_append, look]
    split
    · cases p
      · simp only [ih]
        cases look F i with
        | none => simp; cases look G i <;> rfl
        | some b => cases b <;> simp <;> cases look G i <;> rfl
      · rfl
    · exact ih
theorem look_new {a b i : Nat} (h : a ≤ i ∧ i < b) : look (newF a b) i = some true := by
  have key : ∀ n a, a ≤ i → i < a + n → look ((List.range' a n).map (·, true)) i = some true := by
    intro n
    induction n with
    | zero => intro a h1 h2; omega
    | succ n ih =>
      intro a h1 h2
      simp only [List.range'_succ, List.map_cons, look]
      by_cases e : a = i
      · subst e; simp
      · rw [show Nat.beq a i = false from by simpa [← Nat.beq_eq] using e]; exact ih (a + 1) (by omega) (by omega)
  exact key _ _ h.1 (by omega)
theorem look_new_out {a b i : Nat} (h : i < a) : look (newF a b) i = none := by
  have key : ∀ n a, i < a → look ((List.range' a n).map (·, true)) i = none := by
    intro n
    induction n with
    | zero => intro a _; rfl
    | succ n ih =>
      intro a h1
      simp only [List.range'_succ, List.map_cons, look]
      rw [show Nat.beq a i = false from by simpa [← Nat.beq_eq] using (by omega : a ≠ i)]; exact ih (a + 1) (by omega)
  exact key _ _ h

/-- Each two that get in each other's way stand in an order: of each operation the bits of those ahead of it. -/
def pairs {α : Type} (ov : α → α → Bool) : List (Nat × α) → Nat → List α → List Nat → Bool
  | _, _, [], _ => true
  | _, _, _ :: _, [] => false
  | prev, j, x :: l, m :: ms => (prev.all fun (i, y) => !ov y x || m.testBit i) && pairs ov ((j, x) :: prev) (j + 1) l ms
theorem pairs_spec {α : Type} {ov : α → α → Bool} : ∀ {l : List α} {prev : List (Nat × α)} {j : Nat} {ms : List Nat}, pairs ov prev j l ms = true →
    (∀ k x, l[k]? = some x → ∃ m : Nat, ms[k]? = some m ∧ (∀ i y, (i, y) ∈ prev → ov y x = true → m.testBit i = true) ∧ ∀ i y, i < k → l[i]? = some y → ov y x = true → m.testBit (j + i) = true)
  | [], _, _, _, _, k, x, h => by simp at h
  | _ :: _, _, _, [], h, _, _, _ => by simp [pairs] at h
  | x :: l, prev, j, m :: ms, h, k, x', hk => by
    simp only [pairs, Bool.and_eq_true, List.all_eq_true] at h
    obtain ⟨h1, h2⟩ := h
    have h1' : ∀ i y, (i, y) ∈ prev → ov y x = true → m.testBit i = true := fun i y hy ho => by
      have := h1 (i, y) hy
      simpa [ho] using this
    cases k with
    | zero =>
      simp at hk; subst hk
      exact ⟨m, by simp, h1', fun i y hi => by omega⟩
    | succ k =>
      simp at hk
      obtain ⟨m', q1, q2, q3⟩ := pairs_spec h2 k x' hk
      refine ⟨m', by simpa using q1, fun i y hy => q2 i y (List.mem_cons_of_mem _ hy), fun i y hi hy ho => ?_⟩
      cases i with
      | zero => simp at hy; subst hy; exact q2 j x List.mem_cons_self ho
      | succ i => simp at hy; have := q3 i y (by omega) hy ho; rwa [show j + 1 + i = j + (i + 1) from by omega] at this

end Go.Proofs.Ytdmodejpcfhbhaa
