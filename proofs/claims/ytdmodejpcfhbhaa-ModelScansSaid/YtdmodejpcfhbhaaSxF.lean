/- Regions that draw their order: one more operation is done. No program is named here. -/
import Derived.Test.YtdmodejpcfhbhaaSxE
namespace Go.Proofs.Ytdmodejpcfhbhaa
open Go.RowKit

/-! ### What an operation doesn't look at may be forgotten -/
def keepG (p : Nat → Bool) (g : Gt) : Gt := fun d => if p d = true then g d else none
theorem aev_congr {t t' : Gt} {x : Operand} (h : ∀ d, x = .tmp d → t' d = t d) : aev t' x = aev t x := by
  cases x with
  | tmp d => exact h d rfl
  | _ => rfl
theorem aevs_congr {t t' : Gt} : ∀ {l : List Operand}, (∀ x ∈ l, ∀ d, x = .tmp d → t' d = t d) → aevs t' l = aevs t l
  | [], _ => rfl
  | x :: l, h => by
    simp only [aevs]
    rw [aev_congr (h x List.mem_cons_self), aevs_congr fun y hy => h y (List.mem_cons_of_mem _ hy)]
theorem partsA_congr {t t' : Gt} : ∀ {l : List (Nat × Operand)}, (∀ x ∈ l.map (·.2), ∀ d, x = .tmp d → t' d = t d) → partsA t' l = partsA t l
  | [], _ => rfl
  | (i, x) :: l, h => by
    simp only [partsA]
    rw [aev_congr (h x (by simp)), partsA_congr fun y hy => h y (by simp at hy ⊢; exact .inr hy)]
section
variable {X : Type} {P : Program} {call : CallT X} {H : AH X} {t t' : Gt} {o : Oper} {K : Value → AH X → Prop}
theorem scalOp_congr (h : ∀ x ∈ o.op.operands.toList, ∀ d, x = .tmp d → t' d = t d) (hk : scalOp P o t H K) : scalOp P o t' H K := by
  unfold scalOp at *
  split at hk
  · exact hk
  · rename_i hsel
    have e : allScal t' (opndsL o.op) = allScal t (opndsL o.op) := by unfold allScal; rw [aevs_congr (by rw [opndsL_eq]; exact h)]
    have e2 : execOp (fun x => (aev t' x).getD undef) o = execOp (fun x => (aev t x).getD undef) o := execOp_congr o hsel fun x hx => by rw [aev_congr (h x (by simpa using hx))]
    rw [e, e2]
    exact hk
theorem oev_congr (h : ∀ x ∈ o.op.operands.toList, ∀ d, x = .tmp d → t' d = t d) (hk : oev P call o t H K) : oev P call o t' H K := by
  have e := fun x hx => aev_congr (h x hx)
  have es := fun (l : List Operand) (hl : ∀ x ∈ l, x ∈ o.op.operands.toList) => aevs_congr (t := t) (t' := t') (l := l) fun x hx => h x (hl x hx)
  have hsc := fun hk => scalOp_congr (P := P) (H := H) (K := K) h hk
  obtain ⟨dst, op, type, pos, after, guard⟩ := o
  unfold oev at *
  cases op <;> simp only [Op.operands] at h e es ⊢ <;> simp only at hk hsc <;> try exact hsc hk
  case call c =>
    obtain ⟨callee, args, argTypes⟩ := c
    simp only [Call.operands] at h e es ⊢
    cases callee <;> (try simp only at hk hsc ⊢) <;> (try simp only at e es)
    case value f =>
      rw [e f (by simp), es args.toList (fun x hx => by simp at hx ⊢; exact .inr hx)]
      exact hk
    case invoke r m => exact hk
    case builtin b =>
      cases b <;> (try simp only at hk hsc ⊢) <;> try exact hsc hk
      case max => rw [es args.toList (fun x hx => by simpa using hx)]; exact hk
      case min => rw [es args.toList (fun x hx => by simpa using hx)]; exact hk
      rw [es args.toList (fun x hx => by simpa using hx)]
      split at hk
      · exact hk
      · exact hk
      · exact hk
      · exact hsc hk
  case binOp op T x y yt =>
    rw [e x (by simp), e y (by simp)]
    split at hk
    · split at hk
      · split at hk
        · exact hk
        · exact hsc hk
      · exact hk
    · exact hk
  case makeFunc fn fs cs =>
    cases fn <;> (try simp only at hk hsc ⊢) <;> try exact hsc hk
    rw [es fs.toList (fun x hx => by simp at hx ⊢; exact .inl hx), es cs.toList (fun x hx => by simp at hx ⊢; exact .inr hx)]
    exact hk
  case build T parts =>
    rw [partsA_congr fun x hx => h x (by simpa using hx)]
    exact hk
  case alloc T => exact hk
  case move x => rw [e x (by simp)]; exact hk
  case assign x => rw [e x (by simp)]; exact hk
  case pick c x y => rw [e c (by simp), e x (by simp), e y (by simp)]; exact hk
  case nilCheck x => rw [e x (by simp)]; exact hk
  case fieldAddr T x f => rw [e x (by simp)]; exact hk
  case indexAddr T x y => rw [e x (by simp), e y (by simp)]; exact hk
  case box T x => rw [e x (by simp)]; exact hk
  case load T x => rw [e x (by simp)]; exact hk
  case store T x y => rw [e x (by simp), e y (by simp)]; exact hk
  case makeInterface T x => rw [e x (by simp)]; exact hk
  case field T x f => rw [e x (by simp)]; exact hk
  case extract x i => rw [e x (by simp)]; exact hk
theorem hookB_congr (h : ∀ x ∈ o.op.operands.toList, ∀ d, x = .tmp d → t' d = t d) : hookB o t' H = hookB o t H := by
  obtain ⟨dst, op, type, pos, after, guard⟩ := o
  cases op <;> try rfl
  · simp only [Op.operands] at h
    unfold hookB
    simp only
    rw [aev_congr (h _ (by simp))]
  · simp only [Op.operands] at h
    unfold hookB
    simp only
    rw [aev_congr (h _ (by simp))]
theorem oevT_congr {tl : TellT X} {opn : OpnT X} (h : ∀ x ∈ o.op.operands.toList, ∀ d, x = .tmp d → t' d = t d) (hk : oevT tl opn P call o t H K) : oevT tl opn P call o t' H K := by
  unfold oevT at *
  rw [hookB_congr h, show aevs t' (opndsL o.op) = aevs t (opndsL o.op) from aevs_congr (by rw [opndsL_eq]; exact h), show allScal t' (opndsL o.op) = allScal t (opndsL o.op) from by unfold allScal; rw [aevs_congr (by rw [opndsL_eq]; exact h)]]
  split at hk
  · rename_i hb
    split at hk
    · rename_i vs hvs
      rcases (DT.runE_iff _).1 hk with ⟨v, H', e, hk⟩ | ⟨e, hk⟩
      · exact (DT.runE_iff _).2 (.inl ⟨v, H', e, hk⟩)
      · refine (DT.runE_iff _).2 (.inr ⟨e, ?_⟩)
        split at hk
        · exact oev_congr h hk
        · exact hk
    · exact hk.elim
  · exact oev_congr h hk
end

/-! ### What holds when some have been done -/
section
variable {X : Type} (I : Means X) (ops : List Oper) (T : Nat → Sl) (M : Nat → AH X) (wn : Nat → Bool) (F : Nat → Foot) (w0 : World) (L0 : Nat → Prop) (ρ0 : Ren) (h0 : GH)
def WH (k c : Nat) : Bool := look (footAll M wn F k) c == some true
def WT (k d : Nat) : Bool := (ops[k]?).bind (·.dst) == some d
def Lv (S : Nat → Bool) (x : Nat) : Prop := L0 x ∨ ∃ k, k < ops.length ∧ S k = true ∧ (M k).length ≤ x ∧ x < (M (k + 1)).length
def vH (S : Nat → Bool) (c : Nat) : Nat := ver S (WH M wn F) ops.length c
def vT (S : Nat → Bool) (d : Nat) : Nat := ver S (WT ops) ops.length d

structure Core (S : Nat → Bool) (ρ : Ren) (h : GH) (a : Act) (w : World) : Prop where
  mem : Mem w0 h w
  hp : ∀ i p o, nth (M (vH ops M wn F S i)) i = some (p, o) → OSat I (fun x => x < (M (vH ops M wn F S i)).length ∧ Lv ops M L0 S x) ρ i h o ∧ Lv ops M L0 S i
  ap : ∀ i j p o q u, nth (M (vH ops M wn F S i)) i = some (p, o) → nth (M (vH ops M wn F S j)) j = some (q, u) → i ≠ j → ∀ x, x ∈ ρ.blocks i → x ∉ ρ.blocks j
  ts : (T 0).n = a.tmps.size
  tm : ∀ d v, gs (T (vT ops S d)) d = some v → ∃ v', a.tmps[d]? = some v' ∧ VR (fun x => x < (M (vT ops S d)).length ∧ Lv ops M L0 S x) ρ.b v v'
  df : a.defers = []
  b1 : ∀ i, i < (M 0).length → ρ.b i = ρ0.b i
  b2 : ∀ i p o', i < (M 0).length → nth (M (vH ops M wn F S i)) i = some (p, o') → ∃ o, nth (M 0) i = some (p, o)
  b3 : ∀ i, i < (M 0).length → (∀ o, nth (M 0) i ≠ some (true, o)) → ρ.e i = ρ0.e i
  b4 : ∀ i p o, nth (M (vH ops M wn F S i)) i = some (p, o) → ∀ x, x ∈ ρ.blocks i → (∃ j q u, nth (M 0) j = some (q, u) ∧ x ∈ ρ0.blocks j ∧ (q = true ∨ j = i)) ∨ h0 x = none
  b5 : ∀ x o, h0 x = some o → (∀ i u, nth (M 0) i = some (true, u) → x ∉ ρ0.blocks i) → h x = some o
  b6 : ∀ x o, h0 x = some o → ∃ o', h x = some o'
end

section
variable {X : Type} {tl : TellT X} {P : Program} {I : Means X} {call : CallT X} {ops : List Oper} {T : Nat → Sl} {M : Nat → AH X} {wn : Nat → Bool} {F : Nat → Foot} {R : Nat → Value} {G : Nat → AH X} {w0 : World} {L0 : Nat → Prop} {ρ0 : Ren} {h0 : GH}

theorem Tra.mono (tr : Tra tl P call ops ops T M wn F R G) {k : Nat} (hk : k < ops.length) : (M k).length ≤ (M (k + 1)).length := by
  obtain ⟨_, h1, h2⟩ := tr.step k ops[k] (by simp)
  cases q : wn k with
  | false => rw [(h1 q).2.2]; exact Nat.le_refl _
  | true => obtain ⟨_, _, h3, h4⟩ := h2 q; rw [h4, merge_len _ _ _ h3]; exact h3
theorem Tra.monos (tr : Tra tl P call ops ops T M wn F R G) {j k : Nat} (hjk : j ≤ k) (hk : k ≤ ops.length) : (M j).length ≤ (M k).length := by
  obtain ⟨i, rfl⟩ : ∃ i, k = j + i := ⟨k - j, by omega⟩
  induction i with
  | zero => exact Nat.le_refl _
  | succ i ih => exact Nat.le_trans (ih (by omega) (by omega)) (tr.mono (k := j + i) (by omega))
theorem Tra.keepH (tr : Tra tl P call ops ops T M wn F R G) {k c : Nat} (hk : k < ops.length) (hc : WH M wn F k c = false) : nth (M (k + 1)) c = nth (M k) c := by
  obtain ⟨_, h1, h2⟩ := tr.step k ops[k] (by simp)
  cases q : wn k with
  | false => rw [(h1 q).2.2]
  | true =>
    obtain ⟨_, _, h3, h4⟩ := h2 q
    have hlen : (M (k + 1)).length = (G k).length := by rw [h4, merge_len _ _ _ h3]
    have hl : look (footAll M wn F k) c ≠ some true := by simpa [WH] using hc
    unfold footAll at hl
    simp only [q, look_app] at hl
    by_cases q1 : c < (M k).length
    · rw [h4, merge_nth _ _ _ h3, Nat.zero_add, if_pos ⟨q1, fun e => by rw [e] at hl; exact hl rfl⟩]
    · have hn : ¬ (c < (M (k + 1)).length) := fun q2 => by
        have e := look_new (a := (M k).length) (b := (M (k + 1)).length) (i := c) ⟨by omega, q2⟩
        rw [e] at hl
        cases hx : look (F k) c with
        | none => rw [hx] at hl; exact hl rfl
        | some b => rw [hx] at hl; cases b <;> exact hl rfl
      rw [nth_none (by omega), nth_none (by omega)]
theorem Tra.lenT (tr : Tra tl P call ops ops T M wn F R G) {k : Nat} (hk : k ≤ ops.length) : (T k).n = (T 0).n := by
  induction k with
  | zero => rfl
  | succ k ih =>
    obtain ⟨h1, _, _⟩ := tr.step k ops[k] (by simp)
    rw [h1, ← ih (by omega)]
    unfold putd
    split
    · rfl
    · rfl
theorem Tra.keepT (tr : Tra tl P call ops ops T M wn F R G) {k d : Nat} (hk : k < ops.length) (hc : WT ops k d = false) : gs (T (k + 1)) d = gs (T k) d := by
  obtain ⟨h1, _, _⟩ := tr.step k ops[k] (by simp)
  rw [h1]
  unfold WT at hc
  rw [show ops[k]? = some ops[k] from by simp] at hc
  simp only [Option.bind_some] at hc
  unfold putd
  split
  · rename_i e he
    rw [he] at hc
    rw [gs_ps, if_neg (fun q => by simp [q.1] at hc)]
  · rfl

theorem live_out (tr : Tra tl P call ops ops T M wn F R G) (hL0 : ∀ x, L0 x → x < (M 0).length) {S : Nat → Bool} {j x : Nat} (hj : j < ops.length) (hS : S j = false) (hx : Lv ops M L0 S x) : x < (M j).length ∨ (M (j + 1)).length ≤ x := by
  rcases hx with hx | ⟨k, hk, hSk, h1, h2⟩
  · left; have := hL0 x hx; have := tr.monos (Nat.zero_le j) (by omega); omega
  · rcases Nat.lt_trichotomy k j with q | q | q
    · left; have := tr.monos (show k + 1 ≤ j from q) (by omega); omega
    · subst q; rw [hS] at hSk; cases hSk
    · right; have := tr.monos (show j + 1 ≤ k from q) (by omega); omega

/-- One more is done. -/
theorem Core.step (hc : CallSound P I call) (htl : TellSound P I tl) (horg : I.org w0) (tr : Tra tl P call ops ops T M wn F R G) (hL0 : ∀ x, L0 x → x < (M 0).length) {S S' : Nat → Bool} {j : Nat} {o : Oper} (ho : ops[j]? = some o) (hSj : S j = false) (hS' : ∀ k, S' k = (if k = j then true else S k))
    (agH : ∀ c, look (footAll M wn F j) c ≠ none → vH ops M wn F S c = ver allB (WH M wn F) j c) (agT : ∀ d, d ∈ o.looksAt ops.toArray → vT ops S d = ver allB (WT ops) j d)
    (lastH : ∀ c, WH M wn F j c = true → ∀ k, j < k → k < ops.length → S k = true → WH M wn F k c = false) (lastT : ∀ d, WT ops j d = true → ∀ k, j < k → k < ops.length → S k = true → WT ops k d = false)
    {ρ : Ren} {h : GH} {a : Act} {w : World} (co : Core I ops T M wn F w0 L0 ρ0 h0 S ρ h a w) {K : Act → World → Prop} {Q : Exit → Act → World → Prop}
    (hK : ∀ ρ' h' a' w', Core I ops T M wn F w0 L0 ρ0 h0 S' ρ' h' a' w' → K a' w') :
    if Region.wanted o (yielded ops.toArray a.tmps) then o.wp P a w K Q else K (a.put o.dst undef) w := by
  have hj : j < ops.length := (List.getElem?_eq_some_iff.1 ho).1
  obtain ⟨hT1, hno, hyes⟩ := tr.step j o ho
  have hlkT : ∀ d v, d ∈ o.looksAt ops.toArray → gs (T j) d = some v → ∃ v', a.tmps[d]? = some v' ∧ VR (fun x => x < (M j).length ∧ Lv ops M L0 S x) ρ.b v v' := by
    intro d v hd hv
    have e : gs (T j) d = gs (T (ver allB (WT ops) j d)) d := ver_canon (W := WT ops) (c := d) (n := j) (f := fun k => gs (T k)) (fun k hk hw => tr.keepT (by omega) hw)
    rw [e, ← agT d hd] at hv
    obtain ⟨v', h1, h2⟩ := co.tm d v hv
    refine ⟨v', h1, h2.mono fun x hx => ⟨⟨Nat.lt_of_lt_of_le hx.1 ?_, hx.2⟩, rfl⟩⟩
    rw [agT d hd]
    exact tr.monos (ver_le j) (by omega)
  have hguard : ∀ g w' d, o.guard = some (g, w') → (ops[g]?).bind (·.dst) = some d → ∀ v, gs (T j) d = some v → ∃ v', a.tmps[d]? = some v' ∧ VR (fun x => x < (M j).length ∧ Lv ops M L0 S x) ρ.b v v' := by
    intro g w' d hg hd v hv
    refine hlkT d v ?_ hv
    unfold Oper.looksAt
    rw [hg]
    simp only [List.mem_append]
    right
    have : (ops.toArray[g]?).bind (·.dst) = some d := by simpa using hd
    rw [this]; simp
  have hvT : ∀ d, vT ops S' d = if WT ops j d = true then j + 1 else vT ops S d := by
    intro d
    by_cases q : WT ops j d = true
    · rw [if_pos q]
      exact ver_new hj (by rw [hS', if_pos rfl]) q fun k h1 h2 h3 => lastT d q k h1 h2 (by rw [hS', if_neg (by omega)] at h3; exact h3)
    · rw [if_neg q]
      exact ver_same fun k hk hw => by rw [hS', if_neg (fun e => by subst e; exact q hw)]
  have hvH : ∀ c, vH ops M wn F S' c = if WH M wn F j c = true then j + 1 else vH ops M wn F S c := by
    intro d
    by_cases q : WH M wn F j d = true
    · rw [if_pos q]
      exact ver_new hj (by rw [hS', if_pos rfl]) q fun k h1 h2 h3 => lastH d q k h1 h2 (by rw [hS', if_neg (by omega)] at h3; exact h3)
    · rw [if_neg q]
      exact ver_same fun k hk hw => by rw [hS', if_neg (fun e => by subst e; exact q hw)]
  have hLv : ∀ x, Lv ops M L0 S x → Lv ops M L0 S' x := by
    rintro x (hx | ⟨k, h1, h2, h3⟩)
    · exact .inl hx
    · exact .inr ⟨k, h1, by rw [hS']; split <;> first | rfl | exact h2, h3⟩
  have hLn : ∀ x, (M j).length ≤ x → x < (M (j + 1)).length → Lv ops M L0 S' x := fun x h1 h2 => .inr ⟨j, hj, by rw [hS', if_pos rfl], h1, h2⟩
  have hm0 := tr.monos (Nat.zero_le j) (by omega)
  have hWTd : ∀ d, WT ops j d = true ↔ o.dst = some d := fun d => by unfold WT; rw [ho]; simp
  cases hwn : wn j with
  | false =>
    obtain ⟨g1, g2, g3⟩ := hno hwn
    rw [if_neg (by rw [wantd_real g1 hguard]; simp)]
    have hWHf : ∀ c, WH M wn F j c = false := fun c => by unfold WH footAll; rw [hwn]; rfl
    have hvH' : ∀ c, vH ops M wn F S' c = vH ops M wn F S c := fun c => by rw [hvH, if_neg (by rw [hWHf]; simp)]
    refine hK ρ h _ w ⟨co.mem, fun i p u e => ?_, fun i k p u q v e1 e2 => ?_, ?_, fun d v e => ?_, by rw [put_defers]; exact co.df, co.b1, fun i p u hi e => ?_, co.b3, fun i p u e => ?_, co.b5, co.b6⟩
    · rw [hvH'] at e
      obtain ⟨h1, h2⟩ := co.hp i p u e
      rw [hvH']
      exact ⟨h1.mono (fun x hx => ⟨⟨hx.1, hLv x hx.2⟩, rfl⟩) rfl rfl fun _ _ => rfl, hLv _ h2⟩
    · rw [hvH'] at e1 e2; exact co.ap i k p u q v e1 e2
    · rw [co.ts]; cases o.dst <;> simp [Act.put]
    · rw [hvT] at e ⊢
      by_cases q : WT ops j d = true
      · rw [if_pos q] at e ⊢
        have hd := (hWTd d).1 q
        rw [hT1, hd] at e
        simp only [putd, gs_ps] at e
        have hl : d < (T j).n := by
          by_cases r : d < (T j).n
          · exact r
          · rw [if_neg (fun z => r z.2)] at e; exact gs_lt e
        rw [if_pos ⟨trivial, hl⟩, g2] at e
        obtain rfl := Option.some.inj e
        refine ⟨undef, ?_, .plain rfl⟩
        rw [hd]
        rw [tr.lenT (by omega), co.ts] at hl
        simp [Act.put, hl]
      · rw [if_neg q] at e ⊢
        obtain ⟨v', h1, h2⟩ := co.tm d v e
        refine ⟨v', ?_, h2.mono fun x hx => ⟨⟨hx.1, hLv x hx.2⟩, rfl⟩⟩
        cases hd : o.dst with
        | none => exact h1
        | some d' =>
          have hne : d' ≠ d := fun z => q ((hWTd d).2 (by rw [hd, z]))
          simpa [Act.put, Array.getElem?_setIfInBounds_ne hne] using h1
    · rw [hvH'] at e; exact co.b2 i p u hi e
    · rw [hvH'] at e; exact co.b4 i p u e
  | true =>
    obtain ⟨g1, g2, g3, g4⟩ := hyes hwn
    rw [if_pos (wantd_real g1 hguard)]
    have hlen : (M (j + 1)).length = (G j).length := by rw [g4, merge_len _ _ _ g3]
    have hmono : (M j).length ≤ (M (j + 1)).length := tr.mono hj
    have hFA : ∀ c, look (footAll M wn F j) c = (match look (F j) c, look (newF (M j).length (M (j + 1)).length) c with | some true, _ => some true | some false, some b => some b | some false, none => some false | none, x => x) := fun c => by
      unfold footAll; rw [hwn]; simp only [look_app]; rfl
    have hWHt : ∀ c, WH M wn F j c = true → look (F j) c = some true ∨ ((M j).length ≤ c ∧ c < (M (j + 1)).length) := by
      intro c hw
      have e : look (footAll M wn F j) c = some true := by simpa [WH] using hw
      rw [hFA] at e
      by_cases q : (M j).length ≤ c
      · by_cases r : c < (M (j + 1)).length
        · exact .inr ⟨q, r⟩
        · have : look (newF (M j).length (M (j + 1)).length) c = none := by
            have key : ∀ n s, s + n ≤ c → look ((List.range' s n).map (·, true)) c = none := by
              intro n
              induction n with
              | zero => intro s _; rfl
              | succ n ih =>
                intro s h1
                simp only [List.range'_succ, List.map_cons, look]
                rw [show Nat.beq s c = false from by simpa [← Nat.beq_eq] using (by omega : s ≠ c)]; exact ih (s + 1) (by omega)
            exact key _ _ (by omega)
          rw [this] at e
          cases hx : look (F j) c with
          | none => rw [hx] at e; cases e
          | some b => rw [hx] at e; cases b <;> first | exact .inl rfl | cases e
      · rw [look_new_out (by omega)] at e
        cases hx : look (F j) c with
        | none => rw [hx] at e; cases e
        | some b => rw [hx] at e; cases b <;> first | exact .inl rfl | cases e
    have hWHi : ∀ c, look (F j) c = some true → WH M wn F j c = true := fun c e => by unfold WH; rw [hFA, e]; rfl
    have hWHn : ∀ c, (M j).length ≤ c → c < (M (j + 1)).length → WH M wn F j c = true := fun c h1 h2 => by
      unfold WH; rw [hFA, look_new ⟨h1, h2⟩]
      cases look (F j) c with
      | none => rfl
      | some b => cases b <;> rfl
    have hWHl : ∀ c p u, WH M wn F j c = true → nth (M (j + 1)) c = some (p, u) → nth (G j) c = some (p, u) := fun c p u hw e => by
      rw [g4, merge_nth _ _ _ g3, Nat.zero_add] at e
      rcases hWHt c hw with q | q
      · rw [if_neg (fun z => z.2 q)] at e; exact e
      · rw [if_neg (fun z => by omega)] at e; exact e
    -- an entry of the mask stands in memory as it is
    have hmask : ∀ c p u, nth (mask (F j) (M j) 0) c = some (p, u) → c < (M j).length ∧ ∃ b p0, look (F j) c = some b ∧ (b = true → p = p0) ∧ (b = false → p = false) ∧ nth (M (vH ops M wn F S c)) c = some (p0, u) := by
      intro c p u e
      rw [mask_nth, Nat.zero_add] at e
      by_cases q : c < (M j).length
      · rw [if_pos q] at e
        have hag : look (F j) c ≠ none → nth (M (vH ops M wn F S c)) c = nth (M j) c := fun hne => by
          have ec : nth (M j) c = nth (M (ver allB (WH M wn F) j c)) c := ver_canon (W := WH M wn F) (c := c) (n := j) (f := fun k c => nth (M k) c) (fun k hk hw => tr.keepH (by omega) hw)
          rw [ec, agH c]
          rw [hFA]
          cases hx : look (F j) c with
          | none => exact absurd hx hne
          | some b => cases b <;> simp <;> (cases look (newF (M j).length (M (j + 1)).length) c <;> simp)
        cases hx : look (F j) c with
        | none => rw [hx] at e; cases hy : nth (M j) c <;> rw [hy] at e <;> cases e
        | some b =>
          rw [hx] at e
          have hag := hag (by rw [hx]; simp)
          cases b with
          | true =>
            have e : nth (M j) c = some (p, u) := e
            exact ⟨q, true, p, rfl, fun _ => rfl, fun z => (by cases z), by rw [hag]; exact e⟩
          | false =>
            cases hy : nth (M j) c with
            | none => rw [hy] at e; cases e
            | some pu =>
              obtain ⟨p0, u0⟩ := pu
              rw [hy] at e
              have e : some (false, u0) = some (p, u) := e
              cases e
              exact ⟨q, false, p0, rfl, fun z => (by cases z), fun _ => rfl, by rw [hag]; exact hy⟩
      · rw [if_neg q] at e; cases e
    have hnow : Now I w0 (fun x => x < (M j).length ∧ Lv ops M L0 S x) ρ (mask (F j) (M j) 0) h w := by
      refine ⟨co.mem, ⟨fun i p u e => ?_, fun i p u e => ?_, fun i k p u q v e1 e2 => ?_⟩, fun x hx => by rw [mask_len]; exact hx.1, horg⟩
      · obtain ⟨q, b, p0, hb, _, _, e'⟩ := hmask i p u e
        refine (co.hp i p0 u e').1.mono (fun x hx => ⟨⟨Nat.lt_of_lt_of_le hx.1 ?_, hx.2⟩, rfl⟩) rfl rfl fun _ _ => rfl
        rw [agH i (by rw [hFA, hb]; cases b <;> simp <;> (cases look (newF (M j).length (M (j + 1)).length) i <;> simp))]
        exact tr.monos (ver_le j) (by omega)
      · obtain ⟨q, b, p0, hb, _, _, e'⟩ := hmask i p u e
        exact ⟨q, (co.hp i p0 u e').2⟩
      · obtain ⟨_, _, _, _, _, _, e1'⟩ := hmask i p u e1
        obtain ⟨_, _, _, _, _, _, e2'⟩ := hmask k q v e2
        exact co.ap i k _ u _ v e1' e2'
    have htr : TR (fun x => x < (M j).length ∧ Lv ops M L0 S x) ρ.b (keepG (fun d => (o.looksAt ops.toArray).contains d) (gs (T j))) a.tmps := by
      intro d v e
      unfold keepG at e
      split at e
      · rename_i hq; exact hlkT d v (by simpa using hq) e
      · cases e
    have hoev : oevT tl noOpn P call o (keepG (fun d => (o.looksAt ops.toArray).contains d) (gs (T j))) (mask (F j) (M j) 0) (fun a b => a = R j ∧ b = G j) := by
      refine oevT_congr (fun x hx d hxd => ?_) g2
      unfold keepG
      rw [if_pos]
      simp only [List.contains_iff_mem]
      unfold Oper.looksAt
      subst hxd
      exact List.mem_append_left _ (List.mem_filterMap.2 ⟨.tmp d, hx, rfl⟩)
    refine oevT_sound hc htl noOpn_sound hoev hnow htr ?_
    rintro v v' H' ρ' h' w' ⟨rfl, rfl⟩ hn' hT hv
    rw [mask_len] at hn' hv
    have hTle := hT.le
    have hTb := hT.base
    have hTp := hT.perm
    have hTk := hT.keep
    have hTf := hT.fresh
    rw [mask_len] at hTle hTb hTp hTk
    let ρn : Ren := ⟨fun i => if i < (M (j + 1)).length then ρ'.b i else ρ.b i, fun i => if i < (M (j + 1)).length then ρ'.e i else ρ.e i⟩
    have nb : ∀ i, i < (M (j + 1)).length → ρn.b i = ρ'.b i := fun i hi => if_pos hi
    have ne : ∀ i, i < (M (j + 1)).length → ρn.e i = ρ'.e i := fun i hi => if_pos hi
    have nbl : ∀ i, i < (M (j + 1)).length → ρn.blocks i = ρ'.blocks i := fun i hi => by unfold Ren.blocks; rw [ne i hi]
    have ob : ∀ i, (i < (M j).length ∨ (M (j + 1)).length ≤ i) → ρn.b i = ρ.b i := fun i hi => by
      rcases hi with hi | hi
      · rw [nb i (by omega)]; exact hTb i hi
      · exact if_neg (by omega)
    have oe : ∀ i, WH M wn F j i = false → (i < (M j).length ∨ (M (j + 1)).length ≤ i) → ρn.e i = ρ.e i := fun i hw hi => by
      rcases hi with hi | hi
      · rw [ne i (by omega)]
        refine hTk i hi fun u e => ?_
        obtain ⟨_, b, p0, hb, _, hb2, _⟩ := hmask i true u e
        cases b with
        | true => rw [hWHi i hb] at hw; cases hw
        | false => cases hb2 rfl
      · exact if_neg (by omega)
    have hout : ∀ i, WH M wn F j i = false → (i < (M j).length ∨ (M (j + 1)).length ≤ i) := fun i hw => by
      by_cases q : i < (M j).length
      · exact .inl q
      · by_cases r : i < (M (j + 1)).length
        · rw [hWHn i (by omega) r] at hw; cases hw
        · exact .inr (by omega)
    have obl : ∀ i, WH M wn F j i = false → ρn.blocks i = ρ.blocks i := fun i hw => by unfold Ren.blocks; rw [oe i hw (hout i hw)]
    have hLx : ∀ x, LU (fun x => x < (M j).length ∧ Lv ops M L0 S x) (M j).length (G j).length x → (x < (M (j + 1)).length ∧ Lv ops M L0 S' x) ∧ ρn.b x = ρ'.b x := fun x hx => by
      rcases hx with ⟨h1, h2⟩ | ⟨h1, h2⟩
      · exact ⟨⟨by omega, hLv x h2⟩, nb x (by omega)⟩
      · exact ⟨⟨by omega, hLn x h1 (by omega)⟩, nb x (by omega)⟩
    have hLo : ∀ (m : Nat) x, (x < m ∧ Lv ops M L0 S x) → (x < m ∧ Lv ops M L0 S' x) ∧ ρn.b x = ρ.b x := fun m x hx => ⟨⟨hx.1, hLv x hx.2⟩, ob x (live_out tr hL0 hj hSj hx.2)⟩
    have hWl : ∀ i p u, WH M wn F j i = true → nth (M (j + 1)) i = some (p, u) → i < (M (j + 1)).length := fun i p u _ e => nth_lt e
    -- what of the changed ones was there
    have hwas : ∀ i p u, WH M wn F j i = true → nth (G j) i = some (p, u) → i < (M j).length → look (F j) i = some true ∧ ∃ u0, nth (M (vH ops M wn F S i)) i = some (p, u0) := by
      intro i p u hw e hi
      obtain ⟨u0, e0⟩ := hTp i p u hi e
      obtain ⟨_, b, p0, hb, b1, b2, e'⟩ := hmask i p u0 e0
      rcases hWHt i hw with q | q
      · rw [q] at hb; cases hb
        exact ⟨q, u0, by rw [b1 rfl]; exact e'⟩
      · omega
    -- whence blocks of the changed ones come
    have hsrc : ∀ i p u, WH M wn F j i = true → nth (G j) i = some (p, u) → ∀ x, x ∈ ρ'.blocks i → (∃ i' p0 u', nth (M (vH ops M wn F S i')) i' = some (p0, u') ∧ WH M wn F j i' = true ∧ x ∈ ρ.blocks i' ∧ (p0 = true ∨ i' = i)) ∨ h x = none := by
      intro i p u hw e x hx
      rcases hTf i p u e x hx with ⟨i', q', u', f1, f2, f3⟩ | f2
      · left
        obtain ⟨hlt', b, p0, hb, b1, b2, e'⟩ := hmask i' q' u' f1
        rcases f3 with rfl | rfl
        · cases b with
          | false => cases b2 rfl
          | true => exact ⟨i', p0, u', e', hWHi i' hb, f2, .inl (b1 rfl).symm⟩
        · exact ⟨i', p0, u', e', hw, f2, .inr rfl⟩
      · exact .inr f2
    refine hK ρn h' _ w' ⟨hn'.mem, fun i p u e => ?_, fun i k p u q v2 e1 e2 hik x hx => ?_, ?_, fun d v2 e => ?_, by rw [put_defers]; exact co.df, fun i hi => ?_, fun i p u hi e => ?_, fun i hi hr => ?_, fun i p u e x hx => ?_, fun x u e hx => ?_, fun x u e => ?_⟩
    · rw [hvH] at e ⊢
      by_cases q : WH M wn F j i = true
      · rw [if_pos q] at e ⊢
        have hi := hWl i p u q e
        have e' := hWHl i p u q e
        refine ⟨(hn'.sat.obj i p u e').mono hLx (nb i hi) (ne i hi) fun _ _ => rfl, (hLx i (hn'.sat.live i p u e')).1.2⟩
      · rw [if_neg q] at e ⊢
        have qf : WH M wn F j i = false := by simpa using q
        obtain ⟨h1, h2⟩ := co.hp i p u e
        refine ⟨h1.mono (hLo _) (ob i (hout i qf)) (oe i qf (hout i qf)) fun k hk => ?_, hLv i h2⟩
        obtain ⟨z, hz⟩ := h1.here k hk
        rw [hz]
        refine hT.frame k z hz fun i' u' e' hk' => ?_
        obtain ⟨_, b, p0, hb, b1, b2, e''⟩ := hmask i' true u' e'
        cases b with
        | false => cases b2 rfl
        | true =>
          have hne : i ≠ i' := fun z => q (by rw [z]; exact hWHi i' hb)
          exact co.ap i i' p u p0 u' e e'' hne k hk hk'
    · rw [hvH] at e1 e2
      by_cases q1 : WH M wn F j i = true <;> by_cases q2 : WH M wn F j k = true
      · rw [if_pos q1] at e1; rw [if_pos q2] at e2
        rw [nbl i (hWl i p u q1 e1)] at hx
        rw [nbl k (hWl k q v2 q2 e2)]
        exact hn'.sat.apart i k p u q v2 (hWHl i p u q1 e1) (hWHl k q v2 q2 e2) hik x hx
      · rw [if_pos q1] at e1; rw [if_neg q2] at e2
        rw [nbl i (hWl i p u q1 e1)] at hx
        rw [obl k (by simpa using q2)]
        have e1' := hWHl i p u q1 e1
        intro hx2
        rcases hsrc i p u q1 e1' x hx with ⟨i', p0, u', e0, fw, f2, _⟩ | f2
        · exact co.ap i' k p0 u' q v2 e0 e2 (fun z => q2 (z ▸ fw)) x f2 hx2
        · obtain ⟨z, hz⟩ := (co.hp k q v2 e2).1.here x hx2
          rw [hz] at f2; cases f2
      · rw [if_neg q1] at e1; rw [if_pos q2] at e2
        rw [obl i (by simpa using q1)] at hx
        rw [nbl k (hWl k q v2 q2 e2)]
        have e2' := hWHl k q v2 q2 e2
        intro hx2
        rcases hsrc k q v2 q2 e2' x hx2 with ⟨i', p0, u', e0, fw, f2, _⟩ | f2
        · exact co.ap i i' p u p0 u' e1 e0 (fun z => q1 (z ▸ fw)) x hx f2
        · obtain ⟨z, hz⟩ := (co.hp i p u e1).1.here x hx
          rw [hz] at f2; cases f2
      · rw [if_neg q1] at e1; rw [if_neg q2] at e2
        rw [obl i (by simpa using q1)] at hx
        rw [obl k (by simpa using q2)]
        exact co.ap i k p u q v2 e1 e2 hik x hx
    · rw [co.ts]; cases o.dst <;> simp [Act.put]
    · rw [hvT] at e ⊢
      by_cases q : WT ops j d = true
      · rw [if_pos q] at e ⊢
        have hd := (hWTd d).1 q
        rw [hT1, hd] at e
        simp only [putd, gs_ps] at e
        have hl : d < (T j).n := by
          by_cases r : d < (T j).n
          · exact r
          · rw [if_neg (fun z => r z.2)] at e; exact gs_lt e
        rw [if_pos ⟨trivial, hl⟩] at e
        obtain rfl := Option.some.inj e
        refine ⟨v', ?_, hv.mono hLx⟩
        rw [hd]
        rw [tr.lenT (by omega), co.ts] at hl
        simp [Act.put, hl]
      · rw [if_neg q] at e ⊢
        obtain ⟨u', h1, h2⟩ := co.tm d v2 e
        refine ⟨u', ?_, h2.mono (hLo _)⟩
        cases hd : o.dst with
        | none => exact h1
        | some d' =>
          have hne : d' ≠ d := fun z => q ((hWTd d).2 (by rw [hd, z]))
          simpa [Act.put, Array.getElem?_setIfInBounds_ne hne] using h1
    · rw [ob i (.inl (by omega))]; exact co.b1 i hi
    · rw [hvH] at e
      by_cases q : WH M wn F j i = true
      · rw [if_pos q] at e
        obtain ⟨_, u0, e0⟩ := hwas i p u q (hWHl i p u q e) (by omega)
        exact co.b2 i p u0 hi e0
      · rw [if_neg q] at e; exact co.b2 i p u hi e
    · rw [ne i (by omega)]
      refine (hTk i (by omega) fun u e => ?_).trans (co.b3 i hi hr)
      obtain ⟨_, b, p0, hb, b1, b2, e'⟩ := hmask i true u e
      cases b with
      | false => cases b2 rfl
      | true => obtain ⟨u1, h1⟩ := co.b2 i p0 u hi e'; rw [← b1 rfl] at h1; exact hr u1 h1
    · rw [hvH] at e
      by_cases q : WH M wn F j i = true
      · rw [if_pos q] at e
        rw [nbl i (hWl i p u q e)] at hx
        have e' := hWHl i p u q e
        rcases hsrc i p u q e' x hx with ⟨i', p0, u', e0, _, f2, f3⟩ | f2
        · rcases co.b4 i' p0 u' e0 x f2 with ⟨k, r, v3, g5, g6, g7⟩ | g5
          · refine .inl ⟨k, r, v3, g5, g6, ?_⟩
            rcases g7 with g7 | rfl
            · exact .inl g7
            · rcases f3 with rfl | rfl
              · obtain ⟨z, hz⟩ := co.b2 k true u' (nth_lt g5) e0
                rw [g5] at hz; cases hz; exact .inl rfl
              · exact .inr rfl
          · exact .inr g5
        · right
          cases z : h0 x with
          | none => rfl
          | some y => obtain ⟨y', hy⟩ := co.b6 x y z; rw [hy] at f2; cases f2
      · rw [if_neg q] at e
        rw [obl i (by simpa using q)] at hx
        exact co.b4 i p u e x hx
    · refine hT.frame x u (co.b5 x u e hx) fun i u' e' hk' => ?_
      obtain ⟨_, b, p0, hb, b1, b2, e''⟩ := hmask i true u' e'
      cases b with
      | false => cases b2 rfl
      | true =>
        rcases co.b4 i p0 u' e'' x hk' with ⟨k, r, v3, g5, g6, g7⟩ | f2
        · have hr : r = true := by
            rcases g7 with g7 | rfl
            · exact g7
            · obtain ⟨u1, h1⟩ := co.b2 k p0 u' (nth_lt g5) e''
              rw [← b1 rfl] at h1
              rw [g5] at h1; cases h1; rfl
          subst hr
          exact hx k v3 g5 g6
        · rw [e] at f2; cases f2
    · obtain ⟨y, hy⟩ := co.b6 x u e
      exact hT.dom x y hy
end
end Go.Proofs.Ytdmodejpcfhbhaa
