/- A call of objects that are told whole, among others. No program is named here. -/
import Derived.Test.YtdmodejpcfhbhaaSxR
namespace Go.Proofs.Ytdmodejpcfhbhaa
open Go.RowKit

section
variable {X : Type}
/-- At each number of the list the next one's object. -/
def putAll : AH X → List Nat → AH X → AH X
  | H, i :: σ, e :: G => putAll (put H i e) σ G
  | H, _, _ => H
def pick (H : AH X) : List Nat → AH X
  | [] => []
  | i :: σ => nth H i :: pick H σ
def isExt : Option (Bool × AObj X) → Bool
  | some (_, .ext _) => true
  | _ => false
theorem putAll_len : ∀ (σ : List Nat) (H G : AH X), (putAll H σ G).length = H.length
  | [], H, G => by cases G <;> rfl
  | i :: σ, H, [] => rfl
  | i :: σ, H, e :: G => by simp [putAll, putAll_len σ]
theorem pick_len (H : AH X) : ∀ σ, (pick H σ).length = σ.length
  | [] => rfl
  | i :: σ => by simp [pick, pick_len H σ]
theorem pick_nth (H : AH X) : ∀ (σ : List Nat) (k : Nat), nth (pick H σ) k = (match σ[k]? with | some i => nth H i | none => none)
  | [], k => by simp [pick, nth]
  | i :: σ, 0 => by simp [pick, nth]
  | i :: σ, k + 1 => by simp [pick, nth, pick_nth H σ k]
theorem putAll_nth_out : ∀ (σ : List Nat) (H G : AH X) (j : Nat), j ∉ σ → nth (putAll H σ G) j = nth H j
  | [], H, G, j, _ => by cases G <;> rfl
  | i :: σ, H, [], j, _ => rfl
  | i :: σ, H, e :: G, j, h => by
    simp only [List.mem_cons, not_or] at h
    simp only [putAll]
    rw [putAll_nth_out σ _ G j h.2, nth_put, if_neg (fun q => h.1 q.1.symm)]
theorem putAll_nth_in : ∀ (σ : List Nat) (H G : AH X) (k j : Nat), okS 0 σ = true → G.length = σ.length → (∀ i ∈ σ, i < H.length) → σ[k]? = some j → nth (putAll H σ G) j = nth G k
  | [], H, G, k, j, _, _, _, h => by simp at h
  | i :: σ, H, [], k, j, _, hl, _, _ => by simp at hl
  | i :: σ, H, e :: G, k, j, hd, hl, hb, h => by
    have hd' := hd
    simp only [okS, Bool.and_eq_true, Bool.not_eq_true'] at hd'
    simp only [putAll]
    cases k with
    | zero =>
      simp at h; subst h
      rw [putAll_nth_out σ _ G i (fun hm => by
        have h3 := hd'.1.2
        rw [List.any_eq_false] at h3
        exact h3 i hm (by simp)), nth_put, if_pos ⟨rfl, hb i (by simp)⟩]
      rfl
    | succ k =>
      simp at h
      rw [putAll_nth_in σ _ G k j hd'.2 (by simpa using hl) (fun x hx => by simpa using hb x (by simp [hx])) h]
      rfl

variable {P : Program} {I : Means X}
/-- A call that is shown of some objects that are told whole holds among others; it gives what bears no address. -/
theorem FWP.among {f : FuncId} {args0 args : List Value} {H G : AH X} {r : Value} {n : Nat} (σ : List Nat) (hσ : okS 0 σ = true) (hr : scal n r = true)
    (ha : rnL 0 σ args = some args0) (hx : ∀ (k e : Nat), σ[k]? = some e → isExt (nth H e) = true) (hG : ∀ k p o, nth G k = some (p, o) → ∃ x, o = .ext x) (hl : G.length = σ.length)
    (h : FWP P I f args0 (pick H σ) fun a b => a = r ∧ b = G) : FWP P I f args H fun a b => a = r ∧ b = putAll H σ G := by
  refine ⟨h.1, fun w0 w L hh ρ args' hn hargs => ?_⟩
  obtain ⟨s1, s2⟩ := okS_spec hσ
  let ρ0 : Ren := ⟨fun k => ρ.b (σ.getD k 0), fun k => ρ.e (σ.getD k 0)⟩
  have hb0 : ∀ k j, σ[k]? = some j → ρ0.b k = ρ.b j := fun k j e => by
    show ρ.b (σ.getD k 0) = _; rw [List.getD_eq_getElem?_getD, e]; rfl
  have he0 : ∀ k j, σ[k]? = some j → ρ0.e k = ρ.e j := fun k j e => by
    show ρ.e (σ.getD k 0) = _; rw [List.getD_eq_getElem?_getD, e]; rfl
  have hbound : ∀ i ∈ σ, i < H.length := fun i hi => by
    obtain ⟨k, hk⟩ := List.getElem?_of_mem hi
    have := hx k i hk
    cases q : nth H i with
    | none => rw [q] at this; cases this
    | some e => exact nth_lt q
  have hsrc : ∀ k p o, nth (pick H σ) k = some (p, o) → ∃ j x, σ[k]? = some j ∧ nth H j = some (p, o) ∧ o = .ext x := fun k p o e => by
    rw [pick_nth] at e
    split at e
    · rename_i j hj
      have := hx k j hj
      rw [e] at this
      cases o with
      | ext x => exact ⟨j, x, hj, e, rfl⟩
      | cells _ _ => cases this
    · cases e
  have n0 : Now I w0 (fun k => k < σ.length) ρ0 (pick H σ) hh w := by
    refine ⟨hn.mem, ⟨fun k p o e => ?_, fun k p o e => ?_, fun i j p o q u e1 e2 hij x h1 h2 => ?_⟩, fun x hx => by rw [pick_len]; exact hx, hn.org⟩
    · obtain ⟨j, x, hj, e', rfl⟩ := hsrc k p o e
      show I.sat x (ρ0.b k) (ρ0.e k) hh
      rw [hb0 k j hj, he0 k j hj]; exact hn.sat.obj j p _ e'
    · obtain ⟨j, x, hj, e', rfl⟩ := hsrc k p o e
      exact (List.getElem?_eq_some_iff.1 hj).1
    · obtain ⟨i', x1, hi', e1', rfl⟩ := hsrc i p o e1
      obtain ⟨j', x2, hj', e2', rfl⟩ := hsrc j q u e2
      rw [show ρ0.blocks i = ρ.blocks i' from he0 i i' hi'] at h1
      rw [show ρ0.blocks j = ρ.blocks j' from he0 j j' hj'] at h2
      exact hn.sat.apart i' j' p _ q _ e1' e2' (fun z => by subst z; exact hij (s2 _ _ _ hi' hj')) x h1 h2
  have hid : ∀ i j, rnId 0 σ i = some j → L i → (j < σ.length) ∧ ρ0.b j = ρ.b i := fun i j hi _ => by
    unfold rnId at hi
    rw [show Nat.blt i 0 = false from by simp [Nat.blt_eq, ← Bool.not_eq_true]] at hi
    obtain ⟨g1, g2, g3⟩ := rnId_go hi
    exact ⟨by omega, hb0 j i (by simpa using g3)⟩
  have hargs0 := (rnV_sound (L2 := fun k => k < σ.length) hid).2 _ _ _ ha hargs
  refine (h.2 w0 w _ hh ρ0 args' n0 hargs0).mono fun e w' => ?_
  rintro ⟨v, v', H', ρ0', h', he, ⟨rfl, rfl⟩, n', tr, hv⟩
  obtain rfl := scal_eq n hr hv
  let ρ' : Ren := ⟨ρ.b, fun i => match rnId 0 σ i with | some k => ρ0'.e k | none => ρ.e i⟩
  have hgo : ∀ k j, σ[k]? = some j → rnId 0 σ j = some k := fun k j hk => by
    unfold rnId
    rw [show Nat.blt j 0 = false from by simp [Nat.blt_eq, ← Bool.not_eq_true]]
    have key : ∀ (l : List Nat) (b k : Nat), okS 0 l = true → l[k]? = some j → rnId.go j b l = some (b + k) := by
      intro l
      induction l with
      | nil => intro b k _ h; simp at h
      | cons a l ih =>
        intro b k hd h
        have hd' := hd
        simp only [okS, Bool.and_eq_true, Bool.not_eq_true'] at hd'
        cases k with
        | zero => simp at h; subst h; simp [rnId.go]
        | succ k =>
          simp at h
          simp only [rnId.go]
          have hne : Nat.beq a j = false := by
            have h3 := hd'.1.2
            rw [List.any_eq_false] at h3
            exact Bool.not_eq_true _ ▸ h3 j (List.mem_of_getElem? h)
          rw [hne]
          simp only
          rw [ih (b + 1) k hd'.2 h]
          congr 1; omega
    have := key σ 0 k hσ hk
    simpa using this
  have hno : ∀ j, j ∉ σ → rnId 0 σ j = none := fun j hj => by
    cases q : rnId 0 σ j with
    | none => rfl
    | some k =>
      unfold rnId at q
      rw [show Nat.blt j 0 = false from by simp [Nat.blt_eq, ← Bool.not_eq_true]] at q
      exact absurd (List.mem_of_getElem? (rnId_go q).2.2) hj
  have ein : ∀ k j, σ[k]? = some j → ρ'.e j = ρ0'.e k := fun k j hk => by
    show (match rnId 0 σ j with | some k => ρ0'.e k | none => ρ.e j) = _
    rw [hgo k j hk]
  have eout : ∀ j, j ∉ σ → ρ'.e j = ρ.e j := fun j hj => by
    show (match rnId 0 σ j with | some k => ρ0'.e k | none => ρ.e j) = _
    rw [hno j hj]
  have hbk : ∀ k j, σ[k]? = some j → ρ0'.b k = ρ.b j := fun k j hk => by
    rw [tr.base k (by rw [pick_len]; exact (List.getElem?_eq_some_iff.1 hk).1)]; exact hb0 k j hk
  have hput : ∀ i p o, nth (putAll H σ H') i = some (p, o) → (i ∉ σ ∧ nth H i = some (p, o)) ∨ ∃ k x, σ[k]? = some i ∧ nth H' k = some (p, o) ∧ o = .ext x := fun i p o e => by
    by_cases q : i ∈ σ
    · obtain ⟨k, hk⟩ := List.getElem?_of_mem q
      rw [putAll_nth_in σ H H' k i hσ hl hbound hk] at e
      obtain ⟨x, hx⟩ := hG k p o e
      exact .inr ⟨k, x, hk, e, hx⟩
    · rw [putAll_nth_out σ H H' i q] at e
      exact .inl ⟨q, e⟩
  -- blocks of the objects that were handed in, behind the call
  have hfr : ∀ k i p o, σ[k]? = some i → nth H' k = some (p, o) → ∀ x, x ∈ ρ0'.blocks k → (∃ j q u, nth H j = some (q, u) ∧ j ∈ σ ∧ x ∈ ρ.blocks j ∧ (q = true ∨ j = i)) ∨ hh x = none := by
    intro k i p o hk e x hx
    rcases tr.fresh k p o e x hx with ⟨k', q, u, g1, g2, g3⟩ | g
    · obtain ⟨j, x', hj, g4, rfl⟩ := hsrc k' q u g1
      refine .inl ⟨j, q, _, g4, List.mem_of_getElem? hj, by rw [show ρ0.blocks k' = ρ.blocks j from he0 k' j hj] at g2; exact g2, ?_⟩
      rcases g3 with g3 | rfl
      · exact .inl g3
      · rw [hk] at hj; cases hj; exact .inr rfl
    · exact .inr g
  have hkeep : ∀ x o, hh x = some o → (∀ j u, j ∈ σ → nth H j = some (true, u) → x ∉ ρ.blocks j) → h' x = some o := fun x o e hx => by
    refine tr.frame x o e fun k u hk => ?_
    obtain ⟨j, x', hj, g, rfl⟩ := hsrc k true u hk
    rw [show ρ0.blocks k = ρ.blocks j from he0 k j hj]
    exact hx j _ (List.mem_of_getElem? hj) g
  refine ⟨_, _, _, ρ', h', he, ⟨rfl, rfl⟩, ⟨n'.mem, ⟨fun i p o e => ?_, fun i p o e => ?_, fun i j p o q u e1 e2 hij x h1 h2 => ?_⟩, fun x hx => ?_, n'.org⟩, ⟨by rw [putAll_len]; exact Nat.le_refl _, fun _ _ => rfl, fun i p o' hi e => ?_, fun i hi hrr => ?_, fun i p o e x hx => ?_, fun x o e hx => ?_, tr.dom⟩, scal_refl n hr⟩
  · rcases hput i p o e with ⟨hi, e⟩ | ⟨k, x, hk, e, rfl⟩
    · refine OSat.mono (ρ := ρ) (ρ' := ρ') (fun x hx => ⟨.inl hx, rfl⟩) rfl (eout i hi) (fun k hk => ?_) (hn.sat.obj i p o e)
      obtain ⟨z, hz⟩ := (hn.sat.obj i p o e).here k hk
      rw [hz]
      exact hkeep k z hz fun j u hj g => hn.sat.apart i j p o true u e g (fun q => by subst q; exact hi hj) k hk
    · have := n'.sat.obj k p _ e
      show I.sat x (ρ'.b i) (ρ'.e i) h'
      rw [show ρ'.b i = ρ.b i from rfl, ← hbk k i hk, ein k i hk]; exact this
  · rcases hput i p o e with ⟨hi, e⟩ | ⟨k, x, hk, e, rfl⟩
    · exact .inl (hn.sat.live i p o e)
    · have hi := hx k i hk
      cases q : nth H i with
      | none => rw [q] at hi; cases hi
      | some y => exact .inl (hn.sat.live i y.1 y.2 q)
  · have main : ∀ i k p o j q u, σ[k]? = some i → nth H' k = some (p, o) → j ∉ σ → nth H j = some (q, u) → ∀ x, x ∈ ρ0'.blocks k → x ∉ ρ.blocks j := by
      intro i k p o j q u hk e1 hj e2 x h1 h2
      rcases hfr k i p o hk e1 x h1 with ⟨j', q', u', g1, g2, g3, _⟩ | g
      · exact hn.sat.apart j' j q' u' q u g1 e2 (fun z => by subst z; exact hj g2) x g3 h2
      · obtain ⟨z, hz⟩ := (hn.sat.obj j q u e2).here x h2
        rw [g] at hz; cases hz
    rcases hput i p o e1 with ⟨hi, e1⟩ | ⟨k1, x1, hk1, e1, rfl⟩ <;> rcases hput j q u e2 with ⟨hj, e2⟩ | ⟨k2, x2, hk2, e2, rfl⟩
    · rw [show ρ'.blocks i = ρ.blocks i from eout i hi] at h1
      rw [show ρ'.blocks j = ρ.blocks j from eout j hj] at h2
      exact hn.sat.apart i j p o q u e1 e2 hij x h1 h2
    · rw [show ρ'.blocks i = ρ.blocks i from eout i hi] at h1
      rw [show ρ'.blocks j = ρ0'.blocks k2 from ein k2 j hk2] at h2
      exact main j k2 q _ i p o hk2 e2 hi e1 x h2 h1
    · rw [show ρ'.blocks i = ρ0'.blocks k1 from ein k1 i hk1] at h1
      rw [show ρ'.blocks j = ρ.blocks j from eout j hj] at h2
      exact main i k1 p _ j q u hk1 e1 hj e2 x h1 h2
    · rw [show ρ'.blocks i = ρ0'.blocks k1 from ein k1 i hk1] at h1
      rw [show ρ'.blocks j = ρ0'.blocks k2 from ein k2 j hk2] at h2
      exact n'.sat.apart k1 k2 p _ q _ e1 e2 (fun z => by subst z; rw [hk1] at hk2; cases hk2; exact hij rfl) x h1 h2
  · rw [putAll_len]
    rcases hx with hx | hx
    · exact hn.lt x hx
    · rw [putAll_len] at hx; omega
  · rcases hput i p o' e with ⟨_, e⟩ | ⟨k, x, hk, e, rfl⟩
    · exact ⟨_, e⟩
    · obtain ⟨o2, g⟩ := tr.perm k p _ (by rw [pick_len]; exact (List.getElem?_eq_some_iff.1 hk).1) e
      obtain ⟨j, x', hj, g4, rfl⟩ := hsrc k p o2 g
      rw [hk] at hj; cases hj
      exact ⟨_, g4⟩
  · by_cases q : i ∈ σ
    · obtain ⟨k, hk⟩ := List.getElem?_of_mem q
      rw [ein k i hk, tr.keep k (by rw [pick_len]; exact (List.getElem?_eq_some_iff.1 hk).1) fun o e => by
        obtain ⟨j, x', hj, g4, rfl⟩ := hsrc k true o e
        rw [hk] at hj; cases hj
        exact hrr _ g4]
      exact he0 k i hk
    · exact eout i q
  · rcases hput i p o e with ⟨hi, e⟩ | ⟨k, x', hk, e, rfl⟩
    · rw [show ρ'.blocks i = ρ.blocks i from eout i hi] at hx
      exact .inl ⟨i, p, o, e, hx, .inr rfl⟩
    · rw [show ρ'.blocks i = ρ0'.blocks k from ein k i hk] at hx
      rcases hfr k i p _ hk e x hx with ⟨j, q, u, g1, _, g3, g4⟩ | g
      · exact .inl ⟨j, q, u, g1, g3, g4⟩
      · exact .inr g
  · exact hkeep x o e fun j u _ g => hx j u g

/-- An object that is told whole is some cells. -/
def Opens (I : Means X) (x : X) (cs : List Value) : Prop := ∀ b e h, I.sat x b e h → e = [b.1] ∧ ∃ T, h b.1 = some (.cells ⟨cs⟩ T)
def Shuts (I : Means X) (x : X) (cs : List Value) : Prop := ∀ b h T, h b.1 = some (.cells ⟨cs⟩ T) → I.sat x b [b.1] h
/-- A call of objects told whole, the first one of which is shown by its cells. -/
theorem FWP.opened {f : FuncId} {args : List Value} {x : X} {cs : List Value} {H : AH X} {K : Value → AH X → Prop} (ho : Opens I x cs) (hs : cs.all (scal 3) = true)
    (h : ∀ T, FWP P I f args (some (true, .cells cs T) :: H) fun v G => ∃ x' cs' T' H', cs'.all (scal 3) = true ∧ Shuts I x' cs' ∧ G = some (true, .cells cs' T') :: H' ∧ K v (some (true, .ext x') :: H')) : FWP P I f args (some (true, .ext x) :: H) K := by
  refine ⟨(h 0).1, fun w0 w L hh ρ args' hn ha => ?_⟩
  obtain ⟨e0, T, hT⟩ := ho _ _ _ (hn.sat.obj 0 true _ rfl)
  have hsw : ∀ {G : AH X} {o o' : AObj X} {ρ : Ren} {h : GH} {w : World} {L : Nat → Prop}, Now I w0 L ρ (some (true, o) :: G) h w → OSat I L ρ 0 h o' → Now I w0 L ρ (some (true, o') :: G) h w := by
    intro G o o' ρ h w L hn ho
    have hnth : ∀ i p u, nth (some (true, o') :: G) i = some (p, u) → ∃ u', nth (some (true, o) :: G) i = some (p, u') ∧ (i = 0 ∧ u = o' ∨ i ≠ 0 ∧ u' = u) := fun i p u e => by
      cases i with
      | zero => simp [nth] at e; obtain ⟨rfl, rfl⟩ := e; exact ⟨o, rfl, .inl ⟨rfl, rfl⟩⟩
      | succ i => exact ⟨u, e, .inr ⟨by omega, rfl⟩⟩
    refine ⟨hn.mem, ⟨fun i p u e => ?_, fun i p u e => ?_, fun i j p u q v e1 e2 => ?_⟩, hn.lt, hn.org⟩
    · obtain ⟨u', g, hc⟩ := hnth i p u e
      rcases hc with ⟨rfl, rfl⟩ | ⟨_, rfl⟩
      · exact ho
      · exact hn.sat.obj i p _ g
    · obtain ⟨u', g, _⟩ := hnth i p u e; exact hn.sat.live i p _ g
    · obtain ⟨u', g1, _⟩ := hnth i p u e1
      obtain ⟨v', g2, _⟩ := hnth j q v e2
      exact hn.sat.apart i j p u' q v' g1 g2
  have n1 : Now I w0 L ρ (some (true, .cells cs T) :: H) hh w := hsw hn ⟨e0, cs, hT, scals_rel hs⟩
  refine ((h T).2 w0 w L hh ρ args' n1 ha).mono fun e w' => ?_
  rintro ⟨v, v', G, ρ', h', he, ⟨x', cs', T', H', hs', hsh, rfl, hk⟩, n', tr, hv⟩
  obtain ⟨g1, ds, g2, g3⟩ := n'.sat.obj 0 true _ rfl
  have hds : ds = cs' := by
    have : ∀ {l l' : List Value}, l.all (scal 3) = true → VRL (LU L (some (true, AObj.cells cs T) :: H).length (some (true, AObj.cells cs' T') :: H').length) ρ'.b l l' → l' = l := by
      intro l
      induction l with
      | nil => intro l' _ h; cases h; rfl
      | cons a l ih => intro l' q h; cases h with
        | cons h0 h => simp only [List.all_cons, Bool.and_eq_true] at q; rw [scal_eq 3 q.1 h0, ih q.2 h]
    exact this hs' g3
  subst hds
  have hb0 : ρ'.b 0 = ρ.b 0 := tr.base 0 (by simp)
  have n2 : Now I w0 _ ρ' (some (true, .ext x') :: H') h' w' := hsw n' (show I.sat x' (ρ'.b 0) (ρ'.e 0) h' by rw [g1]; exact hsh _ _ _ g2)
  refine ⟨v, v', _, ρ', h', he, hk, n2, ⟨tr.le, tr.base, fun i p o' hi e => ?_, fun i hi hrr => ?_, fun i p o e y hy => ?_, fun y o e hy => ?_, tr.dom⟩, hv⟩
  · cases i with
    | zero => simp [nth] at e; obtain ⟨rfl, rfl⟩ := e; exact ⟨_, rfl⟩
    | succ i =>
      obtain ⟨o, q⟩ := tr.perm (i + 1) p o' hi (by simpa [nth] using e)
      exact ⟨o, by simpa [nth] using q⟩
  · cases i with
    | zero => exact absurd rfl (hrr _)
    | succ i => exact tr.keep (i + 1) hi fun o e => hrr o (by simpa [nth] using e)
  · have hget : ∃ o', nth (some (true, AObj.cells ds T') :: H') i = some (p, o') := by
      cases i with
      | zero => simp [nth] at e; exact ⟨.cells ds T', by simp [nth, e.1]⟩
      | succ i => exact ⟨o, by simpa [nth] using e⟩
    obtain ⟨o', e'⟩ := hget
    rcases tr.fresh i p o' e' y hy with ⟨j, q, u, f1, f2, f3⟩ | f
    · left
      cases j with
      | zero => simp [nth] at f1; exact ⟨0, q, .ext x, by simp [nth, f1.1], f2, f3⟩
      | succ j => exact ⟨j + 1, q, u, by simpa [nth] using f1, f2, f3⟩
    · exact .inr f
  · refine tr.frame y o e fun i u q => ?_
    cases i with
    | zero => exact hy 0 _ rfl
    | succ i => exact hy (i + 1) u (by simpa [nth] using q)
end
end Go.Proofs.Ytdmodejpcfhbhaa
