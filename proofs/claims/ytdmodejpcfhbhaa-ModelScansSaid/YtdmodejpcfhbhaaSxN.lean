/- A call shown of some objects that are told whole, which makes new ones, among others. No program is named here. -/
import Derived.Test.YtdmodejpcfhbhaaSxT
namespace Go.Proofs.Ytdmodejpcfhbhaa
open Go.RowKit

/-! ### Numbers told anew in a value -/
def upId (s m : Nat) (σ : List Nat) (k : Nat) : Nat := match Nat.blt k s with | true => σ.getD k 0 | false => m + (k - s)
def upLw (f : Value → Option Value) : List Value → Option (List Value)
  | [] => some []
  | v :: l => match f v with
    | some u => (match upLw f l with | some r => some (u :: r) | none => none)
    | none => none
def upV (g : Nat → Option Nat) : Nat → Value → Option Value
  | 0, v => match plain v with | true => some v | false => none
  | n + 1, v => match v with
    | .pointer (some ⟨i, o, none⟩) => (match g i with | some j => some (.pointer (some ⟨j, o, none⟩)) | none => none)
    | .slice (some ⟨i, o, none⟩) l c => (match g i with | some j => some (.slice (some ⟨j, o, none⟩) l c) | none => none)
    | .slice (some ⟨i, o, some k⟩) l 0 => (match g i with | some j => some (.slice (some ⟨j, o, some k⟩) l 0) | none => none)
    | .map (some i) => (match g i with | some j => some (.map (some j)) | none => none)
    | .iface t v => (match upV g n v with | some u => some (.iface t u) | none => none)
    | .agg ⟨l⟩ => (match upLw (upV g n) l with | some r => some (.agg ⟨r⟩) | none => none)
    | .tuple ⟨l⟩ => (match upLw (upV g n) l with | some r => some (.tuple ⟨r⟩) | none => none)
    | .func f ⟨l⟩ ⟨c⟩ => (match upLw (upV g n) l, upLw (upV g n) c with | some r, some q => some (.func f ⟨r⟩ ⟨q⟩) | _, _ => none)
    | v => match plain v with | true => some v | false => none
theorem upV_sound {g : Nat → Option Nat} {L1 L2 : Nat → Prop} {ρ ρ' : Nat → Nat × Nat} (hid : ∀ i j, L1 i → g i = some j → L2 j ∧ ρ' j = ρ i) : ∀ (n : Nat) {v u v' : Value}, upV g n v = some u → VR L1 ρ v v' → VR L2 ρ' u v' := by
  intro n
  have hpl : ∀ {v u v' : Value}, (match plain v with | true => some v | false => none) = some u → VR L1 ρ v v' → VR L2 ρ' u v' := by
    intro v u v' h hv
    split at h
    · rename_i hp; cases h; rw [hv.plain_eq hp]; exact .plain hp
    · cases h
  induction n with
  | zero => intro v u v' h hv; exact hpl h hv
  | succ n ih =>
    have hl : ∀ {l r l' : List Value}, upLw (upV g n) l = some r → VRL L1 ρ l l' → VRL L2 ρ' r l' := by
      intro l
      induction l with
      | nil => intro r l' h hv; simp only [upLw, Option.some.injEq] at h; subst h; cases hv; exact .nil
      | cons a l ihl =>
        intro r l' h hv
        simp only [upLw] at h
        split at h <;> try (cases h; done)
        rename_i u hu
        split at h <;> try (cases h; done)
        rename_i q hq
        cases h
        cases hv with
        | cons h0 h1 => exact .cons (ih hu h0) (ihl hq h1)
    intro v u v' h hv
    unfold upV at h
    split at h
    · split at h <;> try (cases h; done)
      rename_i hj
      cases h; obtain ⟨h1, rfl⟩ := hv.ptr_eq; obtain ⟨q1, q2⟩ := hid _ _ h1 hj; rw [← q2]; exact .ptr q1
    · split at h <;> try (cases h; done)
      rename_i hj
      cases h; obtain ⟨h1, rfl⟩ := hv.slice_eq; obtain ⟨q1, q2⟩ := hid _ _ h1 hj; rw [← q2]; exact .slice q1
    · split at h <;> try (cases h; done)
      rename_i hj
      cases h; obtain ⟨h1, rfl⟩ := hv.row_eq; obtain ⟨q1, q2⟩ := hid _ _ h1 hj; rw [← q2]; exact .row q1
    · split at h <;> try (cases h; done)
      rename_i hj
      cases h; obtain ⟨h1, rfl⟩ := hv.map_eq; obtain ⟨q1, q2⟩ := hid _ _ h1 hj; rw [← q2]; exact .map q1
    · split at h <;> try (cases h; done)
      rename_i hu
      cases h
      obtain ⟨x, rfl, hx⟩ := hv.iface_eq
      exact .iface (ih hu hx)
    · split at h <;> try (cases h; done)
      rename_i hu
      cases h
      obtain ⟨x, rfl, hx⟩ := hv.agg_eq
      exact .agg (hl hu hx)
    · split at h <;> try (cases h; done)
      rename_i hu
      cases h
      obtain ⟨x, rfl, hx⟩ := hv.tuple_eq
      exact .tuple (hl hu hx)
    · split at h <;> try (cases h; done)
      rename_i h1 h2
      cases h
      obtain ⟨x, y, rfl, hx, hy⟩ := hv.func_eq
      exact .func (hl h1 hx) (hl h2 hy)
    · exact hpl h hv

section
variable {X : Type} {P : Program} {I : Means X}
theorem FWP.amongN {f : FuncId} {args0 args : List Value} {H G N : AH X} {r0 r : Value} {n : Nat} (σ : List Nat) (hσ : okS 0 σ = true) (hr : upV (fun k => some (upId σ.length H.length σ k)) n r0 = some r)
    (ha : rnL 0 σ args = some args0) (hx : ∀ (k e : Nat), σ[k]? = some e → isExt (nth H e) = true) (hG : ∀ k p o, nth (G ++ N) k = some (p, o) → ∃ x, o = .ext x) (hl : G.length = σ.length)
    (h : FWP P I f args0 (pick H σ) fun a b => a = r0 ∧ b = G ++ N) : FWP P I f args H fun a b => a = r ∧ b = putAll H σ G ++ N := by
  refine ⟨h.1, fun w0 w L hh ρ args' hn hargs => ?_⟩
  obtain ⟨s1, s2⟩ := okS_spec hσ
  let ρ0 : Ren := ⟨fun k => ρ.b (σ.getD k 0), fun k => ρ.e (σ.getD k 0)⟩
  have hb0 : ∀ k j, σ[k]? = some j → ρ0.b k = ρ.b j := fun k j e => by
    show ρ.b (σ.getD k 0) = _; rw [List.getD_eq_getElem?_getD, e]; rfl
  have he0 : ∀ k j, σ[k]? = some j → ρ0.e k = ρ.e j := fun k j e => by
    show ρ.e (σ.getD k 0) = _; rw [List.getD_eq_getElem?_getD, e]; rfl
  have hhas : ∀ i ∈ σ, ∃ p o, nth H i = some (p, o) := fun i hi => by
    obtain ⟨k, hk⟩ := List.getElem?_of_mem hi
    have := hx k i hk
    cases q : nth H i with
    | none => rw [q] at this; cases this
    | some e => exact ⟨_, _, rfl⟩
  have hbound : ∀ i ∈ σ, i < H.length := fun i hi => by obtain ⟨p, o, q⟩ := hhas i hi; exact nth_lt q
  have hsrc : ∀ k p o, nth (pick H σ) k = some (p, o) → ∃ j x, σ[k]? = some j ∧ nth H j = some (p, o) ∧ o = .ext x := fun k p o e => by
    rw [pick_nth] at e
    split at e
    · rename_i j hj
      have := hx k j hj
      rw [e] at this
      cases o with
      | ext x => exact ⟨j, x, hj, e, rfl⟩
      | cells _ _ => cases this
    · cases e
  have n0 : Now I w0 (fun k => k < σ.length) ρ0 (pick H σ) hh w := by
    refine ⟨hn.mem, ⟨fun k p o e => ?_, fun k p o e => ?_, fun i j p o q u e1 e2 hij x h1 h2 => ?_⟩, fun x hx => by rw [pick_len]; exact hx, hn.org⟩
    · obtain ⟨j, x, hj, e', rfl⟩ := hsrc k p o e
      show I.sat x (ρ0.b k) (ρ0.e k) hh
      rw [hb0 k j hj, he0 k j hj]; exact hn.sat.obj j p _ e'
    · obtain ⟨j, x, hj, e', rfl⟩ := hsrc k p o e
      exact (List.getElem?_eq_some_iff.1 hj).1
    · obtain ⟨i', x1, hi', e1', rfl⟩ := hsrc i p o e1
      obtain ⟨j', x2, hj', e2', rfl⟩ := hsrc j q u e2
      rw [show ρ0.blocks i = ρ.blocks i' from he0 i i' hi'] at h1
      rw [show ρ0.blocks j = ρ.blocks j' from he0 j j' hj'] at h2
      exact hn.sat.apart i' j' p _ q _ e1' e2' (fun z => by subst z; exact hij (s2 _ _ _ hi' hj')) x h1 h2
  have hid : ∀ i j, rnId 0 σ i = some j → L i → (j < σ.length) ∧ ρ0.b j = ρ.b i := fun i j hi _ => by
    unfold rnId at hi
    rw [show Nat.blt i 0 = false from by simp [Nat.blt_eq, ← Bool.not_eq_true]] at hi
    obtain ⟨g1, g2, g3⟩ := rnId_go hi
    exact ⟨by omega, hb0 j i (by simpa using g3)⟩
  have hargs0 := (rnV_sound (L2 := fun k => k < σ.length) hid).2 _ _ _ ha hargs
  refine (h.2 w0 w _ hh ρ0 args' n0 hargs0).mono fun e w' => ?_
  rintro ⟨v, v', H', ρ0', h', he, ⟨rfl, rfl⟩, n', tr, hv⟩
  let back : Nat → Nat := fun i => σ.length + (i - H.length)
  let ρ' : Ren := ⟨fun i => if i < H.length then ρ.b i else ρ0'.b (back i), fun i => if i < H.length then (match rnId 0 σ i with | some k => ρ0'.e k | none => ρ.e i) else ρ0'.e (back i)⟩
  have hgo : ∀ k j, σ[k]? = some j → rnId 0 σ j = some k := fun k j hk => by
    unfold rnId
    rw [show Nat.blt j 0 = false from by simp [Nat.blt_eq, ← Bool.not_eq_true]]
    have key : ∀ (l : List Nat) (b k : Nat), okS 0 l = true → l[k]? = some j → rnId.go j b l = some (b + k) := by
      intro l
      induction l with
      | nil => intro b k _ h; simp at h
      | cons a l ih =>
        intro b k hd h
        have hd' := hd
        simp only [okS, Bool.and_eq_true, Bool.not_eq_true'] at hd'
        cases k with
        | zero => simp at h; subst h; simp [rnId.go]
        | succ k =>
          simp at h
          simp only [rnId.go]
          have hne : Nat.beq a j = false := by
            have h3 := hd'.1.2
            rw [List.any_eq_false] at h3
            exact Bool.not_eq_true _ ▸ h3 j (List.mem_of_getElem? h)
          rw [hne]
          simp only
          rw [ih (b + 1) k hd'.2 h]
          congr 1; omega
    have := key σ 0 k hσ hk
    simpa using this
  have hno : ∀ j, j ∉ σ → rnId 0 σ j = none := fun j hj => by
    cases q : rnId 0 σ j with
    | none => rfl
    | some k =>
      unfold rnId at q
      rw [show Nat.blt j 0 = false from by simp [Nat.blt_eq, ← Bool.not_eq_true]] at q
      exact absurd (List.mem_of_getElem? (rnId_go q).2.2) hj
  -- number i of the whole is number k of the part
  let R : Nat → Nat → Prop := fun i k => (i < H.length ∧ σ[k]? = some i) ∨ (H.length ≤ i ∧ k = back i)
  have hbk : ∀ k j, σ[k]? = some j → ρ0'.b k = ρ.b j := fun k j hk => by
    rw [tr.base k (by rw [pick_len]; exact (List.getElem?_eq_some_iff.1 hk).1)]; exact hb0 k j hk
  have eR : ∀ {i k}, R i k → ρ'.e i = ρ0'.e k := by
    rintro i k (⟨h1, h2⟩ | ⟨h1, rfl⟩)
    · show (if i < H.length then _ else _) = _
      rw [if_pos h1, hgo k i h2]
    · show (if i < H.length then _ else _) = _
      rw [if_neg (by omega)]
  have bR : ∀ {i k}, R i k → ρ'.b i = ρ0'.b k := by
    rintro i k (⟨h1, h2⟩ | ⟨h1, rfl⟩)
    · show (if i < H.length then _ else _) = _
      rw [if_pos h1, hbk k i h2]
    · show (if i < H.length then _ else _) = _
      rw [if_neg (by omega)]
  have eout : ∀ j, j ∉ σ → j < H.length → ρ'.e j = ρ.e j := fun j hj hjl => by
    show (if j < H.length then _ else _) = _
    rw [if_pos hjl, hno j hj]
  have bold : ∀ j, j < H.length → ρ'.b j = ρ.b j := fun j hjl => by
    show (if j < H.length then _ else _) = _
    rw [if_pos hjl]
  have Rinj : ∀ {i j k}, R i k → R j k → i = j := by
    rintro i j k (⟨h1, h2⟩ | ⟨h1, h2⟩) (⟨h3, h4⟩ | ⟨h3, h4⟩)
    · rw [h2] at h4; exact Option.some.inj h4
    · have := (List.getElem?_eq_some_iff.1 h2).1; simp only [back] at h4; omega
    · have := (List.getElem?_eq_some_iff.1 h4).1; simp only [back] at h2; omega
    · simp only [back] at h2 h4; omega
  have hGl : ∀ k p o, nth (G ++ N) k = some (p, o) → k < σ.length + N.length := fun k p o e => by
    have := nth_lt e; rw [List.length_append, hl] at this; exact this
  have hput : ∀ i p o, nth (putAll H σ G ++ N) i = some (p, o) → (i ∉ σ ∧ i < H.length ∧ nth H i = some (p, o)) ∨ ∃ k x, R i k ∧ nth (G ++ N) k = some (p, o) ∧ o = .ext x := fun i p o e => by
    rw [nth_append, putAll_len] at e
    by_cases hi : i < H.length
    · rw [if_pos hi] at e
      by_cases q : i ∈ σ
      · obtain ⟨k, hk⟩ := List.getElem?_of_mem q
        rw [putAll_nth_in σ H G k i hσ hl hbound hk] at e
        have e2 : nth (G ++ N) k = some (p, o) := by rw [nth_append, if_pos (nth_lt e)]; exact e
        obtain ⟨x, hx⟩ := hG k p o e2
        exact .inr ⟨k, x, .inl ⟨hi, hk⟩, e2, hx⟩
      · rw [putAll_nth_out σ H G i q] at e
        exact .inl ⟨q, hi, e⟩
    · rw [if_neg hi] at e
      have e2 : nth (G ++ N) (back i) = some (p, o) := by
        rw [nth_append, hl, if_neg (by simp only [back]; omega), show back i - σ.length = i - H.length from by simp only [back]; omega]; exact e
      obtain ⟨x, hx⟩ := hG _ p o e2
      exact .inr ⟨_, x, .inr ⟨by omega, rfl⟩, e2, hx⟩
  have hfr : ∀ k i p o, R i k → nth (G ++ N) k = some (p, o) → ∀ x, x ∈ ρ0'.blocks k → (∃ j q u, nth H j = some (q, u) ∧ j ∈ σ ∧ x ∈ ρ.blocks j ∧ (q = true ∨ j = i)) ∨ hh x = none := by
    intro k i p o hk e x hx
    rcases tr.fresh k p o e x hx with ⟨k', q, u, g1, g2, g3⟩ | g
    · obtain ⟨j, x', hj, g4, rfl⟩ := hsrc k' q u g1
      refine .inl ⟨j, q, _, g4, List.mem_of_getElem? hj, by rw [show ρ0.blocks k' = ρ.blocks j from he0 k' j hj] at g2; exact g2, ?_⟩
      rcases g3 with g3 | rfl
      · exact .inl g3
      · exact .inr (Rinj (.inl ⟨hbound _ (List.mem_of_getElem? hj), hj⟩) hk)
    · exact .inr g
  have hkeep : ∀ x o, hh x = some o → (∀ j u, j ∈ σ → nth H j = some (true, u) → x ∉ ρ.blocks j) → h' x = some o := fun x o e hx => by
    refine tr.frame x o e fun k u hk => ?_
    obtain ⟨j, x', hj, g, rfl⟩ := hsrc k true u hk
    rw [show ρ0.blocks k = ρ.blocks j from he0 k j hj]
    exact hx j _ (List.mem_of_getElem? hj) g
  have hL' : ∀ k, LU (fun k => k < σ.length) (pick H σ).length (G ++ N).length k → LU L H.length (putAll H σ G ++ N).length (upId σ.length H.length σ k) ∧ ρ'.b (upId σ.length H.length σ k) = ρ0'.b k := fun k hk => by
    have hk2 : k < σ.length ∨ (σ.length ≤ k ∧ k < σ.length + N.length) := by
      rcases hk with hk | hk
      · exact .inl hk
      · rw [pick_len, List.length_append, hl] at hk; exact .inr hk
    rcases hk2 with hk2 | hk2
    · have e1 : upId σ.length H.length σ k = σ[k] := by
        unfold upId
        rw [show Nat.blt k σ.length = true from by simpa [Nat.blt_eq] using hk2]
        simp only [List.getD_eq_getElem?_getD, List.getElem?_eq_getElem hk2]; rfl
      rw [e1]
      have hs : σ[k]? = some σ[k] := List.getElem?_eq_getElem hk2
      obtain ⟨p, o, q⟩ := hhas _ (List.mem_of_getElem? hs)
      exact ⟨.inl (hn.sat.live _ p o q), bR (.inl ⟨nth_lt q, hs⟩)⟩
    · have e1 : upId σ.length H.length σ k = H.length + (k - σ.length) := by
        unfold upId
        rw [show Nat.blt k σ.length = false from by rw [Bool.eq_false_iff]; simp [Nat.blt_eq]; omega]
      rw [e1]
      exact ⟨.inr ⟨by omega, by rw [List.length_append, putAll_len]; omega⟩, bR (.inr ⟨by omega, by simp only [back]; omega⟩)⟩
  refine ⟨_, _, _, ρ', h', he, ⟨rfl, rfl⟩, ⟨n'.mem, ⟨fun i p o e => ?_, fun i p o e => ?_, fun i j p o q u e1 e2 hij x h1 h2 => ?_⟩, fun x hx => ?_, n'.org⟩, ⟨by rw [List.length_append, putAll_len]; omega, fun i hi => bold i hi, fun i p o' hi e => ?_, fun i hi hrr => ?_, fun i p o e x hx => ?_, fun x o e hx => ?_, tr.dom⟩, upV_sound (fun k j h1 h2 => by cases h2; exact hL' k h1) n hr hv⟩
  · rcases hput i p o e with ⟨hi, hil, e⟩ | ⟨k, x, hk, e, rfl⟩
    · refine OSat.mono (ρ := ρ) (ρ' := ρ') (fun x hx => ⟨.inl hx, bold x (hn.lt x hx)⟩) (bold i hil) (eout i hi hil) (fun k hk => ?_) (hn.sat.obj i p o e)
      obtain ⟨z, hz⟩ := (hn.sat.obj i p o e).here k hk
      rw [hz]
      exact hkeep k z hz fun j u hj g => hn.sat.apart i j p o true u e g (fun q => by subst q; exact hi hj) k hk
    · have := n'.sat.obj k p _ e
      show I.sat x (ρ'.b i) (ρ'.e i) h'
      rw [bR hk, eR hk]; exact this
  · rcases hput i p o e with ⟨hi, _, e⟩ | ⟨k, x, hk, e', rfl⟩
    · exact .inl (hn.sat.live i p o e)
    · rcases hk with ⟨hil, hk⟩ | ⟨hil, hk⟩
      · obtain ⟨p', o', q⟩ := hhas i (List.mem_of_getElem? hk)
        exact .inl (hn.sat.live i p' o' q)
      · exact .inr ⟨hil, nth_lt e⟩
  · have main : ∀ i k p o j q u, R i k → nth (G ++ N) k = some (p, o) → j ∉ σ → nth H j = some (q, u) → ∀ x, x ∈ ρ0'.blocks k → x ∉ ρ.blocks j := by
      intro i k p o j q u hk e1 hj e2 x h1 h2
      rcases hfr k i p o hk e1 x h1 with ⟨j', q', u', g1, g2, g3, _⟩ | g
      · exact hn.sat.apart j' j q' u' q u g1 e2 (fun z => by subst z; exact hj g2) x g3 h2
      · obtain ⟨z, hz⟩ := (hn.sat.obj j q u e2).here x h2
        rw [g] at hz; cases hz
    rcases hput i p o e1 with ⟨hi, hil, e1⟩ | ⟨k1, x1, hk1, e1, rfl⟩ <;> rcases hput j q u e2 with ⟨hj, hjl, e2⟩ | ⟨k2, x2, hk2, e2, rfl⟩
    · rw [show ρ'.blocks i = ρ.blocks i from eout i hi hil] at h1
      rw [show ρ'.blocks j = ρ.blocks j from eout j hj hjl] at h2
      exact hn.sat.apart i j p o q u e1 e2 hij x h1 h2
    · rw [show ρ'.blocks i = ρ.blocks i from eout i hi hil] at h1
      rw [show ρ'.blocks j = ρ0'.blocks k2 from eR hk2] at h2
      exact main j k2 q _ i p o hk2 e2 hi e1 x h2 h1
    · rw [show ρ'.blocks i = ρ0'.blocks k1 from eR hk1] at h1
      rw [show ρ'.blocks j = ρ.blocks j from eout j hj hjl] at h2
      exact main i k1 p _ j q u hk1 e1 hj e2 x h1 h2
    · rw [show ρ'.blocks i = ρ0'.blocks k1 from eR hk1] at h1
      rw [show ρ'.blocks j = ρ0'.blocks k2 from eR hk2] at h2
      exact n'.sat.apart k1 k2 p _ q _ e1 e2 (fun z => by subst z; exact hij (Rinj hk1 hk2)) x h1 h2
  · rw [List.length_append, putAll_len]
    rcases hx with hx | hx
    · have := hn.lt x hx; omega
    · rw [List.length_append, putAll_len] at hx; omega
  · rcases hput i p o' e with ⟨_, _, e⟩ | ⟨k, x, hk, e, rfl⟩
    · exact ⟨_, e⟩
    · rcases hk with ⟨_, hk⟩ | ⟨hil, _⟩
      · obtain ⟨o2, g⟩ := tr.perm k p _ (by rw [pick_len]; exact (List.getElem?_eq_some_iff.1 hk).1) e
        obtain ⟨j, x', hj, g4, rfl⟩ := hsrc k p o2 g
        rw [hk] at hj; cases hj
        exact ⟨_, g4⟩
      · omega
  · by_cases q : i ∈ σ
    · obtain ⟨k, hk⟩ := List.getElem?_of_mem q
      rw [eR (.inl ⟨hi, hk⟩), tr.keep k (by rw [pick_len]; exact (List.getElem?_eq_some_iff.1 hk).1) fun o e => by
        obtain ⟨j, x', hj, g4, rfl⟩ := hsrc k true o e
        rw [hk] at hj; cases hj
        exact hrr _ g4]
      exact he0 k i hk
    · exact eout i q hi
  · rcases hput i p o e with ⟨hi, hil, e⟩ | ⟨k, x', hk, e, rfl⟩
    · rw [show ρ'.blocks i = ρ.blocks i from eout i hi hil] at hx
      exact .inl ⟨i, p, o, e, hx, .inr rfl⟩
    · rw [show ρ'.blocks i = ρ0'.blocks k from eR hk] at hx
      rcases hfr k i p _ hk e x hx with ⟨j, q, u, g1, _, g3, g4⟩ | g
      · exact .inl ⟨j, q, u, g1, g3, g4⟩
      · exact .inr g
  · exact hkeep x o e fun j u _ g => hx j u g
/-- What is known behind a call, forgotten in part. -/
theorem FWP.less {f : FuncId} {args : List Value} {H : AH X} {K K' : Value → AH X → Prop} (h : FWP P I f args H K) (hK : ∀ v G, K v G → ∃ G', K' v G' ∧ G'.length = G.length ∧ ∀ i p o, nth G' i = some (p, o) → nth G i = some (p, o)) : FWP P I f args H K' := by
  refine ⟨h.1, fun w0 w L hh ρ args' hn ha => (h.2 w0 w L hh ρ args' hn ha).mono fun e w' => ?_⟩
  rintro ⟨v, v', G, ρ', h', he, hk, n', tr, hv⟩
  obtain ⟨G', k', hl, hs⟩ := hK v G hk
  refine ⟨v, v', G', ρ', h', he, k', ?_, ⟨by rw [hl]; exact tr.le, tr.base, fun i p o hi q => tr.perm i p o hi (hs i p o q), tr.keep, fun i p o q => tr.fresh i p o (hs i p o q), tr.frame, tr.dom⟩, by rw [hl]; exact hv⟩
  rw [hl]
  exact ⟨n'.mem, n'.sat.less fun i p o q => ⟨p, hs i p o q⟩, fun x hx => by rw [hl]; exact n'.lt x hx, n'.org⟩
end
end Go.Proofs.Ytdmodejpcfhbhaa
