/- An object turned, an object made. No program is named here. -/
import Derived.Test.YtdmodejpcfhbhaaSxI
namespace Go.Proofs.Ytdmodejpcfhbhaa
open Go.RowKit

section
variable {X : Type} {I : Means X} {w0 w w' : World} {L : Nat → Prop} {ρ : Ren} {H : AH X} {h h' : GH}
/-- One object has turned, in its own blocks. -/
theorem Now.turn (hn : Now I w0 L ρ H h w) {i : Nat} {o o' : AObj X} (hi : nth H i = some (true, o)) (hm : Mem w0 h' w') (ho : OSat I L ρ i h' o') (hk : ∀ k, k ∉ ρ.blocks i → h' k = h k) :
    Now I w0 L ρ (put H i (some (true, o'))) h' w' ∧ Tr ρ H h ρ (put H i (some (true, o'))) h' := by
  obtain ⟨m, s, hL, org⟩ := hn
  have hlt := nth_lt hi
  have hnth : ∀ j p u, nth (put H i (some (true, o'))) j = some (p, u) → (j ≠ i ∧ nth H j = some (p, u)) ∨ (j = i ∧ p = true ∧ u = o') := by
    intro j p u e
    rw [nth_put] at e
    by_cases q : i = j ∧ i < H.length
    · rw [if_pos q] at e; simp at e; exact .inr ⟨q.1.symm, e.1, e.2.symm⟩
    · rw [if_neg q] at e; exact .inl ⟨fun e2 => q ⟨e2.symm, hlt⟩, e⟩
  have hne : ∀ j p u, j ≠ i → nth H j = some (p, u) → ∀ k, k ∈ ρ.blocks j → k ∉ ρ.blocks i := fun j p u hj e k hk => s.apart j i p u _ _ e hi hj k hk
  have g : ∀ j p u, nth (put H i (some (true, o'))) j = some (p, u) → ∃ u', nth H j = some (p, u') := fun j p u e => by
    rcases hnth j p u e with ⟨_, e⟩ | ⟨rfl, rfl, rfl⟩
    · exact ⟨_, e⟩
    · exact ⟨_, hi⟩
  refine ⟨⟨hm, ⟨fun j p u e => ?_, fun j p u e => ?_, fun j k p u q v e1 e2 hjk x h1 h2 => ?_⟩, fun x hx => by simpa using hL x hx, org⟩, by simp, fun _ _ => rfl, fun j p u hj e => g j p u e, fun _ _ _ => rfl, fun j p u e x hx => ?_, fun x u e hx => ?_, fun x u e => ?_⟩
  · rcases hnth j p u e with ⟨hj, e⟩ | ⟨rfl, rfl, rfl⟩
    · exact OSat.mono (fun x hx => ⟨hx, rfl⟩) rfl rfl (fun k hk' => hk k (hne j p u hj e k hk')) (s.obj j p u e)
    · exact ho
  · obtain ⟨u', e'⟩ := g j p u e; exact s.live j p u' e'
  · obtain ⟨_, g1⟩ := g j p u e1
    obtain ⟨_, g2⟩ := g k q v e2
    exact s.apart j k _ _ _ _ g1 g2 hjk x h1 h2
  · obtain ⟨_, g1⟩ := g j p u e
    exact .inl ⟨j, p, _, g1, hx, .inr rfl⟩
  · rw [hk x (hx i o hi)]; exact e
  · by_cases q : x ∈ ρ.blocks i
    · exact ho.here x q
    · exact ⟨u, by rw [hk x q]; exact e⟩

/-- An object has been made; another one may have gone into it. -/
theorem Now.swap (hn : Now I w0 L ρ H h w) {G : AH X} (hG : ∀ j p u, nth G j = some (p, u) → nth H j = some (p, u)) (hGl : G.length = H.length) {b : Nat × Nat} {es : List Nat} {x : X} (hm : Mem w0 h' w') (ho : I.sat x b es h')
    (hf : ∀ k, k ∈ es → h k = none ∨ ∃ i u, nth H i = some (true, u) ∧ nth G i = none ∧ k ∈ ρ.blocks i)
    (hk : ∀ k, k ∉ es → (∀ i u, nth H i = some (true, u) → nth G i = none → k ∉ ρ.blocks i) → h' k = h k) (hd : ∀ k o, h k = some o → ∃ o', h' k = some o') :
    ∃ ρ', Now I w0 (LU L H.length (H.length + 1)) ρ' (G ++ [some (true, .ext x)]) h' w' ∧ Tr ρ H h ρ' (G ++ [some (true, .ext x)]) h' ∧ ρ'.b H.length = b := by
  obtain ⟨m, s, hL, org⟩ := hn
  let ρ' : Ren := ⟨fun i => if i = H.length then b else ρ.b i, fun i => if i = H.length then es else ρ.e i⟩
  have hb : ∀ i, i < H.length → ρ'.b i = ρ.b i := fun i hi => if_neg (by omega)
  have he : ∀ i, i < H.length → ρ'.e i = ρ.e i := fun i hi => if_neg (by omega)
  have hbl : ∀ i, i < H.length → ρ'.blocks i = ρ.blocks i := fun i hi => by unfold Ren.blocks; rw [he i hi]
  have hnew : ρ'.blocks H.length = es := by unfold Ren.blocks; simp [ρ']
  have hnth : ∀ i p o, nth (G ++ [some (true, AObj.ext x)]) i = some (p, o) → (i < H.length ∧ nth G i = some (p, o) ∧ nth H i = some (p, o)) ∨ (i = H.length ∧ p = true ∧ o = .ext x) := by
    intro i p o e
    rw [nth_append] at e
    by_cases q : i < G.length
    · rw [if_pos q] at e; exact .inl ⟨by omega, e, hG i p o e⟩
    · rw [if_neg q] at e
      have := nth_lt e
      simp at this
      have e0 : i = H.length := by omega
      subst e0
      rw [show H.length - G.length = 0 from by omega] at e
      simp [nth] at e
      exact .inr ⟨rfl, e.1, e.2.symm⟩
  have hapart : ∀ j p u, nth G j = some (p, u) → ∀ k, k ∈ ρ.blocks j → k ∉ es ∧ ∀ i v, nth H i = some (true, v) → nth G i = none → k ∉ ρ.blocks i := by
    intro j p u e k hkj
    have e' := hG j p u e
    have h2 : ∀ i v, nth H i = some (true, v) → nth G i = none → k ∉ ρ.blocks i := fun i v hi hgi => s.apart j i p u true v e' hi (fun q => by subst q; rw [hgi] at e; cases e) k hkj
    refine ⟨fun hes => ?_, h2⟩
    rcases hf k hes with q | ⟨i, v, hi, hgi, q⟩
    · obtain ⟨o, q'⟩ := (s.obj j p u e').here k hkj; rw [q] at q'; cases q'
    · exact h2 i v hi hgi q
  refine ⟨ρ', ⟨hm, ⟨fun i p o e => ?_, fun i p o e => ?_, fun i j p o q u e1 e2 hij z h1 h2 => ?_⟩, fun z hz => ?_, org⟩, ⟨by simp [hGl], hb, fun i p o' hi e => ?_, fun i hi _ => he i hi, fun i p o e z hz => ?_, fun z o e hz => ?_, hd⟩, by simp [ρ']⟩
  · rcases hnth i p o e with ⟨hi, e1, e⟩ | ⟨rfl, rfl, rfl⟩
    · exact OSat.mono (fun z hz => ⟨.inl hz, hb z (hL z hz)⟩) (hb i hi) (he i hi) (fun k hk' => hk k (hapart i p o e1 k hk').1 (hapart i p o e1 k hk').2) (s.obj i p o e)
    · show I.sat x (ρ'.b H.length) (ρ'.e H.length) h'
      simpa [ρ'] using ho
  · rcases hnth i p o e with ⟨hi, _, e⟩ | ⟨rfl, rfl, rfl⟩
    · exact .inl (s.live i p o e)
    · exact .inr ⟨Nat.le_refl _, by omega⟩
  · rcases hnth i p o e1 with ⟨hi, g1, e1⟩ | ⟨rfl, rfl, rfl⟩ <;> rcases hnth j q u e2 with ⟨hj, g2, e2⟩ | ⟨rfl, rfl, rfl⟩
    · rw [hbl i hi] at h1; rw [hbl j hj] at h2; exact s.apart i j p o q u e1 e2 hij z h1 h2
    · rw [hbl i hi] at h1; rw [hnew] at h2; exact (hapart i p o g1 z h1).1 h2
    · rw [hbl j hj] at h2; rw [hnew] at h1; exact (hapart j q u g2 z h2).1 h1
    · exact hij rfl
  · rcases hz with hz | hz
    · have := hL z hz; simp; omega
    · simp; omega
  · rcases hnth i p o' e with ⟨_, _, e⟩ | ⟨rfl, _⟩
    · exact ⟨_, e⟩
    · omega
  · rcases hnth i p o e with ⟨hi, _, e⟩ | ⟨rfl, rfl, rfl⟩
    · rw [hbl i hi] at hz; exact .inl ⟨i, p, o, e, hz, .inr rfl⟩
    · rw [hnew] at hz
      rcases hf z hz with q | ⟨i, v, hi, _, q⟩
      · exact .inr q
      · exact .inl ⟨i, true, v, hi, q, .inl rfl⟩
  · by_cases q : z ∈ es
    · rcases hf z q with q' | ⟨i, v, hi, _, q'⟩
      · rw [e] at q'; cases q'
      · exact absurd q' (hz i v hi)
    · rw [hk z q fun i v hi _ => hz i v hi]; exact e
/-- An object has been made. -/
theorem Now.made (hn : Now I w0 L ρ H h w) {b : Nat × Nat} {es : List Nat} {x : X} (hm : Mem w0 h' w') (ho : I.sat x b es h') (hf : ∀ k, k ∈ es → h k = none) (hk : ∀ k, k ∉ es → h' k = h k) :
    ∃ ρ', Now I w0 (LU L H.length (H.length + 1)) ρ' (H ++ [some (true, .ext x)]) h' w' ∧ Tr ρ H h ρ' (H ++ [some (true, .ext x)]) h' ∧ ρ'.b H.length = b :=
  hn.swap (fun _ _ _ e => e) rfl hm ho (fun k q => .inl (hf k q)) (fun k q _ => hk k q) fun k o e => ⟨o, by rw [hk k (fun q => by rw [hf k q] at e; cases e)]; exact e⟩

/-- New blocks that nobody looks at. -/
theorem Now.grow (hn : Now I w0 L ρ H h w) (m : Mem w0 h w') : Now I w0 L ρ H h w' := ⟨m, hn.sat, hn.lt, hn.org⟩
end

section
variable {X : Type} {P : Program} {I : Means X}
/-- A contract by what was there, told. -/
theorem FWP.of {f : FuncId} {args : List Value} {H : AH X} {K : Value → AH X → Prop} (h1 : ∀ xs w, (callFunc f xs).run P w = .ok (.enter f xs) w)
    (h2 : ∀ w0 w L h ρ args', Now I w0 L ρ H h w → VRL L ρ.b args args' → Calls P f ⟨args'⟩ w fun e w' => ∃ v v' H' ρ' h', e = .returned v' ∧ K v H' ∧ Now I w0 (LU L H.length H'.length) ρ' H' h' w' ∧ Tr ρ H h ρ' H' h' ∧ VR (LU L H.length H'.length) ρ'.b v v') : FWP P I f args H K := ⟨h1, h2⟩
/-- It leaves what is known as it is, and hands back what bears no address. -/
theorem FWP.quiet {f : FuncId} {args : List Value} {H : AH X} {r : Value} {k : Nat} (hr : scal k r = true) (h1 : ∀ xs w, (callFunc f xs).run P w = .ok (.enter f xs) w)
    (h2 : ∀ w0 w L h ρ args', Now I w0 L ρ H h w → VRL L ρ.b args args' → Calls P f ⟨args'⟩ w fun e w' => e = .returned r ∧ Mem w0 h w') : FWP P I f args H fun a b => a = r ∧ b = H :=
  ⟨h1, fun w0 w L h ρ args' hn ha => (h2 w0 w L h ρ args' hn ha).mono fun _ _ ⟨he, m⟩ => ⟨r, r, H, ρ, h, he, ⟨rfl, rfl⟩, (hn.grow m).lu, Tr.refl _ _ _, scal_refl k hr⟩⟩
/-- It turns one object. -/
theorem FWP.turns {f : FuncId} {args : List Value} {H : AH X} {r : Value} {k i : Nat} {o o' : AObj X} (hr : scal k r = true) (hi : nth H i = some (true, o)) (h1 : ∀ xs w, (callFunc f xs).run P w = .ok (.enter f xs) w)
    (h2 : ∀ w0 w L h ρ args', Now I w0 L ρ H h w → VRL L ρ.b args args' → Calls P f ⟨args'⟩ w fun e w' => e = .returned r ∧ ∃ h', Mem w0 h' w' ∧ OSat I L ρ i h' o' ∧ ∀ k, k ∉ ρ.blocks i → h' k = h k) : FWP P I f args H fun a b => a = r ∧ b = put H i (some (true, o')) :=
  ⟨h1, fun w0 w L h ρ args' hn ha => (h2 w0 w L h ρ args' hn ha).mono fun _ _ ⟨he, h', m, ho, hk⟩ => by
    obtain ⟨n1, n2⟩ := hn.turn hi m ho hk
    exact ⟨r, r, _, ρ, h', he, ⟨rfl, rfl⟩, by rw [put_len]; exact n1.lu, n2, scal_refl k hr⟩⟩
end

/-! ### Operations -/
section
variable {X : Type} {P : Program} {I : Means X}
/-- It goes one way alone. -/
theorem OWP.of {o : Oper} {vs : List Value} {H : AH X} {r : Value} {H' : AH X}
    (h : ∀ (w0 w : World) (L : Nat → Prop) (h : GH) (ρ : Ren) (ev : Operand → Value), Now I w0 L ρ H h w → VRL L ρ.b vs ((opndsL o.op).map ev) →
      ∃ v' ρ' h' w', (execOp ev o).run P w = .ok (.value v') w' ∧ Now I w0 (LU L H.length H'.length) ρ' H' h' w' ∧ Tr ρ H h ρ' H' h' ∧ VR (LU L H.length H'.length) ρ'.b r v') : OWP P I o vs H fun a b => a = r ∧ b = H' :=
  fun w0 w L h' ρ a hn hv _ _ hq => by
    obtain ⟨v', ρ', h'', w', h1, h2, h3, h4⟩ := h w0 w L h' ρ a.eval hn hv
    exact wp_val h1 (hq r v' H' ρ' h'' w' ⟨rfl, rfl⟩ h2 h3 h4)
/-- The same, of one that gives no value. -/
theorem OWP.skp {o : Oper} {vs : List Value} {H : AH X} {H' : AH X}
    (h : ∀ (w0 w : World) (L : Nat → Prop) (h : GH) (ρ : Ren) (ev : Operand → Value), Now I w0 L ρ H h w → VRL L ρ.b vs ((opndsL o.op).map ev) →
      ∃ ρ' h' w', (execOp ev o).run P w = .ok .skip w' ∧ Now I w0 (LU L H.length H'.length) ρ' H' h' w' ∧ Tr ρ H h ρ' H' h') : OWP P I o vs H fun a b => a = undef ∧ b = H' :=
  fun w0 w L h' ρ a hn hv _ _ hq => by
    obtain ⟨ρ', h'', w', h1, h2, h3⟩ := h w0 w L h' ρ a.eval hn hv
    exact wp_skp h1 (hq undef undef H' ρ' h'' w' ⟨rfl, rfl⟩ h2 h3 (.plain rfl))
/-- It looks alone. -/
theorem OWP.look {o : Oper} {vs : List Value} {H : AH X} {r : Value}
    (h : ∀ (w0 w : World) (L : Nat → Prop) (h : GH) (ρ : Ren) (ev : Operand → Value), Now I w0 L ρ H h w → VRL L ρ.b vs ((opndsL o.op).map ev) →
      ∃ v', (execOp ev o).run P w = .ok (.value v') w ∧ VR L ρ.b r v') : OWP P I o vs H fun a b => a = r ∧ b = H :=
  OWP.of fun w0 w L h' ρ ev hn hv => by
    obtain ⟨v', h1, h2⟩ := h w0 w L h' ρ ev hn hv
    exact ⟨v', ρ, h', w, h1, hn.lu, Tr.refl _ _ _, h2.mono fun x hx => ⟨.inl hx, rfl⟩⟩
theorem val_run {P : Program} {s : Sem Value} {v : Value} {w w1 : World} (e : s.run P w = .ok v w1) : (do pure (.value (← s)) : Sem Next).run P w = .ok (.value v) w1 := by rw [bnd_run e]; rfl
end

/-! ### Numbers told anew -/
/-- Numbers below m stay; further ones are told by a list: which one comes to stand at m, m + 1, .. -/
def rnId (m : Nat) (σ : List Nat) (i : Nat) : Option Nat :=
  match Nat.blt i m with
  | true => some i
  | false => (go m σ)
where go : Nat → List Nat → Option Nat
  | _, [] => none
  | k, j :: l => match Nat.beq j i with
    | true => some k
    | false => go (k + 1) l
mutual
def rnV (m : Nat) (σ : List Nat) : Value → Option Value
  | .pointer (some ⟨i, o, none⟩) => (match rnId m σ i with | some j => some (.pointer (some ⟨j, o, none⟩)) | none => none)
  | .slice (some ⟨i, o, none⟩) l c => (match rnId m σ i with | some j => some (.slice (some ⟨j, o, none⟩) l c) | none => none)
  | .slice (some ⟨i, o, some k⟩) l c => (match Nat.beq c 1 && Nat.beq l 0 && Nat.beq k 0 && Nat.beq o 0 && Nat.beq i 0 with
    | true => some (.slice (some ⟨0, 0, some 0⟩) 0 1)
    | false => (match rnId m σ i with | some j => some (.slice (some ⟨j, o, some k⟩) l c) | none => none))
  | .map (some i) => (match rnId m σ i with | some j => some (.map (some j)) | none => none)
  | .iface t v => (match rnV m σ v with | some u => some (.iface t u) | none => none)
  | .agg ⟨l⟩ => (match rnL m σ l with | some r => some (.agg ⟨r⟩) | none => none)
  | .tuple ⟨l⟩ => (match rnL m σ l with | some r => some (.tuple ⟨r⟩) | none => none)
  | .func f ⟨l⟩ ⟨c⟩ => (match rnL m σ l, rnL m σ c with | some r, some q => some (.func f ⟨r⟩ ⟨q⟩) | _, _ => none)
  | v => match plain v with | true => some v | false => none
def rnL (m : Nat) (σ : List Nat) : List Value → Option (List Value)
  | [] => some []
  | v :: l => match rnV m σ v with
    | some u => (match rnL m σ l with | some r => some (u :: r) | none => none)
    | none => none
end
end Go.Proofs.Ytdmodejpcfhbhaa
