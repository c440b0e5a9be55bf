/- An object turned, an object made. No program is named here. -/
import Derived.Test.YtakbnbmbiaejiaaSxI
namespace Go.Proofs.Ytakbnbmbiaejiaa
open Go.RowKit

section
variable {X : Type} {I : Means X} {w0 w w' : World} {L : Nat → Prop} {ρ : Ren} {H : AH X} {h h' : GH}
/-- One object has turned, in its own blocks. -/
theorem Now.turn (hn : Now I w0 L ρ H h w) {i : Nat} {o o' : AObj X} (hi : nth H i = some (true, o)) (hm : Mem w0 h' w') (ho : OSat I L ρ i h' o') (hk : ∀ k, k ∉ ρ.blocks i → h' k = h k) :
    Now I w0 L ρ (put H i (some (true, o'))) h' w' ∧ Tr ρ H h ρ (put H i (some (true, o'))) h' := by
  obtain ⟨m, s, hL⟩ := hn
  have hlt := nth_lt hi
  have hnth : ∀ j p u, nth (put H i (some (true, o'))) j = some (p, u) → (j ≠ i ∧ nth H j = some (p, u)) ∨ (j = i ∧ p = true ∧ u = o') := by
    intro j p u e
    rw [nth_put] at e
    by_cases q : i = j ∧ i < H.length
    · rw [if_pos q] at e; simp at e; exact .inr ⟨q.1.symm, e.1, e.2.symm⟩
    · rw [if_neg q] at e; exact .inl ⟨fun e2 => q ⟨e2.symm, hlt⟩, e⟩
  have hne : ∀ j p u, j ≠ i → nth H j = some (p, u) → ∀ k, k ∈ ρ.blocks j → k ∉ ρ.blocks i := fun j p u hj e k hk => s.apart j i p u _ _ e hi hj k hk
  have g : ∀ j p u, nth (put H i (some (true, o'))) j = some (p, u) → ∃ u', nth H j = some (p, u') := fun j p u e => by
    rcases hnth j p u e with ⟨_, e⟩ | ⟨rfl, rfl, rfl⟩
    · exact ⟨_, e⟩
    · exact ⟨_, hi⟩
  refine ⟨⟨hm, ⟨fun j p u e => ?_, fun j p u e => ?_, fun j k p u q v e1 e2 hjk x h1 h2 => ?_⟩, fun x hx => by simpa using hL x hx⟩, by simp, fun _ _ => rfl, fun j p u hj e => g j p u e, fun _ _ _ => rfl, fun j p u e x hx => ?_, fun x u e hx => ?_, fun x u e => ?_⟩
  · rcases hnth j p u e with ⟨hj, e⟩ | ⟨rfl, rfl, rfl⟩
    · exact OSat.mono (fun x hx => ⟨hx, rfl⟩) rfl rfl (fun k hk' => hk k (hne j p u hj e k hk')) (s.obj j p u e)
    · exact ho
  · obtain ⟨u', e'⟩ := g j p u e; exact s.live j p u' e'
  · obtain ⟨_, g1⟩ := g j p u e1
    obtain ⟨_, g2⟩ := g k q v e2
    exact s.apart j k _ _ _ _ g1 g2 hjk x h1 h2
  · obtain ⟨_, g1⟩ := g j p u e
    exact .inl ⟨nth_lt g1, hx⟩
  · rw [hk x (hx i o hi)]; exact e
  · by_cases q : x ∈ ρ.blocks i
    · exact ho.here x q
    · exact ⟨u, by rw [hk x q]; exact e⟩

/-- An object has been made. -/
theorem Now.made (hn : Now I w0 L ρ H h w) {b : Nat} {es : List Nat} {x : X} (hm : Mem w0 h' w') (ho : I.sat x b es h') (hf : ∀ k, k ∈ b :: es → h k = none) (hk : ∀ k, k ∉ b :: es → h' k = h k) :
    ∃ ρ', Now I w0 (LU L H.length (H.length + 1)) ρ' (H ++ [some (true, .ext x)]) h' w' ∧ Tr ρ H h ρ' (H ++ [some (true, .ext x)]) h' ∧ ρ'.b H.length = b := by
  obtain ⟨m, s, hL⟩ := hn
  let ρ' : Ren := ⟨fun i => if i = H.length then b else ρ.b i, fun i => if i = H.length then es else ρ.e i⟩
  have hb : ∀ i, i < H.length → ρ'.b i = ρ.b i := fun i hi => if_neg (by omega)
  have he : ∀ i, i < H.length → ρ'.e i = ρ.e i := fun i hi => if_neg (by omega)
  have hbl : ∀ i, i < H.length → ρ'.blocks i = ρ.blocks i := fun i hi => by unfold Ren.blocks; rw [hb i hi, he i hi]
  have hnew : ρ'.blocks H.length = b :: es := by unfold Ren.blocks; simp [ρ']
  have hnth : ∀ i p o, nth (H ++ [some (true, AObj.ext x)]) i = some (p, o) → (i < H.length ∧ nth H i = some (p, o)) ∨ (i = H.length ∧ p = true ∧ o = .ext x) := by
    intro i p o e
    rw [nth_append] at e
    by_cases q : i < H.length
    · rw [if_pos q] at e; exact .inl ⟨q, e⟩
    · rw [if_neg q] at e
      have := nth_lt e
      simp at this
      have e0 : i = H.length := by omega
      subst e0
      simp [nth] at e
      exact .inr ⟨rfl, e.1, e.2.symm⟩
  have hne : ∀ k, (∃ o, h k = some o) → k ∉ b :: es := fun k ⟨o, ho⟩ e => by rw [hf k e] at ho; cases ho
  refine ⟨ρ', ⟨hm, ⟨fun i p o e => ?_, fun i p o e => ?_, fun i j p o q u e1 e2 hij z h1 h2 => ?_⟩, fun z hz => ?_⟩, ⟨by simp, hb, fun i p o' hi e => ?_, fun i hi _ => he i hi, fun i p o e z hz => ?_, fun z o e _ => ?_, fun z o e => ?_⟩, by simp [ρ']⟩
  · rcases hnth i p o e with ⟨hi, e⟩ | ⟨rfl, rfl, rfl⟩
    · exact OSat.mono (fun z hz => ⟨.inl hz, hb z (hL z hz)⟩) (hb i hi) (he i hi) (fun k hk' => hk k (hne k ((s.obj i p o e).here k hk'))) (s.obj i p o e)
    · show I.sat x (ρ'.b H.length) (ρ'.e H.length) h'
      simpa [ρ'] using ho
  · rcases hnth i p o e with ⟨hi, e⟩ | ⟨rfl, rfl, rfl⟩
    · exact .inl (s.live i p o e)
    · exact .inr ⟨Nat.le_refl _, by omega⟩
  · rcases hnth i p o e1 with ⟨hi, e1⟩ | ⟨rfl, rfl, rfl⟩ <;> rcases hnth j q u e2 with ⟨hj, e2⟩ | ⟨rfl, rfl, rfl⟩
    · rw [hbl i hi] at h1; rw [hbl j hj] at h2; exact s.apart i j p o q u e1 e2 hij z h1 h2
    · rw [hbl i hi] at h1; rw [hnew] at h2; exact hne z ((s.obj i p o e1).here z h1) h2
    · rw [hbl j hj] at h2; rw [hnew] at h1; exact hne z ((s.obj j q u e2).here z h2) h1
    · exact hij rfl
  · rcases hz with hz | hz
    · have := hL z hz; simp; omega
    · simp; omega
  · rcases hnth i p o' e with ⟨_, e⟩ | ⟨rfl, _⟩
    · exact ⟨_, e⟩
    · omega
  · rcases hnth i p o e with ⟨hi, e⟩ | ⟨rfl, rfl, rfl⟩
    · rw [hbl i hi] at hz; exact .inl ⟨hi, hz⟩
    · rw [hnew] at hz; exact .inr (hf z hz)
  · rw [hk z (hne z ⟨o, e⟩)]; exact e
  · exact ⟨o, by rw [hk z (hne z ⟨o, e⟩)]; exact e⟩

/-- New blocks that nobody looks at. -/
theorem Now.grow (hn : Now I w0 L ρ H h w) (m : Mem w0 h w') : Now I w0 L ρ H h w' := ⟨m, hn.sat, hn.lt⟩
end

section
variable {X : Type} {P : Program} {I : Means X}
/-- A contract by what was there, told. -/
theorem FWP.of {f : FuncId} {args : List Value} {H : AH X} {K : Value → AH X → Prop} (h1 : ∀ xs w, (callFunc f xs).run P w = .ok (.enter f xs) w)
    (h2 : ∀ w0 w L h ρ args', Now I w0 L ρ H h w → VRL L ρ.b args args' → Calls P f ⟨args'⟩ w fun e w' => ∃ v v' H' ρ' h', e = .returned v' ∧ K v H' ∧ Now I w0 (LU L H.length H'.length) ρ' H' h' w' ∧ Tr ρ H h ρ' H' h' ∧ VR (LU L H.length H'.length) ρ'.b v v') : FWP P I f args H K := ⟨h1, h2⟩
/-- It leaves what is known as it is, and hands back what bears no address. -/
theorem FWP.quiet {f : FuncId} {args : List Value} {H : AH X} {r : Value} {k : Nat} (hr : scal k r = true) (h1 : ∀ xs w, (callFunc f xs).run P w = .ok (.enter f xs) w)
    (h2 : ∀ w0 w L h ρ args', Now I w0 L ρ H h w → VRL L ρ.b args args' → Calls P f ⟨args'⟩ w fun e w' => e = .returned r ∧ Mem w0 h w') : FWP P I f args H fun a b => a = r ∧ b = H :=
  ⟨h1, fun w0 w L h ρ args' hn ha => (h2 w0 w L h ρ args' hn ha).mono fun _ _ ⟨he, m⟩ => ⟨r, r, H, ρ, h, he, ⟨rfl, rfl⟩, (hn.grow m).lu, Tr.refl _ _ _, scal_refl k hr⟩⟩
/-- It turns one object. -/
theorem FWP.turns {f : FuncId} {args : List Value} {H : AH X} {r : Value} {k i : Nat} {o o' : AObj X} (hr : scal k r = true) (hi : nth H i = some (true, o)) (h1 : ∀ xs w, (callFunc f xs).run P w = .ok (.enter f xs) w)
    (h2 : ∀ w0 w L h ρ args', Now I w0 L ρ H h w → VRL L ρ.b args args' → Calls P f ⟨args'⟩ w fun e w' => e = .returned r ∧ ∃ h', Mem w0 h' w' ∧ OSat I L ρ i h' o' ∧ ∀ k, k ∉ ρ.blocks i → h' k = h k) : FWP P I f args H fun a b => a = r ∧ b = put H i (some (true, o')) :=
  ⟨h1, fun w0 w L h ρ args' hn ha => (h2 w0 w L h ρ args' hn ha).mono fun _ _ ⟨he, h', m, ho, hk⟩ => by
    obtain ⟨n1, n2⟩ := hn.turn hi m ho hk
    exact ⟨r, r, _, ρ, h', he, ⟨rfl, rfl⟩, by rw [put_len]; exact n1.lu, n2, scal_refl k hr⟩⟩
end
end Go.Proofs.Ytakbnbmbiaejiaa
