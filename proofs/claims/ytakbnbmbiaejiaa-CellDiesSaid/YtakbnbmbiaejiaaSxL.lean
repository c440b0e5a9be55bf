/- What a closed function answers; a function that is known to answer true. -/
import Derived.Test.YtakbnbmbiaejiaaSxK
namespace Go.Proofs.Ytakbnbmbiaejiaa
open Go.RowKit

theorem closed {f : FuncId} {v : Value} (h : fevD Try.prog envC 40 f [] [] (fun a b => a = v ∧ b = []) = (v = v ∧ ([] : HX) = [])) : FWP Try.prog means f [] [] fun a b => a = v ∧ b = [] :=
  run_closed (h.mpr ⟨rfl, rfl⟩)

/-- In whatever memory. -/
theorem FWP.frame0 {X : Type} {P : Program} {I : Means X} {f : FuncId} {v : Value} {n : Nat} (hv : scal n v = true) (h : FWP P I f [] [] fun a b => a = v ∧ b = []) (H : AH X) : FWP P I f [] H fun a b => a = v ∧ b = H := by
  refine ⟨h.1, fun w0 w L hh ρ args' hn ha => ?_⟩
  cases ha
  refine (h.2 w0 w (fun _ => False) hh ρ [] ⟨hn.mem, ⟨fun i p o e => by simp [nth] at e, fun i p o e => by simp [nth] at e, fun i j p o q u e => by simp [nth] at e⟩, fun x hx => hx.elim⟩ .nil).mono fun e w' => ?_
  rintro ⟨v1, v', H', ρ', h', he, ⟨rfl, rfl⟩, n', tr, hr⟩
  obtain rfl := scal_eq n hv hr
  have hk : ∀ x o, hh x = some o → h' x = some o := fun x o e => tr.frame x o e fun i u hi => by simp [nth] at hi
  have hs : ∀ i p o, nth H i = some (p, o) → ∀ k, k ∈ ρ.blocks i → h' k = hh k := fun i p o e k hk' => by
    obtain ⟨u, hu⟩ := (hn.sat.obj i p o e).here k hk'
    rw [hk k u hu, hu]
  refine ⟨_, _, H, ρ, h', he, ⟨rfl, rfl⟩, ⟨n'.mem, ⟨fun i p o e => (hn.sat.obj i p o e).mono (fun x hx => ⟨.inl hx, rfl⟩) rfl rfl (hs i p o e), fun i p o e => .inl (hn.sat.live i p o e), hn.sat.apart⟩, fun x hx => ?_⟩, ⟨Nat.le_refl _, fun _ _ => rfl, fun i p o _ e => ⟨o, e⟩, fun _ _ _ => rfl, fun i p o e x hx => .inl ⟨nth_lt e, hx⟩, fun x o e _ => hk x o e, fun x o e => ⟨o, hk x o e⟩⟩, scal_refl n hv⟩
  rcases hx with hx | hx
  · exact hn.lt x hx
  · omega

def dTrue : DetT
  | [], H => some (.bool true, H)
  | _, _ => none
noncomputable def envK (k : FuncId) : Env Ext := ⟨inls, fun f => match Nat.beq f k with | true => some (dt dTrue) | false => dets f, effs⟩
theorem envK_ok {k : FuncId} (hk : FWP Try.prog means k [] [] fun a b => a = .bool true ∧ b = []) : (envK k).Ok Try.prog means := by
  refine ⟨by kernel_rfl, inls_ok, fun f s h args H v H' hs => ?_⟩
  unfold envK at h
  simp only at h
  split at h
  · rename_i e
    obtain rfl := Nat.eq_of_beq_eq_true e
    cases h
    have hs : dTrue args H = some (v, H') := by rw [← DT.out_of (dTrue args H)]; exact hs
    unfold dTrue at hs
    split at hs <;> try (cases hs; done)
    cases hs
    exact FWP.frame0 (n := 1) rfl hk _
  · exact dets_ok f s h args H v H' hs

/-- A law's walk, from its reckoning. -/
theorem law_walk {E : Env Ext} (hE : E.Ok Try.prog means) {f : FuncId} {args : List Value} {n : Nat} (ha : args.all (scal n) = true) (h : FWP Try.prog means f args [] fun a _ => a = .bool true) (w : World) :
    Calls Try.prog f ⟨args⟩ w fun e w' => e = .returned (.bool true) ∧ Below w.heap.size w w' := by
  have _ := hE
  refine (h.2 w w (fun _ => False) none0 ⟨fun i => i, fun _ => []⟩ args ⟨Mem.start w, ⟨fun i p o e => by simp [nth] at e, fun i p o e => by simp [nth] at e, fun i j p o q u e => by simp [nth] at e⟩, fun x hx => hx.elim⟩ (scals_rel ha)).mono fun e w' => ?_
  rintro ⟨v1, v', H', ρ', h', he, rfl, n', tr, hr⟩
  rw [hr.bool_eq] at he
  exact ⟨he, n'.mem.below⟩

theorem brP {c : Bool} {A B : Prop} (h1 : c = true → A) (h0 : c = false → B) : @Bool.rec (fun _ => Prop) B A c := by
  cases c
  · exact h0 rfl
  · exact h1 rfl
theorem brT {c : Bool} {A B : Prop} (h : c = true) (hA : A) : @Bool.rec (fun _ => Prop) B A c := by subst h; exact hA
theorem brF {c : Bool} {A B : Prop} (h : c = false) (hB : B) : @Bool.rec (fun _ => Prop) B A c := by subst h; exact hB
theorem fevD_fwp {E : Env Ext} (hE : E.Ok Try.prog means) {d : Nat} {f : FuncId} {args : List Value} {H : HX} {K : Value → HX → Prop} (h : fevD Try.prog E d f args H K) : FWP Try.prog means f args H K := fevD_sound hE d f args H K h
end Go.Proofs.Ytakbnbmbiaejiaa
