/- What a closed function answers; a function that is known to answer true. -/
import Derived.Test.YtdmodejpcfhbhaaSxK
namespace Go.Proofs.Ytdmodejpcfhbhaa
open Go.RowKit
variable {W : World}

theorem closed {f : FuncId} {v : Value} (h : fevD Try.prog envC 40 f [] [] (fun a b => a = v ∧ b = []) = (v = v ∧ ([] : HX) = [])) : FWP Try.prog (means W) f [] [] fun a b => a = v ∧ b = [] :=
  run_closed (h.mpr ⟨rfl, rfl⟩)

/-- In whatever memory. -/
theorem FWP.frame0 {X : Type} {P : Program} {I : Means X} {f : FuncId} {v : Value} {n : Nat} (hv : scal n v = true) (h : FWP P I f [] [] fun a b => a = v ∧ b = []) (H : AH X) : FWP P I f [] H fun a b => a = v ∧ b = H := by
  refine ⟨h.1, fun w0 w L hh ρ args' hn ha => ?_⟩
  cases ha
  refine (h.2 w0 w (fun _ => False) hh ρ [] ⟨hn.mem, ⟨fun i p o e => by simp [nth] at e, fun i p o e => by simp [nth] at e, fun i j p o q u e => by simp [nth] at e⟩, fun x hx => hx.elim, hn.org⟩ .nil).mono fun e w' => ?_
  rintro ⟨v1, v', H', ρ', h', he, ⟨rfl, rfl⟩, n', tr, hr⟩
  obtain rfl := scal_eq n hv hr
  have hk : ∀ x o, hh x = some o → h' x = some o := fun x o e => tr.frame x o e fun i u hi => by simp [nth] at hi
  have hs : ∀ i p o, nth H i = some (p, o) → ∀ k, k ∈ ρ.blocks i → h' k = hh k := fun i p o e k hk' => by
    obtain ⟨u, hu⟩ := (hn.sat.obj i p o e).here k hk'
    rw [hk k u hu, hu]
  refine ⟨_, _, H, ρ, h', he, ⟨rfl, rfl⟩, ⟨n'.mem, ⟨fun i p o e => (hn.sat.obj i p o e).mono (fun x hx => ⟨.inl hx, rfl⟩) rfl rfl (hs i p o e), fun i p o e => .inl (hn.sat.live i p o e), hn.sat.apart⟩, fun x hx => ?_, hn.org⟩, ⟨Nat.le_refl _, fun _ _ => rfl, fun i p o _ e => ⟨o, e⟩, fun _ _ _ => rfl, fun i p o e x hx => .inl ⟨i, p, o, e, hx, .inr rfl⟩, fun x o e _ => hk x o e, fun x o e => ⟨o, hk x o e⟩⟩, scal_refl n hv⟩
  rcases hx with hx | hx
  · exact hn.lt x hx
  · omega

def dTrue : DetT
  | [], H => some (.bool true, H)
  | _, _ => none
noncomputable def envK (k : FuncId) : Env Ext := ⟨inls, fun f => match Nat.beq f k with | true => some (dt dTrue) | false => dets f, effs, tellOps Try.prog⟩
theorem envK_ok {k : FuncId} (hk : FWP Try.prog (means W) k [] [] fun a b => a = .bool true ∧ b = []) : (envK k).Ok Try.prog (means W) := by
  refine ⟨by kernel_rfl, inls_ok, fun f s h args H v H' hs => ?_, tellOps_sound⟩
  unfold envK at h
  simp only at h
  split at h
  · rename_i e
    obtain rfl := Nat.eq_of_beq_eq_true e
    cases h
    have hs : dTrue args H = some (v, H') := by rw [← DT.out_of (dTrue args H)]; exact hs
    unfold dTrue at hs
    split at hs <;> try (cases hs; done)
    cases hs
    exact FWP.frame0 (n := 1) rfl hk _
  · exact dets_ok f s h args H v H' hs

/-- Another function is told, too. -/
def Env.add {X : Type} (E : Env X) (k : FuncId) (s : List Value → AH X → DT X) : Env X := { E with det := fun f => match Nat.beq f k with | true => some s | false => E.det f }
theorem Env.Ok.add {E : Env Ext} (hE : E.Ok Try.prog (means W)) {k : FuncId} {s : List Value → HX → DT Ext} (h : ∀ args H v H', (s args H).out = some (v, H') → FWP Try.prog (means W) k args H fun a b => a = v ∧ b = H') : (E.add k s).Ok Try.prog (means W) :=
  ⟨hE.mixed, hE.inl, fun f t e args H v H' q => by
    unfold Env.add at e
    simp only at e
    split at e
    · rename_i hb; cases e; rw [Nat.eq_of_beq_eq_true hb]; exact h args H v H' q
    · exact hE.det f t e args H v H' q, hE.op⟩
/-- Of a row that came in: where it lies, what is told of it. -/
structure OldRow where
  b : Nat
  lo : Nat
  n : Nat
  c : Rw
def OldRow.ok (W : World) (r : OldRow) : Prop := ∀ j, r.lo ≤ j → j < r.n → r.b < W.heap.size ∧ W.cell? ⟨r.b, j, none⟩ = some (r.c.get j)
def oldH (l : List OldRow) : HX := l.map fun r => some (false, .ext (.old r.lo r.n r.c))
theorem oldH_nth (l : List OldRow) (i : Nat) : nth (oldH l) i = (l[i]?).map fun r => (false, .ext (.old r.lo r.n r.c)) := by
  rw [nth_eq]; unfold oldH; rw [List.getElem?_map]; cases l[i]? <;> rfl
/-- A law's walk, from its reckoning, where rows came in. -/
theorem law_walk_rows {f : FuncId} {args args' : List Value} (l : List OldRow) (hl : ∀ r ∈ l, r.ok W) (ha : VRL (fun i => i < l.length) (fun i => (match l[i]? with | some r => r.b | none => 0, 0)) args args') (h : FWP Try.prog (means W) f args (oldH l) fun a _ => a = .bool true) :
    Calls Try.prog f ⟨args'⟩ W fun e w' => e = .returned (.bool true) ∧ Below W.heap.size W w' := by
  have hsrc : ∀ i p o, nth (oldH l) i = some (p, o) → ∃ r, l[i]? = some r ∧ p = false ∧ o = .ext (.old r.lo r.n r.c) := fun i p o e => by
    rw [oldH_nth] at e
    cases q : l[i]? with
    | none => rw [q] at e; cases e
    | some r => rw [q] at e; cases e; exact ⟨r, rfl, rfl, rfl⟩
  refine (h.2 W W (fun i => i < l.length) none0 ⟨fun i => (match l[i]? with | some r => r.b | none => 0, 0), fun _ => []⟩ args' ⟨Mem.start W, ⟨fun i p o e => ?_, fun i p o e => ?_, fun i j p o q u _ _ _ x h1 => by simp [Ren.blocks] at h1⟩, fun x hx => by simpa [oldH] using hx, rfl⟩ ha).mono fun e w' => ?_
  · obtain ⟨r, hr, rfl, rfl⟩ := hsrc i p o e
    refine ⟨rfl, fun j h1 h2 => ?_⟩
    have := hl r (List.mem_of_getElem? hr) j h1 h2
    simp only [hr]
    exact this
  · obtain ⟨r, hr, _⟩ := hsrc i p o e
    exact (List.getElem?_eq_some_iff.1 hr).1
  · rintro ⟨v1, v', H', ρ', h', he, rfl, n', tr, hr⟩
    rw [hr.bool_eq] at he
    exact ⟨he, n'.mem.below⟩
/-- The same, of numbers alone. -/
theorem law_walk {f : FuncId} {args : List Value} {n : Nat} (ha : args.all (scal n) = true) (w : World) (h : FWP Try.prog (means w) f args [] fun a _ => a = .bool true) :
    Calls Try.prog f ⟨args⟩ w fun e w' => e = .returned (.bool true) ∧ Below w.heap.size w w' :=
  law_walk_rows [] (fun _ h => by simp at h) (scals_rel ha) h

theorem brP {c : Bool} {A B : Prop} (h1 : c = true → A) (h0 : c = false → B) : @Bool.rec (fun _ => Prop) B A c := by
  cases c
  · exact h0 rfl
  · exact h1 rfl
theorem brT {c : Bool} {A B : Prop} (h : c = true) (hA : A) : @Bool.rec (fun _ => Prop) B A c := by subst h; exact hA
theorem brF {c : Bool} {A B : Prop} (h : c = false) (hB : B) : @Bool.rec (fun _ => Prop) B A c := by subst h; exact hB
theorem fevD_fwp {E : Env Ext} (hE : E.Ok Try.prog (means W)) {d : Nat} {f : FuncId} {args : List Value} {H : HX} {K : Value → HX → Prop} (h : fevD Try.prog E d f args H K) : FWP Try.prog (means W) f args H K := fevD_sound hE d f args H K h
end Go.Proofs.Ytdmodejpcfhbhaa
