/- Structs that are told whole: made, and turned by a step. -/
import Derived.Test.YtdmodejpcfhbhaaSxM
namespace Go.Proofs.Ytdmodejpcfhbhaa
open Go.RowKit
variable {W : World}

/-- What is made where nothing is known is made anywhere. -/
theorem FWP.born {f : FuncId} {args : List Value} {x : Ext} {cs : List Value} {n : Nat} (ha : args.all (scal n) = true) (hc : cs.all (scal 3) = true) (hs : ∀ W, Shuts (means W) x cs) (h : FWP Try.prog (means W) f args [] fun a b => ∃ j T, a = .pointer (some ⟨j, 0, none⟩) ∧ nth b j = some (true, .cells cs T)) (H : HX) :
    FWP Try.prog (means W) f args H fun a b => a = .pointer (some ⟨H.length, 0, none⟩) ∧ b = H ++ [some (true, .ext x)] := by
  refine ⟨h.1, fun w0 w L hh ρ args' hn hargs => ?_⟩
  have same : ∀ {m : Nat} {L : Nat → Prop} {r : Nat → Nat × Nat} {l l' : List Value}, l.all (scal m) = true → VRL L r l l' → l' = l := by
    intro m L r l
    induction l with
    | nil => intro l' _ h; cases h; rfl
    | cons a l ih => intro l' q h; cases h with
      | cons h0 h => simp only [List.all_cons, Bool.and_eq_true] at q; rw [scal_eq m q.1 h0, ih q.2 h]
  have hargs' : args' = args := same ha hargs
  subst hargs'
  refine (h.2 w0 w (fun _ => False) hh ρ args' ⟨hn.mem, ⟨fun i p o e => by simp [nth] at e, fun i p o e => by simp [nth] at e, fun i j p o q u e => by simp [nth] at e⟩, fun x hx => hx.elim, hn.org⟩ (scals_rel ha)).mono fun e w' => ?_
  rintro ⟨v1, v', H', ρ', h', he, ⟨j, T, rfl, hj⟩, n', tr, hr⟩
  obtain ⟨_, rfl⟩ := hr.ptr_eq
  obtain ⟨g1, ds, g2, g3⟩ := n'.sat.obj j true _ hj
  have hds : ds = cs := same hc g3
  subst hds
  have hx : (means W).sat x (ρ'.b j) (ρ'.e j) h' := by rw [g1]; exact hs W _ _ _ g2
  have hf : ∀ k, k ∈ ρ'.e j → hh k = none := fun k hk => by
    rcases tr.fresh j true _ hj k hk with ⟨i, q, u, e, _⟩ | q
    · simp [nth] at e
    · exact q
  have hk : ∀ x o, hh x = some o → h' x = some o := fun x o e => tr.frame x o e fun i u hi => by simp [nth] at hi
  let h2 : GH := fun k => if k ∈ ρ'.e j then h' k else hh k
  have h2in : ∀ k, k ∈ ρ'.e j → h2 k = h' k := fun k hk => if_pos hk
  have h2out : ∀ k, k ∉ ρ'.e j → h2 k = hh k := fun k hk => if_neg hk
  have hm : Mem w0 h2 w' := n'.mem.less fun k c hc => by
    by_cases q : k ∈ ρ'.e j
    · rw [h2in k q] at hc; exact hc
    · rw [h2out k q] at hc; exact hk k c hc
  obtain ⟨ρ2, n1, n2, n3⟩ := hn.made (b := ρ'.b j) (es := ρ'.e j) (x := x) hm ((means W).congr hx h2in) hf h2out
  refine ⟨_, _, _, ρ2, h2, he, ⟨rfl, rfl⟩, by simpa using n1, n2, ?_⟩
  have := VR.ptr (L := LU L H.length (H ++ [some (true, AObj.ext x)]).length) (ρ := ρ2.b) (i := H.length) (o := 0) (.inr ⟨Nat.le_refl _, by simp⟩)
  rw [n3] at this
  exact this
theorem flat_opens {x : Ext} {cs : List Value} (h : ∀ b e hh, Ext.sat W x b e hh → flat cs b e hh) : Opens (means W) x cs := fun b e hh hs => h b e hh hs
/-- A step of a struct and an arena. -/
theorem step_among {f : FuncId} {i j : Nat} {H : HX} {x x' : Ext} {V V' : Vw} {r : Bool} (hij : i ≠ j) (hi : nth H i = some (true, .ext x)) (hj : nth H j = some (true, .ext (.arena V)))
    (h : FWP Try.prog (means W) f [.pointer (some ⟨0, 0, none⟩), .pointer (some ⟨1, 0, none⟩)] [some (true, .ext x), some (true, .ext (.arena V))] fun a b => a = .bool r ∧ b = [some (true, .ext x'), some (true, .ext (.arena V'))]) :
    FWP Try.prog (means W) f [.pointer (some ⟨i, 0, none⟩), .pointer (some ⟨j, 0, none⟩)] H fun a b => a = .bool r ∧ b = put (put H i (some (true, .ext x'))) j (some (true, .ext (.arena V'))) := by
  have hne : Nat.beq i j = false := by simpa [← Nat.beq_eq] using hij
  have hij' : Nat.beq j i = false := by simpa [← Nat.beq_eq] using Ne.symm hij
  have := FWP.among (P := Try.prog) (I := means W) (f := f) (args0 := [.pointer (some ⟨0, 0, none⟩), .pointer (some ⟨1, 0, none⟩)]) (args := [.pointer (some ⟨i, 0, none⟩), .pointer (some ⟨j, 0, none⟩)]) (H := H)
    (G := [some (true, .ext x'), some (true, .ext (.arena V'))]) (r := .bool r) (n := 1) [i, j] (by simp [okS, hne]) rfl
    (by simp [rnL, rnV, rnId, rnId.go, hne, show ∀ k, Nat.blt k 0 = false from fun k => rfl]) (fun k e hk => by
      cases k with
      | zero => simp at hk; subst hk; rw [hi]; rfl
      | succ k => cases k with
        | zero => simp at hk; subst hk; rw [hj]; rfl
        | succ k => simp at hk)
    (fun k p o e => by
      cases k with
      | zero => simp [nth] at e; exact ⟨_, e.2.symm⟩
      | succ k => cases k with
        | zero => simp [nth] at e; exact ⟨_, e.2.symm⟩
        | succ k => simp [nth] at e) rfl (by simpa [Go.Proofs.Ytdmodejpcfhbhaa.pick, hi, hj] using h)
  exact this
/-- What a struct's fields hold, by whoever looks alone. -/
theorem look_among {f : FuncId} {i : Nat} {H : HX} {x : Ext} {r : Value} {n : Nat} {p : Bool} (hr : scal n r = true) (hi : nth H i = some (p, .ext x))
    (h : FWP Try.prog (means W) f [.pointer (some ⟨0, 0, none⟩)] [some (p, .ext x)] fun a b => a = r ∧ b = [some (p, .ext x)]) :
    FWP Try.prog (means W) f [.pointer (some ⟨i, 0, none⟩)] H fun a b => a = r ∧ b = H := by
  have := FWP.among (P := Try.prog) (I := means W) (f := f) (args0 := [.pointer (some ⟨0, 0, none⟩)]) (args := [.pointer (some ⟨i, 0, none⟩)]) (H := H) (G := [some (p, .ext x)]) (r := r) (n := n) [i] (by simp [okS]) hr
    (by simp [rnL, rnV, rnId, rnId.go, show ∀ k, Nat.blt k 0 = false from fun k => rfl]) (fun k e hk => by
      cases k with
      | zero => simp at hk; subst hk; rw [hi]; rfl
      | succ k => simp at hk) (fun k p o e => by
      cases k with
      | zero => simp [nth] at e; exact ⟨_, e.2.symm⟩
      | succ k => simp [nth] at e) rfl (by simpa [Go.Proofs.Ytdmodejpcfhbhaa.pick, hi] using h)
  have e : putAll H [i] [some (p, .ext x)] = H := by
    show put H i (some (p, .ext x)) = H
    clear this h
    induction H generalizing i with
    | nil => simp [nth] at hi
    | cons a H ih =>
      cases i with
      | zero => simp [nth] at hi; simp [put, hi]
      | succ i => simp only [put]; rw [ih (by simpa [nth] using hi)]
  rwa [e] at this
/-- The same, shown by its cells. -/
theorem FWP.opened1 {f : FuncId} {args : List Value} {x : Ext} {cs : List Value} {p : Bool} {r : Value} (ho : Opens (means W) x cs) (hs : cs.all (scal 3) = true) (hsh : Shuts (means W) x cs)
    (h : ∀ T, FWP Try.prog (means W) f args [some (p, .cells cs T)] fun v G => v = r ∧ G = [some (p, .cells cs T)]) : FWP Try.prog (means W) f args [some (p, .ext x)] fun v G => v = r ∧ G = [some (p, .ext x)] := by
  refine ⟨(h 0).1, fun w0 w L hh ρ args' hn ha => ?_⟩
  obtain ⟨e0, T, hT⟩ := ho _ _ _ (hn.sat.obj 0 p _ rfl)
  have hsw : ∀ {o o' : AObj Ext} {ρ : Ren} {h : GH} {w : World} {L : Nat → Prop}, Now (means W) w0 L ρ [some (p, o)] h w → OSat (means W) L ρ 0 h o' → Now (means W) w0 L ρ [some (p, o')] h w := by
    intro o o' ρ h w L hn ho
    have hone : ∀ (o : AObj Ext) i q u, nth [some (p, o)] i = some (q, u) → i = 0 ∧ q = p ∧ u = o := fun o i q u e => by
      cases i with
      | zero => simp [nth] at e; exact ⟨rfl, e.1.symm, e.2.symm⟩
      | succ i => simp [nth] at e
    refine ⟨hn.mem, ⟨fun i q u e => ?_, fun i q u e => ?_, fun i j q u q' v e1 e2 hij => ?_⟩, hn.lt, hn.org⟩
    · obtain ⟨rfl, rfl, rfl⟩ := hone _ i q u e; exact ho
    · obtain ⟨rfl, rfl, rfl⟩ := hone _ i q u e; exact hn.sat.live 0 _ o rfl
    · obtain ⟨rfl, _, _⟩ := hone _ i q u e1
      obtain ⟨rfl, _, _⟩ := hone _ j q' v e2
      exact absurd rfl hij
  refine ((h T).2 w0 w L hh ρ args' (hsw hn ⟨e0, cs, hT, scals_rel hs⟩) ha).mono fun e w' => ?_
  rintro ⟨v, v', G, ρ', h', he, ⟨rfl, rfl⟩, n', tr, hv⟩
  obtain ⟨g1, ds, g2, g3⟩ := n'.sat.obj 0 p _ rfl
  have hds : ds = cs := by
    have : ∀ {L : Nat → Prop} {l l' : List Value}, l.all (scal 3) = true → VRL L ρ'.b l l' → l' = l := by
      intro L l
      induction l with
      | nil => intro l' _ h; cases h; rfl
      | cons a l ih => intro l' q h; cases h with
        | cons h0 h => simp only [List.all_cons, Bool.and_eq_true] at q; rw [scal_eq 3 q.1 h0, ih q.2 h]
    exact this hs g3
  subst hds
  refine ⟨v, v', _, ρ', h', he, ⟨rfl, rfl⟩, hsw n' (show (means W).sat x (ρ'.b 0) (ρ'.e 0) h' by rw [g1]; exact hsh _ _ _ g2), ⟨tr.le, tr.base, fun i q o' hi e => ?_, fun i hi hr => ?_, fun i q u e y hy => ?_, fun y o e hy => ?_, tr.dom⟩, hv⟩
  · cases i with
    | zero => simp [nth] at e; exact ⟨_, by simp [nth, e.1]; rfl⟩
    | succ i => simp at hi
  · cases i with
    | zero => exact tr.keep 0 hi fun o e => by simp [nth] at e; exact hr (.ext x) (by simp [nth, e.1])
    | succ i => simp at hi
  · cases i with
    | zero =>
      simp [nth] at e
      rcases tr.fresh 0 q _ (by simp [nth, e.1]; rfl) y hy with ⟨j, q', u', f1, f2, f3⟩ | f
      · cases j with
        | zero => simp [nth] at f1; exact .inl ⟨0, q', .ext x, by simp [nth, f1.1], f2, f3⟩
        | succ j => simp [nth] at f1
      · exact .inr f
    | succ i => simp [nth] at e
  · refine tr.frame y o e fun i u q => ?_
    cases i with
    | zero => simp [nth] at q; exact hy 0 (.ext x) (by simp [nth, q.1])
    | succ i => simp [nth] at q
end Go.Proofs.Ytdmodejpcfhbhaa
