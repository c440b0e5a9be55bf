/- A map of values and writers as one object: folded out of its parts, and opened. -/
import Derived.Test.YtdmodejpcfhbhaaSxN
namespace Go.Proofs.Ytdmodejpcfhbhaa
open Go.RowKit
variable {W : World} {P : Program}

/-- Parts that are new are one object. -/
theorem FWP.fold {f : FuncId} {args : List Value} {H : HX} {j a b : Nat} {T : TypeId} {fv gv : Int → Option Int} {τ1 τ2 : Tk} {r : Value} {G : HX} (hj : H.length ≤ j) (ha' : H.length ≤ a) (hb' : H.length ≤ b) (hja : j ≠ a) (hjb : j ≠ b) (hab : a ≠ b)
    (h1 : nth G j = some (true, .cells [.map (some a), .map (some b)] T)) (h2 : nth G a = some (true, .ext (.im (.ints fv) τ1))) (h3 : nth G b = some (true, .ext (.im (.ints gv) τ2)))
    (h : FWP P (means W) f args H fun v G' => v = r ∧ G' = G) : FWP P (means W) f args H fun v G' => v = r ∧ G' = put (put (put G a none) b none) j (some (true, .ext (.modl fv gv))) := by
  refine ⟨h.1, fun w0 w L hh ρ args' hn hargs => (h.2 w0 w L hh ρ args' hn hargs).mono fun e w' => ?_⟩
  rintro ⟨v, v', G', ρ', h', he, ⟨rfl, rfl⟩, n', tr, hv⟩
  let ρ2 : Ren := ⟨ρ'.b, fun i => if i = j then ρ'.e j ++ ρ'.e a ++ ρ'.e b else ρ'.e i⟩
  have ej : ρ2.e j = ρ'.e j ++ ρ'.e a ++ ρ'.e b := by show (if j = j then _ else _) = _; rw [if_pos rfl]
  have eo : ∀ i, i ≠ j → ρ2.e i = ρ'.e i := fun i hi => by show (if i = j then _ else _) = _; rw [if_neg hi]
  have hnth : ∀ i p o, nth (put (put (put G' a none) b none) j (some (true, .ext (.modl fv gv)))) i = some (p, o) → (i = j ∧ p = true ∧ o = .ext (.modl fv gv)) ∨ (i ≠ j ∧ i ≠ a ∧ i ≠ b ∧ nth G' i = some (p, o)) := fun i p o q => by
    rw [nth_put] at q
    split at q
    · rename_i hc; cases q; exact .inl ⟨hc.1.symm, rfl, rfl⟩
    · rename_i hc
      have hij : i ≠ j := fun z => hc ⟨z.symm, by subst z; simpa using nth_lt h1⟩
      rw [nth_put] at q
      split at q
      · cases q
      · rename_i hc2
        have hib : i ≠ b := fun z => hc2 ⟨z.symm, by subst z; simpa using nth_lt h3⟩
        rw [nth_put] at q
        split at q
        · cases q
        · rename_i hc3
          exact .inr ⟨hij, fun z => hc3 ⟨z.symm, by subst z; exact nth_lt h2⟩, hib, q⟩
  obtain ⟨c1, cs', c2, c3⟩ := n'.sat.obj j true _ h1
  obtain ⟨a1, a2⟩ := n'.sat.obj a true _ h2
  obtain ⟨b1, b2⟩ := n'.sat.obj b true _ h3
  have hcs : cs' = [.map (some (ρ'.b a).1), .map (some (ρ'.b b).1)] := by
    cases c3 with
    | cons x1 c3 => cases c3 with
      | cons x2 c3 => cases c3; rw [x1.map_eq.2, x2.map_eq.2]
  subst hcs
  have hmem : ∀ x, x ∈ ρ2.e j → x ∈ ρ'.e j ∨ x ∈ ρ'.e a ∨ x ∈ ρ'.e b := fun x hx => by rw [ej] at hx; simpa [or_assoc] using hx
  have newl : H.length < G'.length := Nat.lt_of_le_of_lt hj (nth_lt h1)
  have hap := n'.sat.apart
  have njx : ∀ i p o, i ≠ j → i ≠ a → i ≠ b → nth G' i = some (p, o) → ∀ x, x ∈ ρ2.e j → x ∉ ρ'.e i := fun i p o q1 q2 q3 q4 x hx hxi => by
    rcases hmem x hx with hx | hx | hx
    · exact hap j i _ _ _ _ h1 q4 (Ne.symm q1) x hx hxi
    · exact hap a i _ _ _ _ h2 q4 (Ne.symm q2) x hx hxi
    · exact hap b i _ _ _ _ h3 q4 (Ne.symm q3) x hx hxi
  refine ⟨_, v', _, ρ2, h', he, ⟨rfl, rfl⟩, ⟨n'.mem, ⟨fun i p o q => ?_, fun i p o q => ?_, fun i k p o p' o' q1 q2 hik x h1' h2' => ?_⟩, fun x hx => ?_, n'.org⟩, ⟨by simpa using tr.le, tr.base, fun i p o hi q => ?_, fun i hi hr => ?_, fun i p o q x hx => ?_, tr.frame, tr.dom⟩, ?_⟩
  · rcases hnth i p o q with ⟨rfl, rfl, rfl⟩ | ⟨q1, q2, q3, q4⟩
    · refine ⟨(ρ'.b a).1, (ρ'.b b).1, T, by rw [ej, c1, a1, b1]; rfl, ?_, ?_, ?_, c2, ⟨_, a2⟩, _, b2⟩
      · intro z; exact hap _ _ _ _ _ _ h1 h2 hja ((ρ'.b i).1) (by show _ ∈ ρ'.e i; rw [c1]; simp [Ren.k]) (by show _ ∈ ρ'.e a; rw [a1, z]; simp)
      · intro z; exact hap _ _ _ _ _ _ h1 h3 hjb ((ρ'.b i).1) (by show _ ∈ ρ'.e i; rw [c1]; simp [Ren.k]) (by show _ ∈ ρ'.e b; rw [b1, z]; simp)
      · intro z; exact hap _ _ _ _ _ _ h2 h3 hab ((ρ'.b a).1) (by show _ ∈ ρ'.e a; rw [a1]; simp) (by show _ ∈ ρ'.e b; rw [b1, z]; simp)
    · refine OSat.mono (ρ := ρ') (ρ' := ρ2) (fun x hx => ⟨by simpa using hx, rfl⟩) rfl (eo i q1) (fun k _ => rfl) (n'.sat.obj i p o q4)
  · have : LU L H.length G'.length i := by
      rcases hnth i p o q with ⟨rfl, rfl, rfl⟩ | ⟨q1, q2, q3, q4⟩
      · exact n'.sat.live _ _ _ h1
      · exact n'.sat.live i p o q4
    simpa using this
  · rcases hnth i p o q1 with ⟨rfl, rfl, rfl⟩ | ⟨r1, r2, r3, r4⟩ <;> rcases hnth k p' o' q2 with ⟨rfl, rfl, rfl⟩ | ⟨s1, s2, s3, s4⟩
    · exact hik rfl
    · exact njx k _ _ s1 s2 s3 s4 x h1' (by rw [show ρ2.blocks k = ρ'.e k from eo k s1] at h2'; exact h2')
    · exact njx i _ _ r1 r2 r3 r4 x h2' (by rw [show ρ2.blocks i = ρ'.e i from eo i r1] at h1'; exact h1')
    · rw [show ρ2.blocks i = ρ'.e i from eo i r1] at h1'
      rw [show ρ2.blocks k = ρ'.e k from eo k s1] at h2'
      exact hap i k p o p' o' r4 s4 hik x h1' h2'
  · simp only [put_len] at hx ⊢; exact n'.lt x hx
  · rcases hnth i p o q with ⟨rfl, rfl, rfl⟩ | ⟨q1, q2, q3, q4⟩
    · omega
    · exact tr.perm i p o hi q4
  · rw [eo i (by omega)]; exact tr.keep i hi hr
  · rcases hnth i p o q with ⟨rfl, rfl, rfl⟩ | ⟨q1, q2, q3, q4⟩
    · have nw : ∀ c o, H.length ≤ c → nth G' c = some (true, o) → x ∈ ρ'.e c → (∃ j q u, nth H j = some (q, u) ∧ x ∈ ρ.blocks j ∧ (q = true ∨ j = i)) ∨ hh x = none := fun c o hc hco hxc => by
        rcases tr.fresh c true o hco x hxc with ⟨k, q, u, g1, g2, g3⟩ | g
        · have := nth_lt g1
          exact .inl ⟨k, q, u, g1, g2, .inl (by rcases g3 with g3 | g3; exact g3; omega)⟩
        · exact .inr g
      rcases hmem x hx with hx | hx | hx
      · exact nw _ _ hj h1 hx
      · exact nw _ _ ha' h2 hx
      · exact nw _ _ hb' h3 hx
    · rw [show ρ2.blocks i = ρ'.e i from eo i q1] at hx
      exact tr.fresh i p o q4 x hx
  · simpa using hv

/-- One object, by its parts. -/
def modlG (i : Nat) : Option Nat := match i with | 0 => some 0 | 1 => none | 2 => none | k + 3 => some (k + 1)
def parts3 (p : Bool) (T : TypeId) (f g : Int → Option Int) (τ1 τ2 : Tk) : HX := [some (p, .cells [.map (some 1), .map (some 2)] T), some (p, .ext (.im (.ints f) τ1)), some (p, .ext (.im (.ints g) τ2))]
theorem FWP.parts {f : FuncId} {args : List Value} {p : Bool} {fv gv f' g' : Int → Option Int} {N : HX} {r0 r : Value} {n : Nat} (hN : ∀ k q o, nth N k = some (q, o) → ∃ x, o = .ext x) (hr : upV modlG n r0 = some r)
    (h : ∀ T τ1 τ2, FWP P (means W) f args (parts3 p T fv gv τ1 τ2) fun v G => v = r0 ∧ ∃ τ1' τ2', G = parts3 p T f' g' τ1' τ2' ++ N) : FWP P (means W) f args [some (p, .ext (.modl fv gv))] fun v G => v = r ∧ G = some (p, .ext (.modl f' g')) :: N := by
  refine ⟨(h 0 Tk.new Tk.new).1, fun w0 w L hh ρ args' hn ha => ?_⟩
  obtain ⟨bm, bw, T, he0, n1, n2, n3, h1, ⟨τ1, h2⟩, τ2, h3⟩ := hn.sat.obj 0 p _ rfl
  let ρ3 : Ren := ⟨fun i => match i with | 0 => ρ.b 0 | 1 => (bm, 0) | _ => (bw, 0), fun i => match i with | 0 => [(ρ.b 0).1] | 1 => [bm] | _ => [bw]⟩
  have hcase : ∀ {fv gv : Int → Option Int} {τ1 τ2 : Tk} {i q o}, nth (parts3 p T fv gv τ1 τ2) i = some (q, o) → (i = 0 ∧ q = p ∧ o = .cells [.map (some 1), .map (some 2)] T) ∨ (i = 1 ∧ q = p ∧ o = .ext (.im (.ints fv) τ1)) ∨ (i = 2 ∧ q = p ∧ o = .ext (.im (.ints gv) τ2)) := fun {fv gv τ1 τ2 i q o} e => by
    unfold parts3 at e
    match i, e with
    | 0, e => simp [nth] at e; exact .inl ⟨rfl, e.1.symm, e.2.symm⟩
    | 1, e => simp [nth] at e; exact .inr (.inl ⟨rfl, e.1.symm, e.2.symm⟩)
    | 2, e => simp [nth] at e; exact .inr (.inr ⟨rfl, e.1.symm, e.2.symm⟩)
    | k + 3, e => simp [nth] at e
  have hlen : (parts3 p T fv gv τ1 τ2).length = 3 := rfl
  have hn3 : Now (means W) w0 (fun k => k < 3) ρ3 (parts3 p T fv gv τ1 τ2) hh w := by
    refine ⟨hn.mem, ⟨fun i q o e => ?_, fun i q o e => ?_, fun i j q o q' o' e1 e2 hij x x1 x2 => ?_⟩, fun x hx => hx, hn.org⟩
    · rcases hcase e with ⟨rfl, rfl, rfl⟩ | ⟨rfl, rfl, rfl⟩ | ⟨rfl, rfl, rfl⟩
      · exact ⟨rfl, [.map (some bm), .map (some bw)], h1, .cons (.map (i := 1) (by decide)) (.cons (.map (i := 2) (by decide)) .nil)⟩
      · exact ⟨rfl, h2⟩
      · exact ⟨rfl, h3⟩
    · rcases hcase e with ⟨rfl, _, _⟩ | ⟨rfl, _, _⟩ | ⟨rfl, _, _⟩ <;> decide
    · rcases hcase e1 with ⟨rfl, _, _⟩ | ⟨rfl, _, _⟩ | ⟨rfl, _, _⟩ <;> rcases hcase e2 with ⟨rfl, _, _⟩ | ⟨rfl, _, _⟩ | ⟨rfl, _, _⟩ <;> simp [Ren.blocks, ρ3] at x1 x2 hij <;> subst x1 <;> first | exact n1 x2 | exact n2 x2 | exact n3 x2 | exact n1 x2.symm | exact n2 x2.symm | exact n3 x2.symm
  have hL0 : ∀ x, L x → x = 0 := fun x hx => by have := hn.lt x hx; simp at this; exact this
  have ha3 : VRL (fun k => k < 3) ρ3.b args args' := ha.mono fun x hx => by obtain rfl := hL0 x hx; exact ⟨by decide, rfl⟩
  refine ((h T τ1 τ2).2 w0 w _ hh ρ3 args' hn3 ha3).mono fun e w' => ?_
  rintro ⟨v, v', G, ρ', h', he, ⟨rfl, τ1', τ2', rfl⟩, n', tr, hv⟩
  have hb : ∀ i, i < 3 → ρ'.b i = ρ3.b i := fun i hi => tr.base i hi
  have at0 : nth (parts3 p T f' g' τ1' τ2' ++ N) 0 = some (p, .cells [.map (some 1), .map (some 2)] T) := rfl
  have at1 : nth (parts3 p T f' g' τ1' τ2' ++ N) 1 = some (p, .ext (.im (.ints f') τ1')) := rfl
  have at2 : nth (parts3 p T f' g' τ1' τ2' ++ N) 2 = some (p, .ext (.im (.ints g') τ2')) := rfl
  have at3 : ∀ i, nth (parts3 p T f' g' τ1' τ2' ++ N) (i + 3) = nth N i := fun i => rfl
  obtain ⟨c1, cs', c2, c3⟩ := n'.sat.obj 0 p _ at0
  obtain ⟨a1, a2⟩ := n'.sat.obj 1 p _ at1
  obtain ⟨b1, b2⟩ := n'.sat.obj 2 p _ at2
  have hcs : cs' = [.map (some (ρ'.b 1).1), .map (some (ρ'.b 2).1)] := by
    cases c3 with
    | cons x1 c3 => cases c3 with
      | cons x2 c3 => cases c3; rw [x1.map_eq.2, x2.map_eq.2]
  subst hcs
  rw [hb 1 (by decide)] at a1 a2 c2
  rw [hb 2 (by decide)] at b1 b2 c2
  have c1' : ρ'.e 0 = [(ρ.b 0).1] := by rw [c1]; show [(ρ'.b 0).1] = _; rw [hb 0 (by decide)]; rfl
  have c2' : h' (ρ.b 0).1 = some (.cells #[.map (some bm), .map (some bw)] T) := by
    have : ρ'.k 0 = (ρ.b 0).1 := by show (ρ'.b 0).1 = _; rw [hb 0 (by decide)]; rfl
    rw [this] at c2; exact c2
  let ρ2 : Ren := ⟨fun i => match i with | 0 => ρ.b 0 | k + 1 => ρ'.b (k + 3), fun i => match i with | 0 => ρ.e 0 | k + 1 => ρ'.e (k + 3)⟩
  have hnth : ∀ i q o, nth (some (p, AObj.ext (Ext.modl f' g')) :: N) i = some (q, o) → (i = 0 ∧ q = p ∧ o = .ext (.modl f' g')) ∨ ∃ k x, i = k + 1 ∧ nth N k = some (q, o) ∧ o = .ext x := fun i q o e => by
    match i, e with
    | 0, e => simp [nth] at e; exact .inl ⟨rfl, e.1.symm, e.2.symm⟩
    | k + 1, e => obtain ⟨x, hx⟩ := hN k q o e; exact .inr ⟨k, x, rfl, e, hx⟩
  have hlive0 := hn.sat.live 0 p _ rfl
  have hap := n'.sat.apart
  have h0 : ∀ x, x ∈ ρ.e 0 → x ∈ ρ'.e 0 ∨ x ∈ ρ'.e 1 ∨ x ∈ ρ'.e 2 := fun x hx => by
    rw [he0] at hx
    simp only [List.mem_cons, List.not_mem_nil, or_false] at hx
    rcases hx with hx | hx | hx
    · left; rw [c1', hx]; simp
    · right; left; rw [a1, hx]; exact List.mem_singleton.2 rfl
    · right; right; rw [b1, hx]; exact List.mem_singleton.2 rfl
  have h0k : ∀ k q o, nth N k = some (q, o) → ∀ x, x ∈ ρ.e 0 → x ∉ ρ'.e (k + 3) := fun k q o e x hx hk => by
    have e' := (at3 k).trans e
    rcases h0 x hx with h | h | h
    · exact hap 0 (k + 3) _ _ _ _ at0 e' (by omega) x h hk
    · exact hap 1 (k + 3) _ _ _ _ at1 e' (by omega) x h hk
    · exact hap 2 (k + 3) _ _ _ _ at2 e' (by omega) x h hk
  refine ⟨_, v', _, ρ2, h', he, ⟨rfl, rfl⟩, ⟨n'.mem, ⟨fun i q o e => ?_, fun i q o e => ?_, fun i k q o q' o' e1 e2 hik x x1 x2 => ?_⟩, fun x hx => ?_, n'.org⟩, ⟨by simp, fun i hi => ?_, fun i q o hi e => ?_, fun i hi hrr => ?_, fun i q o e x hx => ?_, fun x o e hx => ?_, tr.dom⟩, ?_⟩
  · rcases hnth i q o e with ⟨rfl, rfl, rfl⟩ | ⟨k, x, rfl, e', rfl⟩
    · exact ⟨bm, bw, T, he0, n1, n2, n3, c2', ⟨_, a2⟩, _, b2⟩
    · exact n'.sat.obj (k + 3) q _ ((at3 k).trans e')
  · rcases hnth i q o e with ⟨rfl, rfl, rfl⟩ | ⟨k, x, rfl, e', rfl⟩
    · exact .inl hlive0
    · exact .inr ⟨by simp, nth_lt e⟩
  · rcases hnth i q o e1 with ⟨rfl, rfl, rfl⟩ | ⟨k1, y1, rfl, e1', rfl⟩ <;> rcases hnth k q' o' e2 with ⟨rfl, rfl, rfl⟩ | ⟨k2, y2, rfl, e2', rfl⟩
    · exact hik rfl
    · exact h0k k2 _ _ e2' x x1 x2
    · exact h0k k1 _ _ e1' x x2 x1
    · exact hap (k1 + 3) (k2 + 3) _ _ _ _ ((at3 k1).trans e1') ((at3 k2).trans e2') (by omega) x x1 x2
  · rcases hx with hx | hx
    · rw [hL0 x hx]; simp
    · exact hx.2
  · have : i = 0 := by simp at hi; exact hi
    subst this; rfl
  · rcases hnth i q o e with ⟨rfl, rfl, rfl⟩ | ⟨k, x, rfl, e', rfl⟩
    · exact ⟨_, rfl⟩
    · simp at hi
  · have : i = 0 := by simp at hi; exact hi
    subst this; rfl
  · rcases hnth i q o e with ⟨rfl, rfl, rfl⟩ | ⟨k, y, rfl, e', rfl⟩
    · exact .inl ⟨0, _, _, rfl, hx, .inr rfl⟩
    · rcases tr.fresh (k + 3) q _ ((at3 k).trans e') x hx with ⟨j, q', u, g1, g2, g3⟩ | g
      · have hj3 := nth_lt g1
        rw [hlen] at hj3
        have hq : q' = true := by rcases g3 with g3 | g3; exact g3; omega
        refine .inl ⟨0, q', .ext (.modl fv gv), ?_, ?_, .inl hq⟩
        · rcases hcase g1 with ⟨_, rfl, _⟩ | ⟨_, rfl, _⟩ | ⟨_, rfl, _⟩ <;> rfl
        · show x ∈ ρ.e 0
          rw [he0]
          rcases hcase g1 with ⟨rfl, _, _⟩ | ⟨rfl, _, _⟩ | ⟨rfl, _, _⟩ <;> simp [Ren.blocks, ρ3] at g2 <;> simp [g2]
      · exact .inr g
  · refine tr.frame x o e fun i u hi hxi => ?_
    rcases hcase hi with ⟨rfl, rfl, _⟩ | ⟨rfl, rfl, _⟩ | ⟨rfl, rfl, _⟩
    all_goals
      refine hx 0 (.ext (.modl fv gv)) rfl ?_
      show x ∈ ρ.e 0
      rw [he0]
      simp [Ren.blocks, ρ3] at hxi
      simp [hxi]
  · refine upV_sound (fun i j hi hg => ?_) n hr hv
    match i, hg with
    | 0, hg => cases hg; exact ⟨.inl hlive0, (hb 0 (by decide)).symm⟩
    | 1, hg => cases hg
    | 2, hg => cases hg
    | k + 3, hg =>
      cases hg
      refine ⟨.inr ⟨by simp, ?_⟩, rfl⟩
      rcases hi with hi | hi
      · omega
      · have := hi.2; rw [List.length_append, show (parts3 p T f' g' τ1' τ2').length = 3 from rfl] at this; simp; omega
end Go.Proofs.Ytdmodejpcfhbhaa
