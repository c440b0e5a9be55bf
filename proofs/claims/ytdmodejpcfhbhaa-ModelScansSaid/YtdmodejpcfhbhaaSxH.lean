/- Code and functions: as they were reckoned, and as they go. No program is named here. -/
import Derived.Test.YtdmodejpcfhbhaaSxG
namespace Go.Proofs.Ytdmodejpcfhbhaa
open Go.RowKit

section
variable {X : Type}
/-- What a piece of code leaves, by the way it is left. -/
abbrev KE (X : Type) := Exit → Sl → AH X → Prop

/-- The code, from whatever memory that is as told, where m numbers were there when the function was entered. -/
def SWP (P : Program) (I : Means X) (m : Nat) (c : Code) (t : Sl) (H : AH X) (K : KE X) : Prop :=
  ∀ (w0 : World) (L : Nat → Prop) (ρ0 : Ren) (H0 : AH X) (h0 : GH) (ρ : Ren) (h : GH) (a : Act) (w : World), H0.length = m → (∀ x, L x → x < m) → Tr ρ0 H0 h0 ρ H h → Now I w0 (LU L m H.length) ρ H h w → TRs (LU L m H.length) ρ.b t a.tmps → a.defers = [] →
    c.wp P (fun e a' w' => After I w0 L ρ0 H0 h0 (K e) a' w') a w
/-- What is told here tells that there. -/
def Ent (I : Means X) (m : Nat) (t : Sl) (H : AH X) (t' : Sl) (H' : AH X) : Prop :=
  ∀ (w0 : World) (L : Nat → Prop) (ρ0 : Ren) (H0 : AH X) (h0 : GH) (ρ : Ren) (h : GH) (a : Act) (w : World), H0.length = m → (∀ x, L x → x < m) → Tr ρ0 H0 h0 ρ H h → Now I w0 (LU L m H.length) ρ H h w → TRs (LU L m H.length) ρ.b t a.tmps →
    ∃ ρ', Tr ρ0 H0 h0 ρ' H' h ∧ Now I w0 (LU L m H'.length) ρ' H' h w ∧ TRs (LU L m H'.length) ρ'.b t' a.tmps
/-- A call, from whatever memory that is as told. -/
def FWP (P : Program) (I : Means X) (f : FuncId) (args : List Value) (H : AH X) (K : Value → AH X → Prop) : Prop :=
  (∀ xs w, (callFunc f xs).run P w = .ok (.enter f xs) w) ∧ ∀ w0 w L h ρ args', Now I w0 L ρ H h w → VRL L ρ.b args args' →
    Calls P f ⟨args'⟩ w fun e w' => ∃ v v' H' ρ' h', e = .returned v' ∧ K v H' ∧ Now I w0 (LU L H.length H'.length) ρ' H' h' w' ∧ Tr ρ H h ρ' H' h' ∧ VR (LU L H.length H'.length) ρ'.b v v'

/-- A loop, by what is said of it elsewhere. -/
abbrev LpT (X : Type) := Code → Sl → AH X → KE X → Prop

/-- What comes behind a piece that went through. -/
def seqK (c : Sl → AH X → KE X → Prop) (K : KE X) : KE X := fun e t H => match e with
  | .normal => c t H K
  | e => K e t H
def blkK (id : Nat) (K : KE X) : KE X := fun e t H => match e with
  | .exit i => (match Nat.beq i id with
    | true => K .normal t H
    | false => K (.exit i) t H)
  | e => K e t H
variable (P : Program) (lp : LpT X) (tl : TellT X) (opn : OpnT X) (callO callD : CallT X) (eff : FuncId → List Nat)
noncomputable def cev : Nat → Code → Sl → AH X → KE X → Prop
  | 0, c, _, _, _ => No c
  | n + 1, c, t, H, K => match c with
    | .skip => K .normal t H
    | .label _ => K .normal t H
    | .region _ ⟨ops⟩ d => (match d with
      | false => regO tl opn P callO ops ops t H (K .normal)
      | true => (match drawOk ops with
        | true => regD tl P callD eff ops ops [] t H (K .normal)
        | false => No c))
    | .seq x y => cev n x t H (seqK (cev n y) K)
    | .cond c x y => (match aev (gs t) c with
      | some (.bool b) => selP b (cev n x t H K) (cev n y t H K)
      | _ => No c)
    | .block id b => cev n b t H (blkK id K)
    | .loop b => lp b t H K
    | .exit id => K (.exit id) t H
    | .ret => K .ret t H
    | c => No c

/-- The loops are gone round one by one. -/
noncomputable def lpN (n : Nat) : Nat → LpT X
  | 0 => fun b _ _ _ => No b
  | m + 1 => fun b t H K => cev P (lpN n m) tl opn callO callD eff n b t H (seqK (lpN n m b) K)

/-- What is handed back. -/
def resA (t : Sl) (H : AH X) : List ResultVar → Option (List Value)
  | [] => some []
  | .tmp i :: l => (match gs t i with
    | some v => (match resA t H l with | some r => some (v :: r) | none => none)
    | none => none)
  | .cell i T :: l => (match gs t i with
    | some (.pointer (some ⟨k, off, none⟩)) => (match nth H k with
      | some (_, .cells cs _) => (match rd P T cs off with
        | some v => (match resA t H l with | some r => some (v :: r) | none => none)
        | none => none)
      | _ => none)
    | _ => none)
def one1 : List Value → Value
  | [v] => v
  | l => .tuple ⟨l⟩
def slotsFrom : Nat → Tri → List Value → Tri
  | _, t, [] => t
  | i, t, v :: l => slotsFrom (i + 1) (putF i t i (some v)) l
def slotsOf (n : Nat) (l : List Value) : Sl := ⟨n, slotsFrom 0 .lf l⟩
/-- The same, written out. -/
def slotsK : Nat → Tri → List Value → (Tri → Prop) → Prop
  | _, t, [], K => K t
  | i, t, v :: l, K => putK i t i (some v) fun t => slotsK (i + 1) t l K
theorem slotsK_eq : ∀ (l : List Value) (i : Nat) (t : Tri) (K : Tri → Prop), slotsK i t l K = K (slotsFrom i t l)
  | [], _, _, _ => rfl
  | v :: l, i, t, K => by simp only [slotsK, putK_eq, slotsFrom]; exact slotsK_eq l _ _ _
def retK (F : Func) (K : Value → AH X → Prop) : KE X := fun e t H => match e with
  | .normal => (match resA P t H F.results.toList with | some r => K (one1 r) H | none => No F)
  | .ret => (match resA P t H F.results.toList with | some r => K (one1 r) H | none => No F)
  | _ => No F
noncomputable def fbody (n : Nat) (F : Func) (args : List Value) (H : AH X) (K : Value → AH X → Prop) : Prop :=
  match F.body with
  | none => No F
  | some c => slotsK 0 .lf args fun u => cev P lp tl opn callO callD eff n c ⟨F.ntmps, u⟩ H (retK P F K)
end

section
variable {X : Type} {P : Program} {I : Means X} {lp : LpT X} {tl : TellT X} {opn : OpnT X} {callO callD : CallT X} {eff : FuncId → List Nat} {m : Nat}

theorem After.mono {w0 w : World} {L : Nat → Prop} {ρ : Ren} {H : AH X} {h : GH} {K K' : Sl → AH X → Prop} {a : Act} (hA : After I w0 L ρ H h K a w) (hk : ∀ t H, K t H → K' t H) : After I w0 L ρ H h K' a w := by
  obtain ⟨t', H', ρ', h', k, r⟩ := hA
  exact ⟨t', H', ρ', h', hk _ _ k, r⟩
/-- Behind one piece the next one. -/
theorem After.bind {w0 w : World} {L : Nat → Prop} {ρ0 : Ren} {H0 : AH X} {h0 : GH} {K : Sl → AH X → Prop} {a : Act} (hA : After I w0 L ρ0 H0 h0 K a w) (hL : ∀ x, L x → x < H0.length) {c : Code} {K2 : KE X} (hk : ∀ t H, K t H → SWP P I H0.length c t H K2) :
    c.wp P (fun e a' w' => After I w0 L ρ0 H0 h0 (K2 e) a' w') a w := by
  obtain ⟨t', H', ρ', h', k, n, tr, ht, hd⟩ := hA
  exact hk _ _ k w0 L ρ0 H0 h0 ρ' h' a w rfl hL tr n ht hd
theorem SWP.mono {c : Code} {t : Sl} {H : AH X} {K K' : KE X} (h : SWP P I m c t H K) (hk : ∀ e t H, K e t H → K' e t H) : SWP P I m c t H K' :=
  fun w0 L ρ0 H0 h0 ρ h' a w hm hL tr n ht hd => Code.wp_mono (fun e _ _ q => q.mono (hk e)) (h w0 L ρ0 H0 h0 ρ h' a w hm hL tr n ht hd)
theorem SWP.ent {c : Code} {t t' : Sl} {H H' : AH X} {K : KE X} (he : Ent I m t H t' H') (h : SWP P I m c t' H' K) : SWP P I m c t H K :=
  fun w0 L ρ0 H0 h0 ρ h' a w hm hL tr n ht hd => by
    obtain ⟨ρ', tr', n', ht'⟩ := he w0 L ρ0 H0 h0 ρ h' a w hm hL tr n ht
    exact h w0 L ρ0 H0 h0 ρ' h' a w hm hL tr' n' ht' hd
theorem Ent.refl (t : Sl) (H : AH X) : Ent I m t H t H := fun _ _ _ _ _ ρ _ _ _ _ _ tr n ht => ⟨ρ, tr, n, ht⟩
theorem Ent.trans {t t' t'' : Sl} {H H' H'' : AH X} (a : Ent I m t H t' H') (b : Ent I m t' H' t'' H'') : Ent I m t H t'' H'' :=
  fun w0 L ρ0 H0 h0 ρ h' x w hm hL tr n ht => by
    obtain ⟨ρ', tr', n', ht'⟩ := a w0 L ρ0 H0 h0 ρ h' x w hm hL tr n ht
    exact b w0 L ρ0 H0 h0 ρ' h' x w hm hL tr' n' ht'

theorem cev_sound (hmm : P.follows .mixedOrders = true) (htl : TellSound P I tl) (hop : OpnSound P I opn) (hlp : ∀ b t H K, lp b t H K → SWP P I m (.loop b) t H K) (hO : CallSound P I callO) (hD : CallSound P I callD) (hDd : CallDet callD) : ∀ (n : Nat) {c : Code} {t : Sl} {H : AH X} {K : KE X}, cev P lp tl opn callO callD eff n c t H K → SWP P I m c t H K
  | 0, _, _, _, _, h => h.elim
  | n + 1, c, t, H, K, h => by
    intro w0 L ρ0 H0 h0 ρ h' a w hm hL tr hn ht hd
    have here : ∀ {e : Exit}, K e t H → After I w0 L ρ0 H0 h0 (K e) a w := fun hk => ⟨t, H, ρ, h', hk, by rw [hm]; exact hn, tr, by rw [hm]; exact ht, hd⟩
    have lift : ∀ {K' : Sl → AH X → Prop} {a' : Act} {w' : World}, After I w0 (LU L m H.length) ρ H h' K' a' w' → After I w0 L ρ0 H0 h0 K' a' w' := fun q => After.of tr (by rw [hm]; exact q)
    cases c <;> simp only [cev] at h
    case skip => exact wp_skip (here h)
    case label l => exact wp_label (here h)
    case region id ops d =>
      obtain ⟨ops⟩ := ops
      simp only at h
      split at h
      · exact wp_region_list (regO_sound hO htl hop h hn ht hd fun a' w' q => lift q)
      · split at h
        · rename_i hdr
          exact regD_sound hD htl hDd hmm hdr h hn ht hd fun a' w' q => lift q
        · exact h.elim
    case seq x y =>
      refine wp_seq ?_
      refine Code.wp_mono (fun e a' w' q => ?_) (cev_sound hmm htl hop hlp hO hD hDd n h w0 L ρ0 H0 h0 ρ h' a w hm hL tr hn ht hd)
      cases e with
      | normal => exact q.bind (by rw [hm]; exact hL) fun t H hk => by rw [hm]; exact cev_sound hmm htl hop hlp hO hD hDd n hk
      | _ => exact q
    case cond c x y =>
      split at h
      · rename_i b hb
        have eb := (aev_sound hb ht.2).bool_eq
        cases b
        · exact wp_cond (t := false) eb (cev_sound hmm htl hop hlp hO hD hDd n h w0 L ρ0 H0 h0 ρ h' a w hm hL tr hn ht hd)
        · exact wp_cond (t := true) eb (cev_sound hmm htl hop hlp hO hD hDd n h w0 L ρ0 H0 h0 ρ h' a w hm hL tr hn ht hd)
      · exact h.elim
    case block id b =>
      refine wp_block ?_
      refine Code.wp_mono (fun e a' w' q => ?_) (cev_sound hmm htl hop hlp hO hD hDd n h w0 L ρ0 H0 h0 ρ h' a w hm hL tr hn ht hd)
      cases e with
      | exit i =>
        simp only [Exit.inBlock]
        split
        · rename_i e
          exact q.mono fun t H k => by
            simp only [blkK, show Nat.beq i id = true from by rw [Nat.beq_eq]; exact e] at k
            exact k
        · rename_i e
          exact q.mono fun t H k => by
            simp only [blkK, show Nat.beq i id = false from by simpa [← Nat.beq_eq] using e] at k
            exact k
      | _ => exact q
    case loop b => exact hlp b t H K h w0 L ρ0 H0 h0 ρ h' a w hm hL tr hn ht hd
    case exit id => exact wp_exit (here h)
    case ret => exact wp_ret (here h)
    all_goals exact h.elim

/-- A loop: what holds ahead of each round, by a number that falls. -/
theorem SWP.loop (Inv : Nat → Sl → AH X → Prop) {b : Code} {K : KE X} (hround : ∀ n t H, Inv n t H → SWP P I m b t H fun e t' H' => (match e with
    | .normal => ∃ k, k < n ∧ ∃ t'' H'', Ent I m t' H' t'' H'' ∧ Inv k t'' H''
    | e => K e t' H')) {n0 : Nat} {t0 : Sl} {H1 : AH X} (h1 : Inv n0 t0 H1) : SWP P I m (.loop b) t0 H1 K := by
  intro w0 L ρ0 H0 h0 ρ1 hh1 a1 w1 hm hL tr1 hn1 ht1 hd1 f k cs
  have key : ∀ n t H ρ h a w, Inv n t H → Tr ρ0 H0 h0 ρ H h → Now I w0 (LU L m H.length) ρ H h w → TRs (LU L m H.length) ρ.b t a.tmps → a.defers = [] →
      ∃ e a' w', After I w0 L ρ0 H0 h0 (K e) a' w' ∧ Arrives P (lone (f.at a (.code b :: .inLoop b :: k)) cs w) f k cs e a' w' := by
    intro n
    induction n using Nat.strongRecOn with
    | _ n ih =>
      intro t H ρ h a w hI tr hn ht hd
      obtain ⟨e, a₁, w₁, hq, harr⟩ := hround n t H hI w0 L ρ0 H0 h0 ρ h a w hm hL tr hn ht hd f (.inLoop b :: k) cs
      cases e with
      | normal =>
        obtain ⟨t', H', ρ', h', ⟨i, hlt, t'', H'', he, hI'⟩, n', tr', ht', hd'⟩ := hq
        rw [hm] at n' ht'
        obtain ⟨ρ'', tr'', n'', ht''⟩ := he w0 L ρ0 H0 h0 ρ' h' a₁ w₁ hm hL tr' n' ht'
        obtain ⟨e₂, a₂, w₂, hq₂, harr₂⟩ := ih i hlt t'' H'' ρ'' h' a₁ w₁ hI' tr'' n'' ht'' hd'
        exact ⟨e₂, a₂, w₂, hq₂, .of_steps (Steps.trans harr (.one step_inLoop)) harr₂⟩
      | exit id => exact ⟨_, a₁, w₁, hq, .pass (x := .inLoop b) rfl (fun _ _ => .inl (by simp)) harr⟩
      | goto l => exact ⟨_, a₁, w₁, hq, .pass (x := .inLoop b) rfl (fun _ _ => .inl (by simp)) harr⟩
      | ret => exact ⟨_, a₁, w₁, hq, .pass (x := .inLoop b) rfl (fun _ _ => .inl (by simp)) harr⟩
      | panic ch => exact ⟨_, a₁, w₁, hq, .pass (x := .inLoop b) rfl (fun _ _ => .inl (by simp)) harr⟩
      | outgrown => exact ⟨_, a₁, w₁, hq, .pass (x := .inLoop b) rfl (fun _ _ => .inl (by simp)) harr⟩
  obtain ⟨e, a', w', hq, harr⟩ := key n0 t0 H1 ρ1 hh1 a1 w1 h1 tr1 hn1 ht1 hd1
  exact ⟨e, a', w', hq, .of_steps (.one step_loop) harr⟩

theorem lpN_sound (hmm : P.follows .mixedOrders = true) (htl : TellSound P I tl) (hop : OpnSound P I opn) (hO : CallSound P I callO) (hD : CallSound P I callD) (hDd : CallDet callD) (n : Nat) : ∀ (j : Nat) (b : Code) (t : Sl) (H : AH X) (K : KE X), lpN P tl opn callO callD eff n j b t H K → SWP P I m (.loop b) t H K := by
  intro j
  induction j using Nat.strongRecOn with
  | _ j ih =>
    intro b t H K h
    refine SWP.loop (fun i t H => i ≤ j ∧ lpN P tl opn callO callD eff n i b t H K) (fun i t H hI => ?_) (n0 := j) ⟨Nat.le_refl _, h⟩
    obtain ⟨hi, hl⟩ := hI
    cases i with
    | zero => exact hl.elim
    | succ i =>
      refine (cev_sound hmm htl hop (ih i (by omega)) hO hD hDd n hl).mono fun e t' H' hk => ?_
      cases e with
      | normal => exact ⟨i, Nat.lt_succ_self _, t', H', Ent.refl _ _, by omega, hk⟩
      | _ => exact hk

/-! ### Functions -/
def resS (tmps : Array Value) : ResultVar → Sem Value
  | .tmp t => pure (tmps.getD t undef)
  | .cell i T => do loadVar T (← asAddr (tmps.getD i undef))
theorem results_eq (F : Func) (tmps : Array Value) : results F tmps = (do let vs ← F.results.mapM (resS tmps); pure (if h : vs.size = 1 then vs[0] else .tuple vs)) := by
  unfold results
  congr 1
theorem resA_run {L : Nat → Prop} {ρ : Ren} {t : Sl} {H : AH X} {h : GH} {w0 w : World} {a : Act} (hn : Now I w0 L ρ H h w) (ht : TRs L ρ.b t a.tmps) : ∀ {l : List ResultVar} {r : List Value}, resA P t H l = some r →
    ∃ r', (l.mapM (resS a.tmps)).run P w = .ok r' w ∧ VRL L ρ.b r r'
  | [], r, h => by simp only [resA, Option.some.injEq] at h; subst h; exact ⟨[], by simp [go_sem], .nil⟩
  | .tmp i :: l, r, h => by
    simp only [resA] at h
    split at h <;> try (cases h; done)
    rename_i v hv
    split at h <;> try (cases h; done)
    rename_i q hq
    obtain rfl := Option.some.inj h
    obtain ⟨r', h1, h2⟩ := resA_run hn ht hq
    obtain ⟨v', g1, g2⟩ := ht.2 i v hv
    refine ⟨v' :: r', ?_, .cons g2 h2⟩
    rw [List.mapM_cons]
    rw [bnd_run (show (resS a.tmps (.tmp i)).run P w = .ok v' w by simp [resS, go_sem, Array.getD_eq_getD_getElem?, g1]), bnd_run h1]
    rfl
  | .cell i T :: l, r, h => by
    simp only [resA] at h
    split at h <;> try (cases h; done)
    rename_i k off hv
    split at h <;> try (cases h; done)
    rename_i p cs U hk
    split at h <;> try (cases h; done)
    rename_i v hr
    split at h <;> try (cases h; done)
    rename_i q hq
    obtain rfl := Option.some.inj h
    obtain ⟨r', h1, h2⟩ := resA_run hn ht hq
    obtain ⟨v', g1, g2⟩ := ht.2 i _ hv
    obtain ⟨hl, rfl⟩ := g2.ptr_eq
    obtain ⟨_, cs', hb, hcs⟩ := hn.sat.obj k _ _ hk
    obtain ⟨u, f1, f2⟩ := rd_run (P := P) hr hcs (b := ρ.k k) (w := w) (fun o => (hn.mem.cell hb o).trans (by simp))
    refine ⟨u :: r', ?_, .cons f2 h2⟩
    rw [List.mapM_cons]
    have f1' : (loadVar T ⟨(ρ.b k).1, off, none⟩).run P w = .ok u w := f1
    rw [bnd_run (show (resS a.tmps (.cell i T)).run P w = .ok u w by
      unfold resS
      rw [bnd_run (show (asAddr (a.tmps.getD i undef)).run P w = .ok ⟨(ρ.b k).1, off, none⟩ w by simp [asAddr, go_sem, Array.getD_eq_getD_getElem?, g1])]; exact f1'), bnd_run h1]
    rfl
theorem res_run {L : Nat → Prop} {ρ : Ren} {t : Sl} {H : AH X} {h : GH} {w0 w : World} {a : Act} {F : Func} (hn : Now I w0 L ρ H h w) (ht : TRs L ρ.b t a.tmps) {r : List Value} (hr : resA P t H F.results.toList = some r) :
    ∃ v', (results F a.tmps).run P w = .ok v' w ∧ VR L ρ.b (one1 r) v' := by
  obtain ⟨r', h1, h2⟩ := resA_run hn ht hr
  have hm : (F.results.mapM (resS a.tmps)).run P w = .ok ⟨r'⟩ w := by
    rw [Array.mapM_eq_mapM_toList]
    exact map_run h1
  refine ⟨one1 r', ?_, ?_⟩
  · rw [results_eq, bnd_run hm]
    match r' with
    | [] => rfl
    | [v] => rfl
    | v :: u :: l => rfl
  · match h2 with
    | .nil => exact .plain rfl
    | .cons h .nil => exact h
    | .cons h (.cons h' h'') => exact .tuple (.cons h (.cons h' h''))

theorem slotsFrom_get : ∀ (l : List Value) (i : Nat) (t : Tri) (j : Nat), (slotsFrom i t l).get j = if i ≤ j ∧ j < i + l.length then l[j - i]? else t.get j
  | [], i, t, j => by simp [slotsFrom]; omega
  | v :: l, i, t, j => by
    simp only [slotsFrom, List.length_cons]
    rw [slotsFrom_get l (i + 1), get_put _ _ _ _ _ (Nat.le_refl i)]
    by_cases e : i = j
    · subst e; rw [if_neg (by omega), if_pos rfl, if_pos (by omega)]; simp
    · by_cases q : i + 1 ≤ j ∧ j < i + 1 + l.length
      · rw [if_pos q, if_pos (by omega)]
        rw [show j - i = (j - (i + 1)) + 1 from by omega]; rfl
      · rw [if_neg q, if_neg e, if_neg (by omega)]
theorem slotsOf_rel {L : Nat → Prop} {ρ : Nat → Nat × Nat} {n : Nat} {l l' : List Value} (h : VRL L ρ l l') (hl : l.length ≤ n) : TRs L ρ (slotsOf n l) ((⟨l'⟩ : Array Value) ++ Array.replicate (n - (⟨l'⟩ : Array Value).size) undef) := by
  have hla := h.len
  refine ⟨by simp [slotsOf]; omega, fun j v e => ?_⟩
  have hj := gs_lt e
  unfold gs at e
  rw [show Nat.blt j (slotsOf n l).n = true from by simpa [Nat.blt_eq] using hj] at e
  simp only [slotsOf] at e hj
  rw [slotsFrom_get] at e
  by_cases q : j < l.length
  · rw [if_pos (by omega)] at e
    obtain ⟨v', h1, h2⟩ := h.get e
    refine ⟨v', ?_, h2⟩
    rw [← Array.getElem?_toList]
    simp only [Array.toList_append, Nat.sub_zero] at h1 ⊢
    rw [List.getElem?_append_left (by omega)]
    exact h1
  · rw [if_neg (by omega)] at e
    simp only [Tri.get, Option.some.injEq] at e
    subst e
    refine ⟨undef, ?_, .plain rfl⟩
    rw [← Array.getElem?_toList]
    simp only [Array.toList_append]
    rw [List.getElem?_append_right (by omega), Array.toList_replicate, List.getElem?_replicate, if_pos]
    show j - l'.length < n - l'.length
    omega

theorem callFunc_go {f : FuncId} {F : Func} (hf : P.funcs[f]? = some F) (hb : F.body.isSome = true) (hnm : (F.name == "runtime.NumGoroutine") = false) (xs : Array Value) (w : World) : (callFunc f xs).run P w = .ok (.enter f xs) w := by
  have hb2 : F.body.isNone = false := by cases h : F.body <;> simp_all
  unfold callFunc
  rw [bnd_run (show (program).run P w = .ok P w from rfl)]
  simp only [hf, hnm, hb2, Bool.false_eq_true, if_false]
  rfl

theorem fbody_sound (hmm : P.follows .mixedOrders = true) (htl : TellSound P I tl) (hop : OpnSound P I opn) (hO : CallSound P I callO) (hD : CallSound P I callD) (hDd : CallDet callD) {n : Nat} {f : FuncId} {F : Func} (hf : P.funcs[f]? = some F) (hnm : (F.name == "runtime.NumGoroutine") = false) {args : List Value} {H : AH X} {K : Value → AH X → Prop} (hlp : ∀ b t G K, lp b t G K → SWP P I H.length (.loop b) t G K) (hl : args.length ≤ F.ntmps)
    (h : fbody P lp tl opn callO callD eff n F args H K) : FWP P I f args H K := by
  unfold fbody at h
  split at h
  · exact h.elim
  rename_i c hc
  refine ⟨callFunc_go hf (by rw [hc]; rfl) hnm, fun w0 w L h' ρ args' hn hargs => ?_⟩
  refine calls_of_wp hf hc ?_
  rw [slotsK_eq] at h
  have ht := slotsOf_rel hargs hl
  refine Code.wp_mono (fun e a' w' q => ?_) (cev_sound hmm htl hop hlp hO hD hDd n h w0 L ρ H h' ρ h' { tmps := (⟨args'⟩ : Array Value) ++ Array.replicate (F.ntmps - (⟨args'⟩ : Array Value).size) undef, defers := [] } w rfl hn.lt (Tr.refl _ _ _) hn.lu ht.lu rfl)
  obtain ⟨t', H', ρ', h'', hk, n', tr, ht', hd'⟩ := q
  cases e <;> simp only [retK] at hk <;> try exact hk.elim
  case normal =>
    split at hk <;> try exact hk.elim
    rename_i r hr
    obtain ⟨v', r1, r2⟩ := res_run n' ht' hr
    exact ⟨hd', v', r1, _, v', H', ρ', h'', rfl, hk, n', tr, r2⟩
  case ret =>
    split at hk <;> try exact hk.elim
    rename_i r hr
    obtain ⟨v', r1, r2⟩ := res_run n' ht' hr
    exact ⟨hd', v', r1, _, v', H', ρ', h'', rfl, hk, n', tr, r2⟩
end
end Go.Proofs.Ytdmodejpcfhbhaa
