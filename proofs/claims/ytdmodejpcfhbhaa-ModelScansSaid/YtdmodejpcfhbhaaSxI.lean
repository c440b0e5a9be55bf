/- Of one thing or the other one comes out; which functions are walked into. No program is named here. -/
import Derived.Test.YtdmodejpcfhbhaaSxH
namespace Go.Proofs.Ytdmodejpcfhbhaa
open Go.RowKit

theorem guardK_of {ops : List Oper} {o : Oper} {t : Sl} {yes no : Sl → Prop} : (wantd ops o t = some true → yes t → guardK ops o t yes no) ∧ (wantd ops o t = some false → no t → guardK ops o t yes no) := by
  unfold guardK wantd
  split
  · exact ⟨fun _ h => h, fun h => by cases h⟩
  · rename_i g want hg
    split
    · rename_i d hd
      split
      · rename_i c hc
        cases c <;> cases want <;> simp only [putdK_eq, putd_same hc] <;> exact ⟨fun e h => (by first | exact h | cases e), fun e h => (by first | exact h | cases e)⟩
      · exact ⟨fun h => (by cases h), fun _ h => h⟩
      · exact ⟨fun h => (by cases h), fun h => (by cases h)⟩
    · exact ⟨fun h => (by cases h), fun h => (by cases h)⟩

section
variable {X : Type} {P : Program} {I : Means X} {tl : TellT X} {opn : OpnT X} {call callO callD : CallT X} {eff : FuncId → List Nat} {lp : LpT X}

def CallMono (call : CallT X) : Prop := ∀ f args H K K', (∀ v H, K v H → K' v H) → call f args H K → call f args H K'
theorem scalOp_mono {o : Oper} {t : Gt} {H : AH X} {K K' : Value → AH X → Prop} (hK : ∀ v H, K v H → K' v H) (hk : scalOp P o t H K) : scalOp P o t H K' := by
  unfold scalOp at *
  split at hk
  · exact hk.elim
  split at hk
  · exact hk.elim
  split at hk
  · split at hk
    · first | exact hK _ _ hk | (simp [*]; done) | (simp [*]; exact hK _ _ hk)
    · exact hk.elim
  · first | exact hK _ _ hk | (simp [*]; done) | (simp [*]; exact hK _ _ hk)
  · exact hk.elim
theorem oev_mono (hm : CallMono call) {o : Oper} {t : Gt} {H : AH X} {K K' : Value → AH X → Prop} (hK : ∀ v H, K v H → K' v H) (hk : oev P call o t H K) : oev P call o t H K' := by
  unfold oev at *
  obtain ⟨dst, op, type, pos, after, guard⟩ := o
  cases op <;> simp only at hk ⊢ <;> try exact scalOp_mono hK hk
  case call c =>
    obtain ⟨callee, args, argTypes⟩ := c
    simp only at hk ⊢
    cases callee <;> (try simp only at hk ⊢)
    case value f =>
      split at hk
      · first | exact hm _ _ _ _ _ hK hk | (simp [*, -List.append_assoc]; exact hm _ _ _ _ _ hK hk)
      · exact hk.elim
    case invoke r m => exact hk.elim
    case builtin b =>
      cases b <;> (try simp only at hk ⊢) <;> try exact scalOp_mono hK hk
      case max =>
        split at hk <;> try exact hk.elim
        split at hk <;> try exact hk.elim
        first | exact hK _ _ hk | (simp [*]; done) | (simp [*]; exact hK _ _ hk)
      case min =>
        split at hk <;> try exact hk.elim
        split at hk <;> try exact hk.elim
        first | exact hK _ _ hk | (simp [*]; done) | (simp [*]; exact hK _ _ hk)
      split at hk
      · split at hk
        · first | exact hK _ _ hk | (simp [*]; done) | (simp [*]; exact hK _ _ hk)
        · exact hk.elim
      · split at hk
        · first | exact hK _ _ hk | (simp [*]; done) | (simp [*]; exact hK _ _ hk)
        · exact hk.elim
      · split at hk
        · first | exact hK _ _ hk | (simp [*]; done) | (simp [*]; exact hK _ _ hk)
        · exact hk.elim
      · exact scalOp_mono hK hk
  case binOp op T x y yt =>
    split at hk
    · split at hk
      · split at hk
        · split at hk
          · first | exact hK _ _ hk | (simp [*]; done) | (simp [*]; exact hK _ _ hk)
          · exact hk.elim
        · first | exact scalOp_mono hK hk | (simp [*]; exact scalOp_mono hK hk)
      · split at hk
        · split at hk
          · first | exact hK _ _ hk | (simp [*]; done) | (simp [*]; exact hK _ _ hk)
          · first | exact hK _ _ hk | (simp [*]; done) | (simp [*]; exact hK _ _ hk)
          · exact hk.elim
        · exact hk.elim
    · exact hk.elim
  case makeFunc fn fs cs =>
    cases fn <;> (try simp only at hk ⊢) <;> try exact scalOp_mono hK hk
    split at hk
    · first | exact hK _ _ hk | (simp [*]; done) | (simp [*]; exact hK _ _ hk)
    · exact hk.elim
  all_goals
    (try simp only [forceL, forceLw_eq (forceV_eq 4), forceN_eq, spine_eq] at hk ⊢)
    (repeat' (split at hk)) <;> first | exact hk.elim | (first | exact hK _ _ hk | (simp [*]; done) | (simp [*]; exact hK _ _ hk))
theorem oevT_mono (hm : CallMono call) (ho : OpnMono opn) {o : Oper} {t : Gt} {H : AH X} {K K' : Value → AH X → Prop} (hK : ∀ v H, K v H → K' v H) (hk : oevT tl opn P call o t H K) : oevT tl opn P call o t H K' := by
  unfold oevT at *
  split at hk
  · rename_i hb
    split at hk
    · rename_i vs hvs
      rcases (DT.runE_iff _).1 hk with ⟨v, H', e, hk⟩ | ⟨e, hk⟩
      · exact (DT.runE_iff _).2 (.inl ⟨v, H', e, hK _ _ hk⟩)
      · refine (DT.runE_iff _).2 (.inr ⟨e, ?_⟩)
        split at hk
        · first | exact oev_mono hm hK hk | (simp only [*]; exact oev_mono hm hK hk)
        · first | exact ho _ _ _ _ _ hK hk | (simp only [*]; exact ho _ _ _ _ _ hK hk)
    · exact hk.elim
  · exact oev_mono hm hK hk
theorem regO_det (hd : CallDet call) (hm : CallMono call) (hod : OpnDet opn) (hom : OpnMono opn) {ops : List Oper} : ∀ {l : List Oper} {t : Sl} {H : AH X} {K : Sl → AH X → Prop}, regO tl opn P call ops l t H K → ∃ t' H', regO tl opn P call ops l t H (fun a b => a = t' ∧ b = H') ∧ K t' H'
  | [], t, H, K, h => ⟨t, H, ⟨rfl, rfl⟩, h⟩
  | o :: l, t, H, K, h => by
    rw [regO_cons] at h
    simp only [nxt_eq] at h
    rcases guardK_eq h with ⟨g, h⟩ | ⟨g, h⟩
    · obtain ⟨v, G, h1, h2⟩ := oevT_det hd hod h
      obtain ⟨t', H', h3, h4⟩ := regO_det hd hm hod hom h2
      refine ⟨t', H', ?_, h4⟩
      rw [regO_cons]
      simp only [nxt_eq]
      exact guardK_of.1 g (oevT_mono hm hom (fun v' G' ⟨e1, e2⟩ => by subst e1 e2; exact h3) h1)
    · obtain ⟨t', H', h3, h4⟩ := regO_det hd hm hod hom h
      refine ⟨t', H', ?_, h4⟩
      rw [regO_cons]
      simp only [nxt_eq]
      exact guardK_of.2 g h3

theorem regO_mono (hm : CallMono call) (hom : OpnMono opn) {ops : List Oper} : ∀ {l : List Oper} {t : Sl} {H : AH X} {K K' : Sl → AH X → Prop}, (∀ t H, K t H → K' t H) → regO tl opn P call ops l t H K → regO tl opn P call ops l t H K'
  | [], t, H, K, K', hK, h => hK _ _ h
  | o :: l, t, H, K, K', hK, h => by
    rw [regO_cons] at h ⊢
    simp only [nxt_eq] at h ⊢
    rcases guardK_eq h with ⟨g, h⟩ | ⟨g, h⟩
    · exact guardK_of.1 g (oevT_mono hm hom (fun v' G' h => regO_mono hm hom hK h) h)
    · exact guardK_of.2 g (regO_mono hm hom hK h)
theorem regD_mono (hm : CallMono call) {ops : List Oper} : ∀ {l : List Oper} {fs : List Foot} {t : Sl} {H : AH X} {K K' : Sl → AH X → Prop}, (∀ t H, K t H → K' t H) → regD tl P call eff ops l fs t H K → regD tl P call eff ops l fs t H K'
  | [], fs, t, H, K, K', hK, h => by
    rw [regD_nil] at h ⊢
    split at h
    · rename_i e; (try simp only [e]); exact hK _ _ h
    · exact h.elim
  | o :: l, fs, t, H, K, K', hK, h => by
    rw [regD_cons] at h ⊢
    simp only [nxt_eq, forceF_eq, spine_eq] at h ⊢
    rcases guardK_eq h with ⟨g, h⟩ | ⟨g, h⟩
    · refine guardK_of.1 g ?_
      split at h
      · rename_i e; (try simp only [e]); exact oev_mono hm (fun v' G' h => regD_mono hm hK h) h
      · rename_i e
        (try simp only [e])
        split at h
        · rename_i e; (try simp only [e]); exact oev_mono hm (fun v' G' h => regD_mono hm hK h) h
        · rename_i e
          (try simp only [e])
          refine oevT_mono hm noOpn_mono (fun v' G' h => ?_) h
          split at h
          · rename_i e; (try simp only [e]); exact regD_mono hm hK h
          · exact h.elim
    · exact guardK_of.2 g (regD_mono hm hK h)
theorem regD_det (hd : CallDet call) (hm : CallMono call) {ops : List Oper} : ∀ {l : List Oper} {fs : List Foot} {t : Sl} {H : AH X} {K : Sl → AH X → Prop}, regD tl P call eff ops l fs t H K → ∃ t' H', regD tl P call eff ops l fs t H (fun a b => a = t' ∧ b = H') ∧ K t' H'
  | [], fs, t, H, K, h => by
    rw [regD_nil] at h
    split at h
    · rename_i e
      exact ⟨t, H, by rw [regD_nil]; (try simp only [e]); (first | exact ⟨rfl, rfl⟩ | simp), h⟩
    · exact h.elim
  | o :: l, fs, t, H, K, h => by
    rw [regD_cons] at h
    simp only [nxt_eq, forceF_eq, spine_eq] at h
    rcases guardK_eq h with ⟨g, h⟩ | ⟨g, h⟩
    · split at h
      · rename_i e
        obtain ⟨v, G, h1, h2⟩ := oev_det hd h
        obtain ⟨t', H', h3, h4⟩ := regD_det hd hm h2
        refine ⟨t', H', ?_, h4⟩
        rw [regD_cons]
        simp only [nxt_eq, forceF_eq, spine_eq]
        refine guardK_of.1 g ?_
        simp only [e]
        exact oev_mono hm (fun v' G' ⟨e1, e2⟩ => by subst e1; exact h3) h1
      · rename_i e
        split at h
        · rename_i e'
          obtain ⟨v, G, h1, h2⟩ := oev_det hd h
          obtain ⟨t', H', h3, h4⟩ := regD_det hd hm h2
          refine ⟨t', H', ?_, h4⟩
          rw [regD_cons]
          simp only [nxt_eq, forceF_eq, spine_eq]
          refine guardK_of.1 g ?_
          simp only [e, e']
          exact oev_mono hm (fun v' G' ⟨e1, e2⟩ => by subst e1; exact h3) h1
        · rename_i e'
          obtain ⟨v, G, h1, h2⟩ := oevT_det hd noOpn_det h
          split at h2
          · rename_i hb
            obtain ⟨t', H', h3, h4⟩ := regD_det hd hm h2
            refine ⟨t', H', ?_, h4⟩
            rw [regD_cons]
            simp only [nxt_eq, forceF_eq, spine_eq]
            refine guardK_of.1 g ?_
            simp only [e, e']
            exact oevT_mono hm noOpn_mono (fun v' G' ⟨e1, e2⟩ => by subst e1 e2; simp only [hb]; exact h3) h1
          · exact h2.elim
    · obtain ⟨t', H', h3, h4⟩ := regD_det hd hm h
      refine ⟨t', H', ?_, h4⟩
      rw [regD_cons]
      simp only [nxt_eq, forceF_eq, spine_eq]
      exact guardK_of.2 g h3

def LpDet (lp : LpT X) : Prop := ∀ b t H K, lp b t H K → ∃ e t' H', lp b t H (fun a b c => a = e ∧ b = t' ∧ c = H') ∧ K e t' H'
def LpMono (lp : LpT X) : Prop := ∀ b t H K K', (∀ e t H, K e t H → K' e t H) → lp b t H K → lp b t H K'

theorem cev_mono (hlp : LpMono lp) (hom : OpnMono opn) (hO : CallMono callO) (hD : CallMono callD) : ∀ (n : Nat) {c : Code} {t : Sl} {H : AH X} {K K' : KE X}, (∀ e t H, K e t H → K' e t H) → cev P lp tl opn callO callD eff n c t H K → cev P lp tl opn callO callD eff n c t H K'
  | 0, _, _, _, _, _, _, h => h.elim
  | n + 1, c, t, H, K, K', hK, h => by
    cases c <;> simp only [cev] at h ⊢
    case skip => exact hK _ _ _ h
    case label l => exact hK _ _ _ h
    case region id ops d =>
      obtain ⟨ops⟩ := ops
      simp only at h ⊢
      split at h
      · exact regO_mono hO hom (hK _) h
      · split at h
        · rename_i e; (try simp only [e]); exact regD_mono hD (hK _) h
        · exact h.elim
    case seq x y =>
      refine cev_mono hlp hom hO hD n (fun e t H h => ?_) h
      cases e with
      | normal => exact cev_mono hlp hom hO hD n hK h
      | _ => exact hK _ _ _ h
    case cond c x y =>
      split at h
      · rename_i b e
        (try simp only [e])
        cases b
        · exact cev_mono hlp hom hO hD n hK h
        · exact cev_mono hlp hom hO hD n hK h
      · exact h.elim
    case block id b =>
      refine cev_mono hlp hom hO hD n (fun e t H h => ?_) h
      cases e with
      | exit i =>
        simp only [blkK] at h ⊢
        split at h
        · rename_i e; (try simp only [e]); exact hK _ _ _ h
        · rename_i e; (try simp only [e]); exact hK _ _ _ h
      | _ => exact hK _ _ _ h
    case loop b => exact hlp _ _ _ _ _ hK h
    case exit id => exact hK _ _ _ h
    case ret => exact hK _ _ _ h
    all_goals exact h.elim
theorem cev_det (hlp : LpMono lp) (hlpd : LpDet lp) (hom : OpnMono opn) (hod : OpnDet opn) (hO : CallMono callO) (hOd : CallDet callO) (hD : CallMono callD) (hDd : CallDet callD) : ∀ (n : Nat) {c : Code} {t : Sl} {H : AH X} {K : KE X}, cev P lp tl opn callO callD eff n c t H K → ∃ e t' H', cev P lp tl opn callO callD eff n c t H (fun a b c => a = e ∧ b = t' ∧ c = H') ∧ K e t' H'
  | 0, _, _, _, _, h => h.elim
  | n + 1, c, t, H, K, h => by
    cases c <;> simp only [cev] at h ⊢
    case skip => exact ⟨_, _, _, ⟨rfl, rfl, rfl⟩, h⟩
    case label l => exact ⟨_, _, _, ⟨rfl, rfl, rfl⟩, h⟩
    case region id ops d =>
      obtain ⟨ops⟩ := ops
      simp only at h ⊢
      split at h
      · obtain ⟨t', H', h1, h2⟩ := regO_det hOd hO hod hom h
        exact ⟨_, t', H', regO_mono hO hom (fun _ _ h => ⟨rfl, h⟩) h1, h2⟩
      · split at h
        · rename_i e
          obtain ⟨t', H', h1, h2⟩ := regD_det hDd hD h
          exact ⟨_, t', H', by (try simp only); exact regD_mono hD (fun _ _ h => by first | exact ⟨rfl, h⟩ | exact ⟨trivial, h⟩) h1, h2⟩
        · exact h.elim
    case seq x y =>
      obtain ⟨e, t1, H1, h1, h2⟩ := cev_det hlp hlpd hom hod hO hOd hD hDd n h
      cases e with
      | normal =>
        obtain ⟨e', t2, H2, h3, h4⟩ := cev_det hlp hlpd hom hod hO hOd hD hDd n h2
        exact ⟨e', t2, H2, cev_mono hlp hom hO hD n (fun a b c ⟨q1, q2, q3⟩ => by subst q1 q2 q3; exact h3) h1, h4⟩
      | _ => exact ⟨_, t1, H1, cev_mono hlp hom hO hD n (fun a b c ⟨q1, q2, q3⟩ => by subst q1 q2 q3; exact ⟨rfl, rfl, rfl⟩) h1, h2⟩
    case cond c x y =>
      split at h
      · rename_i b e
        (try simp only [e])
        cases b
        · exact cev_det hlp hlpd hom hod hO hOd hD hDd n h
        · exact cev_det hlp hlpd hom hod hO hOd hD hDd n h
      · exact h.elim
    case block id b =>
      obtain ⟨e, t1, H1, h1, h2⟩ := cev_det hlp hlpd hom hod hO hOd hD hDd n h
      cases e with
      | exit i =>
        simp only [blkK] at h2
        split at h2
        · rename_i q
          exact ⟨_, t1, H1, cev_mono hlp hom hO hD n (fun a b c ⟨q1, q2, q3⟩ => by subst q1 q2 q3; (try simp only [blkK, q]); (first | exact ⟨rfl, rfl, rfl⟩ | simp)) h1, h2⟩
        · rename_i q
          exact ⟨_, t1, H1, cev_mono hlp hom hO hD n (fun a b c ⟨q1, q2, q3⟩ => by subst q1 q2 q3; (try simp only [blkK, q]); (first | exact ⟨rfl, rfl, rfl⟩ | simp)) h1, h2⟩
      | _ => exact ⟨_, t1, H1, cev_mono hlp hom hO hD n (fun a b c ⟨q1, q2, q3⟩ => by subst q1 q2 q3; exact ⟨rfl, rfl, rfl⟩) h1, h2⟩
    case loop b => exact hlpd _ _ _ _ h
    case exit id => exact ⟨_, _, _, ⟨rfl, rfl, rfl⟩, h⟩
    case ret => exact ⟨_, _, _, ⟨rfl, rfl, rfl⟩, h⟩
    all_goals exact h.elim

theorem lpN_mono (hom : OpnMono opn) (hO : CallMono callO) (hD : CallMono callD) (n : Nat) : ∀ m, LpMono (lpN P tl opn callO callD eff n m)
  | 0 => fun _ _ _ _ _ _ h => h.elim
  | m + 1 => fun b t H K K' hK h => by
    refine cev_mono (lpN_mono hom hO hD n m) hom hO hD n (fun e t H h => ?_) h
    cases e with
    | normal => exact lpN_mono hom hO hD n m _ _ _ _ _ hK h
    | _ => exact hK _ _ _ h
theorem lpN_det (hom : OpnMono opn) (hod : OpnDet opn) (hO : CallMono callO) (hOd : CallDet callO) (hD : CallMono callD) (hDd : CallDet callD) (n : Nat) : ∀ m, LpDet (lpN P tl opn callO callD eff n m)
  | 0 => fun _ _ _ _ h => h.elim
  | m + 1 => fun b t H K h => by
    obtain ⟨e, t1, H1, h1, h2⟩ := cev_det (lpN_mono hom hO hD n m) (lpN_det hom hod hO hOd hD hDd n m) hom hod hO hOd hD hDd n h
    cases e with
    | normal =>
      obtain ⟨e', t2, H2, h3, h4⟩ := lpN_det hom hod hO hOd hD hDd n m _ _ _ _ h2
      exact ⟨e', t2, H2, cev_mono (lpN_mono hom hO hD n m) hom hO hD n (fun a b c ⟨q1, q2, q3⟩ => by subst q1 q2 q3; exact h3) h1, h4⟩
    | _ => exact ⟨_, t1, H1, cev_mono (lpN_mono hom hO hD n m) hom hO hD n (fun a b c ⟨q1, q2, q3⟩ => by subst q1 q2 q3; exact ⟨rfl, rfl, rfl⟩) h1, h2⟩

theorem fbody_mono (hlp : LpMono lp) (hom : OpnMono opn) (hO : CallMono callO) (hD : CallMono callD) {n : Nat} {F : Func} {args : List Value} {H : AH X} {K K' : Value → AH X → Prop} (hK : ∀ v H, K v H → K' v H) (h : fbody P lp tl opn callO callD eff n F args H K) : fbody P lp tl opn callO callD eff n F args H K' := by
  unfold fbody at *
  split at h
  · exact h.elim
  · simp only [slotsK_eq] at h ⊢
    refine cev_mono hlp hom hO hD n (fun e t H h => ?_) h
    cases e <;> simp only [retK] at h ⊢ <;> try exact h.elim
    all_goals
      split at h
      · rename_i q; (try simp only [q]); exact hK _ _ h
      · exact h.elim
theorem fbody_det (hlp : LpMono lp) (hlpd : LpDet lp) (hom : OpnMono opn) (hod : OpnDet opn) (hO : CallMono callO) (hOd : CallDet callO) (hD : CallMono callD) (hDd : CallDet callD) {n : Nat} {F : Func} {args : List Value} {H : AH X} {K : Value → AH X → Prop} (h : fbody P lp tl opn callO callD eff n F args H K) : ∃ v H', fbody P lp tl opn callO callD eff n F args H (fun a b => a = v ∧ b = H') ∧ K v H' := by
  unfold fbody at *
  split at h
  · exact h.elim
  · simp only [slotsK_eq] at h ⊢
    obtain ⟨e, t1, H1, h1, h2⟩ := cev_det hlp hlpd hom hod hO hOd hD hDd n h
    cases e <;> simp only [retK] at h2 <;> try exact h2.elim
    all_goals
      split at h2
      · rename_i q
        exact ⟨_, H1, cev_mono hlp hom hO hD n (fun a b c ⟨q1, q2, q3⟩ => by subst q1 q2 q3; (try simp only [retK, q]); (first | exact ⟨rfl, rfl⟩ | simp)) h1, h2⟩
      · exact h2.elim

end

/-! ### What is new and cannot be reached is forgotten -/
/-- No number from n on, to depth k. -/
def idB (n : Nat) : Nat → Value → Bool
  | _, .pointer (some ⟨i, _, _⟩) => Nat.blt i n
  | _, .slice (some ⟨i, _, _⟩) _ _ => Nat.blt i n
  | _, .map (some i) => Nat.blt i n
  | k + 1, .iface _ v => idB n k v
  | k + 1, .agg ⟨l⟩ => l.all (idB n k)
  | k + 1, .tuple ⟨l⟩ => l.all (idB n k)
  | k + 1, .func _ ⟨f⟩ ⟨c⟩ => f.all (idB n k) && c.all (idB n k)
  | _, v => plain v
def objB {X : Type} (n : Nat) : Option (Bool × AObj X) → Bool
  | some (_, .cells cs _) => cs.all (idB n 4)
  | _ => true
def takeN {α : Type} : Nat → List α → List α
  | n + 1, a :: l => a :: takeN n l
  | _, _ => []
theorem takeN_len {α : Type} : ∀ (n : Nat) (l : List α), n ≤ l.length → (takeN n l).length = n
  | 0, l, _ => by cases l <;> rfl
  | n + 1, [], h => by simp at h
  | n + 1, a :: l, h => by simp only [takeN, List.length_cons]; rw [takeN_len n l (by simpa using h)]
theorem takeN_nth {α : Type} : ∀ (n : Nat) (l : List (Option α)) (i : Nat) (x : α), nth (takeN n l) i = some x → i < n ∧ nth l i = some x
  | 0, l, i, x, h => by cases l <;> simp [takeN, nth] at h
  | n + 1, [], i, x, h => by simp [takeN, nth] at h
  | n + 1, a :: l, 0, x, h => ⟨by omega, h⟩
  | n + 1, a :: l, i + 1, x, h => by
    obtain ⟨h1, h2⟩ := takeN_nth n l i x h
    exact ⟨by omega, h2⟩
theorem takeN_all {α : Type} {p : Option α → Bool} : ∀ (n : Nat) (l : List (Option α)) (i : Nat) (x : α), (takeN n l).all p = true → nth (takeN n l) i = some x → p (some x) = true
  | 0, l, i, x, _, h => by cases l <;> simp [takeN, nth] at h
  | n + 1, [], i, x, _, h => by simp [takeN, nth] at h
  | n + 1, a :: l, 0, x, ha, h => by
    simp only [takeN, List.all_cons, Bool.and_eq_true] at ha
    simp only [takeN, nth] at h
    rw [← h]; exact ha.1
  | n + 1, a :: l, i + 1, x, ha, h => by
    simp only [takeN, List.all_cons, Bool.and_eq_true] at ha
    exact takeN_all n l i x ha.2 h
def tidy {X : Type} (n : Nat) (v : Value) (H : AH X) : AH X :=
  match idB n 4 v && (takeN n H).all (objB n) with
  | true => takeN n H
  | false => H

theorem VR.under {L : Nat → Prop} {ρ : Nat → Nat × Nat} {n m : Nat} : ∀ (k : Nat) {v v' : Value}, idB n k v = true → VR (LU L n m) ρ v v' → VR L ρ v v' := by
  have hx : ∀ x, LU L n m x → x < n → L x := fun x h hn => by
    rcases h with h | h
    · exact h
    · omega
  intro k
  induction k with
  | zero =>
    intro v v' hb h
    cases h with
    | plain h => exact .plain h
    | ptr h => exact .ptr (hx _ h (by simpa [idB, Nat.blt_eq] using hb))
    | slice h => exact .slice (hx _ h (by simpa [idB, Nat.blt_eq] using hb))
    | row h => exact .row (hx _ h (by simpa [idB, Nat.blt_eq] using hb))
    | emp => exact .emp
    | map h => exact .map (hx _ h (by simpa [idB, Nat.blt_eq] using hb))
    | iface h => simp [idB, Go.Proofs.Ytdmodejpcfhbhaa.plain] at hb
    | agg h => simp [idB, Go.Proofs.Ytdmodejpcfhbhaa.plain] at hb
    | tuple h => cases h with
      | nil => exact .tuple .nil
      | cons => simp [idB, Go.Proofs.Ytdmodejpcfhbhaa.plain] at hb
    | func h => simp [idB, Go.Proofs.Ytdmodejpcfhbhaa.plain] at hb
  | succ k ih =>
    have hl : ∀ {l l' : List Value}, l.all (idB n k) = true → VRL (LU L n m) ρ l l' → VRL L ρ l l' := by
      intro l
      induction l with
      | nil => intro l' _ h; cases h; exact .nil
      | cons a l ihl => intro l' hb h; cases h with
        | cons h0 h => simp only [List.all_cons, Bool.and_eq_true] at hb; exact .cons (ih hb.1 h0) (ihl hb.2 h)
    intro v v' hb h
    cases h with
    | plain h => exact .plain h
    | ptr h => exact .ptr (hx _ h (by simpa [idB, Nat.blt_eq] using hb))
    | slice h => exact .slice (hx _ h (by simpa [idB, Nat.blt_eq] using hb))
    | row h => exact .row (hx _ h (by simpa [idB, Nat.blt_eq] using hb))
    | emp => exact .emp
    | map h => exact .map (hx _ h (by simpa [idB, Nat.blt_eq] using hb))
    | iface h => exact .iface (ih hb h)
    | agg h => exact .agg (hl hb h)
    | tuple h => exact .tuple (hl hb h)
    | func h h' => simp only [idB, Bool.and_eq_true] at hb; exact .func (hl hb.1 h) (hl hb.2 h')
theorem VRL.under {L : Nat → Prop} {ρ : Nat → Nat × Nat} {n m : Nat} {k : Nat} : ∀ {l l' : List Value}, l.all (idB n k) = true → VRL (LU L n m) ρ l l' → VRL L ρ l l'
  | [], _, _, h => by cases h; exact .nil
  | a :: l, _, hb, h => by cases h with
    | cons h0 h => simp only [List.all_cons, Bool.and_eq_true] at hb; exact .cons (h0.under k hb.1) (VRL.under hb.2 h)

section
variable {X : Type} {I : Means X}
theorem Now.trunc {w0 w : World} {L : Nat → Prop} {ρ : Ren} {H : AH X} {h : GH} {n m : Nat} (hn : Now I w0 (LU L n m) ρ H h w) (hL : ∀ x, L x → x < n) (hl : n ≤ H.length) (hb : (takeN n H).all (objB n) = true) : Now I w0 L ρ (takeN n H) h w where
  mem := hn.mem
  lt x hx := by rw [takeN_len n H hl]; exact hL x hx
  org := hn.org
  sat := by
    refine ⟨fun i p o e => ?_, fun i p o e => ?_, fun i j p o q u e1 e2 => hn.sat.apart i j p o q u (takeN_nth _ _ _ _ e1).2 (takeN_nth _ _ _ _ e2).2⟩
    · have hp := takeN_all _ _ _ _ hb e
      have hs := hn.sat.obj i p o (takeN_nth _ _ _ _ e).2
      cases o with
      | cells cs T =>
        obtain ⟨h1, cs', h2, h3⟩ := hs
        exact ⟨h1, cs', h2, h3.under hp⟩
      | ext x => exact hs
    · obtain ⟨hi, e'⟩ := takeN_nth _ _ _ _ e
      rcases hn.sat.live i p o e' with h | h
      · exact h
      · omega
theorem Tr.trunc {ρ ρ' : Ren} {H H' : AH X} {h h' : GH} (tr : Tr ρ H h ρ' H' h') : Tr ρ H h ρ' (takeN H.length H') h' where
  le := by rw [takeN_len _ _ tr.le]; exact Nat.le_refl _
  base := tr.base
  perm i p o' hi e := tr.perm i p o' hi (takeN_nth _ _ _ _ e).2
  keep := tr.keep
  fresh i p o e := tr.fresh i p o (takeN_nth _ _ _ _ e).2
  frame := tr.frame
  dom := tr.dom
end

section
variable {X : Type} {P : Program} {I : Means X}
theorem FWP.tidy {f : FuncId} {args : List Value} {H : AH X} {K : Value → AH X → Prop} (h : FWP P I f args H fun v H' => K v (tidy H.length v H')) : FWP P I f args H K := by
  refine ⟨h.1, fun w0 w L h' ρ args' hn ha => (h.2 w0 w L h' ρ args' hn ha).mono fun e w' => ?_⟩
  rintro ⟨v, v', H', ρ', h'', he, hk, n', tr, hv⟩
  unfold Go.Proofs.Ytdmodejpcfhbhaa.tidy at hk
  split at hk
  · rename_i hb
    rw [Bool.and_eq_true] at hb
    refine ⟨v, v', _, ρ', h'', he, hk, ?_, tr.trunc, ?_⟩
    · rw [takeN_len _ _ tr.le]; exact (n'.trunc hn.lt tr.le hb.2).lu
    · rw [takeN_len _ _ tr.le]; exact (hv.under 4 hb.1).mono fun x hx => ⟨.inl hx, rfl⟩
  · exact ⟨v, v', H', ρ', h'', he, hk, n', tr, hv⟩
end

/-! ### Which functions are walked into, which are told -/
section
variable {X : Type} {P : Program} {I : Means X} {call callO callD : CallT X} {eff : FuncId → List Nat} {lp : LpT X}
noncomputable def DT.run : DT X → (Value → AH X → Prop) → Prop
  | .ret v H, K => K v H
  | .ite c a b, K => selP c (a.run K) (b.run K)
  | .no, _ => No ()
def DT.of : Option (Value × AH X) → DT X
  | some (v, H) => .ret v H
  | none => .no
theorem DT.out_of (o : Option (Value × AH X)) : (DT.of o).out = o := by
  cases o with
  | none => rfl
  | some r => rfl
theorem DT.run_iff (d : DT X) (K : Value → AH X → Prop) : d.run K ↔ ∃ v H, d.out = some (v, H) ∧ K v H := by
  induction d with
  | ret v H => exact ⟨fun h => ⟨v, H, rfl, h⟩, fun ⟨v', H', e, h⟩ => by cases e; exact h⟩
  | ite c a b iha ihb => cases c; exact ihb; exact iha
  | no => exact ⟨fun h => h.elim, fun ⟨_, _, e, _⟩ => by cases e⟩
structure Env (X : Type) where
  inl : FuncId → Option Func
  det : FuncId → Option (List Value → AH X → DT X)
  eff : FuncId → List Nat
  op : TellT X
structure Env.Ok (E : Env X) (P : Program) (I : Means X) : Prop where
  mixed : P.follows .mixedOrders = true
  inl : ∀ f F, E.inl f = some F → P.funcs[f]? = some F ∧ (F.name == "runtime.NumGoroutine") = false
  det : ∀ f s, E.det f = some s → ∀ args H v H', (s args H).out = some (v, H') → FWP P I f args H fun a b => a = v ∧ b = H'
  op : TellSound P I E.op

/-- A call, walked into to a depth, of which one thing alone comes. -/
noncomputable def fevD (P : Program) (E : Env X) : Nat → CallT X
  | 0 => fun f _ _ _ => No f
  | d + 1 => fun f args H K => match E.det f with
    | some s => (s args H).run K
    | none => (match E.inl f with
      | some F => (match Nat.ble args.length F.ntmps with
        | true => fbody P (lpN P E.op noOpn (fevD P E d) (fevD P E d) E.eff 200 60) E.op noOpn (fevD P E d) (fevD P E d) E.eff 200 F args H (fun v H' => forceV 4 v fun v => spine (tidy H.length v H') fun H' => K v H')
        | false => No (f, args))
      | none => No (f, args))
theorem fevD_md (E : Env X) : ∀ d, CallMono (fevD P E d) ∧ CallDet (fevD P E d)
  | 0 => ⟨fun _ _ _ _ _ _ h => h.elim, fun _ _ _ _ h => h.elim⟩
  | d + 1 => by
    obtain ⟨hm, hd⟩ := fevD_md E d
    constructor
    · intro f args H K K' hK h
      unfold fevD at h ⊢
      simp only [forceV_eq, spine_eq] at h ⊢
      split at h
      · rename_i s e
        (try simp only)
        rw [DT.run_iff] at h ⊢
        obtain ⟨v, H', q, hk⟩ := h
        exact ⟨v, H', q, hK _ _ hk⟩
      · (try simp only)
        split at h
        · rename_i q
          split at h
          · rename_i r; (try simp only [r]); exact fbody_mono (lpN_mono noOpn_mono hm hm 200 60) noOpn_mono hm hm (fun _ _ h => hK _ _ h) h
          · exact h.elim
        · exact h.elim
    · intro f args H K h
      unfold fevD at h ⊢
      simp only [forceV_eq, spine_eq] at h ⊢
      split at h
      · rename_i s e
        (try simp only)
        rw [DT.run_iff] at h
        obtain ⟨v, H', q, hk⟩ := h
        exact ⟨v, H', by rw [DT.run_iff]; exact ⟨v, H', q, rfl, rfl⟩, hk⟩
      · (try simp only)
        split at h
        · rename_i q
          split at h
          · rename_i r; (try simp only [r])
            obtain ⟨v, H', h1, h2⟩ := fbody_det (lpN_mono noOpn_mono hm hm 200 60) (lpN_det noOpn_mono noOpn_det hm hd hm hd 200 60) noOpn_mono noOpn_det hm hd hm hd h
            exact ⟨v, tidy H.length v H', fbody_mono (lpN_mono noOpn_mono hm hm 200 60) noOpn_mono hm hm (fun a b ⟨e1, e2⟩ => by subst e1 e2; exact ⟨rfl, rfl⟩) h1, h2⟩
          · exact h.elim
        · exact h.elim
theorem FWP.mono {f : FuncId} {args : List Value} {H : AH X} {K K' : Value → AH X → Prop} (h : FWP P I f args H K) (hK : ∀ v H, K v H → K' v H) : FWP P I f args H K' :=
  ⟨h.1, fun w0 w L h' ρ args' hn ha => (h.2 w0 w L h' ρ args' hn ha).mono fun _ _ ⟨v, v', H', ρ', h'', he, hk, r⟩ => ⟨v, v', H', ρ', h'', he, hK _ _ hk, r⟩⟩
theorem fevD_sound {E : Env X} (hE : E.Ok P I) : ∀ d, CallSound P I (fevD P E d)
  | 0 => fun _ _ _ _ h => h.elim
  | d + 1 => fun f args H K h => by
    have ih := fevD_sound hE d
    obtain ⟨hm, hd⟩ := fevD_md (P := P) E d
    show FWP P I f args H K
    unfold fevD at h
    simp only [forceV_eq, spine_eq] at h
    split at h
    · rename_i s e
      rw [DT.run_iff] at h
      obtain ⟨v, H', q, h⟩ := h
      exact (hE.det f s e args H v H' q).mono fun a b ⟨q1, q2⟩ => by subst q1 q2; exact h
    · split at h
      · rename_i F q
        split at h
        · rename_i r
          obtain ⟨h1, h2⟩ := hE.inl f F q
          exact (fbody_sound hE.mixed hE.op noOpn_sound ih ih hd h1 h2 (lpN_sound hE.mixed hE.op noOpn_sound ih ih hd 200 60) (Nat.le_of_ble_eq_true r) h).tidy
        · exact h.elim
      · exact h.elim

theorem owp_sound : OpnSound P I (OWP P I) := fun _ _ _ _ h => h
/-- A call, walked into to a depth; what is not walked into, and loops, are left to be shown. -/
noncomputable def fev (P : Program) (I : Means X) (E : Env X) : Nat → CallT X
  | 0 => FWP P I
  | d + 1 => fun f args H K => match E.det f with
    | some s => (s args H).runE (FWP P I f args H K) K
    | none => (match E.inl f with
      | some F => (match Nat.ble args.length F.ntmps with
        | true => forceN H.length fun m => fbody P (fun b => SWP P I m (.loop b)) E.op (OWP P I) (fev P I E d) (fevD P E 30) E.eff 200 F args H (fun v H' => forceV 4 v fun v => spine (tidy m v H') fun H' => K v H')
        | false => No (f, args))
      | none => FWP P I f args H K)
theorem fev_sound {E : Env X} (hE : E.Ok P I) : ∀ d, CallSound P I (fev P I E d)
  | 0 => fun _ _ _ _ h => h
  | d + 1 => fun f args H K h => by
    have ih := fev_sound hE d
    obtain ⟨_, hd⟩ := fevD_md (P := P) E 30
    show FWP P I f args H K
    unfold fev at h
    simp only [forceV_eq, spine_eq, forceN_eq] at h
    split at h
    · rename_i s e
      rcases (DT.runE_iff _).1 h with ⟨v, H', q, h⟩ | ⟨_, h⟩
      · exact (hE.det f s e args H v H' q).mono fun a b ⟨q1, q2⟩ => by subst q1 q2; exact h
      · exact h
    · split at h
      · rename_i F q
        split at h
        · rename_i r
          obtain ⟨h1, h2⟩ := hE.inl f F q
          exact (fbody_sound hE.mixed hE.op owp_sound ih (fevD_sound hE 30) hd h1 h2 (fun _ _ _ _ h => h) (Nat.le_of_ble_eq_true r) h).tidy
        · exact h.elim
      · exact h
/-- A function, walked. -/
theorem FWP.body {E : Env X} (hE : E.Ok P I) (d : Nat) {f : FuncId} {F : Func} (hf : P.funcs[f]? = some F) (hnm : (F.name == "runtime.NumGoroutine") = false) {args : List Value} {H : AH X} {K : Value → AH X → Prop} (hl : args.length ≤ F.ntmps)
    (h : fbody P (fun b => SWP P I H.length (.loop b)) E.op (OWP P I) (fev P I E d) (fevD P E 30) E.eff 200 F args H K) : FWP P I f args H K :=
  fbody_sound hE.mixed hE.op owp_sound (fev_sound hE d) (fevD_sound hE 30) (fevD_md E 30).2 hf hnm (fun _ _ _ _ h => h) hl h
/-- A loop's body, walked. -/
theorem SWP.code {E : Env X} (hE : E.Ok P I) (d n : Nat) {m : Nat} {c : Code} {t : Sl} {H : AH X} {K : KE X} (h : cev P (fun b => SWP P I m (.loop b)) E.op (OWP P I) (fev P I E d) (fevD P E 30) E.eff n c t H K) : SWP P I m c t H K :=
  cev_sound hE.mixed hE.op owp_sound (fun _ _ _ _ h => h) (fev_sound hE d) (fevD_sound hE 30) (fevD_md E 30).2 n h
/-- A loop, gone round one by one. -/
theorem SWP.turns {E : Env X} (hE : E.Ok P I) (d n j : Nat) {m : Nat} {b : Code} {t : Sl} {H : AH X} {K : KE X} (h : lpN P E.op (OWP P I) (fev P I E d) (fevD P E 30) E.eff n j b t H K) : SWP P I m (.loop b) t H K :=
  lpN_sound hE.mixed hE.op owp_sound (fev_sound hE d) (fevD_sound hE 30) (fevD_md E 30).2 n j b t H K h
end
end Go.Proofs.Ytdmodejpcfhbhaa
