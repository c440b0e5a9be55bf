/- The arena's calls and those on places, told; all other functions are walked into. -/
import Derived.Test.YtdmodejpcfhbhaaSxO
namespace Go.Proofs.Ytdmodejpcfhbhaa
open Go.RowKit
variable {W : World}

abbrev DetT := List Value → HX → Option (Value × HX)
abbrev DetD := List Value → HX → DT Ext
def dt (s : DetT) : DetD := fun args H => DT.of (s args H)
/-- A call that turns an arena. -/
def onA (i : Nat) (H : HX) (k : Vw → Value × Vw) : Option (Value × HX) :=
  match nth H i with
  | some (true, .ext (.arena V)) => (match k V with | (v, W) => some (v, put H i (some (true, .ext (.arena W)))))
  | _ => none
/-- A call that looks at an arena. -/
def lookA (i : Nat) (H : HX) (k : Vw → Value) : Option (Value × HX) :=
  match nth H i with
  | some (_, .ext (.arena V)) => some (k V, H)
  | _ => none
def dLoad : DetT
  | [.pointer (some ⟨i, 0, none⟩), .int .i64 x], H => onA i H fun V => (.int .i64 (V.rd x), V.load x)
  | _, _ => none
def dStore : DetT
  | [.pointer (some ⟨i, 0, none⟩), .int .i64 x, .int .i64 v], H => onA i H fun V => (undef, V.store x v)
  | _, _ => none
def dAdd : DetT
  | [.pointer (some ⟨i, 0, none⟩), .int .i64 x, .int .i64 v], H => onA i H fun V => (.int .i64 (V.rd x), V.add x v)
  | _, _ => none
def dSwap : DetT
  | [.pointer (some ⟨i, 0, none⟩), .int .i64 x, .int .i64 o, .int .i64 v], H => onA i H fun V => (.bool (V.swaps x o), V.swap x o v)
  | _, _ => none
def dPoke : DetT
  | [.pointer (some ⟨i, 0, none⟩), .int .i64 x, .int .i64 v], H => onA i H fun V => (undef, V.wr x v)
  | _, _ => none
def dPeek : DetT
  | [.pointer (some ⟨i, 0, none⟩), .int .i64 x], H => lookA i H fun V => .int .i64 (V.rd x)
  | _, _ => none
def dLen : DetT
  | [.pointer (some ⟨i, 0, none⟩)], H => lookA i H fun V => .int .i64 V.ws.length
  | _, _ => none
def dAccesses : DetT
  | [.pointer (some ⟨i, 0, none⟩)], H => lookA i H fun V => .int .i64 (wrap64 V.n)
  | _, _ => none
def accV (x : Acc) : Value := .agg #[.int .i64 x.kind, .int .i64 x.pos, .int .i64 x.old, .int .i64 x.new, .bool x.ok]
def dLast : DetT
  | [.pointer (some ⟨i, 0, none⟩)], H => lookA i H fun V => accV V.last
  | _, _ => none
def dNew : DetT
  | [.int .i64 n], H => some (.pointer (some ⟨H.length, 0, none⟩), H ++ [some (true, .ext (.arena (Vw.fresh (clamp n 1 20000).toNat)))])
  | _, _ => none
def dCopy : DetT
  | [.pointer (some ⟨i, 0, none⟩)], H => (match nth H i with
    | some (_, .ext (.arena V)) => some (.pointer (some ⟨H.length, 0, none⟩), H ++ [some (true, .ext (.arena V))])
    | _ => none)
  | _, _ => none
def Cf.wfB (c : Cf) : Bool := (Lit.int .i64 c.threads).wf && (Lit.int .i64 c.cap).wf && (Lit.int .i64 c.words).wf && (Lit.int .i64 c.versions).wf
theorem Cf.wfB_spec {c : Cf} (h : c.wfB = true) : c.wf := by
  unfold Cf.wfB at h; simp only [Bool.and_eq_true] at h
  exact ⟨h.1.1.1, h.1.1.2, h.1.2, h.2⟩
def dMake : DetD
  | [.agg ⟨[.int .i64 t, .int .i64 c, .int .i64 m, .int .i64 v]⟩], H => .ite (⟨t, c, m, v⟩ : Cf).wfB (.ite (decide ((⟨t, c, m, v⟩ : Cf).is = 0))
      (.ret (.tuple ⟨[.pointer (some ⟨H.length, 0, none⟩), .nilIface]⟩) (H ++ [some (true, .ext (.arena (Cf.arena ⟨t, c, m, v⟩)))]))
      (.ret (.tuple ⟨[.pointer none, .iface 100 (.int .i64 (⟨t, c, m, v⟩ : Cf).is)]⟩) H)) .no
  | _, _ => .no
def dIs : DetD
  | [.agg ⟨[.int .i64 t, .int .i64 c, .int .i64 m, .int .i64 v]⟩], H => .ite (⟨t, c, m, v⟩ : Cf).wfB (.ite (decide ((⟨t, c, m, v⟩ : Cf).is = 0))
      (.ret .nilIface H)
      (.ret (.iface 100 (.int .i64 (⟨t, c, m, v⟩ : Cf).is)) H)) .no
  | _, _ => .no
/-- errors.Is of a number and itself. -/
def dErrIs : DetT
  | [.iface T (.int .i64 m), .iface U (.int .i64 n)], H => (match Nat.beq T 100 && Nat.beq U 100 && decide (m = n ∧ (m = 10 ∨ m = 11 ∨ m = 12 ∨ m = 14 ∨ m = 15 ∨ m = 16)) with
    | true => some (.bool true, H)
    | false => none)
  | _, _ => none
/-- Words. -/
def dWClaim : DetT
  | [.int .i64 s, .int .i64 p], H => some (.int .i64 (claimF s p), H)
  | _, _ => none
def dWPart : DetT
  | [.int .i64 x], H => some (.int .i64 (partF x), H)
  | _, _ => none
def dWAt : DetT
  | [.int .i64 x], H => some (.int .i64 (x / 2), H)
  | _, _ => none
def dWMarked : DetT
  | [.int .i64 x], H => some (.bool (x % 2 == 1), H)
  | _, _ => none
def dWNext : DetT
  | [.int .i64 x, .bool m], H => some (.int .i64 (nextF x m), H)
  | _, _ => none
def dWSeq : DetT
  | [.int .i64 x], H => some (.int .i64 (seqF x), H)
  | _, _ => none
def dWData : DetT
  | [.int .i64 x, .int .i64 y], H => some (.int .i64 (dataF x y), H)
  | _, _ => none
def dWWriter : DetT
  | [.int .i64 x], H => some (.int .i64 (writerF x), H)
  | _, _ => none
def dWVal : DetT
  | [.int .i64 x], H => some (.int .i64 (valF x), H)
  | _, _ => none
def dWState : DetT
  | [.int .i64 x], H => some (.int .i64 (stateF x), H)
  | _, _ => none
def dWVersion : DetT
  | [.int .i64 x], H => some (.int .i64 (verW x), H)
  | _, _ => none
def dets : FuncId → Option DetD
  | 107 => some (dt dLoad)
  | 103 => some (dt dAdd)
  | 104 => some (dt dSwap)
  | 33 => some (dt dPoke)
  | 40 => some (dt dPeek)
  | 151 => some (dt dLen)
  | 87 => some (dt dAccesses)
  | 75 => some (dt dNew)
  | 32 => some dMake
  | 65 => some dIs
  | 61 => some (dt dErrIs)
  | 105 => some (dt dWClaim)
  | 108 => some (dt dWPart)
  | 116 => some (dt dWAt)
  | 106 => some (dt dWSeq)
  | 91 => some (dt dWVal)
  | 118 => some (dt dWVersion)
  | _ => none

section
variable {f : FuncId} {args : List Value} {H H' : HX} {v : Value}
theorem onA_fwp (hgo : ∀ xs w, (callFunc f xs).run Try.prog w = .ok (.enter f xs) w) {i : Nat} {k : Vw → Value × Vw} (hs : onA i H k = some (v, H')) (hk : ∀ V, scal 3 (k V).1 = true)
    (hc : ∀ V w0 w h a d, Mem w0 h w → IsV h a d V → ∀ L ρ args', VRL L ρ args args' → (ρ i).1 = a → Calls Try.prog f ⟨args'⟩ w fun e w' => e = .returned (k V).1 ∧ Arp w0 h a d (k V).2 w') : FWP Try.prog (means W) f args H fun a b => a = v ∧ b = H' := by
  unfold onA at hs
  split at hs <;> try (cases hs; done)
  rename_i V hi
  cases hs
  refine FWP.turns (k := 3) (hk V) hi hgo fun w0 w L h ρ args' hn ha => ?_
  obtain ⟨d, he, hv⟩ := hn.sat.obj i _ _ hi
  refine (hc V w0 w h _ d hn.mem hv L ρ.b args' ha rfl).mono fun e w' ⟨h1, h', m, v', q⟩ => ⟨h1, h', m, ⟨d, he, v'⟩, fun k hk => q k ?_ ?_⟩
  · rintro rfl; exact hk (by show _ ∈ ρ.e i; rw [he]; simp)
  · rintro rfl; exact hk (by show _ ∈ ρ.e i; rw [he]; simp)
theorem lookA_fwp (hgo : ∀ xs w, (callFunc f xs).run Try.prog w = .ok (.enter f xs) w) {i : Nat} {k : Vw → Value} (hs : lookA i H k = some (v, H')) (hk : ∀ V, scal 3 (k V) = true)
    (hc : ∀ V w0 w h a d, Mem w0 h w → IsV h a d V → ∀ L ρ args', VRL L ρ args args' → (ρ i).1 = a → Calls Try.prog f ⟨args'⟩ w fun e w' => e = .returned (k V) ∧ Mem w0 h w') : FWP Try.prog (means W) f args H fun a b => a = v ∧ b = H' := by
  unfold lookA at hs
  split at hs <;> try (cases hs; done)
  rename_i V hi
  cases hs
  refine FWP.quiet (k := 3) (hk V) hgo fun w0 w L h ρ args' hn ha => ?_
  obtain ⟨d, he, hv⟩ := hn.sat.obj i _ _ hi
  exact hc V w0 w h _ d hn.mem hv L ρ.b args' ha rfl

theorem args_p {L : Nat → Prop} {ρ : Nat → Nat × Nat} {i a : Nat} {l l' : List Value} (h : VRL L ρ (.pointer (some ⟨i, 0, none⟩) :: l) l') (hl : l.all Go.Proofs.Ytdmodejpcfhbhaa.plain = true) (e : (ρ i).1 = a) : l' = .pointer (some ⟨a, 0, none⟩) :: l := by
  cases h with
  | cons h0 h => rw [h0.ptr_eq.2, h.plain_eq hl, e]
end
theorem ok_Load {args : List Value} {H H' : HX} {v : Value} (h : dLoad args H = some (v, H')) : FWP Try.prog (means W) 107 args H fun a b => a = v ∧ b = H' := by
  unfold dLoad at h
  split at h <;> try (cases h; done)
  rename_i i x
  exact onA_fwp (callFunc_go Try.func107 rfl (by kernel_rfl)) h (fun _ => rfl) fun V w0 w hh a d hm hv L ρ args' ha e => by
    rw [args_p ha rfl e]
    exact load_v a d V x hm hv
theorem ok_Add {args : List Value} {H H' : HX} {v : Value} (h : dAdd args H = some (v, H')) : FWP Try.prog (means W) 103 args H fun a b => a = v ∧ b = H' := by
  unfold dAdd at h
  split at h <;> try (cases h; done)
  rename_i i x u
  exact onA_fwp (callFunc_go Try.func103 rfl (by kernel_rfl)) h (fun _ => rfl) fun V w0 w hh a d hm hv L ρ args' ha e => by
    rw [args_p ha rfl e]
    exact add_v a d V x u hm hv
theorem ok_Swap {args : List Value} {H H' : HX} {v : Value} (h : dSwap args H = some (v, H')) : FWP Try.prog (means W) 104 args H fun a b => a = v ∧ b = H' := by
  unfold dSwap at h
  split at h <;> try (cases h; done)
  rename_i i x o u
  exact onA_fwp (callFunc_go Try.func104 rfl (by kernel_rfl)) h (fun _ => rfl) fun V w0 w hh a d hm hv L ρ args' ha e => by
    rw [args_p ha rfl e]
    exact swap_v a d V x o u hm hv
theorem ok_Poke {args : List Value} {H H' : HX} {v : Value} (h : dPoke args H = some (v, H')) : FWP Try.prog (means W) 33 args H fun a b => a = v ∧ b = H' := by
  unfold dPoke at h
  split at h <;> try (cases h; done)
  rename_i i x u
  exact onA_fwp (callFunc_go Try.func33 rfl (by kernel_rfl)) h (fun _ => rfl) fun V w0 w hh a d hm hv L ρ args' ha e => by
    rw [args_p ha rfl e]
    exact poke_v a d V x u hm hv
theorem ok_Peek {args : List Value} {H H' : HX} {v : Value} (h : dPeek args H = some (v, H')) : FWP Try.prog (means W) 40 args H fun a b => a = v ∧ b = H' := by
  unfold dPeek at h
  split at h <;> try (cases h; done)
  rename_i i x
  exact lookA_fwp (callFunc_go Try.func40 rfl (by kernel_rfl)) h (fun _ => rfl) fun V w0 w hh a d hm hv L ρ args' ha e => by
    rw [args_p ha rfl e]
    exact (peek_v a d V x hm hv).mono fun e w' ⟨h1, h2⟩ => ⟨h1, h2 ▸ hm⟩
theorem ok_Len {args : List Value} {H H' : HX} {v : Value} (h : dLen args H = some (v, H')) : FWP Try.prog (means W) 151 args H fun a b => a = v ∧ b = H' := by
  unfold dLen at h
  split at h <;> try (cases h; done)
  rename_i i
  exact lookA_fwp (callFunc_go Try.func151 rfl (by kernel_rfl)) h (fun _ => rfl) fun V w0 w hh a d hm hv L ρ args' ha e => by
    rw [args_p ha rfl e]
    exact (len_v a d V hm hv).mono fun e w' ⟨h1, h2⟩ => ⟨h1, h2 ▸ hm⟩
theorem ok_Accesses {args : List Value} {H H' : HX} {v : Value} (h : dAccesses args H = some (v, H')) : FWP Try.prog (means W) 87 args H fun a b => a = v ∧ b = H' := by
  unfold dAccesses at h
  split at h <;> try (cases h; done)
  rename_i i
  exact lookA_fwp (callFunc_go Try.func87 rfl (by kernel_rfl)) h (fun _ => rfl) fun V w0 w hh a d hm hv L ρ args' ha e => by
    rw [args_p ha rfl e]
    exact (accesses_v a d V hm hv).mono fun e w' ⟨h1, h2⟩ => ⟨h1, h2 ▸ hm⟩
theorem made_fwp {f : FuncId} {args : List Value} {H : HX} {V : Vw} (hgo : ∀ xs w, (callFunc f xs).run Try.prog w = .ok (.enter f xs) w) (wr : Value → Value) (hw : ∀ {L : Nat → Prop} {ρ : Nat → Nat × Nat} {u u' : Value}, VR L ρ u u' → VR L ρ (wr u) (wr u'))
    (hc : ∀ w0 w h L ρ args', Now (means W) w0 L ρ H h w → VRL L ρ.b args args' → Calls Try.prog f ⟨args'⟩ w fun e w' => ∃ a d h', e = .returned (wr (.pointer (some ⟨a, 0, none⟩))) ∧ h a = none ∧ h d = none ∧ Mem w0 h' w' ∧ IsV h' a d V ∧ ∀ k, k ≠ a → k ≠ d → h' k = h k) :
    FWP Try.prog (means W) f args H fun a b => a = wr (.pointer (some ⟨H.length, 0, none⟩)) ∧ b = H ++ [some (true, .ext (.arena V))] :=
  ⟨hgo, fun w0 w L h ρ args' hn ha => (hc w0 w h L ρ args' hn ha).mono fun e w' ⟨a, d, h', he, fa, fd, m, hv, hk⟩ => by
    obtain ⟨ρ', n1, n2, n3⟩ := hn.made (b := (a, 0)) (es := [a, d]) (x := .arena V) m ⟨d, rfl, hv⟩ (fun k hk => by
      simp only [List.mem_cons, List.not_mem_nil, or_false] at hk
      rcases hk with rfl | rfl
      · exact fa
      · exact fd) (fun k hn' => hk k (fun q => hn' (by simp [q])) (fun q => hn' (by simp [q])))
    refine ⟨_, _, _, ρ', h', he, ⟨rfl, rfl⟩, by simpa using n1, n2, hw ?_⟩
    have := VR.ptr (L := LU L H.length (H ++ [some (true, AObj.ext (Ext.arena V))]).length) (ρ := ρ'.b) (i := H.length) (o := 0) (.inr ⟨Nat.le_refl _, by simp⟩)
    rw [n3] at this
    exact this⟩
theorem ok_New {args : List Value} {H H' : HX} {v : Value} (h : dNew args H = some (v, H')) : FWP Try.prog (means W) 75 args H fun a b => a = v ∧ b = H' := by
  unfold dNew at h
  split at h <;> try (cases h; done)
  cases h
  refine made_fwp (callFunc_go Try.func75 rfl (by kernel_rfl)) (fun u => u) (fun h => h) fun w0 w h L ρ args' hn ha => ?_
  rw [ha.plain_eq rfl]
  exact new_v _ hn.mem
theorem make_no (c : Cf) (hw : c.wf) (h0 : c.is ≠ 0) {w0 w : World} {h : GH} (hm : Mem w0 h w) :
    Calls Try.prog 32 #[encC c] w fun e w' => e = .returned (.tuple #[.pointer none, .iface 100 (.int .i64 c.is)]) ∧ Mem w0 h w' := by
  have hIs := is_calls_c c hw
  unfold encE at hIs
  rw [if_neg h0] at hIs
  generalize c.is = n at *
  unfold encC at *
  go_enter Try.func32, Try.ntmps32
  go_wp2_with fail
  (with_reducible refine (hIs _).mono ?_)
  rintro e w1 ⟨rfl, b1⟩
  go_wp2_with fail
  refine bodyPost_ret (v := .tuple #[.pointer none, .iface 100 (.int .i64 n)]) (by simp [results, Try.results32, go_sem]) rfl ⟨rfl, (hm.alloc _).grown b1⟩
theorem ok_Make {args : List Value} {H H' : HX} {v : Value} (h : (dMake args H).out = some (v, H')) : FWP Try.prog (means W) 32 args H fun a b => a = v ∧ b = H' := by
  unfold dMake at h
  split at h <;> try (cases h; done)
  rename_i t c m vv
  simp only [DT.out] at h
  cases hwf : (⟨t, c, m, vv⟩ : Cf).wfB with
  | false => rw [hwf] at h; cases h
  | true =>
  rw [hwf] at h
  simp only at h
  by_cases h0 : (⟨t, c, m, vv⟩ : Cf).is = 0
  · rw [decide_eq_true h0] at h
    cases h
    refine made_fwp (callFunc_go Try.func32 rfl (by kernel_rfl)) (fun u => .tuple ⟨[u, .nilIface]⟩) (fun h => .tuple (.cons h (.cons (.plain rfl) .nil))) fun w0 w h L ρ args' hn ha => ?_
    cases ha with
    | cons h1 h2 => cases h2; rw [scal_eq 1 rfl h1]; exact make_good _ (Cf.wfB_spec hwf) h0 hn.mem
  · rw [decide_eq_false h0] at h
    cases h
    refine FWP.quiet (k := 3) rfl (callFunc_go Try.func32 rfl (by kernel_rfl)) fun w0 w L h ρ args' hn ha => ?_
    cases ha with
    | cons h1 h2 => cases h2; rw [scal_eq 1 rfl h1]; exact make_no _ (Cf.wfB_spec hwf) h0 hn.mem
theorem ok_Is {args : List Value} {H H' : HX} {v : Value} (h : (dIs args H).out = some (v, H')) : FWP Try.prog (means W) 65 args H fun a b => a = v ∧ b = H' := by
  unfold dIs at h
  split at h <;> try (cases h; done)
  rename_i t c m vv
  simp only [DT.out] at h
  cases hwf : (⟨t, c, m, vv⟩ : Cf).wfB with
  | false => rw [hwf] at h; cases h
  | true =>
  rw [hwf] at h
  simp only at h
  by_cases h0 : (⟨t, c, m, vv⟩ : Cf).is = 0
  · rw [decide_eq_true h0] at h
    cases h
    refine FWP.quiet (k := 3) rfl (callFunc_go Try.func65 rfl (by kernel_rfl)) fun w0 w L h ρ args' hn ha => ?_
    cases ha with
    | cons h1 h2 => cases h2; rw [scal_eq 1 rfl h1]; exact (is_calls_c _ (Cf.wfB_spec hwf) w).mono fun e w' ⟨q1, q2⟩ => ⟨by rw [q1, h0]; rfl, hn.mem.grown q2⟩
  · rw [decide_eq_false h0] at h
    cases h
    refine FWP.quiet (k := 3) rfl (callFunc_go Try.func65 rfl (by kernel_rfl)) fun w0 w L h ρ args' hn ha => ?_
    cases ha with
    | cons h1 h2 => cases h2; rw [scal_eq 1 rfl h1]; exact (is_calls_c _ (Cf.wfB_spec hwf) w).mono fun e w' ⟨q1, q2⟩ => ⟨by rw [q1]; unfold encE; rw [if_neg h0], hn.mem.grown q2⟩

theorem ok_ErrIs {args : List Value} {H H' : HX} {v : Value} (h : dErrIs args H = some (v, H')) : FWP Try.prog (means W) 61 args H fun a b => a = v ∧ b = H' := by
  unfold dErrIs at h
  split at h <;> try (cases h; done)
  rename_i T m U n
  split at h <;> try (cases h; done)
  rename_i hq
  cases h
  simp only [Bool.and_eq_true, decide_eq_true_eq] at hq
  obtain ⟨⟨h1, h2⟩, rfl, h3⟩ := hq
  have e1 := Nat.eq_of_beq_eq_true h1
  have e2 := Nat.eq_of_beq_eq_true h2
  subst e1 e2
  refine FWP.quiet (k := 3) rfl (callFunc_go Try.func61 rfl (by kernel_rfl)) fun w0 w L h ρ args' hn ha => ?_
  cases ha with
  | cons h1 h2 => cases h2 with
    | cons h2 h3' =>
      cases h3'
      rw [scal_eq 1 rfl h1, scal_eq 1 rfl h2]
      exact (is_same m h3 w).mono fun e w' ⟨q1, q2⟩ => ⟨q1, q2 ▸ hn.mem⟩
theorem pure_fwp {f : FuncId} {args : List Value} {H H' : HX} {v r : Value} (hgo : ∀ xs w, (callFunc f xs).run Try.prog w = .ok (.enter f xs) w) (hr : scal 3 r = true) (ha : args.all Go.Proofs.Ytdmodejpcfhbhaa.plain = true) (hs : some (r, H) = some (v, H'))
    (hc : ∀ w, Calls Try.prog f ⟨args⟩ w fun e w' => e = .returned r ∧ Below w.heap.size w w') : FWP Try.prog (means W) f args H fun a b => a = v ∧ b = H' := by
  cases hs
  refine FWP.quiet (k := 3) hr hgo fun w0 w L h ρ args' hn h' => ?_
  rw [h'.plain_eq ha]
  exact (hc w).mono fun e w' ⟨q1, q2⟩ => ⟨q1, hn.mem.grown q2⟩
theorem ok_WClaim {args : List Value} {H H' : HX} {v : Value} (h : dWClaim args H = some (v, H')) : FWP Try.prog (means W) 105 args H fun a b => a = v ∧ b = H' := by
  unfold dWClaim at h
  split at h <;> try (cases h; done)
  exact pure_fwp (callFunc_go Try.func105 rfl (by kernel_rfl)) rfl rfl h fun w => claim_calls _ _ w
theorem ok_WPart {args : List Value} {H H' : HX} {v : Value} (h : dWPart args H = some (v, H')) : FWP Try.prog (means W) 108 args H fun a b => a = v ∧ b = H' := by
  unfold dWPart at h
  split at h <;> try (cases h; done)
  exact pure_fwp (callFunc_go Try.func108 rfl (by kernel_rfl)) rfl rfl h fun w => part_calls _ w
theorem ok_WAt {args : List Value} {H H' : HX} {v : Value} (h : dWAt args H = some (v, H')) : FWP Try.prog (means W) 116 args H fun a b => a = v ∧ b = H' := by
  unfold dWAt at h
  split at h <;> try (cases h; done)
  exact pure_fwp (callFunc_go Try.func116 rfl (by kernel_rfl)) rfl rfl h fun w => at_calls _ w
theorem ok_WSeq {args : List Value} {H H' : HX} {v : Value} (h : dWSeq args H = some (v, H')) : FWP Try.prog (means W) 106 args H fun a b => a = v ∧ b = H' := by
  unfold dWSeq at h
  split at h <;> try (cases h; done)
  exact pure_fwp (callFunc_go Try.func106 rfl (by kernel_rfl)) rfl rfl h fun w => seq_calls _ w
theorem ok_WVal {args : List Value} {H H' : HX} {v : Value} (h : dWVal args H = some (v, H')) : FWP Try.prog (means W) 91 args H fun a b => a = v ∧ b = H' := by
  unfold dWVal at h
  split at h <;> try (cases h; done)
  exact pure_fwp (callFunc_go Try.func91 rfl (by kernel_rfl)) rfl rfl h fun w => val_calls _ w
theorem version_w (x : Int) (w : World) : Calls Try.prog 118 #[.int .i64 x] w fun e w' => e = .returned (.int .i64 (verW x)) ∧ w = w' := by
  by_cases h : x < 3
  · go_enter Try.func118, Try.ntmps118
    go_wp2
    go_returns
    exact ⟨ret_int (by unfold verW; rw [if_pos h]), rfl⟩
  · go_enter Try.func118, Try.ntmps118
    go_wp2
    go_returns
    exact ⟨ret_int (by unfold verW; rw [if_neg (by omega)]; unfold W64 wrap64; rw [IntKind.wrap_i64]), rfl⟩
theorem ok_WVersion {args : List Value} {H H' : HX} {v : Value} (h : dWVersion args H = some (v, H')) : FWP Try.prog (means W) 118 args H fun a b => a = v ∧ b = H' := by
  unfold dWVersion at h
  split at h <;> try (cases h; done)
  exact pure_fwp (callFunc_go Try.func118 rfl (by kernel_rfl)) rfl rfl h fun w => (version_w _ w).mono fun e w' ⟨q1, q2⟩ => ⟨q1, q2 ▸ (Below.refl _ _)⟩
theorem dets_ok : ∀ f s, dets f = some s → ∀ args H v H', (s args H).out = some (v, H') → FWP Try.prog (means W) f args H fun a b => a = v ∧ b = H' := by
  intro f s h args H v H' hs
  unfold dets at h
  split at h
  · cases h; exact ok_Load (by rw [← DT.out_of (dLoad args H)]; exact hs)
  · cases h; exact ok_Add (by rw [← DT.out_of (dAdd args H)]; exact hs)
  · cases h; exact ok_Swap (by rw [← DT.out_of (dSwap args H)]; exact hs)
  · cases h; exact ok_Poke (by rw [← DT.out_of (dPoke args H)]; exact hs)
  · cases h; exact ok_Peek (by rw [← DT.out_of (dPeek args H)]; exact hs)
  · cases h; exact ok_Len (by rw [← DT.out_of (dLen args H)]; exact hs)
  · cases h; exact ok_Accesses (by rw [← DT.out_of (dAccesses args H)]; exact hs)
  · cases h; exact ok_New (by rw [← DT.out_of (dNew args H)]; exact hs)
  · cases h; exact ok_Make hs
  · cases h; exact ok_Is hs
  · cases h; exact ok_ErrIs (by rw [← DT.out_of (dErrIs args H)]; exact hs)
  · cases h; exact ok_WClaim (by rw [← DT.out_of (dWClaim args H)]; exact hs)
  · cases h; exact ok_WPart (by rw [← DT.out_of (dWPart args H)]; exact hs)
  · cases h; exact ok_WAt (by rw [← DT.out_of (dWAt args H)]; exact hs)
  · cases h; exact ok_WSeq (by rw [← DT.out_of (dWSeq args H)]; exact hs)
  · cases h; exact ok_WVal (by rw [← DT.out_of (dWVal args H)]; exact hs)
  · cases h; exact ok_WVersion (by rw [← DT.out_of (dWVersion args H)]; exact hs)
  · cases h

def lookF : List (Nat × Func) → Nat → Option Func
  | [], _ => none
  | (k, F) :: l, f => match Nat.beq k f with
    | true => some F
    | false => lookF l f
def AllOk : List (Nat × Func) → Prop
  | [] => True
  | (k, F) :: l => (Try.prog.funcs[k]? = some F ∧ (F.name == "runtime.NumGoroutine") = false) ∧ AllOk l
theorem AllOk.look : ∀ {l : List (Nat × Func)}, AllOk l → ∀ {f : Nat} {F : Func}, lookF l f = some F → Try.prog.funcs[f]? = some F ∧ (F.name == "runtime.NumGoroutine") = false
  | [], _, _, _, h => by cases h
  | (k, G) :: l, ⟨h0, h1⟩, f, F, h => by
    simp only [lookF] at h
    split at h
    · rename_i e
      cases h
      rw [← Nat.eq_of_beq_eq_true e]; exact h0
    · exact h1.look h
noncomputable def inlL : List (Nat × Func) := [
  (3, Try.f3),
  (4, Try.f4),
  (5, Try.f5),
  (6, Try.f6),
  (7, Try.f7),
  (8, Try.f8),
  (9, Try.f9),
  (10, Try.f10),
  (11, Try.f11),
  (12, Try.f12),
  (13, Try.f13),
  (14, Try.f14),
  (15, Try.f15),
  (16, Try.f16),
  (17, Try.f17),
  (18, Try.f18),
  (19, Try.f19),
  (20, Try.f20),
  (21, Try.f21),
  (22, Try.f22),
  (23, Try.f23),
  (24, Try.f24),
  (25, Try.f25),
  (26, Try.f26),
  (27, Try.f27),
  (28, Try.f28),
  (29, Try.f29),
  (30, Try.f30),
  (31, Try.f31),
  (32, Try.f32),
  (33, Try.f33),
  (34, Try.f34),
  (35, Try.f35),
  (36, Try.f36),
  (37, Try.f37),
  (38, Try.f38),
  (39, Try.f39),
  (40, Try.f40),
  (41, Try.f41),
  (42, Try.f42),
  (43, Try.f43),
  (44, Try.f44),
  (45, Try.f45),
  (46, Try.f46),
  (47, Try.f47),
  (48, Try.f48),
  (49, Try.f49),
  (50, Try.f50),
  (51, Try.f51),
  (52, Try.f52),
  (53, Try.f53),
  (54, Try.f54),
  (55, Try.f55),
  (56, Try.f56),
  (57, Try.f57),
  (58, Try.f58),
  (59, Try.f59),
  (60, Try.f60),
  (62, Try.f62),
  (63, Try.f63),
  (64, Try.f64),
  (65, Try.f65),
  (66, Try.f66),
  (67, Try.f67),
  (68, Try.f68),
  (69, Try.f69),
  (70, Try.f70),
  (71, Try.f71),
  (72, Try.f72),
  (73, Try.f73),
  (74, Try.f74),
  (75, Try.f75),
  (76, Try.f76),
  (77, Try.f77),
  (78, Try.f78),
  (79, Try.f79),
  (80, Try.f80),
  (81, Try.f81),
  (82, Try.f82),
  (83, Try.f83),
  (84, Try.f84),
  (85, Try.f85),
  (86, Try.f86),
  (87, Try.f87),
  (88, Try.f88),
  (89, Try.f89),
  (90, Try.f90),
  (91, Try.f91),
  (94, Try.f94),
  (95, Try.f95),
  (96, Try.f96),
  (97, Try.f97),
  (98, Try.f98),
  (99, Try.f99),
  (100, Try.f100),
  (101, Try.f101),
  (102, Try.f102),
  (103, Try.f103),
  (104, Try.f104),
  (105, Try.f105),
  (106, Try.f106),
  (107, Try.f107),
  (108, Try.f108),
  (109, Try.f109),
  (110, Try.f110),
  (111, Try.f111),
  (112, Try.f112),
  (114, Try.f114),
  (115, Try.f115),
  (116, Try.f116),
  (117, Try.f117),
  (118, Try.f118),
  (119, Try.f119),
  (120, Try.f120),
  (121, Try.f121),
  (122, Try.f122),
  (123, Try.f123),
  (124, Try.f124),
  (125, Try.f125),
  (126, Try.f126),
  (127, Try.f127),
  (128, Try.f128),
  (129, Try.f129),
  (130, Try.f130),
  (131, Try.f131),
  (132, Try.f132),
  (133, Try.f133),
  (134, Try.f134),
  (136, Try.f136),
  (137, Try.f137),
  (140, Try.f140),
  (141, Try.f141),
  (142, Try.f142),
  (143, Try.f143),
  (144, Try.f144),
  (145, Try.f145),
  (146, Try.f146),
  (148, Try.f148),
  (149, Try.f149),
  (151, Try.f151),
  (152, Try.f152),
  ]
theorem inlL_ok : AllOk inlL := by
  unfold inlL
  refine And.intro ⟨Try.func3, by kernel_rfl⟩ ?_
  refine And.intro ⟨Try.func4, by kernel_rfl⟩ ?_
  refine And.intro ⟨Try.func5, by kernel_rfl⟩ ?_
  refine And.intro ⟨Try.func6, by kernel_rfl⟩ ?_
  refine And.intro ⟨Try.func7, by kernel_rfl⟩ ?_
  refine And.intro ⟨Try.func8, by kernel_rfl⟩ ?_
  refine And.intro ⟨Try.func9, by kernel_rfl⟩ ?_
  refine And.intro ⟨Try.func10, by kernel_rfl⟩ ?_
  refine And.intro ⟨Try.func11, by kernel_rfl⟩ ?_
  refine And.intro ⟨Try.func12, by kernel_rfl⟩ ?_
  refine And.intro ⟨Try.func13, by kernel_rfl⟩ ?_
  refine And.intro ⟨Try.func14, by kernel_rfl⟩ ?_
  refine And.intro ⟨Try.func15, by kernel_rfl⟩ ?_
  refine And.intro ⟨Try.func16, by kernel_rfl⟩ ?_
  refine And.intro ⟨Try.func17, by kernel_rfl⟩ ?_
  refine And.intro ⟨Try.func18, by kernel_rfl⟩ ?_
  refine And.intro ⟨Try.func19, by kernel_rfl⟩ ?_
  refine And.intro ⟨Try.func20, by kernel_rfl⟩ ?_
  refine And.intro ⟨Try.func21, by kernel_rfl⟩ ?_
  refine And.intro ⟨Try.func22, by kernel_rfl⟩ ?_
  refine And.intro ⟨Try.func23, by kernel_rfl⟩ ?_
  refine And.intro ⟨Try.func24, by kernel_rfl⟩ ?_
  refine And.intro ⟨Try.func25, by kernel_rfl⟩ ?_
  refine And.intro ⟨Try.func26, by kernel_rfl⟩ ?_
  refine And.intro ⟨Try.func27, by kernel_rfl⟩ ?_
  refine And.intro ⟨Try.func28, by kernel_rfl⟩ ?_
  refine And.intro ⟨Try.func29, by kernel_rfl⟩ ?_
  refine And.intro ⟨Try.func30, by kernel_rfl⟩ ?_
  refine And.intro ⟨Try.func31, by kernel_rfl⟩ ?_
  refine And.intro ⟨Try.func32, by kernel_rfl⟩ ?_
  refine And.intro ⟨Try.func33, by kernel_rfl⟩ ?_
  refine And.intro ⟨Try.func34, by kernel_rfl⟩ ?_
  refine And.intro ⟨Try.func35, by kernel_rfl⟩ ?_
  refine And.intro ⟨Try.func36, by kernel_rfl⟩ ?_
  refine And.intro ⟨Try.func37, by kernel_rfl⟩ ?_
  refine And.intro ⟨Try.func38, by kernel_rfl⟩ ?_
  refine And.intro ⟨Try.func39, by kernel_rfl⟩ ?_
  refine And.intro ⟨Try.func40, by kernel_rfl⟩ ?_
  refine And.intro ⟨Try.func41, by kernel_rfl⟩ ?_
  refine And.intro ⟨Try.func42, by kernel_rfl⟩ ?_
  refine And.intro ⟨Try.func43, by kernel_rfl⟩ ?_
  refine And.intro ⟨Try.func44, by kernel_rfl⟩ ?_
  refine And.intro ⟨Try.func45, by kernel_rfl⟩ ?_
  refine And.intro ⟨Try.func46, by kernel_rfl⟩ ?_
  refine And.intro ⟨Try.func47, by kernel_rfl⟩ ?_
  refine And.intro ⟨Try.func48, by kernel_rfl⟩ ?_
  refine And.intro ⟨Try.func49, by kernel_rfl⟩ ?_
  refine And.intro ⟨Try.func50, by kernel_rfl⟩ ?_
  refine And.intro ⟨Try.func51, by kernel_rfl⟩ ?_
  refine And.intro ⟨Try.func52, by kernel_rfl⟩ ?_
  refine And.intro ⟨Try.func53, by kernel_rfl⟩ ?_
  refine And.intro ⟨Try.func54, by kernel_rfl⟩ ?_
  refine And.intro ⟨Try.func55, by kernel_rfl⟩ ?_
  refine And.intro ⟨Try.func56, by kernel_rfl⟩ ?_
  refine And.intro ⟨Try.func57, by kernel_rfl⟩ ?_
  refine And.intro ⟨Try.func58, by kernel_rfl⟩ ?_
  refine And.intro ⟨Try.func59, by kernel_rfl⟩ ?_
  refine And.intro ⟨Try.func60, by kernel_rfl⟩ ?_
  refine And.intro ⟨Try.func62, by kernel_rfl⟩ ?_
  refine And.intro ⟨Try.func63, by kernel_rfl⟩ ?_
  refine And.intro ⟨Try.func64, by kernel_rfl⟩ ?_
  refine And.intro ⟨Try.func65, by kernel_rfl⟩ ?_
  refine And.intro ⟨Try.func66, by kernel_rfl⟩ ?_
  refine And.intro ⟨Try.func67, by kernel_rfl⟩ ?_
  refine And.intro ⟨Try.func68, by kernel_rfl⟩ ?_
  refine And.intro ⟨Try.func69, by kernel_rfl⟩ ?_
  refine And.intro ⟨Try.func70, by kernel_rfl⟩ ?_
  refine And.intro ⟨Try.func71, by kernel_rfl⟩ ?_
  refine And.intro ⟨Try.func72, by kernel_rfl⟩ ?_
  refine And.intro ⟨Try.func73, by kernel_rfl⟩ ?_
  refine And.intro ⟨Try.func74, by kernel_rfl⟩ ?_
  refine And.intro ⟨Try.func75, by kernel_rfl⟩ ?_
  refine And.intro ⟨Try.func76, by kernel_rfl⟩ ?_
  refine And.intro ⟨Try.func77, by kernel_rfl⟩ ?_
  refine And.intro ⟨Try.func78, by kernel_rfl⟩ ?_
  refine And.intro ⟨Try.func79, by kernel_rfl⟩ ?_
  refine And.intro ⟨Try.func80, by kernel_rfl⟩ ?_
  refine And.intro ⟨Try.func81, by kernel_rfl⟩ ?_
  refine And.intro ⟨Try.func82, by kernel_rfl⟩ ?_
  refine And.intro ⟨Try.func83, by kernel_rfl⟩ ?_
  refine And.intro ⟨Try.func84, by kernel_rfl⟩ ?_
  refine And.intro ⟨Try.func85, by kernel_rfl⟩ ?_
  refine And.intro ⟨Try.func86, by kernel_rfl⟩ ?_
  refine And.intro ⟨Try.func87, by kernel_rfl⟩ ?_
  refine And.intro ⟨Try.func88, by kernel_rfl⟩ ?_
  refine And.intro ⟨Try.func89, by kernel_rfl⟩ ?_
  refine And.intro ⟨Try.func90, by kernel_rfl⟩ ?_
  refine And.intro ⟨Try.func91, by kernel_rfl⟩ ?_
  refine And.intro ⟨Try.func94, by kernel_rfl⟩ ?_
  refine And.intro ⟨Try.func95, by kernel_rfl⟩ ?_
  refine And.intro ⟨Try.func96, by kernel_rfl⟩ ?_
  refine And.intro ⟨Try.func97, by kernel_rfl⟩ ?_
  refine And.intro ⟨Try.func98, by kernel_rfl⟩ ?_
  refine And.intro ⟨Try.func99, by kernel_rfl⟩ ?_
  refine And.intro ⟨Try.func100, by kernel_rfl⟩ ?_
  refine And.intro ⟨Try.func101, by kernel_rfl⟩ ?_
  refine And.intro ⟨Try.func102, by kernel_rfl⟩ ?_
  refine And.intro ⟨Try.func103, by kernel_rfl⟩ ?_
  refine And.intro ⟨Try.func104, by kernel_rfl⟩ ?_
  refine And.intro ⟨Try.func105, by kernel_rfl⟩ ?_
  refine And.intro ⟨Try.func106, by kernel_rfl⟩ ?_
  refine And.intro ⟨Try.func107, by kernel_rfl⟩ ?_
  refine And.intro ⟨Try.func108, by kernel_rfl⟩ ?_
  refine And.intro ⟨Try.func109, by kernel_rfl⟩ ?_
  refine And.intro ⟨Try.func110, by kernel_rfl⟩ ?_
  refine And.intro ⟨Try.func111, by kernel_rfl⟩ ?_
  refine And.intro ⟨Try.func112, by kernel_rfl⟩ ?_
  refine And.intro ⟨Try.func114, by kernel_rfl⟩ ?_
  refine And.intro ⟨Try.func115, by kernel_rfl⟩ ?_
  refine And.intro ⟨Try.func116, by kernel_rfl⟩ ?_
  refine And.intro ⟨Try.func117, by kernel_rfl⟩ ?_
  refine And.intro ⟨Try.func118, by kernel_rfl⟩ ?_
  refine And.intro ⟨Try.func119, by kernel_rfl⟩ ?_
  refine And.intro ⟨Try.func120, by kernel_rfl⟩ ?_
  refine And.intro ⟨Try.func121, by kernel_rfl⟩ ?_
  refine And.intro ⟨Try.func122, by kernel_rfl⟩ ?_
  refine And.intro ⟨Try.func123, by kernel_rfl⟩ ?_
  refine And.intro ⟨Try.func124, by kernel_rfl⟩ ?_
  refine And.intro ⟨Try.func125, by kernel_rfl⟩ ?_
  refine And.intro ⟨Try.func126, by kernel_rfl⟩ ?_
  refine And.intro ⟨Try.func127, by kernel_rfl⟩ ?_
  refine And.intro ⟨Try.func128, by kernel_rfl⟩ ?_
  refine And.intro ⟨Try.func129, by kernel_rfl⟩ ?_
  refine And.intro ⟨Try.func130, by kernel_rfl⟩ ?_
  refine And.intro ⟨Try.func131, by kernel_rfl⟩ ?_
  refine And.intro ⟨Try.func132, by kernel_rfl⟩ ?_
  refine And.intro ⟨Try.func133, by kernel_rfl⟩ ?_
  refine And.intro ⟨Try.func134, by kernel_rfl⟩ ?_
  refine And.intro ⟨Try.func136, by kernel_rfl⟩ ?_
  refine And.intro ⟨Try.func137, by kernel_rfl⟩ ?_
  refine And.intro ⟨Try.func140, by kernel_rfl⟩ ?_
  refine And.intro ⟨Try.func141, by kernel_rfl⟩ ?_
  refine And.intro ⟨Try.func142, by kernel_rfl⟩ ?_
  refine And.intro ⟨Try.func143, by kernel_rfl⟩ ?_
  refine And.intro ⟨Try.func144, by kernel_rfl⟩ ?_
  refine And.intro ⟨Try.func145, by kernel_rfl⟩ ?_
  refine And.intro ⟨Try.func146, by kernel_rfl⟩ ?_
  refine And.intro ⟨Try.func148, by kernel_rfl⟩ ?_
  refine And.intro ⟨Try.func149, by kernel_rfl⟩ ?_
  refine And.intro ⟨Try.func151, by kernel_rfl⟩ ?_
  refine And.intro ⟨Try.func152, by kernel_rfl⟩ ?_
  trivial
noncomputable def inls (f : FuncId) : Option Func := lookF inlL f
theorem inls_ok : ∀ f F, inls f = some F → Try.prog.funcs[f]? = some F ∧ (F.name == "runtime.NumGoroutine") = false := fun _ _ h => inlL_ok.look h

/-- What calls may do to their arguments' objects. -/
def effs : FuncId → List Nat
  | 40 => [1]
  | 151 => [1]
  | 87 => [1]
  | 107 => [2]
  | 103 => [2]
  | 104 => [2]
  | _ => []
noncomputable def env : Env Ext := ⟨inls, dets, effs, tellOps Try.prog⟩
theorem env_ok : env.Ok Try.prog (means W) := ⟨by kernel_rfl, inls_ok, dets_ok, tellOps_sound⟩

/-! ### Arenas whose words are known, written out behind each call -/
def forceI {β : Type} (x : Int) (K : Int → β) : β :=
  match x with
  | .ofNat m => K (.ofNat m)
  | .negSucc m => K (.negSucc m)
theorem forceI_eq {β : Type} (x : Int) (K : Int → β) : forceI x K = K x := by cases x <;> rfl
def forceIs {β : Type} : List Int → (List Int → β) → β
  | [], K => K []
  | x :: l, K => forceI x fun x => forceIs l fun l => K (x :: l)
theorem forceIs_eq {β : Type} (l : List Int) (K : List Int → β) : forceIs l K = K l := by
  induction l generalizing K with
  | nil => rfl
  | cons x l ih => simp only [forceIs, forceI_eq, ih]
def forceVw {β : Type} (V : Vw) (K : Vw → β) : β :=
  match V with
  | ⟨ws, n, last⟩ => forceIs ws fun ws => forceI n fun n => K ⟨ws, n, last⟩
theorem forceVw_eq {β : Type} (V : Vw) (K : Vw → β) : forceVw V K = K V := by
  obtain ⟨ws, n, last⟩ := V
  simp only [forceVw, forceIs_eq, forceI_eq]
def forceHw {β : Type} : HX → (HX → β) → β
  | [], K => K []
  | some (p, .ext (.arena V)) :: H, K => forceVw V fun V => forceHw H fun H => K (some (p, .ext (.arena V)) :: H)
  | e :: H, K => forceHw H fun H => K (e :: H)
theorem forceHw_eq {β : Type} (H : HX) (K : HX → β) : forceHw H K = K H := by
  induction H generalizing K with
  | nil => rfl
  | cons e H ih =>
    unfold forceHw
    split
    · rename_i h; cases h
    · rename_i h; cases h; rw [forceVw_eq, ih]
    · rename_i h; cases h; rw [ih]
def normD : DT Ext → DT Ext
  | .ret v H => forceHw H fun H => .ret v H
  | .ite c a b => (match c with | true => normD a | false => normD b)
  | .no => .no
theorem normD_out (d : DT Ext) : (normD d).out = d.out := by
  induction d with
  | ret v H => simp only [normD, forceHw_eq]
  | ite c a b iha ihb => cases c; exact ihb; exact iha
  | no => rfl
def norm (s : DetD) : DetD := fun args H => normD (s args H)
def detsC (f : FuncId) : Option DetD :=
  match dets f with
  | some s => some (norm s)
  | none => none
theorem detsC_ok : ∀ f s, detsC f = some s → ∀ args H v H', (s args H).out = some (v, H') → FWP Try.prog (means W) f args H fun a b => a = v ∧ b = H' := by
  intro f s h args H v H' hs
  unfold detsC at h
  split at h
  · rename_i s0 e
    cases h
    unfold norm at hs
    rw [normD_out] at hs
    exact dets_ok f s0 e args H v H' hs
  · cases h
/-! ### The row of words alone written out -/
def forceSp {α β : Type} : List α → (List α → β) → β
  | [], K => K []
  | x :: l, K => forceSp l fun l => K (x :: l)
theorem forceSp_eq {α β : Type} (l : List α) (K : List α → β) : forceSp l K = K l := by
  induction l generalizing K with
  | nil => rfl
  | cons x l ih => simp only [forceSp, ih]
def forceHs {β : Type} : HX → (HX → β) → β
  | [], K => K []
  | some (p, .ext (.arena ⟨ws, n, last⟩)) :: H, K => forceSp ws fun ws => forceHs H fun H => K (some (p, .ext (.arena ⟨ws, n, last⟩)) :: H)
  | e :: H, K => forceHs H fun H => K (e :: H)
theorem forceHs_eq {β : Type} (H : HX) (K : HX → β) : forceHs H K = K H := by
  induction H generalizing K with
  | nil => rfl
  | cons e H ih =>
    unfold forceHs
    split
    · rename_i h; cases h
    · rename_i h; cases h; rw [forceSp_eq, ih]
    · rename_i h; cases h; rw [ih]
/-- The same, of what is told by tests that may be undecided. -/
def DT.sp : DT Ext → DT Ext
  | .ret v H => forceHs H fun H => .ret v H
  | .ite c a b => .ite c a.sp b.sp
  | .no => .no
theorem sp_out (d : DT Ext) : d.sp.out = d.out := by
  induction d with
  | ret v H => simp only [DT.sp, forceHs_eq]
  | ite c a b iha ihb => cases c; exact ihb; exact iha
  | no => rfl
/-- All that is told, rows of words written out. -/
def Env.sp (E : Env Ext) : Env Ext := { E with det := fun f => match E.det f with | some s => some fun args H => (s args H).sp | none => none }
theorem Env.Ok.sp {E : Env Ext} (hE : E.Ok Try.prog (means W)) : E.sp.Ok Try.prog (means W) :=
  ⟨hE.mixed, hE.inl, (fun f t e args H v H' q => by
    unfold Env.sp at e
    simp only at e
    split at e
    · rename_i s hs; cases e; simp only at q; rw [sp_out] at q; exact hE.det f s hs args H v H' q
    · cases e), hE.op⟩
noncomputable def envC : Env Ext := ⟨inls, detsC, effs, tellOps Try.prog⟩
theorem envC_ok : envC.Ok Try.prog (means W) := ⟨by kernel_rfl, inls_ok, detsC_ok, tellOps_sound⟩
/-- A function without arguments, whose answer is reckoned. -/
theorem run_closed {f : FuncId} {v : Value} (h : fevD Try.prog envC 40 f [] [] (fun a b => a = v ∧ b = [])) : FWP Try.prog (means W) f [] [] fun a b => a = v ∧ b = [] := fevD_sound envC_ok 40 _ _ _ _ h
end Go.Proofs.Ytdmodejpcfhbhaa
