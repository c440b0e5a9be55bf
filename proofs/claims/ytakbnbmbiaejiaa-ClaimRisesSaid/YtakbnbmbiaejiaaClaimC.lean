/- Package claim: its functions, told. -/
import Derived.Test.YtakbnbmbiaejiaaSxT
namespace Go.Proofs.Ytakbnbmbiaejiaa
open Go.RowKit
variable {W : World}

theorem claim_shuts (x : ClaimM) (W : World) : Shuts (means W) (.claim x) x.enc := fun _ _ T h => ⟨rfl, T, h⟩
theorem claim_opens (x : ClaimM) : Opens (means W) (.claim x) x.enc := fun _ _ _ h => h
theorem claim_scal (x : ClaimM) : x.enc.all (scal 3) = true := by unfold ClaimM.enc; cases x.err <;> rfl
set_option maxRecDepth 100000 in
set_option maxHeartbeats 4000000 in
theorem claim_new (c : Cf) (t q : Int) (H : HX) : FWP Try.prog (means W) 36 [.agg ⟨c.enc⟩, .int .i64 t, .int .i64 q] H fun a b => a = .pointer (some ⟨H.length, 0, none⟩) ∧ b = H ++ [some (true, .ext (.claim (ClaimM.new c t q)))] := by
  refine FWP.born (n := 3) (cs := (ClaimM.new c t q).enc) rfl rfl (claim_shuts _) (fevD_fwp env_ok (d := 40) ?_) H
  conv => whnf
  exact ⟨_, _, rfl, rfl⟩
set_option maxRecDepth 100000 in
set_option maxHeartbeats 8000000 in
theorem claim_step0 (x : ClaimM) (V : Vw) (hl : x.line ≤ 5) : FWP Try.prog (means W) 37 [.pointer (some ⟨0, 0, none⟩), .pointer (some ⟨1, 0, none⟩)] [some (true, .ext (.claim x)), some (true, .ext (.arena V))]
    fun a b => a = .bool (decide ((x.step V).1.line = 0)) ∧ b = [some (true, .ext (.claim (x.step V).1)), some (true, .ext (.arena (x.step V).2))] := by
  refine FWP.opened (claim_opens x) (claim_scal x) fun T => ?_
  have hr : x.line = 0 ∨ x.line = 1 ∨ x.line = 2 ∨ x.line = 3 ∨ x.line = 4 ∨ x.line = 5 := by omega
  rcases he : x.err <;> rcases hr with hr | hr | hr | hr | hr | hr
  all_goals
    simp only [ClaimM.enc, hr, he]
    refine fevD_fwp env_ok (d := 40) ?_
    repeat' ((conv => whnf); first | (refine brT ?_ ?_; · (fail)) | (refine brF ?_ ?_; · (fail)) | (refine brP (fun _ => ?_) (fun _ => ?_)))
    all_goals
      conv => whnf
      have hat : IntKind.i64.wrap (3 + x.thread) = psaF x.thread := rfl
      (try simp only [hat] at *)
      refine ⟨.claim (x.step V).1, _, T, [some (true, .ext (.arena (x.step V).2))], claim_scal _, claim_shuts _ _, ?_, ?_, rfl⟩
      · clear hat
        first | (simp_all [-sx_swaps, -sx_claimF, -sx_partF, ClaimM.step, ClaimM.enc, W64]; done) | (simp_all [-sx_swaps, -sx_claimF, -sx_partF, ClaimM.step]; split <;> first | omega | simp_all [-sx_swaps, -sx_claimF, -sx_partF, ClaimM.enc])
      · clear hat
        first | (simp_all [-sx_swaps, -sx_claimF, -sx_partF, ClaimM.step, W64]; done) | (simp_all [-sx_swaps, -sx_claimF, -sx_partF, ClaimM.step]; split <;> first | omega | simp_all [-sx_swaps, -sx_claimF, -sx_partF])
def dKNew : DetT
  | [.agg ⟨[.int .i64 t, .int .i64 c, .int .i64 m, .int .i64 v]⟩, .int .i64 th, .int .i64 q], H => some (.pointer (some ⟨H.length, 0, none⟩), H ++ [some (true, .ext (.claim (ClaimM.new ⟨t, c, m, v⟩ th q)))])
  | _, _ => none
def dKStep : DetD
  | [.pointer (some ⟨i, 0, none⟩), .pointer (some ⟨j, 0, none⟩)], H => (match nth H i, nth H j with
    | some (true, .ext (.claim x)), some (true, .ext (.arena V)) => .ite (Nat.ble x.line 5 && !Nat.beq i j) (.ret (.bool (decide ((x.step V).1.line = 0))) (put (put H i (some (true, .ext (.claim (x.step V).1)))) j (some (true, .ext (.arena (x.step V).2))))) .no
    | _, _ => .no)
  | _, _ => .no
def dKVersion : DetD
  | [.pointer (some ⟨i, 0, none⟩)], H => (match nth H i with
    | some (_, .ext (.claim x)) => .ite x.err (.ret (.tuple ⟨[.int .i64 x.version, .iface 57 (.int .i64 15)]⟩) H) (.ret (.tuple ⟨[.int .i64 x.version, .nilIface]⟩) H)
    | _ => .no)
  | _, _ => .no
theorem ok_KNew {args : List Value} {H H' : HX} {v : Value} (h : dKNew args H = some (v, H')) : FWP Try.prog (means W) 36 args H fun a b => a = v ∧ b = H' := by
  unfold dKNew at h
  split at h <;> try (cases h; done)
  cases h
  exact claim_new ⟨_, _, _, _⟩ _ _ _
theorem ok_KStep {args : List Value} {H H' : HX} {v : Value} (h : (dKStep args H).out = some (v, H')) : FWP Try.prog (means W) 37 args H fun a b => a = v ∧ b = H' := by
  unfold dKStep at h
  split at h <;> try (cases h; done)
  split at h <;> try (cases h; done)
  rename_i i j H x V hi hj
  simp only [DT.out] at h
  split at h <;> try (cases h; done)
  rename_i hb
  cases h
  rw [Bool.and_eq_true, Bool.not_eq_true', Nat.ble_eq] at hb
  exact step_among (fun q => by subst q; simp at hb) hi hj (claim_step0 x V hb.1)
set_option maxRecDepth 100000 in
theorem ok_KVersion {args : List Value} {H H' : HX} {v : Value} (h : (dKVersion args H).out = some (v, H')) : FWP Try.prog (means W) 38 args H fun a b => a = v ∧ b = H' := by
  unfold dKVersion at h
  split at h <;> try (cases h; done)
  split at h <;> try (cases h; done)
  rename_i p x hi
  simp only [DT.out] at h
  split at h <;> cases h <;> rename_i he
  all_goals
    refine look_among (n := 3) rfl hi (FWP.opened1 (claim_opens x) (claim_scal x) (claim_shuts x _) fun T => ?_)
    simp only [ClaimM.enc, he]
    refine fevD_fwp env_ok (d := 40) ?_
    cases p <;> (conv => whnf) <;> exact ⟨rfl, rfl⟩
end Go.Proofs.Ytakbnbmbiaejiaa
