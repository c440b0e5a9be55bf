/- Package splice: its functions, told. -/
import Derived.Test.YtflhcknnjembjaaSxT
namespace Go.Proofs.Ytflhcknnjembjaa
open Go.RowKit
variable {W : World}

theorem spl_shuts (x : SplM) (W : World) : Shuts (means W) (.splm x) x.enc := fun _ _ T h => ⟨rfl, T, h⟩
theorem spl_opens (x : SplM) : Opens (means W) (.splm x) x.enc := fun _ _ _ h => h
set_option maxRecDepth 100000 in
set_option maxHeartbeats 4000000 in
theorem spl_new (c : Cf) (k d r : Int) (H : HX) : FWP Try.prog (means W) 21 [.agg ⟨c.enc⟩, .int .i64 k, .int .i64 d, .int .i64 r] H fun a b => a = .pointer (some ⟨H.length, 0, none⟩) ∧ b = H ++ [some (true, .ext (.splm (SplM.new c k d r)))] := by
  refine FWP.born (n := 3) (cs := (SplM.new c k d r).enc) rfl rfl (spl_shuts _) (fevD_fwp env_ok (d := 40) ?_) H
  conv => whnf
  exact ⟨_, _, rfl, rfl⟩
set_option maxRecDepth 100000 in
set_option maxHeartbeats 16000000 in
theorem spl_step0 (x : SplM) (V : Vw) (hl : x.line ≤ 7) : FWP Try.prog (means W) 22 [.pointer (some ⟨0, 0, none⟩), .pointer (some ⟨1, 0, none⟩)] [some (true, .ext (.splm x)), some (true, .ext (.arena V))]
    fun a b => a = .bool (decide ((x.step V).1.line = 0)) ∧ b = [some (true, .ext (.splm (x.step V).1)), some (true, .ext (.arena (x.step V).2))] := by
  refine FWP.opened (spl_opens x) rfl fun T => ?_
  have hr : x.line = 0 ∨ x.line = 1 ∨ x.line = 2 ∨ x.line = 3 ∨ x.line = 4 ∨ x.line = 5 ∨ x.line = 6 ∨ x.line = 7 := by omega
  rcases hr with hr | hr | hr | hr | hr | hr | hr | hr
  all_goals
    simp only [SplM.enc, hr]
    refine fevD_fwp env_ok (d := 40) ?_
    repeat' ((conv => whnf); first | (refine brT ?_ ?_; · (fail)) | (refine brF ?_ ?_; · (fail)) | (refine brP (fun _ => ?_) (fun _ => ?_)))
    all_goals
      conv => whnf
      refine ⟨.splm (x.step V).1, _, T, [some (true, .ext (.arena (x.step V).2))], rfl, spl_shuts _ _, ?_, ?_, rfl⟩
      · first | (simp_all [-sx_swaps, SplM.step, SplM.enc, W64, headF, hintF, keyF]; done) | (simp_all [-sx_swaps, SplM.step, W64]; split <;> first | omega | simp_all [-sx_swaps, SplM.enc])
      · first | (simp_all [-sx_swaps, SplM.step, W64, headF, hintF, keyF]; done) | (simp_all [-sx_swaps, SplM.step, W64]; split <;> first | omega | simp_all [-sx_swaps])
def dPNew : DetT
  | [.agg ⟨[.int .i64 t, .int .i64 c, .int .i64 m, .int .i64 v]⟩, .int .i64 k, .int .i64 d, .int .i64 r], H => some (.pointer (some ⟨H.length, 0, none⟩), H ++ [some (true, .ext (.splm (SplM.new ⟨t, c, m, v⟩ k d r)))])
  | _, _ => none
def dPStep : DetD
  | [.pointer (some ⟨i, 0, none⟩), .pointer (some ⟨j, 0, none⟩)], H => (match nth H i, nth H j with
    | some (true, .ext (.splm x)), some (true, .ext (.arena V)) => .ite (Nat.ble x.line 7 && !Nat.beq i j) (.ret (.bool (decide ((x.step V).1.line = 0))) (put (put H i (some (true, .ext (.splm (x.step V).1)))) j (some (true, .ext (.arena (x.step V).2))))) .no
    | _, _ => .no)
  | _, _ => .no
def dPStuck : DetT
  | [.pointer (some ⟨i, 0, none⟩)], H => (match nth H i with
    | some (_, .ext (.splm x)) => some (.int .i64 x.stuck, H)
    | _ => none)
  | _, _ => none
theorem ok_PNew {args : List Value} {H H' : HX} {v : Value} (h : dPNew args H = some (v, H')) : FWP Try.prog (means W) 21 args H fun a b => a = v ∧ b = H' := by
  unfold dPNew at h
  split at h <;> try (cases h; done)
  cases h
  exact spl_new ⟨_, _, _, _⟩ _ _ _ _
theorem ok_PStep {args : List Value} {H H' : HX} {v : Value} (h : (dPStep args H).out = some (v, H')) : FWP Try.prog (means W) 22 args H fun a b => a = v ∧ b = H' := by
  unfold dPStep at h
  split at h <;> try (cases h; done)
  split at h <;> try (cases h; done)
  rename_i i j H x V hi hj
  simp only [DT.out] at h
  split at h <;> try (cases h; done)
  rename_i hb
  cases h
  rw [Bool.and_eq_true, Bool.not_eq_true', Nat.ble_eq] at hb
  exact step_among (fun q => by subst q; simp at hb) hi hj (spl_step0 x V hb.1)
set_option maxRecDepth 100000 in
theorem ok_PStuck {args : List Value} {H H' : HX} {v : Value} (h : dPStuck args H = some (v, H')) : FWP Try.prog (means W) 24 args H fun a b => a = v ∧ b = H' := by
  unfold dPStuck at h
  split at h <;> try (cases h; done)
  split at h <;> try (cases h; done)
  rename_i p x hi
  cases h
  refine look_among (n := 3) rfl hi (FWP.opened1 (spl_opens x) rfl (spl_shuts x _) fun T => fevD_fwp env_ok (d := 40) ?_)
  cases p <;> (conv => whnf) <;> exact ⟨rfl, rfl⟩
end Go.Proofs.Ytflhcknnjembjaa
