/- Package lead: its functions, told. -/
import Derived.Test.YtflhcknnjembjaaSxT
namespace Go.Proofs.Ytflhcknnjembjaa
open Go.RowKit
variable {W : World}

theorem lead_shuts (x : LeadM) (W : World) : Shuts (means W) (.leadm x) x.enc := fun _ _ T h => ⟨rfl, T, h⟩
theorem lead_opens (x : LeadM) : Opens (means W) (.leadm x) x.enc := fun _ _ _ h => h
set_option maxRecDepth 100000 in
set_option maxHeartbeats 4000000 in
theorem lead_new (c : Cf) (k : Int) (d : Bool) (H : HX) : FWP Try.prog (means W) 27 [.agg ⟨c.enc⟩, .int .i64 k, .bool d] H fun a b => a = .pointer (some ⟨H.length, 0, none⟩) ∧ b = H ++ [some (true, .ext (.leadm (LeadM.new c k d)))] := by
  refine FWP.born (n := 3) (cs := (LeadM.new c k d).enc) rfl rfl (lead_shuts _) (fevD_fwp env_ok (d := 40) ?_) H
  conv => whnf
  exact ⟨_, _, rfl, rfl⟩
set_option maxRecDepth 100000 in
set_option maxHeartbeats 16000000 in
theorem lead_step0 (x : LeadM) (V : Vw) (hl : x.line ≤ 11) : FWP Try.prog (means W) 28 [.pointer (some ⟨0, 0, none⟩), .pointer (some ⟨1, 0, none⟩)] [some (true, .ext (.leadm x)), some (true, .ext (.arena V))]
    fun a b => a = .bool (decide ((x.step V).1.line = 0)) ∧ b = [some (true, .ext (.leadm (x.step V).1)), some (true, .ext (.arena (x.step V).2))] := by
  refine FWP.opened (lead_opens x) rfl fun T => ?_
  have hr : x.line = 0 ∨ x.line = 1 ∨ x.line = 2 ∨ x.line = 3 ∨ x.line = 4 ∨ x.line = 5 ∨ x.line = 6 ∨ x.line = 7 ∨ x.line = 8 ∨ x.line = 9 ∨ x.line = 10 ∨ x.line = 11 := by omega
  rcases hr with hr | hr | hr | hr | hr | hr | hr | hr | hr | hr | hr | hr
  all_goals
    simp only [LeadM.enc, hr]
    refine fevD_fwp env_ok (d := 40) ?_
    repeat' ((conv => whnf); first | (refine brT ?_ ?_; · (fail)) | (refine brF ?_ ?_; · (fail)) | (refine brP (fun _ => ?_) (fun _ => ?_)))
    all_goals
      conv => whnf
      refine ⟨.leadm (x.step V).1, _, T, [some (true, .ext (.arena (x.step V).2))], rfl, lead_shuts _ _, ?_, ?_, rfl⟩
      · (simp_all [-sx_swaps, LeadM.step, LeadM.enc, W64, orF]; done)
      · (simp_all [-sx_swaps, LeadM.step, W64, orF]; done)
def dLNew : DetT
  | [.agg ⟨[.int .i64 t, .int .i64 c, .int .i64 m, .int .i64 v]⟩, .int .i64 k, .bool d], H => some (.pointer (some ⟨H.length, 0, none⟩), H ++ [some (true, .ext (.leadm (LeadM.new ⟨t, c, m, v⟩ k d)))])
  | _, _ => none
def dLStep : DetD
  | [.pointer (some ⟨i, 0, none⟩), .pointer (some ⟨j, 0, none⟩)], H => (match nth H i, nth H j with
    | some (true, .ext (.leadm x)), some (true, .ext (.arena V)) => .ite (Nat.ble x.line 11 && !Nat.beq i j) (.ret (.bool (decide ((x.step V).1.line = 0))) (put (put H i (some (true, .ext (.leadm (x.step V).1)))) j (some (true, .ext (.arena (x.step V).2))))) .no
    | _, _ => .no)
  | _, _ => .no
def dLChunks : DetD
  | [.pointer (some ⟨i, 0, none⟩)], H => (match nth H i with
    | some (_, .ext (.leadm x)) => .ite (decide (x.line = 0)) (.ret (.tuple ⟨[.int .i64 x.l, .int .i64 x.mate, .int .i64 x.aft]⟩) H) .no
    | _ => .no)
  | _, _ => .no
theorem ok_LNew {args : List Value} {H H' : HX} {v : Value} (h : dLNew args H = some (v, H')) : FWP Try.prog (means W) 27 args H fun a b => a = v ∧ b = H' := by
  unfold dLNew at h
  split at h <;> try (cases h; done)
  cases h
  exact lead_new ⟨_, _, _, _⟩ _ _ _
theorem ok_LStep {args : List Value} {H H' : HX} {v : Value} (h : (dLStep args H).out = some (v, H')) : FWP Try.prog (means W) 28 args H fun a b => a = v ∧ b = H' := by
  unfold dLStep at h
  split at h <;> try (cases h; done)
  split at h <;> try (cases h; done)
  rename_i i j H x V hi hj
  simp only [DT.out] at h
  split at h <;> try (cases h; done)
  rename_i hb
  cases h
  rw [Bool.and_eq_true, Bool.not_eq_true', Nat.ble_eq] at hb
  exact step_among (fun q => by subst q; simp at hb) hi hj (lead_step0 x V hb.1)
set_option maxRecDepth 100000 in
theorem ok_LChunks {args : List Value} {H H' : HX} {v : Value} (h : (dLChunks args H).out = some (v, H')) : FWP Try.prog (means W) 29 args H fun a b => a = v ∧ b = H' := by
  unfold dLChunks at h
  split at h <;> try (cases h; done)
  split at h <;> try (cases h; done)
  rename_i p x hi
  simp only [DT.out] at h
  split at h <;> try (cases h; done)
  rename_i hb
  cases h
  have hx := of_decide_eq_true hb
  refine look_among (n := 3) rfl hi (FWP.opened1 (lead_opens x) rfl (lead_shuts x _) fun T => fevD_fwp env_ok (d := 40) ?_)
  obtain ⟨c, chunk, draw, line, w, l, n, m, mate, aft, drew⟩ := x
  simp only at hx
  subst hx
  cases p <;> (conv => whnf) <;> exact ⟨rfl, rfl⟩
end Go.Proofs.Ytflhcknnjembjaa
