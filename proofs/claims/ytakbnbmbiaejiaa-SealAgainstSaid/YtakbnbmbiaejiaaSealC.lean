/- Package seal: its functions, told. -/
import Derived.Test.YtakbnbmbiaejiaaSxU
namespace Go.Proofs.Ytakbnbmbiaejiaa
open Go.RowKit
variable {W : World}

theorem sealm_shuts (x : SealM) (W : World) : Shuts (means W) (.sealm x) x.enc := fun _ _ T h => ⟨rfl, T, h⟩
theorem sealm_opens (x : SealM) : Opens (means W) (.sealm x) x.enc := fun _ _ _ h => h
set_option maxRecDepth 100000 in
set_option maxHeartbeats 4000000 in
theorem sealm_new (c : Cf) (k m : Int) (H : HX) : FWP Try.prog (means W) 19 [.agg ⟨c.enc⟩, .int .i64 k, .int .i64 m] H fun a b => a = .pointer (some ⟨H.length, 0, none⟩) ∧ b = H ++ [some (true, .ext (.sealm (SealM.new c k m)))] := by
  refine FWP.born (n := 3) (cs := (SealM.new c k m).enc) rfl rfl (sealm_shuts _) (fevD_fwp env_ok (d := 40) ?_) H
  conv => whnf
  exact ⟨_, _, rfl, rfl⟩
set_option maxRecDepth 100000 in
set_option maxHeartbeats 8000000 in
theorem sealm_step0 (x : SealM) (V : Vw) (hl : x.line ≤ 6) (ha : x.at' ≤ 1 ∨ x.line = 0) : FWP Try.prog (means W) 21 [.pointer (some ⟨0, 0, none⟩), .pointer (some ⟨1, 0, none⟩)] [some (true, .ext (.sealm x)), some (true, .ext (.arena V))]
    fun a b => a = .bool (decide ((x.step V).1.line = 0)) ∧ b = [some (true, .ext (.sealm (x.step V).1)), some (true, .ext (.arena (x.step V).2))] := by
  refine FWP.opened (sealm_opens x) rfl fun T => ?_
  have hr : x.line = 0 ∨ (x.line = 1 ∨ x.line = 2 ∨ x.line = 3 ∨ x.line = 4 ∨ x.line = 5 ∨ x.line = 6) ∧ (x.at' = 0 ∨ x.at' = 1) := by omega
  rcases hr with hr | ⟨hr | hr | hr | hr | hr | hr, ha' | ha'⟩
  · simp only [SealM.enc, hr]
    refine fevD_fwp env_ok (d := 40) ?_
    conv => whnf
    refine ⟨.sealm (x.step V).1, _, T, [some (true, .ext (.arena (x.step V).2))], rfl, sealm_shuts _ _, ?_, ?_, rfl⟩
    · simp [SealM.step, SealM.enc, hr]
    · simp [SealM.step, hr]
  all_goals
    simp only [SealM.enc, hr, ha']
    refine fevD_fwp env_ok (d := 40) ?_
    repeat' ((conv => whnf); first | (refine brT ?_ ?_; · (fail)) | (refine brF ?_ ?_; · (fail)) | (refine brP (fun _ => ?_) (fun _ => ?_)))
    all_goals
      conv => whnf
      have hat : x.st = (if x.at' = 0 then IntKind.i64.wrap (IntKind.i64.wrap (x.c0 + 7) + IntKind.i64.wrap (3 * x.i)) else IntKind.i64.wrap (IntKind.i64.wrap (x.c1 + 7) + IntKind.i64.wrap (3 * x.i))) := by unfold SealM.st psF; split <;> rfl
      simp only [ha', if_true, Nat.one_ne_zero, if_false] at hat
      (try simp only [← hat] at *)
      refine ⟨.sealm (x.step V).1, _, T, [some (true, .ext (.arena (x.step V).2))], rfl, sealm_shuts _ _, ?_, ?_, rfl⟩
      · clear hat
        first | (simp_all [-sx_swaps, -sx_stateF, SealM.step, SealM.next, SealM.enc, W64]; done) | (simp_all [-sx_swaps, -sx_stateF, SealM.step, SealM.next, W64]; (repeat' split) <;> first | omega | simp_all [-sx_swaps, -sx_stateF, SealM.enc])
      · clear hat
        first | (simp_all [-sx_swaps, -sx_stateF, SealM.step, SealM.next, W64]; done) | (simp_all [-sx_swaps, -sx_stateF, SealM.step, SealM.next, W64]; (repeat' split) <;> first | omega | simp_all [-sx_swaps, -sx_stateF])
def dSNew : DetT
  | [.agg ⟨[.int .i64 t, .int .i64 c, .int .i64 m, .int .i64 v]⟩, .int .i64 k, .int .i64 q], H => some (.pointer (some ⟨H.length, 0, none⟩), H ++ [some (true, .ext (.sealm (SealM.new ⟨t, c, m, v⟩ k q)))])
  | _, _ => none
def dSStep : DetD
  | [.pointer (some ⟨i, 0, none⟩), .pointer (some ⟨j, 0, none⟩)], H => (match nth H i, nth H j with
    | some (true, .ext (.sealm x)), some (true, .ext (.arena V)) => .ite (Nat.ble x.line 6 && (Nat.ble x.at' 1 || Nat.beq x.line 0) && !Nat.beq i j) (.ret (.bool (decide ((x.step V).1.line = 0))) (put (put H i (some (true, .ext (.sealm (x.step V).1)))) j (some (true, .ext (.arena (x.step V).2))))) .no
    | _, _ => .no)
  | _, _ => .no
/-- The same, by tests, of arenas written out. -/
def SealM.stepE (x : SealM) (V : Vw) (K : SealM → Vw → DT Ext) : DT Ext :=
  match x with
  | ⟨c, c0, c1, line, at', i, g⟩ => forceI (SealM.st ⟨c, c0, c1, line, at', i, g⟩) fun st => match line with
    | 1 => storeD V (W64 (c0 + 6)) 1 fun U => .ite (decide (c1 = 0)) (K ⟨c, c0, c1, 3, at', i, g⟩ U) (K ⟨c, c0, c1, 2, at', i, g⟩ U)
    | 2 => storeD V (W64 (c1 + 6)) 1 fun U => K ⟨c, c0, c1, 3, at', i, g⟩ U
    | 3 => loadD V st fun r U => .ite (decide (r = 0)) (K ⟨c, c0, c1, 4, at', i, g⟩ U) (.ite (decide (r = 1)) (K ⟨c, c0, c1, 5, at', i, g⟩ U)
        (forceI (W64 (i + 1)) fun i' => .ite (decide (i' < c.cap)) (K ⟨c, c0, c1, 3, at', i', g⟩ U) (.ite (decide (at' = 0 ∧ c1 ≠ 0)) (K ⟨c, c0, c1, 3, 1, 0, g⟩ U) (K ⟨c, c0, c1, 0, at' + 1, 0, g⟩ U))))
    | 4 => swapD V st 0 2 fun _ U => K ⟨c, c0, c1, 3, at', i, g⟩ U
    | 5 => loadD V 1 fun r U => K ⟨c, c0, c1, 6, at', i, r⟩ U
    | 6 => swapD V st 1 (stateF g) fun _ U => K ⟨c, c0, c1, 3, at', i, g⟩ U
    | _ => K ⟨c, c0, c1, line, at', i, g⟩ V
theorem sealE_out (x : SealM) (V : Vw) (K : SealM → Vw → DT Ext) : (x.stepE V K).out = (K (x.step V).1 (x.step V).2).out := by
  obtain ⟨c, c0, c1, line, at', i, g⟩ := x
  unfold SealM.stepE SealM.step
  simp only [forceI_eq]
  split <;> (try simp only [loadD_out, storeD_out, swapD_out]) <;> (try rfl)
  · simp only [DT.out]; by_cases h : c1 = 0 <;> simp [h]
  · simp only [DT.out]
    generalize V.rd (SealM.st ⟨c, c0, c1, 3, at', i, g⟩) = r
    by_cases h0 : r = 0
    · simp [h0]
    · by_cases h1 : r = 1
      · simp [h1]
      · by_cases h2 : W64 (i + 1) < c.cap
        · simp [h0, h1, h2, SealM.next]
        · by_cases h3 : at' = 0 ∧ c1 ≠ 0
          · simp [h0, h1, h2, h3, SealM.next]
          · simp [h0, h1, h2, h3, SealM.next]
def eSStep : DetD
  | [.pointer (some ⟨i, 0, none⟩), .pointer (some ⟨j, 0, none⟩)], H => (match nth H i, nth H j with
    | some (true, .ext (.sealm x)), some (true, .ext (.arena V)) => (match Nat.ble x.line 6 && (Nat.ble x.at' 1 || Nat.beq x.line 0) && !Nat.beq i j with
      | true => x.stepE V fun y U => .ret (.bool (Nat.beq y.line 0)) (put (put H i (some (true, .ext (.sealm y)))) j (some (true, .ext (.arena U))))
      | false => .no)
    | _, _ => .no)
  | _, _ => .no
theorem ok_SNew {args : List Value} {H H' : HX} {v : Value} (h : dSNew args H = some (v, H')) : FWP Try.prog (means W) 19 args H fun a b => a = v ∧ b = H' := by
  unfold dSNew at h
  split at h <;> try (cases h; done)
  cases h
  exact sealm_new ⟨_, _, _, _⟩ _ _ _
theorem ok_SStep {args : List Value} {H H' : HX} {v : Value} (h : (dSStep args H).out = some (v, H')) : FWP Try.prog (means W) 21 args H fun a b => a = v ∧ b = H' := by
  unfold dSStep at h
  split at h <;> try (cases h; done)
  split at h <;> try (cases h; done)
  rename_i i j H x V hi hj
  simp only [DT.out] at h
  split at h <;> try (cases h; done)
  rename_i hb
  cases h
  rw [Bool.and_eq_true, Bool.and_eq_true, Bool.or_eq_true, Bool.not_eq_true', Nat.ble_eq, Nat.ble_eq, Nat.beq_eq] at hb
  exact step_among (fun q => by subst q; simp at hb) hi hj (sealm_step0 x V hb.1.1 hb.1.2)
theorem ok_eSStep {args : List Value} {H H' : HX} {v : Value} (h : (eSStep args H).out = some (v, H')) : FWP Try.prog (means W) 21 args H fun a b => a = v ∧ b = H' := by
  refine ok_SStep (by
    unfold eSStep at h
    unfold dSStep
    split at h <;> try (cases h; done)
    split at h <;> try (cases h; done)
    rename_i hi hj
    split at h <;> try (cases h; done)
    rename_i hb
    simp only [DT.out, hb]
    rw [sealE_out] at h
    rw [← h]
    simp only [DT.out, Option.some.injEq, Prod.mk.injEq, Value.bool.injEq, and_true]
    rw [Bool.eq_iff_iff]; simp)
end Go.Proofs.Ytakbnbmbiaejiaa
