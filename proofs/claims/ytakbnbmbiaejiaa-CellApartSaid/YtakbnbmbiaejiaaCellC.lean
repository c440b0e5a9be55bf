/- Package cell: its functions, told. -/
import Derived.Test.YtakbnbmbiaejiaaSxT
namespace Go.Proofs.Ytakbnbmbiaejiaa
open Go.RowKit
variable {W : World}

theorem cell_shuts (x : CellM) (W : World) : Shuts (means W) (.cell x) x.enc := fun _ _ T h => ⟨rfl, T, h⟩
theorem cell_opens (x : CellM) : Opens (means W) (.cell x) x.enc := fun _ _ _ h => h
set_option maxRecDepth 100000 in
set_option maxHeartbeats 4000000 in
theorem cell_new (c : Cf) (k ky d : Int) (H : HX) : FWP Try.prog (means W) 25 [.agg ⟨c.enc⟩, .int .i64 k, .int .i64 ky, .int .i64 d] H fun a b => a = .pointer (some ⟨H.length, 0, none⟩) ∧ b = H ++ [some (true, .ext (.cell (CellM.new c k ky d)))] := by
  refine FWP.born (n := 3) (cs := (CellM.new c k ky d).enc) rfl rfl (cell_shuts _) (fevD_fwp env_ok (d := 40) ?_) H
  conv => whnf
  exact ⟨_, _, rfl, rfl⟩
set_option maxRecDepth 100000 in
set_option maxHeartbeats 8000000 in
theorem cell_step0 (x : CellM) (V : Vw) (hl : x.line ≤ 8) : FWP Try.prog (means W) 26 [.pointer (some ⟨0, 0, none⟩), .pointer (some ⟨1, 0, none⟩)] [some (true, .ext (.cell x)), some (true, .ext (.arena V))]
    fun a b => a = .bool (decide ((x.step V).1.line = 0)) ∧ b = [some (true, .ext (.cell (x.step V).1)), some (true, .ext (.arena (x.step V).2))] := by
  refine FWP.opened (cell_opens x) rfl fun T => ?_
  have hr : x.line = 0 ∨ x.line = 1 ∨ x.line = 2 ∨ x.line = 3 ∨ x.line = 4 ∨ x.line = 5 ∨ x.line = 6 ∨ x.line = 7 ∨ x.line = 8 := by omega
  rcases hr with hr | hr | hr | hr | hr | hr | hr | hr | hr
  all_goals
    simp only [CellM.enc, hr]
    refine fevD_fwp env_ok (d := 40) ?_
    repeat' ((conv => whnf); first | (refine brT ?_ ?_; · (fail)) | (refine brF ?_ ?_; · (fail)) | (refine brP (fun _ => ?_) (fun _ => ?_)))
    all_goals
      conv => whnf
      have hat : IntKind.i64.wrap (IntKind.i64.wrap (x.chunk + 7) + IntKind.i64.wrap (3 * x.i)) = x.at := rfl
      (try simp only [hat] at *)
      refine ⟨.cell (x.step V).1, _, T, [some (true, .ext (.arena (x.step V).2))], rfl, cell_shuts _ _, ?_, ?_, rfl⟩
      · clear hat
        first | (simp_all [-sx_swaps, CellM.step, CellM.enc, W64]; done) | (simp_all [-sx_swaps, CellM.step, W64]; split <;> first | omega | simp_all [-sx_swaps, CellM.enc])
      · clear hat
        first | (simp_all [-sx_swaps, CellM.step, W64]; done) | (simp_all [-sx_swaps, CellM.step, W64]; split <;> first | omega | simp_all [-sx_swaps])
def dCNew : DetT
  | [.agg ⟨[.int .i64 t, .int .i64 c, .int .i64 m, .int .i64 v]⟩, .int .i64 k, .int .i64 ky, .int .i64 d], H => some (.pointer (some ⟨H.length, 0, none⟩), H ++ [some (true, .ext (.cell (CellM.new ⟨t, c, m, v⟩ k ky d)))])
  | _, _ => none
def dCStep : DetD
  | [.pointer (some ⟨i, 0, none⟩), .pointer (some ⟨j, 0, none⟩)], H => (match nth H i, nth H j with
    | some (true, .ext (.cell x)), some (true, .ext (.arena V)) => .ite (Nat.ble x.line 8 && !Nat.beq i j) (.ret (.bool (decide ((x.step V).1.line = 0))) (put (put H i (some (true, .ext (.cell (x.step V).1)))) j (some (true, .ext (.arena (x.step V).2))))) .no
    | _, _ => .no)
  | _, _ => .no
def dCVersion : DetT
  | [.pointer (some ⟨i, 0, none⟩)], H => (match nth H i with
    | some (_, .ext (.cell x)) => some (.tuple ⟨[.int .i64 x.version, .bool x.ok]⟩, H)
    | _ => none)
  | _, _ => none
def dCPlace : DetT
  | [.pointer (some ⟨i, 0, none⟩)], H => (match nth H i with
    | some (_, .ext (.cell x)) => some (.int .i64 x.i, H)
    | _ => none)
  | _, _ => none
theorem ok_CNew {args : List Value} {H H' : HX} {v : Value} (h : dCNew args H = some (v, H')) : FWP Try.prog (means W) 25 args H fun a b => a = v ∧ b = H' := by
  unfold dCNew at h
  split at h <;> try (cases h; done)
  cases h
  exact cell_new ⟨_, _, _, _⟩ _ _ _ _
theorem ok_CStep {args : List Value} {H H' : HX} {v : Value} (h : (dCStep args H).out = some (v, H')) : FWP Try.prog (means W) 26 args H fun a b => a = v ∧ b = H' := by
  unfold dCStep at h
  split at h <;> try (cases h; done)
  split at h <;> try (cases h; done)
  rename_i i j H x V hi hj
  simp only [DT.out] at h
  split at h <;> try (cases h; done)
  rename_i hb
  cases h
  rw [Bool.and_eq_true, Bool.not_eq_true', Nat.ble_eq] at hb
  exact step_among (fun q => by subst q; simp at hb) hi hj (cell_step0 x V hb.1)
set_option maxRecDepth 100000 in
theorem ok_CVersion {args : List Value} {H H' : HX} {v : Value} (h : dCVersion args H = some (v, H')) : FWP Try.prog (means W) 27 args H fun a b => a = v ∧ b = H' := by
  unfold dCVersion at h
  split at h <;> try (cases h; done)
  split at h <;> try (cases h; done)
  rename_i p x hi
  cases h
  refine look_among (n := 3) rfl hi (FWP.opened1 (cell_opens x) rfl (cell_shuts x _) fun T => fevD_fwp env_ok (d := 40) ?_)
  cases p <;> (conv => whnf) <;> exact ⟨rfl, rfl⟩
set_option maxRecDepth 100000 in
theorem ok_CPlace {args : List Value} {H H' : HX} {v : Value} (h : dCPlace args H = some (v, H')) : FWP Try.prog (means W) 28 args H fun a b => a = v ∧ b = H' := by
  unfold dCPlace at h
  split at h <;> try (cases h; done)
  split at h <;> try (cases h; done)
  rename_i p x hi
  cases h
  refine look_among (n := 3) rfl hi (FWP.opened1 (cell_opens x) rfl (cell_shuts x _) fun T => fevD_fwp env_ok (d := 40) ?_)
  cases p <;> (conv => whnf) <;> exact ⟨rfl, rfl⟩
end Go.Proofs.Ytakbnbmbiaejiaa
