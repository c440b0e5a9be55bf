/- Whether it is an op, told. -/
import Derived.Test.YtdmodejpcfhbhaaModelA
namespace Go.Proofs.Ytdmodejpcfhbhaa
open Go.RowKit
variable {W : World}

def isKeyB (k : Int) : Bool := decide (0 ≤ k) && decide (k ≤ 63)
def isOpB (k key v to : Int) : Bool :=
  (decide (k = 1) && isKeyB key && decide (0 ≤ v) && decide (v ≤ 1048576) && decide (to = 0)) ||
  ((decide (k = 2) || decide (k = 3)) && isKeyB key && decide (v = 0) && decide (to = 0)) ||
  (decide (k = 4) && isKeyB key && isKeyB to && decide (v = 0))
def opV (k key v to : Int) : Value := .agg ⟨[.int .i64 k, .int .i64 key, .int .i64 v, .int .i64 to]⟩
set_option maxRecDepth 100000 in
set_option maxHeartbeats 4000000 in
theorem opIs0 (k key v to : Int) : FWP Try.prog (means W) 16 [opV k key v to] [] fun a b => a = .bool (isOpB k key v to) ∧ b = [] := by
  unfold opV
  refine fevD_fwp env_ok (d := 40) ?_
  repeat' ((conv => whnf); first | (refine brT ?_ ?_; · (fail)) | (refine brF ?_ ?_; · (fail)) | (refine brP (fun _ => ?_) (fun _ => ?_)))
  all_goals
    refine ⟨congrArg Value.bool ?_, rfl⟩
    simp_all [isOpB, isKeyB]
    try first | omega | rfl
set_option maxRecDepth 100000 in
set_option maxHeartbeats 4000000 in
theorem refIs0 (k key v to : Int) : FWP Try.prog (means W) 29 [opV k key v to] [] fun a b => a = .bool (isOpB k key v to) ∧ b = [] := by
  unfold opV
  refine fevD_fwp env_ok (d := 40) ?_
  repeat' ((conv => whnf); first | (refine brT ?_ ?_; · (fail)) | (refine brF ?_ ?_; · (fail)) | (refine brP (fun _ => ?_) (fun _ => ?_)))
  all_goals
    refine ⟨congrArg Value.bool ?_, rfl⟩
    simp_all [isOpB, isKeyB]
    try first | omega | rfl
def dOpIs : DetT
  | [.agg ⟨[.int .i64 k, .int .i64 key, .int .i64 v, .int .i64 to]⟩], H => some (.bool (isOpB k key v to), H)
  | _, _ => none
theorem nums_among {f : FuncId} {args : List Value} {r : Value} {H : HX} (ha : rnL 0 [] args = some args) (hr : plain r = true) (h : FWP Try.prog (means W) f args [] fun a b => a = r ∧ b = []) : FWP Try.prog (means W) f args H fun a b => a = r ∧ b = H := by
  have := FWP.amongN (H := H) (G := []) (N := []) (r := r) (n := 0) [] rfl (by simp [upV, hr]) ha (fun k e hk => by simp at hk) (fun k p o e => by simp [nth] at e) rfl h
  simpa [putAll] using this
theorem ok_OpIs {args : List Value} {H H' : HX} {v : Value} (h : dOpIs args H = some (v, H')) : FWP Try.prog (means W) 16 args H fun a b => a = v ∧ b = H' := by
  unfold dOpIs at h
  split at h <;> try (cases h; done)
  cases h
  exact nums_among (by simp [rnL, rnV, plain]) rfl (opIs0 _ _ _ _)
theorem ok_RefIs {args : List Value} {H H' : HX} {v : Value} (h : dOpIs args H = some (v, H')) : FWP Try.prog (means W) 29 args H fun a b => a = v ∧ b = H' := by
  unfold dOpIs at h
  split at h <;> try (cases h; done)
  cases h
  exact nums_among (by simp [rnL, rnV, plain]) rfl (refIs0 _ _ _ _)
end Go.Proofs.Ytdmodejpcfhbhaa
