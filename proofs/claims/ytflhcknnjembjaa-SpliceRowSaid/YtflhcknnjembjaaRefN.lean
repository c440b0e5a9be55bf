/- The document's words: what Next and At answer. -/
import Derived.Test.YtflhcknnjembjaaRefW
namespace Go.Proofs.Ytflhcknnjembjaa
open Go.RowKit
variable {W : World}

theorem rnext_calls (x : Int) (m : Bool) (w : World) :
    Calls Try.prog 18 #[.int .i64 x, .bool m] w fun e w' => e = .returned (.int .i64 (nextF x m)) ∧ Below w.heap.size w w' := by
  cases m
  all_goals
    go_enter Try.func18, Try.ntmps18
    go_wp2_with (go_at_call 66; refine (rheld_calls _ _ _ _).mono ?_; rintro e w' ⟨rfl, rfl⟩)
    go_returns
    refine ⟨ret_int ?_, Below.refl _ _⟩
    first | (rw [bits_or_i64 1 (max 0 (min x 1073741824)) 1 2 (by decide) (by omega) (by omega) (by omega) (by omega)]; unfold nextF clamp; simp; omega) | (unfold nextF clamp; simp; omega)
theorem rat_calls (x : Int) (w : World) :
    Calls Try.prog 23 #[.int .i64 x] w fun e w' => e = .returned (.int .i64 (x / 2)) ∧ Below w.heap.size w w' := by
  go_enter Try.func23, Try.ntmps23
  go_wp2
  go_returns
  refine ⟨ret_int ?_, Below.refl _ _⟩
  first | rfl | omega | (rw [IntKind.wrap_i64]; omega)
def dRNext : DetT
  | [.int .i64 s, .bool p], H => some (.int .i64 (nextF s p), H)
  | _, _ => none
theorem ok_RNext {args : List Value} {H H' : HX} {v : Value} (h : dRNext args H = some (v, H')) : FWP Try.prog (means W) 18 args H fun a b => a = v ∧ b = H' := by
  unfold dRNext at h
  split at h <;> try (cases h; done)
  exact pure_fwp (callFunc_go Try.func18 rfl (by kernel_rfl)) rfl rfl h fun w => rnext_calls _ _ w
def dRAt : DetT
  | [.int .i64 x], H => some (.int .i64 (x / 2), H)
  | _, _ => none
theorem ok_RAt {args : List Value} {H H' : HX} {v : Value} (h : dRAt args H = some (v, H')) : FWP Try.prog (means W) 23 args H fun a b => a = v ∧ b = H' := by
  unfold dRAt at h
  split at h <;> try (cases h; done)
  exact pure_fwp (callFunc_go Try.func23 rfl (by kernel_rfl)) rfl rfl h fun w => rat_calls _ w
end Go.Proofs.Ytflhcknnjembjaa
