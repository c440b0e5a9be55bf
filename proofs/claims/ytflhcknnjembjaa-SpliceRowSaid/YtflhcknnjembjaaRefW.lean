/- The document's words: what its functions answer. -/
import Derived.Test.YtflhcknnjembjaaSxT
namespace Go.Proofs.Ytflhcknnjembjaa
open Go.RowKit
variable {W : World}

theorem bits_or_i64 (s : Nat) (h l P : Int) (hP : P = 2 ^ s) (h0 : 0 ≤ h) (l0 : 0 ≤ l) (l1 : l < P) (hb : h * P + l < 4611686018427387904) : bits .or .i64 (h * P) l = h * P + l := by
  subst hP
  obtain ⟨m, rfl⟩ := Int.eq_ofNat_of_zero_le h0
  obtain ⟨n, rfl⟩ := Int.eq_ofNat_of_zero_le l0
  have e : ((m : Int) * 2 ^ s) = ((m * 2 ^ s : Nat) : Int) := by simp
  have hn : n < 2 ^ s := by exact_mod_cast l1
  rw [e] at hb ⊢
  have h := (bits_nat .i64 62 (by decide) (fun n a b => by rw [IntKind.wrap_i64]; omega) (m * 2 ^ s) n (by omega) (by omega)).2
  rw [h, or_shift _ _ _ hn]
  simp
theorem rheld_calls (n a b : Int) (w : World) :
    Calls Try.prog 66 #[.int .i64 n, .int .i64 a, .int .i64 b] w fun e w' => e = .returned (.int .i64 (max a (min n b))) ∧ w = w' := by
  go_enter Try.func66, Try.ntmps66
  go_wp2
  all_goals
    go_returns
    first | exact ⟨rfl, rfl⟩ | exact ⟨ret_int (by omega), rfl⟩
theorem rclaim_calls (s p : Int) (w : World) :
    Calls Try.prog 41 #[.int .i64 s, .int .i64 p] w fun e w' => e = .returned (.int .i64 (claimF s p)) ∧ Below w.heap.size w w' := by
  go_enter Try.func41, Try.ntmps41
  go_wp2_with (go_at_call 66; refine (rheld_calls _ _ _ _).mono ?_; rintro e w' ⟨rfl, rfl⟩)
  go_returns
  refine ⟨ret_int ?_, Below.refl _ _⟩
  rw [bits_or_i64 24 (max 0 (min s 1073741824)) (max 0 (min p 16777212)) 16777216 (by decide) (by omega) (by omega) (by omega) (by omega)]
  unfold claimF clamp; omega
def dRClaim : DetT
  | [.int .i64 s, .int .i64 p], H => some (.int .i64 (claimF s p), H)
  | _, _ => none
theorem ok_RClaim {args : List Value} {H H' : HX} {v : Value} (h : dRClaim args H = some (v, H')) : FWP Try.prog (means W) 41 args H fun a b => a = v ∧ b = H' := by
  unfold dRClaim at h
  split at h <;> try (cases h; done)
  exact pure_fwp (callFunc_go Try.func41 rfl (by kernel_rfl)) rfl rfl h fun w => rclaim_calls _ _ w
end Go.Proofs.Ytflhcknnjembjaa
