/- ClaimEnds: the walk. -/
import Derived.Test.YtakbnbmbiaejiaaSxM
namespace Go.Proofs.Ytakbnbmbiaejiaa
open Go.RowKit

theorem known13 : FWP Try.prog means 35 [] [] fun a b => a = .bool true ∧ b = [] := closed (by kernel_rfl)
attribute [local irreducible] Vw.rd Vw.swaps Vw.inb partF claimF stateF versionF
set_option maxRecDepth 100000 in
set_option maxHeartbeats 8000000 in
theorem claimEnds_fwp (v n : Int) (hv0 : 0 ≤ v) (hn0 : 0 ≤ n) : FWP Try.prog means 12 [.int .u16 v, .int .u16 n] [] fun a _ => a = .bool true := by
  have hv1 := Int.emod_nonneg v (show (50 : Int) ≠ 0 by decide)
  have hv2 := Int.emod_lt_of_pos v (show (0 : Int) < 50 by decide)
  have hn1 := Int.emod_nonneg n (show (100 : Int) ≠ 0 by decide)
  have hn2 := Int.emod_lt_of_pos n (show (0 : Int) < 100 by decide)
  have e1 : IntKind.i64.wrap (IntKind.i64.wrap (v.tmod 50) + 1) = v % 50 + 1 := by
    rw [tmodI hv0, wrapI (x := v % 50) (by omega) (by omega), wrapI (by omega) (by omega)]
  have e2 : IntKind.i64.wrap (n.tmod 100) = n % 100 := by rw [tmodI hn0, wrapI (by omega) (by omega)]
  have e3 : wrap64 (n % 100 + 1) = n % 100 + 1 := by unfold wrap64; omega
  have e4 : IntKind.i64.wrap (n % 100 + 2) = n % 100 + 2 := wrapI (by omega) (by omega)
  have e5 : IntKind.i64.wrap (n % 100) = n % 100 := wrapI (by omega) (by omega)
  have e6 : IntKind.i64.wrap (n % 100 + 1) = n % 100 + 1 := wrapI (by omega) (by omega)
  have f1 : 0 ≤ n % 100 + 2 := by omega
  have f2 : ¬ 16777212 < n % 100 + 2 := by omega
  have f3 : (117440512 + (n % 100 + 2)) % 16777216 = n % 100 + 2 := by omega
  have hc : (⟨2, 4, 100, v % 50 + 1⟩ : Cf).okB = true := by simp [Cf.okB]; omega
  refine fevD_fwp (envK_ok known13) (d := 40) ?_
  by_cases hq : n % 100 ≥ v % 50 + 1
  · have hq' : v % 50 < n % 100 := by omega
    repeat ((conv => whnf); first | (refine brT ?_ ?_; · (first | with_reducible exact Cf.okB_wf hc (by rw [e1]) | with_reducible exact Cf.okB_is hc (by rw [e1]) | (simp [*]; done))) | (refine brF ?_ ?_; · (first | with_reducible exact Cf.okB_wf hc (by rw [e1]) | with_reducible exact Cf.okB_is hc (by rw [e1]) | (simp [*]; done))))

    conv => whnf
    exact congrArg Value.bool (by simp [*])
  · have hq' : ¬ v % 50 < n % 100 := by omega
    repeat ((conv => whnf); first | (refine brT ?_ ?_; · (first | with_reducible exact Cf.okB_wf hc (by rw [e1]) | with_reducible exact Cf.okB_is hc (by rw [e1]) | (simp [*]; done))) | (refine brF ?_ ?_; · (first | with_reducible exact Cf.okB_wf hc (by rw [e1]) | with_reducible exact Cf.okB_is hc (by rw [e1]) | (simp [*]; done))))

    conv => whnf
    exact congrArg Value.bool (by simp [*])
theorem claimEnds_walk (a0 a1 : Int) (w0 : (Lit.int .u16 a0).wf = true) (w1 : (Lit.int .u16 a1).wf = true) (w : World) :
    Calls Try.prog 12 #[.int .u16 a0, .int .u16 a1] w fun e w' => e = .returned (.bool true) ∧ Below w.heap.size w w' :=
  law_walk (n := 1) (envK_ok known13) rfl (claimEnds_fwp a0 a1 (wf_u16_bounds w0).1 (wf_u16_bounds w1).1) w
end Go.Proofs.Ytakbnbmbiaejiaa
