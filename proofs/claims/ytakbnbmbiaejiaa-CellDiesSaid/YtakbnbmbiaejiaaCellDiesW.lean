/- CellDies: the walk. -/
import Derived.Test.YtakbnbmbiaejiaaSxM
namespace Go.Proofs.Ytakbnbmbiaejiaa
open Go.RowKit

theorem known15 : FWP Try.prog means 24 [] [] fun a b => a = .bool true ∧ b = [] := closed (by kernel_rfl)

set_option maxRecDepth 100000 in
set_option maxHeartbeats 8000000 in
theorem cellDies_fwp (v a : Int) (s : Bool) (hv0 : 0 ≤ v) (hv1 : v ≤ 65535) (ha0 : 0 ≤ a) : FWP Try.prog means 4 [.int .u16 v, .int .u8 a, .bool s] [] fun a _ => a = .bool true := by
  have hr : a % 8 = 0 ∨ a % 8 = 1 ∨ a % 8 = 2 ∨ a % 8 = 3 ∨ a % 8 = 4 ∨ a % 8 = 5 ∨ a % 8 = 6 ∨ a % 8 = 7 := by omega
  have e1 : IntKind.i64.wrap (a.tmod 8) = a % 8 := by rw [tmodI ha0, wrapI (by omega) (by omega)]
  have e2 : IntKind.i64.wrap v = v := wrapI (by omega) (by omega)
  have e3 : IntKind.i64.wrap (v + 3) = v + 3 := wrapI (by omega) (by omega)
  have f1 : ¬ v < 0 := by omega
  have f2 : ¬ v > 16777212 := by omega
  have f3 : v ≤ 16777212 := by omega
  have f4 : ¬ v + 3 < 3 := by omega
  have f5 : -9223372036854775808 ≤ v + 3 := by omega
  have f6 : v + 3 ≤ 9223372036854775807 := by omega
  have f7 : (if 0 < v then v else 0) = v := by split <;> omega
  have f8 : ¬ v + 3 = 1 := by omega
  have f9 : ¬ v = -2 := by omega
  have f10 : v ≤ 9223372036854775804 := by omega
  have f11 : 0 ≤ v + 3 := by omega
  have hc : (⟨2, 4, 100, 1000⟩ : Cf).okB = true := by decide
  refine fevD_fwp (envK_ok known15) (d := 40) ?_
  rcases hr with hr | hr | hr | hr | hr | hr | hr | hr <;> rw [hr] at e1 <;> cases s
  all_goals
    repeat ((conv => whnf); first | (refine brT ?_ ?_; · (first | with_reducible exact Cf.okB_wf hc rfl | with_reducible exact Cf.okB_is hc rfl | (simp [*]; done))) | (refine brF ?_ ?_; · (first | with_reducible exact Cf.okB_wf hc rfl | with_reducible exact Cf.okB_is hc rfl | (simp [*]; done))))

    conv => whnf

    exact congrArg Value.bool (by simp [*])
theorem cellDies_walk (a0 a1 : Int) (a2 : Bool) (w0 : (Lit.int .u16 a0).wf = true) (w1 : (Lit.int .u8 a1).wf = true) (w : World) :
    Calls Try.prog 4 #[.int .u16 a0, .int .u8 a1, .bool a2] w fun e w' => e = .returned (.bool true) ∧ Below w.heap.size w w' :=
  law_walk (n := 1) (envK_ok known15) rfl (cellDies_fwp a0 a1 a2 (wf_u16_bounds w0).1 (wf_u16_bounds w0).2 (wf_u8_bounds w1).1) w
end Go.Proofs.Ytakbnbmbiaejiaa
