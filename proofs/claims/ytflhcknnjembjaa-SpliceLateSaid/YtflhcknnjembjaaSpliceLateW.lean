/- SpliceLate: the walk. -/
import Derived.Test.YtflhcknnjembjaaKn20
namespace Go.Proofs.Ytflhcknnjembjaa
open Go.RowKit
variable {W : World}
theorem n300 : nextF 300 false = 600 := by decide
theorem n400 : nextF 400 false = 800 := by decide
theorem m400 : nextF 400 true = 801 := by decide
attribute [local irreducible] Vw.rd Vw.swaps Vw.inb nextF
set_option maxRecDepth 100000 in
set_option maxHeartbeats 4000000 in
theorem spliceLate_fwp (m1 m2 : Int) (b : Bool) (h1 : 0 ≤ m1) (h2 : 0 ≤ m2) : FWP Try.prog (means W) 4 [.int .u8 m1, .int .u8 m2, .bool b] [] fun a _ => a = .bool true := by
  have hc : (⟨1, 3, 2000, 1000⟩ : Cf).okB = true := by decide
  obtain ⟨u, eu, u0, u1⟩ : ∃ a, IntKind.i64.wrap (m1.tmod 30) = a ∧ 0 ≤ a ∧ a < 30 := ⟨_, rfl, by rw [tmodI h1, wrapI (by omega) (by omega)]; omega, by rw [tmodI h1, wrapI (by omega) (by omega)]; omega⟩
  obtain ⟨d, ed, d0, d1⟩ : ∃ a, IntKind.i64.wrap (m2.tmod 30) = a ∧ 0 ≤ a ∧ a < 30 := ⟨_, rfl, by rw [tmodI h2, wrapI (by omega) (by omega)]; omega, by rw [tmodI h2, wrapI (by omega) (by omega)]; omega⟩
  have e1 : IntKind.i64.wrap (u + 1) = u + 1 := wrapI (by omega) (by omega)
  have e2 : IntKind.i64.wrap (u + 1 + d) = u + 1 + d := wrapI (by omega) (by omega)
  have n3 : nextF 300 false = 600 := n300
  have n4 : nextF 400 false = 800 := n400
  have n5 : nextF 400 true = 801 := m400
  have v1 : ¬ u < 0 := by omega
  have v2 : ¬ 63 < u := by omega
  have v3 : IntKind.u8.wrap u = u := by rw [IntKind.wrap_u8]; omega
  have v4 : u.fdiv (2 ^ min 4 IntKind.u8.bits) = 0 ∨ u.fdiv (2 ^ min 4 IntKind.u8.bits) = 1 := by
    rw [show (2 ^ min 4 IntKind.u8.bits : Int) = 16 from rfl, Int.fdiv_eq_ediv_of_nonneg _ (by decide)]; omega
  refine fevD_fwp env20_ok (d := 40) ?_
  rcases v4 with v4 | v4 <;> cases b
  all_goals
    repeat ((conv => whnf); first | (refine brT ?_ ?_; · (first | with_reducible exact Cf.okB_wf hc rfl | with_reducible exact Cf.okB_is hc rfl | (simp [*]; done))) | (refine brF ?_ ?_; · (first | with_reducible exact Cf.okB_wf hc rfl | with_reducible exact Cf.okB_is hc rfl | (simp [*]; done))))

    conv => whnf
    exact congrArg Value.bool (by simp [*])
theorem spliceLate_walk (a0 a1 : Int) (a2 : Bool) (w0 : (Lit.int .u8 a0).wf = true) (w1 : (Lit.int .u8 a1).wf = true) (w : World) :
    Calls Try.prog 4 #[.int .u8 a0, .int .u8 a1, .bool a2] w fun e w' => e = .returned (.bool true) ∧ Below w.heap.size w w' :=
  law_walk (n := 1) rfl w (spliceLate_fwp a0 a1 a2 (wf_u8_bounds w0).1 (wf_u8_bounds w1).1)
end Go.Proofs.Ytflhcknnjembjaa
