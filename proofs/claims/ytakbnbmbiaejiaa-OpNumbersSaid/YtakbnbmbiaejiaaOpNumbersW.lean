/- OpNumbers: the walk. -/
import Derived.Test.YtakbnbmbiaejiaaKn4
namespace Go.Proofs.Ytakbnbmbiaejiaa
open Go.RowKit
variable {W : World}
set_option maxRecDepth 100000 in
set_option maxHeartbeats 4000000 in
theorem opNumbers_fwp (t u i k : Int) (t0 : 0 ≤ t) (u0 : 0 ≤ u) (i0 : 0 ≤ i) (k0 : 0 ≤ k) : FWP Try.prog (means W) 7 [.int .u8 t, .int .u8 u, .int .u16 i, .int .u16 k] [] fun a _ => a = .bool true := by
  obtain ⟨a, ea, a0, a1⟩ : ∃ a, IntKind.i64.wrap (t.tmod 8) = a ∧ 0 ≤ a ∧ a < 8 := ⟨_, rfl, by rw [tmodI t0, wrapI (by omega) (by omega)]; omega, by rw [tmodI t0, wrapI (by omega) (by omega)]; omega⟩
  obtain ⟨b, eb, b0, b1⟩ : ∃ a, IntKind.i64.wrap (u.tmod 8) = a ∧ 0 ≤ a ∧ a < 8 := ⟨_, rfl, by rw [tmodI u0, wrapI (by omega) (by omega)]; omega, by rw [tmodI u0, wrapI (by omega) (by omega)]; omega⟩
  obtain ⟨x, ex, x0, x1⟩ : ∃ a, IntKind.i64.wrap (i.tmod 1000) = a ∧ 0 ≤ a ∧ a < 1000 := ⟨_, rfl, by rw [tmodI i0, wrapI (by omega) (by omega)]; omega, by rw [tmodI i0, wrapI (by omega) (by omega)]; omega⟩
  obtain ⟨y, ey, y0, y1⟩ : ∃ a, IntKind.i64.wrap (k.tmod 1000) = a ∧ 0 ≤ a ∧ a < 1000 := ⟨_, rfl, by rw [tmodI k0, wrapI (by omega) (by omega)]; omega, by rw [tmodI k0, wrapI (by omega) (by omega)]; omega⟩
  have n1 : IntKind.i64.wrap (a * 1000) = a * 1000 := wrapI (by omega) (by omega)
  have n2 : IntKind.i64.wrap (b * 1000) = b * 1000 := wrapI (by omega) (by omega)
  have n3 : IntKind.i64.wrap (a * 1000 + x) = a * 1000 + x := wrapI (by omega) (by omega)
  have n4 : IntKind.i64.wrap (b * 1000 + y) = b * 1000 + y := wrapI (by omega) (by omega)
  have c1 : ¬ a < 0 := by omega
  have c2 : ¬ 8 ≤ a := by omega
  have c3 : ¬ b < 0 := by omega
  have c4 : ¬ 8 ≤ b := by omega
  have c5 : ¬ x < 0 := by omega
  have c6 : ¬ 1000 ≤ x := by omega
  have c7 : ¬ y < 0 := by omega
  have c8 : ¬ 1000 ≤ y := by omega
  have c9 : ¬ a * 1000 + x < 0 := by omega
  have c10 : ¬ 8000 ≤ a * 1000 + x := by omega
  have c11 : 0 ≤ a * 1000 + x := by omega
  have d1 : IntKind.i64.wrap ((a * 1000 + x).tdiv 1000) = a := by rw [Int.tdiv_eq_ediv_of_nonneg (by omega), wrapI (by omega) (by omega)]; omega
  have d2 : (a * 1000 + x).tmod 1000 = x := by rw [tmodI (by omega)]; omega
  have hq : (a * 1000 + x = b * 1000 + y) ↔ (a = b ∧ x = y) := by omega
  refine fevD_fwp (envK_ok known4) (d := 40) ?_
  by_cases hab : a = b
  · subst hab
    by_cases hxy : x = y
    · subst hxy
      repeat ((conv => whnf); first | (refine brT ?_ ?_; · (simp [*]; done)) | (refine brF ?_ ?_; · (simp [*]; done)))

      exact congrArg Value.bool (by simp [*])
    · have e1 : ¬ a * 1000 + x = a * 1000 + y := by omega
      have f1 : (a * 1000 + x == a * 1000 + y) = false := beq_eq_false_iff_ne.2 e1
      have f2 : (x == y) = false := beq_eq_false_iff_ne.2 hxy
      repeat ((conv => whnf); first | (refine brT ?_ ?_; · (simp [*]; done)) | (refine brF ?_ ?_; · (simp [*]; done)))

      exact congrArg Value.bool (by simp [*])
  · have e1 : ¬ a * 1000 + x = b * 1000 + y := by omega
    repeat ((conv => whnf); first | (refine brT ?_ ?_; · (simp [*]; done)) | (refine brF ?_ ?_; · (simp [*]; done)))

    exact congrArg Value.bool (by simp [*])
theorem opNumbers_walk (a0 a1 a2 a3 : Int) (w0 : (Lit.int .u8 a0).wf = true) (w1 : (Lit.int .u8 a1).wf = true) (w2 : (Lit.int .u16 a2).wf = true) (w3 : (Lit.int .u16 a3).wf = true) (w : World) :
    Calls Try.prog 7 #[.int .u8 a0, .int .u8 a1, .int .u16 a2, .int .u16 a3] w fun e w' => e = .returned (.bool true) ∧ Below w.heap.size w w' :=
  law_walk (n := 1) rfl w (opNumbers_fwp a0 a1 a2 a3 (wf_u8_bounds w0).1 (wf_u8_bounds w1).1 (wf_u16_bounds w2).1 (wf_u16_bounds w3).1)
end Go.Proofs.Ytakbnbmbiaejiaa
