/- OpFields: the walk. -/
import Derived.Test.YtakbnbmbiaejiaaKn4
namespace Go.Proofs.Ytakbnbmbiaejiaa
open Go.RowKit
variable {W : World}
set_option maxRecDepth 100000 in
set_option maxHeartbeats 4000000 in
theorem opFields_fwp (kind key to val spoil : Int) (h0 : 0 ≤ kind) (h1 : 0 ≤ key) (h2 : 0 ≤ to) (h3 : 0 ≤ val) (h3' : val ≤ 65535) (h4 : 0 ≤ spoil) (h5 : spoil ≤ 255) : FWP Try.prog (means W) 9 [.int .u8 kind, .int .u8 key, .int .u8 to, .int .u16 val, .int .u8 spoil] [] fun a _ => a = .bool true := by
  obtain ⟨a, ea, a0, a1⟩ : ∃ a, IntKind.i64.wrap (key.tmod 64) = a ∧ 0 ≤ a ∧ a < 64 := ⟨_, rfl, by rw [tmodI h1, wrapI (by omega) (by omega)]; omega, by rw [tmodI h1, wrapI (by omega) (by omega)]; omega⟩
  obtain ⟨b, eb, b0, b1⟩ : ∃ a, IntKind.i64.wrap (to.tmod 64) = a ∧ 0 ≤ a ∧ a < 64 := ⟨_, rfl, by rw [tmodI h2, wrapI (by omega) (by omega)]; omega, by rw [tmodI h2, wrapI (by omega) (by omega)]; omega⟩
  have ev : IntKind.i64.wrap val = val := wrapI (by omega) (by omega)
  have c1 : ¬ a < 0 := by omega
  have c2 : ¬ 63 < a := by omega
  have c3 : ¬ b < 0 := by omega
  have c4 : ¬ 63 < b := by omega
  have c5 : ¬ val < 0 := by omega
  have c6 : ¬ 1048576 < val := by omega
  have c7 : a ≤ 63 := by omega
  have c8 : b ≤ 63 := by omega
  have es : IntKind.u8.wrap (spoil.tdiv 128) = 0 ∨ IntKind.u8.wrap (spoil.tdiv 128) = 1 := by
    rw [Int.tdiv_eq_ediv_of_nonneg h4]
    have : spoil / 128 = 0 ∨ spoil / 128 = 1 := by omega
    rcases this with h | h <;> rw [h] <;> decide
  have ek : kind.tmod 4 = 0 ∨ kind.tmod 4 = 1 ∨ kind.tmod 4 = 2 ∨ kind.tmod 4 = 3 := by
    rw [tmodI h0]; omega
  have em : spoil.tmod 5 = 0 ∨ spoil.tmod 5 = 1 ∨ spoil.tmod 5 = 2 ∨ spoil.tmod 5 = 3 ∨ spoil.tmod 5 = 4 := by
    rw [tmodI h4]; omega
  refine fevD_fwp (envK_ok known4) (d := 40) ?_
  rcases es with es | es <;> rcases ek with ek | ek | ek | ek <;> rcases em with em | em | em | em | em
  all_goals
    repeat ((conv => whnf); first | (refine brT ?_ ?_; · (simp [*]; done)) | (refine brF ?_ ?_; · (simp [*]; done)))

    conv => whnf
    exact congrArg Value.bool (by simp [*])
theorem opFields_walk (a0 a1 a2 a3 a4 : Int) (w0 : (Lit.int .u8 a0).wf = true) (w1 : (Lit.int .u8 a1).wf = true) (w2 : (Lit.int .u8 a2).wf = true) (w3 : (Lit.int .u16 a3).wf = true) (w4 : (Lit.int .u8 a4).wf = true) (w : World) :
    Calls Try.prog 9 #[.int .u8 a0, .int .u8 a1, .int .u8 a2, .int .u16 a3, .int .u8 a4] w fun e w' => e = .returned (.bool true) ∧ Below w.heap.size w w' :=
  law_walk (n := 1) rfl w (opFields_fwp a0 a1 a2 a3 a4 (wf_u8_bounds w0).1 (wf_u8_bounds w1).1 (wf_u8_bounds w2).1 (wf_u16_bounds w3).1 (wf_u16_bounds w3).2 (wf_u8_bounds w4).1 (wf_u8_bounds w4).2)
end Go.Proofs.Ytakbnbmbiaejiaa
