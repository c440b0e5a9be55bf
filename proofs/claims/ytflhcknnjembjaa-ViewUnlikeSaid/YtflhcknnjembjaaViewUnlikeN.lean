/- ViewUnlike: where there are no cells. -/
import Derived.Test.YtflhcknnjembjaaKn6
import Derived.Test.YtflhcknnjembjaaTabs
namespace Go.Proofs.Ytflhcknnjembjaa
open Go.RowKit
variable {W : World}
namespace VU
abbrev xs (g : Nat → Int) (sv : Value) : Value := .agg ⟨[.int .i64 (g 0), .int .i64 (g 1), .int .i64 (g 2), .int .i64 (g 3), .int .i64 (g 4), .int .i64 (g 5), .int .i64 (g 6), .int .i64 (g 7), sv]⟩
end VU
attribute [local irreducible] SWP FWP OWP Ent
set_option maxRecDepth 100000 in
set_option maxHeartbeats 16000000 in
theorem viewUnlike_none (g : Nat → Int) (which n : Int) (sv : Value) (lo nn len : Nat) (z : Nat → Int) (h0 : 0 ≤ which) (hn0 : -9223372036854775808 ≤ n) (hn1 : n ≤ 9223372036854775807) (hg : ∀ i, i < 8 → -9223372036854775808 ≤ g i ∧ g i ≤ 9223372036854775807)
    (hs : (sv = .slice none 0 0 ∧ len = 0) ∨ (sv = .slice (some ⟨0, 0, some 0⟩) 0 1 ∧ len = 0)) : FWP Try.prog (means W) 7 [VU.xs g sv, .int .u8 which, .int .i64 n] [some (false, .ext (.old lo nn (intsC .i64 z lo)))] fun a _ => a = .bool true := by
  have ne : ∀ x : Int, n ≠ 0 → -9223372036854775808 ≤ x → x ≤ 9223372036854775807 → ¬ x = IntKind.i64.wrap (x + n) := fun x hx h1 h2 => by rw [IntKind.wrap_i64]; omega
  by_cases hz : n = 0
  · subst hz
    obtain ⟨rfl, rfl⟩ | ⟨rfl, rfl⟩ := hs
    all_goals
      refine fevD_fwp (envK_ok known6) (d := 40) ?_
    · repeat ((conv => whnf); first | (refine brT ?_ ?_; · (simp [*]; done)) | (refine brF ?_ ?_; · (simp [*]; done)))

      rfl
    · repeat ((conv => whnf); first | (refine brT ?_ ?_; · (simp [*]; done)) | (refine brF ?_ ?_; · (simp [*]; done)))

      rfl
  have n0 := ne (g 0) hz (hg 0 (by decide)).1 (hg 0 (by decide)).2
  have n1 := ne (g 1) hz (hg 1 (by decide)).1 (hg 1 (by decide)).2
  have n2 := ne (g 2) hz (hg 2 (by decide)).1 (hg 2 (by decide)).2
  have n3 := ne (g 3) hz (hg 3 (by decide)).1 (hg 3 (by decide)).2
  have n4 := ne (g 4) hz (hg 4 (by decide)).1 (hg 4 (by decide)).2
  have n5 := ne (g 5) hz (hg 5 (by decide)).1 (hg 5 (by decide)).2
  have n6 := ne (g 6) hz (hg 6 (by decide)).1 (hg 6 (by decide)).2
  have n7 := ne (g 7) hz (hg 7 (by decide)).1 (hg 7 (by decide)).2
  have em : which.tmod 9 = 0 ∨ which.tmod 9 = 1 ∨ which.tmod 9 = 2 ∨ which.tmod 9 = 3 ∨ which.tmod 9 = 4 ∨ which.tmod 9 = 5 ∨ which.tmod 9 = 6 ∨ which.tmod 9 = 7 ∨ which.tmod 9 = 8 := by rw [tmodI h0]; omega
  obtain ⟨rfl, rfl⟩ | ⟨rfl, rfl⟩ := hs
  · refine fevD_fwp (envK_ok known6) (d := 40) ?_
    rcases em with em | em | em | em | em | em | em | em | em
    all_goals
      repeat ((conv => whnf); first | (refine brT ?_ ?_; · (simp [*]; done)) | (refine brF ?_ ?_; · (simp [*]; done)))

      rfl
  · refine fevD_fwp (envK_ok known6) (d := 40) ?_
    rcases em with em | em | em | em | em | em | em | em | em
    all_goals
      repeat ((conv => whnf); first | (refine brT ?_ ?_; · (simp [*]; done)) | (refine brF ?_ ?_; · (simp [*]; done)))

      rfl
end Go.Proofs.Ytflhcknnjembjaa
