/- ViewUnlike: the walk, from whatever comes in. -/
import Derived.Test.YtflhcknnjembjaaViewUnlikeW
import Derived.Test.YtflhcknnjembjaaChunk
namespace Go.Proofs.Ytflhcknnjembjaa
open Go.RowKit
theorem viewUnlike_walk (W : World) (g z : Nat → Int) (A : Option Addr) (len cap : Nat) (wg : ∀ i, i < 8 → (Lit.int .i64 (g i)).wf = true) (tri : IsTri W A 3 len cap z) (a1 a2 : Int) (w1 : (Lit.int .u8 a1).wf = true) (w2 : (Lit.int .i64 a2).wf = true) :
    Calls Try.prog 7 #[VU.xs g (.slice A len cap), .int .u8 a1, .int .i64 a2] W fun e w' => e = .returned (.bool true) ∧ Below W.heap.size W w' := by
  have hzs : ∀ q, q < len * 3 → -9223372036854775808 ≤ z q ∧ z q ≤ 9223372036854775807 := fun q hq => by
    rcases tri with ⟨_, h, _⟩ | ⟨_, _, h⟩ | ⟨b, off, _, _, _, _, h⟩
    · omega
    · omega
    · exact wf_i64_bounds (h q hq).2
  obtain ⟨sv, ⟨b, lo, nn, c⟩, h1, h2, h3, h4⟩ := tab_arg tri 0
  simp only at h2
  subst h2
  refine law_walk_rows [⟨b, lo, nn, intsC .i64 z lo⟩] (fun r hr => by simp at hr; subst hr; exact h3) (.cons (.agg (.cons (.plain rfl) (.cons (.plain rfl) (.cons (.plain rfl) (.cons (.plain rfl) (.cons (.plain rfl) (.cons (.plain rfl) (.cons (.plain rfl) (.cons (.plain rfl) (.cons (h4 _ _ (by simp) (by simp)) .nil)))))))))) (.cons (.plain rfl) (.cons (.plain rfl) .nil))) ?_
  show FWP _ _ _ [VU.xs g sv, _, _] _ _
  rcases h1 with h1 | h1 | ⟨cap', rfl, k1, k2, k3⟩
  · exact viewUnlike_none g a1 a2 sv lo nn len z (wf_u8_bounds w1).1 (wf_i64_bounds w2).1 (wf_i64_bounds w2).2 (fun i hi => wf_i64_bounds (wg i hi)) (.inl h1)
  · exact viewUnlike_none g a1 a2 sv lo nn len z (wf_u8_bounds w1).1 (wf_i64_bounds w2).1 (wf_i64_bounds w2).2 (fun i hi => wf_i64_bounds (wg i hi)) (.inr h1)
  · exact viewUnlike_row g a1 a2 cap' lo nn len z (wf_u8_bounds w1).1 (wf_u8_bounds w1).2 (wf_i64_bounds w2).1 (wf_i64_bounds w2).2 (fun i hi => wf_i64_bounds (wg i hi)) hzs k1 k2
end Go.Proofs.Ytflhcknnjembjaa
