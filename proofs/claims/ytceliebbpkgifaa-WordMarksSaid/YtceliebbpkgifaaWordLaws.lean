/- The walks of the five statements on words, and of the closed examples ahead of each. -/
import Derived.Test.YtceliebbpkgifaaWord
namespace Go.Proofs.Ytceliebbpkgifaa
open Go.RowKit

theorem wordKnown {w0 w : World} {h : GH} (hm : Mem w0 h w) :
    Calls Try.prog 16 #[] w fun e w' => e = .returned (.bool true) ∧ Mem w0 h w' := by
  have k1 : (nextF 5 true == 11) = true := by decide
  have k2 : ((11 : Int) / 2 == 5) = true := by decide
  have k3 : ((11 : Int) % 2 == 1) = true := by decide
  have k4 : ((10 : Int) % 2 == 1) = false := by decide
  have k5 : (stateF 4 == 7) = true := by decide
  have k6 : (versionF 7 == 4) = true := by decide
  have k7 : (versionF 2 == -1) = true := by decide
  have k8 : (claimF 3 9 == 50331657) = true := by decide
  have k9 : (seqF 50331657 == 3) = true := by decide
  have k10 : (partF 50331657 == 9) = true := by decide
  have k11 : (dataF 7 (-1) == 14680064) = true := by decide
  have k12 : (writerF 14680070 == 7) = true := by decide
  have k13 : (valF 14680070 == 5) = true := by decide
  go_enter Try.func16, Try.ntmps16
  go_wp2_with (first
    | (go_at_call 17; (with_reducible refine (next_mem _ _ hm).mono ?_); clear hm; rintro e w' ⟨rfl, hm⟩)
    | (go_at_call 20; (with_reducible refine (at_mem _ hm).mono ?_); clear hm; rintro e w' ⟨rfl, hm⟩)
    | (go_at_call 21; (with_reducible refine (marked_mem _ hm).mono ?_); clear hm; rintro e w' ⟨rfl, hm⟩)
    | (go_at_call 23; (with_reducible refine (state_calls _ _).mono ?_); rintro e w' ⟨rfl, rfl⟩)
    | (go_at_call 22; (with_reducible refine (version_calls _ _ (by decide)).mono ?_); rintro e w' ⟨rfl, rfl⟩)
    | (go_at_call 18; (with_reducible refine (claim_mem _ _ hm).mono ?_); clear hm; rintro e w' ⟨rfl, hm⟩)
    | (go_at_call 24; (with_reducible refine (seq_mem _ hm).mono ?_); clear hm; rintro e w' ⟨rfl, hm⟩)
    | (go_at_call 25; (with_reducible refine (part_mem _ hm).mono ?_); clear hm; rintro e w' ⟨rfl, hm⟩)
    | (go_at_call 19; (with_reducible refine (data_mem _ _ hm).mono ?_); clear hm; rintro e w' ⟨rfl, hm⟩)
    | (go_at_call 26; (with_reducible refine (writer_mem _ hm).mono ?_); clear hm; rintro e w' ⟨rfl, hm⟩)
    | (go_at_call 27; (with_reducible refine (val_mem _ hm).mono ?_); clear hm; rintro e w' ⟨rfl, hm⟩))
  go_returns
  exact ⟨rfl, hm⟩

set_option maxHeartbeats 800000 in
set_option maxHeartbeats 800000 in
set_option maxHeartbeats 800000 in
theorem wordMarks_walk (a0 : Int) (w0 : (Lit.int .u32 a0).wf = true) (w : World) :
    Calls Try.prog 4 #[.int .u32 a0] w fun e w' => e = .returned (.bool true) ∧ Below w.heap.size w w' := by
  have hm := Mem.start w
  obtain ⟨l0, u0⟩ := wf_u32_bounds w0
  clear w0
  have ho := or_one (a0 % 1073741824 * 2) (by omega) (by omega) (by omega)
  go_enter Try.func4, Try.ntmps4
  go_wp2_with (first
      | (go_at_call 16; (with_reducible refine (wordKnown hm).mono ?_); clear hm; rintro e w' ⟨rfl, hm⟩)
      | (go_at_call 17; (with_reducible refine (next_no (by omega) (by omega) hm).mono ?_); clear hm; rintro e w' ⟨rfl, hm⟩)
      | (go_at_call 17; (with_reducible refine (next_yes (by omega) (by omega) hm).mono ?_); clear hm; rintro e w' ⟨rfl, hm⟩)
      | (go_at_call 20; (with_reducible refine (at_of (a0 % 1073741824) (by omega) hm).mono ?_); clear hm; rintro e w' ⟨rfl, hm⟩)
      | (go_at_call 21; (with_reducible refine (marked_of true (by rw [if_pos rfl]; omega) hm).mono ?_); clear hm; rintro e w' ⟨rfl, hm⟩))
  all_goals first | (exfalso; rename_i hx; exact hx (beq_iff_eq.1 (beqb_t (by omega)))) | (go_returns; exact ⟨ret_bool (by repeat (first | rfl | refine and_t ?_ ?_ | exact bne_t (by omega) | exact beq_t (by omega) | exact beqb_t (by omega))), hm.below⟩)

set_option maxHeartbeats 800000 in
theorem wordBack_walk (a0 : Int) (a1 : Int) (a2 : Int) (a3 : Int) (a4 : Int) (a5 : Int) (a6 : Bool) (w0 : (Lit.int .u32 a0).wf = true) (w1 : (Lit.int .u32 a1).wf = true) (w2 : (Lit.int .u32 a2).wf = true) (w3 : (Lit.int .u32 a3).wf = true) (w4 : (Lit.int .u32 a4).wf = true) (w5 : (Lit.int .u32 a5).wf = true) (w : World) :
    Calls Try.prog 3 #[.int .u32 a0, .int .u32 a1, .int .u32 a2, .int .u32 a3, .int .u32 a4, .int .u32 a5, .bool a6] w fun e w' => e = .returned (.bool true) ∧ Below w.heap.size w w' := by
  have hm := Mem.start w
  obtain ⟨l0, u0⟩ := wf_u32_bounds w0
  obtain ⟨l1, u1⟩ := wf_u32_bounds w1
  obtain ⟨l2, u2⟩ := wf_u32_bounds w2
  obtain ⟨l3, u3⟩ := wf_u32_bounds w3
  obtain ⟨l4, u4⟩ := wf_u32_bounds w4
  obtain ⟨l5, u5⟩ := wf_u32_bounds w5
  clear w0 w1 w2 w3 w4 w5
  cases a6
  · go_enter Try.func3, Try.ntmps3
    go_wp2_with (first
        | (go_at_call 16; (with_reducible refine (wordKnown hm).mono ?_); clear hm; rintro e w' ⟨rfl, hm⟩)
        | (go_at_call 17; (with_reducible refine (next_no (by omega) (by omega) hm).mono ?_); clear hm; rintro e w' ⟨rfl, hm⟩)
        | (go_at_call 20; (with_reducible refine (at_of (a0 % 1073741824) (by omega) hm).mono ?_); clear hm; rintro e w' ⟨rfl, hm⟩)
        | (go_at_call 21; (with_reducible refine (marked_of false (by rw [if_neg (by decide)]; omega) hm).mono ?_); clear hm; rintro e w' ⟨rfl, hm⟩)
        | (go_at_call 23; (with_reducible refine (state_in (by omega) (by omega) _).mono ?_); rintro e w' ⟨rfl, rfl⟩)
        | (go_at_call 22; (with_reducible refine (version_of (a1 % 16777212) rfl (by omega) (by omega) _).mono ?_); rintro e w' ⟨rfl, rfl⟩)
        | (go_at_call 18; (with_reducible refine (claim_in (by omega) (by omega) (by omega) (by omega) hm).mono ?_); clear hm; rintro e w' ⟨rfl, hm⟩)
        | (go_at_call 24; (with_reducible refine (seq_of (a2 % 1073741824) (a3 % 16777212) rfl (by omega) (by omega) (by omega) (by omega) hm).mono ?_); clear hm; rintro e w' ⟨rfl, hm⟩)
        | (go_at_call 25; (with_reducible refine (part_of (a2 % 1073741824) (a3 % 16777212) rfl (by omega) (by omega) hm).mono ?_); clear hm; rintro e w' ⟨rfl, hm⟩)
        | (go_at_call 19; (with_reducible refine (data_in (by omega) (by omega) (by omega) (by omega) hm).mono ?_); clear hm; rintro e w' ⟨rfl, hm⟩)
        | (go_at_call 26; (with_reducible refine (writer_of (a4 % 1048576) (a5 % 1048578 - 1) (by omega) (by omega) (by omega) (by omega) (by omega) hm).mono ?_); clear hm; rintro e w' ⟨rfl, hm⟩)
        | (go_at_call 27; (with_reducible refine (val_of (a4 % 1048576) (a5 % 1048578 - 1) (by omega) (by omega) (by omega) hm).mono ?_); clear hm; rintro e w' ⟨rfl, hm⟩))
    all_goals first | (exfalso; rename_i hx; exact hx (beq_iff_eq.1 (beqb_t (by omega)))) | (go_returns; exact ⟨ret_bool (by repeat (first | rfl | refine and_t ?_ ?_ | exact bne_t (by omega) | exact beq_t (by omega) | exact beqb_t (by omega))), hm.below⟩)
  · go_enter Try.func3, Try.ntmps3
    go_wp2_with (first
        | (go_at_call 16; (with_reducible refine (wordKnown hm).mono ?_); clear hm; rintro e w' ⟨rfl, hm⟩)
        | (go_at_call 17; (with_reducible refine (next_yes (by omega) (by omega) hm).mono ?_); clear hm; rintro e w' ⟨rfl, hm⟩)
        | (go_at_call 20; (with_reducible refine (at_of (a0 % 1073741824) (by omega) hm).mono ?_); clear hm; rintro e w' ⟨rfl, hm⟩)
        | (go_at_call 21; (with_reducible refine (marked_of true (by rw [if_pos rfl]; omega) hm).mono ?_); clear hm; rintro e w' ⟨rfl, hm⟩)
        | (go_at_call 23; (with_reducible refine (state_in (by omega) (by omega) _).mono ?_); rintro e w' ⟨rfl, rfl⟩)
        | (go_at_call 22; (with_reducible refine (version_of (a1 % 16777212) rfl (by omega) (by omega) _).mono ?_); rintro e w' ⟨rfl, rfl⟩)
        | (go_at_call 18; (with_reducible refine (claim_in (by omega) (by omega) (by omega) (by omega) hm).mono ?_); clear hm; rintro e w' ⟨rfl, hm⟩)
        | (go_at_call 24; (with_reducible refine (seq_of (a2 % 1073741824) (a3 % 16777212) rfl (by omega) (by omega) (by omega) (by omega) hm).mono ?_); clear hm; rintro e w' ⟨rfl, hm⟩)
        | (go_at_call 25; (with_reducible refine (part_of (a2 % 1073741824) (a3 % 16777212) rfl (by omega) (by omega) hm).mono ?_); clear hm; rintro e w' ⟨rfl, hm⟩)
        | (go_at_call 19; (with_reducible refine (data_in (by omega) (by omega) (by omega) (by omega) hm).mono ?_); clear hm; rintro e w' ⟨rfl, hm⟩)
        | (go_at_call 26; (with_reducible refine (writer_of (a4 % 1048576) (a5 % 1048578 - 1) (by omega) (by omega) (by omega) (by omega) (by omega) hm).mono ?_); clear hm; rintro e w' ⟨rfl, hm⟩)
        | (go_at_call 27; (with_reducible refine (val_of (a4 % 1048576) (a5 % 1048578 - 1) (by omega) (by omega) (by omega) hm).mono ?_); clear hm; rintro e w' ⟨rfl, hm⟩))
    all_goals first | (exfalso; rename_i hx; exact hx (beq_iff_eq.1 (beqb_t (by omega)))) | (go_returns; exact ⟨ret_bool (by repeat (first | rfl | refine and_t ?_ ?_ | exact bne_t (by omega) | exact beq_t (by omega) | exact beqb_t (by omega))), hm.below⟩)

set_option maxHeartbeats 800000 in
theorem wordStates_walk (a0 : Int) (a1 : Int) (w0 : (Lit.int .u32 a0).wf = true) (w1 : (Lit.int .u32 a1).wf = true) (w : World) :
    Calls Try.prog 5 #[.int .u32 a0, .int .u32 a1] w fun e w' => e = .returned (.bool true) ∧ Below w.heap.size w w' := by
  have hm := Mem.start w
  obtain ⟨l0, u0⟩ := wf_u32_bounds w0
  obtain ⟨l1, u1⟩ := wf_u32_bounds w1
  clear w0 w1
  by_cases hz : a0 % 16777212 < a1 % 16777212
  all_goals
    go_enter Try.func5, Try.ntmps5
    go_wp2_with (first
        | (go_at_call 16; (with_reducible refine (wordKnown hm).mono ?_); clear hm; rintro e w' ⟨rfl, hm⟩)
        | (go_at_call 23; (with_reducible refine (state_in (by omega) (by omega) _).mono ?_); rintro e w' ⟨rfl, rfl⟩)
        | (go_at_call 22; (with_reducible refine (version_calls _ _ (by decide)).mono ?_); rintro e w' ⟨rfl, rfl⟩))
    all_goals first | (exfalso; rename_i hx; exact hx (beq_iff_eq.1 (beqb_t (by omega)))) | (go_returns; exact ⟨ret_bool (by repeat (first | rfl | refine and_t ?_ ?_ | exact bne_t (by omega) | exact beq_t (by omega) | exact beqb_t (by omega))), hm.below⟩)

set_option maxHeartbeats 800000 in
theorem wordClaims_walk (a0 : Int) (a1 : Int) (a2 : Int) (w0 : (Lit.int .u32 a0).wf = true) (w1 : (Lit.int .u32 a1).wf = true) (w2 : (Lit.int .u32 a2).wf = true) (w : World) :
    Calls Try.prog 6 #[.int .u32 a0, .int .u32 a1, .int .u32 a2] w fun e w' => e = .returned (.bool true) ∧ Below w.heap.size w w' := by
  have hm := Mem.start w
  obtain ⟨l0, u0⟩ := wf_u32_bounds w0
  obtain ⟨l1, u1⟩ := wf_u32_bounds w1
  obtain ⟨l2, u2⟩ := wf_u32_bounds w2
  clear w0 w1 w2
  go_enter Try.func6, Try.ntmps6
  go_wp2_with (first
      | (go_at_call 16; (with_reducible refine (wordKnown hm).mono ?_); clear hm; rintro e w' ⟨rfl, hm⟩)
      | (go_at_call 18; (with_reducible refine (claim_in (by omega) (by omega) (by omega) (by omega) hm).mono ?_); clear hm; rintro e w' ⟨rfl, hm⟩))
  all_goals first | (exfalso; rename_i hx; exact hx (beq_iff_eq.1 (beqb_t (by omega)))) | (go_returns; exact ⟨ret_bool (by repeat (first | rfl | refine and_t ?_ ?_ | exact bne_t (by omega) | exact beq_t (by omega) | exact beqb_t (by omega))), hm.below⟩)

set_option maxHeartbeats 800000 in
theorem wordDatas_walk (a0 : Int) (a1 : Int) (a2 : Int) (a3 : Int) (w0 : (Lit.int .u32 a0).wf = true) (w1 : (Lit.int .u32 a1).wf = true) (w2 : (Lit.int .u32 a2).wf = true) (w3 : (Lit.int .u32 a3).wf = true) (w : World) :
    Calls Try.prog 7 #[.int .u32 a0, .int .u32 a1, .int .u32 a2, .int .u32 a3] w fun e w' => e = .returned (.bool true) ∧ Below w.heap.size w w' := by
  have hm := Mem.start w
  obtain ⟨l0, u0⟩ := wf_u32_bounds w0
  obtain ⟨l1, u1⟩ := wf_u32_bounds w1
  obtain ⟨l2, u2⟩ := wf_u32_bounds w2
  obtain ⟨l3, u3⟩ := wf_u32_bounds w3
  clear w0 w1 w2 w3
  go_enter Try.func7, Try.ntmps7
  go_wp2_with (first
      | (go_at_call 16; (with_reducible refine (wordKnown hm).mono ?_); clear hm; rintro e w' ⟨rfl, hm⟩)
      | (go_at_call 19; (with_reducible refine (data_in (by omega) (by omega) (by omega) (by omega) hm).mono ?_); clear hm; rintro e w' ⟨rfl, hm⟩)
      | (go_at_call 19; (with_reducible refine (data_val (a0 % 1048576 * 2097152 + 1048577) (by unfold dataF clamp; omega) hm).mono ?_); clear hm; rintro e w' ⟨rfl, hm⟩)
      | (go_at_call 19; (with_reducible refine (data_val (a2 % 1048577 + 1) (by unfold dataF clamp; omega) hm).mono ?_); clear hm; rintro e w' ⟨rfl, hm⟩)
      | (go_at_call 26; (with_reducible refine (writer_of (a0 % 1048576) (-1) (by omega) (by omega) (by omega) (by omega) (by omega) hm).mono ?_); clear hm; rintro e w' ⟨rfl, hm⟩)
      | (go_at_call 27; (with_reducible refine (val_of (a0 % 1048576) (-1) (by omega) (by omega) (by omega) hm).mono ?_); clear hm; rintro e w' ⟨rfl, hm⟩))
  all_goals first | (exfalso; rename_i hx; exact hx (beq_iff_eq.1 (beqb_t (by omega)))) | (go_returns; exact ⟨ret_bool (by repeat (first | rfl | refine and_t ?_ ?_ | exact bne_t (by omega) | exact beq_t (by omega) | exact beqb_t (by omega))), hm.below⟩)

end Go.Proofs.Ytceliebbpkgifaa
