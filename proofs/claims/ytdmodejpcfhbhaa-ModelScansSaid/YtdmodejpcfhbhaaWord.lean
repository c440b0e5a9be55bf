/- What each function of package word answers, for every word. -/
import Derived.Test.YtdmodejpcfhbhaaProg
import Derived.Test.YtdmodejpcfhbhaaBase
namespace Go.Proofs.Ytdmodejpcfhbhaa
open Go.RowKit

theorem own0 : ownKnob Try.prog.godebug = none := by kernel_rfl

/-- What a word's functions answer. -/
def nextF (at' : Int) (m : Bool) : Int := clamp at' 0 1073741824 * 2 + (if m then 1 else 0)
def stateF (v : Int) : Int := clamp v 0 16777212 + 3
def versionF (s : Int) : Int := if s < 3 then -1 else s - 3
def claimF (s p : Int) : Int := clamp s 0 1073741824 * 16777216 + clamp p 0 16777212
def seqF (w : Int) : Int := (w % 18446744073709551616) / 16777216
def partF (w : Int) : Int := w % 16777216
def dataF (a v : Int) : Int := clamp a 0 1048576 * 2097152 + (clamp v (-1) 1048576 + 1)
def writerF (d : Int) : Int := (d % 18446744073709551616) / 2097152
def valF (d : Int) : Int := d % 2097152 - 1

theorem held_calls (n a b : Int) (w : World) :
    Calls Try.prog 126 #[.int .i64 n, .int .i64 a, .int .i64 b] w fun e w' => e = .returned (.int .i64 (clamp n a b)) ∧ w = w' := by
  by_cases h1 : n < a
  · by_cases h2 : b < a
    all_goals
      go_enter Try.func126, Try.ntmps126
      go_wp2
      go_returns
      exact ⟨ret_int (by unfold clamp; omega), rfl⟩
  · by_cases h2 : b < n
    all_goals
      go_enter Try.func126, Try.ntmps126
      go_wp2
      go_returns
      exact ⟨ret_int (by unfold clamp; omega), rfl⟩

theorem shifts_calls (w : World) :
    Calls Try.prog 140 #[] w fun e w' => e = .returned (.agg #[.int .u64 1, .int .u64 24, .int .u64 21]) ∧ Below w.heap.size w w' := by
  go_enter Try.func140, Try.ntmps140
  go_wp2
  go_returns
  exact ⟨rfl, by go_grown⟩

theorem shift_at (k s : Int) (hs : (k = 0 ∧ s = 1) ∨ (k = 1 ∧ s = 24) ∨ (k = 2 ∧ s = 21)) (w : World) :
    (Instr.index 197 (.agg #[.int .u64 1, .int .u64 24, .int .u64 21]) (.int .i64 k)).run Try.prog w = .ok (.int .u64 s) w := by
  rcases hs with ⟨rfl, rfl⟩ | ⟨rfl, rfl⟩ | ⟨rfl, rfl⟩
  · kernel_rfl
  · kernel_rfl
  · kernel_rfl

/-- both: the upper part, shifted, and the lower one. -/
theorem both_calls (k s P : Int) (hs : (k = 0 ∧ s = 1 ∧ P = 2) ∨ (k = 1 ∧ s = 24 ∧ P = 16777216) ∨ (k = 2 ∧ s = 21 ∧ P = 2097152)) (h l : Int) (w : World) (h0 : 0 ≤ h) (h1 : h ≤ 1073741824) (l0 : 0 ≤ l) (l1 : l < P) :
    Calls Try.prog 125 #[.int .i64 k, .int .i64 h, .int .u32 l] w fun e w' => e = .returned (.int .i64 (h * P + l)) ∧ Below w.heap.size w w' := by
  have hi := shift_at k s (by rcases hs with ⟨a, b, _⟩ | ⟨a, b, _⟩ | ⟨a, b, _⟩ <;> simp [a, b])
  rcases hs with ⟨rfl, rfl, rfl⟩ | ⟨rfl, rfl, rfl⟩ | ⟨rfl, rfl, rfl⟩
  · go_enter Try.func125, Try.ntmps125
    go_wp2_with (go_at_call 140; refine (shifts_calls _).mono ?_; rintro e w' ⟨rfl, hg⟩)
    go_returns
    refine ⟨ret_int ?_, hg⟩
    rw [bits_or_shift 1 h l 2 (by decide) h0 l0 l1 (by omega)]
    unfold wrap64; omega
  · go_enter Try.func125, Try.ntmps125
    go_wp2_with (go_at_call 140; refine (shifts_calls _).mono ?_; rintro e w' ⟨rfl, hg⟩)
    go_returns
    refine ⟨ret_int ?_, hg⟩
    rw [bits_or_shift 24 h l 16777216 (by decide) h0 l0 l1 (by omega)]
    unfold wrap64; omega
  · go_enter Try.func125, Try.ntmps125
    go_wp2_with (go_at_call 140; refine (shifts_calls _).mono ?_; rintro e w' ⟨rfl, hg⟩)
    go_returns
    refine ⟨ret_int ?_, hg⟩
    rw [bits_or_shift 21 h l 2097152 (by decide) h0 l0 l1 (by omega)]
    unfold wrap64; omega

theorem wrap_u64 (x : Int) : IntKind.u64.wrap x = x % 18446744073709551616 := IntKind.wrap_u64 x

theorem low_calls (k s P : Int) (hs : (k = 0 ∧ s = 1 ∧ P = 2) ∨ (k = 1 ∧ s = 24 ∧ P = 16777216) ∨ (k = 2 ∧ s = 21 ∧ P = 2097152)) (x : Int) (w : World) :
    Calls Try.prog 120 #[.int .i64 k, .int .i64 x] w fun e w' => e = .returned (.int .i64 (x % P)) ∧ Below w.heap.size w w' := by
  have hi := shift_at k s (by rcases hs with ⟨a, b, _⟩ | ⟨a, b, _⟩ | ⟨a, b, _⟩ <;> simp [a, b])
  rcases hs with ⟨rfl, rfl, rfl⟩ | ⟨rfl, rfl, rfl⟩ | ⟨rfl, rfl, rfl⟩
  · go_enter Try.func120, Try.ntmps120
    go_wp2_with (go_at_call 140; refine (shifts_calls _).mono ?_; rintro e w' ⟨rfl, hg⟩)
    go_returns
    refine ⟨ret_int ?_, hg⟩
    rw [bits_and_low 1 (by decide) _ _ (by decide) (by rw [wrap_u64]; omega) (by rw [wrap_u64]; omega), wrap_u64]
    unfold wrap64; omega
  · go_enter Try.func120, Try.ntmps120
    go_wp2_with (go_at_call 140; refine (shifts_calls _).mono ?_; rintro e w' ⟨rfl, hg⟩)
    go_returns
    refine ⟨ret_int ?_, hg⟩
    rw [bits_and_low 24 (by decide) _ _ (by decide) (by rw [wrap_u64]; omega) (by rw [wrap_u64]; omega), wrap_u64]
    unfold wrap64; omega
  · go_enter Try.func120, Try.ntmps120
    go_wp2_with (go_at_call 140; refine (shifts_calls _).mono ?_; rintro e w' ⟨rfl, hg⟩)
    go_returns
    refine ⟨ret_int ?_, hg⟩
    rw [bits_and_low 21 (by decide) _ _ (by decide) (by rw [wrap_u64]; omega) (by rw [wrap_u64]; omega), wrap_u64]
    unfold wrap64; omega

theorem high_calls (k s P : Int) (hs : (k = 1 ∧ s = 24 ∧ P = 16777216) ∨ (k = 2 ∧ s = 21 ∧ P = 2097152)) (x : Int) (w : World) :
    Calls Try.prog 127 #[.int .i64 k, .int .i64 x] w fun e w' => e = .returned (.int .i64 (x % 18446744073709551616 / P)) ∧ Below w.heap.size w w' := by
  have hi := shift_at k s (by rcases hs with ⟨a, b, _⟩ | ⟨a, b, _⟩ <;> simp [a, b])
  rcases hs with ⟨rfl, rfl, rfl⟩ | ⟨rfl, rfl, rfl⟩
  · go_enter Try.func127, Try.ntmps127
    go_wp2_with (go_at_call 140; refine (shifts_calls _).mono ?_; rintro e w' ⟨rfl, hg⟩)
    go_returns
    refine ⟨ret_int ?_, hg⟩
    rw [wrap_u64]
    unfold wrap64; omega
  · go_enter Try.func127, Try.ntmps127
    go_wp2_with (go_at_call 140; refine (shifts_calls _).mono ?_; rintro e w' ⟨rfl, hg⟩)
    go_returns
    refine ⟨ret_int ?_, hg⟩
    rw [wrap_u64]
    unfold wrap64; omega

theorem at_calls (x : Int) (w : World) :
    Calls Try.prog 116 #[.int .i64 x] w fun e w' => e = .returned (.int .i64 (x / 2)) ∧ Below w.heap.size w w' := by
  have hi := shift_at 0 1 (by simp)
  go_enter Try.func116, Try.ntmps116
  go_wp2_with (go_at_call 140; refine (shifts_calls _).mono ?_; rintro e w' ⟨rfl, hg⟩)
  go_returns
  exact ⟨rfl, hg⟩

theorem version_calls (s : Int) (w : World) (hs : (Lit.int .i64 s).wf = true) :
    Calls Try.prog 118 #[.int .i64 s] w fun e w' => e = .returned (.int .i64 (versionF s)) ∧ w = w' := by
  have b := wf_i64_bounds hs
  by_cases h : s < 3
  · go_enter Try.func118, Try.ntmps118
    go_wp2
    go_returns
    exact ⟨ret_int (by unfold versionF; rw [if_pos h]), rfl⟩
  · go_enter Try.func118, Try.ntmps118
    go_wp2
    go_returns
    exact ⟨ret_int (by unfold versionF; rw [if_neg (by omega)]), rfl⟩

theorem claim_calls (s p : Int) (w : World) :
    Calls Try.prog 105 #[.int .i64 s, .int .i64 p] w fun e w' => e = .returned (.int .i64 (claimF s p)) ∧ Below w.heap.size w w' := by
  have c0 := @clamp_lo s 0 1073741824 (by decide)
  have c1 := @clamp_hi s 0 1073741824
  have d0 := @clamp_lo p 0 16777212 (by decide)
  have d1 := @clamp_hi p 0 16777212
  go_enter Try.func105, Try.ntmps105
  go_wp2_with (first | (go_at_call 126; refine (held_calls _ _ _ _).mono ?_; rintro e w' ⟨rfl, rfl⟩) | (go_at_call 125; refine (both_calls 1 24 16777216 (by simp) _ _ _ c0 c1 d0 (by omega)).mono ?_; rintro e w' ⟨rfl, hg⟩))
  go_returns
  exact ⟨rfl, hg⟩

theorem seq_calls (x : Int) (w : World) :
    Calls Try.prog 106 #[.int .i64 x] w fun e w' => e = .returned (.int .i64 (seqF x)) ∧ Below w.heap.size w w' := by
  go_enter Try.func106, Try.ntmps106
  go_wp2_with (go_at_call 127; refine (high_calls 1 24 16777216 (by simp) _ _).mono ?_; rintro e w' ⟨rfl, hg⟩)
  go_returns
  exact ⟨rfl, hg⟩

theorem part_calls (x : Int) (w : World) :
    Calls Try.prog 108 #[.int .i64 x] w fun e w' => e = .returned (.int .i64 (partF x)) ∧ Below w.heap.size w w' := by
  go_enter Try.func108, Try.ntmps108
  go_wp2_with (go_at_call 120; refine (low_calls 1 24 16777216 (by simp) _ _).mono ?_; rintro e w' ⟨rfl, hg⟩)
  go_returns
  exact ⟨rfl, hg⟩

theorem val_calls (x : Int) (w : World) :
    Calls Try.prog 91 #[.int .i64 x] w fun e w' => e = .returned (.int .i64 (valF x)) ∧ Below w.heap.size w w' := by
  go_enter Try.func91, Try.ntmps91
  go_wp2_with (go_at_call 120; refine (low_calls 2 21 2097152 (by simp) _ _).mono ?_; rintro e w' ⟨rfl, hg⟩)
  go_returns
  exact ⟨rfl, hg⟩

/-! ### The same, of an owned heap. -/
theorem at_mem (x : Int) {w0 w : World} {h : GH} (hm : Mem w0 h w) :
    Calls Try.prog 116 #[.int .i64 x] w fun e w' => e = .returned (.int .i64 (x / 2)) ∧ Mem w0 h w' :=
  (at_calls x w).mono fun _ _ ⟨he, hb⟩ => ⟨he, hm.grown hb⟩
theorem claim_mem (s p : Int) {w0 w : World} {h : GH} (hm : Mem w0 h w) :
    Calls Try.prog 105 #[.int .i64 s, .int .i64 p] w fun e w' => e = .returned (.int .i64 (claimF s p)) ∧ Mem w0 h w' :=
  (claim_calls s p w).mono fun _ _ ⟨he, hb⟩ => ⟨he, hm.grown hb⟩
theorem seq_mem (x : Int) {w0 w : World} {h : GH} (hm : Mem w0 h w) :
    Calls Try.prog 106 #[.int .i64 x] w fun e w' => e = .returned (.int .i64 (seqF x)) ∧ Mem w0 h w' :=
  (seq_calls x w).mono fun _ _ ⟨he, hb⟩ => ⟨he, hm.grown hb⟩
theorem part_mem (x : Int) {w0 w : World} {h : GH} (hm : Mem w0 h w) :
    Calls Try.prog 108 #[.int .i64 x] w fun e w' => e = .returned (.int .i64 (partF x)) ∧ Mem w0 h w' :=
  (part_calls x w).mono fun _ _ ⟨he, hb⟩ => ⟨he, hm.grown hb⟩
theorem val_mem (x : Int) {w0 w : World} {h : GH} (hm : Mem w0 h w) :
    Calls Try.prog 91 #[.int .i64 x] w fun e w' => e = .returned (.int .i64 (valF x)) ∧ Mem w0 h w' :=
  (val_calls x w).mono fun _ _ ⟨he, hb⟩ => ⟨he, hm.grown hb⟩

/-! ### Within the bounds, written out. -/
theorem nextF_in {x : Int} (h0 : 0 ≤ x) (h1 : x ≤ 1073741824) : nextF x false = x * 2 ∧ nextF x true = x * 2 + 1 := by
  unfold nextF; rw [clamp_in h0 h1]; constructor <;> simp
theorem stateF_in {v : Int} (h0 : 0 ≤ v) (h1 : v ≤ 16777212) : stateF v = v + 3 := by unfold stateF; rw [clamp_in h0 h1]
theorem claimF_in {s p : Int} (h0 : 0 ≤ s) (h1 : s ≤ 1073741824) (h2 : 0 ≤ p) (h3 : p ≤ 16777212) : claimF s p = s * 16777216 + p := by
  unfold claimF; rw [clamp_in h0 h1, clamp_in h2 h3]
theorem dataF_in {a v : Int} (h0 : 0 ≤ a) (h1 : a ≤ 1048576) (h2 : -1 ≤ v) (h3 : v ≤ 1048576) : dataF a v = a * 2097152 + (v + 1) := by
  unfold dataF; rw [clamp_in h0 h1, clamp_in h2 h3]
theorem seqF_in {x : Int} (h0 : 0 ≤ x) (h1 : x ≤ 9223372036854775807) : seqF x = x / 16777216 := by unfold seqF; omega
theorem writerF_in {x : Int} (h0 : 0 ≤ x) (h1 : x ≤ 9223372036854775807) : writerF x = x / 2097152 := by unfold writerF; omega

theorem version_in {x : Int} (h0 : 3 ≤ x) (h1 : x ≤ 9223372036854775807) (w : World) :
    Calls Try.prog 118 #[.int .i64 x] w fun e w' => e = .returned (.int .i64 (x - 3)) ∧ w = w' := by
  have := version_calls x w (wf_i64_of (by omega) h1); rwa [show versionF x = x - 3 from by unfold versionF; rw [if_neg (by omega)]] at this
theorem claim_in {s p : Int} (h0 : 0 ≤ s) (h1 : s ≤ 1073741824) (h2 : 0 ≤ p) (h3 : p ≤ 16777212) {w0 w : World} {h : GH} (hm : Mem w0 h w) :
    Calls Try.prog 105 #[.int .i64 s, .int .i64 p] w fun e w' => e = .returned (.int .i64 (s * 16777216 + p)) ∧ Mem w0 h w' := by
  have := claim_mem s p hm; rwa [claimF_in h0 h1 h2 h3] at this
theorem seq_in {x : Int} (h0 : 0 ≤ x) (h1 : x ≤ 9223372036854775807) {w0 w : World} {h : GH} (hm : Mem w0 h w) :
    Calls Try.prog 106 #[.int .i64 x] w fun e w' => e = .returned (.int .i64 (x / 16777216)) ∧ Mem w0 h w' := by
  have := seq_mem x hm; rwa [seqF_in h0 h1] at this
/-! ### What was put in comes back. -/
theorem at_of (p : Int) {x : Int} (hx : x = p * 2 ∨ x = p * 2 + 1) {w0 w : World} {h : GH} (hm : Mem w0 h w) :
    Calls Try.prog 116 #[.int .i64 x] w fun e w' => e = .returned (.int .i64 p) ∧ Mem w0 h w' := by
  have := at_mem x hm; rwa [show x / 2 = p from by omega] at this
theorem version_of (v : Int) {x : Int} (hx : x = v + 3) (h0 : 0 ≤ v) (h1 : v ≤ 1073741824) (w : World) :
    Calls Try.prog 118 #[.int .i64 x] w fun e w' => e = .returned (.int .i64 v) ∧ w = w' := by
  have := version_in (x := x) (by omega) (by omega) w; rwa [show x - 3 = v from by omega] at this
theorem seq_of (s p : Int) {x : Int} (hx : x = s * 16777216 + p) (h0 : 0 ≤ s) (h1 : s ≤ 1073741824) (h2 : 0 ≤ p) (h3 : p < 16777216) {w0 w : World} {h : GH} (hm : Mem w0 h w) :
    Calls Try.prog 106 #[.int .i64 x] w fun e w' => e = .returned (.int .i64 s) ∧ Mem w0 h w' := by
  have := seq_mem x hm; rwa [show seqF x = s from by unfold seqF; omega] at this
theorem part_of (s p : Int) {x : Int} (hx : x = s * 16777216 + p) (h2 : 0 ≤ p) (h3 : p < 16777216) {w0 w : World} {h : GH} (hm : Mem w0 h w) :
    Calls Try.prog 108 #[.int .i64 x] w fun e w' => e = .returned (.int .i64 p) ∧ Mem w0 h w' := by
  have := part_mem x hm; rwa [show partF x = p from by unfold partF; omega] at this
theorem val_of (a v : Int) {x : Int} (hx : x = a * 2097152 + (v + 1)) (h2 : -1 ≤ v) (h3 : v < 2097151) {w0 w : World} {h : GH} (hm : Mem w0 h w) :
    Calls Try.prog 91 #[.int .i64 x] w fun e w' => e = .returned (.int .i64 v) ∧ Mem w0 h w' := by
  have := val_mem x hm; rwa [show valF x = v from by unfold valF; omega] at this

end Go.Proofs.Ytdmodejpcfhbhaa
