/- ViewUnlike: the walk, where there are cells. -/
import Derived.Test.YtflhcknnjembjaaViewUnlikeN
namespace Go.Proofs.Ytflhcknnjembjaa
open Go.RowKit
variable {W : World}
namespace VU
abbrev O (lo nn : Nat) (z : Nat → Int) : Option (Bool × AObj Ext) := some (false, .ext (.old lo nn (intsC .i64 z lo)))
abbrev Xc (a b c d e f g h : Int) (sv : Value) : Option (Bool × AObj Ext) := some (true, AObj.cells [.int .i64 a, .int .i64 b, .int .i64 c, .int .i64 d, .int .i64 e, .int .i64 f, .int .i64 g, .int .i64 h, sv] 52)
abbrev zl (lo : Nat) (z : Nat → Int) (q : Nat) : Int := z (lo + q - lo)
abbrev Ro (len : Nat) (f : Nat → Int) : Option (Bool × AObj Ext) := some (true, .ext (.row 55 3 (0 + len) (.ints .i64 f)))
def J (s1 s2 : Value) (H0 : HX) (N k : Nat) (vs : List Value) (H : HX) : Prop :=
  ∃ j : Nat, k + j = N ∧ vs = [s2, .func (.func 75) ⟨[]⟩ ⟨[]⟩, s1, .int .i64 N, .int .i64 j] ∧ H = H0
/-- Rows that part at one word. -/
def J2 (s1 s2 : Value) (A B C D E : Option (Bool × AObj Ext)) (z : Nat → Int) (kk len k : Nat) (vs : List Value) (H : HX) : Prop :=
  ∃ (F : Nat → Int) (j : Nat), (∀ q, q ≠ kk * 3 + 2 → F q = z q) ∧ ¬ z (kk * 3 + 2) = F (kk * 3 + 2) ∧ j ≤ kk ∧ k + j = len ∧ vs = [s2, .func (.func 75) ⟨[]⟩ ⟨[]⟩, s1, .int .i64 len, .int .i64 j] ∧ H = [A, B, C, Ro len F, D, E]
end VU
attribute [local irreducible] SWP FWP OWP Ent
set_option maxRecDepth 100000 in
set_option maxHeartbeats 16000000 in
theorem viewUnlike_row (g : Nat → Int) (which n : Int) (cap lo nn len : Nat) (z : Nat → Int) (h0 : 0 ≤ which) (h1 : which ≤ 255) (hn0 : -9223372036854775808 ≤ n) (hn1 : n ≤ 9223372036854775807) (hg : ∀ i, i < 8 → -9223372036854775808 ≤ g i ∧ g i ≤ 9223372036854775807)
    (hzs : ∀ q, q < len * 3 → -9223372036854775808 ≤ z q ∧ z q ≤ 9223372036854775807) (hn : lo + len * 3 ≤ nn) (hp : 0 < len) :
    FWP Try.prog (means W) 7 [VU.xs g (.slice (some ⟨0, lo, none⟩) len cap), .int .u8 which, .int .i64 n] [some (false, .ext (.old lo nn (intsC .i64 z lo)))] fun a _ => a = .bool true := by
  have ne : ∀ x : Int, n ≠ 0 → -9223372036854775808 ≤ x → x ≤ 9223372036854775807 → ¬ x = IntKind.i64.wrap (x + n) := fun x hx h1 h2 => by rw [IntKind.wrap_i64]; omega
  by_cases hz : n = 0
  · subst hz
    refine fevD_fwp (envK_ok known6) (d := 40) ?_
    by_cases hb : (16 : Int) < (len : Int)
    all_goals
      repeat ((conv => whnf); first | (refine brT ?_ ?_; · (simp [*]; done)) | (refine brF ?_ ?_; · (simp [*]; done)))

      rfl
  have n0 := ne (g 0) hz (hg 0 (by decide)).1 (hg 0 (by decide)).2
  have n1 := ne (g 1) hz (hg 1 (by decide)).1 (hg 1 (by decide)).2
  have n2 := ne (g 2) hz (hg 2 (by decide)).1 (hg 2 (by decide)).2
  have n3 := ne (g 3) hz (hg 3 (by decide)).1 (hg 3 (by decide)).2
  have n4 := ne (g 4) hz (hg 4 (by decide)).1 (hg 4 (by decide)).2
  have n5 := ne (g 5) hz (hg 5 (by decide)).1 (hg 5 (by decide)).2
  have n6 := ne (g 6) hz (hg 6 (by decide)).1 (hg 6 (by decide)).2
  have n7 := ne (g 7) hz (hg 7 (by decide)).1 (hg 7 (by decide)).2
  have em : which.tmod 9 = 0 ∨ which.tmod 9 = 1 ∨ which.tmod 9 = 2 ∨ which.tmod 9 = 3 ∨ which.tmod 9 = 4 ∨ which.tmod 9 = 5 ∨ which.tmod 9 = 6 ∨ which.tmod 9 = 7 ∨ which.tmod 9 = 8 := by rw [tmodI h0]; omega
  by_cases hbig : 16 < len
  · have hb : (16 : Int) < (len : Int) := by omega
    refine fevD_fwp (envK_ok known6) (d := 40) ?_
    repeat ((conv => whnf); first | (refine brT ?_ ?_; · (simp [*]; done)) | (refine brF ?_ ?_; · (simp [*]; done)))

    rfl
  have hb : ¬ (16 : Int) < (len : Int) := by omega
  have z2 : 55 < Try.prog.types.size := Nat.le_of_ble_eq_true (by kernel_rfl)
  have z3 : (Try.prog.types[55]'z2).size = 3 := by kernel_rfl
  have ap : 0 + len ≤ 1000000 := by omega
  have e0 : ¬ len = 0 := by omega
  have t1 : decide (lo ≤ lo) = true := decide_eq_true (Nat.le_refl _)
  have t2 : (true && decide (0 < len ∧ lo + len * 3 ≤ nn ∧ 0 + len ≤ 1000000)) = true := by rw [Bool.true_and]; exact decide_eq_true ⟨hp, hn, ap⟩
  refine FWP.body (envK_ok known6) 40 Try.func7 rfl (by exact Nat.le_of_ble_eq_true rfl) ?_
  rcases em with em | em | em | em | em | em | em | em | em
  · repeat ((conv => whnf); first | (refine brT ?_ ?_; · (first | exact t1 | exact t2 | (simp [*]; done))) | (refine brF ?_ ?_; · (first | exact t1 | exact t2 | (simp [*]; done))))

    conv => whnf
    refine SWP.loopS Try.f76.ntmps [1, 2, 15, 16, 17] (VU.J (.slice (some ⟨3, 0, some 0⟩) (0 + len) 0) (.slice (some ⟨3, 0, some 0⟩) (0 + len) 0) [(VU.O lo nn z), (VU.Xc (g 0) (g 1) (g 2) (g 3) (g 4) (g 5) (g 6) (g 7) (.slice (some ⟨0, lo, none⟩) len cap)), (VU.Xc (IntKind.i64.wrap (g 0 + n)) (g 1) (g 2) (g 3) (g 4) (g 5) (g 6) (g 7) (.slice (some ⟨3, 0, some 0⟩) (0 + len) 0)), (VU.Ro len (VU.zl lo z)), (VU.Xc (IntKind.i64.wrap (g 0 + n)) (g 1) (g 2) (g 3) (g 4) (g 5) (g 6) (g 7) (.slice (some ⟨3, 0, some 0⟩) (0 + len) 0)), (VU.Xc (IntKind.i64.wrap (g 0 + n)) (g 1) (g 2) (g 3) (g 4) (g 5) (g 6) (g 7) (.slice (some ⟨3, 0, some 0⟩) (0 + len) 0))] (0 + len)) (N := 0 + len) [] rfl rfl rfl ⟨0, rfl, rfl, rfl⟩ ?_
    rintro k vs H ⟨j, hj, rfl, rfl⟩
    refine SWP.code (envK_ok known6) 40 200 ?_
    by_cases hl : j < 0 + len
    · have f1 : (j : Int) < ((0 + len : Nat) : Int) := by omega
      have f1b : j < len := by omega
      have f2 : IntKind.i64.wrap ((j : Int) + 1) = ((j + 1 : Nat) : Int) := by rw [wrapI (by omega) (by omega)]; rfl
      have f5 : decide ((0:Int) ≤ (j:Int) ∧ (j:Int) < ((0 + len : Nat):Int)) = true := decide_eq_true ⟨by omega, by omega⟩
      have f3 : decide (0 ≤ 0 + (j : Int).toNat * 3 ∧ 0 + (j : Int).toNat * 3 + 3 ≤ (0 + len) * 3) = true := decide_eq_true ⟨by omega, by omega⟩
      repeat ((conv => whnf); first | (refine brT ?_ ?_; · (first | exact f3 | (simp [*]; done))) | (refine brF ?_ ?_; · (first | exact f3 | (simp [*]; done))) | (rw [f5]))

      conv => whnf
      exact ⟨k - 1, by omega, [], rfl, rfl, _, rfl, j + 1, by omega, by rw [f2], rfl⟩
    have f1 : ¬ (j : Int) < ((0 + len : Nat) : Int) := by omega
    have f1b : ¬ j < len := by omega
    clear hl hj
    repeat ((conv => whnf); first | (refine brT ?_ ?_; · (first | exact t1 | (simp [*]; done))) | (refine brF ?_ ?_; · (first | exact t1 | (simp [*]; done))))

    conv => whnf
    clear f1 f1b
    refine SWP.loopS Try.f76.ntmps [1, 2, 15, 16, 17] (VU.J (.slice (some ⟨0, lo, none⟩) len cap) (.slice (some ⟨0, lo, none⟩) len cap) [(VU.O lo nn z), (VU.Xc (g 0) (g 1) (g 2) (g 3) (g 4) (g 5) (g 6) (g 7) (.slice (some ⟨0, lo, none⟩) len cap)), (VU.Xc (IntKind.i64.wrap (g 0 + n)) (g 1) (g 2) (g 3) (g 4) (g 5) (g 6) (g 7) (.slice (some ⟨3, 0, some 0⟩) (0 + len) 0)), (VU.Ro len (VU.zl lo z)), (VU.Xc (g 0) (g 1) (g 2) (g 3) (g 4) (g 5) (g 6) (g 7) (.slice (some ⟨0, lo, none⟩) len cap)), (VU.Xc (g 0) (g 1) (g 2) (g 3) (g 4) (g 5) (g 6) (g 7) (.slice (some ⟨0, lo, none⟩) len cap))] (len)) (N := len) [] rfl rfl rfl ⟨0, rfl, rfl, rfl⟩ ?_
    rintro k vs H ⟨j, hj, rfl, rfl⟩
    refine SWP.code (envK_ok known6) 40 200 ?_
    by_cases hl : j < len
    · have f1 : (j : Int) < ((len : Nat) : Int) := by omega
      have f1b : j < len := by omega
      have f2 : IntKind.i64.wrap ((j : Int) + 1) = ((j + 1 : Nat) : Int) := by rw [wrapI (by omega) (by omega)]; rfl
      have f5 : decide ((0:Int) ≤ (j:Int) ∧ (j:Int) < ((len : Nat):Int)) = true := decide_eq_true ⟨by omega, by omega⟩
      have f3 : decide (lo ≤ lo + (j : Int).toNat * 3 ∧ lo + (j : Int).toNat * 3 + 3 ≤ nn) = true := decide_eq_true ⟨by omega, by omega⟩
      repeat ((conv => whnf); first | (refine brT ?_ ?_; · (first | exact f3 | (simp [*]; done))) | (refine brF ?_ ?_; · (first | exact f3 | (simp [*]; done))) | (rw [f5]))

      conv => whnf
      exact ⟨k - 1, by omega, [], rfl, rfl, _, rfl, j + 1, by omega, by rw [f2], rfl⟩
    have f1 : ¬ (j : Int) < ((len : Nat) : Int) := by omega
    have f1b : ¬ j < len := by omega
    clear hl hj
    repeat ((conv => whnf); first | (refine brT ?_ ?_; · (simp [*]; done)) | (refine brF ?_ ?_; · (simp [*]; done)))

    rfl
  · repeat ((conv => whnf); first | (refine brT ?_ ?_; · (first | exact t1 | exact t2 | (simp [*]; done))) | (refine brF ?_ ?_; · (first | exact t1 | exact t2 | (simp [*]; done))))

    conv => whnf
    refine SWP.loopS Try.f76.ntmps [1, 2, 15, 16, 17] (VU.J (.slice (some ⟨3, 0, some 0⟩) (0 + len) 0) (.slice (some ⟨3, 0, some 0⟩) (0 + len) 0) [(VU.O lo nn z), (VU.Xc (g 0) (g 1) (g 2) (g 3) (g 4) (g 5) (g 6) (g 7) (.slice (some ⟨0, lo, none⟩) len cap)), (VU.Xc (g 0) (IntKind.i64.wrap (g 1 + n)) (g 2) (g 3) (g 4) (g 5) (g 6) (g 7) (.slice (some ⟨3, 0, some 0⟩) (0 + len) 0)), (VU.Ro len (VU.zl lo z)), (VU.Xc (g 0) (IntKind.i64.wrap (g 1 + n)) (g 2) (g 3) (g 4) (g 5) (g 6) (g 7) (.slice (some ⟨3, 0, some 0⟩) (0 + len) 0)), (VU.Xc (g 0) (IntKind.i64.wrap (g 1 + n)) (g 2) (g 3) (g 4) (g 5) (g 6) (g 7) (.slice (some ⟨3, 0, some 0⟩) (0 + len) 0))] (0 + len)) (N := 0 + len) [] rfl rfl rfl ⟨0, rfl, rfl, rfl⟩ ?_
    rintro k vs H ⟨j, hj, rfl, rfl⟩
    refine SWP.code (envK_ok known6) 40 200 ?_
    by_cases hl : j < 0 + len
    · have f1 : (j : Int) < ((0 + len : Nat) : Int) := by omega
      have f1b : j < len := by omega
      have f2 : IntKind.i64.wrap ((j : Int) + 1) = ((j + 1 : Nat) : Int) := by rw [wrapI (by omega) (by omega)]; rfl
      have f5 : decide ((0:Int) ≤ (j:Int) ∧ (j:Int) < ((0 + len : Nat):Int)) = true := decide_eq_true ⟨by omega, by omega⟩
      have f3 : decide (0 ≤ 0 + (j : Int).toNat * 3 ∧ 0 + (j : Int).toNat * 3 + 3 ≤ (0 + len) * 3) = true := decide_eq_true ⟨by omega, by omega⟩
      repeat ((conv => whnf); first | (refine brT ?_ ?_; · (first | exact f3 | (simp [*]; done))) | (refine brF ?_ ?_; · (first | exact f3 | (simp [*]; done))) | (rw [f5]))

      conv => whnf
      exact ⟨k - 1, by omega, [], rfl, rfl, _, rfl, j + 1, by omega, by rw [f2], rfl⟩
    have f1 : ¬ (j : Int) < ((0 + len : Nat) : Int) := by omega
    have f1b : ¬ j < len := by omega
    clear hl hj
    repeat ((conv => whnf); first | (refine brT ?_ ?_; · (first | exact t1 | (simp [*]; done))) | (refine brF ?_ ?_; · (first | exact t1 | (simp [*]; done))))

    conv => whnf
    clear f1 f1b
    refine SWP.loopS Try.f76.ntmps [1, 2, 15, 16, 17] (VU.J (.slice (some ⟨0, lo, none⟩) len cap) (.slice (some ⟨0, lo, none⟩) len cap) [(VU.O lo nn z), (VU.Xc (g 0) (g 1) (g 2) (g 3) (g 4) (g 5) (g 6) (g 7) (.slice (some ⟨0, lo, none⟩) len cap)), (VU.Xc (g 0) (IntKind.i64.wrap (g 1 + n)) (g 2) (g 3) (g 4) (g 5) (g 6) (g 7) (.slice (some ⟨3, 0, some 0⟩) (0 + len) 0)), (VU.Ro len (VU.zl lo z)), (VU.Xc (g 0) (g 1) (g 2) (g 3) (g 4) (g 5) (g 6) (g 7) (.slice (some ⟨0, lo, none⟩) len cap)), (VU.Xc (g 0) (g 1) (g 2) (g 3) (g 4) (g 5) (g 6) (g 7) (.slice (some ⟨0, lo, none⟩) len cap))] (len)) (N := len) [] rfl rfl rfl ⟨0, rfl, rfl, rfl⟩ ?_
    rintro k vs H ⟨j, hj, rfl, rfl⟩
    refine SWP.code (envK_ok known6) 40 200 ?_
    by_cases hl : j < len
    · have f1 : (j : Int) < ((len : Nat) : Int) := by omega
      have f1b : j < len := by omega
      have f2 : IntKind.i64.wrap ((j : Int) + 1) = ((j + 1 : Nat) : Int) := by rw [wrapI (by omega) (by omega)]; rfl
      have f5 : decide ((0:Int) ≤ (j:Int) ∧ (j:Int) < ((len : Nat):Int)) = true := decide_eq_true ⟨by omega, by omega⟩
      have f3 : decide (lo ≤ lo + (j : Int).toNat * 3 ∧ lo + (j : Int).toNat * 3 + 3 ≤ nn) = true := decide_eq_true ⟨by omega, by omega⟩
      repeat ((conv => whnf); first | (refine brT ?_ ?_; · (first | exact f3 | (simp [*]; done))) | (refine brF ?_ ?_; · (first | exact f3 | (simp [*]; done))) | (rw [f5]))

      conv => whnf
      exact ⟨k - 1, by omega, [], rfl, rfl, _, rfl, j + 1, by omega, by rw [f2], rfl⟩
    have f1 : ¬ (j : Int) < ((len : Nat) : Int) := by omega
    have f1b : ¬ j < len := by omega
    clear hl hj
    repeat ((conv => whnf); first | (refine brT ?_ ?_; · (simp [*]; done)) | (refine brF ?_ ?_; · (simp [*]; done)))

    rfl
  · repeat ((conv => whnf); first | (refine brT ?_ ?_; · (first | exact t1 | exact t2 | (simp [*]; done))) | (refine brF ?_ ?_; · (first | exact t1 | exact t2 | (simp [*]; done))))

    conv => whnf
    refine SWP.loopS Try.f76.ntmps [1, 2, 15, 16, 17] (VU.J (.slice (some ⟨3, 0, some 0⟩) (0 + len) 0) (.slice (some ⟨3, 0, some 0⟩) (0 + len) 0) [(VU.O lo nn z), (VU.Xc (g 0) (g 1) (g 2) (g 3) (g 4) (g 5) (g 6) (g 7) (.slice (some ⟨0, lo, none⟩) len cap)), (VU.Xc (g 0) (g 1) (IntKind.i64.wrap (g 2 + n)) (g 3) (g 4) (g 5) (g 6) (g 7) (.slice (some ⟨3, 0, some 0⟩) (0 + len) 0)), (VU.Ro len (VU.zl lo z)), (VU.Xc (g 0) (g 1) (IntKind.i64.wrap (g 2 + n)) (g 3) (g 4) (g 5) (g 6) (g 7) (.slice (some ⟨3, 0, some 0⟩) (0 + len) 0)), (VU.Xc (g 0) (g 1) (IntKind.i64.wrap (g 2 + n)) (g 3) (g 4) (g 5) (g 6) (g 7) (.slice (some ⟨3, 0, some 0⟩) (0 + len) 0))] (0 + len)) (N := 0 + len) [] rfl rfl rfl ⟨0, rfl, rfl, rfl⟩ ?_
    rintro k vs H ⟨j, hj, rfl, rfl⟩
    refine SWP.code (envK_ok known6) 40 200 ?_
    by_cases hl : j < 0 + len
    · have f1 : (j : Int) < ((0 + len : Nat) : Int) := by omega
      have f1b : j < len := by omega
      have f2 : IntKind.i64.wrap ((j : Int) + 1) = ((j + 1 : Nat) : Int) := by rw [wrapI (by omega) (by omega)]; rfl
      have f5 : decide ((0:Int) ≤ (j:Int) ∧ (j:Int) < ((0 + len : Nat):Int)) = true := decide_eq_true ⟨by omega, by omega⟩
      have f3 : decide (0 ≤ 0 + (j : Int).toNat * 3 ∧ 0 + (j : Int).toNat * 3 + 3 ≤ (0 + len) * 3) = true := decide_eq_true ⟨by omega, by omega⟩
      repeat ((conv => whnf); first | (refine brT ?_ ?_; · (first | exact f3 | (simp [*]; done))) | (refine brF ?_ ?_; · (first | exact f3 | (simp [*]; done))) | (rw [f5]))

      conv => whnf
      exact ⟨k - 1, by omega, [], rfl, rfl, _, rfl, j + 1, by omega, by rw [f2], rfl⟩
    have f1 : ¬ (j : Int) < ((0 + len : Nat) : Int) := by omega
    have f1b : ¬ j < len := by omega
    clear hl hj
    repeat ((conv => whnf); first | (refine brT ?_ ?_; · (first | exact t1 | (simp [*]; done))) | (refine brF ?_ ?_; · (first | exact t1 | (simp [*]; done))))

    conv => whnf
    clear f1 f1b
    refine SWP.loopS Try.f76.ntmps [1, 2, 15, 16, 17] (VU.J (.slice (some ⟨0, lo, none⟩) len cap) (.slice (some ⟨0, lo, none⟩) len cap) [(VU.O lo nn z), (VU.Xc (g 0) (g 1) (g 2) (g 3) (g 4) (g 5) (g 6) (g 7) (.slice (some ⟨0, lo, none⟩) len cap)), (VU.Xc (g 0) (g 1) (IntKind.i64.wrap (g 2 + n)) (g 3) (g 4) (g 5) (g 6) (g 7) (.slice (some ⟨3, 0, some 0⟩) (0 + len) 0)), (VU.Ro len (VU.zl lo z)), (VU.Xc (g 0) (g 1) (g 2) (g 3) (g 4) (g 5) (g 6) (g 7) (.slice (some ⟨0, lo, none⟩) len cap)), (VU.Xc (g 0) (g 1) (g 2) (g 3) (g 4) (g 5) (g 6) (g 7) (.slice (some ⟨0, lo, none⟩) len cap))] (len)) (N := len) [] rfl rfl rfl ⟨0, rfl, rfl, rfl⟩ ?_
    rintro k vs H ⟨j, hj, rfl, rfl⟩
    refine SWP.code (envK_ok known6) 40 200 ?_
    by_cases hl : j < len
    · have f1 : (j : Int) < ((len : Nat) : Int) := by omega
      have f1b : j < len := by omega
      have f2 : IntKind.i64.wrap ((j : Int) + 1) = ((j + 1 : Nat) : Int) := by rw [wrapI (by omega) (by omega)]; rfl
      have f5 : decide ((0:Int) ≤ (j:Int) ∧ (j:Int) < ((len : Nat):Int)) = true := decide_eq_true ⟨by omega, by omega⟩
      have f3 : decide (lo ≤ lo + (j : Int).toNat * 3 ∧ lo + (j : Int).toNat * 3 + 3 ≤ nn) = true := decide_eq_true ⟨by omega, by omega⟩
      repeat ((conv => whnf); first | (refine brT ?_ ?_; · (first | exact f3 | (simp [*]; done))) | (refine brF ?_ ?_; · (first | exact f3 | (simp [*]; done))) | (rw [f5]))

      conv => whnf
      exact ⟨k - 1, by omega, [], rfl, rfl, _, rfl, j + 1, by omega, by rw [f2], rfl⟩
    have f1 : ¬ (j : Int) < ((len : Nat) : Int) := by omega
    have f1b : ¬ j < len := by omega
    clear hl hj
    repeat ((conv => whnf); first | (refine brT ?_ ?_; · (simp [*]; done)) | (refine brF ?_ ?_; · (simp [*]; done)))

    rfl
  · repeat ((conv => whnf); first | (refine brT ?_ ?_; · (first | exact t1 | exact t2 | (simp [*]; done))) | (refine brF ?_ ?_; · (first | exact t1 | exact t2 | (simp [*]; done))))

    conv => whnf
    refine SWP.loopS Try.f76.ntmps [1, 2, 15, 16, 17] (VU.J (.slice (some ⟨3, 0, some 0⟩) (0 + len) 0) (.slice (some ⟨3, 0, some 0⟩) (0 + len) 0) [(VU.O lo nn z), (VU.Xc (g 0) (g 1) (g 2) (g 3) (g 4) (g 5) (g 6) (g 7) (.slice (some ⟨0, lo, none⟩) len cap)), (VU.Xc (g 0) (g 1) (g 2) (IntKind.i64.wrap (g 3 + n)) (g 4) (g 5) (g 6) (g 7) (.slice (some ⟨3, 0, some 0⟩) (0 + len) 0)), (VU.Ro len (VU.zl lo z)), (VU.Xc (g 0) (g 1) (g 2) (IntKind.i64.wrap (g 3 + n)) (g 4) (g 5) (g 6) (g 7) (.slice (some ⟨3, 0, some 0⟩) (0 + len) 0)), (VU.Xc (g 0) (g 1) (g 2) (IntKind.i64.wrap (g 3 + n)) (g 4) (g 5) (g 6) (g 7) (.slice (some ⟨3, 0, some 0⟩) (0 + len) 0))] (0 + len)) (N := 0 + len) [] rfl rfl rfl ⟨0, rfl, rfl, rfl⟩ ?_
    rintro k vs H ⟨j, hj, rfl, rfl⟩
    refine SWP.code (envK_ok known6) 40 200 ?_
    by_cases hl : j < 0 + len
    · have f1 : (j : Int) < ((0 + len : Nat) : Int) := by omega
      have f1b : j < len := by omega
      have f2 : IntKind.i64.wrap ((j : Int) + 1) = ((j + 1 : Nat) : Int) := by rw [wrapI (by omega) (by omega)]; rfl
      have f5 : decide ((0:Int) ≤ (j:Int) ∧ (j:Int) < ((0 + len : Nat):Int)) = true := decide_eq_true ⟨by omega, by omega⟩
      have f3 : decide (0 ≤ 0 + (j : Int).toNat * 3 ∧ 0 + (j : Int).toNat * 3 + 3 ≤ (0 + len) * 3) = true := decide_eq_true ⟨by omega, by omega⟩
      repeat ((conv => whnf); first | (refine brT ?_ ?_; · (first | exact f3 | (simp [*]; done))) | (refine brF ?_ ?_; · (first | exact f3 | (simp [*]; done))) | (rw [f5]))

      conv => whnf
      exact ⟨k - 1, by omega, [], rfl, rfl, _, rfl, j + 1, by omega, by rw [f2], rfl⟩
    have f1 : ¬ (j : Int) < ((0 + len : Nat) : Int) := by omega
    have f1b : ¬ j < len := by omega
    clear hl hj
    repeat ((conv => whnf); first | (refine brT ?_ ?_; · (first | exact t1 | (simp [*]; done))) | (refine brF ?_ ?_; · (first | exact t1 | (simp [*]; done))))

    conv => whnf
    clear f1 f1b
    refine SWP.loopS Try.f76.ntmps [1, 2, 15, 16, 17] (VU.J (.slice (some ⟨0, lo, none⟩) len cap) (.slice (some ⟨0, lo, none⟩) len cap) [(VU.O lo nn z), (VU.Xc (g 0) (g 1) (g 2) (g 3) (g 4) (g 5) (g 6) (g 7) (.slice (some ⟨0, lo, none⟩) len cap)), (VU.Xc (g 0) (g 1) (g 2) (IntKind.i64.wrap (g 3 + n)) (g 4) (g 5) (g 6) (g 7) (.slice (some ⟨3, 0, some 0⟩) (0 + len) 0)), (VU.Ro len (VU.zl lo z)), (VU.Xc (g 0) (g 1) (g 2) (g 3) (g 4) (g 5) (g 6) (g 7) (.slice (some ⟨0, lo, none⟩) len cap)), (VU.Xc (g 0) (g 1) (g 2) (g 3) (g 4) (g 5) (g 6) (g 7) (.slice (some ⟨0, lo, none⟩) len cap))] (len)) (N := len) [] rfl rfl rfl ⟨0, rfl, rfl, rfl⟩ ?_
    rintro k vs H ⟨j, hj, rfl, rfl⟩
    refine SWP.code (envK_ok known6) 40 200 ?_
    by_cases hl : j < len
    · have f1 : (j : Int) < ((len : Nat) : Int) := by omega
      have f1b : j < len := by omega
      have f2 : IntKind.i64.wrap ((j : Int) + 1) = ((j + 1 : Nat) : Int) := by rw [wrapI (by omega) (by omega)]; rfl
      have f5 : decide ((0:Int) ≤ (j:Int) ∧ (j:Int) < ((len : Nat):Int)) = true := decide_eq_true ⟨by omega, by omega⟩
      have f3 : decide (lo ≤ lo + (j : Int).toNat * 3 ∧ lo + (j : Int).toNat * 3 + 3 ≤ nn) = true := decide_eq_true ⟨by omega, by omega⟩
      repeat ((conv => whnf); first | (refine brT ?_ ?_; · (first | exact f3 | (simp [*]; done))) | (refine brF ?_ ?_; · (first | exact f3 | (simp [*]; done))) | (rw [f5]))

      conv => whnf
      exact ⟨k - 1, by omega, [], rfl, rfl, _, rfl, j + 1, by omega, by rw [f2], rfl⟩
    have f1 : ¬ (j : Int) < ((len : Nat) : Int) := by omega
    have f1b : ¬ j < len := by omega
    clear hl hj
    repeat ((conv => whnf); first | (refine brT ?_ ?_; · (simp [*]; done)) | (refine brF ?_ ?_; · (simp [*]; done)))

    rfl
  · repeat ((conv => whnf); first | (refine brT ?_ ?_; · (first | exact t1 | exact t2 | (simp [*]; done))) | (refine brF ?_ ?_; · (first | exact t1 | exact t2 | (simp [*]; done))))

    conv => whnf
    refine SWP.loopS Try.f76.ntmps [1, 2, 15, 16, 17] (VU.J (.slice (some ⟨3, 0, some 0⟩) (0 + len) 0) (.slice (some ⟨3, 0, some 0⟩) (0 + len) 0) [(VU.O lo nn z), (VU.Xc (g 0) (g 1) (g 2) (g 3) (g 4) (g 5) (g 6) (g 7) (.slice (some ⟨0, lo, none⟩) len cap)), (VU.Xc (g 0) (g 1) (g 2) (g 3) (IntKind.i64.wrap (g 4 + n)) (g 5) (g 6) (g 7) (.slice (some ⟨3, 0, some 0⟩) (0 + len) 0)), (VU.Ro len (VU.zl lo z)), (VU.Xc (g 0) (g 1) (g 2) (g 3) (IntKind.i64.wrap (g 4 + n)) (g 5) (g 6) (g 7) (.slice (some ⟨3, 0, some 0⟩) (0 + len) 0)), (VU.Xc (g 0) (g 1) (g 2) (g 3) (IntKind.i64.wrap (g 4 + n)) (g 5) (g 6) (g 7) (.slice (some ⟨3, 0, some 0⟩) (0 + len) 0))] (0 + len)) (N := 0 + len) [] rfl rfl rfl ⟨0, rfl, rfl, rfl⟩ ?_
    rintro k vs H ⟨j, hj, rfl, rfl⟩
    refine SWP.code (envK_ok known6) 40 200 ?_
    by_cases hl : j < 0 + len
    · have f1 : (j : Int) < ((0 + len : Nat) : Int) := by omega
      have f1b : j < len := by omega
      have f2 : IntKind.i64.wrap ((j : Int) + 1) = ((j + 1 : Nat) : Int) := by rw [wrapI (by omega) (by omega)]; rfl
      have f5 : decide ((0:Int) ≤ (j:Int) ∧ (j:Int) < ((0 + len : Nat):Int)) = true := decide_eq_true ⟨by omega, by omega⟩
      have f3 : decide (0 ≤ 0 + (j : Int).toNat * 3 ∧ 0 + (j : Int).toNat * 3 + 3 ≤ (0 + len) * 3) = true := decide_eq_true ⟨by omega, by omega⟩
      repeat ((conv => whnf); first | (refine brT ?_ ?_; · (first | exact f3 | (simp [*]; done))) | (refine brF ?_ ?_; · (first | exact f3 | (simp [*]; done))) | (rw [f5]))

      conv => whnf
      exact ⟨k - 1, by omega, [], rfl, rfl, _, rfl, j + 1, by omega, by rw [f2], rfl⟩
    have f1 : ¬ (j : Int) < ((0 + len : Nat) : Int) := by omega
    have f1b : ¬ j < len := by omega
    clear hl hj
    repeat ((conv => whnf); first | (refine brT ?_ ?_; · (first | exact t1 | (simp [*]; done))) | (refine brF ?_ ?_; · (first | exact t1 | (simp [*]; done))))

    conv => whnf
    clear f1 f1b
    refine SWP.loopS Try.f76.ntmps [1, 2, 15, 16, 17] (VU.J (.slice (some ⟨0, lo, none⟩) len cap) (.slice (some ⟨0, lo, none⟩) len cap) [(VU.O lo nn z), (VU.Xc (g 0) (g 1) (g 2) (g 3) (g 4) (g 5) (g 6) (g 7) (.slice (some ⟨0, lo, none⟩) len cap)), (VU.Xc (g 0) (g 1) (g 2) (g 3) (IntKind.i64.wrap (g 4 + n)) (g 5) (g 6) (g 7) (.slice (some ⟨3, 0, some 0⟩) (0 + len) 0)), (VU.Ro len (VU.zl lo z)), (VU.Xc (g 0) (g 1) (g 2) (g 3) (g 4) (g 5) (g 6) (g 7) (.slice (some ⟨0, lo, none⟩) len cap)), (VU.Xc (g 0) (g 1) (g 2) (g 3) (g 4) (g 5) (g 6) (g 7) (.slice (some ⟨0, lo, none⟩) len cap))] (len)) (N := len) [] rfl rfl rfl ⟨0, rfl, rfl, rfl⟩ ?_
    rintro k vs H ⟨j, hj, rfl, rfl⟩
    refine SWP.code (envK_ok known6) 40 200 ?_
    by_cases hl : j < len
    · have f1 : (j : Int) < ((len : Nat) : Int) := by omega
      have f1b : j < len := by omega
      have f2 : IntKind.i64.wrap ((j : Int) + 1) = ((j + 1 : Nat) : Int) := by rw [wrapI (by omega) (by omega)]; rfl
      have f5 : decide ((0:Int) ≤ (j:Int) ∧ (j:Int) < ((len : Nat):Int)) = true := decide_eq_true ⟨by omega, by omega⟩
      have f3 : decide (lo ≤ lo + (j : Int).toNat * 3 ∧ lo + (j : Int).toNat * 3 + 3 ≤ nn) = true := decide_eq_true ⟨by omega, by omega⟩
      repeat ((conv => whnf); first | (refine brT ?_ ?_; · (first | exact f3 | (simp [*]; done))) | (refine brF ?_ ?_; · (first | exact f3 | (simp [*]; done))) | (rw [f5]))

      conv => whnf
      exact ⟨k - 1, by omega, [], rfl, rfl, _, rfl, j + 1, by omega, by rw [f2], rfl⟩
    have f1 : ¬ (j : Int) < ((len : Nat) : Int) := by omega
    have f1b : ¬ j < len := by omega
    clear hl hj
    repeat ((conv => whnf); first | (refine brT ?_ ?_; · (simp [*]; done)) | (refine brF ?_ ?_; · (simp [*]; done)))

    rfl
  · repeat ((conv => whnf); first | (refine brT ?_ ?_; · (first | exact t1 | exact t2 | (simp [*]; done))) | (refine brF ?_ ?_; · (first | exact t1 | exact t2 | (simp [*]; done))))

    conv => whnf
    refine SWP.loopS Try.f76.ntmps [1, 2, 15, 16, 17] (VU.J (.slice (some ⟨3, 0, some 0⟩) (0 + len) 0) (.slice (some ⟨3, 0, some 0⟩) (0 + len) 0) [(VU.O lo nn z), (VU.Xc (g 0) (g 1) (g 2) (g 3) (g 4) (g 5) (g 6) (g 7) (.slice (some ⟨0, lo, none⟩) len cap)), (VU.Xc (g 0) (g 1) (g 2) (g 3) (g 4) (IntKind.i64.wrap (g 5 + n)) (g 6) (g 7) (.slice (some ⟨3, 0, some 0⟩) (0 + len) 0)), (VU.Ro len (VU.zl lo z)), (VU.Xc (g 0) (g 1) (g 2) (g 3) (g 4) (IntKind.i64.wrap (g 5 + n)) (g 6) (g 7) (.slice (some ⟨3, 0, some 0⟩) (0 + len) 0)), (VU.Xc (g 0) (g 1) (g 2) (g 3) (g 4) (IntKind.i64.wrap (g 5 + n)) (g 6) (g 7) (.slice (some ⟨3, 0, some 0⟩) (0 + len) 0))] (0 + len)) (N := 0 + len) [] rfl rfl rfl ⟨0, rfl, rfl, rfl⟩ ?_
    rintro k vs H ⟨j, hj, rfl, rfl⟩
    refine SWP.code (envK_ok known6) 40 200 ?_
    by_cases hl : j < 0 + len
    · have f1 : (j : Int) < ((0 + len : Nat) : Int) := by omega
      have f1b : j < len := by omega
      have f2 : IntKind.i64.wrap ((j : Int) + 1) = ((j + 1 : Nat) : Int) := by rw [wrapI (by omega) (by omega)]; rfl
      have f5 : decide ((0:Int) ≤ (j:Int) ∧ (j:Int) < ((0 + len : Nat):Int)) = true := decide_eq_true ⟨by omega, by omega⟩
      have f3 : decide (0 ≤ 0 + (j : Int).toNat * 3 ∧ 0 + (j : Int).toNat * 3 + 3 ≤ (0 + len) * 3) = true := decide_eq_true ⟨by omega, by omega⟩
      repeat ((conv => whnf); first | (refine brT ?_ ?_; · (first | exact f3 | (simp [*]; done))) | (refine brF ?_ ?_; · (first | exact f3 | (simp [*]; done))) | (rw [f5]))

      conv => whnf
      exact ⟨k - 1, by omega, [], rfl, rfl, _, rfl, j + 1, by omega, by rw [f2], rfl⟩
    have f1 : ¬ (j : Int) < ((0 + len : Nat) : Int) := by omega
    have f1b : ¬ j < len := by omega
    clear hl hj
    repeat ((conv => whnf); first | (refine brT ?_ ?_; · (first | exact t1 | (simp [*]; done))) | (refine brF ?_ ?_; · (first | exact t1 | (simp [*]; done))))

    conv => whnf
    clear f1 f1b
    refine SWP.loopS Try.f76.ntmps [1, 2, 15, 16, 17] (VU.J (.slice (some ⟨0, lo, none⟩) len cap) (.slice (some ⟨0, lo, none⟩) len cap) [(VU.O lo nn z), (VU.Xc (g 0) (g 1) (g 2) (g 3) (g 4) (g 5) (g 6) (g 7) (.slice (some ⟨0, lo, none⟩) len cap)), (VU.Xc (g 0) (g 1) (g 2) (g 3) (g 4) (IntKind.i64.wrap (g 5 + n)) (g 6) (g 7) (.slice (some ⟨3, 0, some 0⟩) (0 + len) 0)), (VU.Ro len (VU.zl lo z)), (VU.Xc (g 0) (g 1) (g 2) (g 3) (g 4) (g 5) (g 6) (g 7) (.slice (some ⟨0, lo, none⟩) len cap)), (VU.Xc (g 0) (g 1) (g 2) (g 3) (g 4) (g 5) (g 6) (g 7) (.slice (some ⟨0, lo, none⟩) len cap))] (len)) (N := len) [] rfl rfl rfl ⟨0, rfl, rfl, rfl⟩ ?_
    rintro k vs H ⟨j, hj, rfl, rfl⟩
    refine SWP.code (envK_ok known6) 40 200 ?_
    by_cases hl : j < len
    · have f1 : (j : Int) < ((len : Nat) : Int) := by omega
      have f1b : j < len := by omega
      have f2 : IntKind.i64.wrap ((j : Int) + 1) = ((j + 1 : Nat) : Int) := by rw [wrapI (by omega) (by omega)]; rfl
      have f5 : decide ((0:Int) ≤ (j:Int) ∧ (j:Int) < ((len : Nat):Int)) = true := decide_eq_true ⟨by omega, by omega⟩
      have f3 : decide (lo ≤ lo + (j : Int).toNat * 3 ∧ lo + (j : Int).toNat * 3 + 3 ≤ nn) = true := decide_eq_true ⟨by omega, by omega⟩
      repeat ((conv => whnf); first | (refine brT ?_ ?_; · (first | exact f3 | (simp [*]; done))) | (refine brF ?_ ?_; · (first | exact f3 | (simp [*]; done))) | (rw [f5]))

      conv => whnf
      exact ⟨k - 1, by omega, [], rfl, rfl, _, rfl, j + 1, by omega, by rw [f2], rfl⟩
    have f1 : ¬ (j : Int) < ((len : Nat) : Int) := by omega
    have f1b : ¬ j < len := by omega
    clear hl hj
    repeat ((conv => whnf); first | (refine brT ?_ ?_; · (simp [*]; done)) | (refine brF ?_ ?_; · (simp [*]; done)))

    rfl
  · repeat ((conv => whnf); first | (refine brT ?_ ?_; · (first | exact t1 | exact t2 | (simp [*]; done))) | (refine brF ?_ ?_; · (first | exact t1 | exact t2 | (simp [*]; done))))

    conv => whnf
    refine SWP.loopS Try.f76.ntmps [1, 2, 15, 16, 17] (VU.J (.slice (some ⟨3, 0, some 0⟩) (0 + len) 0) (.slice (some ⟨3, 0, some 0⟩) (0 + len) 0) [(VU.O lo nn z), (VU.Xc (g 0) (g 1) (g 2) (g 3) (g 4) (g 5) (g 6) (g 7) (.slice (some ⟨0, lo, none⟩) len cap)), (VU.Xc (g 0) (g 1) (g 2) (g 3) (g 4) (g 5) (IntKind.i64.wrap (g 6 + n)) (g 7) (.slice (some ⟨3, 0, some 0⟩) (0 + len) 0)), (VU.Ro len (VU.zl lo z)), (VU.Xc (g 0) (g 1) (g 2) (g 3) (g 4) (g 5) (IntKind.i64.wrap (g 6 + n)) (g 7) (.slice (some ⟨3, 0, some 0⟩) (0 + len) 0)), (VU.Xc (g 0) (g 1) (g 2) (g 3) (g 4) (g 5) (IntKind.i64.wrap (g 6 + n)) (g 7) (.slice (some ⟨3, 0, some 0⟩) (0 + len) 0))] (0 + len)) (N := 0 + len) [] rfl rfl rfl ⟨0, rfl, rfl, rfl⟩ ?_
    rintro k vs H ⟨j, hj, rfl, rfl⟩
    refine SWP.code (envK_ok known6) 40 200 ?_
    by_cases hl : j < 0 + len
    · have f1 : (j : Int) < ((0 + len : Nat) : Int) := by omega
      have f1b : j < len := by omega
      have f2 : IntKind.i64.wrap ((j : Int) + 1) = ((j + 1 : Nat) : Int) := by rw [wrapI (by omega) (by omega)]; rfl
      have f5 : decide ((0:Int) ≤ (j:Int) ∧ (j:Int) < ((0 + len : Nat):Int)) = true := decide_eq_true ⟨by omega, by omega⟩
      have f3 : decide (0 ≤ 0 + (j : Int).toNat * 3 ∧ 0 + (j : Int).toNat * 3 + 3 ≤ (0 + len) * 3) = true := decide_eq_true ⟨by omega, by omega⟩
      repeat ((conv => whnf); first | (refine brT ?_ ?_; · (first | exact f3 | (simp [*]; done))) | (refine brF ?_ ?_; · (first | exact f3 | (simp [*]; done))) | (rw [f5]))

      conv => whnf
      exact ⟨k - 1, by omega, [], rfl, rfl, _, rfl, j + 1, by omega, by rw [f2], rfl⟩
    have f1 : ¬ (j : Int) < ((0 + len : Nat) : Int) := by omega
    have f1b : ¬ j < len := by omega
    clear hl hj
    repeat ((conv => whnf); first | (refine brT ?_ ?_; · (first | exact t1 | (simp [*]; done))) | (refine brF ?_ ?_; · (first | exact t1 | (simp [*]; done))))

    conv => whnf
    clear f1 f1b
    refine SWP.loopS Try.f76.ntmps [1, 2, 15, 16, 17] (VU.J (.slice (some ⟨0, lo, none⟩) len cap) (.slice (some ⟨0, lo, none⟩) len cap) [(VU.O lo nn z), (VU.Xc (g 0) (g 1) (g 2) (g 3) (g 4) (g 5) (g 6) (g 7) (.slice (some ⟨0, lo, none⟩) len cap)), (VU.Xc (g 0) (g 1) (g 2) (g 3) (g 4) (g 5) (IntKind.i64.wrap (g 6 + n)) (g 7) (.slice (some ⟨3, 0, some 0⟩) (0 + len) 0)), (VU.Ro len (VU.zl lo z)), (VU.Xc (g 0) (g 1) (g 2) (g 3) (g 4) (g 5) (g 6) (g 7) (.slice (some ⟨0, lo, none⟩) len cap)), (VU.Xc (g 0) (g 1) (g 2) (g 3) (g 4) (g 5) (g 6) (g 7) (.slice (some ⟨0, lo, none⟩) len cap))] (len)) (N := len) [] rfl rfl rfl ⟨0, rfl, rfl, rfl⟩ ?_
    rintro k vs H ⟨j, hj, rfl, rfl⟩
    refine SWP.code (envK_ok known6) 40 200 ?_
    by_cases hl : j < len
    · have f1 : (j : Int) < ((len : Nat) : Int) := by omega
      have f1b : j < len := by omega
      have f2 : IntKind.i64.wrap ((j : Int) + 1) = ((j + 1 : Nat) : Int) := by rw [wrapI (by omega) (by omega)]; rfl
      have f5 : decide ((0:Int) ≤ (j:Int) ∧ (j:Int) < ((len : Nat):Int)) = true := decide_eq_true ⟨by omega, by omega⟩
      have f3 : decide (lo ≤ lo + (j : Int).toNat * 3 ∧ lo + (j : Int).toNat * 3 + 3 ≤ nn) = true := decide_eq_true ⟨by omega, by omega⟩
      repeat ((conv => whnf); first | (refine brT ?_ ?_; · (first | exact f3 | (simp [*]; done))) | (refine brF ?_ ?_; · (first | exact f3 | (simp [*]; done))) | (rw [f5]))

      conv => whnf
      exact ⟨k - 1, by omega, [], rfl, rfl, _, rfl, j + 1, by omega, by rw [f2], rfl⟩
    have f1 : ¬ (j : Int) < ((len : Nat) : Int) := by omega
    have f1b : ¬ j < len := by omega
    clear hl hj
    repeat ((conv => whnf); first | (refine brT ?_ ?_; · (simp [*]; done)) | (refine brF ?_ ?_; · (simp [*]; done)))

    rfl
  · repeat ((conv => whnf); first | (refine brT ?_ ?_; · (first | exact t1 | exact t2 | (simp [*]; done))) | (refine brF ?_ ?_; · (first | exact t1 | exact t2 | (simp [*]; done))))

    conv => whnf
    refine SWP.loopS Try.f76.ntmps [1, 2, 15, 16, 17] (VU.J (.slice (some ⟨3, 0, some 0⟩) (0 + len) 0) (.slice (some ⟨3, 0, some 0⟩) (0 + len) 0) [(VU.O lo nn z), (VU.Xc (g 0) (g 1) (g 2) (g 3) (g 4) (g 5) (g 6) (g 7) (.slice (some ⟨0, lo, none⟩) len cap)), (VU.Xc (g 0) (g 1) (g 2) (g 3) (g 4) (g 5) (g 6) (IntKind.i64.wrap (g 7 + n)) (.slice (some ⟨3, 0, some 0⟩) (0 + len) 0)), (VU.Ro len (VU.zl lo z)), (VU.Xc (g 0) (g 1) (g 2) (g 3) (g 4) (g 5) (g 6) (IntKind.i64.wrap (g 7 + n)) (.slice (some ⟨3, 0, some 0⟩) (0 + len) 0)), (VU.Xc (g 0) (g 1) (g 2) (g 3) (g 4) (g 5) (g 6) (IntKind.i64.wrap (g 7 + n)) (.slice (some ⟨3, 0, some 0⟩) (0 + len) 0))] (0 + len)) (N := 0 + len) [] rfl rfl rfl ⟨0, rfl, rfl, rfl⟩ ?_
    rintro k vs H ⟨j, hj, rfl, rfl⟩
    refine SWP.code (envK_ok known6) 40 200 ?_
    by_cases hl : j < 0 + len
    · have f1 : (j : Int) < ((0 + len : Nat) : Int) := by omega
      have f1b : j < len := by omega
      have f2 : IntKind.i64.wrap ((j : Int) + 1) = ((j + 1 : Nat) : Int) := by rw [wrapI (by omega) (by omega)]; rfl
      have f5 : decide ((0:Int) ≤ (j:Int) ∧ (j:Int) < ((0 + len : Nat):Int)) = true := decide_eq_true ⟨by omega, by omega⟩
      have f3 : decide (0 ≤ 0 + (j : Int).toNat * 3 ∧ 0 + (j : Int).toNat * 3 + 3 ≤ (0 + len) * 3) = true := decide_eq_true ⟨by omega, by omega⟩
      repeat ((conv => whnf); first | (refine brT ?_ ?_; · (first | exact f3 | (simp [*]; done))) | (refine brF ?_ ?_; · (first | exact f3 | (simp [*]; done))) | (rw [f5]))

      conv => whnf
      exact ⟨k - 1, by omega, [], rfl, rfl, _, rfl, j + 1, by omega, by rw [f2], rfl⟩
    have f1 : ¬ (j : Int) < ((0 + len : Nat) : Int) := by omega
    have f1b : ¬ j < len := by omega
    clear hl hj
    repeat ((conv => whnf); first | (refine brT ?_ ?_; · (first | exact t1 | (simp [*]; done))) | (refine brF ?_ ?_; · (first | exact t1 | (simp [*]; done))))

    conv => whnf
    clear f1 f1b
    refine SWP.loopS Try.f76.ntmps [1, 2, 15, 16, 17] (VU.J (.slice (some ⟨0, lo, none⟩) len cap) (.slice (some ⟨0, lo, none⟩) len cap) [(VU.O lo nn z), (VU.Xc (g 0) (g 1) (g 2) (g 3) (g 4) (g 5) (g 6) (g 7) (.slice (some ⟨0, lo, none⟩) len cap)), (VU.Xc (g 0) (g 1) (g 2) (g 3) (g 4) (g 5) (g 6) (IntKind.i64.wrap (g 7 + n)) (.slice (some ⟨3, 0, some 0⟩) (0 + len) 0)), (VU.Ro len (VU.zl lo z)), (VU.Xc (g 0) (g 1) (g 2) (g 3) (g 4) (g 5) (g 6) (g 7) (.slice (some ⟨0, lo, none⟩) len cap)), (VU.Xc (g 0) (g 1) (g 2) (g 3) (g 4) (g 5) (g 6) (g 7) (.slice (some ⟨0, lo, none⟩) len cap))] (len)) (N := len) [] rfl rfl rfl ⟨0, rfl, rfl, rfl⟩ ?_
    rintro k vs H ⟨j, hj, rfl, rfl⟩
    refine SWP.code (envK_ok known6) 40 200 ?_
    by_cases hl : j < len
    · have f1 : (j : Int) < ((len : Nat) : Int) := by omega
      have f1b : j < len := by omega
      have f2 : IntKind.i64.wrap ((j : Int) + 1) = ((j + 1 : Nat) : Int) := by rw [wrapI (by omega) (by omega)]; rfl
      have f5 : decide ((0:Int) ≤ (j:Int) ∧ (j:Int) < ((len : Nat):Int)) = true := decide_eq_true ⟨by omega, by omega⟩
      have f3 : decide (lo ≤ lo + (j : Int).toNat * 3 ∧ lo + (j : Int).toNat * 3 + 3 ≤ nn) = true := decide_eq_true ⟨by omega, by omega⟩
      repeat ((conv => whnf); first | (refine brT ?_ ?_; · (first | exact f3 | (simp [*]; done))) | (refine brF ?_ ?_; · (first | exact f3 | (simp [*]; done))) | (rw [f5]))

      conv => whnf
      exact ⟨k - 1, by omega, [], rfl, rfl, _, rfl, j + 1, by omega, by rw [f2], rfl⟩
    have f1 : ¬ (j : Int) < ((len : Nat) : Int) := by omega
    have f1b : ¬ j < len := by omega
    clear hl hj
    repeat ((conv => whnf); first | (refine brT ?_ ?_; · (simp [*]; done)) | (refine brF ?_ ?_; · (simp [*]; done)))

    rfl
  · obtain ⟨kk, ek, hk⟩ : ∃ kk : Nat, (IntKind.i64.wrap which).tmod ((0 + len : Nat) : Int) = kk ∧ kk < len := by
      have ew : IntKind.i64.wrap which = which := wrapI (by omega) (by omega)
      have hp' : (0 : Int) < ((0 + len : Nat) : Int) := by omega
      refine ⟨(which % ((0 + len : Nat) : Int)).toNat, ?_, ?_⟩
      · rw [ew, tmodI h0, Int.toNat_of_nonneg (Int.emod_nonneg _ (by omega))]
      · have h5 := Int.emod_lt_of_pos which hp'
        have h6 := Int.emod_nonneg which (b := ((0 + len : Nat) : Int)) (by omega)
        omega
    have kd : (!decide (((0 + len : Nat) : Int) = 0)) = true := by rw [decide_eq_false (by omega)]; rfl
    have i5 : decide ((0:Int) ≤ (IntKind.i64.wrap which).tmod ((0 + len : Nat) : Int) ∧ (IntKind.i64.wrap which).tmod ((0 + len : Nat) : Int) < ((0 + len : Nat):Int)) = true := by rw [ek]; exact decide_eq_true ⟨by omega, by omega⟩
    have i3 : decide (0 ≤ 0 + ((IntKind.i64.wrap which).tmod ((0 + len : Nat) : Int)).toNat * 3 + 1 + 1 ∧ 0 + ((IntKind.i64.wrap which).tmod ((0 + len : Nat) : Int)).toNat * 3 + 1 + 1 < (0 + len) * 3) = true := by rw [ek]; exact decide_eq_true ⟨by omega, by omega⟩
    have i4 : decide (1 = 1 ∧ 0 + ((IntKind.i64.wrap which).tmod ((0 + len : Nat) : Int)).toNat * 3 + 1 + 1 + 1 ≤ (0 + len) * 3) = true := by rw [ek]; exact decide_eq_true ⟨rfl, by omega⟩
    repeat ((conv => whnf); first | (refine brT ?_ ?_; · (first | exact t1 | exact t2 | exact i3 | exact i4 | (simp [*]; done))) | (refine brF ?_ ?_; · (first | exact t1 | exact t2 | exact i3 | exact i4 | (simp [*]; done))) | (rw [i5]) | (rw [kd]) | (rw [forceN_eq]))

    conv => whnf
    refine SWP.loopS Try.f76.ntmps [1, 2, 15, 16, 17] (VU.J2 (.slice (some ⟨0, lo, none⟩) len cap) (.slice (some ⟨3, 0, some 0⟩) (0 + len) 0) (VU.O lo nn z) (VU.Xc (g 0) (g 1) (g 2) (g 3) (g 4) (g 5) (g 6) (g 7) (.slice (some ⟨0, lo, none⟩) len cap)) (VU.Xc (g 0) (g 1) (g 2) (g 3) (g 4) (g 5) (g 6) (g 7) (.slice (some ⟨3, 0, some 0⟩) (0 + len) 0)) (VU.Xc (g 0) (g 1) (g 2) (g 3) (g 4) (g 5) (g 6) (g 7) (.slice (some ⟨0, lo, none⟩) len cap)) (VU.Xc (g 0) (g 1) (g 2) (g 3) (g 4) (g 5) (g 6) (g 7) (.slice (some ⟨3, 0, some 0⟩) (0 + len) 0)) z kk len) (N := len) [] rfl rfl rfl ⟨_, 0, ?_, ?_, Nat.zero_le _, rfl, rfl, rfl⟩ ?_
    · intro q hq
      show (if q = 0 + ((IntKind.i64.wrap which).tmod ((0 + len : Nat) : Int)).toNat * 3 + 1 + 1 then _ else z (lo + q - lo)) = z q
      rw [ek, Int.toNat_natCast, if_neg (by omega), Nat.add_sub_cancel_left]
    · show ¬ z (kk * 3 + 2) = (if kk * 3 + 2 = 0 + ((IntKind.i64.wrap which).tmod ((0 + len : Nat) : Int)).toNat * 3 + 1 + 1 then IntKind.i64.wrap (z (lo + (0 + ((IntKind.i64.wrap which).tmod ((0 + len : Nat) : Int)).toNat * 3 + 1 + 1) - lo) + n) else _)
      rw [ek, Int.toNat_natCast, if_pos (by omega), Nat.add_sub_cancel_left, show 0 + kk * 3 + 1 + 1 = kk * 3 + 2 from by omega]
      exact ne _ hz (hzs _ (by omega)).1 (hzs _ (by omega)).2
    clear kd i5 i3 i4 ek
    rintro k vs H ⟨F, j, hF, hD, hjk, hj, rfl, rfl⟩
    refine SWP.code (envK_ok known6) 40 200 ?_
    have f1 : (j : Int) < (len : Int) := by omega
    have f2 : IntKind.i64.wrap ((j : Int) + 1) = ((j + 1 : Nat) : Int) := by rw [wrapI (by omega) (by omega)]; rfl
    have f5 : decide ((0:Int) ≤ (j:Int) ∧ (j:Int) < (len:Int)) = true := decide_eq_true ⟨by omega, by omega⟩
    have g5 : decide ((0:Int) ≤ (j:Int) ∧ (j:Int) < ((0 + len : Nat):Int)) = true := decide_eq_true ⟨by omega, by omega⟩
    have f3 : decide (lo ≤ lo + (j : Int).toNat * 3 ∧ lo + (j : Int).toNat * 3 + 3 ≤ nn) = true := decide_eq_true ⟨by omega, by omega⟩
    have g3 : decide (0 ≤ 0 + (j : Int).toNat * 3 ∧ 0 + (j : Int).toNat * 3 + 3 ≤ (0 + len) * 3) = true := decide_eq_true ⟨by omega, by omega⟩
    have x0 : z (j * 3) = F (j * 3) := (hF _ (by omega)).symm
    have x1 : z (lo + j * 3 + 1 - lo) = F (j * 3 + 1) := by rw [show lo + j * 3 + 1 - lo = j * 3 + 1 from by omega]; exact (hF _ (by omega)).symm
    by_cases hl : j = kk
    · have x2 : ((z (lo + j * 3 + 1 + 1 - lo)) == F (j * 3 + 1 + 1)) = false := by rw [show lo + j * 3 + 1 + 1 - lo = kk * 3 + 2 from by omega, show j * 3 + 1 + 1 = kk * 3 + 2 from by omega]; exact beq_eq_false_iff_ne.2 hD
      have x3 : ¬ z (lo + j * 3 + 1 + 1 - lo) = F (j * 3 + 1 + 1) := beq_eq_false_iff_ne.1 x2
      have x4 : ¬ z (j * 3 + 1 + 1) = F (j * 3 + 1 + 1) := by rw [show j * 3 + 1 + 1 = kk * 3 + 2 from by omega]; exact hD
      clear hF hD hl
      repeat ((conv => whnf); first | (refine brT ?_ ?_; · (first | exact f3 | exact g3 | (simp [*]; done))) | (refine brF ?_ ?_; · (first | exact f3 | exact g3 | (simp [*]; done))) | (rw [f5]) | (rw [g5]))

      conv => whnf
      clear f1 f2 f5 g5 f3 g3 x0 x1 x2 x3 x4 hjk hj
      refine SWP.loopS Try.f76.ntmps [1, 2, 15, 16, 17] (VU.J (.slice (some ⟨3, 0, some 0⟩) (0 + len) 0) (.slice (some ⟨3, 0, some 0⟩) (0 + len) 0) [(VU.O lo nn z), (VU.Xc (g 0) (g 1) (g 2) (g 3) (g 4) (g 5) (g 6) (g 7) (.slice (some ⟨0, lo, none⟩) len cap)), (VU.Xc (g 0) (g 1) (g 2) (g 3) (g 4) (g 5) (g 6) (g 7) (.slice (some ⟨3, 0, some 0⟩) (0 + len) 0)), (VU.Ro len F), (VU.Xc (g 0) (g 1) (g 2) (g 3) (g 4) (g 5) (g 6) (g 7) (.slice (some ⟨3, 0, some 0⟩) (0 + len) 0)), (VU.Xc (g 0) (g 1) (g 2) (g 3) (g 4) (g 5) (g 6) (g 7) (.slice (some ⟨3, 0, some 0⟩) (0 + len) 0))] (0 + len)) (N := 0 + len) [] rfl rfl rfl ⟨0, rfl, rfl, rfl⟩ ?_
      rintro k vs H ⟨j, hj, rfl, rfl⟩
      refine SWP.code (envK_ok known6) 40 200 ?_
      by_cases hl : j < 0 + len
      · have f1 : (j : Int) < ((0 + len : Nat) : Int) := by omega
        have f1b : j < len := by omega
        have f2 : IntKind.i64.wrap ((j : Int) + 1) = ((j + 1 : Nat) : Int) := by rw [wrapI (by omega) (by omega)]; rfl
        have f5 : decide ((0:Int) ≤ (j:Int) ∧ (j:Int) < ((0 + len : Nat):Int)) = true := decide_eq_true ⟨by omega, by omega⟩
        have f3 : decide (0 ≤ 0 + (j : Int).toNat * 3 ∧ 0 + (j : Int).toNat * 3 + 3 ≤ (0 + len) * 3) = true := decide_eq_true ⟨by omega, by omega⟩
        repeat ((conv => whnf); first | (refine brT ?_ ?_; · (first | exact f3 | (simp [*]; done))) | (refine brF ?_ ?_; · (first | exact f3 | (simp [*]; done))) | (rw [f5]))

        conv => whnf
        exact ⟨k - 1, by omega, [], rfl, rfl, _, rfl, j + 1, by omega, by rw [f2], rfl⟩
      have f1 : ¬ (j : Int) < ((0 + len : Nat) : Int) := by omega
      have f1b : ¬ j < len := by omega
      clear hl hj
      repeat ((conv => whnf); first | (refine brT ?_ ?_; · (first | exact t1 | (simp [*]; done))) | (refine brF ?_ ?_; · (first | exact t1 | (simp [*]; done))))

      conv => whnf
      clear f1 f1b
      refine SWP.loopS Try.f76.ntmps [1, 2, 15, 16, 17] (VU.J (.slice (some ⟨0, lo, none⟩) len cap) (.slice (some ⟨0, lo, none⟩) len cap) [(VU.O lo nn z), (VU.Xc (g 0) (g 1) (g 2) (g 3) (g 4) (g 5) (g 6) (g 7) (.slice (some ⟨0, lo, none⟩) len cap)), (VU.Xc (g 0) (g 1) (g 2) (g 3) (g 4) (g 5) (g 6) (g 7) (.slice (some ⟨3, 0, some 0⟩) (0 + len) 0)), (VU.Ro len F), (VU.Xc (g 0) (g 1) (g 2) (g 3) (g 4) (g 5) (g 6) (g 7) (.slice (some ⟨0, lo, none⟩) len cap)), (VU.Xc (g 0) (g 1) (g 2) (g 3) (g 4) (g 5) (g 6) (g 7) (.slice (some ⟨0, lo, none⟩) len cap))] (len)) (N := len) [] rfl rfl rfl ⟨0, rfl, rfl, rfl⟩ ?_
      rintro k vs H ⟨j, hj, rfl, rfl⟩
      refine SWP.code (envK_ok known6) 40 200 ?_
      by_cases hl : j < len
      · have f1 : (j : Int) < ((len : Nat) : Int) := by omega
        have f1b : j < len := by omega
        have f2 : IntKind.i64.wrap ((j : Int) + 1) = ((j + 1 : Nat) : Int) := by rw [wrapI (by omega) (by omega)]; rfl
        have f5 : decide ((0:Int) ≤ (j:Int) ∧ (j:Int) < ((len : Nat):Int)) = true := decide_eq_true ⟨by omega, by omega⟩
        have f3 : decide (lo ≤ lo + (j : Int).toNat * 3 ∧ lo + (j : Int).toNat * 3 + 3 ≤ nn) = true := decide_eq_true ⟨by omega, by omega⟩
        repeat ((conv => whnf); first | (refine brT ?_ ?_; · (first | exact f3 | (simp [*]; done))) | (refine brF ?_ ?_; · (first | exact f3 | (simp [*]; done))) | (rw [f5]))

        conv => whnf
        exact ⟨k - 1, by omega, [], rfl, rfl, _, rfl, j + 1, by omega, by rw [f2], rfl⟩
      have f1 : ¬ (j : Int) < ((len : Nat) : Int) := by omega
      have f1b : ¬ j < len := by omega
      clear hl hj
      repeat ((conv => whnf); first | (refine brT ?_ ?_; · (simp [*]; done)) | (refine brF ?_ ?_; · (simp [*]; done)))

      rfl
    · have x2 : z (lo + j * 3 + 1 + 1 - lo) = F (j * 3 + 1 + 1) := by rw [show lo + j * 3 + 1 + 1 - lo = j * 3 + 1 + 1 from by omega]; exact (hF _ (by omega)).symm
      have y1 : z (j * 3 + 1) = F (j * 3 + 1) := (hF _ (by omega)).symm
      have y2 : z (j * 3 + 1 + 1) = F (j * 3 + 1 + 1) := (hF _ (by omega)).symm
      have hjl : j + 1 ≤ kk := by omega
      have hF' := fun (_ : True) => hF
      clear hl
      have hFF : True → (∀ q, q ≠ kk * 3 + 2 → F q = z q) ∧ ¬ z (kk * 3 + 2) = F (kk * 3 + 2) := fun _ => ⟨hF, hD⟩
      clear hF hD hF'
      repeat ((conv => whnf); first | (refine brT ?_ ?_; · (first | exact f3 | exact g3 | (simp [*]; done))) | (refine brF ?_ ?_; · (first | exact f3 | exact g3 | (simp [*]; done))) | (rw [f5]) | (rw [g5]))

      conv => whnf
      exact ⟨k - 1, by omega, [], rfl, rfl, _, rfl, F, j + 1, (hFF trivial).1, (hFF trivial).2, hjl, by omega, by rw [f2], rfl⟩
end Go.Proofs.Ytflhcknnjembjaa
