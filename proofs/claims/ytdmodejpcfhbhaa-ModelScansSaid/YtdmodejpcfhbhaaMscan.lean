/- ModelScans: the walk's rounds. (printed by mscans.py) -/
import Derived.Test.YtdmodejpcfhbhaaScn
import Derived.Test.YtdmodejpcfhbhaaTabs
namespace Go.Proofs.Ytdmodejpcfhbhaa
open Go.RowKit
variable {W : World}
def MSc.I (sv : Value) (o1 : Option (Bool × AObj Ext)) (a b c : Int) (len : Nat) (k : Nat) (vs : List Value) (H : HX) : Prop :=
  ∃ (i : Nat) (f g : Int → Option Int), k + i = len ∧ vs = [sv, .int .u8 a, .int .u8 b, .int .u8 c, .pointer (some ⟨1, 0, none⟩), .int .i64 i] ∧ H = [o1, md f g]
def MSc.Q (o1 : Option (Bool × AObj Ext)) (a b c : Int) (e : Exit) (vs : List Value) (H : HX) : Prop :=
  ∃ (f g : Int → Option Int), e = .exit 0 ∧ vs = [.int .u8 a, .int .u8 b, .int .u8 c, .pointer (some ⟨1, 0, none⟩)] ∧ H = [o1, md f g]
def MSc.J (xs : HX) (xv : Value) (c : Int) (f : Int → Option Int) (an bn : Nat) (k : Nat) (vs : List Value) (H : HX) : Prop :=
  ∃ j n : Nat, k + j = bn + 1 - an ∧ n = cnt f an (an + j) ∧ vs = [.int .u8 c, .pointer (some ⟨1, 0, none⟩), .int .i64 an, .int .i64 bn, xv, .int .i64 n, .int .i64 (an + j : Nat)] ∧ H = xs
def MSc.E (xs : HX) (xv : Value) (c : Int) (f : Int → Option Int) (an bn : Nat) (e : Exit) (vs : List Value) (H : HX) : Prop :=
  ∃ n : Nat, e = .exit 2 ∧ n = (rangeP f an bn).length ∧ vs = [.int .u8 c, .pointer (some ⟨1, 0, none⟩), .int .i64 an, .int .i64 bn, xv, .int .i64 n] ∧ H = xs
attribute [local irreducible] keysF rangeP rangeG allG pairsOf eqRows isOpB setF setG2 maxF fndF SWP FWP OWP
set_option maxRecDepth 100000 in
set_option maxHeartbeats 8000000 in
theorem msc_r0 (lo n len : Nat) (sv : Value) (hs : SF 0 lo n len sv) (z : Nat → Int) (a b c : Int) (hl : len ≤ 60) (i k : Nat) (f g : Int → Option Int) (hki : k + i = len) :
    SWP Try.prog (means W) 1 (loopB Try.f6 0) (slT Try.f6.ntmps [0, 1, 2, 3, 9, 10] [sv, .int .u8 a, .int .u8 b, .int .u8 c, .pointer (some ⟨1, 0, none⟩), .int .i64 i]) [oldR lo n z, md f g] (roundK 1 Try.f6.ntmps [0, 1, 2, 3, 9, 10] (MSc.I sv (oldR lo n z) a b c len) k (Left 1 Try.f6.ntmps [1, 2, 3, 9] (MSc.Q (oldR lo n z) a b c))) := by
  refine SWP.code envP5_ok 40 200 ?_
  by_cases hi : i < len
  · rcases hs with ⟨_, h⟩ | ⟨_, h⟩ | ⟨cap, rfl, h0⟩
    · omega
    · omega
    have gi : decide (0 ≤ (i : Int) ∧ (i : Int) < (len : Int)) = true := decide_eq_true (by omega)
    have f1 : decide ((i : Int) < (len : Int)) = true := decide_eq_true (by omega)
    have f2 : decide (lo ≤ lo + ((i : Int)).toNat * 4 ∧ lo + ((i : Int)).toNat * 4 + 4 ≤ n) = true := decide_eq_true (by omega)
    have gw1 : ((i + 1 : Nat) : Int) = IntKind.i64.wrap ((i : Int) + 1) := by rw [wrapI (by omega) (by omega)]; rfl
    cases hop : isOpB (z (lo + ((i : Int)).toNat * 4)) (z (lo + ((i : Int)).toNat * 4 + 1)) (z (lo + ((i : Int)).toNat * 4 + 2)) (z (lo + ((i : Int)).toNat * 4 + 3)) with
    | false =>
      repeat ((conv => whnf); first | (refine brT ?_ ?_; · (first | exact f1 | exact f2 | exact hop | (simp; done))) | (refine brF ?_ ?_; · (first | exact f1 | exact f2 | exact hop | (simp; done))) | (rw [gi]))

      conv => whnf
      exact ⟨k - 1, by omega, [1], rfl, rfl, [.slice (some ⟨0, lo, none⟩) len cap, .int .u8 a, .int .u8 b, .int .u8 c, .pointer (some ⟨1, 0, none⟩), .int .i64 (IntKind.i64.wrap ((i : Int) + 1))], rfl, i + 1, f, g, by omega, by rw [gw1], rfl⟩
    | true =>
      have hk := op_key hop
      rcases op_kind hop with hk1 | hk1 | hk1 | hk1
      · have k1 : decide ((z (lo + ((i : Int)).toNat * 4)) = 1) = true := decide_eq_true hk1
        repeat ((conv => whnf); first | (refine brT ?_ ?_; · (first | exact f1 | exact f2 | exact hop | exact k1 | (simp; done))) | (refine brF ?_ ?_; · (first | exact f1 | exact f2 | exact hop | exact k1 | (simp; done))) | (rw [gi]))

        conv => whnf
        exact ⟨k - 1, by omega, [1], rfl, rfl, [.slice (some ⟨0, lo, none⟩) len cap, .int .u8 a, .int .u8 b, .int .u8 c, .pointer (some ⟨1, 0, none⟩), .int .i64 (IntKind.i64.wrap ((i : Int) + 1))], rfl, i + 1, (setF f (z (lo + ((i : Int)).toNat * 4 + 1)) (some (z (lo + ((i : Int)).toNat * 4 + 2)))), (setF g (z (lo + ((i : Int)).toNat * 4 + 1)) (some (i : Int))), by omega, by rw [gw1], rfl⟩
      · have k1 : decide ((z (lo + ((i : Int)).toNat * 4)) = 1) = false := decide_eq_false (by omega)
        have k2 : decide ((z (lo + ((i : Int)).toNat * 4)) = 2) = true := decide_eq_true hk1
        repeat ((conv => whnf); first | (refine brT ?_ ?_; · (first | exact f1 | exact f2 | exact hop | exact k1 | exact k2 | (simp; done))) | (refine brF ?_ ?_; · (first | exact f1 | exact f2 | exact hop | exact k1 | exact k2 | (simp; done))) | (rw [gi]))

        conv => whnf
        exact ⟨k - 1, by omega, [1], rfl, rfl, [.slice (some ⟨0, lo, none⟩) len cap, .int .u8 a, .int .u8 b, .int .u8 c, .pointer (some ⟨1, 0, none⟩), .int .i64 (IntKind.i64.wrap ((i : Int) + 1))], rfl, i + 1, (setF f (z (lo + ((i : Int)).toNat * 4 + 1)) none), (setF g (z (lo + ((i : Int)).toNat * 4 + 1)) (some (i : Int))), by omega, by rw [gw1], rfl⟩
      · have k1 : decide ((z (lo + ((i : Int)).toNat * 4)) = 1) = false := decide_eq_false (by omega)
        have k2 : decide ((z (lo + ((i : Int)).toNat * 4)) = 2) = false := decide_eq_false (by omega)
        have k3 : decide ((z (lo + ((i : Int)).toNat * 4)) = 3) = true := decide_eq_true hk1
        repeat ((conv => whnf); first | (refine brT ?_ ?_; · (first | exact f1 | exact f2 | exact hop | exact k1 | exact k2 | exact k3 | (simp; done))) | (refine brF ?_ ?_; · (first | exact f1 | exact f2 | exact hop | exact k1 | exact k2 | exact k3 | (simp; done))) | (rw [gi]))

        conv => whnf
        exact ⟨k - 1, by omega, [1], rfl, rfl, [.slice (some ⟨0, lo, none⟩) len cap, .int .u8 a, .int .u8 b, .int .u8 c, .pointer (some ⟨1, 0, none⟩), .int .i64 (IntKind.i64.wrap ((i : Int) + 1))], rfl, i + 1, f, g, by omega, by rw [gw1], rfl⟩
      · have k1 : decide ((z (lo + ((i : Int)).toNat * 4)) = 1) = false := decide_eq_false (by omega)
        have k2 : decide ((z (lo + ((i : Int)).toNat * 4)) = 2) = false := decide_eq_false (by omega)
        have k3 : decide ((z (lo + ((i : Int)).toNat * 4)) = 3) = false := decide_eq_false (by omega)
        cases hQ : (rangeP f (z (lo + ((i : Int)).toNat * 4 + 1)) (z (lo + ((i : Int)).toNat * 4 + 3))).isEmpty with
        | true =>
          repeat ((conv => whnf); first | (refine brT ?_ ?_; · (first | exact f1 | exact f2 | exact hop | exact k1 | exact k2 | exact k3 | exact hQ | (simp; done))) | (refine brF ?_ ?_; · (first | exact f1 | exact f2 | exact hop | exact k1 | exact k2 | exact k3 | exact hQ | (simp; done))) | (rw [gi]))

          conv => whnf
          exact ⟨k - 1, by omega, [1], rfl, rfl, [.slice (some ⟨0, lo, none⟩) len cap, .int .u8 a, .int .u8 b, .int .u8 c, .pointer (some ⟨1, 0, none⟩), .int .i64 (IntKind.i64.wrap ((i : Int) + 1))], rfl, i + 1, f, g, by omega, by rw [gw1], rfl⟩
        | false =>
          repeat ((conv => whnf); first | (refine brT ?_ ?_; · (first | exact f1 | exact f2 | exact hop | exact k1 | exact k2 | exact k3 | exact hQ | (simp; done))) | (refine brF ?_ ?_; · (first | exact f1 | exact f2 | exact hop | exact k1 | exact k2 | exact k3 | exact hQ | (simp; done))) | (rw [gi]))

          conv => whnf
          exact ⟨k - 1, by omega, [1], rfl, rfl, [.slice (some ⟨0, lo, none⟩) len cap, .int .u8 a, .int .u8 b, .int .u8 c, .pointer (some ⟨1, 0, none⟩), .int .i64 (IntKind.i64.wrap ((i : Int) + 1))], rfl, i + 1, f, g, by omega, by rw [gw1], rfl⟩
  · have f1 : decide ((i : Int) < (len : Int)) = false := decide_eq_false (by omega)
    rcases hs with ⟨rfl, h⟩ | ⟨rfl, h⟩ | ⟨cap, rfl, h0⟩
    · subst h
      repeat ((conv => whnf); first | (refine brT ?_ ?_; · (exact f1)) | (refine brF ?_ ?_; · (exact f1)))

      conv => whnf
      exact ⟨[1], rfl, rfl, _, rfl, f, g, rfl, rfl, rfl⟩
    · subst h
      repeat ((conv => whnf); first | (refine brT ?_ ?_; · (exact f1)) | (refine brF ?_ ?_; · (exact f1)))

      conv => whnf
      exact ⟨[1], rfl, rfl, _, rfl, f, g, rfl, rfl, rfl⟩
    · repeat ((conv => whnf); first | (refine brT ?_ ?_; · (exact f1)) | (refine brF ?_ ?_; · (exact f1)))

      conv => whnf
      exact ⟨[1], rfl, rfl, _, rfl, f, g, rfl, rfl, rfl⟩
theorem msc_l0 (lo n len : Nat) (sv : Value) (hs : SF 0 lo n len sv) (z : Nat → Int) (a b c : Int) (hl : len ≤ 60) {t : Sl} {H : HX} {vs : List Value} (σ : List Nat) (hσ : okS 1 σ = true) (hn : t.n = Try.f6.ntmps) (h0 : pickS 1 σ t [0, 1, 2, 3, 9, 10] = some vs) (hvs : vs = [sv, .int .u8 a, .int .u8 b, .int .u8 c, .pointer (some ⟨1, 0, none⟩), .int .i64 (0 : Nat)]) (hH : rnH 1 σ H = [oldR lo n z, md noneF noneF]) :
    SWP Try.prog (means W) 1 (.loop (loopB Try.f6 0)) t H (Left 1 Try.f6.ntmps [1, 2, 3, 9] (MSc.Q (oldR lo n z) a b c)) := by
  refine SWP.loopS Try.f6.ntmps [0, 1, 2, 3, 9, 10] (MSc.I sv (oldR lo n z) a b c len) (N := len) σ hσ hn h0 ⟨0, noneF, noneF, rfl, hvs, hH⟩ ?_
  rintro k vs H ⟨i, f, g, hki, rfl, rfl⟩
  exact msc_r0 lo n len sv hs z a b c hl i k f g hki
set_option maxRecDepth 100000 in
set_option maxHeartbeats 8000000 in
theorem msc_l11 (lo n : Nat) (z : Nat → Int) (c : Int) (f g : Int → Option Int) (an bn : Nat) (ha : an < 64) (hb : bn < 64) (hL : rangeP f an bn = []) (a' b' : Int) (ea : a' = (an : Int)) (eb : b' = (bn : Int)) {t : Sl} {H : HX} {vs : List Value} (σ : List Nat) (hσ : okS 1 σ = true) (hn : t.n = Try.f6.ntmps) (h0 : pickS 1 σ t [3, 9, 11, 12, 13, 14, 15] = some vs) (hvs : vs = [.int .u8 c, .pointer (some ⟨1, 0, none⟩), .int .i64 a', .int .i64 b', .slice none 0 0, .int .i64 (0 : Nat), .int .i64 a']) (hH : rnH 1 σ H = [oldR lo n z, md f g]) :
    SWP Try.prog (means W) 1 (.loop (loopB Try.f6 1)) t H (Left 1 Try.f6.ntmps [3, 9, 11, 12, 13, 14] (MSc.E [oldR lo n z, md f g] (.slice none 0 0) c f an bn)) := by
  subst ea eb
  refine SWP.loopS Try.f6.ntmps [3, 9, 11, 12, 13, 14, 15] (MSc.J [oldR lo n z, md f g] (.slice none 0 0) c f an bn) (N := bn + 1 - an) σ hσ hn h0 ⟨0, 0, rfl, (cnt_zero f an).symm, hvs, hH⟩ ?_
  rintro k vs H ⟨j, n, hkj, hcn, rfl, rfl⟩
  refine SWP.code envP5_ok 40 200 ?_
  by_cases hj : an + j ≤ bn
  · have m1 : decide (((an + j : Nat) : Int) ≤ (bn : Int)) = true := decide_eq_true (by omega)
    have m2 : (Lit.int .i64 ((an + j : Nat) : Int)).wf = true := key_wf (by omega)
    have gw2 : ((an + (j + 1) : Nat) : Int) = IntKind.i64.wrap (((an + j : Nat) : Int) + 1) := by rw [wrapI (by omega) (by omega)]; rfl
    have hst := cnt_step f (a := an) (k := an + j) (by omega) (by omega)
    cases hs : (f ((an + j : Nat) : Int)).isSome with
    | false =>
      rw [if_neg (by rw [hs]; decide)] at hst
      repeat ((conv => whnf); first | (refine brT ?_ ?_; · (first | exact m1 | exact m2 | exact hs)) | (refine brF ?_ ?_; · (first | exact m1 | exact m2 | exact hs)))

      conv => whnf
      exact ⟨k - 1, by omega, [1], rfl, rfl, _, rfl, j + 1, n, by omega, by rw [hcn]; exact hst.symm, by rw [gw2] <;> rfl, rfl⟩
    | true =>
      obtain ⟨q1, q2⟩ := cnt_at f (a := an) (b := bn) (k := an + j) (by omega) hj hb hs
      rw [hL] at q1
      simp at q1
  · have m1 : decide (((an + j : Nat) : Int) ≤ (bn : Int)) = false := decide_eq_false (by omega)
    repeat ((conv => whnf); first | (refine brT ?_ ?_; · (exact m1)) | (refine brF ?_ ?_; · (exact m1)))

    conv => whnf
    refine ⟨[1], rfl, rfl, _, rfl, n, rfl, ?_, rfl, rfl⟩
    rw [hcn]
    by_cases hab : an ≤ bn
    · rw [← cnt_end f an bn, show an + j = bn + 1 from by omega]
    · rw [rangeP_empty f (by omega), show an + j = an from by omega, cnt_zero]; rfl
set_option maxRecDepth 100000 in
set_option maxHeartbeats 8000000 in
theorem msc_l12 (lo n : Nat) (z : Nat → Int) (c : Int) (f g : Int → Option Int) (an bn : Nat) (ha : an < 64) (hb : bn < 64) (wn : Nat) (wc : Nat → Int) (hwn : wn = (rangeP f an bn).length) (hwc : wc = pairF (rangeP f an bn)) (a' b' : Int) (ea : a' = (an : Int)) (eb : b' = (bn : Int)) {t : Sl} {H : HX} {vs : List Value} (σ : List Nat) (hσ : okS 1 σ = true) (hn : t.n = Try.f6.ntmps) (h0 : pickS 1 σ t [3, 9, 11, 12, 13, 14, 15] = some vs) (hvs : vs = [.int .u8 c, .pointer (some ⟨1, 0, none⟩), .int .i64 a', .int .i64 b', slOf 2 wn, .int .i64 (0 : Nat), .int .i64 a']) (hH : rnH 1 σ H = [oldR lo n z, md f g, prow wn wc]) :
    SWP Try.prog (means W) 1 (.loop (loopB Try.f6 1)) t H (Left 1 Try.f6.ntmps [3, 9, 11, 12, 13, 14] (MSc.E [oldR lo n z, md f g, prow wn wc] (slOf 2 wn) c f an bn)) := by
  subst ea eb
  refine SWP.loopS Try.f6.ntmps [3, 9, 11, 12, 13, 14, 15] (MSc.J [oldR lo n z, md f g, prow wn wc] (slOf 2 wn) c f an bn) (N := bn + 1 - an) σ hσ hn h0 ⟨0, 0, rfl, (cnt_zero f an).symm, hvs, hH⟩ ?_
  rintro k vs H ⟨j, n, hkj, hcn, rfl, rfl⟩
  refine SWP.code envP5_ok 40 200 ?_
  by_cases hj : an + j ≤ bn
  · have m1 : decide (((an + j : Nat) : Int) ≤ (bn : Int)) = true := decide_eq_true (by omega)
    have m2 : (Lit.int .i64 ((an + j : Nat) : Int)).wf = true := key_wf (by omega)
    have gw2 : ((an + (j + 1) : Nat) : Int) = IntKind.i64.wrap (((an + j : Nat) : Int) + 1) := by rw [wrapI (by omega) (by omega)]; rfl
    have hst := cnt_step f (a := an) (k := an + j) (by omega) (by omega)
    cases hs : (f ((an + j : Nat) : Int)).isSome with
    | false =>
      rw [if_neg (by rw [hs]; decide)] at hst
      repeat ((conv => whnf); first | (refine brT ?_ ?_; · (first | exact m1 | exact m2 | exact hs)) | (refine brF ?_ ?_; · (first | exact m1 | exact m2 | exact hs)))

      conv => whnf
      exact ⟨k - 1, by omega, [1, 2], rfl, rfl, _, rfl, j + 1, n, by omega, by rw [hcn]; exact hst.symm, by rw [gw2] <;> rfl, rfl⟩
    | true =>
      obtain ⟨q1, q2⟩ := cnt_at f (a := an) (b := bn) (k := an + j) (by omega) hj hb hs
      rw [if_pos hs, ← hcn] at hst
      rw [← hcn] at q1 q2
      have hq : pairF (rangeP f an bn) (n * 2) = ((an + j : Nat) : Int) ∧ pairF (rangeP f an bn) (n * 2 + 1) = (f ((an + j : Nat) : Int)).getD 0 := by
        unfold pairF
        rw [if_pos (by omega), if_neg (by omega), show n * 2 / 2 = n from by omega, show (n * 2 + 1) / 2 = n from by omega, q2]
        exact ⟨rfl, rfl⟩
      rw [← hwc] at hq
      rw [← hwn] at q1
      clear q2
      have hlen : wn ≤ 64 := by rw [hwn]; exact range_len f an bn
      have d1 : decide ((n : Int) ≥ (wn : Int)) = false := decide_eq_false (by omega)
      have gi : decide (0 ≤ (n : Int) ∧ (n : Int) < (wn : Int)) = true := decide_eq_true (by omega)
      have d2 : decide (0 ≤ 0 + ((n : Int)).toNat * 2 ∧ 0 + ((n : Int)).toNat * 2 + 2 ≤ wn * 2) = true := decide_eq_true (by omega)
      have d3 : (!(wc (0 + ((n : Int)).toNat * 2) == ((an + j : Nat) : Int) && (wc (0 + ((n : Int)).toNat * 2 + 1) == (f ((an + j : Nat) : Int)).getD 0 && true))) = false := by
        rw [show 0 + ((n : Int)).toNat * 2 = n * 2 from by omega, hq.1, hq.2]; simp
      have gw3 : ((n + 1 : Nat) : Int) = IntKind.i64.wrap ((n : Int) + 1) := by rw [wrapI (by omega) (by omega)]; rfl
      repeat ((conv => whnf); first | (refine brT ?_ ?_; · (first | exact m1 | exact m2 | exact hs | exact d1 | exact d2 | exact d3)) | (refine brF ?_ ?_; · (first | exact m1 | exact m2 | exact hs | exact d1 | exact d2 | exact d3)) | (rw [gi]))

      conv => whnf
      exact ⟨k - 1, by omega, [1, 2], rfl, rfl, _, rfl, j + 1, n + 1, by omega, by rw [← hst]; rfl, by rw [gw2, gw3] <;> rfl, rfl⟩
  · have m1 : decide (((an + j : Nat) : Int) ≤ (bn : Int)) = false := decide_eq_false (by omega)
    repeat ((conv => whnf); first | (refine brT ?_ ?_; · (exact m1)) | (refine brF ?_ ?_; · (exact m1)))

    conv => whnf
    refine ⟨[1, 2], rfl, rfl, _, rfl, n, rfl, ?_, rfl, rfl⟩
    rw [hcn]
    by_cases hab : an ≤ bn
    · rw [← cnt_end f an bn, show an + j = bn + 1 from by omega]
    · rw [rangeP_empty f (by omega), show an + j = an from by omega, cnt_zero]; rfl
end Go.Proofs.Ytdmodejpcfhbhaa
