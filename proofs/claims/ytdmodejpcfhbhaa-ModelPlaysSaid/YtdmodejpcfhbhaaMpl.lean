/- ModelPlays: the rounds of the walk, one a kind of op. -/
import Derived.Test.YtdmodejpcfhbhaaMplA
namespace Go.Proofs.Ytdmodejpcfhbhaa
open Go.RowKit
variable {W : World}
theorem and4 {b1 b2 : Bool} {v1 v2 w1 w2 : Int} (h1 : (b1 == b2) = true) (h2 : (v1 == v2) = true) (h3 : (w1 == w2) = true) : eqA 0 0 v1 v2 w1 w2 b1 b2 = true := by unfold eqA; rw [h1, h2, h3]; rfl
attribute [local irreducible] keysF rangeP rangeG allG pairsOf eqRows isOpB setF setG2 maxF fndF SWP FWP OWP
set_option maxRecDepth 100000 in
set_option maxHeartbeats 8000000 in
theorem mpl_bad (lo n len cap : Nat) (z : Nat → Int) (h0 : lo + len * 4 ≤ n) (hl : len ≤ 60) (i k : Nat) (f g : Int → Option Int) (G : Nat → Int) (hki : k + i = len) (hR : Rel f g G) (hi : i < len) (hop : isOpB (z (lo + ((i : Int)).toNat * 4)) (z (lo + ((i : Int)).toNat * 4 + 1)) (z (lo + ((i : Int)).toNat * 4 + 2)) (z (lo + ((i : Int)).toNat * 4 + 3)) = false) :
    SWP Try.prog (means W) 1 (loopB Try.f5 0) (slT Try.f5.ntmps [0, 3, 4, 5] [.slice (some ⟨0, lo, none⟩) len cap, .pointer (some ⟨1, 0, none⟩), .pointer (some ⟨2, 0, none⟩), .int .i64 i]) (MPl.old lo n z :: two f g G) (roundK 1 Try.f5.ntmps [0, 3, 4, 5] (MPl.I lo n len cap z) k (Left 1 Try.f5.ntmps [] MPl.Q)) := by
  refine SWP.code envP5_ok 40 200 ?_
  have gi : decide (0 ≤ (i : Int) ∧ (i : Int) < (len : Int)) = true := decide_eq_true (by omega)
  have f1 : decide ((i : Int) < (len : Int)) = true := decide_eq_true (by omega)
  have f2 : decide (lo ≤ lo + ((i : Int)).toNat * 4 ∧ lo + ((i : Int)).toNat * 4 + 4 ≤ n) = true := decide_eq_true (by omega)
  have gw1 : ((i + 1 : Nat) : Int) = IntKind.i64.wrap ((i : Int) + 1) := by rw [wrapI (by omega) (by omega)]; rfl
  have hR2 : Rel f g G := hR
  have a1 := hR2.range 0 63
  have a2 := range_all f
  have a3 := range_len f 0 63
  cases hL : pairsOf f (keysF 64 (Mc.ints f).has) with
  | nil =>
    rw [hL] at a2
    rw [a2] at a1 a3
    have t1 : (pairsOf f (keysF 64 (Mc.ints f).has)).isEmpty = true := by rw [hL]; rfl
    have t2 : (rangeG G 0 63).isEmpty = true := by rw [a1]; rfl
    repeat ((conv => whnf); first | (refine brT ?_ ?_; · (first | exact f1 | exact f2 | exact hop | exact hscan | exact t1 | exact t2 | (simp; done))) | (refine brF ?_ ?_; · (first | exact f1 | exact f2 | exact hop | exact hscan | exact t1 | exact t2 | (simp; done))) | (rw [gi]))

    conv => whnf
    refine SWP.cutS Try.f5.ntmps [0, 3, 4, 5] (MPl.E lo n len cap z i f g G) ?_ ?_
    · exact mpl_inner lo n len cap z i f g G hR2 rfl rfl rfl rfl
    · rintro e vs H ⟨rfl, rfl, rfl⟩
      conv => whnf
      exact ⟨k - 1, by omega, [1, 2], rfl, rfl, _, rfl, i + 1, _, _, _, by omega, hR2, by rw [gw1] <;> rfl, rfl⟩
  | cons b s =>
    rw [hL] at a2
    rw [a2] at a1 a3
    have t1 : (pairsOf f (keysF 64 (Mc.ints f).has)).isEmpty = false := by rw [hL]; rfl
    have t2 : (rangeG G 0 63).isEmpty = false := by rw [a1]; rfl
    have t3 : (!eqRows (pairsOf f (keysF 64 (Mc.ints f).has)).length (pairF (pairsOf f (keysF 64 (Mc.ints f).has))) (pairsOf f (keysF 64 (Mc.ints f).has)).length (pairF (rangeG G 0 63))) = false := by rw [hL, a1, eqRows_refl]; rfl
    have t4 : ∀ a b : Nat, a ≠ b → decide ((59 : TypeId) = 59 ∧ (59 : TypeId) = 59 ∧ (pairsOf f (keysF 64 (Mc.ints f).has)).length = (pairsOf f (keysF 64 (Mc.ints f).has)).length ∧ (rangeG G 0 63).length = (rangeG G 0 63).length ∧ (pairsOf f (keysF 64 (Mc.ints f).has)).length = (rangeG G 0 63).length ∧ (pairsOf f (keysF 64 (Mc.ints f).has)).length ≤ 1000000 ∧ a ≠ b) = true := fun a b hab => decide_eq_true ⟨rfl, rfl, rfl, rfl, by rw [hL, a1], by rw [hL]; omega, hab⟩
    repeat ((conv => whnf); first | (refine brT ?_ ?_; · (first | exact f1 | exact f2 | exact hop | exact hscan | exact t1 | exact t2 | exact t3 | exact t4 _ _ (by simp) | (simp; done))) | (refine brF ?_ ?_; · (first | exact f1 | exact f2 | exact hop | exact hscan | exact t1 | exact t2 | exact t3 | exact t4 _ _ (by simp) | (simp; done))) | (rw [gi]))

    conv => whnf
    refine SWP.cutS Try.f5.ntmps [0, 3, 4, 5] (MPl.E lo n len cap z i f g G) ?_ ?_
    · exact mpl_inner lo n len cap z i f g G hR2 rfl rfl rfl rfl
    · rintro e vs H ⟨rfl, rfl, rfl⟩
      conv => whnf
      exact ⟨k - 1, by omega, [1, 2], rfl, rfl, _, rfl, i + 1, _, _, _, by omega, hR2, by rw [gw1] <;> rfl, rfl⟩
set_option maxRecDepth 100000 in
set_option maxHeartbeats 8000000 in
theorem mpl_put (lo n len cap : Nat) (z : Nat → Int) (h0 : lo + len * 4 ≤ n) (hl : len ≤ 60) (i k : Nat) (f g : Int → Option Int) (G : Nat → Int) (hki : k + i = len) (hR : Rel f g G) (hi : i < len) (hop : isOpB (z (lo + ((i : Int)).toNat * 4)) (z (lo + ((i : Int)).toNat * 4 + 1)) (z (lo + ((i : Int)).toNat * 4 + 2)) (z (lo + ((i : Int)).toNat * 4 + 3)) = true) (hk1 : (z (lo + ((i : Int)).toNat * 4)) = 1) :
    SWP Try.prog (means W) 1 (loopB Try.f5 0) (slT Try.f5.ntmps [0, 3, 4, 5] [.slice (some ⟨0, lo, none⟩) len cap, .pointer (some ⟨1, 0, none⟩), .pointer (some ⟨2, 0, none⟩), .int .i64 i]) (MPl.old lo n z :: two f g G) (roundK 1 Try.f5.ntmps [0, 3, 4, 5] (MPl.I lo n len cap z) k (Left 1 Try.f5.ntmps [] MPl.Q)) := by
  refine SWP.code envP5_ok 40 200 ?_
  have gi : decide (0 ≤ (i : Int) ∧ (i : Int) < (len : Int)) = true := decide_eq_true (by omega)
  have f1 : decide ((i : Int) < (len : Int)) = true := decide_eq_true (by omega)
  have f2 : decide (lo ≤ lo + ((i : Int)).toNat * 4 ∧ lo + ((i : Int)).toNat * 4 + 4 ≤ n) = true := decide_eq_true (by omega)
  have gw1 : ((i + 1 : Nat) : Int) = IntKind.i64.wrap ((i : Int) + 1) := by rw [wrapI (by omega) (by omega)]; rfl
  have hk := op_key hop
  have hv : 0 ≤ (z (lo + ((i : Int)).toNat * 4 + 2)) := op_val (key := (z (lo + ((i : Int)).toNat * 4 + 1))) (to := (z (lo + ((i : Int)).toNat * 4 + 3))) (by rw [hk1] at hop; exact hop)
  have k1 : decide ((z (lo + ((i : Int)).toNat * 4)) = 1) = true := decide_eq_true hk1
  have hR2 : Rel (setF f (z (lo + ((i : Int)).toNat * 4 + 1)) (some (z (lo + ((i : Int)).toNat * 4 + 2)))) (setF g (z (lo + ((i : Int)).toNat * 4 + 1)) (some (i : Int))) (setG2 G (z (lo + ((i : Int)).toNat * 4 + 1)) (z (lo + ((i : Int)).toNat * 4 + 2)) (i : Int)) := hR.put hk hv _
  have a1 := hR2.range 0 63
  have a2 := range_all (setF f (z (lo + ((i : Int)).toNat * 4 + 1)) (some (z (lo + ((i : Int)).toNat * 4 + 2))))
  have a3 := range_len (setF f (z (lo + ((i : Int)).toNat * 4 + 1)) (some (z (lo + ((i : Int)).toNat * 4 + 2)))) 0 63
  cases hL : pairsOf (setF f (z (lo + ((i : Int)).toNat * 4 + 1)) (some (z (lo + ((i : Int)).toNat * 4 + 2)))) (keysF 64 (Mc.ints (setF f (z (lo + ((i : Int)).toNat * 4 + 1)) (some (z (lo + ((i : Int)).toNat * 4 + 2))))).has) with
  | nil =>
    rw [hL] at a2
    rw [a2] at a1 a3
    have t1 : (pairsOf (setF f (z (lo + ((i : Int)).toNat * 4 + 1)) (some (z (lo + ((i : Int)).toNat * 4 + 2)))) (keysF 64 (Mc.ints (setF f (z (lo + ((i : Int)).toNat * 4 + 1)) (some (z (lo + ((i : Int)).toNat * 4 + 2))))).has)).isEmpty = true := by rw [hL]; rfl
    have t2 : (rangeG (setG2 G (z (lo + ((i : Int)).toNat * 4 + 1)) (z (lo + ((i : Int)).toNat * 4 + 2)) (i : Int)) 0 63).isEmpty = true := by rw [a1]; rfl
    repeat ((conv => whnf); first | (refine brT ?_ ?_; · (first | exact f1 | exact f2 | exact hop | exact hscan | exact t1 | exact t2 | exact k1 | (simp; done))) | (refine brF ?_ ?_; · (first | exact f1 | exact f2 | exact hop | exact hscan | exact t1 | exact t2 | exact k1 | (simp; done))) | (rw [gi]))

    conv => whnf
    refine SWP.cutS Try.f5.ntmps [0, 3, 4, 5] (MPl.E lo n len cap z i (setF f (z (lo + ((i : Int)).toNat * 4 + 1)) (some (z (lo + ((i : Int)).toNat * 4 + 2)))) (setF g (z (lo + ((i : Int)).toNat * 4 + 1)) (some (i : Int))) (setG2 G (z (lo + ((i : Int)).toNat * 4 + 1)) (z (lo + ((i : Int)).toNat * 4 + 2)) (i : Int))) ?_ ?_
    · exact mpl_inner lo n len cap z i (setF f (z (lo + ((i : Int)).toNat * 4 + 1)) (some (z (lo + ((i : Int)).toNat * 4 + 2)))) (setF g (z (lo + ((i : Int)).toNat * 4 + 1)) (some (i : Int))) (setG2 G (z (lo + ((i : Int)).toNat * 4 + 1)) (z (lo + ((i : Int)).toNat * 4 + 2)) (i : Int)) hR2 rfl rfl rfl rfl
    · rintro e vs H ⟨rfl, rfl, rfl⟩
      conv => whnf
      exact ⟨k - 1, by omega, [1, 2], rfl, rfl, _, rfl, i + 1, _, _, _, by omega, hR2, by rw [gw1] <;> rfl, rfl⟩
  | cons b s =>
    rw [hL] at a2
    rw [a2] at a1 a3
    have t1 : (pairsOf (setF f (z (lo + ((i : Int)).toNat * 4 + 1)) (some (z (lo + ((i : Int)).toNat * 4 + 2)))) (keysF 64 (Mc.ints (setF f (z (lo + ((i : Int)).toNat * 4 + 1)) (some (z (lo + ((i : Int)).toNat * 4 + 2))))).has)).isEmpty = false := by rw [hL]; rfl
    have t2 : (rangeG (setG2 G (z (lo + ((i : Int)).toNat * 4 + 1)) (z (lo + ((i : Int)).toNat * 4 + 2)) (i : Int)) 0 63).isEmpty = false := by rw [a1]; rfl
    have t3 : (!eqRows (pairsOf (setF f (z (lo + ((i : Int)).toNat * 4 + 1)) (some (z (lo + ((i : Int)).toNat * 4 + 2)))) (keysF 64 (Mc.ints (setF f (z (lo + ((i : Int)).toNat * 4 + 1)) (some (z (lo + ((i : Int)).toNat * 4 + 2))))).has)).length (pairF (pairsOf (setF f (z (lo + ((i : Int)).toNat * 4 + 1)) (some (z (lo + ((i : Int)).toNat * 4 + 2)))) (keysF 64 (Mc.ints (setF f (z (lo + ((i : Int)).toNat * 4 + 1)) (some (z (lo + ((i : Int)).toNat * 4 + 2))))).has))) (pairsOf (setF f (z (lo + ((i : Int)).toNat * 4 + 1)) (some (z (lo + ((i : Int)).toNat * 4 + 2)))) (keysF 64 (Mc.ints (setF f (z (lo + ((i : Int)).toNat * 4 + 1)) (some (z (lo + ((i : Int)).toNat * 4 + 2))))).has)).length (pairF (rangeG (setG2 G (z (lo + ((i : Int)).toNat * 4 + 1)) (z (lo + ((i : Int)).toNat * 4 + 2)) (i : Int)) 0 63))) = false := by rw [hL, a1, eqRows_refl]; rfl
    have t4 : ∀ a b : Nat, a ≠ b → decide ((59 : TypeId) = 59 ∧ (59 : TypeId) = 59 ∧ (pairsOf (setF f (z (lo + ((i : Int)).toNat * 4 + 1)) (some (z (lo + ((i : Int)).toNat * 4 + 2)))) (keysF 64 (Mc.ints (setF f (z (lo + ((i : Int)).toNat * 4 + 1)) (some (z (lo + ((i : Int)).toNat * 4 + 2))))).has)).length = (pairsOf (setF f (z (lo + ((i : Int)).toNat * 4 + 1)) (some (z (lo + ((i : Int)).toNat * 4 + 2)))) (keysF 64 (Mc.ints (setF f (z (lo + ((i : Int)).toNat * 4 + 1)) (some (z (lo + ((i : Int)).toNat * 4 + 2))))).has)).length ∧ (rangeG (setG2 G (z (lo + ((i : Int)).toNat * 4 + 1)) (z (lo + ((i : Int)).toNat * 4 + 2)) (i : Int)) 0 63).length = (rangeG (setG2 G (z (lo + ((i : Int)).toNat * 4 + 1)) (z (lo + ((i : Int)).toNat * 4 + 2)) (i : Int)) 0 63).length ∧ (pairsOf (setF f (z (lo + ((i : Int)).toNat * 4 + 1)) (some (z (lo + ((i : Int)).toNat * 4 + 2)))) (keysF 64 (Mc.ints (setF f (z (lo + ((i : Int)).toNat * 4 + 1)) (some (z (lo + ((i : Int)).toNat * 4 + 2))))).has)).length = (rangeG (setG2 G (z (lo + ((i : Int)).toNat * 4 + 1)) (z (lo + ((i : Int)).toNat * 4 + 2)) (i : Int)) 0 63).length ∧ (pairsOf (setF f (z (lo + ((i : Int)).toNat * 4 + 1)) (some (z (lo + ((i : Int)).toNat * 4 + 2)))) (keysF 64 (Mc.ints (setF f (z (lo + ((i : Int)).toNat * 4 + 1)) (some (z (lo + ((i : Int)).toNat * 4 + 2))))).has)).length ≤ 1000000 ∧ a ≠ b) = true := fun a b hab => decide_eq_true ⟨rfl, rfl, rfl, rfl, by rw [hL, a1], by rw [hL]; omega, hab⟩
    repeat ((conv => whnf); first | (refine brT ?_ ?_; · (first | exact f1 | exact f2 | exact hop | exact hscan | exact t1 | exact t2 | exact t3 | exact t4 _ _ (by simp) | exact k1 | (simp; done))) | (refine brF ?_ ?_; · (first | exact f1 | exact f2 | exact hop | exact hscan | exact t1 | exact t2 | exact t3 | exact t4 _ _ (by simp) | exact k1 | (simp; done))) | (rw [gi]))

    conv => whnf
    refine SWP.cutS Try.f5.ntmps [0, 3, 4, 5] (MPl.E lo n len cap z i (setF f (z (lo + ((i : Int)).toNat * 4 + 1)) (some (z (lo + ((i : Int)).toNat * 4 + 2)))) (setF g (z (lo + ((i : Int)).toNat * 4 + 1)) (some (i : Int))) (setG2 G (z (lo + ((i : Int)).toNat * 4 + 1)) (z (lo + ((i : Int)).toNat * 4 + 2)) (i : Int))) ?_ ?_
    · exact mpl_inner lo n len cap z i (setF f (z (lo + ((i : Int)).toNat * 4 + 1)) (some (z (lo + ((i : Int)).toNat * 4 + 2)))) (setF g (z (lo + ((i : Int)).toNat * 4 + 1)) (some (i : Int))) (setG2 G (z (lo + ((i : Int)).toNat * 4 + 1)) (z (lo + ((i : Int)).toNat * 4 + 2)) (i : Int)) hR2 rfl rfl rfl rfl
    · rintro e vs H ⟨rfl, rfl, rfl⟩
      conv => whnf
      exact ⟨k - 1, by omega, [1, 2], rfl, rfl, _, rfl, i + 1, _, _, _, by omega, hR2, by rw [gw1] <;> rfl, rfl⟩
set_option maxRecDepth 100000 in
set_option maxHeartbeats 8000000 in
theorem mpl_del (lo n len cap : Nat) (z : Nat → Int) (h0 : lo + len * 4 ≤ n) (hl : len ≤ 60) (i k : Nat) (f g : Int → Option Int) (G : Nat → Int) (hki : k + i = len) (hR : Rel f g G) (hi : i < len) (hop : isOpB (z (lo + ((i : Int)).toNat * 4)) (z (lo + ((i : Int)).toNat * 4 + 1)) (z (lo + ((i : Int)).toNat * 4 + 2)) (z (lo + ((i : Int)).toNat * 4 + 3)) = true) (hk1 : (z (lo + ((i : Int)).toNat * 4)) = 2) :
    SWP Try.prog (means W) 1 (loopB Try.f5 0) (slT Try.f5.ntmps [0, 3, 4, 5] [.slice (some ⟨0, lo, none⟩) len cap, .pointer (some ⟨1, 0, none⟩), .pointer (some ⟨2, 0, none⟩), .int .i64 i]) (MPl.old lo n z :: two f g G) (roundK 1 Try.f5.ntmps [0, 3, 4, 5] (MPl.I lo n len cap z) k (Left 1 Try.f5.ntmps [] MPl.Q)) := by
  refine SWP.code envP5_ok 40 200 ?_
  have gi : decide (0 ≤ (i : Int) ∧ (i : Int) < (len : Int)) = true := decide_eq_true (by omega)
  have f1 : decide ((i : Int) < (len : Int)) = true := decide_eq_true (by omega)
  have f2 : decide (lo ≤ lo + ((i : Int)).toNat * 4 ∧ lo + ((i : Int)).toNat * 4 + 4 ≤ n) = true := decide_eq_true (by omega)
  have gw1 : ((i + 1 : Nat) : Int) = IntKind.i64.wrap ((i : Int) + 1) := by rw [wrapI (by omega) (by omega)]; rfl
  have hk := op_key hop
  have k1 : decide ((z (lo + ((i : Int)).toNat * 4)) = 1) = false := decide_eq_false (by omega)
  have k2 : decide ((z (lo + ((i : Int)).toNat * 4)) = 2) = true := decide_eq_true hk1
  have hR2 : Rel (setF f (z (lo + ((i : Int)).toNat * 4 + 1)) none) (setF g (z (lo + ((i : Int)).toNat * 4 + 1)) (some (i : Int))) (setG2 G (z (lo + ((i : Int)).toNat * 4 + 1)) (-1) (i : Int)) := hR.del hk _
  have a1 := hR2.range 0 63
  have a2 := range_all (setF f (z (lo + ((i : Int)).toNat * 4 + 1)) none)
  have a3 := range_len (setF f (z (lo + ((i : Int)).toNat * 4 + 1)) none) 0 63
  cases hL : pairsOf (setF f (z (lo + ((i : Int)).toNat * 4 + 1)) none) (keysF 64 (Mc.ints (setF f (z (lo + ((i : Int)).toNat * 4 + 1)) none)).has) with
  | nil =>
    rw [hL] at a2
    rw [a2] at a1 a3
    have t1 : (pairsOf (setF f (z (lo + ((i : Int)).toNat * 4 + 1)) none) (keysF 64 (Mc.ints (setF f (z (lo + ((i : Int)).toNat * 4 + 1)) none)).has)).isEmpty = true := by rw [hL]; rfl
    have t2 : (rangeG (setG2 G (z (lo + ((i : Int)).toNat * 4 + 1)) (-1) (i : Int)) 0 63).isEmpty = true := by rw [a1]; rfl
    repeat ((conv => whnf); first | (refine brT ?_ ?_; · (first | exact f1 | exact f2 | exact hop | exact hscan | exact t1 | exact t2 | exact k1 | exact k2 | (simp; done))) | (refine brF ?_ ?_; · (first | exact f1 | exact f2 | exact hop | exact hscan | exact t1 | exact t2 | exact k1 | exact k2 | (simp; done))) | (rw [gi]))

    conv => whnf
    refine SWP.cutS Try.f5.ntmps [0, 3, 4, 5] (MPl.E lo n len cap z i (setF f (z (lo + ((i : Int)).toNat * 4 + 1)) none) (setF g (z (lo + ((i : Int)).toNat * 4 + 1)) (some (i : Int))) (setG2 G (z (lo + ((i : Int)).toNat * 4 + 1)) (-1) (i : Int))) ?_ ?_
    · exact mpl_inner lo n len cap z i (setF f (z (lo + ((i : Int)).toNat * 4 + 1)) none) (setF g (z (lo + ((i : Int)).toNat * 4 + 1)) (some (i : Int))) (setG2 G (z (lo + ((i : Int)).toNat * 4 + 1)) (-1) (i : Int)) hR2 rfl rfl rfl rfl
    · rintro e vs H ⟨rfl, rfl, rfl⟩
      conv => whnf
      exact ⟨k - 1, by omega, [1, 2], rfl, rfl, _, rfl, i + 1, _, _, _, by omega, hR2, by rw [gw1] <;> rfl, rfl⟩
  | cons b s =>
    rw [hL] at a2
    rw [a2] at a1 a3
    have t1 : (pairsOf (setF f (z (lo + ((i : Int)).toNat * 4 + 1)) none) (keysF 64 (Mc.ints (setF f (z (lo + ((i : Int)).toNat * 4 + 1)) none)).has)).isEmpty = false := by rw [hL]; rfl
    have t2 : (rangeG (setG2 G (z (lo + ((i : Int)).toNat * 4 + 1)) (-1) (i : Int)) 0 63).isEmpty = false := by rw [a1]; rfl
    have t3 : (!eqRows (pairsOf (setF f (z (lo + ((i : Int)).toNat * 4 + 1)) none) (keysF 64 (Mc.ints (setF f (z (lo + ((i : Int)).toNat * 4 + 1)) none)).has)).length (pairF (pairsOf (setF f (z (lo + ((i : Int)).toNat * 4 + 1)) none) (keysF 64 (Mc.ints (setF f (z (lo + ((i : Int)).toNat * 4 + 1)) none)).has))) (pairsOf (setF f (z (lo + ((i : Int)).toNat * 4 + 1)) none) (keysF 64 (Mc.ints (setF f (z (lo + ((i : Int)).toNat * 4 + 1)) none)).has)).length (pairF (rangeG (setG2 G (z (lo + ((i : Int)).toNat * 4 + 1)) (-1) (i : Int)) 0 63))) = false := by rw [hL, a1, eqRows_refl]; rfl
    have t4 : ∀ a b : Nat, a ≠ b → decide ((59 : TypeId) = 59 ∧ (59 : TypeId) = 59 ∧ (pairsOf (setF f (z (lo + ((i : Int)).toNat * 4 + 1)) none) (keysF 64 (Mc.ints (setF f (z (lo + ((i : Int)).toNat * 4 + 1)) none)).has)).length = (pairsOf (setF f (z (lo + ((i : Int)).toNat * 4 + 1)) none) (keysF 64 (Mc.ints (setF f (z (lo + ((i : Int)).toNat * 4 + 1)) none)).has)).length ∧ (rangeG (setG2 G (z (lo + ((i : Int)).toNat * 4 + 1)) (-1) (i : Int)) 0 63).length = (rangeG (setG2 G (z (lo + ((i : Int)).toNat * 4 + 1)) (-1) (i : Int)) 0 63).length ∧ (pairsOf (setF f (z (lo + ((i : Int)).toNat * 4 + 1)) none) (keysF 64 (Mc.ints (setF f (z (lo + ((i : Int)).toNat * 4 + 1)) none)).has)).length = (rangeG (setG2 G (z (lo + ((i : Int)).toNat * 4 + 1)) (-1) (i : Int)) 0 63).length ∧ (pairsOf (setF f (z (lo + ((i : Int)).toNat * 4 + 1)) none) (keysF 64 (Mc.ints (setF f (z (lo + ((i : Int)).toNat * 4 + 1)) none)).has)).length ≤ 1000000 ∧ a ≠ b) = true := fun a b hab => decide_eq_true ⟨rfl, rfl, rfl, rfl, by rw [hL, a1], by rw [hL]; omega, hab⟩
    repeat ((conv => whnf); first | (refine brT ?_ ?_; · (first | exact f1 | exact f2 | exact hop | exact hscan | exact t1 | exact t2 | exact t3 | exact t4 _ _ (by simp) | exact k1 | exact k2 | (simp; done))) | (refine brF ?_ ?_; · (first | exact f1 | exact f2 | exact hop | exact hscan | exact t1 | exact t2 | exact t3 | exact t4 _ _ (by simp) | exact k1 | exact k2 | (simp; done))) | (rw [gi]))

    conv => whnf
    refine SWP.cutS Try.f5.ntmps [0, 3, 4, 5] (MPl.E lo n len cap z i (setF f (z (lo + ((i : Int)).toNat * 4 + 1)) none) (setF g (z (lo + ((i : Int)).toNat * 4 + 1)) (some (i : Int))) (setG2 G (z (lo + ((i : Int)).toNat * 4 + 1)) (-1) (i : Int))) ?_ ?_
    · exact mpl_inner lo n len cap z i (setF f (z (lo + ((i : Int)).toNat * 4 + 1)) none) (setF g (z (lo + ((i : Int)).toNat * 4 + 1)) (some (i : Int))) (setG2 G (z (lo + ((i : Int)).toNat * 4 + 1)) (-1) (i : Int)) hR2 rfl rfl rfl rfl
    · rintro e vs H ⟨rfl, rfl, rfl⟩
      conv => whnf
      exact ⟨k - 1, by omega, [1, 2], rfl, rfl, _, rfl, i + 1, _, _, _, by omega, hR2, by rw [gw1] <;> rfl, rfl⟩
set_option maxRecDepth 100000 in
set_option maxHeartbeats 8000000 in
theorem mpl_scan0 (lo n len cap : Nat) (z : Nat → Int) (h0 : lo + len * 4 ≤ n) (hl : len ≤ 60) (i k : Nat) (f g : Int → Option Int) (G : Nat → Int) (hki : k + i = len) (hR : Rel f g G) (hi : i < len) (hop : isOpB (z (lo + ((i : Int)).toNat * 4)) (z (lo + ((i : Int)).toNat * 4 + 1)) (z (lo + ((i : Int)).toNat * 4 + 2)) (z (lo + ((i : Int)).toNat * 4 + 3)) = true) (hk1 : (z (lo + ((i : Int)).toNat * 4)) = 4) (hQ : (rangeP f (z (lo + ((i : Int)).toNat * 4 + 1)) (z (lo + ((i : Int)).toNat * 4 + 3))).isEmpty = true) :
    SWP Try.prog (means W) 1 (loopB Try.f5 0) (slT Try.f5.ntmps [0, 3, 4, 5] [.slice (some ⟨0, lo, none⟩) len cap, .pointer (some ⟨1, 0, none⟩), .pointer (some ⟨2, 0, none⟩), .int .i64 i]) (MPl.old lo n z :: two f g G) (roundK 1 Try.f5.ntmps [0, 3, 4, 5] (MPl.I lo n len cap z) k (Left 1 Try.f5.ntmps [] MPl.Q)) := by
  refine SWP.code envP5_ok 40 200 ?_
  have gi : decide (0 ≤ (i : Int) ∧ (i : Int) < (len : Int)) = true := decide_eq_true (by omega)
  have f1 : decide ((i : Int) < (len : Int)) = true := decide_eq_true (by omega)
  have f2 : decide (lo ≤ lo + ((i : Int)).toNat * 4 ∧ lo + ((i : Int)).toNat * 4 + 4 ≤ n) = true := decide_eq_true (by omega)
  have gw1 : ((i + 1 : Nat) : Int) = IntKind.i64.wrap ((i : Int) + 1) := by rw [wrapI (by omega) (by omega)]; rfl
  have b1 := hR.range (z (lo + ((i : Int)).toNat * 4 + 1)) (z (lo + ((i : Int)).toNat * 4 + 3))
  have b3 := range_len f (z (lo + ((i : Int)).toNat * 4 + 1)) (z (lo + ((i : Int)).toNat * 4 + 3))
  have k1 : decide ((z (lo + ((i : Int)).toNat * 4)) = 1) = false := decide_eq_false (by omega)
  have k2 : decide ((z (lo + ((i : Int)).toNat * 4)) = 2) = false := decide_eq_false (by omega)
  have k3 : decide ((z (lo + ((i : Int)).toNat * 4)) = 3) = false := decide_eq_false (by omega)
  have u1 := hQ
  have u2 : (rangeG G (z (lo + ((i : Int)).toNat * 4 + 1)) (z (lo + ((i : Int)).toNat * 4 + 3))).isEmpty = true := by rw [b1]; exact hQ
  have hR2 : Rel f g G := hR
  have a1 := hR2.range 0 63
  have a2 := range_all f
  have a3 := range_len f 0 63
  cases hL : pairsOf f (keysF 64 (Mc.ints f).has) with
  | nil =>
    rw [hL] at a2
    rw [a2] at a1 a3
    have t1 : (pairsOf f (keysF 64 (Mc.ints f).has)).isEmpty = true := by rw [hL]; rfl
    have t2 : (rangeG G 0 63).isEmpty = true := by rw [a1]; rfl
    repeat ((conv => whnf); first | (refine brT ?_ ?_; · (first | exact f1 | exact f2 | exact hop | exact hscan | exact t1 | exact t2 | exact k1 | exact k2 | exact k3 | exact u1 | exact u2 | (simp; done))) | (refine brF ?_ ?_; · (first | exact f1 | exact f2 | exact hop | exact hscan | exact t1 | exact t2 | exact k1 | exact k2 | exact k3 | exact u1 | exact u2 | (simp; done))) | (rw [gi]))

    conv => whnf
    refine SWP.cutS Try.f5.ntmps [0, 3, 4, 5] (MPl.E lo n len cap z i f g G) ?_ ?_
    · exact mpl_inner lo n len cap z i f g G hR2 rfl rfl rfl rfl
    · rintro e vs H ⟨rfl, rfl, rfl⟩
      conv => whnf
      exact ⟨k - 1, by omega, [1, 2], rfl, rfl, _, rfl, i + 1, _, _, _, by omega, hR2, by rw [gw1] <;> rfl, rfl⟩
  | cons b s =>
    rw [hL] at a2
    rw [a2] at a1 a3
    have t1 : (pairsOf f (keysF 64 (Mc.ints f).has)).isEmpty = false := by rw [hL]; rfl
    have t2 : (rangeG G 0 63).isEmpty = false := by rw [a1]; rfl
    have t3 : (!eqRows (pairsOf f (keysF 64 (Mc.ints f).has)).length (pairF (pairsOf f (keysF 64 (Mc.ints f).has))) (pairsOf f (keysF 64 (Mc.ints f).has)).length (pairF (rangeG G 0 63))) = false := by rw [hL, a1, eqRows_refl]; rfl
    have t4 : ∀ a b : Nat, a ≠ b → decide ((59 : TypeId) = 59 ∧ (59 : TypeId) = 59 ∧ (pairsOf f (keysF 64 (Mc.ints f).has)).length = (pairsOf f (keysF 64 (Mc.ints f).has)).length ∧ (rangeG G 0 63).length = (rangeG G 0 63).length ∧ (pairsOf f (keysF 64 (Mc.ints f).has)).length = (rangeG G 0 63).length ∧ (pairsOf f (keysF 64 (Mc.ints f).has)).length ≤ 1000000 ∧ a ≠ b) = true := fun a b hab => decide_eq_true ⟨rfl, rfl, rfl, rfl, by rw [hL, a1], by rw [hL]; omega, hab⟩
    repeat ((conv => whnf); first | (refine brT ?_ ?_; · (first | exact f1 | exact f2 | exact hop | exact hscan | exact t1 | exact t2 | exact t3 | exact t4 _ _ (by simp) | exact k1 | exact k2 | exact k3 | exact u1 | exact u2 | (simp; done))) | (refine brF ?_ ?_; · (first | exact f1 | exact f2 | exact hop | exact hscan | exact t1 | exact t2 | exact t3 | exact t4 _ _ (by simp) | exact k1 | exact k2 | exact k3 | exact u1 | exact u2 | (simp; done))) | (rw [gi]))

    conv => whnf
    refine SWP.cutS Try.f5.ntmps [0, 3, 4, 5] (MPl.E lo n len cap z i f g G) ?_ ?_
    · exact mpl_inner lo n len cap z i f g G hR2 rfl rfl rfl rfl
    · rintro e vs H ⟨rfl, rfl, rfl⟩
      conv => whnf
      exact ⟨k - 1, by omega, [1, 2], rfl, rfl, _, rfl, i + 1, _, _, _, by omega, hR2, by rw [gw1] <;> rfl, rfl⟩
set_option maxRecDepth 100000 in
set_option maxHeartbeats 8000000 in
theorem mpl_scan1 (lo n len cap : Nat) (z : Nat → Int) (h0 : lo + len * 4 ≤ n) (hl : len ≤ 60) (i k : Nat) (f g : Int → Option Int) (G : Nat → Int) (hki : k + i = len) (hR : Rel f g G) (hi : i < len) (hop : isOpB (z (lo + ((i : Int)).toNat * 4)) (z (lo + ((i : Int)).toNat * 4 + 1)) (z (lo + ((i : Int)).toNat * 4 + 2)) (z (lo + ((i : Int)).toNat * 4 + 3)) = true) (hk1 : (z (lo + ((i : Int)).toNat * 4)) = 4) (hQ : (rangeP f (z (lo + ((i : Int)).toNat * 4 + 1)) (z (lo + ((i : Int)).toNat * 4 + 3))).isEmpty = false) :
    SWP Try.prog (means W) 1 (loopB Try.f5 0) (slT Try.f5.ntmps [0, 3, 4, 5] [.slice (some ⟨0, lo, none⟩) len cap, .pointer (some ⟨1, 0, none⟩), .pointer (some ⟨2, 0, none⟩), .int .i64 i]) (MPl.old lo n z :: two f g G) (roundK 1 Try.f5.ntmps [0, 3, 4, 5] (MPl.I lo n len cap z) k (Left 1 Try.f5.ntmps [] MPl.Q)) := by
  refine SWP.code envP5_ok 40 200 ?_
  have gi : decide (0 ≤ (i : Int) ∧ (i : Int) < (len : Int)) = true := decide_eq_true (by omega)
  have f1 : decide ((i : Int) < (len : Int)) = true := decide_eq_true (by omega)
  have f2 : decide (lo ≤ lo + ((i : Int)).toNat * 4 ∧ lo + ((i : Int)).toNat * 4 + 4 ≤ n) = true := decide_eq_true (by omega)
  have gw1 : ((i + 1 : Nat) : Int) = IntKind.i64.wrap ((i : Int) + 1) := by rw [wrapI (by omega) (by omega)]; rfl
  have b1 := hR.range (z (lo + ((i : Int)).toNat * 4 + 1)) (z (lo + ((i : Int)).toNat * 4 + 3))
  have b3 := range_len f (z (lo + ((i : Int)).toNat * 4 + 1)) (z (lo + ((i : Int)).toNat * 4 + 3))
  have k1 : decide ((z (lo + ((i : Int)).toNat * 4)) = 1) = false := decide_eq_false (by omega)
  have k2 : decide ((z (lo + ((i : Int)).toNat * 4)) = 2) = false := decide_eq_false (by omega)
  have k3 : decide ((z (lo + ((i : Int)).toNat * 4)) = 3) = false := decide_eq_false (by omega)
  have u1 := hQ
  have u2 : (rangeG G (z (lo + ((i : Int)).toNat * 4 + 1)) (z (lo + ((i : Int)).toNat * 4 + 3))).isEmpty = false := by rw [b1]; exact hQ
  have u3 : eqRows (rangeP f (z (lo + ((i : Int)).toNat * 4 + 1)) (z (lo + ((i : Int)).toNat * 4 + 3))).length (pairF (rangeP f (z (lo + ((i : Int)).toNat * 4 + 1)) (z (lo + ((i : Int)).toNat * 4 + 3)))) (rangeP f (z (lo + ((i : Int)).toNat * 4 + 1)) (z (lo + ((i : Int)).toNat * 4 + 3))).length (pairF (rangeG G (z (lo + ((i : Int)).toNat * 4 + 1)) (z (lo + ((i : Int)).toNat * 4 + 3)))) = true := by rw [b1]; exact eqRows_refl _ _
  have u5 := congrArg (!·) u3
  have u4 : ∀ a b : Nat, a ≠ b → decide ((59 : TypeId) = 59 ∧ (59 : TypeId) = 59 ∧ (rangeP f (z (lo + ((i : Int)).toNat * 4 + 1)) (z (lo + ((i : Int)).toNat * 4 + 3))).length = (rangeP f (z (lo + ((i : Int)).toNat * 4 + 1)) (z (lo + ((i : Int)).toNat * 4 + 3))).length ∧ (rangeG G (z (lo + ((i : Int)).toNat * 4 + 1)) (z (lo + ((i : Int)).toNat * 4 + 3))).length = (rangeG G (z (lo + ((i : Int)).toNat * 4 + 1)) (z (lo + ((i : Int)).toNat * 4 + 3))).length ∧ (rangeP f (z (lo + ((i : Int)).toNat * 4 + 1)) (z (lo + ((i : Int)).toNat * 4 + 3))).length = (rangeG G (z (lo + ((i : Int)).toNat * 4 + 1)) (z (lo + ((i : Int)).toNat * 4 + 3))).length ∧ (rangeP f (z (lo + ((i : Int)).toNat * 4 + 1)) (z (lo + ((i : Int)).toNat * 4 + 3))).length ≤ 1000000 ∧ a ≠ b) = true := fun a b hab => decide_eq_true ⟨rfl, rfl, rfl, rfl, by rw [b1], by omega, hab⟩
  have hR2 : Rel f g G := hR
  have a1 := hR2.range 0 63
  have a2 := range_all f
  have a3 := range_len f 0 63
  cases hL : pairsOf f (keysF 64 (Mc.ints f).has) with
  | nil =>
    rw [hL] at a2
    rw [a2] at a1 a3
    have t1 : (pairsOf f (keysF 64 (Mc.ints f).has)).isEmpty = true := by rw [hL]; rfl
    have t2 : (rangeG G 0 63).isEmpty = true := by rw [a1]; rfl
    repeat ((conv => whnf); first | (refine brT ?_ ?_; · (first | exact f1 | exact f2 | exact hop | exact hscan | exact t1 | exact t2 | exact k1 | exact k2 | exact k3 | exact u1 | exact u2 | exact u3 | exact u5 | exact u4 _ _ (by simp) | (simp [u3]; done) | (simp; done))) | (refine brF ?_ ?_; · (first | exact f1 | exact f2 | exact hop | exact hscan | exact t1 | exact t2 | exact k1 | exact k2 | exact k3 | exact u1 | exact u2 | exact u3 | exact u5 | exact u4 _ _ (by simp) | (simp [u3]; done) | (simp; done))) | (rw [gi]))

    conv => whnf
    refine SWP.cutS Try.f5.ntmps [0, 3, 4, 5] (MPl.E lo n len cap z i f g G) ?_ ?_
    · exact mpl_inner lo n len cap z i f g G hR2 rfl rfl rfl rfl
    · rintro e vs H ⟨rfl, rfl, rfl⟩
      conv => whnf
      exact ⟨k - 1, by omega, [1, 2], rfl, rfl, _, rfl, i + 1, _, _, _, by omega, hR2, by rw [gw1] <;> rfl, rfl⟩
  | cons b s =>
    rw [hL] at a2
    rw [a2] at a1 a3
    have t1 : (pairsOf f (keysF 64 (Mc.ints f).has)).isEmpty = false := by rw [hL]; rfl
    have t2 : (rangeG G 0 63).isEmpty = false := by rw [a1]; rfl
    have t3 : (!eqRows (pairsOf f (keysF 64 (Mc.ints f).has)).length (pairF (pairsOf f (keysF 64 (Mc.ints f).has))) (pairsOf f (keysF 64 (Mc.ints f).has)).length (pairF (rangeG G 0 63))) = false := by rw [hL, a1, eqRows_refl]; rfl
    have t4 : ∀ a b : Nat, a ≠ b → decide ((59 : TypeId) = 59 ∧ (59 : TypeId) = 59 ∧ (pairsOf f (keysF 64 (Mc.ints f).has)).length = (pairsOf f (keysF 64 (Mc.ints f).has)).length ∧ (rangeG G 0 63).length = (rangeG G 0 63).length ∧ (pairsOf f (keysF 64 (Mc.ints f).has)).length = (rangeG G 0 63).length ∧ (pairsOf f (keysF 64 (Mc.ints f).has)).length ≤ 1000000 ∧ a ≠ b) = true := fun a b hab => decide_eq_true ⟨rfl, rfl, rfl, rfl, by rw [hL, a1], by rw [hL]; omega, hab⟩
    repeat ((conv => whnf); first | (refine brT ?_ ?_; · (first | exact f1 | exact f2 | exact hop | exact hscan | exact t1 | exact t2 | exact t3 | exact t4 _ _ (by simp) | exact k1 | exact k2 | exact k3 | exact u1 | exact u2 | exact u3 | exact u5 | exact u4 _ _ (by simp) | (simp [u3]; done) | (simp; done))) | (refine brF ?_ ?_; · (first | exact f1 | exact f2 | exact hop | exact hscan | exact t1 | exact t2 | exact t3 | exact t4 _ _ (by simp) | exact k1 | exact k2 | exact k3 | exact u1 | exact u2 | exact u3 | exact u5 | exact u4 _ _ (by simp) | (simp [u3]; done) | (simp; done))) | (rw [gi]))

    conv => whnf
    refine SWP.cutS Try.f5.ntmps [0, 3, 4, 5] (MPl.E lo n len cap z i f g G) ?_ ?_
    · exact mpl_inner lo n len cap z i f g G hR2 rfl rfl rfl rfl
    · rintro e vs H ⟨rfl, rfl, rfl⟩
      conv => whnf
      exact ⟨k - 1, by omega, [1, 2], rfl, rfl, _, rfl, i + 1, _, _, _, by omega, hR2, by rw [gw1] <;> rfl, rfl⟩
attribute [local irreducible] eqA
set_option maxRecDepth 100000 in
set_option maxHeartbeats 8000000 in
theorem mpl_get (lo n len cap : Nat) (z : Nat → Int) (h0 : lo + len * 4 ≤ n) (hl : len ≤ 60) (i k : Nat) (f g : Int → Option Int) (G : Nat → Int) (hki : k + i = len) (hR : Rel f g G) (hi : i < len) (hop : isOpB (z (lo + ((i : Int)).toNat * 4)) (z (lo + ((i : Int)).toNat * 4 + 1)) (z (lo + ((i : Int)).toNat * 4 + 2)) (z (lo + ((i : Int)).toNat * 4 + 3)) = true) (hk1 : (z (lo + ((i : Int)).toNat * 4)) = 3) :
    SWP Try.prog (means W) 1 (loopB Try.f5 0) (slT Try.f5.ntmps [0, 3, 4, 5] [.slice (some ⟨0, lo, none⟩) len cap, .pointer (some ⟨1, 0, none⟩), .pointer (some ⟨2, 0, none⟩), .int .i64 i]) (MPl.old lo n z :: two f g G) (roundK 1 Try.f5.ntmps [0, 3, 4, 5] (MPl.I lo n len cap z) k (Left 1 Try.f5.ntmps [] MPl.Q)) := by
  refine SWP.code envP5_ok 40 200 ?_
  have gi : decide (0 ≤ (i : Int) ∧ (i : Int) < (len : Int)) = true := decide_eq_true (by omega)
  have f1 : decide ((i : Int) < (len : Int)) = true := decide_eq_true (by omega)
  have f2 : decide (lo ≤ lo + ((i : Int)).toNat * 4 ∧ lo + ((i : Int)).toNat * 4 + 4 ≤ n) = true := decide_eq_true (by omega)
  have gw1 : ((i + 1 : Nat) : Int) = IntKind.i64.wrap ((i : Int) + 1) := by rw [wrapI (by omega) (by omega)]; rfl
  have hk := op_key hop
  obtain ⟨kn, hkn⟩ := Int.eq_ofNat_of_zero_le hk.1
  have hkl : kn < 64 := by omega
  have g1 : fndF (G kn) = (f kn).isSome := by unfold fndF; exact hR.found hkl
  have g2 : maxF (G kn) = (f kn).getD 0 := by unfold maxF; exact hR.val hkl
  have g3 := hR.w kn hkl
  rw [show kn = ((z (lo + ((i : Int)).toNat * 4 + 1))).toNat from by rw [hkn]; rfl] at g1 g2 g3
  rw [show ((((z (lo + ((i : Int)).toNat * 4 + 1))).toNat : Nat) : Int) = (z (lo + ((i : Int)).toNat * 4 + 1)) from by rw [hkn]; rfl] at g1 g2 g3
  have d1 : ((f (z (lo + ((i : Int)).toNat * 4 + 1))).isSome == fndF (G ((z (lo + ((i : Int)).toNat * 4 + 1))).toNat)) = true := by rw [g1]; simp
  have d2 : ((f (z (lo + ((i : Int)).toNat * 4 + 1))).getD 0 == maxF (G ((z (lo + ((i : Int)).toNat * 4 + 1))).toNat)) = true := by rw [g2]; simp
  have d3 : ((g (z (lo + ((i : Int)).toNat * 4 + 1))).getD (-1) == G (64 + ((z (lo + ((i : Int)).toNat * 4 + 1))).toNat)) = true := by rw [g3]; simp
  have n1 := and4 d1 d2 d3
  have k1 : decide ((z (lo + ((i : Int)).toNat * 4)) = 1) = false := decide_eq_false (by omega)
  have k2 : decide ((z (lo + ((i : Int)).toNat * 4)) = 2) = false := decide_eq_false (by omega)
  have k3 : decide ((z (lo + ((i : Int)).toNat * 4)) = 3) = true := decide_eq_true hk1
  have hR2 : Rel f g G := hR
  have a1 := hR2.range 0 63
  have a2 := range_all f
  have a3 := range_len f 0 63
  cases hL : pairsOf f (keysF 64 (Mc.ints f).has) with
  | nil =>
    rw [hL] at a2
    rw [a2] at a1 a3
    have t1 : (pairsOf f (keysF 64 (Mc.ints f).has)).isEmpty = true := by rw [hL]; rfl
    have t2 : (rangeG G 0 63).isEmpty = true := by rw [a1]; rfl
    repeat ((conv => whnf); first | (refine brT ?_ ?_; · (first | exact f1 | exact f2 | exact hop | exact hscan | exact t1 | exact t2 | exact k1 | exact k2 | exact k3 | exact n1 | (simp; done))) | (refine brF ?_ ?_; · (first | exact f1 | exact f2 | exact hop | exact hscan | exact t1 | exact t2 | exact k1 | exact k2 | exact k3 | exact n1 | (simp; done))) | (rw [gi]))

    conv => whnf
    refine SWP.cutS Try.f5.ntmps [0, 3, 4, 5] (MPl.E lo n len cap z i f g G) ?_ ?_
    · exact mpl_inner lo n len cap z i f g G hR2 rfl rfl rfl rfl
    · rintro e vs H ⟨rfl, rfl, rfl⟩
      conv => whnf
      exact ⟨k - 1, by omega, [1, 2], rfl, rfl, _, rfl, i + 1, _, _, _, by omega, hR2, by rw [gw1] <;> rfl, rfl⟩
  | cons b s =>
    rw [hL] at a2
    rw [a2] at a1 a3
    have t1 : (pairsOf f (keysF 64 (Mc.ints f).has)).isEmpty = false := by rw [hL]; rfl
    have t2 : (rangeG G 0 63).isEmpty = false := by rw [a1]; rfl
    have t3 : (!eqRows (pairsOf f (keysF 64 (Mc.ints f).has)).length (pairF (pairsOf f (keysF 64 (Mc.ints f).has))) (pairsOf f (keysF 64 (Mc.ints f).has)).length (pairF (rangeG G 0 63))) = false := by rw [hL, a1, eqRows_refl]; rfl
    have t4 : ∀ a b : Nat, a ≠ b → decide ((59 : TypeId) = 59 ∧ (59 : TypeId) = 59 ∧ (pairsOf f (keysF 64 (Mc.ints f).has)).length = (pairsOf f (keysF 64 (Mc.ints f).has)).length ∧ (rangeG G 0 63).length = (rangeG G 0 63).length ∧ (pairsOf f (keysF 64 (Mc.ints f).has)).length = (rangeG G 0 63).length ∧ (pairsOf f (keysF 64 (Mc.ints f).has)).length ≤ 1000000 ∧ a ≠ b) = true := fun a b hab => decide_eq_true ⟨rfl, rfl, rfl, rfl, by rw [hL, a1], by rw [hL]; omega, hab⟩
    repeat ((conv => whnf); first | (refine brT ?_ ?_; · (first | exact f1 | exact f2 | exact hop | exact hscan | exact t1 | exact t2 | exact t3 | exact t4 _ _ (by simp) | exact k1 | exact k2 | exact k3 | exact n1 | (simp; done))) | (refine brF ?_ ?_; · (first | exact f1 | exact f2 | exact hop | exact hscan | exact t1 | exact t2 | exact t3 | exact t4 _ _ (by simp) | exact k1 | exact k2 | exact k3 | exact n1 | (simp; done))) | (rw [gi]))

    conv => whnf
    refine SWP.cutS Try.f5.ntmps [0, 3, 4, 5] (MPl.E lo n len cap z i f g G) ?_ ?_
    · exact mpl_inner lo n len cap z i f g G hR2 rfl rfl rfl rfl
    · rintro e vs H ⟨rfl, rfl, rfl⟩
      conv => whnf
      exact ⟨k - 1, by omega, [1, 2], rfl, rfl, _, rfl, i + 1, _, _, _, by omega, hR2, by rw [gw1] <;> rfl, rfl⟩
end Go.Proofs.Ytdmodejpcfhbhaa
