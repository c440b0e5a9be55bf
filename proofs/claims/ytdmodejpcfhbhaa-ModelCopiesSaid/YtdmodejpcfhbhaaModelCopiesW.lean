/- ModelCopies: the walk. (printed by mcopies2.py) -/
import Derived.Test.YtdmodejpcfhbhaaMcp
import Derived.Test.YtdmodejpcfhbhaaTabs
namespace Go.Proofs.Ytdmodejpcfhbhaa
open Go.RowKit
variable {W : World}
attribute [local irreducible] keysF rangeP rangeG allG pairsOf eqRows isOpB setF setG2 maxF fndF SWP FWP OWP
set_option maxRecDepth 100000 in
set_option maxHeartbeats 8000000 in
theorem modelCopies_nn (lo n lo2 n2 : Nat) (z z2 : Nat → Int) : FWP Try.prog (means W) 8 [.slice none 0 0, .slice none 0 0] [oldR lo n z, oldR lo2 n2 z2] fun a _ => a = .bool true := by
  refine FWP.body envP5_ok 40 Try.func8 rfl (by exact Nat.le_of_ble_eq_true rfl) ?_
  repeat ((conv => whnf); first | (refine brT ?_ ?_; · (first | (simp; done))) | (refine brF ?_ ?_; · (first | (simp; done))))

  conv => whnf
  refine SWP.cutS Try.f8.ntmps [1, 5] (MCp.Q0 (.slice none 0 0) (oldR lo n z) (oldR lo2 n2 z2)) (mcp_l0 lo n 0 lo2 n2 0 (.slice none 0 0) (.slice none 0 0) (.inl ⟨rfl, rfl⟩) (.inl ⟨rfl, rfl⟩) z z2 (by omega) [4] rfl rfl rfl rfl rfl) ?_
  rintro e vs H ⟨f, g, rfl, hW, rfl, rfl⟩
  cases hL : (pairsOf f (keysF 64 (Mc.ints f).has)) with
  | nil =>
    have t1 : (pairsOf f (keysF 64 (Mc.ints f).has)).isEmpty = true := by rw [hL]; rfl
    repeat ((conv => whnf); first | (refine brT ?_ ?_; · (first | exact t1 | (simp; done))) | (refine brF ?_ ?_; · (first | exact t1 | (simp; done))))

    conv => whnf
    refine SWP.cutS Try.f8.ntmps [5, 7] (MCp.Q1 (oldR lo n z) (oldR lo2 n2 z2) f g 2) (mcp_l11 lo n lo2 n2 0 (.slice none 0 0) (.inl ⟨rfl, rfl⟩) z z2 (by omega) f g f g [2, 5] rfl rfl rfl rfl rfl) ?_
    rintro e vs H ⟨rfl, rfl, rfl⟩
    conv => whnf
    refine SWP.cutS Try.f8.ntmps [5, 7] (MCp.Q1 (oldR lo n z) (oldR lo2 n2 z2) f g 4) (mcp_l21 lo n lo2 n2 z z2 f g hW [2] rfl rfl rfl rfl rfl) ?_
    rintro e vs H ⟨rfl, rfl, rfl⟩
    repeat ((conv => whnf); first | (refine brT ?_ ?_; · (first | exact t1 | (simp; done))) | (refine brF ?_ ?_; · (first | exact t1 | (simp; done))))

    conv => whnf
    rfl
  | cons b s =>
    have t1 : (pairsOf f (keysF 64 (Mc.ints f).has)).isEmpty = false := by rw [hL]; rfl
    have t2 : (pairsOf f (keysF 64 (Mc.ints f).has)).length ≤ 64 := by have := range_len f 0 63; rw [range_all f] at this; exact this
    have t3 : eqRows (pairsOf f (keysF 64 (Mc.ints f).has)).length (pairF (pairsOf f (keysF 64 (Mc.ints f).has))) (pairsOf f (keysF 64 (Mc.ints f).has)).length (pairF (pairsOf f (keysF 64 (Mc.ints f).has))) = true := eqRows_refl _ _
    have t5 : (!eqRows (pairsOf f (keysF 64 (Mc.ints f).has)).length (pairF (pairsOf f (keysF 64 (Mc.ints f).has))) (pairsOf f (keysF 64 (Mc.ints f).has)).length (pairF (pairsOf f (keysF 64 (Mc.ints f).has)))) = false := by rw [t3]; rfl
    clear hL
    revert t1 t2 t3 t5
    have t4 : ∀ (n a b : Nat), n ≤ 64 → a ≠ b → decide ((59 : TypeId) = 59 ∧ (59 : TypeId) = 59 ∧ n = n ∧ n = n ∧ n = n ∧ n ≤ 1000000 ∧ a ≠ b) = true := fun n a b hn hab => decide_eq_true ⟨rfl, rfl, rfl, rfl, rfl, by omega, hab⟩
    intro t1 t2 t3 t5
    repeat ((conv => whnf); first | (refine brT ?_ ?_; · (first | exact t1 | exact t5 | exact t4 _ _ _ t2 (by simp) | (simp; done))) | (refine brF ?_ ?_; · (first | exact t1 | exact t5 | exact t4 _ _ _ t2 (by simp) | (simp; done))))

    conv => whnf
    refine SWP.cutS Try.f8.ntmps [5, 7] (MCp.Q2 (oldR lo n z) (oldR lo2 n2 z2) f g (pairsOf f (keysF 64 (Mc.ints f).has)).length (pairF (pairsOf f (keysF 64 (Mc.ints f).has))) 2) (mcp_l12 lo n lo2 n2 0 (.slice none 0 0) (.inl ⟨rfl, rfl⟩) z z2 (by omega) f g (pairsOf f (keysF 64 (Mc.ints f).has)).length (pairF (pairsOf f (keysF 64 (Mc.ints f).has))) f g [2, 3, 6] rfl rfl rfl rfl rfl) ?_
    rintro e vs H ⟨rfl, rfl, rfl⟩
    conv => whnf
    refine SWP.cutS Try.f8.ntmps [5, 7] (MCp.Q2 (oldR lo n z) (oldR lo2 n2 z2) f g (pairsOf f (keysF 64 (Mc.ints f).has)).length (pairF (pairsOf f (keysF 64 (Mc.ints f).has))) 4) (mcp_l22 lo n lo2 n2 z z2 f g hW (pairsOf f (keysF 64 (Mc.ints f).has)).length (pairF (pairsOf f (keysF 64 (Mc.ints f).has))) [2, 3] rfl rfl rfl rfl rfl) ?_
    rintro e vs H ⟨rfl, rfl, rfl⟩
    repeat ((conv => whnf); first | (refine brT ?_ ?_; · (first | exact t1 | exact t4 _ _ _ t2 (by simp) | (simp; done))) | (refine brF ?_ ?_; · (first | exact t1 | exact t4 _ _ _ t2 (by simp) | (simp; done))))

    conv => whnf
    exact congrArg Value.bool t3
set_option maxRecDepth 100000 in
set_option maxHeartbeats 8000000 in
theorem modelCopies_ne (lo n lo2 n2 : Nat) (z z2 : Nat → Int) : FWP Try.prog (means W) 8 [.slice none 0 0, .slice (some ⟨0, 0, some 0⟩) 0 1] [oldR lo n z, oldR lo2 n2 z2] fun a _ => a = .bool true := by
  refine FWP.body envP5_ok 40 Try.func8 rfl (by exact Nat.le_of_ble_eq_true rfl) ?_
  repeat ((conv => whnf); first | (refine brT ?_ ?_; · (first | (simp; done))) | (refine brF ?_ ?_; · (first | (simp; done))))

  conv => whnf
  refine SWP.cutS Try.f8.ntmps [1, 5] (MCp.Q0 (.slice (some ⟨0, 0, some 0⟩) 0 1) (oldR lo n z) (oldR lo2 n2 z2)) (mcp_l0 lo n 0 lo2 n2 0 (.slice none 0 0) (.slice (some ⟨0, 0, some 0⟩) 0 1) (.inl ⟨rfl, rfl⟩) (.inr (.inl ⟨rfl, rfl⟩)) z z2 (by omega) [4] rfl rfl rfl rfl rfl) ?_
  rintro e vs H ⟨f, g, rfl, hW, rfl, rfl⟩
  cases hL : (pairsOf f (keysF 64 (Mc.ints f).has)) with
  | nil =>
    have t1 : (pairsOf f (keysF 64 (Mc.ints f).has)).isEmpty = true := by rw [hL]; rfl
    repeat ((conv => whnf); first | (refine brT ?_ ?_; · (first | exact t1 | (simp; done))) | (refine brF ?_ ?_; · (first | exact t1 | (simp; done))))

    conv => whnf
    refine SWP.cutS Try.f8.ntmps [5, 7] (MCp.Q1 (oldR lo n z) (oldR lo2 n2 z2) f g 2) (mcp_l11 lo n lo2 n2 0 (.slice (some ⟨0, 0, some 0⟩) 0 1) (.inr (.inl ⟨rfl, rfl⟩)) z z2 (by omega) f g f g [2, 5] rfl rfl rfl rfl rfl) ?_
    rintro e vs H ⟨rfl, rfl, rfl⟩
    conv => whnf
    refine SWP.cutS Try.f8.ntmps [5, 7] (MCp.Q1 (oldR lo n z) (oldR lo2 n2 z2) f g 4) (mcp_l21 lo n lo2 n2 z z2 f g hW [2] rfl rfl rfl rfl rfl) ?_
    rintro e vs H ⟨rfl, rfl, rfl⟩
    repeat ((conv => whnf); first | (refine brT ?_ ?_; · (first | exact t1 | (simp; done))) | (refine brF ?_ ?_; · (first | exact t1 | (simp; done))))

    conv => whnf
    rfl
  | cons b s =>
    have t1 : (pairsOf f (keysF 64 (Mc.ints f).has)).isEmpty = false := by rw [hL]; rfl
    have t2 : (pairsOf f (keysF 64 (Mc.ints f).has)).length ≤ 64 := by have := range_len f 0 63; rw [range_all f] at this; exact this
    have t3 : eqRows (pairsOf f (keysF 64 (Mc.ints f).has)).length (pairF (pairsOf f (keysF 64 (Mc.ints f).has))) (pairsOf f (keysF 64 (Mc.ints f).has)).length (pairF (pairsOf f (keysF 64 (Mc.ints f).has))) = true := eqRows_refl _ _
    have t5 : (!eqRows (pairsOf f (keysF 64 (Mc.ints f).has)).length (pairF (pairsOf f (keysF 64 (Mc.ints f).has))) (pairsOf f (keysF 64 (Mc.ints f).has)).length (pairF (pairsOf f (keysF 64 (Mc.ints f).has)))) = false := by rw [t3]; rfl
    clear hL
    revert t1 t2 t3 t5
    have t4 : ∀ (n a b : Nat), n ≤ 64 → a ≠ b → decide ((59 : TypeId) = 59 ∧ (59 : TypeId) = 59 ∧ n = n ∧ n = n ∧ n = n ∧ n ≤ 1000000 ∧ a ≠ b) = true := fun n a b hn hab => decide_eq_true ⟨rfl, rfl, rfl, rfl, rfl, by omega, hab⟩
    intro t1 t2 t3 t5
    repeat ((conv => whnf); first | (refine brT ?_ ?_; · (first | exact t1 | exact t5 | exact t4 _ _ _ t2 (by simp) | (simp; done))) | (refine brF ?_ ?_; · (first | exact t1 | exact t5 | exact t4 _ _ _ t2 (by simp) | (simp; done))))

    conv => whnf
    refine SWP.cutS Try.f8.ntmps [5, 7] (MCp.Q2 (oldR lo n z) (oldR lo2 n2 z2) f g (pairsOf f (keysF 64 (Mc.ints f).has)).length (pairF (pairsOf f (keysF 64 (Mc.ints f).has))) 2) (mcp_l12 lo n lo2 n2 0 (.slice (some ⟨0, 0, some 0⟩) 0 1) (.inr (.inl ⟨rfl, rfl⟩)) z z2 (by omega) f g (pairsOf f (keysF 64 (Mc.ints f).has)).length (pairF (pairsOf f (keysF 64 (Mc.ints f).has))) f g [2, 3, 6] rfl rfl rfl rfl rfl) ?_
    rintro e vs H ⟨rfl, rfl, rfl⟩
    conv => whnf
    refine SWP.cutS Try.f8.ntmps [5, 7] (MCp.Q2 (oldR lo n z) (oldR lo2 n2 z2) f g (pairsOf f (keysF 64 (Mc.ints f).has)).length (pairF (pairsOf f (keysF 64 (Mc.ints f).has))) 4) (mcp_l22 lo n lo2 n2 z z2 f g hW (pairsOf f (keysF 64 (Mc.ints f).has)).length (pairF (pairsOf f (keysF 64 (Mc.ints f).has))) [2, 3] rfl rfl rfl rfl rfl) ?_
    rintro e vs H ⟨rfl, rfl, rfl⟩
    repeat ((conv => whnf); first | (refine brT ?_ ?_; · (first | exact t1 | exact t4 _ _ _ t2 (by simp) | (simp; done))) | (refine brF ?_ ?_; · (first | exact t1 | exact t4 _ _ _ t2 (by simp) | (simp; done))))

    conv => whnf
    exact congrArg Value.bool t3
set_option maxRecDepth 100000 in
set_option maxHeartbeats 8000000 in
theorem modelCopies_nr (lo n lo2 n2 len2 cap2 : Nat) (z z2 : Nat → Int) (h2 : lo2 + len2 * 4 ≤ n2) (hl2 : len2 ≤ 40) : FWP Try.prog (means W) 8 [.slice none 0 0, .slice (some ⟨1, lo2, none⟩) len2 cap2] [oldR lo n z, oldR lo2 n2 z2] fun a _ => a = .bool true := by
  refine FWP.body envP5_ok 40 Try.func8 rfl (by exact Nat.le_of_ble_eq_true rfl) ?_
  have f00 : decide ((len2 : Int) > 40) = false := decide_eq_false (by omega)
  repeat ((conv => whnf); first | (refine brT ?_ ?_; · (first | exact f00 | (simp; done))) | (refine brF ?_ ?_; · (first | exact f00 | (simp; done))))

  conv => whnf
  refine SWP.cutS Try.f8.ntmps [1, 5] (MCp.Q0 (.slice (some ⟨1, lo2, none⟩) len2 cap2) (oldR lo n z) (oldR lo2 n2 z2)) (mcp_l0 lo n 0 lo2 n2 len2 (.slice none 0 0) (.slice (some ⟨1, lo2, none⟩) len2 cap2) (.inl ⟨rfl, rfl⟩) (.inr (.inr ⟨_, rfl, h2⟩)) z z2 (by omega) [4] rfl rfl rfl rfl rfl) ?_
  rintro e vs H ⟨f, g, rfl, hW, rfl, rfl⟩
  cases hL : (pairsOf f (keysF 64 (Mc.ints f).has)) with
  | nil =>
    have t1 : (pairsOf f (keysF 64 (Mc.ints f).has)).isEmpty = true := by rw [hL]; rfl
    repeat ((conv => whnf); first | (refine brT ?_ ?_; · (first | exact t1 | (simp; done))) | (refine brF ?_ ?_; · (first | exact t1 | (simp; done))))

    conv => whnf
    refine SWP.cutS Try.f8.ntmps [5, 7] (MCp.Q1 (oldR lo n z) (oldR lo2 n2 z2) f g 2) (mcp_l11 lo n lo2 n2 len2 (.slice (some ⟨1, lo2, none⟩) len2 cap2) (.inr (.inr ⟨_, rfl, h2⟩)) z z2 hl2 f g f g [2, 5] rfl rfl rfl rfl rfl) ?_
    rintro e vs H ⟨rfl, rfl, rfl⟩
    conv => whnf
    refine SWP.cutS Try.f8.ntmps [5, 7] (MCp.Q1 (oldR lo n z) (oldR lo2 n2 z2) f g 4) (mcp_l21 lo n lo2 n2 z z2 f g hW [2] rfl rfl rfl rfl rfl) ?_
    rintro e vs H ⟨rfl, rfl, rfl⟩
    repeat ((conv => whnf); first | (refine brT ?_ ?_; · (first | exact t1 | (simp; done))) | (refine brF ?_ ?_; · (first | exact t1 | (simp; done))))

    conv => whnf
    rfl
  | cons b s =>
    have t1 : (pairsOf f (keysF 64 (Mc.ints f).has)).isEmpty = false := by rw [hL]; rfl
    have t2 : (pairsOf f (keysF 64 (Mc.ints f).has)).length ≤ 64 := by have := range_len f 0 63; rw [range_all f] at this; exact this
    have t3 : eqRows (pairsOf f (keysF 64 (Mc.ints f).has)).length (pairF (pairsOf f (keysF 64 (Mc.ints f).has))) (pairsOf f (keysF 64 (Mc.ints f).has)).length (pairF (pairsOf f (keysF 64 (Mc.ints f).has))) = true := eqRows_refl _ _
    have t5 : (!eqRows (pairsOf f (keysF 64 (Mc.ints f).has)).length (pairF (pairsOf f (keysF 64 (Mc.ints f).has))) (pairsOf f (keysF 64 (Mc.ints f).has)).length (pairF (pairsOf f (keysF 64 (Mc.ints f).has)))) = false := by rw [t3]; rfl
    clear hL
    revert t1 t2 t3 t5
    have t4 : ∀ (n a b : Nat), n ≤ 64 → a ≠ b → decide ((59 : TypeId) = 59 ∧ (59 : TypeId) = 59 ∧ n = n ∧ n = n ∧ n = n ∧ n ≤ 1000000 ∧ a ≠ b) = true := fun n a b hn hab => decide_eq_true ⟨rfl, rfl, rfl, rfl, rfl, by omega, hab⟩
    intro t1 t2 t3 t5
    repeat ((conv => whnf); first | (refine brT ?_ ?_; · (first | exact t1 | exact t5 | exact t4 _ _ _ t2 (by simp) | (simp; done))) | (refine brF ?_ ?_; · (first | exact t1 | exact t5 | exact t4 _ _ _ t2 (by simp) | (simp; done))))

    conv => whnf
    refine SWP.cutS Try.f8.ntmps [5, 7] (MCp.Q2 (oldR lo n z) (oldR lo2 n2 z2) f g (pairsOf f (keysF 64 (Mc.ints f).has)).length (pairF (pairsOf f (keysF 64 (Mc.ints f).has))) 2) (mcp_l12 lo n lo2 n2 len2 (.slice (some ⟨1, lo2, none⟩) len2 cap2) (.inr (.inr ⟨_, rfl, h2⟩)) z z2 hl2 f g (pairsOf f (keysF 64 (Mc.ints f).has)).length (pairF (pairsOf f (keysF 64 (Mc.ints f).has))) f g [2, 3, 6] rfl rfl rfl rfl rfl) ?_
    rintro e vs H ⟨rfl, rfl, rfl⟩
    conv => whnf
    refine SWP.cutS Try.f8.ntmps [5, 7] (MCp.Q2 (oldR lo n z) (oldR lo2 n2 z2) f g (pairsOf f (keysF 64 (Mc.ints f).has)).length (pairF (pairsOf f (keysF 64 (Mc.ints f).has))) 4) (mcp_l22 lo n lo2 n2 z z2 f g hW (pairsOf f (keysF 64 (Mc.ints f).has)).length (pairF (pairsOf f (keysF 64 (Mc.ints f).has))) [2, 3] rfl rfl rfl rfl rfl) ?_
    rintro e vs H ⟨rfl, rfl, rfl⟩
    repeat ((conv => whnf); first | (refine brT ?_ ?_; · (first | exact t1 | exact t4 _ _ _ t2 (by simp) | (simp; done))) | (refine brF ?_ ?_; · (first | exact t1 | exact t4 _ _ _ t2 (by simp) | (simp; done))))

    conv => whnf
    exact congrArg Value.bool t3
set_option maxRecDepth 100000 in
set_option maxHeartbeats 8000000 in
theorem modelCopies_en (lo n lo2 n2 : Nat) (z z2 : Nat → Int) : FWP Try.prog (means W) 8 [.slice (some ⟨0, 0, some 0⟩) 0 1, .slice none 0 0] [oldR lo n z, oldR lo2 n2 z2] fun a _ => a = .bool true := by
  refine FWP.body envP5_ok 40 Try.func8 rfl (by exact Nat.le_of_ble_eq_true rfl) ?_
  repeat ((conv => whnf); first | (refine brT ?_ ?_; · (first | (simp; done))) | (refine brF ?_ ?_; · (first | (simp; done))))

  conv => whnf
  refine SWP.cutS Try.f8.ntmps [1, 5] (MCp.Q0 (.slice none 0 0) (oldR lo n z) (oldR lo2 n2 z2)) (mcp_l0 lo n 0 lo2 n2 0 (.slice (some ⟨0, 0, some 0⟩) 0 1) (.slice none 0 0) (.inr (.inl ⟨rfl, rfl⟩)) (.inl ⟨rfl, rfl⟩) z z2 (by omega) [4] rfl rfl rfl rfl rfl) ?_
  rintro e vs H ⟨f, g, rfl, hW, rfl, rfl⟩
  cases hL : (pairsOf f (keysF 64 (Mc.ints f).has)) with
  | nil =>
    have t1 : (pairsOf f (keysF 64 (Mc.ints f).has)).isEmpty = true := by rw [hL]; rfl
    repeat ((conv => whnf); first | (refine brT ?_ ?_; · (first | exact t1 | (simp; done))) | (refine brF ?_ ?_; · (first | exact t1 | (simp; done))))

    conv => whnf
    refine SWP.cutS Try.f8.ntmps [5, 7] (MCp.Q1 (oldR lo n z) (oldR lo2 n2 z2) f g 2) (mcp_l11 lo n lo2 n2 0 (.slice none 0 0) (.inl ⟨rfl, rfl⟩) z z2 (by omega) f g f g [2, 5] rfl rfl rfl rfl rfl) ?_
    rintro e vs H ⟨rfl, rfl, rfl⟩
    conv => whnf
    refine SWP.cutS Try.f8.ntmps [5, 7] (MCp.Q1 (oldR lo n z) (oldR lo2 n2 z2) f g 4) (mcp_l21 lo n lo2 n2 z z2 f g hW [2] rfl rfl rfl rfl rfl) ?_
    rintro e vs H ⟨rfl, rfl, rfl⟩
    repeat ((conv => whnf); first | (refine brT ?_ ?_; · (first | exact t1 | (simp; done))) | (refine brF ?_ ?_; · (first | exact t1 | (simp; done))))

    conv => whnf
    rfl
  | cons b s =>
    have t1 : (pairsOf f (keysF 64 (Mc.ints f).has)).isEmpty = false := by rw [hL]; rfl
    have t2 : (pairsOf f (keysF 64 (Mc.ints f).has)).length ≤ 64 := by have := range_len f 0 63; rw [range_all f] at this; exact this
    have t3 : eqRows (pairsOf f (keysF 64 (Mc.ints f).has)).length (pairF (pairsOf f (keysF 64 (Mc.ints f).has))) (pairsOf f (keysF 64 (Mc.ints f).has)).length (pairF (pairsOf f (keysF 64 (Mc.ints f).has))) = true := eqRows_refl _ _
    have t5 : (!eqRows (pairsOf f (keysF 64 (Mc.ints f).has)).length (pairF (pairsOf f (keysF 64 (Mc.ints f).has))) (pairsOf f (keysF 64 (Mc.ints f).has)).length (pairF (pairsOf f (keysF 64 (Mc.ints f).has)))) = false := by rw [t3]; rfl
    clear hL
    revert t1 t2 t3 t5
    have t4 : ∀ (n a b : Nat), n ≤ 64 → a ≠ b → decide ((59 : TypeId) = 59 ∧ (59 : TypeId) = 59 ∧ n = n ∧ n = n ∧ n = n ∧ n ≤ 1000000 ∧ a ≠ b) = true := fun n a b hn hab => decide_eq_true ⟨rfl, rfl, rfl, rfl, rfl, by omega, hab⟩
    intro t1 t2 t3 t5
    repeat ((conv => whnf); first | (refine brT ?_ ?_; · (first | exact t1 | exact t5 | exact t4 _ _ _ t2 (by simp) | (simp; done))) | (refine brF ?_ ?_; · (first | exact t1 | exact t5 | exact t4 _ _ _ t2 (by simp) | (simp; done))))

    conv => whnf
    refine SWP.cutS Try.f8.ntmps [5, 7] (MCp.Q2 (oldR lo n z) (oldR lo2 n2 z2) f g (pairsOf f (keysF 64 (Mc.ints f).has)).length (pairF (pairsOf f (keysF 64 (Mc.ints f).has))) 2) (mcp_l12 lo n lo2 n2 0 (.slice none 0 0) (.inl ⟨rfl, rfl⟩) z z2 (by omega) f g (pairsOf f (keysF 64 (Mc.ints f).has)).length (pairF (pairsOf f (keysF 64 (Mc.ints f).has))) f g [2, 3, 6] rfl rfl rfl rfl rfl) ?_
    rintro e vs H ⟨rfl, rfl, rfl⟩
    conv => whnf
    refine SWP.cutS Try.f8.ntmps [5, 7] (MCp.Q2 (oldR lo n z) (oldR lo2 n2 z2) f g (pairsOf f (keysF 64 (Mc.ints f).has)).length (pairF (pairsOf f (keysF 64 (Mc.ints f).has))) 4) (mcp_l22 lo n lo2 n2 z z2 f g hW (pairsOf f (keysF 64 (Mc.ints f).has)).length (pairF (pairsOf f (keysF 64 (Mc.ints f).has))) [2, 3] rfl rfl rfl rfl rfl) ?_
    rintro e vs H ⟨rfl, rfl, rfl⟩
    repeat ((conv => whnf); first | (refine brT ?_ ?_; · (first | exact t1 | exact t4 _ _ _ t2 (by simp) | (simp; done))) | (refine brF ?_ ?_; · (first | exact t1 | exact t4 _ _ _ t2 (by simp) | (simp; done))))

    conv => whnf
    exact congrArg Value.bool t3
set_option maxRecDepth 100000 in
set_option maxHeartbeats 8000000 in
theorem modelCopies_ee (lo n lo2 n2 : Nat) (z z2 : Nat → Int) : FWP Try.prog (means W) 8 [.slice (some ⟨0, 0, some 0⟩) 0 1, .slice (some ⟨0, 0, some 0⟩) 0 1] [oldR lo n z, oldR lo2 n2 z2] fun a _ => a = .bool true := by
  refine FWP.body envP5_ok 40 Try.func8 rfl (by exact Nat.le_of_ble_eq_true rfl) ?_
  repeat ((conv => whnf); first | (refine brT ?_ ?_; · (first | (simp; done))) | (refine brF ?_ ?_; · (first | (simp; done))))

  conv => whnf
  refine SWP.cutS Try.f8.ntmps [1, 5] (MCp.Q0 (.slice (some ⟨0, 0, some 0⟩) 0 1) (oldR lo n z) (oldR lo2 n2 z2)) (mcp_l0 lo n 0 lo2 n2 0 (.slice (some ⟨0, 0, some 0⟩) 0 1) (.slice (some ⟨0, 0, some 0⟩) 0 1) (.inr (.inl ⟨rfl, rfl⟩)) (.inr (.inl ⟨rfl, rfl⟩)) z z2 (by omega) [4] rfl rfl rfl rfl rfl) ?_
  rintro e vs H ⟨f, g, rfl, hW, rfl, rfl⟩
  cases hL : (pairsOf f (keysF 64 (Mc.ints f).has)) with
  | nil =>
    have t1 : (pairsOf f (keysF 64 (Mc.ints f).has)).isEmpty = true := by rw [hL]; rfl
    repeat ((conv => whnf); first | (refine brT ?_ ?_; · (first | exact t1 | (simp; done))) | (refine brF ?_ ?_; · (first | exact t1 | (simp; done))))

    conv => whnf
    refine SWP.cutS Try.f8.ntmps [5, 7] (MCp.Q1 (oldR lo n z) (oldR lo2 n2 z2) f g 2) (mcp_l11 lo n lo2 n2 0 (.slice (some ⟨0, 0, some 0⟩) 0 1) (.inr (.inl ⟨rfl, rfl⟩)) z z2 (by omega) f g f g [2, 5] rfl rfl rfl rfl rfl) ?_
    rintro e vs H ⟨rfl, rfl, rfl⟩
    conv => whnf
    refine SWP.cutS Try.f8.ntmps [5, 7] (MCp.Q1 (oldR lo n z) (oldR lo2 n2 z2) f g 4) (mcp_l21 lo n lo2 n2 z z2 f g hW [2] rfl rfl rfl rfl rfl) ?_
    rintro e vs H ⟨rfl, rfl, rfl⟩
    repeat ((conv => whnf); first | (refine brT ?_ ?_; · (first | exact t1 | (simp; done))) | (refine brF ?_ ?_; · (first | exact t1 | (simp; done))))

    conv => whnf
    rfl
  | cons b s =>
    have t1 : (pairsOf f (keysF 64 (Mc.ints f).has)).isEmpty = false := by rw [hL]; rfl
    have t2 : (pairsOf f (keysF 64 (Mc.ints f).has)).length ≤ 64 := by have := range_len f 0 63; rw [range_all f] at this; exact this
    have t3 : eqRows (pairsOf f (keysF 64 (Mc.ints f).has)).length (pairF (pairsOf f (keysF 64 (Mc.ints f).has))) (pairsOf f (keysF 64 (Mc.ints f).has)).length (pairF (pairsOf f (keysF 64 (Mc.ints f).has))) = true := eqRows_refl _ _
    have t5 : (!eqRows (pairsOf f (keysF 64 (Mc.ints f).has)).length (pairF (pairsOf f (keysF 64 (Mc.ints f).has))) (pairsOf f (keysF 64 (Mc.ints f).has)).length (pairF (pairsOf f (keysF 64 (Mc.ints f).has)))) = false := by rw [t3]; rfl
    clear hL
    revert t1 t2 t3 t5
    have t4 : ∀ (n a b : Nat), n ≤ 64 → a ≠ b → decide ((59 : TypeId) = 59 ∧ (59 : TypeId) = 59 ∧ n = n ∧ n = n ∧ n = n ∧ n ≤ 1000000 ∧ a ≠ b) = true := fun n a b hn hab => decide_eq_true ⟨rfl, rfl, rfl, rfl, rfl, by omega, hab⟩
    intro t1 t2 t3 t5
    repeat ((conv => whnf); first | (refine brT ?_ ?_; · (first | exact t1 | exact t5 | exact t4 _ _ _ t2 (by simp) | (simp; done))) | (refine brF ?_ ?_; · (first | exact t1 | exact t5 | exact t4 _ _ _ t2 (by simp) | (simp; done))))

    conv => whnf
    refine SWP.cutS Try.f8.ntmps [5, 7] (MCp.Q2 (oldR lo n z) (oldR lo2 n2 z2) f g (pairsOf f (keysF 64 (Mc.ints f).has)).length (pairF (pairsOf f (keysF 64 (Mc.ints f).has))) 2) (mcp_l12 lo n lo2 n2 0 (.slice (some ⟨0, 0, some 0⟩) 0 1) (.inr (.inl ⟨rfl, rfl⟩)) z z2 (by omega) f g (pairsOf f (keysF 64 (Mc.ints f).has)).length (pairF (pairsOf f (keysF 64 (Mc.ints f).has))) f g [2, 3, 6] rfl rfl rfl rfl rfl) ?_
    rintro e vs H ⟨rfl, rfl, rfl⟩
    conv => whnf
    refine SWP.cutS Try.f8.ntmps [5, 7] (MCp.Q2 (oldR lo n z) (oldR lo2 n2 z2) f g (pairsOf f (keysF 64 (Mc.ints f).has)).length (pairF (pairsOf f (keysF 64 (Mc.ints f).has))) 4) (mcp_l22 lo n lo2 n2 z z2 f g hW (pairsOf f (keysF 64 (Mc.ints f).has)).length (pairF (pairsOf f (keysF 64 (Mc.ints f).has))) [2, 3] rfl rfl rfl rfl rfl) ?_
    rintro e vs H ⟨rfl, rfl, rfl⟩
    repeat ((conv => whnf); first | (refine brT ?_ ?_; · (first | exact t1 | exact t4 _ _ _ t2 (by simp) | (simp; done))) | (refine brF ?_ ?_; · (first | exact t1 | exact t4 _ _ _ t2 (by simp) | (simp; done))))

    conv => whnf
    exact congrArg Value.bool t3
set_option maxRecDepth 100000 in
set_option maxHeartbeats 8000000 in
theorem modelCopies_er (lo n lo2 n2 len2 cap2 : Nat) (z z2 : Nat → Int) (h2 : lo2 + len2 * 4 ≤ n2) (hl2 : len2 ≤ 40) : FWP Try.prog (means W) 8 [.slice (some ⟨0, 0, some 0⟩) 0 1, .slice (some ⟨1, lo2, none⟩) len2 cap2] [oldR lo n z, oldR lo2 n2 z2] fun a _ => a = .bool true := by
  refine FWP.body envP5_ok 40 Try.func8 rfl (by exact Nat.le_of_ble_eq_true rfl) ?_
  have f00 : decide ((len2 : Int) > 40) = false := decide_eq_false (by omega)
  repeat ((conv => whnf); first | (refine brT ?_ ?_; · (first | exact f00 | (simp; done))) | (refine brF ?_ ?_; · (first | exact f00 | (simp; done))))

  conv => whnf
  refine SWP.cutS Try.f8.ntmps [1, 5] (MCp.Q0 (.slice (some ⟨1, lo2, none⟩) len2 cap2) (oldR lo n z) (oldR lo2 n2 z2)) (mcp_l0 lo n 0 lo2 n2 len2 (.slice (some ⟨0, 0, some 0⟩) 0 1) (.slice (some ⟨1, lo2, none⟩) len2 cap2) (.inr (.inl ⟨rfl, rfl⟩)) (.inr (.inr ⟨_, rfl, h2⟩)) z z2 (by omega) [4] rfl rfl rfl rfl rfl) ?_
  rintro e vs H ⟨f, g, rfl, hW, rfl, rfl⟩
  cases hL : (pairsOf f (keysF 64 (Mc.ints f).has)) with
  | nil =>
    have t1 : (pairsOf f (keysF 64 (Mc.ints f).has)).isEmpty = true := by rw [hL]; rfl
    repeat ((conv => whnf); first | (refine brT ?_ ?_; · (first | exact t1 | (simp; done))) | (refine brF ?_ ?_; · (first | exact t1 | (simp; done))))

    conv => whnf
    refine SWP.cutS Try.f8.ntmps [5, 7] (MCp.Q1 (oldR lo n z) (oldR lo2 n2 z2) f g 2) (mcp_l11 lo n lo2 n2 len2 (.slice (some ⟨1, lo2, none⟩) len2 cap2) (.inr (.inr ⟨_, rfl, h2⟩)) z z2 hl2 f g f g [2, 5] rfl rfl rfl rfl rfl) ?_
    rintro e vs H ⟨rfl, rfl, rfl⟩
    conv => whnf
    refine SWP.cutS Try.f8.ntmps [5, 7] (MCp.Q1 (oldR lo n z) (oldR lo2 n2 z2) f g 4) (mcp_l21 lo n lo2 n2 z z2 f g hW [2] rfl rfl rfl rfl rfl) ?_
    rintro e vs H ⟨rfl, rfl, rfl⟩
    repeat ((conv => whnf); first | (refine brT ?_ ?_; · (first | exact t1 | (simp; done))) | (refine brF ?_ ?_; · (first | exact t1 | (simp; done))))

    conv => whnf
    rfl
  | cons b s =>
    have t1 : (pairsOf f (keysF 64 (Mc.ints f).has)).isEmpty = false := by rw [hL]; rfl
    have t2 : (pairsOf f (keysF 64 (Mc.ints f).has)).length ≤ 64 := by have := range_len f 0 63; rw [range_all f] at this; exact this
    have t3 : eqRows (pairsOf f (keysF 64 (Mc.ints f).has)).length (pairF (pairsOf f (keysF 64 (Mc.ints f).has))) (pairsOf f (keysF 64 (Mc.ints f).has)).length (pairF (pairsOf f (keysF 64 (Mc.ints f).has))) = true := eqRows_refl _ _
    have t5 : (!eqRows (pairsOf f (keysF 64 (Mc.ints f).has)).length (pairF (pairsOf f (keysF 64 (Mc.ints f).has))) (pairsOf f (keysF 64 (Mc.ints f).has)).length (pairF (pairsOf f (keysF 64 (Mc.ints f).has)))) = false := by rw [t3]; rfl
    clear hL
    revert t1 t2 t3 t5
    have t4 : ∀ (n a b : Nat), n ≤ 64 → a ≠ b → decide ((59 : TypeId) = 59 ∧ (59 : TypeId) = 59 ∧ n = n ∧ n = n ∧ n = n ∧ n ≤ 1000000 ∧ a ≠ b) = true := fun n a b hn hab => decide_eq_true ⟨rfl, rfl, rfl, rfl, rfl, by omega, hab⟩
    intro t1 t2 t3 t5
    repeat ((conv => whnf); first | (refine brT ?_ ?_; · (first | exact t1 | exact t5 | exact t4 _ _ _ t2 (by simp) | (simp; done))) | (refine brF ?_ ?_; · (first | exact t1 | exact t5 | exact t4 _ _ _ t2 (by simp) | (simp; done))))

    conv => whnf
    refine SWP.cutS Try.f8.ntmps [5, 7] (MCp.Q2 (oldR lo n z) (oldR lo2 n2 z2) f g (pairsOf f (keysF 64 (Mc.ints f).has)).length (pairF (pairsOf f (keysF 64 (Mc.ints f).has))) 2) (mcp_l12 lo n lo2 n2 len2 (.slice (some ⟨1, lo2, none⟩) len2 cap2) (.inr (.inr ⟨_, rfl, h2⟩)) z z2 hl2 f g (pairsOf f (keysF 64 (Mc.ints f).has)).length (pairF (pairsOf f (keysF 64 (Mc.ints f).has))) f g [2, 3, 6] rfl rfl rfl rfl rfl) ?_
    rintro e vs H ⟨rfl, rfl, rfl⟩
    conv => whnf
    refine SWP.cutS Try.f8.ntmps [5, 7] (MCp.Q2 (oldR lo n z) (oldR lo2 n2 z2) f g (pairsOf f (keysF 64 (Mc.ints f).has)).length (pairF (pairsOf f (keysF 64 (Mc.ints f).has))) 4) (mcp_l22 lo n lo2 n2 z z2 f g hW (pairsOf f (keysF 64 (Mc.ints f).has)).length (pairF (pairsOf f (keysF 64 (Mc.ints f).has))) [2, 3] rfl rfl rfl rfl rfl) ?_
    rintro e vs H ⟨rfl, rfl, rfl⟩
    repeat ((conv => whnf); first | (refine brT ?_ ?_; · (first | exact t1 | exact t4 _ _ _ t2 (by simp) | (simp; done))) | (refine brF ?_ ?_; · (first | exact t1 | exact t4 _ _ _ t2 (by simp) | (simp; done))))

    conv => whnf
    exact congrArg Value.bool t3
set_option maxRecDepth 100000 in
set_option maxHeartbeats 8000000 in
theorem modelCopies_rn (lo n lo2 n2 len cap : Nat) (z z2 : Nat → Int) (h1 : lo + len * 4 ≤ n) (hl : len ≤ 40) : FWP Try.prog (means W) 8 [.slice (some ⟨0, lo, none⟩) len cap, .slice none 0 0] [oldR lo n z, oldR lo2 n2 z2] fun a _ => a = .bool true := by
  refine FWP.body envP5_ok 40 Try.func8 rfl (by exact Nat.le_of_ble_eq_true rfl) ?_
  have f0 : decide ((len : Int) > 40) = false := decide_eq_false (by omega)
  repeat ((conv => whnf); first | (refine brT ?_ ?_; · (first | exact f0 | (simp; done))) | (refine brF ?_ ?_; · (first | exact f0 | (simp; done))))

  conv => whnf
  refine SWP.cutS Try.f8.ntmps [1, 5] (MCp.Q0 (.slice none 0 0) (oldR lo n z) (oldR lo2 n2 z2)) (mcp_l0 lo n len lo2 n2 0 (.slice (some ⟨0, lo, none⟩) len cap) (.slice none 0 0) (.inr (.inr ⟨_, rfl, h1⟩)) (.inl ⟨rfl, rfl⟩) z z2 hl [4] rfl rfl rfl rfl rfl) ?_
  rintro e vs H ⟨f, g, rfl, hW, rfl, rfl⟩
  cases hL : (pairsOf f (keysF 64 (Mc.ints f).has)) with
  | nil =>
    have t1 : (pairsOf f (keysF 64 (Mc.ints f).has)).isEmpty = true := by rw [hL]; rfl
    repeat ((conv => whnf); first | (refine brT ?_ ?_; · (first | exact t1 | (simp; done))) | (refine brF ?_ ?_; · (first | exact t1 | (simp; done))))

    conv => whnf
    refine SWP.cutS Try.f8.ntmps [5, 7] (MCp.Q1 (oldR lo n z) (oldR lo2 n2 z2) f g 2) (mcp_l11 lo n lo2 n2 0 (.slice none 0 0) (.inl ⟨rfl, rfl⟩) z z2 (by omega) f g f g [2, 5] rfl rfl rfl rfl rfl) ?_
    rintro e vs H ⟨rfl, rfl, rfl⟩
    conv => whnf
    refine SWP.cutS Try.f8.ntmps [5, 7] (MCp.Q1 (oldR lo n z) (oldR lo2 n2 z2) f g 4) (mcp_l21 lo n lo2 n2 z z2 f g hW [2] rfl rfl rfl rfl rfl) ?_
    rintro e vs H ⟨rfl, rfl, rfl⟩
    repeat ((conv => whnf); first | (refine brT ?_ ?_; · (first | exact t1 | (simp; done))) | (refine brF ?_ ?_; · (first | exact t1 | (simp; done))))

    conv => whnf
    rfl
  | cons b s =>
    have t1 : (pairsOf f (keysF 64 (Mc.ints f).has)).isEmpty = false := by rw [hL]; rfl
    have t2 : (pairsOf f (keysF 64 (Mc.ints f).has)).length ≤ 64 := by have := range_len f 0 63; rw [range_all f] at this; exact this
    have t3 : eqRows (pairsOf f (keysF 64 (Mc.ints f).has)).length (pairF (pairsOf f (keysF 64 (Mc.ints f).has))) (pairsOf f (keysF 64 (Mc.ints f).has)).length (pairF (pairsOf f (keysF 64 (Mc.ints f).has))) = true := eqRows_refl _ _
    have t5 : (!eqRows (pairsOf f (keysF 64 (Mc.ints f).has)).length (pairF (pairsOf f (keysF 64 (Mc.ints f).has))) (pairsOf f (keysF 64 (Mc.ints f).has)).length (pairF (pairsOf f (keysF 64 (Mc.ints f).has)))) = false := by rw [t3]; rfl
    clear hL
    revert t1 t2 t3 t5
    have t4 : ∀ (n a b : Nat), n ≤ 64 → a ≠ b → decide ((59 : TypeId) = 59 ∧ (59 : TypeId) = 59 ∧ n = n ∧ n = n ∧ n = n ∧ n ≤ 1000000 ∧ a ≠ b) = true := fun n a b hn hab => decide_eq_true ⟨rfl, rfl, rfl, rfl, rfl, by omega, hab⟩
    intro t1 t2 t3 t5
    repeat ((conv => whnf); first | (refine brT ?_ ?_; · (first | exact t1 | exact t5 | exact t4 _ _ _ t2 (by simp) | (simp; done))) | (refine brF ?_ ?_; · (first | exact t1 | exact t5 | exact t4 _ _ _ t2 (by simp) | (simp; done))))

    conv => whnf
    refine SWP.cutS Try.f8.ntmps [5, 7] (MCp.Q2 (oldR lo n z) (oldR lo2 n2 z2) f g (pairsOf f (keysF 64 (Mc.ints f).has)).length (pairF (pairsOf f (keysF 64 (Mc.ints f).has))) 2) (mcp_l12 lo n lo2 n2 0 (.slice none 0 0) (.inl ⟨rfl, rfl⟩) z z2 (by omega) f g (pairsOf f (keysF 64 (Mc.ints f).has)).length (pairF (pairsOf f (keysF 64 (Mc.ints f).has))) f g [2, 3, 6] rfl rfl rfl rfl rfl) ?_
    rintro e vs H ⟨rfl, rfl, rfl⟩
    conv => whnf
    refine SWP.cutS Try.f8.ntmps [5, 7] (MCp.Q2 (oldR lo n z) (oldR lo2 n2 z2) f g (pairsOf f (keysF 64 (Mc.ints f).has)).length (pairF (pairsOf f (keysF 64 (Mc.ints f).has))) 4) (mcp_l22 lo n lo2 n2 z z2 f g hW (pairsOf f (keysF 64 (Mc.ints f).has)).length (pairF (pairsOf f (keysF 64 (Mc.ints f).has))) [2, 3] rfl rfl rfl rfl rfl) ?_
    rintro e vs H ⟨rfl, rfl, rfl⟩
    repeat ((conv => whnf); first | (refine brT ?_ ?_; · (first | exact t1 | exact t4 _ _ _ t2 (by simp) | (simp; done))) | (refine brF ?_ ?_; · (first | exact t1 | exact t4 _ _ _ t2 (by simp) | (simp; done))))

    conv => whnf
    exact congrArg Value.bool t3
set_option maxRecDepth 100000 in
set_option maxHeartbeats 8000000 in
theorem modelCopies_re (lo n lo2 n2 len cap : Nat) (z z2 : Nat → Int) (h1 : lo + len * 4 ≤ n) (hl : len ≤ 40) : FWP Try.prog (means W) 8 [.slice (some ⟨0, lo, none⟩) len cap, .slice (some ⟨0, 0, some 0⟩) 0 1] [oldR lo n z, oldR lo2 n2 z2] fun a _ => a = .bool true := by
  refine FWP.body envP5_ok 40 Try.func8 rfl (by exact Nat.le_of_ble_eq_true rfl) ?_
  have f0 : decide ((len : Int) > 40) = false := decide_eq_false (by omega)
  repeat ((conv => whnf); first | (refine brT ?_ ?_; · (first | exact f0 | (simp; done))) | (refine brF ?_ ?_; · (first | exact f0 | (simp; done))))

  conv => whnf
  refine SWP.cutS Try.f8.ntmps [1, 5] (MCp.Q0 (.slice (some ⟨0, 0, some 0⟩) 0 1) (oldR lo n z) (oldR lo2 n2 z2)) (mcp_l0 lo n len lo2 n2 0 (.slice (some ⟨0, lo, none⟩) len cap) (.slice (some ⟨0, 0, some 0⟩) 0 1) (.inr (.inr ⟨_, rfl, h1⟩)) (.inr (.inl ⟨rfl, rfl⟩)) z z2 hl [4] rfl rfl rfl rfl rfl) ?_
  rintro e vs H ⟨f, g, rfl, hW, rfl, rfl⟩
  cases hL : (pairsOf f (keysF 64 (Mc.ints f).has)) with
  | nil =>
    have t1 : (pairsOf f (keysF 64 (Mc.ints f).has)).isEmpty = true := by rw [hL]; rfl
    repeat ((conv => whnf); first | (refine brT ?_ ?_; · (first | exact t1 | (simp; done))) | (refine brF ?_ ?_; · (first | exact t1 | (simp; done))))

    conv => whnf
    refine SWP.cutS Try.f8.ntmps [5, 7] (MCp.Q1 (oldR lo n z) (oldR lo2 n2 z2) f g 2) (mcp_l11 lo n lo2 n2 0 (.slice (some ⟨0, 0, some 0⟩) 0 1) (.inr (.inl ⟨rfl, rfl⟩)) z z2 (by omega) f g f g [2, 5] rfl rfl rfl rfl rfl) ?_
    rintro e vs H ⟨rfl, rfl, rfl⟩
    conv => whnf
    refine SWP.cutS Try.f8.ntmps [5, 7] (MCp.Q1 (oldR lo n z) (oldR lo2 n2 z2) f g 4) (mcp_l21 lo n lo2 n2 z z2 f g hW [2] rfl rfl rfl rfl rfl) ?_
    rintro e vs H ⟨rfl, rfl, rfl⟩
    repeat ((conv => whnf); first | (refine brT ?_ ?_; · (first | exact t1 | (simp; done))) | (refine brF ?_ ?_; · (first | exact t1 | (simp; done))))

    conv => whnf
    rfl
  | cons b s =>
    have t1 : (pairsOf f (keysF 64 (Mc.ints f).has)).isEmpty = false := by rw [hL]; rfl
    have t2 : (pairsOf f (keysF 64 (Mc.ints f).has)).length ≤ 64 := by have := range_len f 0 63; rw [range_all f] at this; exact this
    have t3 : eqRows (pairsOf f (keysF 64 (Mc.ints f).has)).length (pairF (pairsOf f (keysF 64 (Mc.ints f).has))) (pairsOf f (keysF 64 (Mc.ints f).has)).length (pairF (pairsOf f (keysF 64 (Mc.ints f).has))) = true := eqRows_refl _ _
    have t5 : (!eqRows (pairsOf f (keysF 64 (Mc.ints f).has)).length (pairF (pairsOf f (keysF 64 (Mc.ints f).has))) (pairsOf f (keysF 64 (Mc.ints f).has)).length (pairF (pairsOf f (keysF 64 (Mc.ints f).has)))) = false := by rw [t3]; rfl
    clear hL
    revert t1 t2 t3 t5
    have t4 : ∀ (n a b : Nat), n ≤ 64 → a ≠ b → decide ((59 : TypeId) = 59 ∧ (59 : TypeId) = 59 ∧ n = n ∧ n = n ∧ n = n ∧ n ≤ 1000000 ∧ a ≠ b) = true := fun n a b hn hab => decide_eq_true ⟨rfl, rfl, rfl, rfl, rfl, by omega, hab⟩
    intro t1 t2 t3 t5
    repeat ((conv => whnf); first | (refine brT ?_ ?_; · (first | exact t1 | exact t5 | exact t4 _ _ _ t2 (by simp) | (simp; done))) | (refine brF ?_ ?_; · (first | exact t1 | exact t5 | exact t4 _ _ _ t2 (by simp) | (simp; done))))

    conv => whnf
    refine SWP.cutS Try.f8.ntmps [5, 7] (MCp.Q2 (oldR lo n z) (oldR lo2 n2 z2) f g (pairsOf f (keysF 64 (Mc.ints f).has)).length (pairF (pairsOf f (keysF 64 (Mc.ints f).has))) 2) (mcp_l12 lo n lo2 n2 0 (.slice (some ⟨0, 0, some 0⟩) 0 1) (.inr (.inl ⟨rfl, rfl⟩)) z z2 (by omega) f g (pairsOf f (keysF 64 (Mc.ints f).has)).length (pairF (pairsOf f (keysF 64 (Mc.ints f).has))) f g [2, 3, 6] rfl rfl rfl rfl rfl) ?_
    rintro e vs H ⟨rfl, rfl, rfl⟩
    conv => whnf
    refine SWP.cutS Try.f8.ntmps [5, 7] (MCp.Q2 (oldR lo n z) (oldR lo2 n2 z2) f g (pairsOf f (keysF 64 (Mc.ints f).has)).length (pairF (pairsOf f (keysF 64 (Mc.ints f).has))) 4) (mcp_l22 lo n lo2 n2 z z2 f g hW (pairsOf f (keysF 64 (Mc.ints f).has)).length (pairF (pairsOf f (keysF 64 (Mc.ints f).has))) [2, 3] rfl rfl rfl rfl rfl) ?_
    rintro e vs H ⟨rfl, rfl, rfl⟩
    repeat ((conv => whnf); first | (refine brT ?_ ?_; · (first | exact t1 | exact t4 _ _ _ t2 (by simp) | (simp; done))) | (refine brF ?_ ?_; · (first | exact t1 | exact t4 _ _ _ t2 (by simp) | (simp; done))))

    conv => whnf
    exact congrArg Value.bool t3
set_option maxRecDepth 100000 in
set_option maxHeartbeats 8000000 in
theorem modelCopies_rr (lo n lo2 n2 len cap len2 cap2 : Nat) (z z2 : Nat → Int) (h1 : lo + len * 4 ≤ n) (hl : len ≤ 40) (h2 : lo2 + len2 * 4 ≤ n2) (hl2 : len2 ≤ 40) : FWP Try.prog (means W) 8 [.slice (some ⟨0, lo, none⟩) len cap, .slice (some ⟨1, lo2, none⟩) len2 cap2] [oldR lo n z, oldR lo2 n2 z2] fun a _ => a = .bool true := by
  refine FWP.body envP5_ok 40 Try.func8 rfl (by exact Nat.le_of_ble_eq_true rfl) ?_
  have f0 : decide ((len : Int) > 40) = false := decide_eq_false (by omega)
  have f00 : decide ((len2 : Int) > 40) = false := decide_eq_false (by omega)
  repeat ((conv => whnf); first | (refine brT ?_ ?_; · (first | exact f0 | exact f00 | (simp; done))) | (refine brF ?_ ?_; · (first | exact f0 | exact f00 | (simp; done))))

  conv => whnf
  refine SWP.cutS Try.f8.ntmps [1, 5] (MCp.Q0 (.slice (some ⟨1, lo2, none⟩) len2 cap2) (oldR lo n z) (oldR lo2 n2 z2)) (mcp_l0 lo n len lo2 n2 len2 (.slice (some ⟨0, lo, none⟩) len cap) (.slice (some ⟨1, lo2, none⟩) len2 cap2) (.inr (.inr ⟨_, rfl, h1⟩)) (.inr (.inr ⟨_, rfl, h2⟩)) z z2 hl [4] rfl rfl rfl rfl rfl) ?_
  rintro e vs H ⟨f, g, rfl, hW, rfl, rfl⟩
  cases hL : (pairsOf f (keysF 64 (Mc.ints f).has)) with
  | nil =>
    have t1 : (pairsOf f (keysF 64 (Mc.ints f).has)).isEmpty = true := by rw [hL]; rfl
    repeat ((conv => whnf); first | (refine brT ?_ ?_; · (first | exact t1 | (simp; done))) | (refine brF ?_ ?_; · (first | exact t1 | (simp; done))))

    conv => whnf
    refine SWP.cutS Try.f8.ntmps [5, 7] (MCp.Q1 (oldR lo n z) (oldR lo2 n2 z2) f g 2) (mcp_l11 lo n lo2 n2 len2 (.slice (some ⟨1, lo2, none⟩) len2 cap2) (.inr (.inr ⟨_, rfl, h2⟩)) z z2 hl2 f g f g [2, 5] rfl rfl rfl rfl rfl) ?_
    rintro e vs H ⟨rfl, rfl, rfl⟩
    conv => whnf
    refine SWP.cutS Try.f8.ntmps [5, 7] (MCp.Q1 (oldR lo n z) (oldR lo2 n2 z2) f g 4) (mcp_l21 lo n lo2 n2 z z2 f g hW [2] rfl rfl rfl rfl rfl) ?_
    rintro e vs H ⟨rfl, rfl, rfl⟩
    repeat ((conv => whnf); first | (refine brT ?_ ?_; · (first | exact t1 | (simp; done))) | (refine brF ?_ ?_; · (first | exact t1 | (simp; done))))

    conv => whnf
    rfl
  | cons b s =>
    have t1 : (pairsOf f (keysF 64 (Mc.ints f).has)).isEmpty = false := by rw [hL]; rfl
    have t2 : (pairsOf f (keysF 64 (Mc.ints f).has)).length ≤ 64 := by have := range_len f 0 63; rw [range_all f] at this; exact this
    have t3 : eqRows (pairsOf f (keysF 64 (Mc.ints f).has)).length (pairF (pairsOf f (keysF 64 (Mc.ints f).has))) (pairsOf f (keysF 64 (Mc.ints f).has)).length (pairF (pairsOf f (keysF 64 (Mc.ints f).has))) = true := eqRows_refl _ _
    have t5 : (!eqRows (pairsOf f (keysF 64 (Mc.ints f).has)).length (pairF (pairsOf f (keysF 64 (Mc.ints f).has))) (pairsOf f (keysF 64 (Mc.ints f).has)).length (pairF (pairsOf f (keysF 64 (Mc.ints f).has)))) = false := by rw [t3]; rfl
    clear hL
    revert t1 t2 t3 t5
    have t4 : ∀ (n a b : Nat), n ≤ 64 → a ≠ b → decide ((59 : TypeId) = 59 ∧ (59 : TypeId) = 59 ∧ n = n ∧ n = n ∧ n = n ∧ n ≤ 1000000 ∧ a ≠ b) = true := fun n a b hn hab => decide_eq_true ⟨rfl, rfl, rfl, rfl, rfl, by omega, hab⟩
    intro t1 t2 t3 t5
    repeat ((conv => whnf); first | (refine brT ?_ ?_; · (first | exact t1 | exact t5 | exact t4 _ _ _ t2 (by simp) | (simp; done))) | (refine brF ?_ ?_; · (first | exact t1 | exact t5 | exact t4 _ _ _ t2 (by simp) | (simp; done))))

    conv => whnf
    refine SWP.cutS Try.f8.ntmps [5, 7] (MCp.Q2 (oldR lo n z) (oldR lo2 n2 z2) f g (pairsOf f (keysF 64 (Mc.ints f).has)).length (pairF (pairsOf f (keysF 64 (Mc.ints f).has))) 2) (mcp_l12 lo n lo2 n2 len2 (.slice (some ⟨1, lo2, none⟩) len2 cap2) (.inr (.inr ⟨_, rfl, h2⟩)) z z2 hl2 f g (pairsOf f (keysF 64 (Mc.ints f).has)).length (pairF (pairsOf f (keysF 64 (Mc.ints f).has))) f g [2, 3, 6] rfl rfl rfl rfl rfl) ?_
    rintro e vs H ⟨rfl, rfl, rfl⟩
    conv => whnf
    refine SWP.cutS Try.f8.ntmps [5, 7] (MCp.Q2 (oldR lo n z) (oldR lo2 n2 z2) f g (pairsOf f (keysF 64 (Mc.ints f).has)).length (pairF (pairsOf f (keysF 64 (Mc.ints f).has))) 4) (mcp_l22 lo n lo2 n2 z z2 f g hW (pairsOf f (keysF 64 (Mc.ints f).has)).length (pairF (pairsOf f (keysF 64 (Mc.ints f).has))) [2, 3] rfl rfl rfl rfl rfl) ?_
    rintro e vs H ⟨rfl, rfl, rfl⟩
    repeat ((conv => whnf); first | (refine brT ?_ ?_; · (first | exact t1 | exact t4 _ _ _ t2 (by simp) | (simp; done))) | (refine brF ?_ ?_; · (first | exact t1 | exact t4 _ _ _ t2 (by simp) | (simp; done))))

    conv => whnf
    exact congrArg Value.bool t3
set_option maxRecDepth 100000 in
set_option maxHeartbeats 8000000 in
theorem modelCopies_long_n (lo n len cap lo2 n2 : Nat) (z z2 : Nat → Int) (hl : 40 < len) : FWP Try.prog (means W) 8 [.slice (some ⟨0, lo, none⟩) len cap, .slice none 0 0] [oldR lo n z, oldR lo2 n2 z2] fun a _ => a = .bool true := by
  refine FWP.body envP5_ok 40 Try.func8 rfl (by exact Nat.le_of_ble_eq_true rfl) ?_
  have f0 : decide ((len : Int) > 40) = true := decide_eq_true (by omega)
  repeat ((conv => whnf); first | (refine brT ?_ ?_; · (first | exact f0 | (simp; done))) | (refine brF ?_ ?_; · (first | exact f0 | (simp; done))))

  conv => whnf
  rfl
set_option maxRecDepth 100000 in
set_option maxHeartbeats 8000000 in
theorem modelCopies_long_e (lo n len cap lo2 n2 : Nat) (z z2 : Nat → Int) (hl : 40 < len) : FWP Try.prog (means W) 8 [.slice (some ⟨0, lo, none⟩) len cap, .slice (some ⟨0, 0, some 0⟩) 0 1] [oldR lo n z, oldR lo2 n2 z2] fun a _ => a = .bool true := by
  refine FWP.body envP5_ok 40 Try.func8 rfl (by exact Nat.le_of_ble_eq_true rfl) ?_
  have f0 : decide ((len : Int) > 40) = true := decide_eq_true (by omega)
  repeat ((conv => whnf); first | (refine brT ?_ ?_; · (first | exact f0 | (simp; done))) | (refine brF ?_ ?_; · (first | exact f0 | (simp; done))))

  conv => whnf
  rfl
set_option maxRecDepth 100000 in
set_option maxHeartbeats 8000000 in
theorem modelCopies_long_r (lo n len cap lo2 n2 len2 cap2 : Nat) (z z2 : Nat → Int) (hl : 40 < len) : FWP Try.prog (means W) 8 [.slice (some ⟨0, lo, none⟩) len cap, .slice (some ⟨1, lo2, none⟩) len2 cap2] [oldR lo n z, oldR lo2 n2 z2] fun a _ => a = .bool true := by
  refine FWP.body envP5_ok 40 Try.func8 rfl (by exact Nat.le_of_ble_eq_true rfl) ?_
  have f0 : decide ((len : Int) > 40) = true := decide_eq_true (by omega)
  repeat ((conv => whnf); first | (refine brT ?_ ?_; · (first | exact f0 | (simp; done))) | (refine brF ?_ ?_; · (first | exact f0 | (simp; done))))

  conv => whnf
  rfl
set_option maxRecDepth 100000 in
set_option maxHeartbeats 8000000 in
theorem modelCopies_n_long (lo n lo2 n2 len2 cap2 : Nat) (z z2 : Nat → Int) (hl : 40 < len2) : FWP Try.prog (means W) 8 [.slice none 0 0, .slice (some ⟨1, lo2, none⟩) len2 cap2] [oldR lo n z, oldR lo2 n2 z2] fun a _ => a = .bool true := by
  refine FWP.body envP5_ok 40 Try.func8 rfl (by exact Nat.le_of_ble_eq_true rfl) ?_
  have f0 : decide ((len2 : Int) > 40) = true := decide_eq_true (by omega)
  repeat ((conv => whnf); first | (refine brT ?_ ?_; · (first | exact f0 | (simp; done))) | (refine brF ?_ ?_; · (first | exact f0 | (simp; done))))

  conv => whnf
  rfl
set_option maxRecDepth 100000 in
set_option maxHeartbeats 8000000 in
theorem modelCopies_e_long (lo n lo2 n2 len2 cap2 : Nat) (z z2 : Nat → Int) (hl : 40 < len2) : FWP Try.prog (means W) 8 [.slice (some ⟨0, 0, some 0⟩) 0 1, .slice (some ⟨1, lo2, none⟩) len2 cap2] [oldR lo n z, oldR lo2 n2 z2] fun a _ => a = .bool true := by
  refine FWP.body envP5_ok 40 Try.func8 rfl (by exact Nat.le_of_ble_eq_true rfl) ?_
  have f0 : decide ((len2 : Int) > 40) = true := decide_eq_true (by omega)
  repeat ((conv => whnf); first | (refine brT ?_ ?_; · (first | exact f0 | (simp; done))) | (refine brF ?_ ?_; · (first | exact f0 | (simp; done))))

  conv => whnf
  rfl
set_option maxRecDepth 100000 in
set_option maxHeartbeats 8000000 in
theorem modelCopies_r_long (lo n lo2 n2 len2 cap2 len cap : Nat) (z z2 : Nat → Int) (hl : 40 < len2) (hl1 : len ≤ 40) : FWP Try.prog (means W) 8 [.slice (some ⟨0, lo, none⟩) len cap, .slice (some ⟨1, lo2, none⟩) len2 cap2] [oldR lo n z, oldR lo2 n2 z2] fun a _ => a = .bool true := by
  refine FWP.body envP5_ok 40 Try.func8 rfl (by exact Nat.le_of_ble_eq_true rfl) ?_
  have f0 : decide ((len2 : Int) > 40) = true := decide_eq_true (by omega)
  have f1 : decide ((len : Int) > 40) = false := decide_eq_false (by omega)
  repeat ((conv => whnf); first | (refine brT ?_ ?_; · (first | exact f0 | exact f1 | (simp; done))) | (refine brF ?_ ?_; · (first | exact f0 | exact f1 | (simp; done))))

  conv => whnf
  rfl
theorem modelCopies_walk (W : World) (A : Option Addr) (len cap : Nat) (z : Nat → Int) (B : Option Addr) (len2 cap2 : Nat) (z2 : Nat → Int) (h : IsTri W A 4 len cap z) (h2 : IsTri W B 4 len2 cap2 z2) :
    Calls Try.prog 8 #[.slice A len cap, .slice B len2 cap2] W fun e w' => e = .returned (.bool true) ∧ Below W.heap.size W w' := by
  obtain ⟨sv, r, hat, hc, hok, hv⟩ := tab_arg h 0
  obtain ⟨mv, r2, hat2, hc2, hok2, hv2⟩ := tab_arg h2 1
  refine law_walk_rows [r, r2] (fun x hx => by simp at hx; rcases hx with h | h <;> rw [h] <;> assumption) (args := [sv, mv]) (.cons (hv _ _ (by show 0 < 2; decide) rfl) (.cons (hv2 _ _ (by show 1 < 2; decide) rfl) .nil)) ?_
  have hH : oldH [r, r2] = [oldR r.lo r.n fun j => z (j - r.lo), oldR r2.lo r2.n fun j => z2 (j - r2.lo)] := by
    show [some (false, AObj.ext (Ext.old r.lo r.n r.c)), some (false, AObj.ext (Ext.old r2.lo r2.n r2.c))] = _
    rw [hc, hc2]; rfl
  rw [hH]
  rcases hat with ⟨rfl, _⟩ | ⟨rfl, _⟩ | ⟨cap, rfl, h1, _, _⟩
  · rcases hat2 with ⟨rfl, _⟩ | ⟨rfl, _⟩ | ⟨cap2, rfl, h2, _, _⟩
    · exact modelCopies_nn _ _ _ _ _ _
    · exact modelCopies_ne _ _ _ _ _ _
    · by_cases hl2 : len2 ≤ 40
      · exact modelCopies_nr _ _ _ _ _ _ _ _ h2 hl2
      · exact modelCopies_n_long _ _ _ _ _ _ _ _ (by omega)
  · rcases hat2 with ⟨rfl, _⟩ | ⟨rfl, _⟩ | ⟨cap2, rfl, h2, _, _⟩
    · exact modelCopies_en _ _ _ _ _ _
    · exact modelCopies_ee _ _ _ _ _ _
    · by_cases hl2 : len2 ≤ 40
      · exact modelCopies_er _ _ _ _ _ _ _ _ h2 hl2
      · exact modelCopies_e_long _ _ _ _ _ _ _ _ (by omega)
  · by_cases hl : len ≤ 40
    · rcases hat2 with ⟨rfl, _⟩ | ⟨rfl, _⟩ | ⟨cap2, rfl, h2, _, _⟩
      · exact modelCopies_rn _ _ _ _ _ _ _ _ h1 hl
      · exact modelCopies_re _ _ _ _ _ _ _ _ h1 hl
      · by_cases hl2 : len2 ≤ 40
        · exact modelCopies_rr _ _ _ _ _ _ _ _ _ _ h1 hl h2 hl2
        · exact modelCopies_r_long _ _ _ _ _ _ _ _ _ _ (by omega) hl
    · rcases hat2 with ⟨rfl, _⟩ | ⟨rfl, _⟩ | ⟨cap2, rfl, h2, _, _⟩
      · exact modelCopies_long_n _ _ _ _ _ _ _ _ (by omega)
      · exact modelCopies_long_e _ _ _ _ _ _ _ _ (by omega)
      · exact modelCopies_long_r _ _ _ _ _ _ _ _ _ _ (by omega)
end Go.Proofs.Ytdmodejpcfhbhaa
