/- ModelLast: the walk. (printed by mlast2.py) -/
import Derived.Test.YtdmodejpcfhbhaaMlast
import Derived.Test.YtdmodejpcfhbhaaOpArg
namespace Go.Proofs.Ytdmodejpcfhbhaa
open Go.RowKit
variable {W : World}
attribute [local irreducible] keysF rangeP rangeG allG pairsOf eqRows isOpB setF setG2 maxF fndF SWP FWP OWP
set_option maxRecDepth 100000 in
set_option maxHeartbeats 8000000 in
theorem modelLast_n (lo n : Nat) (z : Nat → Int) (k0 k1 k2 k3 wr : Int) (hop : isOpB k0 k1 k2 k3 = true) : FWP Try.prog (means W) 7 [.slice none 0 0, opV k0 k1 k2 k3, .int .u16 wr] [oldR lo n z] fun a _ => a = .bool true := by
  unfold opV
  refine FWP.body envL5_ok 40 Try.func7 rfl (by exact Nat.le_of_ble_eq_true rfl) ?_
  have f1 : (!isOpB k0 k1 k2 k3) = false := by rw [hop]; rfl
  repeat ((conv => whnf); first | (refine brT ?_ ?_; · (first | exact f1 | (simp; done))) | (refine brF ?_ ?_; · (first | exact f1 | (simp; done))))

  conv => whnf
  refine SWP.cutS Try.f7.ntmps [2, 4, 7] (MLa.Q (oldR lo n z) (obx k0 k1 k2 k3) wr) (mla_l0 lo n 0 (.slice none 0 0) (.inl ⟨rfl, rfl⟩) z k0 k1 k2 k3 wr (by omega) [1, 4] rfl rfl rfl rfl rfl) ?_
  rintro e vs H ⟨f, g, rfl, rfl, rfl⟩
  rcases op_kind hop with hk1 | hk1 | hk1 | hk1
  · have q1 : decide (k0 = 1) = true := decide_eq_true hk1
    repeat ((conv => whnf); first | (refine brT ?_ ?_; · (first | exact hop | exact q1 | (simp; done))) | (refine brF ?_ ?_; · (first | exact hop | exact q1 | (simp; done))))

    conv => whnf
    refine SWP.cutS Try.f7.ntmps [] MLa.E (mla_inner lo n z k0 k1 k2 k3 wr (setF f k1 (some k2)) (setF g k1 (some (IntKind.i64.wrap wr))) f g (fun _ => ⟨by rw [setF_same]; rfl, by rw [setF_same, decide_eq_true hk1]; rfl, by rw [setF_same]; rfl⟩) (fun x hx => ⟨setF_ne _ _ (fun e => hx ⟨e, .inl hk1⟩), setF_ne _ _ (fun e => hx ⟨e, .inl hk1⟩)⟩) [1, 2, 5] rfl rfl rfl rfl rfl) ?_
    rintro e vs H rfl
    conv => whnf
    rfl
  · have q1 : decide (k0 = 1) = false := decide_eq_false (by omega)
    have q2 : decide (k0 = 2) = true := decide_eq_true hk1
    have hz2 : k2 = 0 := by
      have h := hop
      rw [hk1] at h
      simp [isOpB, isKeyB] at h
      omega
    repeat ((conv => whnf); first | (refine brT ?_ ?_; · (first | exact hop | exact q1 | exact q2 | (simp; done))) | (refine brF ?_ ?_; · (first | exact hop | exact q1 | exact q2 | (simp; done))))

    conv => whnf
    refine SWP.cutS Try.f7.ntmps [] MLa.E (mla_inner lo n z k0 k1 k2 k3 wr (setF f k1 none) (setF g k1 (some (IntKind.i64.wrap wr))) f g (fun _ => ⟨by rw [setF_same, hz2]; rfl, by rw [setF_same, decide_eq_false (by omega)]; rfl, by rw [setF_same]; rfl⟩) (fun x hx => ⟨setF_ne _ _ (fun e => hx ⟨e, .inr hk1⟩), setF_ne _ _ (fun e => hx ⟨e, .inr hk1⟩)⟩) [1, 2, 5] rfl rfl rfl rfl rfl) ?_
    rintro e vs H rfl
    conv => whnf
    rfl
  · have q1 : decide (k0 = 1) = false := decide_eq_false (by omega)
    have q2 : decide (k0 = 2) = false := decide_eq_false (by omega)
    have q3 : decide (k0 = 3) = true := decide_eq_true hk1
    repeat ((conv => whnf); first | (refine brT ?_ ?_; · (first | exact hop | exact q1 | exact q2 | exact q3 | (simp; done))) | (refine brF ?_ ?_; · (first | exact hop | exact q1 | exact q2 | exact q3 | (simp; done))))

    conv => whnf
    refine SWP.cutS Try.f7.ntmps [] MLa.E (mla_inner lo n z k0 k1 k2 k3 wr f g f g (fun h => by omega) (fun x _ => ⟨rfl, rfl⟩) [1, 2, 5] rfl rfl rfl rfl rfl) ?_
    rintro e vs H rfl
    conv => whnf
    rfl
  · have q1 : decide (k0 = 1) = false := decide_eq_false (by omega)
    have q2 : decide (k0 = 2) = false := decide_eq_false (by omega)
    have q3 : decide (k0 = 3) = false := decide_eq_false (by omega)
    cases hQ : (rangeP f k1 k3).isEmpty with
    | true =>
      repeat ((conv => whnf); first | (refine brT ?_ ?_; · (first | exact hop | exact q1 | exact q2 | exact q3 | exact hQ | (simp; done))) | (refine brF ?_ ?_; · (first | exact hop | exact q1 | exact q2 | exact q3 | exact hQ | (simp; done))))

      conv => whnf
      refine SWP.cutS Try.f7.ntmps [] MLa.E (mla_inner lo n z k0 k1 k2 k3 wr f g f g (fun h => by omega) (fun x _ => ⟨rfl, rfl⟩) [1, 2, 5] rfl rfl rfl rfl rfl) ?_
      rintro e vs H rfl
      conv => whnf
      rfl
    | false =>
      repeat ((conv => whnf); first | (refine brT ?_ ?_; · (first | exact hop | exact q1 | exact q2 | exact q3 | exact hQ | (simp; done))) | (refine brF ?_ ?_; · (first | exact hop | exact q1 | exact q2 | exact q3 | exact hQ | (simp; done))))

      conv => whnf
      refine SWP.cutS Try.f7.ntmps [] MLa.E (mla_inner lo n z k0 k1 k2 k3 wr f g f g (fun h => by omega) (fun x _ => ⟨rfl, rfl⟩) [1, 2, 5] rfl rfl rfl rfl rfl) ?_
      rintro e vs H rfl
      conv => whnf
      rfl
set_option maxRecDepth 100000 in
set_option maxHeartbeats 8000000 in
theorem modelLast_no_n (lo n : Nat) (z : Nat → Int) (k0 k1 k2 k3 wr : Int) (hop : isOpB k0 k1 k2 k3 = false) : FWP Try.prog (means W) 7 [.slice none 0 0, opV k0 k1 k2 k3, .int .u16 wr] [oldR lo n z] fun a _ => a = .bool true := by
  unfold opV
  refine FWP.body envL5_ok 40 Try.func7 rfl (by exact Nat.le_of_ble_eq_true rfl) ?_
  have f1 : (!isOpB k0 k1 k2 k3) = true := by rw [hop]; rfl
  repeat ((conv => whnf); first | (refine brT ?_ ?_; · (first | exact f1 | (simp; done))) | (refine brF ?_ ?_; · (first | exact f1 | (simp; done))))

  conv => whnf
  rfl
set_option maxRecDepth 100000 in
set_option maxHeartbeats 8000000 in
theorem modelLast_e (lo n : Nat) (z : Nat → Int) (k0 k1 k2 k3 wr : Int) (hop : isOpB k0 k1 k2 k3 = true) : FWP Try.prog (means W) 7 [.slice (some ⟨0, 0, some 0⟩) 0 1, opV k0 k1 k2 k3, .int .u16 wr] [oldR lo n z] fun a _ => a = .bool true := by
  unfold opV
  refine FWP.body envL5_ok 40 Try.func7 rfl (by exact Nat.le_of_ble_eq_true rfl) ?_
  have f1 : (!isOpB k0 k1 k2 k3) = false := by rw [hop]; rfl
  repeat ((conv => whnf); first | (refine brT ?_ ?_; · (first | exact f1 | (simp; done))) | (refine brF ?_ ?_; · (first | exact f1 | (simp; done))))

  conv => whnf
  refine SWP.cutS Try.f7.ntmps [2, 4, 7] (MLa.Q (oldR lo n z) (obx k0 k1 k2 k3) wr) (mla_l0 lo n 0 (.slice (some ⟨0, 0, some 0⟩) 0 1) (.inr (.inl ⟨rfl, rfl⟩)) z k0 k1 k2 k3 wr (by omega) [1, 4] rfl rfl rfl rfl rfl) ?_
  rintro e vs H ⟨f, g, rfl, rfl, rfl⟩
  rcases op_kind hop with hk1 | hk1 | hk1 | hk1
  · have q1 : decide (k0 = 1) = true := decide_eq_true hk1
    repeat ((conv => whnf); first | (refine brT ?_ ?_; · (first | exact hop | exact q1 | (simp; done))) | (refine brF ?_ ?_; · (first | exact hop | exact q1 | (simp; done))))

    conv => whnf
    refine SWP.cutS Try.f7.ntmps [] MLa.E (mla_inner lo n z k0 k1 k2 k3 wr (setF f k1 (some k2)) (setF g k1 (some (IntKind.i64.wrap wr))) f g (fun _ => ⟨by rw [setF_same]; rfl, by rw [setF_same, decide_eq_true hk1]; rfl, by rw [setF_same]; rfl⟩) (fun x hx => ⟨setF_ne _ _ (fun e => hx ⟨e, .inl hk1⟩), setF_ne _ _ (fun e => hx ⟨e, .inl hk1⟩)⟩) [1, 2, 5] rfl rfl rfl rfl rfl) ?_
    rintro e vs H rfl
    conv => whnf
    rfl
  · have q1 : decide (k0 = 1) = false := decide_eq_false (by omega)
    have q2 : decide (k0 = 2) = true := decide_eq_true hk1
    have hz2 : k2 = 0 := by
      have h := hop
      rw [hk1] at h
      simp [isOpB, isKeyB] at h
      omega
    repeat ((conv => whnf); first | (refine brT ?_ ?_; · (first | exact hop | exact q1 | exact q2 | (simp; done))) | (refine brF ?_ ?_; · (first | exact hop | exact q1 | exact q2 | (simp; done))))

    conv => whnf
    refine SWP.cutS Try.f7.ntmps [] MLa.E (mla_inner lo n z k0 k1 k2 k3 wr (setF f k1 none) (setF g k1 (some (IntKind.i64.wrap wr))) f g (fun _ => ⟨by rw [setF_same, hz2]; rfl, by rw [setF_same, decide_eq_false (by omega)]; rfl, by rw [setF_same]; rfl⟩) (fun x hx => ⟨setF_ne _ _ (fun e => hx ⟨e, .inr hk1⟩), setF_ne _ _ (fun e => hx ⟨e, .inr hk1⟩)⟩) [1, 2, 5] rfl rfl rfl rfl rfl) ?_
    rintro e vs H rfl
    conv => whnf
    rfl
  · have q1 : decide (k0 = 1) = false := decide_eq_false (by omega)
    have q2 : decide (k0 = 2) = false := decide_eq_false (by omega)
    have q3 : decide (k0 = 3) = true := decide_eq_true hk1
    repeat ((conv => whnf); first | (refine brT ?_ ?_; · (first | exact hop | exact q1 | exact q2 | exact q3 | (simp; done))) | (refine brF ?_ ?_; · (first | exact hop | exact q1 | exact q2 | exact q3 | (simp; done))))

    conv => whnf
    refine SWP.cutS Try.f7.ntmps [] MLa.E (mla_inner lo n z k0 k1 k2 k3 wr f g f g (fun h => by omega) (fun x _ => ⟨rfl, rfl⟩) [1, 2, 5] rfl rfl rfl rfl rfl) ?_
    rintro e vs H rfl
    conv => whnf
    rfl
  · have q1 : decide (k0 = 1) = false := decide_eq_false (by omega)
    have q2 : decide (k0 = 2) = false := decide_eq_false (by omega)
    have q3 : decide (k0 = 3) = false := decide_eq_false (by omega)
    cases hQ : (rangeP f k1 k3).isEmpty with
    | true =>
      repeat ((conv => whnf); first | (refine brT ?_ ?_; · (first | exact hop | exact q1 | exact q2 | exact q3 | exact hQ | (simp; done))) | (refine brF ?_ ?_; · (first | exact hop | exact q1 | exact q2 | exact q3 | exact hQ | (simp; done))))

      conv => whnf
      refine SWP.cutS Try.f7.ntmps [] MLa.E (mla_inner lo n z k0 k1 k2 k3 wr f g f g (fun h => by omega) (fun x _ => ⟨rfl, rfl⟩) [1, 2, 5] rfl rfl rfl rfl rfl) ?_
      rintro e vs H rfl
      conv => whnf
      rfl
    | false =>
      repeat ((conv => whnf); first | (refine brT ?_ ?_; · (first | exact hop | exact q1 | exact q2 | exact q3 | exact hQ | (simp; done))) | (refine brF ?_ ?_; · (first | exact hop | exact q1 | exact q2 | exact q3 | exact hQ | (simp; done))))

      conv => whnf
      refine SWP.cutS Try.f7.ntmps [] MLa.E (mla_inner lo n z k0 k1 k2 k3 wr f g f g (fun h => by omega) (fun x _ => ⟨rfl, rfl⟩) [1, 2, 5] rfl rfl rfl rfl rfl) ?_
      rintro e vs H rfl
      conv => whnf
      rfl
set_option maxRecDepth 100000 in
set_option maxHeartbeats 8000000 in
theorem modelLast_no_e (lo n : Nat) (z : Nat → Int) (k0 k1 k2 k3 wr : Int) (hop : isOpB k0 k1 k2 k3 = false) : FWP Try.prog (means W) 7 [.slice (some ⟨0, 0, some 0⟩) 0 1, opV k0 k1 k2 k3, .int .u16 wr] [oldR lo n z] fun a _ => a = .bool true := by
  unfold opV
  refine FWP.body envL5_ok 40 Try.func7 rfl (by exact Nat.le_of_ble_eq_true rfl) ?_
  have f1 : (!isOpB k0 k1 k2 k3) = true := by rw [hop]; rfl
  repeat ((conv => whnf); first | (refine brT ?_ ?_; · (first | exact f1 | (simp; done))) | (refine brF ?_ ?_; · (first | exact f1 | (simp; done))))

  conv => whnf
  rfl
set_option maxRecDepth 100000 in
set_option maxHeartbeats 8000000 in
theorem modelLast_r (lo n len cap : Nat) (z : Nat → Int) (k0 k1 k2 k3 wr : Int) (h1 : lo + len * 4 ≤ n) (hl : len ≤ 60) (hop : isOpB k0 k1 k2 k3 = true) : FWP Try.prog (means W) 7 [.slice (some ⟨0, lo, none⟩) len cap, opV k0 k1 k2 k3, .int .u16 wr] [oldR lo n z] fun a _ => a = .bool true := by
  unfold opV
  refine FWP.body envL5_ok 40 Try.func7 rfl (by exact Nat.le_of_ble_eq_true rfl) ?_
  have f0 : decide ((len : Int) > 60) = false := decide_eq_false (by omega)
  have f1 : (!isOpB k0 k1 k2 k3) = false := by rw [hop]; rfl
  repeat ((conv => whnf); first | (refine brT ?_ ?_; · (first | exact f0 | exact f1 | (simp; done))) | (refine brF ?_ ?_; · (first | exact f0 | exact f1 | (simp; done))))

  conv => whnf
  refine SWP.cutS Try.f7.ntmps [2, 4, 7] (MLa.Q (oldR lo n z) (obx k0 k1 k2 k3) wr) (mla_l0 lo n len (.slice (some ⟨0, lo, none⟩) len cap) (.inr (.inr ⟨_, rfl, h1⟩)) z k0 k1 k2 k3 wr hl [1, 4] rfl rfl rfl rfl rfl) ?_
  rintro e vs H ⟨f, g, rfl, rfl, rfl⟩
  rcases op_kind hop with hk1 | hk1 | hk1 | hk1
  · have q1 : decide (k0 = 1) = true := decide_eq_true hk1
    repeat ((conv => whnf); first | (refine brT ?_ ?_; · (first | exact hop | exact q1 | (simp; done))) | (refine brF ?_ ?_; · (first | exact hop | exact q1 | (simp; done))))

    conv => whnf
    refine SWP.cutS Try.f7.ntmps [] MLa.E (mla_inner lo n z k0 k1 k2 k3 wr (setF f k1 (some k2)) (setF g k1 (some (IntKind.i64.wrap wr))) f g (fun _ => ⟨by rw [setF_same]; rfl, by rw [setF_same, decide_eq_true hk1]; rfl, by rw [setF_same]; rfl⟩) (fun x hx => ⟨setF_ne _ _ (fun e => hx ⟨e, .inl hk1⟩), setF_ne _ _ (fun e => hx ⟨e, .inl hk1⟩)⟩) [1, 2, 5] rfl rfl rfl rfl rfl) ?_
    rintro e vs H rfl
    conv => whnf
    rfl
  · have q1 : decide (k0 = 1) = false := decide_eq_false (by omega)
    have q2 : decide (k0 = 2) = true := decide_eq_true hk1
    have hz2 : k2 = 0 := by
      have h := hop
      rw [hk1] at h
      simp [isOpB, isKeyB] at h
      omega
    repeat ((conv => whnf); first | (refine brT ?_ ?_; · (first | exact hop | exact q1 | exact q2 | (simp; done))) | (refine brF ?_ ?_; · (first | exact hop | exact q1 | exact q2 | (simp; done))))

    conv => whnf
    refine SWP.cutS Try.f7.ntmps [] MLa.E (mla_inner lo n z k0 k1 k2 k3 wr (setF f k1 none) (setF g k1 (some (IntKind.i64.wrap wr))) f g (fun _ => ⟨by rw [setF_same, hz2]; rfl, by rw [setF_same, decide_eq_false (by omega)]; rfl, by rw [setF_same]; rfl⟩) (fun x hx => ⟨setF_ne _ _ (fun e => hx ⟨e, .inr hk1⟩), setF_ne _ _ (fun e => hx ⟨e, .inr hk1⟩)⟩) [1, 2, 5] rfl rfl rfl rfl rfl) ?_
    rintro e vs H rfl
    conv => whnf
    rfl
  · have q1 : decide (k0 = 1) = false := decide_eq_false (by omega)
    have q2 : decide (k0 = 2) = false := decide_eq_false (by omega)
    have q3 : decide (k0 = 3) = true := decide_eq_true hk1
    repeat ((conv => whnf); first | (refine brT ?_ ?_; · (first | exact hop | exact q1 | exact q2 | exact q3 | (simp; done))) | (refine brF ?_ ?_; · (first | exact hop | exact q1 | exact q2 | exact q3 | (simp; done))))

    conv => whnf
    refine SWP.cutS Try.f7.ntmps [] MLa.E (mla_inner lo n z k0 k1 k2 k3 wr f g f g (fun h => by omega) (fun x _ => ⟨rfl, rfl⟩) [1, 2, 5] rfl rfl rfl rfl rfl) ?_
    rintro e vs H rfl
    conv => whnf
    rfl
  · have q1 : decide (k0 = 1) = false := decide_eq_false (by omega)
    have q2 : decide (k0 = 2) = false := decide_eq_false (by omega)
    have q3 : decide (k0 = 3) = false := decide_eq_false (by omega)
    cases hQ : (rangeP f k1 k3).isEmpty with
    | true =>
      repeat ((conv => whnf); first | (refine brT ?_ ?_; · (first | exact hop | exact q1 | exact q2 | exact q3 | exact hQ | (simp; done))) | (refine brF ?_ ?_; · (first | exact hop | exact q1 | exact q2 | exact q3 | exact hQ | (simp; done))))

      conv => whnf
      refine SWP.cutS Try.f7.ntmps [] MLa.E (mla_inner lo n z k0 k1 k2 k3 wr f g f g (fun h => by omega) (fun x _ => ⟨rfl, rfl⟩) [1, 2, 5] rfl rfl rfl rfl rfl) ?_
      rintro e vs H rfl
      conv => whnf
      rfl
    | false =>
      repeat ((conv => whnf); first | (refine brT ?_ ?_; · (first | exact hop | exact q1 | exact q2 | exact q3 | exact hQ | (simp; done))) | (refine brF ?_ ?_; · (first | exact hop | exact q1 | exact q2 | exact q3 | exact hQ | (simp; done))))

      conv => whnf
      refine SWP.cutS Try.f7.ntmps [] MLa.E (mla_inner lo n z k0 k1 k2 k3 wr f g f g (fun h => by omega) (fun x _ => ⟨rfl, rfl⟩) [1, 2, 5] rfl rfl rfl rfl rfl) ?_
      rintro e vs H rfl
      conv => whnf
      rfl
set_option maxRecDepth 100000 in
set_option maxHeartbeats 8000000 in
theorem modelLast_no_r (lo n len cap : Nat) (z : Nat → Int) (k0 k1 k2 k3 wr : Int) (hl : len ≤ 60) (hop : isOpB k0 k1 k2 k3 = false) : FWP Try.prog (means W) 7 [.slice (some ⟨0, lo, none⟩) len cap, opV k0 k1 k2 k3, .int .u16 wr] [oldR lo n z] fun a _ => a = .bool true := by
  unfold opV
  refine FWP.body envL5_ok 40 Try.func7 rfl (by exact Nat.le_of_ble_eq_true rfl) ?_
  have f0 : decide ((len : Int) > 60) = false := decide_eq_false (by omega)
  have f1 : (!isOpB k0 k1 k2 k3) = true := by rw [hop]; rfl
  repeat ((conv => whnf); first | (refine brT ?_ ?_; · (first | exact f0 | exact f1 | (simp; done))) | (refine brF ?_ ?_; · (first | exact f0 | exact f1 | (simp; done))))

  conv => whnf
  rfl
set_option maxRecDepth 100000 in
set_option maxHeartbeats 8000000 in
theorem modelLast_long (lo n len cap : Nat) (z : Nat → Int) (k0 k1 k2 k3 wr : Int) (hl : 60 < len) : FWP Try.prog (means W) 7 [.slice (some ⟨0, lo, none⟩) len cap, opV k0 k1 k2 k3, .int .u16 wr] [oldR lo n z] fun a _ => a = .bool true := by
  unfold opV
  refine FWP.body envL5_ok 40 Try.func7 rfl (by exact Nat.le_of_ble_eq_true rfl) ?_
  have f0 : decide ((len : Int) > 60) = true := decide_eq_true (by omega)
  repeat ((conv => whnf); first | (refine brT ?_ ?_; · (first | exact f0 | (simp; done))) | (refine brF ?_ ?_; · (first | exact f0 | (simp; done))))

  conv => whnf
  rfl
theorem modelLast_walk (W : World) (A : Option Addr) (len cap : Nat) (z : Nat → Int) (k0 k1 k2 k3 wr : Int) (h : IsTri W A 4 len cap z) (_ : (Lit.int .u16 wr).wf = true) :
    Calls Try.prog 7 #[.slice A len cap, opV k0 k1 k2 k3, .int .u16 wr] W fun e w' => e = .returned (.bool true) ∧ Below W.heap.size W w' := by
  obtain ⟨sv, r, hat, hc, hok, hv⟩ := tab_arg h 0
  refine law_walk_rows [r] (fun x hx => by simp at hx; subst hx; exact hok) (args := [sv, opV k0 k1 k2 k3, .int .u16 wr]) (.cons (hv _ _ (by show 0 < 1; decide) rfl) (.cons (by unfold opV; exact .agg (.cons (.plain rfl) (.cons (.plain rfl) (.cons (.plain rfl) (.cons (.plain rfl) .nil))))) (.cons (.plain rfl) .nil))) ?_
  have hH : oldH [r] = [oldR r.lo r.n fun j => z (j - r.lo)] := by
    show [some (false, AObj.ext (Ext.old r.lo r.n r.c))] = _
    rw [hc]; rfl
  rw [hH]
  cases hop : isOpB k0 k1 k2 k3 with
  | true =>
    rcases hat with ⟨rfl, _⟩ | ⟨rfl, _⟩ | ⟨cap, rfl, h1, _, _⟩
    · exact modelLast_n _ _ _ _ _ _ _ _ hop
    · exact modelLast_e _ _ _ _ _ _ _ _ hop
    · by_cases hl : len ≤ 60
      · exact modelLast_r _ _ _ _ _ _ _ _ _ _ h1 hl hop
      · exact modelLast_long _ _ _ _ _ _ _ _ _ _ (by omega)
  | false =>
    rcases hat with ⟨rfl, _⟩ | ⟨rfl, _⟩ | ⟨cap, rfl, h1, _, _⟩
    · exact modelLast_no_n _ _ _ _ _ _ _ _ hop
    · exact modelLast_no_e _ _ _ _ _ _ _ _ hop
    · by_cases hl : len ≤ 60
      · exact modelLast_no_r _ _ _ _ _ _ _ _ _ _ hl hop
      · exact modelLast_long _ _ _ _ _ _ _ _ _ _ (by omega)
end Go.Proofs.Ytdmodejpcfhbhaa
