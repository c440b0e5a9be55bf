/- CellApart: the walk. -/
import Derived.Test.YtakbnbmbiaejiaaCellFullW
import Derived.Test.YtakbnbmbiaejiaaSxV
import Derived.Test.YtakbnbmbiaejiaaCellApartP
namespace Go.Proofs.Ytakbnbmbiaejiaa
open Go.RowKit
variable {W : World}

namespace CA
abbrev at0 (i : Nat) : Value := .pointer (some ⟨i, 0, none⟩)
def I1 (sv : Value) (O : Option (Bool × AObj Ext)) (len : Nat) (k1 k2 K1 K2 : Int) (k : Nat) (vs : List Value) (H : HX) : Prop :=
  ∃ (i : Nat) (x y : CellM) (V : Vw), k + i = len ∧ Inv K1 111 K2 222 x y V ∧ vs = [sv, .int .u8 k1, .int .u8 k2, at0 1, .int .i64 16, at0 2, at0 3, .int .i64 i] ∧ H = [O, some (true, .ext (.arena V)), some (true, .ext (.cell x)), some (true, .ext (.cell y))]
def I2 (O : Option (Bool × AObj Ext)) (k1 k2 K1 K2 : Int) (k : Nat) (vs : List Value) (H : HX) : Prop :=
  ∃ (i : Nat) (x y : CellM) (V : Vw), k + i = 9 ∧ Inv K1 111 K2 222 x y V ∧ Late i x y ∧ vs = [.int .u8 k1, .int .u8 k2, at0 1, .int .i64 16, at0 2, at0 3, .int .i64 i] ∧ H = [O, some (true, .ext (.arena V)), some (true, .ext (.cell x)), some (true, .ext (.cell y))]
def E1 (O : Option (Bool × AObj Ext)) (k1 k2 K1 K2 : Int) (e : Exit) (vs : List Value) (H : HX) : Prop :=
  e = .exit 0 ∧ ∃ (x y : CellM) (V : Vw), Inv K1 111 K2 222 x y V ∧ vs = [.int .u8 k1, .int .u8 k2, at0 1, .int .i64 16, at0 2, at0 3] ∧ H = [O, some (true, .ext (.arena V)), some (true, .ext (.cell x)), some (true, .ext (.cell y))]
end CA
attribute [local irreducible] Vw.rd Vw.swaps Vw.inb partF claimF stateF versionF SWP FWP OWP Ent CellM.step
set_option maxRecDepth 100000 in
set_option maxHeartbeats 16000000 in
theorem cellApart_fwp (sv : Value) (b lo n len : Nat) (B : Nat → Bool) (hs : SlAt 0 len sv ⟨b, lo, n, boolsC B lo⟩) (k1 k2 : Int) : FWP Try.prog (means W) 6 [sv, .int .u8 k1, .int .u8 k2] [some (false, .ext (.old lo n (boolsC B lo)))] fun a _ => a = .bool true := by
  have hc : (⟨2, 5, 200, 1000⟩ : Cf).okB = true := by decide
  obtain ⟨K1, e1⟩ : ∃ K : Int, IntKind.i64.wrap (k1.tmod 64) = K := ⟨_, rfl⟩
  obtain ⟨K2, e2⟩ : ∃ K : Int, IntKind.i64.wrap (k2.tmod 64) = K := ⟨_, rfl⟩
  have ek : IntKind.i64.wrap (IntKind.i64.wrap (IntKind.i64.wrap (3 + 2) + 4) + 7) = 16 := by decide
  have w23 : IntKind.i64.wrap (16 + 7) = 23 := by decide
  have w17 : IntKind.i64.wrap (16 + 1) = 17 := by decide
  obtain ⟨rfl, rfl⟩ | ⟨rfl, rfl⟩ | ⟨cap, rfl, hn, hlen⟩ := hs
  all_goals try simp only at hn hlen
  · refine FWP.body envC15_ok 40 Try.func6 rfl (by exact Nat.le_of_ble_eq_true rfl) ?_
    repeat ((conv => whnf); first | (refine brT ?_ ?_; · (first | with_reducible exact Cf.okB_wf hc rfl | with_reducible exact Cf.okB_is hc rfl | (simp [*]; done))) | (refine brF ?_ ?_; · (first | with_reducible exact Cf.okB_wf hc rfl | with_reducible exact Cf.okB_is hc rfl | (simp [*]; done))))

    conv => whnf
    refine SWP.cutS Try.f6.ntmps [1, 2, 8, 10, 11, 12] (CA.E1 (some (false, .ext (.old lo n (boolsC B lo)))) k1 k2 K1 K2) (SWP.loopS Try.f6.ntmps [0, 1, 2, 8, 10, 11, 12, 13] (CA.I1 (.slice none 0 0) (some (false, .ext (.old lo n (boolsC B lo)))) 0 k1 k2 K1 K2) (N := 0) [2, 3, 4] rfl rfl rfl ?_ ?_) ?_
    · refine ⟨0, CellM.new ⟨2, 5, 200, 1000⟩ 16 K1 111, CellM.new ⟨2, 5, 200, 1000⟩ 16 K2 222, Cf.arena ⟨2, 5, 200, 1000⟩, rfl, CA.start K1 K2, ?_, ?_⟩
      · simp only [ek]; rfl
      · simp only [e1, e2, ek]; rfl
    · rintro k vs H ⟨i, x, y, V, hk, hI, rfl, rfl⟩
      refine SWP.code envC15_ok 40 200 ?_
      obtain ⟨lx, ly⟩ := hI.line
      have f1 : ¬ (i : Int) < 0 := by omega
      repeat ((conv => whnf); first | (refine brT ?_ ?_; · (simp [*]; done)) | (refine brF ?_ ?_; · (simp [*]; done)))

      conv => whnf
      exact ⟨[1, 2, 3], rfl, rfl, _, rfl, rfl, x, y, V, hI, rfl, rfl⟩
    · rintro e vs H ⟨rfl, x, y, V, hE, rfl, rfl⟩
      repeat ((conv => whnf); first | (refine brT ?_ ?_; · (simp [*]; done)) | (refine brF ?_ ?_; · (simp [*]; done)))

      conv => whnf
      refine SWP.loopS Try.f6.ntmps [1, 2, 8, 10, 11, 12, 14] (CA.I2 (some (false, .ext (.old lo n (boolsC B lo)))) k1 k2 K1 K2) (N := 9) [1, 2, 3] rfl rfl rfl ⟨0, x, y, V, rfl, hE, ⟨by omega, by omega⟩, rfl, rfl⟩ ?_
      rintro k vs H ⟨i, x, y, V, hk, hI, hL, rfl, rfl⟩
      refine SWP.code envC15_ok 40 200 ?_
      obtain ⟨lx, ly⟩ := hI.line
      have gx : (Nat.ble x.line 8 && !Nat.beq 2 1) = true := by rw [Nat.ble_eq_true_of_le lx]; rfl
      have gy : (Nat.ble y.line 8 && !Nat.beq 3 1) = true := by rw [Nat.ble_eq_true_of_le ly]; rfl
      by_cases hi : i < 9
      · have f1 : (i : Int) < 9 := by omega
        have f2 : IntKind.i64.wrap ((i : Int) + 1) = (i : Int) + 1 := wrapI (by omega) (by omega)
        obtain ⟨hI', hL'⟩ := CA.both hI hL
        repeat ((conv => whnf); first | (refine brT ?_ ?_; · (first | exact gx | exact gy | (simp [*]; done))) | (refine brF ?_ ?_; · (first | exact gx | exact gy | (simp [*]; done))))

        conv => whnf
        exact ⟨k - 1, by omega, [1, 2, 3], rfl, rfl, _, rfl, i + 1, _, _, _, by omega, hI', hL', by rw [f2]; rfl, rfl⟩
      · have f1 : ¬ (i : Int) < 9 := by omega
        have i9 : i = 9 := by omega
        subst i9
        obtain ⟨a1, a2, a3, a4, a5, ⟨b1, b2, b3, b4, b5, b6⟩ | ⟨b1, b2, b3, b4, b5, b6⟩⟩ := CA.ends hI hL
        · have c1 : IntKind.i64.wrap (23 + IntKind.i64.wrap (3 * 0)) = 23 := by decide
          have c2 : IntKind.i64.wrap (23 + IntKind.i64.wrap (3 * 1)) = 26 := by decide
          repeat ((conv => whnf); first | (refine brT ?_ ?_; · (simp [*]; done)) | (refine brF ?_ ?_; · (simp [*]; done)))

          conv => whnf
          exact congrArg Value.bool (by simp [*])
        · have c1 : IntKind.i64.wrap (23 + IntKind.i64.wrap (3 * 0)) = 23 := by decide
          have c2 : IntKind.i64.wrap (23 + IntKind.i64.wrap (3 * 1)) = 26 := by decide
          repeat ((conv => whnf); first | (refine brT ?_ ?_; · (simp [*]; done)) | (refine brF ?_ ?_; · (simp [*]; done)))

          conv => whnf
          exact congrArg Value.bool (by simp [*])
  · refine FWP.body envC15_ok 40 Try.func6 rfl (by exact Nat.le_of_ble_eq_true rfl) ?_
    repeat ((conv => whnf); first | (refine brT ?_ ?_; · (first | with_reducible exact Cf.okB_wf hc rfl | with_reducible exact Cf.okB_is hc rfl | (simp [*]; done))) | (refine brF ?_ ?_; · (first | with_reducible exact Cf.okB_wf hc rfl | with_reducible exact Cf.okB_is hc rfl | (simp [*]; done))))

    conv => whnf
    refine SWP.cutS Try.f6.ntmps [1, 2, 8, 10, 11, 12] (CA.E1 (some (false, .ext (.old lo n (boolsC B lo)))) k1 k2 K1 K2) (SWP.loopS Try.f6.ntmps [0, 1, 2, 8, 10, 11, 12, 13] (CA.I1 (.slice (some ⟨0, 0, some 0⟩) 0 1) (some (false, .ext (.old lo n (boolsC B lo)))) 0 k1 k2 K1 K2) (N := 0) [2, 3, 4] rfl rfl rfl ?_ ?_) ?_
    · refine ⟨0, CellM.new ⟨2, 5, 200, 1000⟩ 16 K1 111, CellM.new ⟨2, 5, 200, 1000⟩ 16 K2 222, Cf.arena ⟨2, 5, 200, 1000⟩, rfl, CA.start K1 K2, ?_, ?_⟩
      · simp only [ek]; rfl
      · simp only [e1, e2, ek]; rfl
    · rintro k vs H ⟨i, x, y, V, hk, hI, rfl, rfl⟩
      refine SWP.code envC15_ok 40 200 ?_
      obtain ⟨lx, ly⟩ := hI.line
      have f1 : ¬ (i : Int) < 0 := by omega
      repeat ((conv => whnf); first | (refine brT ?_ ?_; · (simp [*]; done)) | (refine brF ?_ ?_; · (simp [*]; done)))

      conv => whnf
      exact ⟨[1, 2, 3], rfl, rfl, _, rfl, rfl, x, y, V, hI, rfl, rfl⟩
    · rintro e vs H ⟨rfl, x, y, V, hE, rfl, rfl⟩
      repeat ((conv => whnf); first | (refine brT ?_ ?_; · (simp [*]; done)) | (refine brF ?_ ?_; · (simp [*]; done)))

      conv => whnf
      refine SWP.loopS Try.f6.ntmps [1, 2, 8, 10, 11, 12, 14] (CA.I2 (some (false, .ext (.old lo n (boolsC B lo)))) k1 k2 K1 K2) (N := 9) [1, 2, 3] rfl rfl rfl ⟨0, x, y, V, rfl, hE, ⟨by omega, by omega⟩, rfl, rfl⟩ ?_
      rintro k vs H ⟨i, x, y, V, hk, hI, hL, rfl, rfl⟩
      refine SWP.code envC15_ok 40 200 ?_
      obtain ⟨lx, ly⟩ := hI.line
      have gx : (Nat.ble x.line 8 && !Nat.beq 2 1) = true := by rw [Nat.ble_eq_true_of_le lx]; rfl
      have gy : (Nat.ble y.line 8 && !Nat.beq 3 1) = true := by rw [Nat.ble_eq_true_of_le ly]; rfl
      by_cases hi : i < 9
      · have f1 : (i : Int) < 9 := by omega
        have f2 : IntKind.i64.wrap ((i : Int) + 1) = (i : Int) + 1 := wrapI (by omega) (by omega)
        obtain ⟨hI', hL'⟩ := CA.both hI hL
        repeat ((conv => whnf); first | (refine brT ?_ ?_; · (first | exact gx | exact gy | (simp [*]; done))) | (refine brF ?_ ?_; · (first | exact gx | exact gy | (simp [*]; done))))

        conv => whnf
        exact ⟨k - 1, by omega, [1, 2, 3], rfl, rfl, _, rfl, i + 1, _, _, _, by omega, hI', hL', by rw [f2]; rfl, rfl⟩
      · have f1 : ¬ (i : Int) < 9 := by omega
        have i9 : i = 9 := by omega
        subst i9
        obtain ⟨a1, a2, a3, a4, a5, ⟨b1, b2, b3, b4, b5, b6⟩ | ⟨b1, b2, b3, b4, b5, b6⟩⟩ := CA.ends hI hL
        · have c1 : IntKind.i64.wrap (23 + IntKind.i64.wrap (3 * 0)) = 23 := by decide
          have c2 : IntKind.i64.wrap (23 + IntKind.i64.wrap (3 * 1)) = 26 := by decide
          repeat ((conv => whnf); first | (refine brT ?_ ?_; · (simp [*]; done)) | (refine brF ?_ ?_; · (simp [*]; done)))

          conv => whnf
          exact congrArg Value.bool (by simp [*])
        · have c1 : IntKind.i64.wrap (23 + IntKind.i64.wrap (3 * 0)) = 23 := by decide
          have c2 : IntKind.i64.wrap (23 + IntKind.i64.wrap (3 * 1)) = 26 := by decide
          repeat ((conv => whnf); first | (refine brT ?_ ?_; · (simp [*]; done)) | (refine brF ?_ ?_; · (simp [*]; done)))

          conv => whnf
          exact congrArg Value.bool (by simp [*])
  · refine FWP.body envC15_ok 40 Try.func6 rfl (by exact Nat.le_of_ble_eq_true rfl) ?_
    by_cases hbig : 30 < len
    · have hb : (30 : Int) < (len : Int) := by omega
      repeat ((conv => whnf); first | (refine brT ?_ ?_; · (simp [*]; done)) | (refine brF ?_ ?_; · (simp [*]; done)))

      conv => whnf
      exact congrArg Value.bool (by simp [*])
    have hb : ¬ (30 : Int) < (len : Int) := by omega
    repeat ((conv => whnf); first | (refine brT ?_ ?_; · (first | with_reducible exact Cf.okB_wf hc rfl | with_reducible exact Cf.okB_is hc rfl | (simp [*]; done))) | (refine brF ?_ ?_; · (first | with_reducible exact Cf.okB_wf hc rfl | with_reducible exact Cf.okB_is hc rfl | (simp [*]; done))))

    conv => whnf
    refine SWP.cutS Try.f6.ntmps [1, 2, 8, 10, 11, 12] (CA.E1 (some (false, .ext (.old lo n (boolsC B lo)))) k1 k2 K1 K2) (SWP.loopS Try.f6.ntmps [0, 1, 2, 8, 10, 11, 12, 13] (CA.I1 (.slice (some ⟨0, lo, none⟩) len cap) (some (false, .ext (.old lo n (boolsC B lo)))) len k1 k2 K1 K2) (N := len) [2, 3, 4] rfl rfl rfl ?_ ?_) ?_
    · refine ⟨0, CellM.new ⟨2, 5, 200, 1000⟩ 16 K1 111, CellM.new ⟨2, 5, 200, 1000⟩ 16 K2 222, Cf.arena ⟨2, 5, 200, 1000⟩, rfl, CA.start K1 K2, ?_, ?_⟩
      · simp only [ek]; rfl
      · simp only [e1, e2, ek]; rfl
    · rintro k vs H ⟨i, x, y, V, hk, hI, rfl, rfl⟩
      refine SWP.code envC15_ok 40 200 ?_
      obtain ⟨lx, ly⟩ := hI.line
      have gx : (Nat.ble x.line 8 && !Nat.beq 2 1) = true := by rw [Nat.ble_eq_true_of_le lx]; rfl
      have gy : (Nat.ble y.line 8 && !Nat.beq 3 1) = true := by rw [Nat.ble_eq_true_of_le ly]; rfl
      by_cases hi : i < len
      · have f1 : (i : Int) < (len : Int) := by omega
        have f2 : IntKind.i64.wrap ((i : Int) + 1) = (i : Int) + 1 := wrapI (by omega) (by omega)
        have f3 : decide (lo ≤ lo + (i : Int).toNat * 1 ∧ lo + (i : Int).toNat * 1 < n) = true := decide_eq_true ⟨by omega, by omega⟩
        have f5 : decide ((0:Int) ≤ (i:Int) ∧ (i:Int) < (len:Int)) = true := decide_eq_true ⟨by omega, by omega⟩
        cases hB : B (lo + (i : Int).toNat * 1 - lo) with
        | true =>
          obtain ⟨hs, _⟩ := CA.step hI
          repeat ((conv => whnf); first | (refine brT ?_ ?_; · (first | exact gx | exact gy | exact hB | exact f3 | (simp [*]; done))) | (refine brF ?_ ?_; · (first | exact gx | exact gy | exact hB | exact f3 | (simp [*]; done))) | (rw [f5]))

          conv => whnf
          exact ⟨k - 1, by omega, [1, 2, 3], rfl, rfl, _, rfl, i + 1, _, _, _, by omega, hs, by rw [f2]; rfl, rfl⟩
        | false =>
          obtain ⟨hs, _⟩ := CA.step' hI
          repeat ((conv => whnf); first | (refine brT ?_ ?_; · (first | exact gx | exact gy | exact hB | exact f3 | (simp [*]; done))) | (refine brF ?_ ?_; · (first | exact gx | exact gy | exact hB | exact f3 | (simp [*]; done))) | (rw [f5]))

          conv => whnf
          exact ⟨k - 1, by omega, [1, 2, 3], rfl, rfl, _, rfl, i + 1, _, _, _, by omega, hs, by rw [f2]; rfl, rfl⟩
      · have f1 : ¬ (i : Int) < (len : Int) := by omega
        repeat ((conv => whnf); first | (refine brT ?_ ?_; · (simp [*]; done)) | (refine brF ?_ ?_; · (simp [*]; done)))

        conv => whnf
        exact ⟨[1, 2, 3], rfl, rfl, _, rfl, rfl, x, y, V, hI, rfl, rfl⟩
    · rintro e vs H ⟨rfl, x, y, V, hE, rfl, rfl⟩
      repeat ((conv => whnf); first | (refine brT ?_ ?_; · (simp [*]; done)) | (refine brF ?_ ?_; · (simp [*]; done)))

      conv => whnf
      refine SWP.loopS Try.f6.ntmps [1, 2, 8, 10, 11, 12, 14] (CA.I2 (some (false, .ext (.old lo n (boolsC B lo)))) k1 k2 K1 K2) (N := 9) [1, 2, 3] rfl rfl rfl ⟨0, x, y, V, rfl, hE, ⟨by omega, by omega⟩, rfl, rfl⟩ ?_
      rintro k vs H ⟨i, x, y, V, hk, hI, hL, rfl, rfl⟩
      refine SWP.code envC15_ok 40 200 ?_
      obtain ⟨lx, ly⟩ := hI.line
      have gx : (Nat.ble x.line 8 && !Nat.beq 2 1) = true := by rw [Nat.ble_eq_true_of_le lx]; rfl
      have gy : (Nat.ble y.line 8 && !Nat.beq 3 1) = true := by rw [Nat.ble_eq_true_of_le ly]; rfl
      by_cases hi : i < 9
      · have f1 : (i : Int) < 9 := by omega
        have f2 : IntKind.i64.wrap ((i : Int) + 1) = (i : Int) + 1 := wrapI (by omega) (by omega)
        obtain ⟨hI', hL'⟩ := CA.both hI hL
        repeat ((conv => whnf); first | (refine brT ?_ ?_; · (first | exact gx | exact gy | (simp [*]; done))) | (refine brF ?_ ?_; · (first | exact gx | exact gy | (simp [*]; done))))

        conv => whnf
        exact ⟨k - 1, by omega, [1, 2, 3], rfl, rfl, _, rfl, i + 1, _, _, _, by omega, hI', hL', by rw [f2]; rfl, rfl⟩
      · have f1 : ¬ (i : Int) < 9 := by omega
        have i9 : i = 9 := by omega
        subst i9
        obtain ⟨a1, a2, a3, a4, a5, ⟨b1, b2, b3, b4, b5, b6⟩ | ⟨b1, b2, b3, b4, b5, b6⟩⟩ := CA.ends hI hL
        · have c1 : IntKind.i64.wrap (23 + IntKind.i64.wrap (3 * 0)) = 23 := by decide
          have c2 : IntKind.i64.wrap (23 + IntKind.i64.wrap (3 * 1)) = 26 := by decide
          repeat ((conv => whnf); first | (refine brT ?_ ?_; · (simp [*]; done)) | (refine brF ?_ ?_; · (simp [*]; done)))

          conv => whnf
          exact congrArg Value.bool (by simp [*])
        · have c1 : IntKind.i64.wrap (23 + IntKind.i64.wrap (3 * 0)) = 23 := by decide
          have c2 : IntKind.i64.wrap (23 + IntKind.i64.wrap (3 * 1)) = 26 := by decide
          repeat ((conv => whnf); first | (refine brT ?_ ?_; · (simp [*]; done)) | (refine brF ?_ ?_; · (simp [*]; done)))

          conv => whnf
          exact congrArg Value.bool (by simp [*])
theorem cellApart_walk (W : World) (A : Option Addr) (len cap : Nat) (B : Nat → Bool) (a1 a2 : Int) (hA : IsCells W A len cap fun j => .bool (B j)) (_ : (Lit.int .u8 a1).wf = true) (_ : (Lit.int .u8 a2).wf = true) :
    Calls Try.prog 6 #[.slice A len cap, .int .u8 a1, .int .u8 a2] W fun e w' => e = .returned (.bool true) ∧ Below W.heap.size W w' := by
  obtain ⟨sv, ⟨b, lo, n, c⟩, h1, h2, h3, h4⟩ := bools_arg hA 0
  simp only at h2
  subst h2
  exact law_walk_rows [⟨b, lo, n, boolsC B lo⟩] (fun r hr => by simp at hr; subst hr; exact h3) (.cons (h4 _ _ (by simp) (by simp)) (.cons (.plain rfl) (.cons (.plain rfl) .nil))) (cellApart_fwp sv b lo n len B h1 a1 a2)
end Go.Proofs.Ytakbnbmbiaejiaa
