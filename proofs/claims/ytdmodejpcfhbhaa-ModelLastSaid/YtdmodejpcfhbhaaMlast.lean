/- ModelLast: the walk's rounds. (printed by mlast2.py) -/
import Derived.Test.YtdmodejpcfhbhaaMcp
import Derived.Test.YtdmodejpcfhbhaaTabs
namespace Go.Proofs.Ytdmodejpcfhbhaa
open Go.RowKit
variable {W : World}
noncomputable def envL5 : Env Ext := envP5.add 29 (dt dOpIs)
theorem envL5_ok : envL5.Ok Try.prog (means W) := envP5_ok.add fun args H v H' h => ok_RefIs (by rw [← DT.out_of (dOpIs args H)]; exact h)
theorem setF_same (f : Int → Option Int) (k : Int) (v : Option Int) : setF f k v k = v := by unfold setF; rw [if_pos rfl]
theorem setF_ne (f : Int → Option Int) {k x : Int} (v : Option Int) (h : x ≠ k) : setF f k v x = f x := by unfold setF; rw [if_neg h]
def obx (k0 k1 k2 k3 : Int) : Option (Bool × AObj Ext) := some (true, .cells [.int .i64 k0, .int .i64 k1, .int .i64 k2, .int .i64 k3] 27)
def MLa.I (sv : Value) (o1 o2 : Option (Bool × AObj Ext)) (wr : Int) (len : Nat) (k : Nat) (vs : List Value) (H : HX) : Prop :=
  ∃ (i : Nat) (f g : Int → Option Int), k + i = len ∧ vs = [sv, .int .u16 wr, .pointer (some ⟨1, 0, none⟩), .pointer (some ⟨2, 0, none⟩), .int .i64 i] ∧ H = [o1, o2, md f g]
def MLa.Q (o1 o2 : Option (Bool × AObj Ext)) (wr : Int) (e : Exit) (vs : List Value) (H : HX) : Prop :=
  ∃ (f g : Int → Option Int), e = .exit 0 ∧ vs = [.int .u16 wr, .pointer (some ⟨1, 0, none⟩), .pointer (some ⟨2, 0, none⟩)] ∧ H = [o1, o2, md f g]
def MLa.J (o1 o2 : Option (Bool × AObj Ext)) (wr : Int) (f' g' f g : Int → Option Int) (k : Nat) (vs : List Value) (H : HX) : Prop :=
  ∃ j : Nat, k + j = 64 ∧ vs = [.int .u16 wr, .pointer (some ⟨1, 0, none⟩), .pointer (some ⟨2, 0, none⟩), .pointer (some ⟨3, 0, none⟩), .int .i64 j] ∧ H = [o1, o2, md f' g', md f g]
def MLa.E (e : Exit) (_ : List Value) (_ : HX) : Prop := e = .exit 2
attribute [local irreducible] keysF rangeP rangeG allG pairsOf eqRows isOpB setF setG2 maxF fndF SWP FWP OWP
set_option maxRecDepth 100000 in
set_option maxHeartbeats 8000000 in
theorem mla_r0 (lo n len : Nat) (sv : Value) (hs : SF 0 lo n len sv) (z : Nat → Int) (k0 k1 k2 k3 wr : Int) (hl : len ≤ 60) (i k : Nat) (f g : Int → Option Int) (hki : k + i = len) :
    SWP Try.prog (means W) 1 (loopB Try.f7 0) (slT Try.f7.ntmps [0, 2, 4, 7, 8] [sv, .int .u16 wr, .pointer (some ⟨1, 0, none⟩), .pointer (some ⟨2, 0, none⟩), .int .i64 i]) [oldR lo n z, obx k0 k1 k2 k3, md f g] (roundK 1 Try.f7.ntmps [0, 2, 4, 7, 8] (MLa.I sv (oldR lo n z) (obx k0 k1 k2 k3) wr len) k (Left 1 Try.f7.ntmps [2, 4, 7] (MLa.Q (oldR lo n z) (obx k0 k1 k2 k3) wr))) := by
  refine SWP.code envP5_ok 40 200 ?_
  by_cases hi : i < len
  · rcases hs with ⟨_, h⟩ | ⟨_, h⟩ | ⟨cap, rfl, h0⟩
    · omega
    · omega
    have gi : decide (0 ≤ (i : Int) ∧ (i : Int) < (len : Int)) = true := decide_eq_true (by omega)
    have f1 : decide ((i : Int) < (len : Int)) = true := decide_eq_true (by omega)
    have f2 : decide (lo ≤ lo + ((i : Int)).toNat * 4 ∧ lo + ((i : Int)).toNat * 4 + 4 ≤ n) = true := decide_eq_true (by omega)
    have gw1 : ((i + 1 : Nat) : Int) = IntKind.i64.wrap ((i : Int) + 1) := by rw [wrapI (by omega) (by omega)]; rfl
    cases hop : isOpB (z (lo + ((i : Int)).toNat * 4)) (z (lo + ((i : Int)).toNat * 4 + 1)) (z (lo + ((i : Int)).toNat * 4 + 2)) (z (lo + ((i : Int)).toNat * 4 + 3)) with
    | false =>
      repeat ((conv => whnf); first | (refine brT ?_ ?_; · (first | exact f1 | exact f2 | exact hop | (simp; done))) | (refine brF ?_ ?_; · (first | exact f1 | exact f2 | exact hop | (simp; done))) | (rw [gi]))

      conv => whnf
      exact ⟨k - 1, by omega, [1, 2], rfl, rfl, [.slice (some ⟨0, lo, none⟩) len cap, .int .u16 wr, .pointer (some ⟨1, 0, none⟩), .pointer (some ⟨2, 0, none⟩), .int .i64 (IntKind.i64.wrap ((i : Int) + 1))], rfl, i + 1, f, g, by omega, by rw [gw1], rfl⟩
    | true =>
      have hk := op_key hop
      rcases op_kind hop with hk1 | hk1 | hk1 | hk1
      · have k1 : decide ((z (lo + ((i : Int)).toNat * 4)) = 1) = true := decide_eq_true hk1
        repeat ((conv => whnf); first | (refine brT ?_ ?_; · (first | exact f1 | exact f2 | exact hop | exact k1 | (simp; done))) | (refine brF ?_ ?_; · (first | exact f1 | exact f2 | exact hop | exact k1 | (simp; done))) | (rw [gi]))

        conv => whnf
        exact ⟨k - 1, by omega, [1, 2], rfl, rfl, [.slice (some ⟨0, lo, none⟩) len cap, .int .u16 wr, .pointer (some ⟨1, 0, none⟩), .pointer (some ⟨2, 0, none⟩), .int .i64 (IntKind.i64.wrap ((i : Int) + 1))], rfl, i + 1, (setF f (z (lo + ((i : Int)).toNat * 4 + 1)) (some (z (lo + ((i : Int)).toNat * 4 + 2)))), (setF g (z (lo + ((i : Int)).toNat * 4 + 1)) (some (i : Int))), by omega, by rw [gw1], rfl⟩
      · have k1 : decide ((z (lo + ((i : Int)).toNat * 4)) = 1) = false := decide_eq_false (by omega)
        have k2 : decide ((z (lo + ((i : Int)).toNat * 4)) = 2) = true := decide_eq_true hk1
        repeat ((conv => whnf); first | (refine brT ?_ ?_; · (first | exact f1 | exact f2 | exact hop | exact k1 | exact k2 | (simp; done))) | (refine brF ?_ ?_; · (first | exact f1 | exact f2 | exact hop | exact k1 | exact k2 | (simp; done))) | (rw [gi]))

        conv => whnf
        exact ⟨k - 1, by omega, [1, 2], rfl, rfl, [.slice (some ⟨0, lo, none⟩) len cap, .int .u16 wr, .pointer (some ⟨1, 0, none⟩), .pointer (some ⟨2, 0, none⟩), .int .i64 (IntKind.i64.wrap ((i : Int) + 1))], rfl, i + 1, (setF f (z (lo + ((i : Int)).toNat * 4 + 1)) none), (setF g (z (lo + ((i : Int)).toNat * 4 + 1)) (some (i : Int))), by omega, by rw [gw1], rfl⟩
      · have k1 : decide ((z (lo + ((i : Int)).toNat * 4)) = 1) = false := decide_eq_false (by omega)
        have k2 : decide ((z (lo + ((i : Int)).toNat * 4)) = 2) = false := decide_eq_false (by omega)
        have k3 : decide ((z (lo + ((i : Int)).toNat * 4)) = 3) = true := decide_eq_true hk1
        repeat ((conv => whnf); first | (refine brT ?_ ?_; · (first | exact f1 | exact f2 | exact hop | exact k1 | exact k2 | exact k3 | (simp; done))) | (refine brF ?_ ?_; · (first | exact f1 | exact f2 | exact hop | exact k1 | exact k2 | exact k3 | (simp; done))) | (rw [gi]))

        conv => whnf
        exact ⟨k - 1, by omega, [1, 2], rfl, rfl, [.slice (some ⟨0, lo, none⟩) len cap, .int .u16 wr, .pointer (some ⟨1, 0, none⟩), .pointer (some ⟨2, 0, none⟩), .int .i64 (IntKind.i64.wrap ((i : Int) + 1))], rfl, i + 1, f, g, by omega, by rw [gw1], rfl⟩
      · have k1 : decide ((z (lo + ((i : Int)).toNat * 4)) = 1) = false := decide_eq_false (by omega)
        have k2 : decide ((z (lo + ((i : Int)).toNat * 4)) = 2) = false := decide_eq_false (by omega)
        have k3 : decide ((z (lo + ((i : Int)).toNat * 4)) = 3) = false := decide_eq_false (by omega)
        cases hQ : (rangeP f (z (lo + ((i : Int)).toNat * 4 + 1)) (z (lo + ((i : Int)).toNat * 4 + 3))).isEmpty with
        | true =>
          repeat ((conv => whnf); first | (refine brT ?_ ?_; · (first | exact f1 | exact f2 | exact hop | exact k1 | exact k2 | exact k3 | exact hQ | (simp; done))) | (refine brF ?_ ?_; · (first | exact f1 | exact f2 | exact hop | exact k1 | exact k2 | exact k3 | exact hQ | (simp; done))) | (rw [gi]))

          conv => whnf
          exact ⟨k - 1, by omega, [1, 2], rfl, rfl, [.slice (some ⟨0, lo, none⟩) len cap, .int .u16 wr, .pointer (some ⟨1, 0, none⟩), .pointer (some ⟨2, 0, none⟩), .int .i64 (IntKind.i64.wrap ((i : Int) + 1))], rfl, i + 1, f, g, by omega, by rw [gw1], rfl⟩
        | false =>
          repeat ((conv => whnf); first | (refine brT ?_ ?_; · (first | exact f1 | exact f2 | exact hop | exact k1 | exact k2 | exact k3 | exact hQ | (simp; done))) | (refine brF ?_ ?_; · (first | exact f1 | exact f2 | exact hop | exact k1 | exact k2 | exact k3 | exact hQ | (simp; done))) | (rw [gi]))

          conv => whnf
          exact ⟨k - 1, by omega, [1, 2], rfl, rfl, [.slice (some ⟨0, lo, none⟩) len cap, .int .u16 wr, .pointer (some ⟨1, 0, none⟩), .pointer (some ⟨2, 0, none⟩), .int .i64 (IntKind.i64.wrap ((i : Int) + 1))], rfl, i + 1, f, g, by omega, by rw [gw1], rfl⟩
  · have f1 : decide ((i : Int) < (len : Int)) = false := decide_eq_false (by omega)
    rcases hs with ⟨rfl, h⟩ | ⟨rfl, h⟩ | ⟨cap, rfl, h0⟩
    · subst h
      repeat ((conv => whnf); first | (refine brT ?_ ?_; · (exact f1)) | (refine brF ?_ ?_; · (exact f1)))

      conv => whnf
      exact ⟨[1, 2], rfl, rfl, _, rfl, f, g, rfl, rfl, rfl⟩
    · subst h
      repeat ((conv => whnf); first | (refine brT ?_ ?_; · (exact f1)) | (refine brF ?_ ?_; · (exact f1)))

      conv => whnf
      exact ⟨[1, 2], rfl, rfl, _, rfl, f, g, rfl, rfl, rfl⟩
    · repeat ((conv => whnf); first | (refine brT ?_ ?_; · (exact f1)) | (refine brF ?_ ?_; · (exact f1)))

      conv => whnf
      exact ⟨[1, 2], rfl, rfl, _, rfl, f, g, rfl, rfl, rfl⟩
theorem mla_l0 (lo n len : Nat) (sv : Value) (hs : SF 0 lo n len sv) (z : Nat → Int) (k0 k1 k2 k3 wr : Int) (hl : len ≤ 60) {t : Sl} {H : HX} {vs : List Value} (σ : List Nat) (hσ : okS 1 σ = true) (hn : t.n = Try.f7.ntmps) (h0 : pickS 1 σ t [0, 2, 4, 7, 8] = some vs) (hvs : vs = [sv, .int .u16 wr, .pointer (some ⟨1, 0, none⟩), .pointer (some ⟨2, 0, none⟩), .int .i64 (0 : Nat)]) (hH : rnH 1 σ H = [oldR lo n z, obx k0 k1 k2 k3, md noneF noneF]) :
    SWP Try.prog (means W) 1 (.loop (loopB Try.f7 0)) t H (Left 1 Try.f7.ntmps [2, 4, 7] (MLa.Q (oldR lo n z) (obx k0 k1 k2 k3) wr)) := by
  refine SWP.loopS Try.f7.ntmps [0, 2, 4, 7, 8] (MLa.I sv (oldR lo n z) (obx k0 k1 k2 k3) wr len) (N := len) σ hσ hn h0 ⟨0, noneF, noneF, rfl, hvs, hH⟩ ?_
  rintro k vs H ⟨i, f, g, hki, rfl, rfl⟩
  exact mla_r0 lo n len sv hs z k0 k1 k2 k3 wr hl i k f g hki
set_option maxRecDepth 100000 in
set_option maxHeartbeats 8000000 in
theorem mla_inner (lo n : Nat) (z : Nat → Int) (k0 k1 k2 k3 wr : Int) (f' g' f g : Int → Option Int) (hA : (k0 = 1 ∨ k0 = 2) → (f' k1).getD 0 = k2 ∧ (f' k1).isSome = decide (k0 = 1) ∧ (g' k1).getD (-1) = IntKind.i64.wrap wr) (hB : ∀ x, ¬ (x = k1 ∧ (k0 = 1 ∨ k0 = 2)) → f' x = f x ∧ g' x = g x) {t : Sl} {H : HX} {vs : List Value} (σ : List Nat) (hσ : okS 1 σ = true) (hn : t.n = Try.f7.ntmps) (h0 : pickS 1 σ t [2, 4, 7, 9, 10] = some vs) (hvs : vs = [.int .u16 wr, .pointer (some ⟨1, 0, none⟩), .pointer (some ⟨2, 0, none⟩), .pointer (some ⟨3, 0, none⟩), .int .i64 (0 : Nat)]) (hH : rnH 1 σ H = [oldR lo n z, obx k0 k1 k2 k3, md f' g', md f g]) :
    SWP Try.prog (means W) 1 (.loop (loopB Try.f7 1)) t H (Left 1 Try.f7.ntmps [] MLa.E) := by
  refine SWP.loopS Try.f7.ntmps [2, 4, 7, 9, 10] (MLa.J (oldR lo n z) (obx k0 k1 k2 k3) wr f' g' f g) (N := 64) σ hσ hn h0 ⟨0, rfl, hvs, hH⟩ ?_
  rintro k vs H ⟨j, hkj, rfl, rfl⟩
  refine SWP.code envP5_ok 40 200 ?_
  by_cases hj : j < 64
  · have m1 : decide ((j : Int) ≤ 63) = true := decide_eq_true (by omega)
    have m2 : (Lit.int .i64 (j : Int)).wf = true := key_wf (by omega)
    have gw2 : ((j + 1 : Nat) : Int) = IntKind.i64.wrap ((j : Int) + 1) := by rw [wrapI (by omega) (by omega)]; rfl
    by_cases hk : (j : Int) = k1
    · have c1 : decide ((j : Int) = k1) = true := decide_eq_true hk
      by_cases hp : k0 = 1
      · have c2 : decide (k0 = 1) = true := decide_eq_true hp
        obtain ⟨e1, e2, e3⟩ := hA (.inl hp)
        rw [← hk] at e1 e2 e3
        have y1 : (!((f' (j : Int)).getD 0 == k2)) = false := by rw [e1]; simp
        have y2 : (!((f' (j : Int)).isSome == decide (k0 = 1))) = false := by rw [e2]; simp
        have y3 : (!((g' (j : Int)).getD (-1) == IntKind.i64.wrap wr)) = false := by rw [e3]; simp
        repeat ((conv => whnf); first | (refine brT ?_ ?_; · (first | exact m1 | exact m2 | exact c1 | exact c2 | exact y1 | exact y2 | exact y3)) | (refine brF ?_ ?_; · (first | exact m1 | exact m2 | exact c1 | exact c2 | exact y1 | exact y2 | exact y3)))

        conv => whnf
        exact ⟨k - 1, by omega, [1, 2, 3], rfl, rfl, _, rfl, j + 1, by omega, by rw [gw2] <;> rfl, rfl⟩
      · have c2 : decide (k0 = 1) = false := decide_eq_false hp
        by_cases hd : k0 = 2
        · have c3 : decide (k0 = 2) = true := decide_eq_true hd
          obtain ⟨e1, e2, e3⟩ := hA (.inr hd)
          rw [← hk] at e1 e2 e3
          have y1 : (!((f' (j : Int)).getD 0 == k2)) = false := by rw [e1]; simp
          have y2 : (!((f' (j : Int)).isSome == decide (k0 = 1))) = false := by rw [e2]; simp
          have y3 : (!((g' (j : Int)).getD (-1) == IntKind.i64.wrap wr)) = false := by rw [e3]; simp
          repeat ((conv => whnf); first | (refine brT ?_ ?_; · (first | exact m1 | exact m2 | exact c1 | exact c2 | exact c3 | exact y1 | exact y2 | exact y3)) | (refine brF ?_ ?_; · (first | exact m1 | exact m2 | exact c1 | exact c2 | exact c3 | exact y1 | exact y2 | exact y3)))

          conv => whnf
          exact ⟨k - 1, by omega, [1, 2, 3], rfl, rfl, _, rfl, j + 1, by omega, by rw [gw2] <;> rfl, rfl⟩
        · have c3 : decide (k0 = 2) = false := decide_eq_false hd
          obtain ⟨e1, e2⟩ := hB (j : Int) (fun h => by omega)
          have y1 : (!((f' (j : Int)).getD 0 == (f (j : Int)).getD 0)) = false := by rw [e1]; simp
          have y2 : (!((f' (j : Int)).isSome == (f (j : Int)).isSome)) = false := by rw [e1]; simp
          have y3 : (!((g' (j : Int)).getD (-1) == (g (j : Int)).getD (-1))) = false := by rw [e2]; simp
          repeat ((conv => whnf); first | (refine brT ?_ ?_; · (first | exact m1 | exact m2 | exact c1 | exact c2 | exact c3 | exact y1 | exact y2 | exact y3)) | (refine brF ?_ ?_; · (first | exact m1 | exact m2 | exact c1 | exact c2 | exact c3 | exact y1 | exact y2 | exact y3)))

          conv => whnf
          exact ⟨k - 1, by omega, [1, 2, 3], rfl, rfl, _, rfl, j + 1, by omega, by rw [gw2] <;> rfl, rfl⟩
    · have c1 : decide ((j : Int) = k1) = false := decide_eq_false hk
      obtain ⟨e1, e2⟩ := hB (j : Int) (fun h => hk h.1)
      have y1 : (!((f' (j : Int)).getD 0 == (f (j : Int)).getD 0)) = false := by rw [e1]; simp
      have y2 : (!((f' (j : Int)).isSome == (f (j : Int)).isSome)) = false := by rw [e1]; simp
      have y3 : (!((g' (j : Int)).getD (-1) == (g (j : Int)).getD (-1))) = false := by rw [e2]; simp
      repeat ((conv => whnf); first | (refine brT ?_ ?_; · (first | exact m1 | exact m2 | exact c1 | exact y1 | exact y2 | exact y3)) | (refine brF ?_ ?_; · (first | exact m1 | exact m2 | exact c1 | exact y1 | exact y2 | exact y3)))

      conv => whnf
      exact ⟨k - 1, by omega, [1, 2, 3], rfl, rfl, _, rfl, j + 1, by omega, by rw [gw2] <;> rfl, rfl⟩
  · have m1 : decide ((j : Int) ≤ 63) = false := decide_eq_false (by omega)
    repeat ((conv => whnf); first | (refine brT ?_ ?_; · (exact m1)) | (refine brF ?_ ?_; · (exact m1)))

    conv => whnf
    exact ⟨[], rfl, rfl, _, rfl, rfl⟩
end Go.Proofs.Ytdmodejpcfhbhaa
