/- ModelCopies: the walk. (printed by mcopies.py) -/
import Derived.Test.YtdmodejpcfhbhaaMplA
namespace Go.Proofs.Ytdmodejpcfhbhaa
open Go.RowKit
variable {W : World}

def oldR (lo n : Nat) (z : Nat → Int) : Option (Bool × AObj Ext) := some (false, .ext (.old lo n (.ints .i64 z)))
def md (f g : Int → Option Int) : Option (Bool × AObj Ext) := some (true, .ext (.modl f g))
def prow (n : Nat) (c : Nat → Int) : Option (Bool × AObj Ext) := some (true, .ext (.row 59 2 n (.ints .i64 c)))
/-- A slice argument: nil, empty, a row. -/
def SF (r lo n len : Nat) (sv : Value) : Prop :=
  (sv = .slice none 0 0 ∧ len = 0) ∨ (sv = .slice (some ⟨0, 0, some 0⟩) 0 1 ∧ len = 0) ∨ (∃ cap : Nat, sv = .slice (some ⟨r, lo, none⟩) len cap ∧ lo + len * 4 ≤ n)
def WB (g : Int → Option Int) : Prop := ∀ k v, g k = some v → v < 100
theorem WB.none : WB noneF := fun k v h => by cases h
theorem WB.set {g : Int → Option Int} (h : WB g) (k : Int) {w : Int} (hw : w < 100) : WB (setF g k (some w)) := fun x v e => by
  unfold setF at e
  split at e
  · cases e; exact hw
  · exact h x v e
theorem WB.lt {g : Int → Option Int} (h : WB g) (k : Int) : decide ((g k).getD (-1) ≥ 100) = false := by
  refine decide_eq_false ?_
  cases e : g k with
  | none => simp
  | some v => have := h k v e; simp; omega
def MCp.I0 (sv mv : Value) (o1 o2 : Option (Bool × AObj Ext)) (len : Nat) (k : Nat) (vs : List Value) (H : HX) : Prop :=
  ∃ (i : Nat) (f g : Int → Option Int), k + i = len ∧ WB g ∧ vs = [sv, mv, .pointer (some ⟨2, 0, none⟩), .int .i64 i] ∧ H = [o1, o2, md f g]
def MCp.Q0 (mv : Value) (o1 o2 : Option (Bool × AObj Ext)) (e : Exit) (vs : List Value) (H : HX) : Prop :=
  ∃ (f g : Int → Option Int), e = .exit 0 ∧ WB g ∧ vs = [mv, .pointer (some ⟨2, 0, none⟩)] ∧ H = [o1, o2, md f g]
def MCp.I1 (mv : Value) (o1 o2 : Option (Bool × AObj Ext)) (f0 g0 : Int → Option Int) (len : Nat) (k : Nat) (vs : List Value) (H : HX) : Prop :=
  ∃ (i : Nat) (f g : Int → Option Int), k + i = len ∧ vs = [mv, .pointer (some ⟨2, 0, none⟩), .slice none 0 0, .pointer (some ⟨3, 0, none⟩), .int .i64 i] ∧ H = [o1, o2, md f0 g0, md f g]
def MCp.I2 (mv : Value) (o1 o2 : Option (Bool × AObj Ext)) (f0 g0 : Int → Option Int) (wn : Nat) (wc : Nat → Int) (len : Nat) (k : Nat) (vs : List Value) (H : HX) : Prop :=
  ∃ (i : Nat) (f g : Int → Option Int), k + i = len ∧ vs = [mv, .pointer (some ⟨2, 0, none⟩), slOf 3 wn, .pointer (some ⟨4, 0, none⟩), .int .i64 i] ∧ H = [o1, o2, md f0 g0, prow wn wc, md f g]
def MCp.Q1 (o1 o2 : Option (Bool × AObj Ext)) (f0 g0 : Int → Option Int) (x : Nat) (e : Exit) (vs : List Value) (H : HX) : Prop :=
  e = .exit x ∧ vs = [.pointer (some ⟨2, 0, none⟩), .slice none 0 0] ∧ H = [o1, o2, md f0 g0]
def MCp.Q2 (o1 o2 : Option (Bool × AObj Ext)) (f0 g0 : Int → Option Int) (wn : Nat) (wc : Nat → Int) (x : Nat) (e : Exit) (vs : List Value) (H : HX) : Prop :=
  e = .exit x ∧ vs = [.pointer (some ⟨2, 0, none⟩), slOf 3 wn] ∧ H = [o1, o2, md f0 g0, prow wn wc]
def MCp.J1 (o1 o2 : Option (Bool × AObj Ext)) (f0 g0 : Int → Option Int) (k : Nat) (vs : List Value) (H : HX) : Prop :=
  ∃ j : Nat, k + j = 64 ∧ vs = [.pointer (some ⟨2, 0, none⟩), .slice none 0 0, .int .i64 j] ∧ H = [o1, o2, md f0 g0]
def MCp.J2 (o1 o2 : Option (Bool × AObj Ext)) (f0 g0 : Int → Option Int) (wn : Nat) (wc : Nat → Int) (k : Nat) (vs : List Value) (H : HX) : Prop :=
  ∃ j : Nat, k + j = 64 ∧ vs = [.pointer (some ⟨2, 0, none⟩), slOf 3 wn, .int .i64 j] ∧ H = [o1, o2, md f0 g0, prow wn wc]
attribute [local irreducible] keysF rangeP rangeG allG pairsOf eqRows isOpB setF setG2 maxF fndF SWP FWP OWP
set_option maxRecDepth 100000 in
set_option maxHeartbeats 8000000 in
theorem mcp_r0 (lo n len lo2 n2 len2 : Nat) (sv mv : Value) (hs : SF 0 lo n len sv) (hm : SF 1 lo2 n2 len2 mv) (z z2 : Nat → Int) (hl : len ≤ 40) (i k : Nat) (f g : Int → Option Int) (hki : k + i = len) (hW : WB g) :
    SWP Try.prog (means W) 2 (loopB Try.f8 0) (slT Try.f8.ntmps [0, 1, 5, 6] [sv, mv, .pointer (some ⟨2, 0, none⟩), .int .i64 i]) [oldR lo n z, oldR lo2 n2 z2, md f g] (roundK 2 Try.f8.ntmps [0, 1, 5, 6] (MCp.I0 sv mv (oldR lo n z) (oldR lo2 n2 z2) len) k (Left 2 Try.f8.ntmps [1, 5] (MCp.Q0 mv (oldR lo n z) (oldR lo2 n2 z2)))) := by
  refine SWP.code envP5_ok 40 200 ?_
  by_cases hi : i < len
  · rcases hs with ⟨_, h⟩ | ⟨_, h⟩ | ⟨cap, rfl, h0⟩
    · omega
    · omega
    have gi : decide (0 ≤ (i : Int) ∧ (i : Int) < (len : Int)) = true := decide_eq_true (by omega)
    have f1 : decide ((i : Int) < (len : Int)) = true := decide_eq_true (by omega)
    have f2 : decide (lo ≤ lo + ((i : Int)).toNat * 4 ∧ lo + ((i : Int)).toNat * 4 + 4 ≤ n) = true := decide_eq_true (by omega)
    have gw1 : ((i + 1 : Nat) : Int) = IntKind.i64.wrap ((i : Int) + 1) := by rw [wrapI (by omega) (by omega)]; rfl
    cases hop : isOpB (z (lo + ((i : Int)).toNat * 4)) (z (lo + ((i : Int)).toNat * 4 + 1)) (z (lo + ((i : Int)).toNat * 4 + 2)) (z (lo + ((i : Int)).toNat * 4 + 3)) with
    | false =>
      repeat ((conv => whnf); first | (refine brT ?_ ?_; · (first | exact f1 | exact f2 | exact hop | (simp; done))) | (refine brF ?_ ?_; · (first | exact f1 | exact f2 | exact hop | (simp; done))) | (rw [gi]))

      conv => whnf
      refine ⟨k - 1, by omega, [2], rfl, rfl, [.slice (some ⟨0, lo, none⟩) len cap, mv, .pointer (some ⟨2, 0, none⟩), .int .i64 (IntKind.i64.wrap ((i : Int) + 1))], ?_, i + 1, f, g, by omega, hW, by rw [gw1], rfl⟩
      rcases hm with ⟨rfl, _⟩ | ⟨rfl, _⟩ | ⟨_, rfl, _⟩ <;> rfl
    | true =>
      have hk := op_key hop
      rcases op_kind hop with hk1 | hk1 | hk1 | hk1
      · have k1 : decide ((z (lo + ((i : Int)).toNat * 4)) = 1) = true := decide_eq_true hk1
        repeat ((conv => whnf); first | (refine brT ?_ ?_; · (first | exact f1 | exact f2 | exact hop | exact k1 | (simp; done))) | (refine brF ?_ ?_; · (first | exact f1 | exact f2 | exact hop | exact k1 | (simp; done))) | (rw [gi]))

        conv => whnf
        refine ⟨k - 1, by omega, [2], rfl, rfl, [.slice (some ⟨0, lo, none⟩) len cap, mv, .pointer (some ⟨2, 0, none⟩), .int .i64 (IntKind.i64.wrap ((i : Int) + 1))], ?_, i + 1, (setF f (z (lo + ((i : Int)).toNat * 4 + 1)) (some (z (lo + ((i : Int)).toNat * 4 + 2)))), (setF g (z (lo + ((i : Int)).toNat * 4 + 1)) (some (i : Int))), by omega, hW.set _ (by omega), by rw [gw1], rfl⟩
        rcases hm with ⟨rfl, _⟩ | ⟨rfl, _⟩ | ⟨_, rfl, _⟩ <;> rfl
      · have k1 : decide ((z (lo + ((i : Int)).toNat * 4)) = 1) = false := decide_eq_false (by omega)
        have k2 : decide ((z (lo + ((i : Int)).toNat * 4)) = 2) = true := decide_eq_true hk1
        repeat ((conv => whnf); first | (refine brT ?_ ?_; · (first | exact f1 | exact f2 | exact hop | exact k1 | exact k2 | (simp; done))) | (refine brF ?_ ?_; · (first | exact f1 | exact f2 | exact hop | exact k1 | exact k2 | (simp; done))) | (rw [gi]))

        conv => whnf
        refine ⟨k - 1, by omega, [2], rfl, rfl, [.slice (some ⟨0, lo, none⟩) len cap, mv, .pointer (some ⟨2, 0, none⟩), .int .i64 (IntKind.i64.wrap ((i : Int) + 1))], ?_, i + 1, (setF f (z (lo + ((i : Int)).toNat * 4 + 1)) none), (setF g (z (lo + ((i : Int)).toNat * 4 + 1)) (some (i : Int))), by omega, hW.set _ (by omega), by rw [gw1], rfl⟩
        rcases hm with ⟨rfl, _⟩ | ⟨rfl, _⟩ | ⟨_, rfl, _⟩ <;> rfl
      · have k1 : decide ((z (lo + ((i : Int)).toNat * 4)) = 1) = false := decide_eq_false (by omega)
        have k2 : decide ((z (lo + ((i : Int)).toNat * 4)) = 2) = false := decide_eq_false (by omega)
        have k3 : decide ((z (lo + ((i : Int)).toNat * 4)) = 3) = true := decide_eq_true hk1
        repeat ((conv => whnf); first | (refine brT ?_ ?_; · (first | exact f1 | exact f2 | exact hop | exact k1 | exact k2 | exact k3 | (simp; done))) | (refine brF ?_ ?_; · (first | exact f1 | exact f2 | exact hop | exact k1 | exact k2 | exact k3 | (simp; done))) | (rw [gi]))

        conv => whnf
        refine ⟨k - 1, by omega, [2], rfl, rfl, [.slice (some ⟨0, lo, none⟩) len cap, mv, .pointer (some ⟨2, 0, none⟩), .int .i64 (IntKind.i64.wrap ((i : Int) + 1))], ?_, i + 1, f, g, by omega, hW, by rw [gw1], rfl⟩
        rcases hm with ⟨rfl, _⟩ | ⟨rfl, _⟩ | ⟨_, rfl, _⟩ <;> rfl
      · have k1 : decide ((z (lo + ((i : Int)).toNat * 4)) = 1) = false := decide_eq_false (by omega)
        have k2 : decide ((z (lo + ((i : Int)).toNat * 4)) = 2) = false := decide_eq_false (by omega)
        have k3 : decide ((z (lo + ((i : Int)).toNat * 4)) = 3) = false := decide_eq_false (by omega)
        cases hQ : (rangeP f (z (lo + ((i : Int)).toNat * 4 + 1)) (z (lo + ((i : Int)).toNat * 4 + 3))).isEmpty with
        | true =>
          repeat ((conv => whnf); first | (refine brT ?_ ?_; · (first | exact f1 | exact f2 | exact hop | exact k1 | exact k2 | exact k3 | exact hQ | (simp; done))) | (refine brF ?_ ?_; · (first | exact f1 | exact f2 | exact hop | exact k1 | exact k2 | exact k3 | exact hQ | (simp; done))) | (rw [gi]))

          conv => whnf
          refine ⟨k - 1, by omega, [2], rfl, rfl, [.slice (some ⟨0, lo, none⟩) len cap, mv, .pointer (some ⟨2, 0, none⟩), .int .i64 (IntKind.i64.wrap ((i : Int) + 1))], ?_, i + 1, f, g, by omega, hW, by rw [gw1], rfl⟩
          rcases hm with ⟨rfl, _⟩ | ⟨rfl, _⟩ | ⟨_, rfl, _⟩ <;> rfl
        | false =>
          repeat ((conv => whnf); first | (refine brT ?_ ?_; · (first | exact f1 | exact f2 | exact hop | exact k1 | exact k2 | exact k3 | exact hQ | (simp; done))) | (refine brF ?_ ?_; · (first | exact f1 | exact f2 | exact hop | exact k1 | exact k2 | exact k3 | exact hQ | (simp; done))) | (rw [gi]))

          conv => whnf
          refine ⟨k - 1, by omega, [2], rfl, rfl, [.slice (some ⟨0, lo, none⟩) len cap, mv, .pointer (some ⟨2, 0, none⟩), .int .i64 (IntKind.i64.wrap ((i : Int) + 1))], ?_, i + 1, f, g, by omega, hW, by rw [gw1], rfl⟩
          rcases hm with ⟨rfl, _⟩ | ⟨rfl, _⟩ | ⟨_, rfl, _⟩ <;> rfl
  · have f1 : decide ((i : Int) < (len : Int)) = false := decide_eq_false (by omega)
    rcases hs with ⟨rfl, h⟩ | ⟨rfl, h⟩ | ⟨cap, rfl, h0⟩
    · subst h
      repeat ((conv => whnf); first | (refine brT ?_ ?_; · (exact f1)) | (refine brF ?_ ?_; · (exact f1)))

      conv => whnf
      refine ⟨[2], rfl, rfl, [mv, .pointer (some ⟨2, 0, none⟩)], ?_, f, g, rfl, hW, rfl, rfl⟩
      rcases hm with ⟨rfl, _⟩ | ⟨rfl, _⟩ | ⟨_, rfl, _⟩ <;> rfl
    · subst h
      repeat ((conv => whnf); first | (refine brT ?_ ?_; · (exact f1)) | (refine brF ?_ ?_; · (exact f1)))

      conv => whnf
      refine ⟨[2], rfl, rfl, [mv, .pointer (some ⟨2, 0, none⟩)], ?_, f, g, rfl, hW, rfl, rfl⟩
      rcases hm with ⟨rfl, _⟩ | ⟨rfl, _⟩ | ⟨_, rfl, _⟩ <;> rfl
    · repeat ((conv => whnf); first | (refine brT ?_ ?_; · (exact f1)) | (refine brF ?_ ?_; · (exact f1)))

      conv => whnf
      refine ⟨[2], rfl, rfl, [mv, .pointer (some ⟨2, 0, none⟩)], ?_, f, g, rfl, hW, rfl, rfl⟩
      rcases hm with ⟨rfl, _⟩ | ⟨rfl, _⟩ | ⟨_, rfl, _⟩ <;> rfl
theorem mcp_l0 (lo n len lo2 n2 len2 : Nat) (sv mv : Value) (hs : SF 0 lo n len sv) (hm : SF 1 lo2 n2 len2 mv) (z z2 : Nat → Int) (hl : len ≤ 40) {t : Sl} {H : HX} {vs : List Value} (σ : List Nat) (hσ : okS 2 σ = true) (hn : t.n = Try.f8.ntmps) (h0 : pickS 2 σ t [0, 1, 5, 6] = some vs) (hvs : vs = [sv, mv, .pointer (some ⟨2, 0, none⟩), .int .i64 (0 : Nat)]) (hH : rnH 2 σ H = [oldR lo n z, oldR lo2 n2 z2, md noneF noneF]) :
    SWP Try.prog (means W) 2 (.loop (loopB Try.f8 0)) t H (Left 2 Try.f8.ntmps [1, 5] (MCp.Q0 mv (oldR lo n z) (oldR lo2 n2 z2))) := by
  refine SWP.loopS Try.f8.ntmps [0, 1, 5, 6] (MCp.I0 sv mv (oldR lo n z) (oldR lo2 n2 z2) len) (N := len) σ hσ hn h0 ⟨0, noneF, noneF, rfl, WB.none, hvs, hH⟩ ?_
  rintro k vs H ⟨i, f, g, hki, hW, rfl, rfl⟩
  exact mcp_r0 lo n len lo2 n2 len2 sv mv hs hm z z2 hl i k f g hki hW
set_option maxRecDepth 100000 in
set_option maxHeartbeats 8000000 in
theorem mcp_r11 (lo n lo2 n2 len2 : Nat) (mv : Value) (hm : SF 1 lo2 n2 len2 mv) (z z2 : Nat → Int) (hl : len2 ≤ 40) (f0 g0 : Int → Option Int) (i k : Nat) (f g : Int → Option Int) (hki : k + i = len2) :
    SWP Try.prog (means W) 2 (loopB Try.f8 1) (slT Try.f8.ntmps [1, 5, 7, 8, 9] [mv, .pointer (some ⟨2, 0, none⟩), .slice none 0 0, .pointer (some ⟨3, 0, none⟩), .int .i64 i]) [oldR lo n z, oldR lo2 n2 z2, md f0 g0, md f g] (roundK 2 Try.f8.ntmps [1, 5, 7, 8, 9] (MCp.I1 mv (oldR lo n z) (oldR lo2 n2 z2) f0 g0 len2) k (Left 2 Try.f8.ntmps [5, 7] (MCp.Q1 (oldR lo n z) (oldR lo2 n2 z2) f0 g0 2))) := by
  refine SWP.code envP5_ok 40 200 ?_
  by_cases hi : i < len2
  · rcases hm with ⟨_, h⟩ | ⟨_, h⟩ | ⟨cap, rfl, h0⟩
    · omega
    · omega
    have gi : decide (0 ≤ (i : Int) ∧ (i : Int) < (len2 : Int)) = true := decide_eq_true (by omega)
    have f1 : decide ((i : Int) < (len2 : Int)) = true := decide_eq_true (by omega)
    have f2 : decide (lo2 ≤ lo2 + ((i : Int)).toNat * 4 ∧ lo2 + ((i : Int)).toNat * 4 + 4 ≤ n2) = true := decide_eq_true (by omega)
    have gw1 : ((i + 1 : Nat) : Int) = IntKind.i64.wrap ((i : Int) + 1) := by rw [wrapI (by omega) (by omega)]; rfl
    cases hop : isOpB (z2 (lo2 + ((i : Int)).toNat * 4)) (z2 (lo2 + ((i : Int)).toNat * 4 + 1)) (z2 (lo2 + ((i : Int)).toNat * 4 + 2)) (z2 (lo2 + ((i : Int)).toNat * 4 + 3)) with
    | false =>
      repeat ((conv => whnf); first | (refine brT ?_ ?_; · (first | exact f1 | exact f2 | exact hop | (simp; done))) | (refine brF ?_ ?_; · (first | exact f1 | exact f2 | exact hop | (simp; done))) | (rw [gi]))

      conv => whnf
      refine ⟨k - 1, by omega, [2, 3], rfl, rfl, [.slice (some ⟨1, lo2, none⟩) len2 cap, .pointer (some ⟨2, 0, none⟩), .slice none 0 0, .pointer (some ⟨3, 0, none⟩), .int .i64 (IntKind.i64.wrap ((i : Int) + 1))], rfl, i + 1, f, g, by omega, by rw [gw1], rfl⟩
    | true =>
      have hk := op_key hop
      rcases op_kind hop with hk1 | hk1 | hk1 | hk1
      · have k1 : decide ((z2 (lo2 + ((i : Int)).toNat * 4)) = 1) = true := decide_eq_true hk1
        repeat ((conv => whnf); first | (refine brT ?_ ?_; · (first | exact f1 | exact f2 | exact hop | exact k1 | (simp; done))) | (refine brF ?_ ?_; · (first | exact f1 | exact f2 | exact hop | exact k1 | (simp; done))) | (rw [gi]))

        conv => whnf
        refine ⟨k - 1, by omega, [2, 3], rfl, rfl, [.slice (some ⟨1, lo2, none⟩) len2 cap, .pointer (some ⟨2, 0, none⟩), .slice none 0 0, .pointer (some ⟨3, 0, none⟩), .int .i64 (IntKind.i64.wrap ((i : Int) + 1))], rfl, i + 1, (setF f (z2 (lo2 + ((i : Int)).toNat * 4 + 1)) (some (z2 (lo2 + ((i : Int)).toNat * 4 + 2)))), (setF g (z2 (lo2 + ((i : Int)).toNat * 4 + 1)) (some (IntKind.i64.wrap (100 + (i : Int))))), by omega, by rw [gw1], rfl⟩
      · have k1 : decide ((z2 (lo2 + ((i : Int)).toNat * 4)) = 1) = false := decide_eq_false (by omega)
        have k2 : decide ((z2 (lo2 + ((i : Int)).toNat * 4)) = 2) = true := decide_eq_true hk1
        repeat ((conv => whnf); first | (refine brT ?_ ?_; · (first | exact f1 | exact f2 | exact hop | exact k1 | exact k2 | (simp; done))) | (refine brF ?_ ?_; · (first | exact f1 | exact f2 | exact hop | exact k1 | exact k2 | (simp; done))) | (rw [gi]))

        conv => whnf
        refine ⟨k - 1, by omega, [2, 3], rfl, rfl, [.slice (some ⟨1, lo2, none⟩) len2 cap, .pointer (some ⟨2, 0, none⟩), .slice none 0 0, .pointer (some ⟨3, 0, none⟩), .int .i64 (IntKind.i64.wrap ((i : Int) + 1))], rfl, i + 1, (setF f (z2 (lo2 + ((i : Int)).toNat * 4 + 1)) none), (setF g (z2 (lo2 + ((i : Int)).toNat * 4 + 1)) (some (IntKind.i64.wrap (100 + (i : Int))))), by omega, by rw [gw1], rfl⟩
      · have k1 : decide ((z2 (lo2 + ((i : Int)).toNat * 4)) = 1) = false := decide_eq_false (by omega)
        have k2 : decide ((z2 (lo2 + ((i : Int)).toNat * 4)) = 2) = false := decide_eq_false (by omega)
        have k3 : decide ((z2 (lo2 + ((i : Int)).toNat * 4)) = 3) = true := decide_eq_true hk1
        repeat ((conv => whnf); first | (refine brT ?_ ?_; · (first | exact f1 | exact f2 | exact hop | exact k1 | exact k2 | exact k3 | (simp; done))) | (refine brF ?_ ?_; · (first | exact f1 | exact f2 | exact hop | exact k1 | exact k2 | exact k3 | (simp; done))) | (rw [gi]))

        conv => whnf
        refine ⟨k - 1, by omega, [2, 3], rfl, rfl, [.slice (some ⟨1, lo2, none⟩) len2 cap, .pointer (some ⟨2, 0, none⟩), .slice none 0 0, .pointer (some ⟨3, 0, none⟩), .int .i64 (IntKind.i64.wrap ((i : Int) + 1))], rfl, i + 1, f, g, by omega, by rw [gw1], rfl⟩
      · have k1 : decide ((z2 (lo2 + ((i : Int)).toNat * 4)) = 1) = false := decide_eq_false (by omega)
        have k2 : decide ((z2 (lo2 + ((i : Int)).toNat * 4)) = 2) = false := decide_eq_false (by omega)
        have k3 : decide ((z2 (lo2 + ((i : Int)).toNat * 4)) = 3) = false := decide_eq_false (by omega)
        cases hQ : (rangeP f (z2 (lo2 + ((i : Int)).toNat * 4 + 1)) (z2 (lo2 + ((i : Int)).toNat * 4 + 3))).isEmpty with
        | true =>
          repeat ((conv => whnf); first | (refine brT ?_ ?_; · (first | exact f1 | exact f2 | exact hop | exact k1 | exact k2 | exact k3 | exact hQ | (simp; done))) | (refine brF ?_ ?_; · (first | exact f1 | exact f2 | exact hop | exact k1 | exact k2 | exact k3 | exact hQ | (simp; done))) | (rw [gi]))

          conv => whnf
          refine ⟨k - 1, by omega, [2, 3], rfl, rfl, [.slice (some ⟨1, lo2, none⟩) len2 cap, .pointer (some ⟨2, 0, none⟩), .slice none 0 0, .pointer (some ⟨3, 0, none⟩), .int .i64 (IntKind.i64.wrap ((i : Int) + 1))], rfl, i + 1, f, g, by omega, by rw [gw1], rfl⟩
        | false =>
          repeat ((conv => whnf); first | (refine brT ?_ ?_; · (first | exact f1 | exact f2 | exact hop | exact k1 | exact k2 | exact k3 | exact hQ | (simp; done))) | (refine brF ?_ ?_; · (first | exact f1 | exact f2 | exact hop | exact k1 | exact k2 | exact k3 | exact hQ | (simp; done))) | (rw [gi]))

          conv => whnf
          refine ⟨k - 1, by omega, [2, 3], rfl, rfl, [.slice (some ⟨1, lo2, none⟩) len2 cap, .pointer (some ⟨2, 0, none⟩), .slice none 0 0, .pointer (some ⟨3, 0, none⟩), .int .i64 (IntKind.i64.wrap ((i : Int) + 1))], rfl, i + 1, f, g, by omega, by rw [gw1], rfl⟩
  · have f1 : decide ((i : Int) < (len2 : Int)) = false := decide_eq_false (by omega)
    rcases hm with ⟨rfl, h⟩ | ⟨rfl, h⟩ | ⟨cap, rfl, h0⟩
    · subst h
      repeat ((conv => whnf); first | (refine brT ?_ ?_; · (exact f1)) | (refine brF ?_ ?_; · (exact f1)))

      conv => whnf
      exact ⟨[2], rfl, rfl, _, rfl, rfl, rfl, rfl⟩
    · subst h
      repeat ((conv => whnf); first | (refine brT ?_ ?_; · (exact f1)) | (refine brF ?_ ?_; · (exact f1)))

      conv => whnf
      exact ⟨[2], rfl, rfl, _, rfl, rfl, rfl, rfl⟩
    · repeat ((conv => whnf); first | (refine brT ?_ ?_; · (exact f1)) | (refine brF ?_ ?_; · (exact f1)))

      conv => whnf
      exact ⟨[2], rfl, rfl, _, rfl, rfl, rfl, rfl⟩
theorem mcp_l11 (lo n lo2 n2 len2 : Nat) (mv : Value) (hm : SF 1 lo2 n2 len2 mv) (z z2 : Nat → Int) (hl : len2 ≤ 40) (f0 g0 : Int → Option Int) (f g : Int → Option Int) {t : Sl} {H : HX} {vs : List Value} (σ : List Nat) (hσ : okS 2 σ = true) (hn : t.n = Try.f8.ntmps) (h0 : pickS 2 σ t [1, 5, 7, 8, 9] = some vs) (hvs : vs = [mv, .pointer (some ⟨2, 0, none⟩), .slice none 0 0, .pointer (some ⟨3, 0, none⟩), .int .i64 (0 : Nat)]) (hH : rnH 2 σ H = [oldR lo n z, oldR lo2 n2 z2, md f0 g0, md f g]) :
    SWP Try.prog (means W) 2 (.loop (loopB Try.f8 1)) t H (Left 2 Try.f8.ntmps [5, 7] (MCp.Q1 (oldR lo n z) (oldR lo2 n2 z2) f0 g0 2)) := by
  refine SWP.loopS Try.f8.ntmps [1, 5, 7, 8, 9] (MCp.I1 mv (oldR lo n z) (oldR lo2 n2 z2) f0 g0 len2) (N := len2) σ hσ hn h0 ⟨0, f, g, rfl, hvs, hH⟩ ?_
  rintro k vs H ⟨i, f, g, hki, rfl, rfl⟩
  exact mcp_r11 lo n lo2 n2 len2 mv hm z z2 hl f0 g0 i k f g hki
set_option maxRecDepth 100000 in
set_option maxHeartbeats 8000000 in
theorem mcp_l21 (lo n lo2 n2 : Nat) (z z2 : Nat → Int) (f0 g0 : Int → Option Int) (hW : WB g0) {t : Sl} {H : HX} {vs : List Value} (σ : List Nat) (hσ : okS 2 σ = true) (hn : t.n = Try.f8.ntmps) (h0 : pickS 2 σ t [5, 7, 10] = some vs) (hvs : vs = [.pointer (some ⟨2, 0, none⟩), .slice none 0 0, .int .i64 (0 : Nat)]) (hH : rnH 2 σ H = [oldR lo n z, oldR lo2 n2 z2, md f0 g0]) :
    SWP Try.prog (means W) 2 (.loop (loopB Try.f8 2)) t H (Left 2 Try.f8.ntmps [5, 7] (MCp.Q1 (oldR lo n z) (oldR lo2 n2 z2) f0 g0 4)) := by
  refine SWP.loopS Try.f8.ntmps [5, 7, 10] (MCp.J1 (oldR lo n z) (oldR lo2 n2 z2) f0 g0) (N := 64) σ hσ hn h0 ⟨0, rfl, hvs, hH⟩ ?_
  rintro k vs H ⟨j, hkj, rfl, rfl⟩
  refine SWP.code envP5_ok 40 200 ?_
  by_cases hj : j < 64
  · have m1 : decide ((j : Int) ≤ 63) = true := decide_eq_true (by omega)
    have m2 : (Lit.int .i64 (j : Int)).wf = true := key_wf (by omega)
    have y1 := hW.lt (j : Int)
    have gw2 : ((j + 1 : Nat) : Int) = IntKind.i64.wrap ((j : Int) + 1) := by rw [wrapI (by omega) (by omega)]; rfl
    repeat ((conv => whnf); first | (refine brT ?_ ?_; · (first | exact m1 | exact m2 | exact y1)) | (refine brF ?_ ?_; · (first | exact m1 | exact m2 | exact y1)))

    conv => whnf
    exact ⟨k - 1, by omega, [2], rfl, rfl, _, rfl, j + 1, by omega, by rw [gw2] <;> rfl, rfl⟩
  · have m1 : decide ((j : Int) ≤ 63) = false := decide_eq_false (by omega)
    repeat ((conv => whnf); first | (refine brT ?_ ?_; · (exact m1)) | (refine brF ?_ ?_; · (exact m1)))

    conv => whnf
    exact ⟨[2], rfl, rfl, _, rfl, rfl, rfl, rfl⟩
set_option maxRecDepth 100000 in
set_option maxHeartbeats 8000000 in
theorem mcp_r12 (lo n lo2 n2 len2 : Nat) (mv : Value) (hm : SF 1 lo2 n2 len2 mv) (z z2 : Nat → Int) (hl : len2 ≤ 40) (f0 g0 : Int → Option Int) (wn : Nat) (wc : Nat → Int) (i k : Nat) (f g : Int → Option Int) (hki : k + i = len2) :
    SWP Try.prog (means W) 2 (loopB Try.f8 1) (slT Try.f8.ntmps [1, 5, 7, 8, 9] [mv, .pointer (some ⟨2, 0, none⟩), slOf 3 wn, .pointer (some ⟨4, 0, none⟩), .int .i64 i]) [oldR lo n z, oldR lo2 n2 z2, md f0 g0, prow wn wc, md f g] (roundK 2 Try.f8.ntmps [1, 5, 7, 8, 9] (MCp.I2 mv (oldR lo n z) (oldR lo2 n2 z2) f0 g0 wn wc len2) k (Left 2 Try.f8.ntmps [5, 7] (MCp.Q2 (oldR lo n z) (oldR lo2 n2 z2) f0 g0 wn wc 2))) := by
  refine SWP.code envP5_ok 40 200 ?_
  by_cases hi : i < len2
  · rcases hm with ⟨_, h⟩ | ⟨_, h⟩ | ⟨cap, rfl, h0⟩
    · omega
    · omega
    have gi : decide (0 ≤ (i : Int) ∧ (i : Int) < (len2 : Int)) = true := decide_eq_true (by omega)
    have f1 : decide ((i : Int) < (len2 : Int)) = true := decide_eq_true (by omega)
    have f2 : decide (lo2 ≤ lo2 + ((i : Int)).toNat * 4 ∧ lo2 + ((i : Int)).toNat * 4 + 4 ≤ n2) = true := decide_eq_true (by omega)
    have gw1 : ((i + 1 : Nat) : Int) = IntKind.i64.wrap ((i : Int) + 1) := by rw [wrapI (by omega) (by omega)]; rfl
    cases hop : isOpB (z2 (lo2 + ((i : Int)).toNat * 4)) (z2 (lo2 + ((i : Int)).toNat * 4 + 1)) (z2 (lo2 + ((i : Int)).toNat * 4 + 2)) (z2 (lo2 + ((i : Int)).toNat * 4 + 3)) with
    | false =>
      repeat ((conv => whnf); first | (refine brT ?_ ?_; · (first | exact f1 | exact f2 | exact hop | (simp; done))) | (refine brF ?_ ?_; · (first | exact f1 | exact f2 | exact hop | (simp; done))) | (rw [gi]))

      conv => whnf
      refine ⟨k - 1, by omega, [2, 3, 4], rfl, rfl, [.slice (some ⟨1, lo2, none⟩) len2 cap, .pointer (some ⟨2, 0, none⟩), slOf 3 wn, .pointer (some ⟨4, 0, none⟩), .int .i64 (IntKind.i64.wrap ((i : Int) + 1))], rfl, i + 1, f, g, by omega, by rw [gw1], rfl⟩
    | true =>
      have hk := op_key hop
      rcases op_kind hop with hk1 | hk1 | hk1 | hk1
      · have k1 : decide ((z2 (lo2 + ((i : Int)).toNat * 4)) = 1) = true := decide_eq_true hk1
        repeat ((conv => whnf); first | (refine brT ?_ ?_; · (first | exact f1 | exact f2 | exact hop | exact k1 | (simp; done))) | (refine brF ?_ ?_; · (first | exact f1 | exact f2 | exact hop | exact k1 | (simp; done))) | (rw [gi]))

        conv => whnf
        refine ⟨k - 1, by omega, [2, 3, 4], rfl, rfl, [.slice (some ⟨1, lo2, none⟩) len2 cap, .pointer (some ⟨2, 0, none⟩), slOf 3 wn, .pointer (some ⟨4, 0, none⟩), .int .i64 (IntKind.i64.wrap ((i : Int) + 1))], rfl, i + 1, (setF f (z2 (lo2 + ((i : Int)).toNat * 4 + 1)) (some (z2 (lo2 + ((i : Int)).toNat * 4 + 2)))), (setF g (z2 (lo2 + ((i : Int)).toNat * 4 + 1)) (some (IntKind.i64.wrap (100 + (i : Int))))), by omega, by rw [gw1], rfl⟩
      · have k1 : decide ((z2 (lo2 + ((i : Int)).toNat * 4)) = 1) = false := decide_eq_false (by omega)
        have k2 : decide ((z2 (lo2 + ((i : Int)).toNat * 4)) = 2) = true := decide_eq_true hk1
        repeat ((conv => whnf); first | (refine brT ?_ ?_; · (first | exact f1 | exact f2 | exact hop | exact k1 | exact k2 | (simp; done))) | (refine brF ?_ ?_; · (first | exact f1 | exact f2 | exact hop | exact k1 | exact k2 | (simp; done))) | (rw [gi]))

        conv => whnf
        refine ⟨k - 1, by omega, [2, 3, 4], rfl, rfl, [.slice (some ⟨1, lo2, none⟩) len2 cap, .pointer (some ⟨2, 0, none⟩), slOf 3 wn, .pointer (some ⟨4, 0, none⟩), .int .i64 (IntKind.i64.wrap ((i : Int) + 1))], rfl, i + 1, (setF f (z2 (lo2 + ((i : Int)).toNat * 4 + 1)) none), (setF g (z2 (lo2 + ((i : Int)).toNat * 4 + 1)) (some (IntKind.i64.wrap (100 + (i : Int))))), by omega, by rw [gw1], rfl⟩
      · have k1 : decide ((z2 (lo2 + ((i : Int)).toNat * 4)) = 1) = false := decide_eq_false (by omega)
        have k2 : decide ((z2 (lo2 + ((i : Int)).toNat * 4)) = 2) = false := decide_eq_false (by omega)
        have k3 : decide ((z2 (lo2 + ((i : Int)).toNat * 4)) = 3) = true := decide_eq_true hk1
        repeat ((conv => whnf); first | (refine brT ?_ ?_; · (first | exact f1 | exact f2 | exact hop | exact k1 | exact k2 | exact k3 | (simp; done))) | (refine brF ?_ ?_; · (first | exact f1 | exact f2 | exact hop | exact k1 | exact k2 | exact k3 | (simp; done))) | (rw [gi]))

        conv => whnf
        refine ⟨k - 1, by omega, [2, 3, 4], rfl, rfl, [.slice (some ⟨1, lo2, none⟩) len2 cap, .pointer (some ⟨2, 0, none⟩), slOf 3 wn, .pointer (some ⟨4, 0, none⟩), .int .i64 (IntKind.i64.wrap ((i : Int) + 1))], rfl, i + 1, f, g, by omega, by rw [gw1], rfl⟩
      · have k1 : decide ((z2 (lo2 + ((i : Int)).toNat * 4)) = 1) = false := decide_eq_false (by omega)
        have k2 : decide ((z2 (lo2 + ((i : Int)).toNat * 4)) = 2) = false := decide_eq_false (by omega)
        have k3 : decide ((z2 (lo2 + ((i : Int)).toNat * 4)) = 3) = false := decide_eq_false (by omega)
        cases hQ : (rangeP f (z2 (lo2 + ((i : Int)).toNat * 4 + 1)) (z2 (lo2 + ((i : Int)).toNat * 4 + 3))).isEmpty with
        | true =>
          repeat ((conv => whnf); first | (refine brT ?_ ?_; · (first | exact f1 | exact f2 | exact hop | exact k1 | exact k2 | exact k3 | exact hQ | (simp; done))) | (refine brF ?_ ?_; · (first | exact f1 | exact f2 | exact hop | exact k1 | exact k2 | exact k3 | exact hQ | (simp; done))) | (rw [gi]))

          conv => whnf
          refine ⟨k - 1, by omega, [2, 3, 4], rfl, rfl, [.slice (some ⟨1, lo2, none⟩) len2 cap, .pointer (some ⟨2, 0, none⟩), slOf 3 wn, .pointer (some ⟨4, 0, none⟩), .int .i64 (IntKind.i64.wrap ((i : Int) + 1))], rfl, i + 1, f, g, by omega, by rw [gw1], rfl⟩
        | false =>
          repeat ((conv => whnf); first | (refine brT ?_ ?_; · (first | exact f1 | exact f2 | exact hop | exact k1 | exact k2 | exact k3 | exact hQ | (simp; done))) | (refine brF ?_ ?_; · (first | exact f1 | exact f2 | exact hop | exact k1 | exact k2 | exact k3 | exact hQ | (simp; done))) | (rw [gi]))

          conv => whnf
          refine ⟨k - 1, by omega, [2, 3, 4], rfl, rfl, [.slice (some ⟨1, lo2, none⟩) len2 cap, .pointer (some ⟨2, 0, none⟩), slOf 3 wn, .pointer (some ⟨4, 0, none⟩), .int .i64 (IntKind.i64.wrap ((i : Int) + 1))], rfl, i + 1, f, g, by omega, by rw [gw1], rfl⟩
  · have f1 : decide ((i : Int) < (len2 : Int)) = false := decide_eq_false (by omega)
    rcases hm with ⟨rfl, h⟩ | ⟨rfl, h⟩ | ⟨cap, rfl, h0⟩
    · subst h
      repeat ((conv => whnf); first | (refine brT ?_ ?_; · (exact f1)) | (refine brF ?_ ?_; · (exact f1)))

      conv => whnf
      exact ⟨[2, 3], rfl, rfl, _, rfl, rfl, rfl, rfl⟩
    · subst h
      repeat ((conv => whnf); first | (refine brT ?_ ?_; · (exact f1)) | (refine brF ?_ ?_; · (exact f1)))

      conv => whnf
      exact ⟨[2, 3], rfl, rfl, _, rfl, rfl, rfl, rfl⟩
    · repeat ((conv => whnf); first | (refine brT ?_ ?_; · (exact f1)) | (refine brF ?_ ?_; · (exact f1)))

      conv => whnf
      exact ⟨[2, 3], rfl, rfl, _, rfl, rfl, rfl, rfl⟩
theorem mcp_l12 (lo n lo2 n2 len2 : Nat) (mv : Value) (hm : SF 1 lo2 n2 len2 mv) (z z2 : Nat → Int) (hl : len2 ≤ 40) (f0 g0 : Int → Option Int) (wn : Nat) (wc : Nat → Int) (f g : Int → Option Int) {t : Sl} {H : HX} {vs : List Value} (σ : List Nat) (hσ : okS 2 σ = true) (hn : t.n = Try.f8.ntmps) (h0 : pickS 2 σ t [1, 5, 7, 8, 9] = some vs) (hvs : vs = [mv, .pointer (some ⟨2, 0, none⟩), slOf 3 wn, .pointer (some ⟨4, 0, none⟩), .int .i64 (0 : Nat)]) (hH : rnH 2 σ H = [oldR lo n z, oldR lo2 n2 z2, md f0 g0, prow wn wc, md f g]) :
    SWP Try.prog (means W) 2 (.loop (loopB Try.f8 1)) t H (Left 2 Try.f8.ntmps [5, 7] (MCp.Q2 (oldR lo n z) (oldR lo2 n2 z2) f0 g0 wn wc 2)) := by
  refine SWP.loopS Try.f8.ntmps [1, 5, 7, 8, 9] (MCp.I2 mv (oldR lo n z) (oldR lo2 n2 z2) f0 g0 wn wc len2) (N := len2) σ hσ hn h0 ⟨0, f, g, rfl, hvs, hH⟩ ?_
  rintro k vs H ⟨i, f, g, hki, rfl, rfl⟩
  exact mcp_r12 lo n lo2 n2 len2 mv hm z z2 hl f0 g0 wn wc i k f g hki
set_option maxRecDepth 100000 in
set_option maxHeartbeats 8000000 in
theorem mcp_l22 (lo n lo2 n2 : Nat) (z z2 : Nat → Int) (f0 g0 : Int → Option Int) (hW : WB g0) (wn : Nat) (wc : Nat → Int) {t : Sl} {H : HX} {vs : List Value} (σ : List Nat) (hσ : okS 2 σ = true) (hn : t.n = Try.f8.ntmps) (h0 : pickS 2 σ t [5, 7, 10] = some vs) (hvs : vs = [.pointer (some ⟨2, 0, none⟩), slOf 3 wn, .int .i64 (0 : Nat)]) (hH : rnH 2 σ H = [oldR lo n z, oldR lo2 n2 z2, md f0 g0, prow wn wc]) :
    SWP Try.prog (means W) 2 (.loop (loopB Try.f8 2)) t H (Left 2 Try.f8.ntmps [5, 7] (MCp.Q2 (oldR lo n z) (oldR lo2 n2 z2) f0 g0 wn wc 4)) := by
  refine SWP.loopS Try.f8.ntmps [5, 7, 10] (MCp.J2 (oldR lo n z) (oldR lo2 n2 z2) f0 g0 wn wc) (N := 64) σ hσ hn h0 ⟨0, rfl, hvs, hH⟩ ?_
  rintro k vs H ⟨j, hkj, rfl, rfl⟩
  refine SWP.code envP5_ok 40 200 ?_
  by_cases hj : j < 64
  · have m1 : decide ((j : Int) ≤ 63) = true := decide_eq_true (by omega)
    have m2 : (Lit.int .i64 (j : Int)).wf = true := key_wf (by omega)
    have y1 := hW.lt (j : Int)
    have gw2 : ((j + 1 : Nat) : Int) = IntKind.i64.wrap ((j : Int) + 1) := by rw [wrapI (by omega) (by omega)]; rfl
    repeat ((conv => whnf); first | (refine brT ?_ ?_; · (first | exact m1 | exact m2 | exact y1)) | (refine brF ?_ ?_; · (first | exact m1 | exact m2 | exact y1)))

    conv => whnf
    exact ⟨k - 1, by omega, [2, 3], rfl, rfl, _, rfl, j + 1, by omega, by rw [gw2] <;> rfl, rfl⟩
  · have m1 : decide ((j : Int) ≤ 63) = false := decide_eq_false (by omega)
    repeat ((conv => whnf); first | (refine brT ?_ ?_; · (exact m1)) | (refine brF ?_ ?_; · (exact m1)))

    conv => whnf
    exact ⟨[2, 3], rfl, rfl, _, rfl, rfl, rfl, rfl⟩
end Go.Proofs.Ytdmodejpcfhbhaa
