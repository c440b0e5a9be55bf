/- ModelPlays: the walk. (printed by plays.py) -/
import Derived.Test.YtdmodejpcfhbhaaSameAns
import Derived.Test.YtdmodejpcfhbhaaTabs
namespace Go.Proofs.Ytdmodejpcfhbhaa
open Go.RowKit
variable {W : World}

def MPl.old (lo n : Nat) (z : Nat → Int) : Option (Bool × AObj Ext) := some (false, .ext (.old lo n (.ints .i64 z)))
def two (f g : Int → Option Int) (G : Nat → Int) : HX := [some (true, .ext (.modl f g)), some (true, .ext (.fix 128 (.ints .i64 G)))]
def MPl.I (lo n len cap : Nat) (z : Nat → Int) (k : Nat) (vs : List Value) (H : HX) : Prop :=
  ∃ (i : Nat) (f g : Int → Option Int) (G : Nat → Int), k + i = len ∧ Rel f g G ∧ vs = [.slice (some ⟨0, lo, none⟩) len cap, .pointer (some ⟨1, 0, none⟩), .pointer (some ⟨2, 0, none⟩), .int .i64 i] ∧ H = MPl.old lo n z :: two f g G
def MPl.J (lo n len cap : Nat) (z : Nat → Int) (i : Nat) (f g : Int → Option Int) (G : Nat → Int) (k : Nat) (vs : List Value) (H : HX) : Prop :=
  ∃ j : Nat, k + j = 64 ∧ vs = [.slice (some ⟨0, lo, none⟩) len cap, .pointer (some ⟨1, 0, none⟩), .pointer (some ⟨2, 0, none⟩), .int .i64 i, .int .i64 j] ∧ H = MPl.old lo n z :: two f g G
def MPl.E (lo n len cap : Nat) (z : Nat → Int) (i : Nat) (f g : Int → Option Int) (G : Nat → Int) (e : Exit) (vs : List Value) (H : HX) : Prop :=
  e = .exit 2 ∧ vs = [.slice (some ⟨0, lo, none⟩) len cap, .pointer (some ⟨1, 0, none⟩), .pointer (some ⟨2, 0, none⟩), .int .i64 i] ∧ H = MPl.old lo n z :: two f g G
/-- A function's loops, in order. -/
def loopsL : Code → List Code
  | .seq a b => loopsL a ++ loopsL b
  | .cond _ a b => loopsL a ++ loopsL b
  | .block _ b => loopsL b
  | .loop b => b :: loopsL b
  | _ => []
noncomputable def loopB (F : Func) (n : Nat) : Code := match F.body with | some c => (loopsL c).getD n .skip | none => .skip
theorem hscan : isOpB 4 0 0 63 = true := by decide
def MPl.Q (e : Exit) (_ : List Value) (_ : HX) : Prop := e = .exit 0
/-- What a round leaves. -/
def roundK (m n : Nat) (ss : List Nat) (Inv : Nat → List Value → HX → Prop) (k : Nat) (K : KE Ext) : KE Ext := fun e t' H' => (match e with
      | .normal => ∃ j, j < k ∧ ∃ σ, okS m σ = true ∧ t'.n = n ∧ ∃ vs', pickS m σ t' ss = some vs' ∧ Inv j vs' (rnH m σ H')
      | e => K e t' H')
attribute [local irreducible] keysF rangeP rangeG allG pairsOf eqRows isOpB setF setG2 maxF fndF SWP FWP OWP
set_option maxRecDepth 100000 in
set_option maxHeartbeats 8000000 in
theorem mpl_inner (lo n len cap : Nat) (z : Nat → Int) (i : Nat) (f g : Int → Option Int) (G : Nat → Int) (hR2 : Rel f g G) {t : Sl} {H : HX} {vs : List Value} (hn : t.n = Try.f5.ntmps) (h0 : pickS 1 [1, 2] t [0, 3, 4, 5, 7] = some vs) (hvs : vs = [.slice (some ⟨0, lo, none⟩) len cap, .pointer (some ⟨1, 0, none⟩), .pointer (some ⟨2, 0, none⟩), .int .i64 i, .int .i64 0]) (hH : rnH 1 [1, 2] H = MPl.old lo n z :: two f g G) :
    SWP Try.prog (means W) 1 (.loop (loopB Try.f5 1)) t H (Left 1 Try.f5.ntmps [0, 3, 4, 5] (MPl.E lo n len cap z i f g G)) := by
  refine SWP.loopS Try.f5.ntmps [0, 3, 4, 5, 7] (MPl.J lo n len cap z i f g G) (N := 64) [1, 2] rfl hn h0 ⟨0, rfl, hvs, hH⟩ ?_
  rintro k' vs H ⟨j, hkj, rfl, rfl⟩
  refine SWP.code envP5_ok 40 200 ?_
  by_cases hj : j < 64
  · have gj : decide (0 ≤ (j : Int) ∧ (j : Int) < ((64 : Nat) : Int)) = true := decide_eq_true (by omega)
    have m1 : decide ((j : Int) ≤ 63) = true := decide_eq_true (by omega)
    have m2 : (Lit.int .i64 (j : Int)).wf = true := key_wf (by omega)
    have m3 : decide (0 ≤ 0 + ((j : Int)).toNat * 1 ∧ 0 + ((j : Int)).toNat * 1 < 128) = true := decide_eq_true (by omega)
    have m4 : decide (0 ≤ 64 + ((j : Int)).toNat * 1 ∧ 64 + ((j : Int)).toNat * 1 < 128) = true := decide_eq_true (by omega)
    have z1 := hR2.found hj
    have z2 := hR2.val hj
    have z3 := hR2.w j hj
    have gw2 : ((j + 1 : Nat) : Int) = IntKind.i64.wrap ((j : Int) + 1) := by rw [wrapI (by omega) (by omega)]; rfl
    have y1 : (!((f j).isSome == decide (G (0 + ((j : Int)).toNat * 1) ≥ 0))) = false := by rw [show 0 + ((j : Int)).toNat * 1 = j from by omega, show decide (G j ≥ 0) = (f j).isSome from z1]; simp
    have y2 : (!((f j).getD 0 == (if G (0 + ((j : Int)).toNat * 1) > 0 then G (0 + ((j : Int)).toNat * 1) else 0))) = false := by rw [show 0 + ((j : Int)).toNat * 1 = j from by omega, show (if G j > 0 then G j else 0) = _ from z2]; simp
    have y3 : (!((g j).getD (-1) == G (64 + ((j : Int)).toNat * 1))) = false := by rw [show 64 + ((j : Int)).toNat * 1 = 64 + j from by omega, z3]; simp
    repeat ((conv => whnf); first | (refine brT ?_ ?_; · (first | exact m1 | exact m2 | exact m3 | exact m4 | exact y1 | exact y2 | exact y3)) | (refine brF ?_ ?_; · (first | exact m1 | exact m2 | exact m3 | exact m4 | exact y1 | exact y2 | exact y3)) | (rw [gj]))

    conv => whnf
    exact ⟨k' - 1, by omega, [1, 2], rfl, rfl, _, rfl, j + 1, by omega, by rw [gw2] <;> rfl, rfl⟩
  · have m1 : decide ((j : Int) ≤ 63) = false := decide_eq_false (by omega)
    repeat ((conv => whnf); first | (refine brT ?_ ?_; · (exact m1)) | (refine brF ?_ ?_; · (exact m1)) | (rw [gw1]))

    conv => whnf
    exact ⟨[1, 2], rfl, rfl, _, rfl, rfl, rfl, rfl⟩
end Go.Proofs.Ytdmodejpcfhbhaa
