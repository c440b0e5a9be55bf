/- ModelPlays: the walk. -/
import Derived.Test.YtdmodejpcfhbhaaMpl
namespace Go.Proofs.Ytdmodejpcfhbhaa
open Go.RowKit
variable {W : World}
attribute [local irreducible] keysF rangeP rangeG allG pairsOf eqRows isOpB setF setG2 maxF fndF SWP FWP OWP
set_option maxRecDepth 100000 in
set_option maxHeartbeats 8000000 in
theorem modelPlays_row (lo n len cap : Nat) (z : Nat → Int) (h0 : lo + len * 4 ≤ n) (hl : len ≤ 60) : FWP Try.prog (means W) 5 [.slice (some ⟨0, lo, none⟩) len cap] [MPl.old lo n z] fun a _ => a = .bool true := by
  refine FWP.body envP5_ok 40 Try.func5 rfl (by exact Nat.le_of_ble_eq_true rfl) ?_
  have f0 : decide ((len : Int) > 60) = false := decide_eq_false (by omega)
  repeat ((conv => whnf); first | (refine brT ?_ ?_; · (first | exact f0 | (simp; omega))) | (refine brF ?_ ?_; · (first | exact f0 | (simp; omega))))

  conv => whnf
  refine SWP.cutS Try.f5.ntmps [] MPl.Q (SWP.loopS Try.f5.ntmps [0, 3, 4, 5] (MPl.I lo n len cap z) (N := len) [3, 4] rfl rfl rfl ?_ ?_) ?_
  · exact ⟨0, noneF, noneF, _, rfl, rel_new, rfl, rfl⟩
  · rintro k vs H ⟨i, f, g, G, hki, hR, rfl, rfl⟩
    by_cases hi : i < len
    · cases hop : isOpB (z (lo + ((i : Int)).toNat * 4)) (z (lo + ((i : Int)).toNat * 4 + 1)) (z (lo + ((i : Int)).toNat * 4 + 2)) (z (lo + ((i : Int)).toNat * 4 + 3)) with
      | false => exact mpl_bad lo n len cap z h0 hl i k f g G hki hR hi hop
      | true =>
        rcases op_kind hop with hk1 | hk1 | hk1 | hk1
        · exact mpl_put lo n len cap z h0 hl i k f g G hki hR hi hop hk1
        · exact mpl_del lo n len cap z h0 hl i k f g G hki hR hi hop hk1
        · exact mpl_get lo n len cap z h0 hl i k f g G hki hR hi hop hk1
        · cases hQ : (rangeP f (z (lo + ((i : Int)).toNat * 4 + 1)) (z (lo + ((i : Int)).toNat * 4 + 3))).isEmpty with
          | true => exact mpl_scan0 lo n len cap z h0 hl i k f g G hki hR hi hop hk1 hQ
          | false => exact mpl_scan1 lo n len cap z h0 hl i k f g G hki hR hi hop hk1 hQ
    · have f1 : decide ((i : Int) < (len : Int)) = false := decide_eq_false (by omega)
      refine SWP.code envP5_ok 40 200 ?_
      repeat ((conv => whnf); first | (refine brT ?_ ?_; · (exact f1)) | (refine brF ?_ ?_; · (exact f1)))

      conv => whnf
      exact ⟨[], rfl, rfl, _, rfl, rfl⟩
  · rintro e vs H rfl
    conv => whnf
    rfl
set_option maxRecDepth 100000 in
set_option maxHeartbeats 8000000 in
theorem modelPlays_none (lo n : Nat) (z : Nat → Int) (sv : Value) (h : sv = .slice none 0 0 ∨ sv = .slice (some ⟨0, 0, some 0⟩) 0 1) : FWP Try.prog (means W) 5 [sv] [MPl.old lo n z] fun a _ => a = .bool true := by
  rcases h with rfl | rfl
  all_goals
    refine FWP.body envP5_ok 40 Try.func5 rfl (by exact Nat.le_of_ble_eq_true rfl) ?_
    conv => whnf
    refine SWP.turns envP5_ok 40 200 3 ?_
    conv => whnf
    rfl
set_option maxRecDepth 100000 in
set_option maxHeartbeats 8000000 in
theorem modelPlays_long (lo n len cap : Nat) (z : Nat → Int) (hl : 60 < len) : FWP Try.prog (means W) 5 [.slice (some ⟨0, lo, none⟩) len cap] [MPl.old lo n z] fun a _ => a = .bool true := by
  refine FWP.body envP5_ok 40 Try.func5 rfl (by exact Nat.le_of_ble_eq_true rfl) ?_
  have f0 : decide ((len : Int) > 60) = true := decide_eq_true (by omega)
  repeat ((conv => whnf); first | (refine brT ?_ ?_; · (first | exact f0 | (simp; omega))) | (refine brF ?_ ?_; · (first | exact f0 | (simp; omega))))

  conv => whnf
  rfl
theorem modelPlays_walk (W : World) (A : Option Addr) (len cap : Nat) (z : Nat → Int) (h : IsTri W A 4 len cap z) :
    Calls Try.prog 5 #[.slice A len cap] W fun e w' => e = .returned (.bool true) ∧ Below W.heap.size W w' := by
  obtain ⟨sv, r, hat, hc, hok, hv⟩ := tab_arg h 0
  refine law_walk_rows [r] (fun x hx => by simp at hx; subst hx; exact hok) (args := [sv]) (.cons (hv _ _ (by show 0 < 1; decide) rfl) .nil) ?_
  have hH : oldH [r] = [MPl.old r.lo r.n fun j => z (j - r.lo)] := by
    show [some (false, AObj.ext (Ext.old r.lo r.n r.c))] = _
    rw [hc]; rfl
  rw [hH]
  rcases hat with ⟨rfl, _⟩ | ⟨rfl, _⟩ | ⟨cap, rfl, h1, h2, h3⟩
  · exact modelPlays_none _ _ _ _ (.inl rfl)
  · exact modelPlays_none _ _ _ _ (.inr rfl)
  · by_cases hl : len ≤ 60
    · exact modelPlays_row r.lo r.n len cap _ h1 hl
    · exact modelPlays_long r.lo r.n len cap _ (by omega)
end Go.Proofs.Ytdmodejpcfhbhaa
