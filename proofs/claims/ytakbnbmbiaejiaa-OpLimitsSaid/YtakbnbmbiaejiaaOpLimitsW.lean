/- OpLimits: the walk. -/
import Derived.Test.YtakbnbmbiaejiaaKn4
namespace Go.Proofs.Ytakbnbmbiaejiaa
open Go.RowKit
variable {W : World}
set_option maxRecDepth 100000 in
set_option maxHeartbeats 4000000 in
theorem opLimits_few (which : Int) (over : Bool) (h0 : 0 ≤ which) (hw : which.tmod 6 ≠ 2) : FWP Try.prog (means W) 8 [.int .u8 which, .bool over] [] fun a _ => a = .bool true := by
  have hc : (⟨2, 4, 200, 1000⟩ : Cf).okB = true := by decide
  have em : which.tmod 6 = 0 ∨ which.tmod 6 = 1 ∨ which.tmod 6 = 3 ∨ which.tmod 6 = 4 ∨ which.tmod 6 = 5 := by
    rw [tmodI h0] at hw ⊢; omega
  refine fevD_fwp (envK_ok known4) (d := 40) ?_
  cases over <;> rcases em with em | em | em | em | em
  all_goals
    repeat ((conv => whnf); first | (refine brT ?_ ?_; · (first | with_reducible exact Cf.okB_wf hc rfl | with_reducible exact Cf.okB_is hc rfl | (simp [*]; done))) | (refine brF ?_ ?_; · (first | with_reducible exact Cf.okB_wf hc rfl | with_reducible exact Cf.okB_is hc rfl | (simp [*]; done))))

  all_goals
    conv => whnf
namespace OL
def G (j : Nat) : Int := if j % 4 = 0 then 3 else 0
abbrev S0 : Option (Bool × AObj Ext) := some (true, AObj.cells [Value.int .i64 2, Value.int .i64 4, Value.int .i64 200, Value.int .i64 1000, Value.slice none 0 0, Value.slice none 0 0, Value.slice none 0 0] 56)
abbrev vs0 (over : Bool) (n : Int) (l : Value) (i : Int) : List Value := [.bool over, .int .i64 n, .pointer (some ⟨0, 0, none⟩), .iface 57 (.int .i64 12), l, .int .i64 i]
def I (over : Bool) (n : Int) (N : Nat) (k : Nat) (vs : List Value) (H : HX) : Prop :=
  ∃ i : Nat, k + i = N ∧ ((i = 0 ∧ vs = vs0 over n (.slice none 0 0) 0 ∧ H = [S0]) ∨
    (0 < i ∧ ∃ f : Nat → Int, (∀ j, j < 4 * i → f j = G j) ∧ vs = vs0 over n (.slice (some ⟨1, 0, some 0⟩) i 0) i ∧ H = [S0, some (true, .ext (.row 60 4 i (.ints .i64 f)))]))
abbrev S1 : Option (Bool × AObj Ext) := some (true, AObj.cells [Value.int .i64 2, Value.int .i64 4, Value.int .i64 200, Value.int .i64 1000, Value.slice (some ⟨2, 0, none⟩) 2 2, Value.slice none 0 0, Value.slice none 0 0] 56)
abbrev H2 (f : Nat → Int) : HX := [S1, some (true, .ext (.row 60 4 1000 (.ints .i64 f))), some (true, .cells [.slice none 0 0, .slice (some ⟨1, 0, some 0⟩) 1000 0] 58), S1, some (true, .cells [.func (.func 62) ⟨[]⟩ ⟨[]⟩] 64)]
def J (f : Nat → Int) (k : Nat) (vs : List Value) (H : HX) : Prop :=
  ∃ i : Nat, k + i = 1000 ∧ vs = [.slice (some ⟨1, 0, some 0⟩) 1000 0, .func (.func 62) ⟨[]⟩ ⟨[]⟩, .int .i64 1000, .int .i64 i] ∧ H = H2 f
end OL
attribute [local irreducible] SWP FWP OWP Ent
set_option maxRecDepth 100000 in
set_option maxHeartbeats 4000000 in
theorem opLimits_two (which : Int) (over : Bool) (hw : which.tmod 6 = 2) : FWP Try.prog (means W) 8 [.int .u8 which, .bool over] [] fun a _ => a = .bool true := by
  have hc : (⟨2, 4, 200, 1000⟩ : Cf).okB = true := by decide
  refine FWP.body (envK_ok known4) 40 Try.func8 rfl (by exact Nat.le_of_ble_eq_true rfl) ?_
  cases over
  · repeat ((conv => whnf); first | (refine brT ?_ ?_; · (first | with_reducible exact Cf.okB_wf hc rfl | with_reducible exact Cf.okB_is hc rfl | (simp [*]; done))) | (refine brF ?_ ?_; · (first | with_reducible exact Cf.okB_wf hc rfl | with_reducible exact Cf.okB_is hc rfl | (simp [*]; done))))

    conv => whnf
    refine SWP.loopS Try.f8.ntmps [1, 5, 6, 7, 8, 9] (OL.I false 0 1000) (N := 1000) [0] rfl rfl rfl ⟨0, rfl, .inl ⟨rfl, rfl, rfl⟩⟩ ?_
    rintro k vs H ⟨i, hk, ⟨rfl, rfl, rfl⟩ | ⟨hi, f, hf, rfl, rfl⟩⟩
    · refine SWP.code (envK_ok known4) 40 200 ?_
      repeat ((conv => whnf); first | (refine brT ?_ ?_; · (simp [*]; done)) | (refine brF ?_ ?_; · (simp [*]; done)))

      conv => whnf
      refine ⟨k - 1, by omega, [0, 2], rfl, rfl, _, rfl, 1, by omega, .inr ⟨by omega, _, ?_, rfl, rfl⟩⟩
      intro j hj
      obtain rfl | rfl | rfl | rfl : j = 0 ∨ j = 1 ∨ j = 2 ∨ j = 3 := by omega
      all_goals rfl
    · refine SWP.code (envK_ok known4) 40 200 ?_
      by_cases hn : i < 1000
      · have f1 : (i : Int) < 1000 := by omega
        have f2 : IntKind.i64.wrap ((i : Int) + 1) = (i : Int) + 1 := wrapI (by omega) (by omega)
        have f3 : i + 1 ≤ 1000000 := by omega
        repeat ((conv => whnf); first | (refine brT ?_ ?_; · (simp [*]; done)) | (refine brF ?_ ?_; · (simp [*]; done)))

        conv => whnf
        refine brT ?_ ?_
        · exact Bool.and_eq_true_iff.2 ⟨decide_eq_true ⟨rfl, rfl, rfl⟩, decide_eq_true ⟨Nat.one_pos, Nat.le_of_ble_eq_true rfl, f3⟩⟩
        conv => whnf
        refine ⟨k - 1, by omega, [0, 3], rfl, rfl, _, rfl, i + 1, by omega, .inr ⟨by omega, _, ?_, ?_, rfl⟩⟩
        · intro j hj
          show (if j < i * 4 then f j else [3, 0, 0, 0].getD (0 + (j - i * 4)) 0) = OL.G j
          by_cases hq : j < i * 4
          · rw [if_pos hq, hf j (by omega)]
          · rw [if_neg hq]
            have hm : j % 4 = j - i * 4 := by omega
            unfold OL.G
            rw [hm]
            generalize j - i * 4 = q at *
            obtain rfl | rfl | rfl | rfl : q = 0 ∨ q = 1 ∨ q = 2 ∨ q = 3 := by omega
            all_goals rfl
        · rw [f2]; rfl
      · have f1 : ¬ (i : Int) < 1000 := by omega
        have i0 : i = 1000 := by omega
        subst i0
        repeat ((conv => whnf); first | (refine brT ?_ ?_; · (simp [*]; done)) | (refine brF ?_ ?_; · (simp [*]; done)))

        conv => whnf
        refine SWP.turns (envK_ok known4) 40 200 3 ?_
        repeat ((conv => whnf); first | (refine brT ?_ ?_; · (simp [*]; done)) | (refine brF ?_ ?_; · (simp [*]; done)))

        conv => whnf
        refine SWP.turns (envK_ok known4) 40 200 3 ?_
        repeat ((conv => whnf); first | (refine brT ?_ ?_; · (simp [*]; done)) | (refine brF ?_ ?_; · (simp [*]; done)))

        conv => whnf
        refine SWP.turns (envK_ok known4) 40 200 1 ?_
        repeat ((conv => whnf); first | (refine brT ?_ ?_; · (simp [*]; done)) | (refine brF ?_ ?_; · (simp [*]; done)))

        conv => whnf
        refine SWP.loopS Try.f87.ntmps [0, 1, 7, 8] (OL.J f) (N := 1000) [] rfl rfl rfl ⟨0, rfl, rfl, rfl⟩ ?_
        rintro k vs H ⟨i, hk, rfl, rfl⟩
        refine SWP.code (envK_ok known4) 40 200 ?_
        by_cases hn : i < 1000
        · have f1 : (i : Int) < 1000 := by omega
          have f2 : IntKind.i64.wrap ((i : Int) + 1) = (i : Int) + 1 := wrapI (by omega) (by omega)
          have f5 : decide ((0:Int) ≤ (i:Int) ∧ (i:Int) < ((1000 : Nat):Int)) = true := decide_eq_true ⟨by omega, by omega⟩
          have f3 : decide (0 ≤ 0 + (i : Int).toNat * 4 ∧ 0 + (i : Int).toNat * 4 + 4 ≤ 1000 * 4) = true := decide_eq_true ⟨by omega, by omega⟩
          have g0 : f (i * 4) = 3 := by rw [hf _ (by omega)]; unfold OL.G; rw [if_pos (by omega)]
          have g1 : f (i * 4 + 1) = 0 := by rw [hf _ (by omega)]; unfold OL.G; rw [if_neg (by omega)]
          have g2 : f (i * 4 + 1 + 1) = 0 := by rw [hf _ (by omega)]; unfold OL.G; rw [if_neg (by omega)]
          have g3 : f (i * 4 + 1 + 1 + 1) = 0 := by rw [hf _ (by omega)]; unfold OL.G; rw [if_neg (by omega)]
          have es0 : 60 < Try.prog.types.size := Nat.le_of_ble_eq_true (by kernel_rfl)
          have es : (Try.prog.types[60]'es0).size = 4 := by kernel_rfl
          repeat ((conv => whnf); first | (refine brT ?_ ?_; · (first | exact f3 | (simp [*]; done))) | (refine brF ?_ ?_; · (first | exact f3 | (simp [*]; done))) | (rw [f5]))

          conv => whnf
          exact ⟨k - 1, by omega, [], rfl, rfl, _, rfl, i + 1, by omega, by rw [f2]; rfl, rfl⟩
        · have f1 : ¬ (i : Int) < 1000 := by omega
          have i0 : i = 1000 := by omega
          subst i0
          repeat ((conv => whnf); first | (refine brT ?_ ?_; · (simp [*]; done)) | (refine brF ?_ ?_; · (simp [*]; done)))

          rfl
  · repeat ((conv => whnf); first | (refine brT ?_ ?_; · (first | with_reducible exact Cf.okB_wf hc rfl | with_reducible exact Cf.okB_is hc rfl | (simp [*]; done))) | (refine brF ?_ ?_; · (first | with_reducible exact Cf.okB_wf hc rfl | with_reducible exact Cf.okB_is hc rfl | (simp [*]; done))))

    conv => whnf
    refine SWP.loopS Try.f8.ntmps [1, 5, 6, 7, 8, 9] (OL.I true 1 1001) (N := 1001) [0] rfl rfl rfl ⟨0, rfl, .inl ⟨rfl, rfl, rfl⟩⟩ ?_
    rintro k vs H ⟨i, hk, ⟨rfl, rfl, rfl⟩ | ⟨hi, f, hf, rfl, rfl⟩⟩
    · refine SWP.code (envK_ok known4) 40 200 ?_
      repeat ((conv => whnf); first | (refine brT ?_ ?_; · (simp [*]; done)) | (refine brF ?_ ?_; · (simp [*]; done)))

      conv => whnf
      refine ⟨k - 1, by omega, [0, 2], rfl, rfl, _, rfl, 1, by omega, .inr ⟨by omega, _, ?_, rfl, rfl⟩⟩
      intro j hj
      obtain rfl | rfl | rfl | rfl : j = 0 ∨ j = 1 ∨ j = 2 ∨ j = 3 := by omega
      all_goals rfl
    · refine SWP.code (envK_ok known4) 40 200 ?_
      by_cases hn : i < 1001
      · have f1 : (i : Int) < 1001 := by omega
        have f2 : IntKind.i64.wrap ((i : Int) + 1) = (i : Int) + 1 := wrapI (by omega) (by omega)
        have f3 : i + 1 ≤ 1000000 := by omega
        repeat ((conv => whnf); first | (refine brT ?_ ?_; · (simp [*]; done)) | (refine brF ?_ ?_; · (simp [*]; done)))

        conv => whnf
        refine brT ?_ ?_
        · exact Bool.and_eq_true_iff.2 ⟨decide_eq_true ⟨rfl, rfl, rfl⟩, decide_eq_true ⟨Nat.one_pos, Nat.le_of_ble_eq_true rfl, f3⟩⟩
        conv => whnf
        refine ⟨k - 1, by omega, [0, 3], rfl, rfl, _, rfl, i + 1, by omega, .inr ⟨by omega, _, ?_, ?_, rfl⟩⟩
        · intro j hj
          show (if j < i * 4 then f j else [3, 0, 0, 0].getD (0 + (j - i * 4)) 0) = OL.G j
          by_cases hq : j < i * 4
          · rw [if_pos hq, hf j (by omega)]
          · rw [if_neg hq]
            have hm : j % 4 = j - i * 4 := by omega
            unfold OL.G
            rw [hm]
            generalize j - i * 4 = q at *
            obtain rfl | rfl | rfl | rfl : q = 0 ∨ q = 1 ∨ q = 2 ∨ q = 3 := by omega
            all_goals rfl
        · rw [f2]; rfl
      · have f1 : ¬ (i : Int) < 1001 := by omega
        have i0 : i = 1001 := by omega
        subst i0
        repeat ((conv => whnf); first | (refine brT ?_ ?_; · (simp [*]; done)) | (refine brF ?_ ?_; · (simp [*]; done)))

        conv => whnf
        refine SWP.turns (envK_ok known4) 40 200 3 ?_
        repeat ((conv => whnf); first | (refine brT ?_ ?_; · (simp [*]; done)) | (refine brF ?_ ?_; · (simp [*]; done)))

        rfl
theorem opLimits_walk (a0 : Int) (a1 : Bool) (w0 : (Lit.int .u8 a0).wf = true) (w : World) :
    Calls Try.prog 8 #[.int .u8 a0, .bool a1] w fun e w' => e = .returned (.bool true) ∧ Below w.heap.size w w' := by
  by_cases hw : a0.tmod 6 = 2
  · exact law_walk (n := 1) rfl w (opLimits_two a0 a1 hw)
  · exact law_walk (n := 1) rfl w (opLimits_few a0 a1 (wf_u8_bounds w0).1 hw)
end Go.Proofs.Ytakbnbmbiaejiaa
