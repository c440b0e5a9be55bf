/- ModelScans: the walk. (printed by mscans2.py) -/
import Derived.Test.YtdmodejpcfhbhaaMscan
namespace Go.Proofs.Ytdmodejpcfhbhaa
open Go.RowKit
variable {W : World}
theorem isOp_scan {a b : Int} (ha : 0 ≤ a ∧ a ≤ 63) (hb : 0 ≤ b ∧ b ≤ 63) : isOpB 4 a 0 b = true := by simp [isOpB, isKeyB]; omega
attribute [local irreducible] keysF rangeP rangeG allG pairsOf eqRows isOpB setF setG2 maxF fndF SWP FWP OWP
set_option maxRecDepth 100000 in
set_option maxHeartbeats 8000000 in
theorem modelScans_n (lo n : Nat) (z : Nat → Int) (a b c : Int) (ha0 : 0 ≤ a) (hb0 : 0 ≤ b) (hc0 : 0 ≤ c) (hc1 : c ≤ 255) : FWP Try.prog (means W) 6 [.slice none 0 0, .int .u8 a, .int .u8 b, .int .u8 c] [oldR lo n z] fun a _ => a = .bool true := by
  obtain ⟨an, han⟩ := Int.eq_ofNat_of_zero_le (Int.emod_nonneg a (show (64 : Int) ≠ 0 by decide))
  have ha64 : an < 64 := by omega
  obtain ⟨bn, hbn⟩ := Int.eq_ofNat_of_zero_le (Int.emod_nonneg b (show (64 : Int) ≠ 0 by decide))
  have hb64 : bn < 64 := by omega
  have ea : (IntKind.i64.wrap (a.tmod 64)) = (an : Int) := by rw [tmodI ha0, wrapI (by omega) (by omega)]; exact han
  have eb : (IntKind.i64.wrap (b.tmod 64)) = (bn : Int) := by rw [tmodI hb0, wrapI (by omega) (by omega)]; exact hbn
  have hopS : isOpB 4 (IntKind.i64.wrap (a.tmod 64)) 0 (IntKind.i64.wrap (b.tmod 64)) = true := by rw [ea, eb]; exact isOp_scan (by omega) (by omega)
  refine FWP.body envP5_ok 40 Try.func6 rfl (by exact Nat.le_of_ble_eq_true rfl) ?_
  repeat ((conv => whnf); first | (refine brT ?_ ?_; · (first | (simp; done))) | (refine brF ?_ ?_; · (first | (simp; done))))

  conv => whnf
  refine SWP.cutS Try.f6.ntmps [1, 2, 3, 9] (MSc.Q (oldR lo n z) a b c) (msc_l0 lo n 0 (.slice none 0 0) (.inl ⟨rfl, rfl⟩) z a b c (by omega) [3] rfl rfl rfl rfl rfl) ?_
  rintro e vs H ⟨f, g, rfl, rfl, rfl⟩
  have eL : (rangeP f (IntKind.i64.wrap (a.tmod 64)) (IntKind.i64.wrap (b.tmod 64))) = rangeP f an bn := by rw [ea, eb]
  cases hE : (rangeP f (IntKind.i64.wrap (a.tmod 64)) (IntKind.i64.wrap (b.tmod 64))) with
  | nil =>
    have t1 : (rangeP f (IntKind.i64.wrap (a.tmod 64)) (IntKind.i64.wrap (b.tmod 64))).isEmpty = true := by rw [hE]; rfl
    repeat ((conv => whnf); first | (refine brT ?_ ?_; · (first | exact hopS | exact t1 | (simp; done))) | (refine brF ?_ ?_; · (first | exact hopS | exact t1 | (simp; done))))

    conv => whnf
    refine SWP.cutS Try.f6.ntmps [3, 9, 11, 12, 13, 14] (MSc.E [oldR lo n z, md f g] (.slice none 0 0) c f an bn) (msc_l11 lo n z c f g an bn ha64 hb64 (eL.symm.trans hE) (IntKind.i64.wrap (a.tmod 64)) (IntKind.i64.wrap (b.tmod 64)) ea eb [1] rfl rfl rfl rfl rfl) ?_
    rintro e vs H ⟨q, rfl, hq, rfl, rfl⟩
    have w1 : (!decide ((q : Int) = 0)) = false := by
      rw [hq, ← eL, hE]; rfl
    have w2 : decide ((q : Int) = 0) = true := by
      rw [hq, ← eL, hE]; rfl
    by_cases hab : bn ≤ an
    · have x1 : decide ((an : Int) ≥ (bn : Int)) = true := decide_eq_true (by omega)
      repeat ((conv => whnf); first | (refine brT ?_ ?_; · (first | exact w1 | exact x1 | (simp; done))) | (refine brF ?_ ?_; · (first | exact w1 | exact x1 | (simp; done))))

      conv => whnf
      exact congrArg Value.bool w2
    · have x1 : decide ((an : Int) ≥ (bn : Int)) = false := decide_eq_false (by omega)
      have ed : IntKind.i64.wrap ((bn : Int) - (an : Int)) = ((bn - an : Nat) : Int) := by rw [wrapI (by omega) (by omega)]; omega
      have gz : (!decide (IntKind.i64.wrap ((bn : Int) - (an : Int)) = 0)) = true := by
        rw [decide_eq_false (by rw [ed]; omega)]; rfl
      obtain ⟨r, hr⟩ := Int.eq_ofNat_of_zero_le (Int.emod_nonneg c (show ((bn - an : Nat) : Int) ≠ 0 by omega))
      have hr2 : r < bn - an := by
        have := Int.emod_lt_of_pos c (show (0 : Int) < ((bn - an : Nat) : Int) by omega)
        omega
      have er : (IntKind.i64.wrap c).tmod (IntKind.i64.wrap ((bn : Int) - (an : Int))) = (r : Int) := by
        rw [ed, show IntKind.i64.wrap c = c from wrapI (by omega) (by omega), Int.tmod_eq_emod_of_nonneg hc0, hr]
      have ec : (IntKind.i64.wrap ((an : Int) + (IntKind.i64.wrap c).tmod (IntKind.i64.wrap ((bn : Int) - (an : Int))))) = ((an + r : Nat) : Int) := by rw [er, wrapI (by omega) (by omega)]; omega
      have ec1 : (IntKind.i64.wrap ((IntKind.i64.wrap ((an : Int) + (IntKind.i64.wrap c).tmod (IntKind.i64.wrap ((bn : Int) - (an : Int))))) + 1)) = ((an + r : Nat) : Int) + 1 := by rw [ec, wrapI (by omega) (by omega)]
      have opY : isOpB 4 (an : Int) 0 (IntKind.i64.wrap ((an : Int) + (IntKind.i64.wrap c).tmod (IntKind.i64.wrap ((bn : Int) - (an : Int))))) = true := by rw [ec]; exact isOp_scan (by omega) (by omega)
      have opZ : isOpB 4 (IntKind.i64.wrap ((IntKind.i64.wrap ((an : Int) + (IntKind.i64.wrap c).tmod (IntKind.i64.wrap ((bn : Int) - (an : Int))))) + 1)) 0 (bn : Int) = true := by rw [ec1]; exact isOp_scan (by omega) (by omega)
      have hsp : rangeP f (an : Int) (bn : Int) = (rangeP f (an : Int) (IntKind.i64.wrap ((an : Int) + (IntKind.i64.wrap c).tmod (IntKind.i64.wrap ((bn : Int) - (an : Int)))))) ++ (rangeP f (IntKind.i64.wrap ((IntKind.i64.wrap ((an : Int) + (IntKind.i64.wrap c).tmod (IntKind.i64.wrap ((bn : Int) - (an : Int))))) + 1)) (bn : Int)) := by
        rw [ec1, ec]; exact rangeP_split f (by omega) (by omega)
      clear er ec ec1
      have h0 : (rangeP f (an : Int) (IntKind.i64.wrap ((an : Int) + (IntKind.i64.wrap c).tmod (IntKind.i64.wrap ((bn : Int) - (an : Int)))))) ++ (rangeP f (IntKind.i64.wrap ((IntKind.i64.wrap ((an : Int) + (IntKind.i64.wrap c).tmod (IntKind.i64.wrap ((bn : Int) - (an : Int))))) + 1)) (bn : Int)) = [] := hsp.symm.trans (eL.symm.trans hE)
      have tY : (rangeP f (an : Int) (IntKind.i64.wrap ((an : Int) + (IntKind.i64.wrap c).tmod (IntKind.i64.wrap ((bn : Int) - (an : Int)))))).isEmpty = true := by rw [(List.append_eq_nil_iff.1 h0).1]; rfl
      have tZ : (rangeP f (IntKind.i64.wrap ((IntKind.i64.wrap ((an : Int) + (IntKind.i64.wrap c).tmod (IntKind.i64.wrap ((bn : Int) - (an : Int))))) + 1)) (bn : Int)).isEmpty = true := by rw [(List.append_eq_nil_iff.1 h0).2]; rfl
      clear h0 hsp
      repeat ((conv => whnf); first | (refine brT ?_ ?_; · (first | exact w1 | exact x1 | exact opY | exact opZ | exact tY | exact tZ | (simp; done))) | (refine brF ?_ ?_; · (first | exact w1 | exact x1 | exact opY | exact opZ | exact tY | exact tZ | (simp; done))) | (rw [gz]))

      conv => whnf
      rfl
  | cons x s =>
    have t1 : (rangeP f (IntKind.i64.wrap (a.tmod 64)) (IntKind.i64.wrap (b.tmod 64))).isEmpty = false := by rw [hE]; rfl
    clear hE
    repeat ((conv => whnf); first | (refine brT ?_ ?_; · (first | exact hopS | exact t1 | (simp; done))) | (refine brF ?_ ?_; · (first | exact hopS | exact t1 | (simp; done))))

    conv => whnf
    refine SWP.cutS Try.f6.ntmps [3, 9, 11, 12, 13, 14] (MSc.E [oldR lo n z, md f g, prow (rangeP f (IntKind.i64.wrap (a.tmod 64)) (IntKind.i64.wrap (b.tmod 64))).length (pairF (rangeP f (IntKind.i64.wrap (a.tmod 64)) (IntKind.i64.wrap (b.tmod 64))))] (slOf 2 (rangeP f (IntKind.i64.wrap (a.tmod 64)) (IntKind.i64.wrap (b.tmod 64))).length) c f an bn) (msc_l12 lo n z c f g an bn ha64 hb64 (rangeP f (IntKind.i64.wrap (a.tmod 64)) (IntKind.i64.wrap (b.tmod 64))).length (pairF (rangeP f (IntKind.i64.wrap (a.tmod 64)) (IntKind.i64.wrap (b.tmod 64)))) (by rw [eL]) (by rw [eL]) (IntKind.i64.wrap (a.tmod 64)) (IntKind.i64.wrap (b.tmod 64)) ea eb [1, 6] rfl rfl rfl rfl rfl) ?_
    rintro e vs H ⟨q, rfl, hq, rfl, rfl⟩
    have w1 : (!decide ((q : Int) = ((rangeP f (IntKind.i64.wrap (a.tmod 64)) (IntKind.i64.wrap (b.tmod 64))).length : Int))) = false := by
      rw [hq, eL]; simp
    have w2 : decide ((q : Int) = ((rangeP f (IntKind.i64.wrap (a.tmod 64)) (IntKind.i64.wrap (b.tmod 64))).length : Int)) = true := by
      rw [hq, eL]; simp
    by_cases hab : bn ≤ an
    · have x1 : decide ((an : Int) ≥ (bn : Int)) = true := decide_eq_true (by omega)
      repeat ((conv => whnf); first | (refine brT ?_ ?_; · (first | exact w1 | exact x1 | (simp; done))) | (refine brF ?_ ?_; · (first | exact w1 | exact x1 | (simp; done))))

      conv => whnf
      exact congrArg Value.bool w2
    · have x1 : decide ((an : Int) ≥ (bn : Int)) = false := decide_eq_false (by omega)
      have ed : IntKind.i64.wrap ((bn : Int) - (an : Int)) = ((bn - an : Nat) : Int) := by rw [wrapI (by omega) (by omega)]; omega
      have gz : (!decide (IntKind.i64.wrap ((bn : Int) - (an : Int)) = 0)) = true := by
        rw [decide_eq_false (by rw [ed]; omega)]; rfl
      obtain ⟨r, hr⟩ := Int.eq_ofNat_of_zero_le (Int.emod_nonneg c (show ((bn - an : Nat) : Int) ≠ 0 by omega))
      have hr2 : r < bn - an := by
        have := Int.emod_lt_of_pos c (show (0 : Int) < ((bn - an : Nat) : Int) by omega)
        omega
      have er : (IntKind.i64.wrap c).tmod (IntKind.i64.wrap ((bn : Int) - (an : Int))) = (r : Int) := by
        rw [ed, show IntKind.i64.wrap c = c from wrapI (by omega) (by omega), Int.tmod_eq_emod_of_nonneg hc0, hr]
      have ec : (IntKind.i64.wrap ((an : Int) + (IntKind.i64.wrap c).tmod (IntKind.i64.wrap ((bn : Int) - (an : Int))))) = ((an + r : Nat) : Int) := by rw [er, wrapI (by omega) (by omega)]; omega
      have ec1 : (IntKind.i64.wrap ((IntKind.i64.wrap ((an : Int) + (IntKind.i64.wrap c).tmod (IntKind.i64.wrap ((bn : Int) - (an : Int))))) + 1)) = ((an + r : Nat) : Int) + 1 := by rw [ec, wrapI (by omega) (by omega)]
      have opY : isOpB 4 (an : Int) 0 (IntKind.i64.wrap ((an : Int) + (IntKind.i64.wrap c).tmod (IntKind.i64.wrap ((bn : Int) - (an : Int))))) = true := by rw [ec]; exact isOp_scan (by omega) (by omega)
      have opZ : isOpB 4 (IntKind.i64.wrap ((IntKind.i64.wrap ((an : Int) + (IntKind.i64.wrap c).tmod (IntKind.i64.wrap ((bn : Int) - (an : Int))))) + 1)) 0 (bn : Int) = true := by rw [ec1]; exact isOp_scan (by omega) (by omega)
      have hsp : rangeP f (an : Int) (bn : Int) = (rangeP f (an : Int) (IntKind.i64.wrap ((an : Int) + (IntKind.i64.wrap c).tmod (IntKind.i64.wrap ((bn : Int) - (an : Int)))))) ++ (rangeP f (IntKind.i64.wrap ((IntKind.i64.wrap ((an : Int) + (IntKind.i64.wrap c).tmod (IntKind.i64.wrap ((bn : Int) - (an : Int))))) + 1)) (bn : Int)) := by
        rw [ec1, ec]; exact rangeP_split f (by omega) (by omega)
      clear er ec ec1
      have hLYZ : (rangeP f (IntKind.i64.wrap (a.tmod 64)) (IntKind.i64.wrap (b.tmod 64))) = (rangeP f (an : Int) (IntKind.i64.wrap ((an : Int) + (IntKind.i64.wrap c).tmod (IntKind.i64.wrap ((bn : Int) - (an : Int)))))) ++ (rangeP f (IntKind.i64.wrap ((IntKind.i64.wrap ((an : Int) + (IntKind.i64.wrap c).tmod (IntKind.i64.wrap ((bn : Int) - (an : Int))))) + 1)) (bn : Int)) := eL.trans hsp
      have hlen : (rangeP f (IntKind.i64.wrap (a.tmod 64)) (IntKind.i64.wrap (b.tmod 64))).length = (rangeP f (an : Int) (IntKind.i64.wrap ((an : Int) + (IntKind.i64.wrap c).tmod (IntKind.i64.wrap ((bn : Int) - (an : Int)))))).length + (rangeP f (IntKind.i64.wrap ((IntKind.i64.wrap ((an : Int) + (IntKind.i64.wrap c).tmod (IntKind.i64.wrap ((bn : Int) - (an : Int))))) + 1)) (bn : Int)).length := by rw [hLYZ, List.length_append]
      have hl64 : (rangeP f (IntKind.i64.wrap (a.tmod 64)) (IntKind.i64.wrap (b.tmod 64))).length ≤ 64 := by rw [eL]; exact range_len f _ _
      cases tY : (rangeP f (an : Int) (IntKind.i64.wrap ((an : Int) + (IntKind.i64.wrap c).tmod (IntKind.i64.wrap ((bn : Int) - (an : Int)))))).isEmpty with
      | true =>
        have yn := List.isEmpty_iff.1 tY
        have yl : (rangeP f (an : Int) (IntKind.i64.wrap ((an : Int) + (IntKind.i64.wrap c).tmod (IntKind.i64.wrap ((bn : Int) - (an : Int)))))).length = 0 := by rw [yn]; rfl
        cases tZ : (rangeP f (IntKind.i64.wrap ((IntKind.i64.wrap ((an : Int) + (IntKind.i64.wrap c).tmod (IntKind.i64.wrap ((bn : Int) - (an : Int))))) + 1)) (bn : Int)).isEmpty with
        | true =>
          rw [eL, hsp, List.isEmpty_iff.1 tY, List.isEmpty_iff.1 tZ] at t1
          cases t1
        | false =>
          have zl : 0 < (rangeP f (IntKind.i64.wrap ((IntKind.i64.wrap ((an : Int) + (IntKind.i64.wrap c).tmod (IntKind.i64.wrap ((bn : Int) - (an : Int))))) + 1)) (bn : Int)).length := by
            rw [List.length_pos_iff]
            intro e
            rw [e] at tZ
            cases tZ
          have a1 : (true && decide (0 < (rangeP f (IntKind.i64.wrap ((IntKind.i64.wrap ((an : Int) + (IntKind.i64.wrap c).tmod (IntKind.i64.wrap ((bn : Int) - (an : Int))))) + 1)) (bn : Int)).length ∧ 0 + (rangeP f (IntKind.i64.wrap ((IntKind.i64.wrap ((an : Int) + (IntKind.i64.wrap c).tmod (IntKind.i64.wrap ((bn : Int) - (an : Int))))) + 1)) (bn : Int)).length * 2 ≤ (rangeP f (IntKind.i64.wrap ((IntKind.i64.wrap ((an : Int) + (IntKind.i64.wrap c).tmod (IntKind.i64.wrap ((bn : Int) - (an : Int))))) + 1)) (bn : Int)).length * 2 ∧ 0 + (rangeP f (IntKind.i64.wrap ((IntKind.i64.wrap ((an : Int) + (IntKind.i64.wrap c).tmod (IntKind.i64.wrap ((bn : Int) - (an : Int))))) + 1)) (bn : Int)).length ≤ 1000000)) = true := by simp; omega
          have t4 : ∀ u v : Nat, u ≠ v → decide ((59 : TypeId) = 59 ∧ (59 : TypeId) = 59 ∧ 0 + (rangeP f (IntKind.i64.wrap ((IntKind.i64.wrap ((an : Int) + (IntKind.i64.wrap c).tmod (IntKind.i64.wrap ((bn : Int) - (an : Int))))) + 1)) (bn : Int)).length = 0 + (rangeP f (IntKind.i64.wrap ((IntKind.i64.wrap ((an : Int) + (IntKind.i64.wrap c).tmod (IntKind.i64.wrap ((bn : Int) - (an : Int))))) + 1)) (bn : Int)).length ∧ (rangeP f (IntKind.i64.wrap (a.tmod 64)) (IntKind.i64.wrap (b.tmod 64))).length = (rangeP f (IntKind.i64.wrap (a.tmod 64)) (IntKind.i64.wrap (b.tmod 64))).length ∧ 0 + (rangeP f (IntKind.i64.wrap ((IntKind.i64.wrap ((an : Int) + (IntKind.i64.wrap c).tmod (IntKind.i64.wrap ((bn : Int) - (an : Int))))) + 1)) (bn : Int)).length = (rangeP f (IntKind.i64.wrap (a.tmod 64)) (IntKind.i64.wrap (b.tmod 64))).length ∧ 0 + (rangeP f (IntKind.i64.wrap ((IntKind.i64.wrap ((an : Int) + (IntKind.i64.wrap c).tmod (IntKind.i64.wrap ((bn : Int) - (an : Int))))) + 1)) (bn : Int)).length ≤ 1000000 ∧ u ≠ v) = true := fun u v hab => decide_eq_true ⟨rfl, rfl, rfl, rfl, by omega, by omega, hab⟩
          have e1 : eqRows (0 + (rangeP f (IntKind.i64.wrap ((IntKind.i64.wrap ((an : Int) + (IntKind.i64.wrap c).tmod (IntKind.i64.wrap ((bn : Int) - (an : Int))))) + 1)) (bn : Int)).length) (fun q => pairF (rangeP f (IntKind.i64.wrap ((IntKind.i64.wrap ((an : Int) + (IntKind.i64.wrap c).tmod (IntKind.i64.wrap ((bn : Int) - (an : Int))))) + 1)) (bn : Int)) (0 + q)) (0 + (rangeP f (IntKind.i64.wrap ((IntKind.i64.wrap ((an : Int) + (IntKind.i64.wrap c).tmod (IntKind.i64.wrap ((bn : Int) - (an : Int))))) + 1)) (bn : Int)).length) (pairF (rangeP f (IntKind.i64.wrap (a.tmod 64)) (IntKind.i64.wrap (b.tmod 64)))) = true := eqRows_of rfl fun q => by rw [hLYZ, yn, Nat.zero_add]; rfl
          clear hLYZ yn hsp
          repeat ((conv => whnf); first | (refine brT ?_ ?_; · (first | exact w1 | exact x1 | exact opY | exact opZ | exact tY | exact tZ | exact a1 | exact t4 _ _ (by simp) | (simp; done))) | (refine brF ?_ ?_; · (first | exact w1 | exact x1 | exact opY | exact opZ | exact tY | exact tZ | exact a1 | exact t4 _ _ (by simp) | (simp; done))) | (rw [gz]))

          conv => whnf
          exact congrArg Value.bool e1
      | false =>
        have yl : 0 < (rangeP f (an : Int) (IntKind.i64.wrap ((an : Int) + (IntKind.i64.wrap c).tmod (IntKind.i64.wrap ((bn : Int) - (an : Int)))))).length := by
          rw [List.length_pos_iff]
          intro e
          rw [e] at tY
          cases tY
        have a1 : (true && decide (0 < (rangeP f (an : Int) (IntKind.i64.wrap ((an : Int) + (IntKind.i64.wrap c).tmod (IntKind.i64.wrap ((bn : Int) - (an : Int)))))).length ∧ 0 + (rangeP f (an : Int) (IntKind.i64.wrap ((an : Int) + (IntKind.i64.wrap c).tmod (IntKind.i64.wrap ((bn : Int) - (an : Int)))))).length * 2 ≤ (rangeP f (an : Int) (IntKind.i64.wrap ((an : Int) + (IntKind.i64.wrap c).tmod (IntKind.i64.wrap ((bn : Int) - (an : Int)))))).length * 2 ∧ 0 + (rangeP f (an : Int) (IntKind.i64.wrap ((an : Int) + (IntKind.i64.wrap c).tmod (IntKind.i64.wrap ((bn : Int) - (an : Int)))))).length ≤ 1000000)) = true := by simp; omega
        cases tZ : (rangeP f (IntKind.i64.wrap ((IntKind.i64.wrap ((an : Int) + (IntKind.i64.wrap c).tmod (IntKind.i64.wrap ((bn : Int) - (an : Int))))) + 1)) (bn : Int)).isEmpty with
        | true =>
          have zn := List.isEmpty_iff.1 tZ
          have zl : (rangeP f (IntKind.i64.wrap ((IntKind.i64.wrap ((an : Int) + (IntKind.i64.wrap c).tmod (IntKind.i64.wrap ((bn : Int) - (an : Int))))) + 1)) (bn : Int)).length = 0 := by rw [zn]; rfl
          have a2 : decide ((59 : TypeId) = 59 ∧ 2 = 2 ∧ 0 + (rangeP f (an : Int) (IntKind.i64.wrap ((an : Int) + (IntKind.i64.wrap c).tmod (IntKind.i64.wrap ((bn : Int) - (an : Int)))))).length = 0 + (rangeP f (an : Int) (IntKind.i64.wrap ((an : Int) + (IntKind.i64.wrap c).tmod (IntKind.i64.wrap ((bn : Int) - (an : Int)))))).length) = true := by simp
          have t4 : ∀ u v : Nat, u ≠ v → decide ((59 : TypeId) = 59 ∧ (59 : TypeId) = 59 ∧ 0 + (rangeP f (an : Int) (IntKind.i64.wrap ((an : Int) + (IntKind.i64.wrap c).tmod (IntKind.i64.wrap ((bn : Int) - (an : Int)))))).length = 0 + (rangeP f (an : Int) (IntKind.i64.wrap ((an : Int) + (IntKind.i64.wrap c).tmod (IntKind.i64.wrap ((bn : Int) - (an : Int)))))).length ∧ (rangeP f (IntKind.i64.wrap (a.tmod 64)) (IntKind.i64.wrap (b.tmod 64))).length = (rangeP f (IntKind.i64.wrap (a.tmod 64)) (IntKind.i64.wrap (b.tmod 64))).length ∧ 0 + (rangeP f (an : Int) (IntKind.i64.wrap ((an : Int) + (IntKind.i64.wrap c).tmod (IntKind.i64.wrap ((bn : Int) - (an : Int)))))).length = (rangeP f (IntKind.i64.wrap (a.tmod 64)) (IntKind.i64.wrap (b.tmod 64))).length ∧ 0 + (rangeP f (an : Int) (IntKind.i64.wrap ((an : Int) + (IntKind.i64.wrap c).tmod (IntKind.i64.wrap ((bn : Int) - (an : Int)))))).length ≤ 1000000 ∧ u ≠ v) = true := fun u v hab => decide_eq_true ⟨rfl, rfl, rfl, rfl, by omega, by omega, hab⟩
          have e1 : eqRows (0 + (rangeP f (an : Int) (IntKind.i64.wrap ((an : Int) + (IntKind.i64.wrap c).tmod (IntKind.i64.wrap ((bn : Int) - (an : Int)))))).length) (fun q => pairF (rangeP f (an : Int) (IntKind.i64.wrap ((an : Int) + (IntKind.i64.wrap c).tmod (IntKind.i64.wrap ((bn : Int) - (an : Int)))))) (0 + q)) (0 + (rangeP f (an : Int) (IntKind.i64.wrap ((an : Int) + (IntKind.i64.wrap c).tmod (IntKind.i64.wrap ((bn : Int) - (an : Int)))))).length) (pairF (rangeP f (IntKind.i64.wrap (a.tmod 64)) (IntKind.i64.wrap (b.tmod 64)))) = true := eqRows_of rfl fun q => by rw [hLYZ, zn, Nat.zero_add, List.append_nil]
          clear hLYZ zn hsp
          repeat ((conv => whnf); first | (refine brT ?_ ?_; · (first | exact w1 | exact x1 | exact opY | exact opZ | exact tY | exact tZ | exact a1 | exact a2 | exact t4 _ _ (by simp) | (simp; done))) | (refine brF ?_ ?_; · (first | exact w1 | exact x1 | exact opY | exact opZ | exact tY | exact tZ | exact a1 | exact a2 | exact t4 _ _ (by simp) | (simp; done))) | (rw [gz]))

          conv => whnf
          exact congrArg Value.bool e1
        | false =>
          have zl : 0 < (rangeP f (IntKind.i64.wrap ((IntKind.i64.wrap ((an : Int) + (IntKind.i64.wrap c).tmod (IntKind.i64.wrap ((bn : Int) - (an : Int))))) + 1)) (bn : Int)).length := by
            rw [List.length_pos_iff]
            intro e
            rw [e] at tZ
            cases tZ
          have a2 : (decide ((59 : TypeId) = 59 ∧ 2 = 2 ∧ 0 + (rangeP f (an : Int) (IntKind.i64.wrap ((an : Int) + (IntKind.i64.wrap c).tmod (IntKind.i64.wrap ((bn : Int) - (an : Int)))))).length = 0 + (rangeP f (an : Int) (IntKind.i64.wrap ((an : Int) + (IntKind.i64.wrap c).tmod (IntKind.i64.wrap ((bn : Int) - (an : Int)))))).length) && decide (0 < (rangeP f (IntKind.i64.wrap ((IntKind.i64.wrap ((an : Int) + (IntKind.i64.wrap c).tmod (IntKind.i64.wrap ((bn : Int) - (an : Int))))) + 1)) (bn : Int)).length ∧ 0 + (rangeP f (IntKind.i64.wrap ((IntKind.i64.wrap ((an : Int) + (IntKind.i64.wrap c).tmod (IntKind.i64.wrap ((bn : Int) - (an : Int))))) + 1)) (bn : Int)).length * 2 ≤ (rangeP f (IntKind.i64.wrap ((IntKind.i64.wrap ((an : Int) + (IntKind.i64.wrap c).tmod (IntKind.i64.wrap ((bn : Int) - (an : Int))))) + 1)) (bn : Int)).length * 2 ∧ (0 + (rangeP f (an : Int) (IntKind.i64.wrap ((an : Int) + (IntKind.i64.wrap c).tmod (IntKind.i64.wrap ((bn : Int) - (an : Int)))))).length) + (rangeP f (IntKind.i64.wrap ((IntKind.i64.wrap ((an : Int) + (IntKind.i64.wrap c).tmod (IntKind.i64.wrap ((bn : Int) - (an : Int))))) + 1)) (bn : Int)).length ≤ 1000000)) = true := by simp; omega
          have t4 : ∀ u v : Nat, u ≠ v → decide ((59 : TypeId) = 59 ∧ (59 : TypeId) = 59 ∧ 0 + (rangeP f (an : Int) (IntKind.i64.wrap ((an : Int) + (IntKind.i64.wrap c).tmod (IntKind.i64.wrap ((bn : Int) - (an : Int)))))).length + (rangeP f (IntKind.i64.wrap ((IntKind.i64.wrap ((an : Int) + (IntKind.i64.wrap c).tmod (IntKind.i64.wrap ((bn : Int) - (an : Int))))) + 1)) (bn : Int)).length = 0 + (rangeP f (an : Int) (IntKind.i64.wrap ((an : Int) + (IntKind.i64.wrap c).tmod (IntKind.i64.wrap ((bn : Int) - (an : Int)))))).length + (rangeP f (IntKind.i64.wrap ((IntKind.i64.wrap ((an : Int) + (IntKind.i64.wrap c).tmod (IntKind.i64.wrap ((bn : Int) - (an : Int))))) + 1)) (bn : Int)).length ∧ (rangeP f (IntKind.i64.wrap (a.tmod 64)) (IntKind.i64.wrap (b.tmod 64))).length = (rangeP f (IntKind.i64.wrap (a.tmod 64)) (IntKind.i64.wrap (b.tmod 64))).length ∧ 0 + (rangeP f (an : Int) (IntKind.i64.wrap ((an : Int) + (IntKind.i64.wrap c).tmod (IntKind.i64.wrap ((bn : Int) - (an : Int)))))).length + (rangeP f (IntKind.i64.wrap ((IntKind.i64.wrap ((an : Int) + (IntKind.i64.wrap c).tmod (IntKind.i64.wrap ((bn : Int) - (an : Int))))) + 1)) (bn : Int)).length = (rangeP f (IntKind.i64.wrap (a.tmod 64)) (IntKind.i64.wrap (b.tmod 64))).length ∧ 0 + (rangeP f (an : Int) (IntKind.i64.wrap ((an : Int) + (IntKind.i64.wrap c).tmod (IntKind.i64.wrap ((bn : Int) - (an : Int)))))).length + (rangeP f (IntKind.i64.wrap ((IntKind.i64.wrap ((an : Int) + (IntKind.i64.wrap c).tmod (IntKind.i64.wrap ((bn : Int) - (an : Int))))) + 1)) (bn : Int)).length ≤ 1000000 ∧ u ≠ v) = true := fun u v hab => decide_eq_true ⟨rfl, rfl, rfl, rfl, by omega, by omega, hab⟩
          have e1 : eqRows (0 + (rangeP f (an : Int) (IntKind.i64.wrap ((an : Int) + (IntKind.i64.wrap c).tmod (IntKind.i64.wrap ((bn : Int) - (an : Int)))))).length + (rangeP f (IntKind.i64.wrap ((IntKind.i64.wrap ((an : Int) + (IntKind.i64.wrap c).tmod (IntKind.i64.wrap ((bn : Int) - (an : Int))))) + 1)) (bn : Int)).length) (fun j => if j < (0 + (rangeP f (an : Int) (IntKind.i64.wrap ((an : Int) + (IntKind.i64.wrap c).tmod (IntKind.i64.wrap ((bn : Int) - (an : Int)))))).length) * 2 then pairF (rangeP f (an : Int) (IntKind.i64.wrap ((an : Int) + (IntKind.i64.wrap c).tmod (IntKind.i64.wrap ((bn : Int) - (an : Int)))))) (0 + j) else pairF (rangeP f (IntKind.i64.wrap ((IntKind.i64.wrap ((an : Int) + (IntKind.i64.wrap c).tmod (IntKind.i64.wrap ((bn : Int) - (an : Int))))) + 1)) (bn : Int)) (0 + (j - (0 + (rangeP f (an : Int) (IntKind.i64.wrap ((an : Int) + (IntKind.i64.wrap c).tmod (IntKind.i64.wrap ((bn : Int) - (an : Int)))))).length) * 2))) (0 + (rangeP f (an : Int) (IntKind.i64.wrap ((an : Int) + (IntKind.i64.wrap c).tmod (IntKind.i64.wrap ((bn : Int) - (an : Int)))))).length + (rangeP f (IntKind.i64.wrap ((IntKind.i64.wrap ((an : Int) + (IntKind.i64.wrap c).tmod (IntKind.i64.wrap ((bn : Int) - (an : Int))))) + 1)) (bn : Int)).length) (pairF (rangeP f (IntKind.i64.wrap (a.tmod 64)) (IntKind.i64.wrap (b.tmod 64)))) = true := eqRows_of rfl fun q => by rw [hLYZ, pairF_cat]; simp only [Nat.zero_add]
          clear hLYZ hsp
          repeat ((conv => whnf); first | (refine brT ?_ ?_; · (first | exact w1 | exact x1 | exact opY | exact opZ | exact tY | exact tZ | exact a1 | exact a2 | exact t4 _ _ (by simp) | (simp; done))) | (refine brF ?_ ?_; · (first | exact w1 | exact x1 | exact opY | exact opZ | exact tY | exact tZ | exact a1 | exact a2 | exact t4 _ _ (by simp) | (simp; done))) | (rw [gz]))

          conv => whnf
          exact congrArg Value.bool e1
set_option maxRecDepth 100000 in
set_option maxHeartbeats 8000000 in
theorem modelScans_e (lo n : Nat) (z : Nat → Int) (a b c : Int) (ha0 : 0 ≤ a) (hb0 : 0 ≤ b) (hc0 : 0 ≤ c) (hc1 : c ≤ 255) : FWP Try.prog (means W) 6 [.slice (some ⟨0, 0, some 0⟩) 0 1, .int .u8 a, .int .u8 b, .int .u8 c] [oldR lo n z] fun a _ => a = .bool true := by
  obtain ⟨an, han⟩ := Int.eq_ofNat_of_zero_le (Int.emod_nonneg a (show (64 : Int) ≠ 0 by decide))
  have ha64 : an < 64 := by omega
  obtain ⟨bn, hbn⟩ := Int.eq_ofNat_of_zero_le (Int.emod_nonneg b (show (64 : Int) ≠ 0 by decide))
  have hb64 : bn < 64 := by omega
  have ea : (IntKind.i64.wrap (a.tmod 64)) = (an : Int) := by rw [tmodI ha0, wrapI (by omega) (by omega)]; exact han
  have eb : (IntKind.i64.wrap (b.tmod 64)) = (bn : Int) := by rw [tmodI hb0, wrapI (by omega) (by omega)]; exact hbn
  have hopS : isOpB 4 (IntKind.i64.wrap (a.tmod 64)) 0 (IntKind.i64.wrap (b.tmod 64)) = true := by rw [ea, eb]; exact isOp_scan (by omega) (by omega)
  refine FWP.body envP5_ok 40 Try.func6 rfl (by exact Nat.le_of_ble_eq_true rfl) ?_
  repeat ((conv => whnf); first | (refine brT ?_ ?_; · (first | (simp; done))) | (refine brF ?_ ?_; · (first | (simp; done))))

  conv => whnf
  refine SWP.cutS Try.f6.ntmps [1, 2, 3, 9] (MSc.Q (oldR lo n z) a b c) (msc_l0 lo n 0 (.slice (some ⟨0, 0, some 0⟩) 0 1) (.inr (.inl ⟨rfl, rfl⟩)) z a b c (by omega) [3] rfl rfl rfl rfl rfl) ?_
  rintro e vs H ⟨f, g, rfl, rfl, rfl⟩
  have eL : (rangeP f (IntKind.i64.wrap (a.tmod 64)) (IntKind.i64.wrap (b.tmod 64))) = rangeP f an bn := by rw [ea, eb]
  cases hE : (rangeP f (IntKind.i64.wrap (a.tmod 64)) (IntKind.i64.wrap (b.tmod 64))) with
  | nil =>
    have t1 : (rangeP f (IntKind.i64.wrap (a.tmod 64)) (IntKind.i64.wrap (b.tmod 64))).isEmpty = true := by rw [hE]; rfl
    repeat ((conv => whnf); first | (refine brT ?_ ?_; · (first | exact hopS | exact t1 | (simp; done))) | (refine brF ?_ ?_; · (first | exact hopS | exact t1 | (simp; done))))

    conv => whnf
    refine SWP.cutS Try.f6.ntmps [3, 9, 11, 12, 13, 14] (MSc.E [oldR lo n z, md f g] (.slice none 0 0) c f an bn) (msc_l11 lo n z c f g an bn ha64 hb64 (eL.symm.trans hE) (IntKind.i64.wrap (a.tmod 64)) (IntKind.i64.wrap (b.tmod 64)) ea eb [1] rfl rfl rfl rfl rfl) ?_
    rintro e vs H ⟨q, rfl, hq, rfl, rfl⟩
    have w1 : (!decide ((q : Int) = 0)) = false := by
      rw [hq, ← eL, hE]; rfl
    have w2 : decide ((q : Int) = 0) = true := by
      rw [hq, ← eL, hE]; rfl
    by_cases hab : bn ≤ an
    · have x1 : decide ((an : Int) ≥ (bn : Int)) = true := decide_eq_true (by omega)
      repeat ((conv => whnf); first | (refine brT ?_ ?_; · (first | exact w1 | exact x1 | (simp; done))) | (refine brF ?_ ?_; · (first | exact w1 | exact x1 | (simp; done))))

      conv => whnf
      exact congrArg Value.bool w2
    · have x1 : decide ((an : Int) ≥ (bn : Int)) = false := decide_eq_false (by omega)
      have ed : IntKind.i64.wrap ((bn : Int) - (an : Int)) = ((bn - an : Nat) : Int) := by rw [wrapI (by omega) (by omega)]; omega
      have gz : (!decide (IntKind.i64.wrap ((bn : Int) - (an : Int)) = 0)) = true := by
        rw [decide_eq_false (by rw [ed]; omega)]; rfl
      obtain ⟨r, hr⟩ := Int.eq_ofNat_of_zero_le (Int.emod_nonneg c (show ((bn - an : Nat) : Int) ≠ 0 by omega))
      have hr2 : r < bn - an := by
        have := Int.emod_lt_of_pos c (show (0 : Int) < ((bn - an : Nat) : Int) by omega)
        omega
      have er : (IntKind.i64.wrap c).tmod (IntKind.i64.wrap ((bn : Int) - (an : Int))) = (r : Int) := by
        rw [ed, show IntKind.i64.wrap c = c from wrapI (by omega) (by omega), Int.tmod_eq_emod_of_nonneg hc0, hr]
      have ec : (IntKind.i64.wrap ((an : Int) + (IntKind.i64.wrap c).tmod (IntKind.i64.wrap ((bn : Int) - (an : Int))))) = ((an + r : Nat) : Int) := by rw [er, wrapI (by omega) (by omega)]; omega
      have ec1 : (IntKind.i64.wrap ((IntKind.i64.wrap ((an : Int) + (IntKind.i64.wrap c).tmod (IntKind.i64.wrap ((bn : Int) - (an : Int))))) + 1)) = ((an + r : Nat) : Int) + 1 := by rw [ec, wrapI (by omega) (by omega)]
      have opY : isOpB 4 (an : Int) 0 (IntKind.i64.wrap ((an : Int) + (IntKind.i64.wrap c).tmod (IntKind.i64.wrap ((bn : Int) - (an : Int))))) = true := by rw [ec]; exact isOp_scan (by omega) (by omega)
      have opZ : isOpB 4 (IntKind.i64.wrap ((IntKind.i64.wrap ((an : Int) + (IntKind.i64.wrap c).tmod (IntKind.i64.wrap ((bn : Int) - (an : Int))))) + 1)) 0 (bn : Int) = true := by rw [ec1]; exact isOp_scan (by omega) (by omega)
      have hsp : rangeP f (an : Int) (bn : Int) = (rangeP f (an : Int) (IntKind.i64.wrap ((an : Int) + (IntKind.i64.wrap c).tmod (IntKind.i64.wrap ((bn : Int) - (an : Int)))))) ++ (rangeP f (IntKind.i64.wrap ((IntKind.i64.wrap ((an : Int) + (IntKind.i64.wrap c).tmod (IntKind.i64.wrap ((bn : Int) - (an : Int))))) + 1)) (bn : Int)) := by
        rw [ec1, ec]; exact rangeP_split f (by omega) (by omega)
      clear er ec ec1
      have h0 : (rangeP f (an : Int) (IntKind.i64.wrap ((an : Int) + (IntKind.i64.wrap c).tmod (IntKind.i64.wrap ((bn : Int) - (an : Int)))))) ++ (rangeP f (IntKind.i64.wrap ((IntKind.i64.wrap ((an : Int) + (IntKind.i64.wrap c).tmod (IntKind.i64.wrap ((bn : Int) - (an : Int))))) + 1)) (bn : Int)) = [] := hsp.symm.trans (eL.symm.trans hE)
      have tY : (rangeP f (an : Int) (IntKind.i64.wrap ((an : Int) + (IntKind.i64.wrap c).tmod (IntKind.i64.wrap ((bn : Int) - (an : Int)))))).isEmpty = true := by rw [(List.append_eq_nil_iff.1 h0).1]; rfl
      have tZ : (rangeP f (IntKind.i64.wrap ((IntKind.i64.wrap ((an : Int) + (IntKind.i64.wrap c).tmod (IntKind.i64.wrap ((bn : Int) - (an : Int))))) + 1)) (bn : Int)).isEmpty = true := by rw [(List.append_eq_nil_iff.1 h0).2]; rfl
      clear h0 hsp
      repeat ((conv => whnf); first | (refine brT ?_ ?_; · (first | exact w1 | exact x1 | exact opY | exact opZ | exact tY | exact tZ | (simp; done))) | (refine brF ?_ ?_; · (first | exact w1 | exact x1 | exact opY | exact opZ | exact tY | exact tZ | (simp; done))) | (rw [gz]))

      conv => whnf
      rfl
  | cons x s =>
    have t1 : (rangeP f (IntKind.i64.wrap (a.tmod 64)) (IntKind.i64.wrap (b.tmod 64))).isEmpty = false := by rw [hE]; rfl
    clear hE
    repeat ((conv => whnf); first | (refine brT ?_ ?_; · (first | exact hopS | exact t1 | (simp; done))) | (refine brF ?_ ?_; · (first | exact hopS | exact t1 | (simp; done))))

    conv => whnf
    refine SWP.cutS Try.f6.ntmps [3, 9, 11, 12, 13, 14] (MSc.E [oldR lo n z, md f g, prow (rangeP f (IntKind.i64.wrap (a.tmod 64)) (IntKind.i64.wrap (b.tmod 64))).length (pairF (rangeP f (IntKind.i64.wrap (a.tmod 64)) (IntKind.i64.wrap (b.tmod 64))))] (slOf 2 (rangeP f (IntKind.i64.wrap (a.tmod 64)) (IntKind.i64.wrap (b.tmod 64))).length) c f an bn) (msc_l12 lo n z c f g an bn ha64 hb64 (rangeP f (IntKind.i64.wrap (a.tmod 64)) (IntKind.i64.wrap (b.tmod 64))).length (pairF (rangeP f (IntKind.i64.wrap (a.tmod 64)) (IntKind.i64.wrap (b.tmod 64)))) (by rw [eL]) (by rw [eL]) (IntKind.i64.wrap (a.tmod 64)) (IntKind.i64.wrap (b.tmod 64)) ea eb [1, 6] rfl rfl rfl rfl rfl) ?_
    rintro e vs H ⟨q, rfl, hq, rfl, rfl⟩
    have w1 : (!decide ((q : Int) = ((rangeP f (IntKind.i64.wrap (a.tmod 64)) (IntKind.i64.wrap (b.tmod 64))).length : Int))) = false := by
      rw [hq, eL]; simp
    have w2 : decide ((q : Int) = ((rangeP f (IntKind.i64.wrap (a.tmod 64)) (IntKind.i64.wrap (b.tmod 64))).length : Int)) = true := by
      rw [hq, eL]; simp
    by_cases hab : bn ≤ an
    · have x1 : decide ((an : Int) ≥ (bn : Int)) = true := decide_eq_true (by omega)
      repeat ((conv => whnf); first | (refine brT ?_ ?_; · (first | exact w1 | exact x1 | (simp; done))) | (refine brF ?_ ?_; · (first | exact w1 | exact x1 | (simp; done))))

      conv => whnf
      exact congrArg Value.bool w2
    · have x1 : decide ((an : Int) ≥ (bn : Int)) = false := decide_eq_false (by omega)
      have ed : IntKind.i64.wrap ((bn : Int) - (an : Int)) = ((bn - an : Nat) : Int) := by rw [wrapI (by omega) (by omega)]; omega
      have gz : (!decide (IntKind.i64.wrap ((bn : Int) - (an : Int)) = 0)) = true := by
        rw [decide_eq_false (by rw [ed]; omega)]; rfl
      obtain ⟨r, hr⟩ := Int.eq_ofNat_of_zero_le (Int.emod_nonneg c (show ((bn - an : Nat) : Int) ≠ 0 by omega))
      have hr2 : r < bn - an := by
        have := Int.emod_lt_of_pos c (show (0 : Int) < ((bn - an : Nat) : Int) by omega)
        omega
      have er : (IntKind.i64.wrap c).tmod (IntKind.i64.wrap ((bn : Int) - (an : Int))) = (r : Int) := by
        rw [ed, show IntKind.i64.wrap c = c from wrapI (by omega) (by omega), Int.tmod_eq_emod_of_nonneg hc0, hr]
      have ec : (IntKind.i64.wrap ((an : Int) + (IntKind.i64.wrap c).tmod (IntKind.i64.wrap ((bn : Int) - (an : Int))))) = ((an + r : Nat) : Int) := by rw [er, wrapI (by omega) (by omega)]; omega
      have ec1 : (IntKind.i64.wrap ((IntKind.i64.wrap ((an : Int) + (IntKind.i64.wrap c).tmod (IntKind.i64.wrap ((bn : Int) - (an : Int))))) + 1)) = ((an + r : Nat) : Int) + 1 := by rw [ec, wrapI (by omega) (by omega)]
      have opY : isOpB 4 (an : Int) 0 (IntKind.i64.wrap ((an : Int) + (IntKind.i64.wrap c).tmod (IntKind.i64.wrap ((bn : Int) - (an : Int))))) = true := by rw [ec]; exact isOp_scan (by omega) (by omega)
      have opZ : isOpB 4 (IntKind.i64.wrap ((IntKind.i64.wrap ((an : Int) + (IntKind.i64.wrap c).tmod (IntKind.i64.wrap ((bn : Int) - (an : Int))))) + 1)) 0 (bn : Int) = true := by rw [ec1]; exact isOp_scan (by omega) (by omega)
      have hsp : rangeP f (an : Int) (bn : Int) = (rangeP f (an : Int) (IntKind.i64.wrap ((an : Int) + (IntKind.i64.wrap c).tmod (IntKind.i64.wrap ((bn : Int) - (an : Int)))))) ++ (rangeP f (IntKind.i64.wrap ((IntKind.i64.wrap ((an : Int) + (IntKind.i64.wrap c).tmod (IntKind.i64.wrap ((bn : Int) - (an : Int))))) + 1)) (bn : Int)) := by
        rw [ec1, ec]; exact rangeP_split f (by omega) (by omega)
      clear er ec ec1
      have hLYZ : (rangeP f (IntKind.i64.wrap (a.tmod 64)) (IntKind.i64.wrap (b.tmod 64))) = (rangeP f (an : Int) (IntKind.i64.wrap ((an : Int) + (IntKind.i64.wrap c).tmod (IntKind.i64.wrap ((bn : Int) - (an : Int)))))) ++ (rangeP f (IntKind.i64.wrap ((IntKind.i64.wrap ((an : Int) + (IntKind.i64.wrap c).tmod (IntKind.i64.wrap ((bn : Int) - (an : Int))))) + 1)) (bn : Int)) := eL.trans hsp
      have hlen : (rangeP f (IntKind.i64.wrap (a.tmod 64)) (IntKind.i64.wrap (b.tmod 64))).length = (rangeP f (an : Int) (IntKind.i64.wrap ((an : Int) + (IntKind.i64.wrap c).tmod (IntKind.i64.wrap ((bn : Int) - (an : Int)))))).length + (rangeP f (IntKind.i64.wrap ((IntKind.i64.wrap ((an : Int) + (IntKind.i64.wrap c).tmod (IntKind.i64.wrap ((bn : Int) - (an : Int))))) + 1)) (bn : Int)).length := by rw [hLYZ, List.length_append]
      have hl64 : (rangeP f (IntKind.i64.wrap (a.tmod 64)) (IntKind.i64.wrap (b.tmod 64))).length ≤ 64 := by rw [eL]; exact range_len f _ _
      cases tY : (rangeP f (an : Int) (IntKind.i64.wrap ((an : Int) + (IntKind.i64.wrap c).tmod (IntKind.i64.wrap ((bn : Int) - (an : Int)))))).isEmpty with
      | true =>
        have yn := List.isEmpty_iff.1 tY
        have yl : (rangeP f (an : Int) (IntKind.i64.wrap ((an : Int) + (IntKind.i64.wrap c).tmod (IntKind.i64.wrap ((bn : Int) - (an : Int)))))).length = 0 := by rw [yn]; rfl
        cases tZ : (rangeP f (IntKind.i64.wrap ((IntKind.i64.wrap ((an : Int) + (IntKind.i64.wrap c).tmod (IntKind.i64.wrap ((bn : Int) - (an : Int))))) + 1)) (bn : Int)).isEmpty with
        | true =>
          rw [eL, hsp, List.isEmpty_iff.1 tY, List.isEmpty_iff.1 tZ] at t1
          cases t1
        | false =>
          have zl : 0 < (rangeP f (IntKind.i64.wrap ((IntKind.i64.wrap ((an : Int) + (IntKind.i64.wrap c).tmod (IntKind.i64.wrap ((bn : Int) - (an : Int))))) + 1)) (bn : Int)).length := by
            rw [List.length_pos_iff]
            intro e
            rw [e] at tZ
            cases tZ
          have a1 : (true && decide (0 < (rangeP f (IntKind.i64.wrap ((IntKind.i64.wrap ((an : Int) + (IntKind.i64.wrap c).tmod (IntKind.i64.wrap ((bn : Int) - (an : Int))))) + 1)) (bn : Int)).length ∧ 0 + (rangeP f (IntKind.i64.wrap ((IntKind.i64.wrap ((an : Int) + (IntKind.i64.wrap c).tmod (IntKind.i64.wrap ((bn : Int) - (an : Int))))) + 1)) (bn : Int)).length * 2 ≤ (rangeP f (IntKind.i64.wrap ((IntKind.i64.wrap ((an : Int) + (IntKind.i64.wrap c).tmod (IntKind.i64.wrap ((bn : Int) - (an : Int))))) + 1)) (bn : Int)).length * 2 ∧ 0 + (rangeP f (IntKind.i64.wrap ((IntKind.i64.wrap ((an : Int) + (IntKind.i64.wrap c).tmod (IntKind.i64.wrap ((bn : Int) - (an : Int))))) + 1)) (bn : Int)).length ≤ 1000000)) = true := by simp; omega
          have t4 : ∀ u v : Nat, u ≠ v → decide ((59 : TypeId) = 59 ∧ (59 : TypeId) = 59 ∧ 0 + (rangeP f (IntKind.i64.wrap ((IntKind.i64.wrap ((an : Int) + (IntKind.i64.wrap c).tmod (IntKind.i64.wrap ((bn : Int) - (an : Int))))) + 1)) (bn : Int)).length = 0 + (rangeP f (IntKind.i64.wrap ((IntKind.i64.wrap ((an : Int) + (IntKind.i64.wrap c).tmod (IntKind.i64.wrap ((bn : Int) - (an : Int))))) + 1)) (bn : Int)).length ∧ (rangeP f (IntKind.i64.wrap (a.tmod 64)) (IntKind.i64.wrap (b.tmod 64))).length = (rangeP f (IntKind.i64.wrap (a.tmod 64)) (IntKind.i64.wrap (b.tmod 64))).length ∧ 0 + (rangeP f (IntKind.i64.wrap ((IntKind.i64.wrap ((an : Int) + (IntKind.i64.wrap c).tmod (IntKind.i64.wrap ((bn : Int) - (an : Int))))) + 1)) (bn : Int)).length = (rangeP f (IntKind.i64.wrap (a.tmod 64)) (IntKind.i64.wrap (b.tmod 64))).length ∧ 0 + (rangeP f (IntKind.i64.wrap ((IntKind.i64.wrap ((an : Int) + (IntKind.i64.wrap c).tmod (IntKind.i64.wrap ((bn : Int) - (an : Int))))) + 1)) (bn : Int)).length ≤ 1000000 ∧ u ≠ v) = true := fun u v hab => decide_eq_true ⟨rfl, rfl, rfl, rfl, by omega, by omega, hab⟩
          have e1 : eqRows (0 + (rangeP f (IntKind.i64.wrap ((IntKind.i64.wrap ((an : Int) + (IntKind.i64.wrap c).tmod (IntKind.i64.wrap ((bn : Int) - (an : Int))))) + 1)) (bn : Int)).length) (fun q => pairF (rangeP f (IntKind.i64.wrap ((IntKind.i64.wrap ((an : Int) + (IntKind.i64.wrap c).tmod (IntKind.i64.wrap ((bn : Int) - (an : Int))))) + 1)) (bn : Int)) (0 + q)) (0 + (rangeP f (IntKind.i64.wrap ((IntKind.i64.wrap ((an : Int) + (IntKind.i64.wrap c).tmod (IntKind.i64.wrap ((bn : Int) - (an : Int))))) + 1)) (bn : Int)).length) (pairF (rangeP f (IntKind.i64.wrap (a.tmod 64)) (IntKind.i64.wrap (b.tmod 64)))) = true := eqRows_of rfl fun q => by rw [hLYZ, yn, Nat.zero_add]; rfl
          clear hLYZ yn hsp
          repeat ((conv => whnf); first | (refine brT ?_ ?_; · (first | exact w1 | exact x1 | exact opY | exact opZ | exact tY | exact tZ | exact a1 | exact t4 _ _ (by simp) | (simp; done))) | (refine brF ?_ ?_; · (first | exact w1 | exact x1 | exact opY | exact opZ | exact tY | exact tZ | exact a1 | exact t4 _ _ (by simp) | (simp; done))) | (rw [gz]))

          conv => whnf
          exact congrArg Value.bool e1
      | false =>
        have yl : 0 < (rangeP f (an : Int) (IntKind.i64.wrap ((an : Int) + (IntKind.i64.wrap c).tmod (IntKind.i64.wrap ((bn : Int) - (an : Int)))))).length := by
          rw [List.length_pos_iff]
          intro e
          rw [e] at tY
          cases tY
        have a1 : (true && decide (0 < (rangeP f (an : Int) (IntKind.i64.wrap ((an : Int) + (IntKind.i64.wrap c).tmod (IntKind.i64.wrap ((bn : Int) - (an : Int)))))).length ∧ 0 + (rangeP f (an : Int) (IntKind.i64.wrap ((an : Int) + (IntKind.i64.wrap c).tmod (IntKind.i64.wrap ((bn : Int) - (an : Int)))))).length * 2 ≤ (rangeP f (an : Int) (IntKind.i64.wrap ((an : Int) + (IntKind.i64.wrap c).tmod (IntKind.i64.wrap ((bn : Int) - (an : Int)))))).length * 2 ∧ 0 + (rangeP f (an : Int) (IntKind.i64.wrap ((an : Int) + (IntKind.i64.wrap c).tmod (IntKind.i64.wrap ((bn : Int) - (an : Int)))))).length ≤ 1000000)) = true := by simp; omega
        cases tZ : (rangeP f (IntKind.i64.wrap ((IntKind.i64.wrap ((an : Int) + (IntKind.i64.wrap c).tmod (IntKind.i64.wrap ((bn : Int) - (an : Int))))) + 1)) (bn : Int)).isEmpty with
        | true =>
          have zn := List.isEmpty_iff.1 tZ
          have zl : (rangeP f (IntKind.i64.wrap ((IntKind.i64.wrap ((an : Int) + (IntKind.i64.wrap c).tmod (IntKind.i64.wrap ((bn : Int) - (an : Int))))) + 1)) (bn : Int)).length = 0 := by rw [zn]; rfl
          have a2 : decide ((59 : TypeId) = 59 ∧ 2 = 2 ∧ 0 + (rangeP f (an : Int) (IntKind.i64.wrap ((an : Int) + (IntKind.i64.wrap c).tmod (IntKind.i64.wrap ((bn : Int) - (an : Int)))))).length = 0 + (rangeP f (an : Int) (IntKind.i64.wrap ((an : Int) + (IntKind.i64.wrap c).tmod (IntKind.i64.wrap ((bn : Int) - (an : Int)))))).length) = true := by simp
          have t4 : ∀ u v : Nat, u ≠ v → decide ((59 : TypeId) = 59 ∧ (59 : TypeId) = 59 ∧ 0 + (rangeP f (an : Int) (IntKind.i64.wrap ((an : Int) + (IntKind.i64.wrap c).tmod (IntKind.i64.wrap ((bn : Int) - (an : Int)))))).length = 0 + (rangeP f (an : Int) (IntKind.i64.wrap ((an : Int) + (IntKind.i64.wrap c).tmod (IntKind.i64.wrap ((bn : Int) - (an : Int)))))).length ∧ (rangeP f (IntKind.i64.wrap (a.tmod 64)) (IntKind.i64.wrap (b.tmod 64))).length = (rangeP f (IntKind.i64.wrap (a.tmod 64)) (IntKind.i64.wrap (b.tmod 64))).length ∧ 0 + (rangeP f (an : Int) (IntKind.i64.wrap ((an : Int) + (IntKind.i64.wrap c).tmod (IntKind.i64.wrap ((bn : Int) - (an : Int)))))).length = (rangeP f (IntKind.i64.wrap (a.tmod 64)) (IntKind.i64.wrap (b.tmod 64))).length ∧ 0 + (rangeP f (an : Int) (IntKind.i64.wrap ((an : Int) + (IntKind.i64.wrap c).tmod (IntKind.i64.wrap ((bn : Int) - (an : Int)))))).length ≤ 1000000 ∧ u ≠ v) = true := fun u v hab => decide_eq_true ⟨rfl, rfl, rfl, rfl, by omega, by omega, hab⟩
          have e1 : eqRows (0 + (rangeP f (an : Int) (IntKind.i64.wrap ((an : Int) + (IntKind.i64.wrap c).tmod (IntKind.i64.wrap ((bn : Int) - (an : Int)))))).length) (fun q => pairF (rangeP f (an : Int) (IntKind.i64.wrap ((an : Int) + (IntKind.i64.wrap c).tmod (IntKind.i64.wrap ((bn : Int) - (an : Int)))))) (0 + q)) (0 + (rangeP f (an : Int) (IntKind.i64.wrap ((an : Int) + (IntKind.i64.wrap c).tmod (IntKind.i64.wrap ((bn : Int) - (an : Int)))))).length) (pairF (rangeP f (IntKind.i64.wrap (a.tmod 64)) (IntKind.i64.wrap (b.tmod 64)))) = true := eqRows_of rfl fun q => by rw [hLYZ, zn, Nat.zero_add, List.append_nil]
          clear hLYZ zn hsp
          repeat ((conv => whnf); first | (refine brT ?_ ?_; · (first | exact w1 | exact x1 | exact opY | exact opZ | exact tY | exact tZ | exact a1 | exact a2 | exact t4 _ _ (by simp) | (simp; done))) | (refine brF ?_ ?_; · (first | exact w1 | exact x1 | exact opY | exact opZ | exact tY | exact tZ | exact a1 | exact a2 | exact t4 _ _ (by simp) | (simp; done))) | (rw [gz]))

          conv => whnf
          exact congrArg Value.bool e1
        | false =>
          have zl : 0 < (rangeP f (IntKind.i64.wrap ((IntKind.i64.wrap ((an : Int) + (IntKind.i64.wrap c).tmod (IntKind.i64.wrap ((bn : Int) - (an : Int))))) + 1)) (bn : Int)).length := by
            rw [List.length_pos_iff]
            intro e
            rw [e] at tZ
            cases tZ
          have a2 : (decide ((59 : TypeId) = 59 ∧ 2 = 2 ∧ 0 + (rangeP f (an : Int) (IntKind.i64.wrap ((an : Int) + (IntKind.i64.wrap c).tmod (IntKind.i64.wrap ((bn : Int) - (an : Int)))))).length = 0 + (rangeP f (an : Int) (IntKind.i64.wrap ((an : Int) + (IntKind.i64.wrap c).tmod (IntKind.i64.wrap ((bn : Int) - (an : Int)))))).length) && decide (0 < (rangeP f (IntKind.i64.wrap ((IntKind.i64.wrap ((an : Int) + (IntKind.i64.wrap c).tmod (IntKind.i64.wrap ((bn : Int) - (an : Int))))) + 1)) (bn : Int)).length ∧ 0 + (rangeP f (IntKind.i64.wrap ((IntKind.i64.wrap ((an : Int) + (IntKind.i64.wrap c).tmod (IntKind.i64.wrap ((bn : Int) - (an : Int))))) + 1)) (bn : Int)).length * 2 ≤ (rangeP f (IntKind.i64.wrap ((IntKind.i64.wrap ((an : Int) + (IntKind.i64.wrap c).tmod (IntKind.i64.wrap ((bn : Int) - (an : Int))))) + 1)) (bn : Int)).length * 2 ∧ (0 + (rangeP f (an : Int) (IntKind.i64.wrap ((an : Int) + (IntKind.i64.wrap c).tmod (IntKind.i64.wrap ((bn : Int) - (an : Int)))))).length) + (rangeP f (IntKind.i64.wrap ((IntKind.i64.wrap ((an : Int) + (IntKind.i64.wrap c).tmod (IntKind.i64.wrap ((bn : Int) - (an : Int))))) + 1)) (bn : Int)).length ≤ 1000000)) = true := by simp; omega
          have t4 : ∀ u v : Nat, u ≠ v → decide ((59 : TypeId) = 59 ∧ (59 : TypeId) = 59 ∧ 0 + (rangeP f (an : Int) (IntKind.i64.wrap ((an : Int) + (IntKind.i64.wrap c).tmod (IntKind.i64.wrap ((bn : Int) - (an : Int)))))).length + (rangeP f (IntKind.i64.wrap ((IntKind.i64.wrap ((an : Int) + (IntKind.i64.wrap c).tmod (IntKind.i64.wrap ((bn : Int) - (an : Int))))) + 1)) (bn : Int)).length = 0 + (rangeP f (an : Int) (IntKind.i64.wrap ((an : Int) + (IntKind.i64.wrap c).tmod (IntKind.i64.wrap ((bn : Int) - (an : Int)))))).length + (rangeP f (IntKind.i64.wrap ((IntKind.i64.wrap ((an : Int) + (IntKind.i64.wrap c).tmod (IntKind.i64.wrap ((bn : Int) - (an : Int))))) + 1)) (bn : Int)).length ∧ (rangeP f (IntKind.i64.wrap (a.tmod 64)) (IntKind.i64.wrap (b.tmod 64))).length = (rangeP f (IntKind.i64.wrap (a.tmod 64)) (IntKind.i64.wrap (b.tmod 64))).length ∧ 0 + (rangeP f (an : Int) (IntKind.i64.wrap ((an : Int) + (IntKind.i64.wrap c).tmod (IntKind.i64.wrap ((bn : Int) - (an : Int)))))).length + (rangeP f (IntKind.i64.wrap ((IntKind.i64.wrap ((an : Int) + (IntKind.i64.wrap c).tmod (IntKind.i64.wrap ((bn : Int) - (an : Int))))) + 1)) (bn : Int)).length = (rangeP f (IntKind.i64.wrap (a.tmod 64)) (IntKind.i64.wrap (b.tmod 64))).length ∧ 0 + (rangeP f (an : Int) (IntKind.i64.wrap ((an : Int) + (IntKind.i64.wrap c).tmod (IntKind.i64.wrap ((bn : Int) - (an : Int)))))).length + (rangeP f (IntKind.i64.wrap ((IntKind.i64.wrap ((an : Int) + (IntKind.i64.wrap c).tmod (IntKind.i64.wrap ((bn : Int) - (an : Int))))) + 1)) (bn : Int)).length ≤ 1000000 ∧ u ≠ v) = true := fun u v hab => decide_eq_true ⟨rfl, rfl, rfl, rfl, by omega, by omega, hab⟩
          have e1 : eqRows (0 + (rangeP f (an : Int) (IntKind.i64.wrap ((an : Int) + (IntKind.i64.wrap c).tmod (IntKind.i64.wrap ((bn : Int) - (an : Int)))))).length + (rangeP f (IntKind.i64.wrap ((IntKind.i64.wrap ((an : Int) + (IntKind.i64.wrap c).tmod (IntKind.i64.wrap ((bn : Int) - (an : Int))))) + 1)) (bn : Int)).length) (fun j => if j < (0 + (rangeP f (an : Int) (IntKind.i64.wrap ((an : Int) + (IntKind.i64.wrap c).tmod (IntKind.i64.wrap ((bn : Int) - (an : Int)))))).length) * 2 then pairF (rangeP f (an : Int) (IntKind.i64.wrap ((an : Int) + (IntKind.i64.wrap c).tmod (IntKind.i64.wrap ((bn : Int) - (an : Int)))))) (0 + j) else pairF (rangeP f (IntKind.i64.wrap ((IntKind.i64.wrap ((an : Int) + (IntKind.i64.wrap c).tmod (IntKind.i64.wrap ((bn : Int) - (an : Int))))) + 1)) (bn : Int)) (0 + (j - (0 + (rangeP f (an : Int) (IntKind.i64.wrap ((an : Int) + (IntKind.i64.wrap c).tmod (IntKind.i64.wrap ((bn : Int) - (an : Int)))))).length) * 2))) (0 + (rangeP f (an : Int) (IntKind.i64.wrap ((an : Int) + (IntKind.i64.wrap c).tmod (IntKind.i64.wrap ((bn : Int) - (an : Int)))))).length + (rangeP f (IntKind.i64.wrap ((IntKind.i64.wrap ((an : Int) + (IntKind.i64.wrap c).tmod (IntKind.i64.wrap ((bn : Int) - (an : Int))))) + 1)) (bn : Int)).length) (pairF (rangeP f (IntKind.i64.wrap (a.tmod 64)) (IntKind.i64.wrap (b.tmod 64)))) = true := eqRows_of rfl fun q => by rw [hLYZ, pairF_cat]; simp only [Nat.zero_add]
          clear hLYZ hsp
          repeat ((conv => whnf); first | (refine brT ?_ ?_; · (first | exact w1 | exact x1 | exact opY | exact opZ | exact tY | exact tZ | exact a1 | exact a2 | exact t4 _ _ (by simp) | (simp; done))) | (refine brF ?_ ?_; · (first | exact w1 | exact x1 | exact opY | exact opZ | exact tY | exact tZ | exact a1 | exact a2 | exact t4 _ _ (by simp) | (simp; done))) | (rw [gz]))

          conv => whnf
          exact congrArg Value.bool e1
set_option maxRecDepth 100000 in
set_option maxHeartbeats 8000000 in
theorem modelScans_r (lo n len cap : Nat) (z : Nat → Int) (a b c : Int) (ha0 : 0 ≤ a) (hb0 : 0 ≤ b) (hc0 : 0 ≤ c) (hc1 : c ≤ 255) (h1 : lo + len * 4 ≤ n) (hl : len ≤ 60) : FWP Try.prog (means W) 6 [.slice (some ⟨0, lo, none⟩) len cap, .int .u8 a, .int .u8 b, .int .u8 c] [oldR lo n z] fun a _ => a = .bool true := by
  obtain ⟨an, han⟩ := Int.eq_ofNat_of_zero_le (Int.emod_nonneg a (show (64 : Int) ≠ 0 by decide))
  have ha64 : an < 64 := by omega
  obtain ⟨bn, hbn⟩ := Int.eq_ofNat_of_zero_le (Int.emod_nonneg b (show (64 : Int) ≠ 0 by decide))
  have hb64 : bn < 64 := by omega
  have ea : (IntKind.i64.wrap (a.tmod 64)) = (an : Int) := by rw [tmodI ha0, wrapI (by omega) (by omega)]; exact han
  have eb : (IntKind.i64.wrap (b.tmod 64)) = (bn : Int) := by rw [tmodI hb0, wrapI (by omega) (by omega)]; exact hbn
  have hopS : isOpB 4 (IntKind.i64.wrap (a.tmod 64)) 0 (IntKind.i64.wrap (b.tmod 64)) = true := by rw [ea, eb]; exact isOp_scan (by omega) (by omega)
  refine FWP.body envP5_ok 40 Try.func6 rfl (by exact Nat.le_of_ble_eq_true rfl) ?_
  have f0 : decide ((len : Int) > 60) = false := decide_eq_false (by omega)
  repeat ((conv => whnf); first | (refine brT ?_ ?_; · (first | exact f0 | (simp; done))) | (refine brF ?_ ?_; · (first | exact f0 | (simp; done))))

  conv => whnf
  refine SWP.cutS Try.f6.ntmps [1, 2, 3, 9] (MSc.Q (oldR lo n z) a b c) (msc_l0 lo n len (.slice (some ⟨0, lo, none⟩) len cap) (.inr (.inr ⟨_, rfl, h1⟩)) z a b c hl [3] rfl rfl rfl rfl rfl) ?_
  rintro e vs H ⟨f, g, rfl, rfl, rfl⟩
  have eL : (rangeP f (IntKind.i64.wrap (a.tmod 64)) (IntKind.i64.wrap (b.tmod 64))) = rangeP f an bn := by rw [ea, eb]
  cases hE : (rangeP f (IntKind.i64.wrap (a.tmod 64)) (IntKind.i64.wrap (b.tmod 64))) with
  | nil =>
    have t1 : (rangeP f (IntKind.i64.wrap (a.tmod 64)) (IntKind.i64.wrap (b.tmod 64))).isEmpty = true := by rw [hE]; rfl
    repeat ((conv => whnf); first | (refine brT ?_ ?_; · (first | exact hopS | exact t1 | (simp; done))) | (refine brF ?_ ?_; · (first | exact hopS | exact t1 | (simp; done))))

    conv => whnf
    refine SWP.cutS Try.f6.ntmps [3, 9, 11, 12, 13, 14] (MSc.E [oldR lo n z, md f g] (.slice none 0 0) c f an bn) (msc_l11 lo n z c f g an bn ha64 hb64 (eL.symm.trans hE) (IntKind.i64.wrap (a.tmod 64)) (IntKind.i64.wrap (b.tmod 64)) ea eb [1] rfl rfl rfl rfl rfl) ?_
    rintro e vs H ⟨q, rfl, hq, rfl, rfl⟩
    have w1 : (!decide ((q : Int) = 0)) = false := by
      rw [hq, ← eL, hE]; rfl
    have w2 : decide ((q : Int) = 0) = true := by
      rw [hq, ← eL, hE]; rfl
    by_cases hab : bn ≤ an
    · have x1 : decide ((an : Int) ≥ (bn : Int)) = true := decide_eq_true (by omega)
      repeat ((conv => whnf); first | (refine brT ?_ ?_; · (first | exact w1 | exact x1 | (simp; done))) | (refine brF ?_ ?_; · (first | exact w1 | exact x1 | (simp; done))))

      conv => whnf
      exact congrArg Value.bool w2
    · have x1 : decide ((an : Int) ≥ (bn : Int)) = false := decide_eq_false (by omega)
      have ed : IntKind.i64.wrap ((bn : Int) - (an : Int)) = ((bn - an : Nat) : Int) := by rw [wrapI (by omega) (by omega)]; omega
      have gz : (!decide (IntKind.i64.wrap ((bn : Int) - (an : Int)) = 0)) = true := by
        rw [decide_eq_false (by rw [ed]; omega)]; rfl
      obtain ⟨r, hr⟩ := Int.eq_ofNat_of_zero_le (Int.emod_nonneg c (show ((bn - an : Nat) : Int) ≠ 0 by omega))
      have hr2 : r < bn - an := by
        have := Int.emod_lt_of_pos c (show (0 : Int) < ((bn - an : Nat) : Int) by omega)
        omega
      have er : (IntKind.i64.wrap c).tmod (IntKind.i64.wrap ((bn : Int) - (an : Int))) = (r : Int) := by
        rw [ed, show IntKind.i64.wrap c = c from wrapI (by omega) (by omega), Int.tmod_eq_emod_of_nonneg hc0, hr]
      have ec : (IntKind.i64.wrap ((an : Int) + (IntKind.i64.wrap c).tmod (IntKind.i64.wrap ((bn : Int) - (an : Int))))) = ((an + r : Nat) : Int) := by rw [er, wrapI (by omega) (by omega)]; omega
      have ec1 : (IntKind.i64.wrap ((IntKind.i64.wrap ((an : Int) + (IntKind.i64.wrap c).tmod (IntKind.i64.wrap ((bn : Int) - (an : Int))))) + 1)) = ((an + r : Nat) : Int) + 1 := by rw [ec, wrapI (by omega) (by omega)]
      have opY : isOpB 4 (an : Int) 0 (IntKind.i64.wrap ((an : Int) + (IntKind.i64.wrap c).tmod (IntKind.i64.wrap ((bn : Int) - (an : Int))))) = true := by rw [ec]; exact isOp_scan (by omega) (by omega)
      have opZ : isOpB 4 (IntKind.i64.wrap ((IntKind.i64.wrap ((an : Int) + (IntKind.i64.wrap c).tmod (IntKind.i64.wrap ((bn : Int) - (an : Int))))) + 1)) 0 (bn : Int) = true := by rw [ec1]; exact isOp_scan (by omega) (by omega)
      have hsp : rangeP f (an : Int) (bn : Int) = (rangeP f (an : Int) (IntKind.i64.wrap ((an : Int) + (IntKind.i64.wrap c).tmod (IntKind.i64.wrap ((bn : Int) - (an : Int)))))) ++ (rangeP f (IntKind.i64.wrap ((IntKind.i64.wrap ((an : Int) + (IntKind.i64.wrap c).tmod (IntKind.i64.wrap ((bn : Int) - (an : Int))))) + 1)) (bn : Int)) := by
        rw [ec1, ec]; exact rangeP_split f (by omega) (by omega)
      clear er ec ec1
      have h0 : (rangeP f (an : Int) (IntKind.i64.wrap ((an : Int) + (IntKind.i64.wrap c).tmod (IntKind.i64.wrap ((bn : Int) - (an : Int)))))) ++ (rangeP f (IntKind.i64.wrap ((IntKind.i64.wrap ((an : Int) + (IntKind.i64.wrap c).tmod (IntKind.i64.wrap ((bn : Int) - (an : Int))))) + 1)) (bn : Int)) = [] := hsp.symm.trans (eL.symm.trans hE)
      have tY : (rangeP f (an : Int) (IntKind.i64.wrap ((an : Int) + (IntKind.i64.wrap c).tmod (IntKind.i64.wrap ((bn : Int) - (an : Int)))))).isEmpty = true := by rw [(List.append_eq_nil_iff.1 h0).1]; rfl
      have tZ : (rangeP f (IntKind.i64.wrap ((IntKind.i64.wrap ((an : Int) + (IntKind.i64.wrap c).tmod (IntKind.i64.wrap ((bn : Int) - (an : Int))))) + 1)) (bn : Int)).isEmpty = true := by rw [(List.append_eq_nil_iff.1 h0).2]; rfl
      clear h0 hsp
      repeat ((conv => whnf); first | (refine brT ?_ ?_; · (first | exact w1 | exact x1 | exact opY | exact opZ | exact tY | exact tZ | (simp; done))) | (refine brF ?_ ?_; · (first | exact w1 | exact x1 | exact opY | exact opZ | exact tY | exact tZ | (simp; done))) | (rw [gz]))

      conv => whnf
      rfl
  | cons x s =>
    have t1 : (rangeP f (IntKind.i64.wrap (a.tmod 64)) (IntKind.i64.wrap (b.tmod 64))).isEmpty = false := by rw [hE]; rfl
    clear hE
    repeat ((conv => whnf); first | (refine brT ?_ ?_; · (first | exact hopS | exact t1 | (simp; done))) | (refine brF ?_ ?_; · (first | exact hopS | exact t1 | (simp; done))))

    conv => whnf
    refine SWP.cutS Try.f6.ntmps [3, 9, 11, 12, 13, 14] (MSc.E [oldR lo n z, md f g, prow (rangeP f (IntKind.i64.wrap (a.tmod 64)) (IntKind.i64.wrap (b.tmod 64))).length (pairF (rangeP f (IntKind.i64.wrap (a.tmod 64)) (IntKind.i64.wrap (b.tmod 64))))] (slOf 2 (rangeP f (IntKind.i64.wrap (a.tmod 64)) (IntKind.i64.wrap (b.tmod 64))).length) c f an bn) (msc_l12 lo n z c f g an bn ha64 hb64 (rangeP f (IntKind.i64.wrap (a.tmod 64)) (IntKind.i64.wrap (b.tmod 64))).length (pairF (rangeP f (IntKind.i64.wrap (a.tmod 64)) (IntKind.i64.wrap (b.tmod 64)))) (by rw [eL]) (by rw [eL]) (IntKind.i64.wrap (a.tmod 64)) (IntKind.i64.wrap (b.tmod 64)) ea eb [1, 6] rfl rfl rfl rfl rfl) ?_
    rintro e vs H ⟨q, rfl, hq, rfl, rfl⟩
    have w1 : (!decide ((q : Int) = ((rangeP f (IntKind.i64.wrap (a.tmod 64)) (IntKind.i64.wrap (b.tmod 64))).length : Int))) = false := by
      rw [hq, eL]; simp
    have w2 : decide ((q : Int) = ((rangeP f (IntKind.i64.wrap (a.tmod 64)) (IntKind.i64.wrap (b.tmod 64))).length : Int)) = true := by
      rw [hq, eL]; simp
    by_cases hab : bn ≤ an
    · have x1 : decide ((an : Int) ≥ (bn : Int)) = true := decide_eq_true (by omega)
      repeat ((conv => whnf); first | (refine brT ?_ ?_; · (first | exact w1 | exact x1 | (simp; done))) | (refine brF ?_ ?_; · (first | exact w1 | exact x1 | (simp; done))))

      conv => whnf
      exact congrArg Value.bool w2
    · have x1 : decide ((an : Int) ≥ (bn : Int)) = false := decide_eq_false (by omega)
      have ed : IntKind.i64.wrap ((bn : Int) - (an : Int)) = ((bn - an : Nat) : Int) := by rw [wrapI (by omega) (by omega)]; omega
      have gz : (!decide (IntKind.i64.wrap ((bn : Int) - (an : Int)) = 0)) = true := by
        rw [decide_eq_false (by rw [ed]; omega)]; rfl
      obtain ⟨r, hr⟩ := Int.eq_ofNat_of_zero_le (Int.emod_nonneg c (show ((bn - an : Nat) : Int) ≠ 0 by omega))
      have hr2 : r < bn - an := by
        have := Int.emod_lt_of_pos c (show (0 : Int) < ((bn - an : Nat) : Int) by omega)
        omega
      have er : (IntKind.i64.wrap c).tmod (IntKind.i64.wrap ((bn : Int) - (an : Int))) = (r : Int) := by
        rw [ed, show IntKind.i64.wrap c = c from wrapI (by omega) (by omega), Int.tmod_eq_emod_of_nonneg hc0, hr]
      have ec : (IntKind.i64.wrap ((an : Int) + (IntKind.i64.wrap c).tmod (IntKind.i64.wrap ((bn : Int) - (an : Int))))) = ((an + r : Nat) : Int) := by rw [er, wrapI (by omega) (by omega)]; omega
      have ec1 : (IntKind.i64.wrap ((IntKind.i64.wrap ((an : Int) + (IntKind.i64.wrap c).tmod (IntKind.i64.wrap ((bn : Int) - (an : Int))))) + 1)) = ((an + r : Nat) : Int) + 1 := by rw [ec, wrapI (by omega) (by omega)]
      have opY : isOpB 4 (an : Int) 0 (IntKind.i64.wrap ((an : Int) + (IntKind.i64.wrap c).tmod (IntKind.i64.wrap ((bn : Int) - (an : Int))))) = true := by rw [ec]; exact isOp_scan (by omega) (by omega)
      have opZ : isOpB 4 (IntKind.i64.wrap ((IntKind.i64.wrap ((an : Int) + (IntKind.i64.wrap c).tmod (IntKind.i64.wrap ((bn : Int) - (an : Int))))) + 1)) 0 (bn : Int) = true := by rw [ec1]; exact isOp_scan (by omega) (by omega)
      have hsp : rangeP f (an : Int) (bn : Int) = (rangeP f (an : Int) (IntKind.i64.wrap ((an : Int) + (IntKind.i64.wrap c).tmod (IntKind.i64.wrap ((bn : Int) - (an : Int)))))) ++ (rangeP f (IntKind.i64.wrap ((IntKind.i64.wrap ((an : Int) + (IntKind.i64.wrap c).tmod (IntKind.i64.wrap ((bn : Int) - (an : Int))))) + 1)) (bn : Int)) := by
        rw [ec1, ec]; exact rangeP_split f (by omega) (by omega)
      clear er ec ec1
      have hLYZ : (rangeP f (IntKind.i64.wrap (a.tmod 64)) (IntKind.i64.wrap (b.tmod 64))) = (rangeP f (an : Int) (IntKind.i64.wrap ((an : Int) + (IntKind.i64.wrap c).tmod (IntKind.i64.wrap ((bn : Int) - (an : Int)))))) ++ (rangeP f (IntKind.i64.wrap ((IntKind.i64.wrap ((an : Int) + (IntKind.i64.wrap c).tmod (IntKind.i64.wrap ((bn : Int) - (an : Int))))) + 1)) (bn : Int)) := eL.trans hsp
      have hlen : (rangeP f (IntKind.i64.wrap (a.tmod 64)) (IntKind.i64.wrap (b.tmod 64))).length = (rangeP f (an : Int) (IntKind.i64.wrap ((an : Int) + (IntKind.i64.wrap c).tmod (IntKind.i64.wrap ((bn : Int) - (an : Int)))))).length + (rangeP f (IntKind.i64.wrap ((IntKind.i64.wrap ((an : Int) + (IntKind.i64.wrap c).tmod (IntKind.i64.wrap ((bn : Int) - (an : Int))))) + 1)) (bn : Int)).length := by rw [hLYZ, List.length_append]
      have hl64 : (rangeP f (IntKind.i64.wrap (a.tmod 64)) (IntKind.i64.wrap (b.tmod 64))).length ≤ 64 := by rw [eL]; exact range_len f _ _
      cases tY : (rangeP f (an : Int) (IntKind.i64.wrap ((an : Int) + (IntKind.i64.wrap c).tmod (IntKind.i64.wrap ((bn : Int) - (an : Int)))))).isEmpty with
      | true =>
        have yn := List.isEmpty_iff.1 tY
        have yl : (rangeP f (an : Int) (IntKind.i64.wrap ((an : Int) + (IntKind.i64.wrap c).tmod (IntKind.i64.wrap ((bn : Int) - (an : Int)))))).length = 0 := by rw [yn]; rfl
        cases tZ : (rangeP f (IntKind.i64.wrap ((IntKind.i64.wrap ((an : Int) + (IntKind.i64.wrap c).tmod (IntKind.i64.wrap ((bn : Int) - (an : Int))))) + 1)) (bn : Int)).isEmpty with
        | true =>
          rw [eL, hsp, List.isEmpty_iff.1 tY, List.isEmpty_iff.1 tZ] at t1
          cases t1
        | false =>
          have zl : 0 < (rangeP f (IntKind.i64.wrap ((IntKind.i64.wrap ((an : Int) + (IntKind.i64.wrap c).tmod (IntKind.i64.wrap ((bn : Int) - (an : Int))))) + 1)) (bn : Int)).length := by
            rw [List.length_pos_iff]
            intro e
            rw [e] at tZ
            cases tZ
          have a1 : (true && decide (0 < (rangeP f (IntKind.i64.wrap ((IntKind.i64.wrap ((an : Int) + (IntKind.i64.wrap c).tmod (IntKind.i64.wrap ((bn : Int) - (an : Int))))) + 1)) (bn : Int)).length ∧ 0 + (rangeP f (IntKind.i64.wrap ((IntKind.i64.wrap ((an : Int) + (IntKind.i64.wrap c).tmod (IntKind.i64.wrap ((bn : Int) - (an : Int))))) + 1)) (bn : Int)).length * 2 ≤ (rangeP f (IntKind.i64.wrap ((IntKind.i64.wrap ((an : Int) + (IntKind.i64.wrap c).tmod (IntKind.i64.wrap ((bn : Int) - (an : Int))))) + 1)) (bn : Int)).length * 2 ∧ 0 + (rangeP f (IntKind.i64.wrap ((IntKind.i64.wrap ((an : Int) + (IntKind.i64.wrap c).tmod (IntKind.i64.wrap ((bn : Int) - (an : Int))))) + 1)) (bn : Int)).length ≤ 1000000)) = true := by simp; omega
          have t4 : ∀ u v : Nat, u ≠ v → decide ((59 : TypeId) = 59 ∧ (59 : TypeId) = 59 ∧ 0 + (rangeP f (IntKind.i64.wrap ((IntKind.i64.wrap ((an : Int) + (IntKind.i64.wrap c).tmod (IntKind.i64.wrap ((bn : Int) - (an : Int))))) + 1)) (bn : Int)).length = 0 + (rangeP f (IntKind.i64.wrap ((IntKind.i64.wrap ((an : Int) + (IntKind.i64.wrap c).tmod (IntKind.i64.wrap ((bn : Int) - (an : Int))))) + 1)) (bn : Int)).length ∧ (rangeP f (IntKind.i64.wrap (a.tmod 64)) (IntKind.i64.wrap (b.tmod 64))).length = (rangeP f (IntKind.i64.wrap (a.tmod 64)) (IntKind.i64.wrap (b.tmod 64))).length ∧ 0 + (rangeP f (IntKind.i64.wrap ((IntKind.i64.wrap ((an : Int) + (IntKind.i64.wrap c).tmod (IntKind.i64.wrap ((bn : Int) - (an : Int))))) + 1)) (bn : Int)).length = (rangeP f (IntKind.i64.wrap (a.tmod 64)) (IntKind.i64.wrap (b.tmod 64))).length ∧ 0 + (rangeP f (IntKind.i64.wrap ((IntKind.i64.wrap ((an : Int) + (IntKind.i64.wrap c).tmod (IntKind.i64.wrap ((bn : Int) - (an : Int))))) + 1)) (bn : Int)).length ≤ 1000000 ∧ u ≠ v) = true := fun u v hab => decide_eq_true ⟨rfl, rfl, rfl, rfl, by omega, by omega, hab⟩
          have e1 : eqRows (0 + (rangeP f (IntKind.i64.wrap ((IntKind.i64.wrap ((an : Int) + (IntKind.i64.wrap c).tmod (IntKind.i64.wrap ((bn : Int) - (an : Int))))) + 1)) (bn : Int)).length) (fun q => pairF (rangeP f (IntKind.i64.wrap ((IntKind.i64.wrap ((an : Int) + (IntKind.i64.wrap c).tmod (IntKind.i64.wrap ((bn : Int) - (an : Int))))) + 1)) (bn : Int)) (0 + q)) (0 + (rangeP f (IntKind.i64.wrap ((IntKind.i64.wrap ((an : Int) + (IntKind.i64.wrap c).tmod (IntKind.i64.wrap ((bn : Int) - (an : Int))))) + 1)) (bn : Int)).length) (pairF (rangeP f (IntKind.i64.wrap (a.tmod 64)) (IntKind.i64.wrap (b.tmod 64)))) = true := eqRows_of rfl fun q => by rw [hLYZ, yn, Nat.zero_add]; rfl
          clear hLYZ yn hsp
          repeat ((conv => whnf); first | (refine brT ?_ ?_; · (first | exact w1 | exact x1 | exact opY | exact opZ | exact tY | exact tZ | exact a1 | exact t4 _ _ (by simp) | (simp; done))) | (refine brF ?_ ?_; · (first | exact w1 | exact x1 | exact opY | exact opZ | exact tY | exact tZ | exact a1 | exact t4 _ _ (by simp) | (simp; done))) | (rw [gz]))

          conv => whnf
          exact congrArg Value.bool e1
      | false =>
        have yl : 0 < (rangeP f (an : Int) (IntKind.i64.wrap ((an : Int) + (IntKind.i64.wrap c).tmod (IntKind.i64.wrap ((bn : Int) - (an : Int)))))).length := by
          rw [List.length_pos_iff]
          intro e
          rw [e] at tY
          cases tY
        have a1 : (true && decide (0 < (rangeP f (an : Int) (IntKind.i64.wrap ((an : Int) + (IntKind.i64.wrap c).tmod (IntKind.i64.wrap ((bn : Int) - (an : Int)))))).length ∧ 0 + (rangeP f (an : Int) (IntKind.i64.wrap ((an : Int) + (IntKind.i64.wrap c).tmod (IntKind.i64.wrap ((bn : Int) - (an : Int)))))).length * 2 ≤ (rangeP f (an : Int) (IntKind.i64.wrap ((an : Int) + (IntKind.i64.wrap c).tmod (IntKind.i64.wrap ((bn : Int) - (an : Int)))))).length * 2 ∧ 0 + (rangeP f (an : Int) (IntKind.i64.wrap ((an : Int) + (IntKind.i64.wrap c).tmod (IntKind.i64.wrap ((bn : Int) - (an : Int)))))).length ≤ 1000000)) = true := by simp; omega
        cases tZ : (rangeP f (IntKind.i64.wrap ((IntKind.i64.wrap ((an : Int) + (IntKind.i64.wrap c).tmod (IntKind.i64.wrap ((bn : Int) - (an : Int))))) + 1)) (bn : Int)).isEmpty with
        | true =>
          have zn := List.isEmpty_iff.1 tZ
          have zl : (rangeP f (IntKind.i64.wrap ((IntKind.i64.wrap ((an : Int) + (IntKind.i64.wrap c).tmod (IntKind.i64.wrap ((bn : Int) - (an : Int))))) + 1)) (bn : Int)).length = 0 := by rw [zn]; rfl
          have a2 : decide ((59 : TypeId) = 59 ∧ 2 = 2 ∧ 0 + (rangeP f (an : Int) (IntKind.i64.wrap ((an : Int) + (IntKind.i64.wrap c).tmod (IntKind.i64.wrap ((bn : Int) - (an : Int)))))).length = 0 + (rangeP f (an : Int) (IntKind.i64.wrap ((an : Int) + (IntKind.i64.wrap c).tmod (IntKind.i64.wrap ((bn : Int) - (an : Int)))))).length) = true := by simp
          have t4 : ∀ u v : Nat, u ≠ v → decide ((59 : TypeId) = 59 ∧ (59 : TypeId) = 59 ∧ 0 + (rangeP f (an : Int) (IntKind.i64.wrap ((an : Int) + (IntKind.i64.wrap c).tmod (IntKind.i64.wrap ((bn : Int) - (an : Int)))))).length = 0 + (rangeP f (an : Int) (IntKind.i64.wrap ((an : Int) + (IntKind.i64.wrap c).tmod (IntKind.i64.wrap ((bn : Int) - (an : Int)))))).length ∧ (rangeP f (IntKind.i64.wrap (a.tmod 64)) (IntKind.i64.wrap (b.tmod 64))).length = (rangeP f (IntKind.i64.wrap (a.tmod 64)) (IntKind.i64.wrap (b.tmod 64))).length ∧ 0 + (rangeP f (an : Int) (IntKind.i64.wrap ((an : Int) + (IntKind.i64.wrap c).tmod (IntKind.i64.wrap ((bn : Int) - (an : Int)))))).length = (rangeP f (IntKind.i64.wrap (a.tmod 64)) (IntKind.i64.wrap (b.tmod 64))).length ∧ 0 + (rangeP f (an : Int) (IntKind.i64.wrap ((an : Int) + (IntKind.i64.wrap c).tmod (IntKind.i64.wrap ((bn : Int) - (an : Int)))))).length ≤ 1000000 ∧ u ≠ v) = true := fun u v hab => decide_eq_true ⟨rfl, rfl, rfl, rfl, by omega, by omega, hab⟩
          have e1 : eqRows (0 + (rangeP f (an : Int) (IntKind.i64.wrap ((an : Int) + (IntKind.i64.wrap c).tmod (IntKind.i64.wrap ((bn : Int) - (an : Int)))))).length) (fun q => pairF (rangeP f (an : Int) (IntKind.i64.wrap ((an : Int) + (IntKind.i64.wrap c).tmod (IntKind.i64.wrap ((bn : Int) - (an : Int)))))) (0 + q)) (0 + (rangeP f (an : Int) (IntKind.i64.wrap ((an : Int) + (IntKind.i64.wrap c).tmod (IntKind.i64.wrap ((bn : Int) - (an : Int)))))).length) (pairF (rangeP f (IntKind.i64.wrap (a.tmod 64)) (IntKind.i64.wrap (b.tmod 64)))) = true := eqRows_of rfl fun q => by rw [hLYZ, zn, Nat.zero_add, List.append_nil]
          clear hLYZ zn hsp
          repeat ((conv => whnf); first | (refine brT ?_ ?_; · (first | exact w1 | exact x1 | exact opY | exact opZ | exact tY | exact tZ | exact a1 | exact a2 | exact t4 _ _ (by simp) | (simp; done))) | (refine brF ?_ ?_; · (first | exact w1 | exact x1 | exact opY | exact opZ | exact tY | exact tZ | exact a1 | exact a2 | exact t4 _ _ (by simp) | (simp; done))) | (rw [gz]))

          conv => whnf
          exact congrArg Value.bool e1
        | false =>
          have zl : 0 < (rangeP f (IntKind.i64.wrap ((IntKind.i64.wrap ((an : Int) + (IntKind.i64.wrap c).tmod (IntKind.i64.wrap ((bn : Int) - (an : Int))))) + 1)) (bn : Int)).length := by
            rw [List.length_pos_iff]
            intro e
            rw [e] at tZ
            cases tZ
          have a2 : (decide ((59 : TypeId) = 59 ∧ 2 = 2 ∧ 0 + (rangeP f (an : Int) (IntKind.i64.wrap ((an : Int) + (IntKind.i64.wrap c).tmod (IntKind.i64.wrap ((bn : Int) - (an : Int)))))).length = 0 + (rangeP f (an : Int) (IntKind.i64.wrap ((an : Int) + (IntKind.i64.wrap c).tmod (IntKind.i64.wrap ((bn : Int) - (an : Int)))))).length) && decide (0 < (rangeP f (IntKind.i64.wrap ((IntKind.i64.wrap ((an : Int) + (IntKind.i64.wrap c).tmod (IntKind.i64.wrap ((bn : Int) - (an : Int))))) + 1)) (bn : Int)).length ∧ 0 + (rangeP f (IntKind.i64.wrap ((IntKind.i64.wrap ((an : Int) + (IntKind.i64.wrap c).tmod (IntKind.i64.wrap ((bn : Int) - (an : Int))))) + 1)) (bn : Int)).length * 2 ≤ (rangeP f (IntKind.i64.wrap ((IntKind.i64.wrap ((an : Int) + (IntKind.i64.wrap c).tmod (IntKind.i64.wrap ((bn : Int) - (an : Int))))) + 1)) (bn : Int)).length * 2 ∧ (0 + (rangeP f (an : Int) (IntKind.i64.wrap ((an : Int) + (IntKind.i64.wrap c).tmod (IntKind.i64.wrap ((bn : Int) - (an : Int)))))).length) + (rangeP f (IntKind.i64.wrap ((IntKind.i64.wrap ((an : Int) + (IntKind.i64.wrap c).tmod (IntKind.i64.wrap ((bn : Int) - (an : Int))))) + 1)) (bn : Int)).length ≤ 1000000)) = true := by simp; omega
          have t4 : ∀ u v : Nat, u ≠ v → decide ((59 : TypeId) = 59 ∧ (59 : TypeId) = 59 ∧ 0 + (rangeP f (an : Int) (IntKind.i64.wrap ((an : Int) + (IntKind.i64.wrap c).tmod (IntKind.i64.wrap ((bn : Int) - (an : Int)))))).length + (rangeP f (IntKind.i64.wrap ((IntKind.i64.wrap ((an : Int) + (IntKind.i64.wrap c).tmod (IntKind.i64.wrap ((bn : Int) - (an : Int))))) + 1)) (bn : Int)).length = 0 + (rangeP f (an : Int) (IntKind.i64.wrap ((an : Int) + (IntKind.i64.wrap c).tmod (IntKind.i64.wrap ((bn : Int) - (an : Int)))))).length + (rangeP f (IntKind.i64.wrap ((IntKind.i64.wrap ((an : Int) + (IntKind.i64.wrap c).tmod (IntKind.i64.wrap ((bn : Int) - (an : Int))))) + 1)) (bn : Int)).length ∧ (rangeP f (IntKind.i64.wrap (a.tmod 64)) (IntKind.i64.wrap (b.tmod 64))).length = (rangeP f (IntKind.i64.wrap (a.tmod 64)) (IntKind.i64.wrap (b.tmod 64))).length ∧ 0 + (rangeP f (an : Int) (IntKind.i64.wrap ((an : Int) + (IntKind.i64.wrap c).tmod (IntKind.i64.wrap ((bn : Int) - (an : Int)))))).length + (rangeP f (IntKind.i64.wrap ((IntKind.i64.wrap ((an : Int) + (IntKind.i64.wrap c).tmod (IntKind.i64.wrap ((bn : Int) - (an : Int))))) + 1)) (bn : Int)).length = (rangeP f (IntKind.i64.wrap (a.tmod 64)) (IntKind.i64.wrap (b.tmod 64))).length ∧ 0 + (rangeP f (an : Int) (IntKind.i64.wrap ((an : Int) + (IntKind.i64.wrap c).tmod (IntKind.i64.wrap ((bn : Int) - (an : Int)))))).length + (rangeP f (IntKind.i64.wrap ((IntKind.i64.wrap ((an : Int) + (IntKind.i64.wrap c).tmod (IntKind.i64.wrap ((bn : Int) - (an : Int))))) + 1)) (bn : Int)).length ≤ 1000000 ∧ u ≠ v) = true := fun u v hab => decide_eq_true ⟨rfl, rfl, rfl, rfl, by omega, by omega, hab⟩
          have e1 : eqRows (0 + (rangeP f (an : Int) (IntKind.i64.wrap ((an : Int) + (IntKind.i64.wrap c).tmod (IntKind.i64.wrap ((bn : Int) - (an : Int)))))).length + (rangeP f (IntKind.i64.wrap ((IntKind.i64.wrap ((an : Int) + (IntKind.i64.wrap c).tmod (IntKind.i64.wrap ((bn : Int) - (an : Int))))) + 1)) (bn : Int)).length) (fun j => if j < (0 + (rangeP f (an : Int) (IntKind.i64.wrap ((an : Int) + (IntKind.i64.wrap c).tmod (IntKind.i64.wrap ((bn : Int) - (an : Int)))))).length) * 2 then pairF (rangeP f (an : Int) (IntKind.i64.wrap ((an : Int) + (IntKind.i64.wrap c).tmod (IntKind.i64.wrap ((bn : Int) - (an : Int)))))) (0 + j) else pairF (rangeP f (IntKind.i64.wrap ((IntKind.i64.wrap ((an : Int) + (IntKind.i64.wrap c).tmod (IntKind.i64.wrap ((bn : Int) - (an : Int))))) + 1)) (bn : Int)) (0 + (j - (0 + (rangeP f (an : Int) (IntKind.i64.wrap ((an : Int) + (IntKind.i64.wrap c).tmod (IntKind.i64.wrap ((bn : Int) - (an : Int)))))).length) * 2))) (0 + (rangeP f (an : Int) (IntKind.i64.wrap ((an : Int) + (IntKind.i64.wrap c).tmod (IntKind.i64.wrap ((bn : Int) - (an : Int)))))).length + (rangeP f (IntKind.i64.wrap ((IntKind.i64.wrap ((an : Int) + (IntKind.i64.wrap c).tmod (IntKind.i64.wrap ((bn : Int) - (an : Int))))) + 1)) (bn : Int)).length) (pairF (rangeP f (IntKind.i64.wrap (a.tmod 64)) (IntKind.i64.wrap (b.tmod 64)))) = true := eqRows_of rfl fun q => by rw [hLYZ, pairF_cat]; simp only [Nat.zero_add]
          clear hLYZ hsp
          repeat ((conv => whnf); first | (refine brT ?_ ?_; · (first | exact w1 | exact x1 | exact opY | exact opZ | exact tY | exact tZ | exact a1 | exact a2 | exact t4 _ _ (by simp) | (simp; done))) | (refine brF ?_ ?_; · (first | exact w1 | exact x1 | exact opY | exact opZ | exact tY | exact tZ | exact a1 | exact a2 | exact t4 _ _ (by simp) | (simp; done))) | (rw [gz]))

          conv => whnf
          exact congrArg Value.bool e1
set_option maxRecDepth 100000 in
set_option maxHeartbeats 8000000 in
theorem modelScans_long (lo n len cap : Nat) (z : Nat → Int) (a b c : Int) (hl : 60 < len) : FWP Try.prog (means W) 6 [.slice (some ⟨0, lo, none⟩) len cap, .int .u8 a, .int .u8 b, .int .u8 c] [oldR lo n z] fun a _ => a = .bool true := by
  refine FWP.body envP5_ok 40 Try.func6 rfl (by exact Nat.le_of_ble_eq_true rfl) ?_
  have f0 : decide ((len : Int) > 60) = true := decide_eq_true (by omega)
  repeat ((conv => whnf); first | (refine brT ?_ ?_; · (first | exact f0 | (simp; done))) | (refine brF ?_ ?_; · (first | exact f0 | (simp; done))))

  conv => whnf
  rfl
theorem modelScans_walk (W : World) (A : Option Addr) (len cap : Nat) (z : Nat → Int) (a b c : Int) (h : IsTri W A 4 len cap z) (w1 : (Lit.int .u8 a).wf = true) (w2 : (Lit.int .u8 b).wf = true) (w3 : (Lit.int .u8 c).wf = true) :
    Calls Try.prog 6 #[.slice A len cap, .int .u8 a, .int .u8 b, .int .u8 c] W fun e w' => e = .returned (.bool true) ∧ Below W.heap.size W w' := by
  obtain ⟨sv, r, hat, hc, hok, hv⟩ := tab_arg h 0
  refine law_walk_rows [r] (fun x hx => by simp at hx; subst hx; exact hok) (args := [sv, .int .u8 a, .int .u8 b, .int .u8 c]) (.cons (hv _ _ (by show 0 < 1; decide) rfl) (.cons (.plain rfl) (.cons (.plain rfl) (.cons (.plain rfl) .nil)))) ?_
  have hH : oldH [r] = [oldR r.lo r.n fun j => z (j - r.lo)] := by
    show [some (false, AObj.ext (Ext.old r.lo r.n r.c))] = _
    rw [hc]; rfl
  rw [hH]
  have ba := (wf_u8_bounds w1).1
  have bb := (wf_u8_bounds w2).1
  have bc := wf_u8_bounds w3
  rcases hat with ⟨rfl, _⟩ | ⟨rfl, _⟩ | ⟨cap, rfl, h1, _, _⟩
  · exact modelScans_n _ _ _ _ _ _ ba bb bc.1 bc.2
  · exact modelScans_e _ _ _ _ _ _ ba bb bc.1 bc.2
  · by_cases hl : len ≤ 60
    · exact modelScans_r _ _ _ _ _ _ _ _ ba bb bc.1 bc.2 h1 hl
    · exact modelScans_long _ _ _ _ _ _ _ _ (by omega)
end Go.Proofs.Ytdmodejpcfhbhaa
