/- ClaimRises: the walk. -/
import Derived.Test.YtakbnbmbiaejiaaClaimC
import Derived.Test.YtakbnbmbiaejiaaClaimRun
import Derived.Test.YtakbnbmbiaejiaaRefW
import Derived.Test.YtakbnbmbiaejiaaSxV
namespace Go.Proofs.Ytakbnbmbiaejiaa
open Go.RowKit
variable {W : World}

theorem known13' : FWP Try.prog (means W) 35 [] [] fun a b => a = .bool true ∧ b = [] := closed (by kernel_rfl)
noncomputable def envK13 : Env Ext := ((((envK 35).add 36 (dt dKNew)).add 37 dKStep).add 38 dKVersion).add 39 (dt dRClaim)
theorem envK13_ok : envK13.Ok Try.prog (means W) := ((((envK_ok known13').add fun args H v H' h => ok_KNew (by rw [← DT.out_of (dKNew args H)]; exact h)).add fun args H v H' h => ok_KStep h).add fun args H v H' h => ok_KVersion h).add fun args H v H' h => ok_RClaim (by rw [← DT.out_of (dRClaim args H)]; exact h)
namespace CR
abbrev O (lo n : Nat) (z : Nat → Int) : Option (Bool × AObj Ext) := some (false, .ext (.old lo n (intsC .u8 z lo)))
abbrev C4 : Option (Bool × AObj Ext) := some (true, .cells [.int .i64 4, .int .i64 6, .int .i64 200, .int .i64 1000] 25)
abbrev Wt (a b c d : Int) : Option (Bool × AObj Ext) := some (true, .cells [.int .i64 a, .int .i64 b, .int .i64 c, .int .i64 d] 69)
abbrev p (i : Nat) : Value := .pointer (some ⟨i, 0, none⟩)
def I1 (sv : Value) (o : Option (Bool × AObj Ext)) (st : Int) (len : Nat) (k : Nat) (vs : List Value) (H : HX) : Prop :=
  ∃ (i : Nat) (a b c d : Int) (V : Vw), k + i = len ∧ inv st i a b c d V ∧ vs = [sv, p 1, p 2, .int .i64 st, p 3, .int .i64 i] ∧ H = [o, C4, some (true, .ext (.arena V)), Wt a b c d]
def I2 (sv : Value) (o : Option (Bool × AObj Ext)) (st : Int) (i t : Nat) (a b c d : Int) (V : Vw) (k : Nat) (vs : List Value) (H : HX) : Prop :=
  ∃ j : Nat, k + j = 5 ∧ j < 5 ∧ vs = [sv, p 1, p 2, .int .i64 st, p 3, .int .i64 i, .int .i64 t, p 4, .int .i64 j] ∧ H = [o, C4, some (true, .ext (.arena (S t (i + 1) V j).2)), Wt a b c d, some (true, .ext (.claim (S t (i + 1) V j).1))]
def E2 (sv : Value) (o : Option (Bool × AObj Ext)) (st : Int) (i t : Nat) (a b c d : Int) (V : Vw) (e : Exit) (vs : List Value) (H : HX) : Prop :=
  e = .exit 2 ∧ vs = [sv, p 1, p 2, .int .i64 st, p 3, .int .i64 i, .int .i64 t, p 4] ∧ H = [o, C4, some (true, .ext (.arena (S t (i + 1) V 5).2)), Wt a b c d, some (true, .ext (.claim (S t (i + 1) V 5).1))]
def I3 (sv : Value) (o : Option (Bool × AObj Ext)) (st : Int) (i : Nat) (k : Nat) (vs : List Value) (H : HX) : Prop :=
  ∃ (j : Nat) (a b c d : Int) (V : Vw), k + j = 4 ∧ inv st (i + 1) a b c d V ∧ vs = [sv, p 1, p 2, .int .i64 st, p 3, .int .i64 i, .int .i64 j] ∧ H = [o, C4, some (true, .ext (.arena V)), Wt a b c d]
end CR
attribute [local irreducible] Vw.rd Vw.swaps Vw.inb partF claimF stateF versionF SWP FWP OWP Ent ClaimM.step iterS
set_option maxRecDepth 100000 in
set_option maxHeartbeats 16000000 in
theorem claimRises_fwp (sv : Value) (b lo n len : Nat) (z : Nat → Int) (hz : ∀ j, j < len → 0 ≤ z j ∧ z j ≤ 255) (hs : SlAt 0 len sv ⟨b, lo, n, intsC .u8 z lo⟩) (clock : Int) (hc0 : 0 ≤ clock) : FWP Try.prog (means W) 11 [sv, .int .u16 clock] [some (false, .ext (.old lo n (intsC .u8 z lo)))] fun a _ => a = .bool true := by
  have hc : (⟨4, 6, 200, 1000⟩ : Cf).okB = true := by decide
  obtain ⟨st, est⟩ : ∃ s : Int, clock % 900 = s := ⟨_, rfl⟩
  have hs0 : 0 ≤ st := by omega
  have hs1 : st < 900 := by omega
  have e1 : IntKind.i64.wrap (clock.tmod 900) = st := by rw [tmodI hc0, wrapI (by omega) (by omega)]; exact est
  obtain ⟨rfl, rfl⟩ | ⟨rfl, rfl⟩ | ⟨cap, rfl, hn, hlen⟩ := hs
  all_goals try simp only at hn hlen
  · refine FWP.body envK13_ok 40 Try.func11 rfl (by exact Nat.le_of_ble_eq_true rfl) ?_
    repeat ((conv => whnf); first | (refine brT ?_ ?_; · (first | with_reducible exact Cf.okB_wf hc rfl | with_reducible exact Cf.okB_is hc rfl | (simp [*]; done))) | (refine brF ?_ ?_; · (first | with_reducible exact Cf.okB_wf hc rfl | with_reducible exact Cf.okB_is hc rfl | (simp [*]; done))))

    conv => whnf
    refine SWP.loopS Try.f11.ntmps [0, 5, 6, 8, 9, 10] (CR.I1 (.slice none 0 0) (CR.O lo n z) st 0) (N := 0) [1, 2, 3] rfl rfl rfl ?_ ?_
    · refine ⟨0, 0, 0, 0, 0, _, rfl, CR.start (s := st), ?_, ?_⟩
      · simp only [e1]; rfl
      · simp only [e1]; rfl
    · rintro k vs H ⟨i, a, b', c, d, V, hk, hI, rfl, rfl⟩
      refine SWP.code envK13_ok 40 200 ?_
      have f1 : ¬ (i : Int) < 0 := by omega
      have i0 : i = 0 := by omega
      subst i0
      have hcl := hI.clk
      have w0 : IntKind.i64.wrap st = st := wrapI (by omega) (by omega)
      repeat ((conv => whnf); first | (refine brT ?_ ?_; · (simp [*]; done)) | (refine brF ?_ ?_; · (simp [*]; done)))

      conv => whnf
      exact congrArg Value.bool (by simp [*])
  · refine FWP.body envK13_ok 40 Try.func11 rfl (by exact Nat.le_of_ble_eq_true rfl) ?_
    repeat ((conv => whnf); first | (refine brT ?_ ?_; · (first | with_reducible exact Cf.okB_wf hc rfl | with_reducible exact Cf.okB_is hc rfl | (simp [*]; done))) | (refine brF ?_ ?_; · (first | with_reducible exact Cf.okB_wf hc rfl | with_reducible exact Cf.okB_is hc rfl | (simp [*]; done))))

    conv => whnf
    refine SWP.loopS Try.f11.ntmps [0, 5, 6, 8, 9, 10] (CR.I1 (.slice (some ⟨0, 0, some 0⟩) 0 1) (CR.O lo n z) st 0) (N := 0) [1, 2, 3] rfl rfl rfl ?_ ?_
    · refine ⟨0, 0, 0, 0, 0, _, rfl, CR.start (s := st), ?_, ?_⟩
      · simp only [e1]; rfl
      · simp only [e1]; rfl
    · rintro k vs H ⟨i, a, b', c, d, V, hk, hI, rfl, rfl⟩
      refine SWP.code envK13_ok 40 200 ?_
      have f1 : ¬ (i : Int) < 0 := by omega
      have i0 : i = 0 := by omega
      subst i0
      have hcl := hI.clk
      have w0 : IntKind.i64.wrap st = st := wrapI (by omega) (by omega)
      repeat ((conv => whnf); first | (refine brT ?_ ?_; · (simp [*]; done)) | (refine brF ?_ ?_; · (simp [*]; done)))

      conv => whnf
      exact congrArg Value.bool (by simp [*])
  · refine FWP.body envK13_ok 40 Try.func11 rfl (by exact Nat.le_of_ble_eq_true rfl) ?_
    by_cases hbig : 30 < len
    · have hb : (30 : Int) < (len : Int) := by omega
      repeat ((conv => whnf); first | (refine brT ?_ ?_; · (simp [*]; done)) | (refine brF ?_ ?_; · (simp [*]; done)))

      conv => whnf
      exact congrArg Value.bool (by simp [*])
    have hb : ¬ (30 : Int) < (len : Int) := by omega
    repeat ((conv => whnf); first | (refine brT ?_ ?_; · (first | with_reducible exact Cf.okB_wf hc rfl | with_reducible exact Cf.okB_is hc rfl | (simp [*]; done))) | (refine brF ?_ ?_; · (first | with_reducible exact Cf.okB_wf hc rfl | with_reducible exact Cf.okB_is hc rfl | (simp [*]; done))))

    conv => whnf
    refine SWP.loopS Try.f11.ntmps [0, 5, 6, 8, 9, 10] (CR.I1 (.slice (some ⟨0, lo, none⟩) len cap) (CR.O lo n z) st len) (N := len) [1, 2, 3] rfl rfl rfl ?_ ?_
    · refine ⟨0, 0, 0, 0, 0, _, rfl, CR.start (s := st), ?_, ?_⟩
      · simp only [e1]; rfl
      · simp only [e1]; rfl
    · rintro k vs H ⟨i, a, b', c, d, V, hk, hI, rfl, rfl⟩
      refine SWP.code envK13_ok 40 200 ?_
      by_cases hi : i < len
      · have f1 : (i : Int) < (len : Int) := by omega
        have f2 : IntKind.i64.wrap ((i : Int) + 1) = (i : Int) + 1 := wrapI (by omega) (by omega)
        have f3 : decide (lo ≤ lo + (i : Int).toNat * 1 ∧ lo + (i : Int).toNat * 1 < n) = true := decide_eq_true ⟨by omega, by omega⟩
        have f5 : decide ((0:Int) ≤ (i:Int) ∧ (i:Int) < (len:Int)) = true := decide_eq_true ⟨by omega, by omega⟩
        obtain ⟨z0, z1⟩ := hz i hi
        obtain ⟨t, et⟩ := Int.eq_ofNat_of_zero_le (Int.emod_nonneg (z i) (show (4 : Int) ≠ 0 by decide))
        have ht : t < 4 := by omega
        have ev : IntKind.i64.wrap ((z (lo + (i : Int).toNat * 1 - lo)).tmod 4) = (t : Int) := by
          rw [show lo + (i : Int).toNat * 1 - lo = i from by omega, tmodI z0, wrapI (by omega) (by omega)]; exact et
        repeat ((conv => whnf); first | (refine brT ?_ ?_; · (first | exact f3 | (simp [*]; done))) | (refine brF ?_ ?_; · (first | exact f3 | (simp [*]; done))) | (rw [f5]))

        conv => whnf
        obtain ⟨rl, rz, re, rv, rI⟩ := CR.run hs0 hs1 (by omega) hI ht
        refine SWP.cutS Try.f11.ntmps [0, 5, 6, 8, 9, 10, 11, 12] (CR.E2 (.slice (some ⟨0, lo, none⟩) len cap) (CR.O lo n z) st i t a b' c d V) (SWP.loopS Try.f11.ntmps [0, 5, 6, 8, 9, 10, 11, 12, 13] (CR.I2 (.slice (some ⟨0, lo, none⟩) len cap) (CR.O lo n z) st i t a b' c d V) (N := 5) [1, 2, 3, 4] rfl rfl rfl ?_ ?_) ?_
        · refine ⟨0, rfl, by decide, ?_, ?_⟩
          · rw [← ev]; rfl
          · have hx : ClaimM.new ⟨4, 6, 200, 1000⟩ (IntKind.i64.wrap ((z (lo + (i : Int).toNat * 1 - lo)).tmod 4)) (IntKind.i64.wrap ((i : Int) + 1)) = ClaimM.new ⟨4, 6, 200, 1000⟩ t ((i : Int) + 1) := by rw [ev, f2]
            rw [CR.S_zero, ← hx]; rfl
        · rintro k' vs H ⟨j, hkj, hj, rfl, rfl⟩
          refine SWP.code envK13_ok 40 200 ?_
          obtain ⟨hl5, hn0⟩ := rl j hj
          have g0 : (Nat.ble (CR.S t (i + 1) V j).1.line 5 && !Nat.beq 4 2) = true := by rw [Nat.ble_eq_true_of_le hl5]; rfl
          have g1 : (j : Int) < 9 := by omega
          have g2 : IntKind.i64.wrap ((j : Int) + 1) = (j : Int) + 1 := wrapI (by omega) (by omega)
          have hs := CR.S_succ t (i + 1) V j
          by_cases hj4 : j + 1 < 5
          · have hl2 : (!decide (((CR.S t (i + 1) V j).1.step (CR.S t (i + 1) V j).2).1.line = 0)) = true := by rw [hs, decide_eq_false ((rl _ hj4).2 (by omega))]; rfl
            repeat ((conv => whnf); first | (refine brT ?_ ?_; · (first | exact g0 | exact hl2 | (simp [*]; done))) | (refine brF ?_ ?_; · (first | exact g0 | exact hl2 | (simp [*]; done))))

            conv => whnf
            refine ⟨k' - 1, by omega, [1, 2, 3, 4], rfl, rfl, _, rfl, j + 1, by omega, hj4, by rw [g2]; rfl, ?_⟩
            rw [← hs]; rfl
          · have j4 : j + 1 = 5 := by omega
            have hl2 : (!decide (((CR.S t (i + 1) V j).1.step (CR.S t (i + 1) V j).2).1.line = 0)) = false := by rw [hs, j4, decide_eq_true rz]; rfl
            repeat ((conv => whnf); first | (refine brT ?_ ?_; · (first | exact g0 | exact hl2 | (simp [*]; done))) | (refine brF ?_ ?_; · (first | exact g0 | exact hl2 | (simp [*]; done))))

            conv => whnf
            refine ⟨[1, 2, 3, 4], rfl, rfl, _, rfl, rfl, rfl, ?_⟩
            rw [← j4, ← hs]; rfl
        · rintro e vs H ⟨rfl, rfl, rfl⟩
          have q1 : IntKind.i64.wrap (st + (i : Int)) = st + i := wrapI (by omega) (by omega)
          have q2 : IntKind.i64.wrap (st + (i : Int) + 2) = st + i + 2 := wrapI (by omega) (by omega)
          have tt : t = 0 ∨ t = 1 ∨ t = 2 ∨ t = 3 := by omega
          clear et ev
          rcases tt with rfl | rfl | rfl | rfl
          all_goals
            repeat ((conv => whnf); first | (refine brT ?_ ?_; · (first | exact re | (simp [*]; done))) | (refine brF ?_ ?_; · (first | exact re | (simp [*]; done))))

            conv => whnf
            refine SWP.loopS Try.f11.ntmps [0, 5, 6, 8, 9, 10, 16] (CR.I3 (.slice (some ⟨0, lo, none⟩) len cap) (CR.O lo n z) st i) (N := 4) [1, 2, 3] rfl rfl rfl ⟨0, _, _, _, _, _, rfl, rI, rfl, ?_⟩ ?_
            · simp only [rv, q2, f2, CR.pick4, if_true, if_false, eq_self, Nat.zero_ne_one, Nat.one_ne_zero, reduceCtorEq, Nat.reduceEqDiff]
              rfl
            rintro k' vs H ⟨j, a, b', c, d, V, hkj, hI, rfl, rfl⟩
            refine SWP.code envK13_ok 40 200 ?_
            obtain ⟨y0, y1, y2, y3, y4, y5⟩ := hI
            have jj : j = 0 ∨ j = 1 ∨ j = 2 ∨ j = 3 ∨ j = 4 := by omega
            have p3 : IntKind.i64.wrap 3 = 3 := by decide
            have p4 : IntKind.i64.wrap 4 = 4 := by decide
            have p5 : IntKind.i64.wrap 5 = 5 := by decide
            have p6 : IntKind.i64.wrap 6 = 6 := by decide
            rcases jj with rfl | rfl | rfl | rfl | rfl
            · repeat ((conv => whnf); first | (refine brT ?_ ?_; · (simp [*]; done)) | (refine brF ?_ ?_; · (simp [*]; done)))

              conv => whnf
              exact ⟨k' - 1, by omega, [1, 2, 3], rfl, rfl, _, rfl, 1, a, b', c, d, V, by omega, ⟨y0, y1, y2, y3, y4, y5⟩, rfl, rfl⟩
            · repeat ((conv => whnf); first | (refine brT ?_ ?_; · (simp [*]; done)) | (refine brF ?_ ?_; · (simp [*]; done)))

              conv => whnf
              exact ⟨k' - 1, by omega, [1, 2, 3], rfl, rfl, _, rfl, 2, a, b', c, d, V, by omega, ⟨y0, y1, y2, y3, y4, y5⟩, rfl, rfl⟩
            · repeat ((conv => whnf); first | (refine brT ?_ ?_; · (simp [*]; done)) | (refine brF ?_ ?_; · (simp [*]; done)))

              conv => whnf
              exact ⟨k' - 1, by omega, [1, 2, 3], rfl, rfl, _, rfl, 3, a, b', c, d, V, by omega, ⟨y0, y1, y2, y3, y4, y5⟩, rfl, rfl⟩
            · repeat ((conv => whnf); first | (refine brT ?_ ?_; · (simp [*]; done)) | (refine brF ?_ ?_; · (simp [*]; done)))

              conv => whnf
              exact ⟨k' - 1, by omega, [1, 2, 3], rfl, rfl, _, rfl, 4, a, b', c, d, V, by omega, ⟨y0, y1, y2, y3, y4, y5⟩, rfl, rfl⟩
            repeat ((conv => whnf); first | (refine brT ?_ ?_; · (simp [*]; done)) | (refine brF ?_ ?_; · (simp [*]; done)))

            conv => whnf
            exact ⟨k - 1, by omega, [1, 2, 3], rfl, rfl, _, rfl, i + 1, a, b', c, d, V, by omega, ⟨y0, y1, y2, y3, y4, y5⟩, by rw [f2]; rfl, rfl⟩
      · have f1 : ¬ (i : Int) < (len : Int) := by omega
        have i0 : i = len := by omega
        subst i0
        have hcl := hI.clk
        have w0 : IntKind.i64.wrap (st + (i : Int)) = st + i := by rw [wrapI (by omega) (by omega)]
        repeat ((conv => whnf); first | (refine brT ?_ ?_; · (simp [*]; done)) | (refine brF ?_ ?_; · (simp [*]; done)))

        conv => whnf
        exact congrArg Value.bool (by simp [*])
theorem claimRises_walk (W : World) (A : Option Addr) (len cap : Nat) (z : Nat → Int) (a1 : Int) (hA : IsCells W A len cap fun j => .int .u8 (z j)) (hu : ∀ j, j < len → (Lit.int .u8 (z j)).wf = true) (w1 : (Lit.int .u16 a1).wf = true) :
    Calls Try.prog 11 #[.slice A len cap, .int .u16 a1] W fun e w' => e = .returned (.bool true) ∧ Below W.heap.size W w' := by
  obtain ⟨sv, ⟨b, lo, n, c⟩, h1, h2, h3, h4⟩ := ints_arg hA 0
  simp only at h2
  subst h2
  exact law_walk_rows [⟨b, lo, n, intsC .u8 z lo⟩] (fun r hr => by simp at hr; subst hr; exact h3) (.cons (h4 _ _ (by simp) (by simp)) (.cons (.plain rfl) .nil)) (claimRises_fwp sv b lo n len z (fun j hj => wf_u8_bounds (hu j hj)) h1 a1 (wf_u16_bounds w1).1)
end Go.Proofs.Ytakbnbmbiaejiaa
