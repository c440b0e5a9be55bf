/- LeadTwo: the walk. -/
import Derived.Test.YtflhcknnjembjaaLeadRun
import Derived.Test.YtflhcknnjembjaaLeadC
import Derived.Test.YtflhcknnjembjaaRefN
import Derived.Test.YtflhcknnjembjaaOpq
import Derived.Test.YtflhcknnjembjaaKn16
namespace Go.Proofs.Ytflhcknnjembjaa
open Go.RowKit
variable {W : World}
noncomputable def env16 : Env Ext := (((((envK 26).add 18 (dt dRNext)).add 16 dMakeO).add 27 (dt dLNew)).add 28 dLStep).add 29 dLChunks
theorem env16_ok : env16.Ok Try.prog (means W) := (((((envK_ok known16).add fun args H v H' h => ok_RNext (by rw [← DT.out_of (dRNext args H)]; exact h)).add fun _ _ _ _ h => ok_MakeO h).add fun args H v H' h => ok_LNew (by rw [← DT.out_of (dLNew args H)]; exact h)).add fun _ _ _ _ h => ok_LStep h).add fun _ _ _ _ h => ok_LChunks h
namespace LD
abbrev at0 (i : Nat) : Value := .pointer (some ⟨i, 0, none⟩)
abbrev cf : Cf := ⟨1, 3, 600, 1000⟩
theorem n100 : nextF 100 false = 200 := by decide
theorem n200 : nextF 200 false = 400 := by decide
theorem n300 : nextF 300 false = 600 := by decide
def I1 (sv : Value) (O : Option (Bool × AObj Ext)) (a b more : Bool) (len k : Nat) (vs : List Value) (H : HX) : Prop :=
  ∃ (i : Nat) (s : St) (x y : LeadM) (V : Vw), k + i = len ∧ Two a b more x y V s ∧ vs = [.bool b, sv, .bool more, at0 1, at0 2, at0 3, .int .i64 i] ∧ H = [O, some (true, .ext (.arena V)), some (true, .ext (.leadm x)), some (true, .ext (.leadm y))]
def I2 (O : Option (Bool × AObj Ext)) (a b more : Bool) (k : Nat) (vs : List Value) (H : HX) : Prop :=
  ∃ (i : Nat) (s : St) (x y : LeadM) (V : Vw), k + i = 40 ∧ Two a b more x y V s ∧ good b more (run a b k s) = true ∧ vs = [.bool b, .bool more, at0 1, at0 2, at0 3, .int .i64 i] ∧ H = [O, some (true, .ext (.arena V)), some (true, .ext (.leadm x)), some (true, .ext (.leadm y))]
def E1 (O : Option (Bool × AObj Ext)) (a b more : Bool) (e : Exit) (vs : List Value) (H : HX) : Prop :=
  e = .exit 0 ∧ ∃ (s : St) (x y : LeadM) (V : Vw), Two a b more x y V s ∧ vs = [.bool b, .bool more, at0 1, at0 2, at0 3] ∧ H = [O, some (true, .ext (.arena V)), some (true, .ext (.leadm x)), some (true, .ext (.leadm y))]
theorem box_len (c : Cf) : c.box.ws.length = c.arena.ws.length := by rw [Cf.box_eq]
noncomputable def V0 (more : Bool) : Vw := match more with
  | false => (((cf.box.wr (W64 (W64 (W64 (3 + 1) + 4) + 2)) (nextF 100 false)).wr 102 (nextF 200 false)).wr 200 9)
  | true => (((((cf.box.wr (W64 (W64 (W64 (3 + 1) + 4) + 2)) (nextF 100 false)).wr 102 (nextF 200 false)).wr 200 9).wr 202 (nextF 300 false)).wr 300 20)
theorem V0_sim (more : Bool) : SimG (V0 more) (st0 more).g := by
  have hl : cf.box.ws.length = 600 := by rw [box_len]; simp [Cf.arena]
  have e1 : W64 (W64 (W64 (3 + 1) + 4) + 2) = 10 := by decide
  refine ⟨?_, fun c h1 h2 => ?_, fun c h1 h2 => ?_, fun c h1 h2 => ?_⟩
  · cases more <;> simp [V0, hl]
  all_goals
    rcases three h1 h2 with rfl | rfl | rfl <;> cases more
    all_goals
      simp only [V0, e1, n100, n200, n300]
      simp [sx_lies, GA.nx, GA.ld, GA.mt, st0, wv, mv]
theorem start (a b more : Bool) : Two a b more (LeadM.new cf 100 a) (LeadM.new cf 200 b) (V0 more) (st0 more) := by
  refine ⟨?_, ?_, V0_sim more, first_in a b more⟩
  · constructor <;> first | rfl | exact (show (0 : Int) = wv 0 from by decide)
  · constructor <;> first | rfl | exact (show (0 : Int) = wv 0 from by decide)
end LD
attribute [local irreducible] Vw.rd Vw.swaps Vw.inb nextF SWP FWP OWP Ent LeadM.step LD.run LD.reach LD.good
set_option maxRecDepth 100000 in
set_option maxHeartbeats 16000000 in
theorem leadTwo_fwp (one two more : Bool) (sv : Value) (b lo n len : Nat) (B : Nat → Bool) (hs : SlAt 0 len sv ⟨b, lo, n, boolsC B lo⟩) : FWP Try.prog (means W) 5 [.bool one, .bool two, sv, .bool more] [some (false, .ext (.old lo n (boolsC B lo)))] fun a _ => a = .bool true := by
  have hc : (⟨1, 3, 600, 1000⟩ : Cf).okB = true := by decide
  obtain ⟨rfl, rfl⟩ | ⟨rfl, rfl⟩ | ⟨cap, rfl, hn, hlen⟩ := hs
  all_goals try simp only at hn hlen
  · refine FWP.body env16_ok 40 Try.func5 rfl (by exact Nat.le_of_ble_eq_true rfl) ?_
    cases more
    all_goals
      repeat ((conv => whnf); first | (refine brT ?_ ?_; · (first | with_reducible exact Cf.okB_wf hc rfl | with_reducible exact Cf.okB_is hc rfl | (simp [*]; done))) | (refine brF ?_ ?_; · (first | with_reducible exact Cf.okB_wf hc rfl | with_reducible exact Cf.okB_is hc rfl | (simp [*]; done))))

    all_goals
      conv => whnf
    · refine SWP.cutS Try.f5.ntmps [1, 3, 10, 12, 13] (LD.E1 (some (false, .ext (.old lo n (boolsC B lo)))) one two false) (SWP.loopS Try.f5.ntmps [1, 2, 3, 10, 12, 13, 14] (LD.I1 (.slice none 0 0) (some (false, .ext (.old lo n (boolsC B lo)))) one two false 0) (N := 0) [2, 3, 4] rfl rfl rfl ?_ ?_) ?_
      · exact ⟨0, LD.st0 false, _, _, _, rfl, LD.start one two false, rfl, rfl⟩
      · rintro k vs H ⟨i, s, x, y, V, hk, hI, rfl, rfl⟩
        refine SWP.code env16_ok 40 200 ?_
        obtain ⟨lx, ly⟩ := hI.line
        have f1 : ¬ (i : Int) < 0 := by omega
        repeat ((conv => whnf); first | (refine brT ?_ ?_; · (simp [*]; done)) | (refine brF ?_ ?_; · (simp [*]; done)))

        conv => whnf
        exact ⟨[1, 2, 3], rfl, rfl, _, rfl, rfl, s, x, y, V, hI, rfl, rfl⟩
      · rintro e vs H ⟨rfl, s, x, y, V, hE, rfl, rfl⟩
        repeat ((conv => whnf); first | (refine brT ?_ ?_; · (simp [*]; done)) | (refine brF ?_ ?_; · (simp [*]; done)))

        conv => whnf
        refine SWP.loopS Try.f5.ntmps [1, 3, 10, 12, 13, 15] (LD.I2 (some (false, .ext (.old lo n (boolsC B lo)))) one two false) (N := 40) [1, 2, 3] rfl rfl rfl ⟨0, s, x, y, V, rfl, hE, (LD.fines hE.at').2.2.2.2, rfl, rfl⟩ ?_
        rintro k vs H ⟨i, s, x, y, V, hk, hI, hG, rfl, rfl⟩
        refine SWP.code env16_ok 40 200 ?_
        obtain ⟨lx, ly⟩ := hI.line
        have gx : (Nat.ble x.line 11 && !Nat.beq 2 1) = true := by rw [Nat.ble_eq_true_of_le lx]; rfl
        have gy : (Nat.ble y.line 11 && !Nat.beq 3 1) = true := by rw [Nat.ble_eq_true_of_le ly]; rfl
        by_cases hi : i < 40
        · have f1 : (i : Int) < 40 := by omega
          have f2 : IntKind.i64.wrap ((i : Int) + 1) = (i : Int) + 1 := wrapI (by omega) (by omega)
          repeat ((conv => whnf); first | (refine brT ?_ ?_; · (first | exact gx | exact gy | (simp [*]; done))) | (refine brF ?_ ?_; · (first | exact gx | exact gy | (simp [*]; done))))

          conv => whnf
          obtain ⟨k, rfl⟩ : ∃ j, k = j + 1 := ⟨k - 1, by omega⟩
          exact ⟨k, by omega, [1, 2, 3], rfl, rfl, _, rfl, i + 1, _, _, _, _, by omega, hI.stepX.stepY, LD.run_succ hG, by rw [f2]; rfl, rfl⟩
        · have f1 : ¬ (i : Int) < 40 := by omega
          have k0 : k = 0 := by omega
          subst k0
          obtain ⟨a1, a2, a3, a4, hr⟩ := LD.ends hI hG
          rcases hr with ⟨b1, b2, b3, b4, b5⟩ | ⟨b1, b2, b3, b4, ⟨c1, c2, c3, c4, c5⟩ | ⟨c1, c2⟩⟩
          · repeat ((conv => whnf); first | (refine brT ?_ ?_; · (simp [*]; done)) | (refine brF ?_ ?_; · (simp [*]; done)))

            conv => whnf
            exact congrArg Value.bool (by simp [*])
          · (try cases c2)
            all_goals
              repeat ((conv => whnf); first | (refine brT ?_ ?_; · (simp [*]; done)) | (refine brF ?_ ?_; · (simp [*]; done)))

              conv => whnf
              exact congrArg Value.bool (by simp [*])
          · repeat ((conv => whnf); first | (refine brT ?_ ?_; · (simp [*]; done)) | (refine brF ?_ ?_; · (simp [*]; done)))

            conv => whnf
            exact congrArg Value.bool (by simp [*])
    · refine SWP.cutS Try.f5.ntmps [1, 3, 10, 12, 13] (LD.E1 (some (false, .ext (.old lo n (boolsC B lo)))) one two true) (SWP.loopS Try.f5.ntmps [1, 2, 3, 10, 12, 13, 14] (LD.I1 (.slice none 0 0) (some (false, .ext (.old lo n (boolsC B lo)))) one two true 0) (N := 0) [2, 3, 4] rfl rfl rfl ?_ ?_) ?_
      · exact ⟨0, LD.st0 true, _, _, _, rfl, LD.start one two true, rfl, rfl⟩
      · rintro k vs H ⟨i, s, x, y, V, hk, hI, rfl, rfl⟩
        refine SWP.code env16_ok 40 200 ?_
        obtain ⟨lx, ly⟩ := hI.line
        have f1 : ¬ (i : Int) < 0 := by omega
        repeat ((conv => whnf); first | (refine brT ?_ ?_; · (simp [*]; done)) | (refine brF ?_ ?_; · (simp [*]; done)))

        conv => whnf
        exact ⟨[1, 2, 3], rfl, rfl, _, rfl, rfl, s, x, y, V, hI, rfl, rfl⟩
      · rintro e vs H ⟨rfl, s, x, y, V, hE, rfl, rfl⟩
        repeat ((conv => whnf); first | (refine brT ?_ ?_; · (simp [*]; done)) | (refine brF ?_ ?_; · (simp [*]; done)))

        conv => whnf
        refine SWP.loopS Try.f5.ntmps [1, 3, 10, 12, 13, 15] (LD.I2 (some (false, .ext (.old lo n (boolsC B lo)))) one two true) (N := 40) [1, 2, 3] rfl rfl rfl ⟨0, s, x, y, V, rfl, hE, (LD.fines hE.at').2.2.2.2, rfl, rfl⟩ ?_
        rintro k vs H ⟨i, s, x, y, V, hk, hI, hG, rfl, rfl⟩
        refine SWP.code env16_ok 40 200 ?_
        obtain ⟨lx, ly⟩ := hI.line
        have gx : (Nat.ble x.line 11 && !Nat.beq 2 1) = true := by rw [Nat.ble_eq_true_of_le lx]; rfl
        have gy : (Nat.ble y.line 11 && !Nat.beq 3 1) = true := by rw [Nat.ble_eq_true_of_le ly]; rfl
        by_cases hi : i < 40
        · have f1 : (i : Int) < 40 := by omega
          have f2 : IntKind.i64.wrap ((i : Int) + 1) = (i : Int) + 1 := wrapI (by omega) (by omega)
          repeat ((conv => whnf); first | (refine brT ?_ ?_; · (first | exact gx | exact gy | (simp [*]; done))) | (refine brF ?_ ?_; · (first | exact gx | exact gy | (simp [*]; done))))

          conv => whnf
          obtain ⟨k, rfl⟩ : ∃ j, k = j + 1 := ⟨k - 1, by omega⟩
          exact ⟨k, by omega, [1, 2, 3], rfl, rfl, _, rfl, i + 1, _, _, _, _, by omega, hI.stepX.stepY, LD.run_succ hG, by rw [f2]; rfl, rfl⟩
        · have f1 : ¬ (i : Int) < 40 := by omega
          have k0 : k = 0 := by omega
          subst k0
          obtain ⟨a1, a2, a3, a4, hr⟩ := LD.ends hI hG
          rcases hr with ⟨b1, b2, b3, b4, b5⟩ | ⟨b1, b2, b3, b4, ⟨c1, c2, c3, c4, c5⟩ | ⟨c1, c2⟩⟩
          · repeat ((conv => whnf); first | (refine brT ?_ ?_; · (simp [*]; done)) | (refine brF ?_ ?_; · (simp [*]; done)))

            conv => whnf
            exact congrArg Value.bool (by simp [*])
          · (try cases c2)
            all_goals
              repeat ((conv => whnf); first | (refine brT ?_ ?_; · (simp [*]; done)) | (refine brF ?_ ?_; · (simp [*]; done)))

              conv => whnf
              exact congrArg Value.bool (by simp [*])
          · repeat ((conv => whnf); first | (refine brT ?_ ?_; · (simp [*]; done)) | (refine brF ?_ ?_; · (simp [*]; done)))

            conv => whnf
            exact congrArg Value.bool (by simp [*])
  · refine FWP.body env16_ok 40 Try.func5 rfl (by exact Nat.le_of_ble_eq_true rfl) ?_
    cases more
    all_goals
      repeat ((conv => whnf); first | (refine brT ?_ ?_; · (first | with_reducible exact Cf.okB_wf hc rfl | with_reducible exact Cf.okB_is hc rfl | (simp [*]; done))) | (refine brF ?_ ?_; · (first | with_reducible exact Cf.okB_wf hc rfl | with_reducible exact Cf.okB_is hc rfl | (simp [*]; done))))

    all_goals
      conv => whnf
    · refine SWP.cutS Try.f5.ntmps [1, 3, 10, 12, 13] (LD.E1 (some (false, .ext (.old lo n (boolsC B lo)))) one two false) (SWP.loopS Try.f5.ntmps [1, 2, 3, 10, 12, 13, 14] (LD.I1 (.slice (some ⟨0, 0, some 0⟩) 0 1) (some (false, .ext (.old lo n (boolsC B lo)))) one two false 0) (N := 0) [2, 3, 4] rfl rfl rfl ?_ ?_) ?_
      · exact ⟨0, LD.st0 false, _, _, _, rfl, LD.start one two false, rfl, rfl⟩
      · rintro k vs H ⟨i, s, x, y, V, hk, hI, rfl, rfl⟩
        refine SWP.code env16_ok 40 200 ?_
        obtain ⟨lx, ly⟩ := hI.line
        have f1 : ¬ (i : Int) < 0 := by omega
        repeat ((conv => whnf); first | (refine brT ?_ ?_; · (simp [*]; done)) | (refine brF ?_ ?_; · (simp [*]; done)))

        conv => whnf
        exact ⟨[1, 2, 3], rfl, rfl, _, rfl, rfl, s, x, y, V, hI, rfl, rfl⟩
      · rintro e vs H ⟨rfl, s, x, y, V, hE, rfl, rfl⟩
        repeat ((conv => whnf); first | (refine brT ?_ ?_; · (simp [*]; done)) | (refine brF ?_ ?_; · (simp [*]; done)))

        conv => whnf
        refine SWP.loopS Try.f5.ntmps [1, 3, 10, 12, 13, 15] (LD.I2 (some (false, .ext (.old lo n (boolsC B lo)))) one two false) (N := 40) [1, 2, 3] rfl rfl rfl ⟨0, s, x, y, V, rfl, hE, (LD.fines hE.at').2.2.2.2, rfl, rfl⟩ ?_
        rintro k vs H ⟨i, s, x, y, V, hk, hI, hG, rfl, rfl⟩
        refine SWP.code env16_ok 40 200 ?_
        obtain ⟨lx, ly⟩ := hI.line
        have gx : (Nat.ble x.line 11 && !Nat.beq 2 1) = true := by rw [Nat.ble_eq_true_of_le lx]; rfl
        have gy : (Nat.ble y.line 11 && !Nat.beq 3 1) = true := by rw [Nat.ble_eq_true_of_le ly]; rfl
        by_cases hi : i < 40
        · have f1 : (i : Int) < 40 := by omega
          have f2 : IntKind.i64.wrap ((i : Int) + 1) = (i : Int) + 1 := wrapI (by omega) (by omega)
          repeat ((conv => whnf); first | (refine brT ?_ ?_; · (first | exact gx | exact gy | (simp [*]; done))) | (refine brF ?_ ?_; · (first | exact gx | exact gy | (simp [*]; done))))

          conv => whnf
          obtain ⟨k, rfl⟩ : ∃ j, k = j + 1 := ⟨k - 1, by omega⟩
          exact ⟨k, by omega, [1, 2, 3], rfl, rfl, _, rfl, i + 1, _, _, _, _, by omega, hI.stepX.stepY, LD.run_succ hG, by rw [f2]; rfl, rfl⟩
        · have f1 : ¬ (i : Int) < 40 := by omega
          have k0 : k = 0 := by omega
          subst k0
          obtain ⟨a1, a2, a3, a4, hr⟩ := LD.ends hI hG
          rcases hr with ⟨b1, b2, b3, b4, b5⟩ | ⟨b1, b2, b3, b4, ⟨c1, c2, c3, c4, c5⟩ | ⟨c1, c2⟩⟩
          · repeat ((conv => whnf); first | (refine brT ?_ ?_; · (simp [*]; done)) | (refine brF ?_ ?_; · (simp [*]; done)))

            conv => whnf
            exact congrArg Value.bool (by simp [*])
          · (try cases c2)
            all_goals
              repeat ((conv => whnf); first | (refine brT ?_ ?_; · (simp [*]; done)) | (refine brF ?_ ?_; · (simp [*]; done)))

              conv => whnf
              exact congrArg Value.bool (by simp [*])
          · repeat ((conv => whnf); first | (refine brT ?_ ?_; · (simp [*]; done)) | (refine brF ?_ ?_; · (simp [*]; done)))

            conv => whnf
            exact congrArg Value.bool (by simp [*])
    · refine SWP.cutS Try.f5.ntmps [1, 3, 10, 12, 13] (LD.E1 (some (false, .ext (.old lo n (boolsC B lo)))) one two true) (SWP.loopS Try.f5.ntmps [1, 2, 3, 10, 12, 13, 14] (LD.I1 (.slice (some ⟨0, 0, some 0⟩) 0 1) (some (false, .ext (.old lo n (boolsC B lo)))) one two true 0) (N := 0) [2, 3, 4] rfl rfl rfl ?_ ?_) ?_
      · exact ⟨0, LD.st0 true, _, _, _, rfl, LD.start one two true, rfl, rfl⟩
      · rintro k vs H ⟨i, s, x, y, V, hk, hI, rfl, rfl⟩
        refine SWP.code env16_ok 40 200 ?_
        obtain ⟨lx, ly⟩ := hI.line
        have f1 : ¬ (i : Int) < 0 := by omega
        repeat ((conv => whnf); first | (refine brT ?_ ?_; · (simp [*]; done)) | (refine brF ?_ ?_; · (simp [*]; done)))

        conv => whnf
        exact ⟨[1, 2, 3], rfl, rfl, _, rfl, rfl, s, x, y, V, hI, rfl, rfl⟩
      · rintro e vs H ⟨rfl, s, x, y, V, hE, rfl, rfl⟩
        repeat ((conv => whnf); first | (refine brT ?_ ?_; · (simp [*]; done)) | (refine brF ?_ ?_; · (simp [*]; done)))

        conv => whnf
        refine SWP.loopS Try.f5.ntmps [1, 3, 10, 12, 13, 15] (LD.I2 (some (false, .ext (.old lo n (boolsC B lo)))) one two true) (N := 40) [1, 2, 3] rfl rfl rfl ⟨0, s, x, y, V, rfl, hE, (LD.fines hE.at').2.2.2.2, rfl, rfl⟩ ?_
        rintro k vs H ⟨i, s, x, y, V, hk, hI, hG, rfl, rfl⟩
        refine SWP.code env16_ok 40 200 ?_
        obtain ⟨lx, ly⟩ := hI.line
        have gx : (Nat.ble x.line 11 && !Nat.beq 2 1) = true := by rw [Nat.ble_eq_true_of_le lx]; rfl
        have gy : (Nat.ble y.line 11 && !Nat.beq 3 1) = true := by rw [Nat.ble_eq_true_of_le ly]; rfl
        by_cases hi : i < 40
        · have f1 : (i : Int) < 40 := by omega
          have f2 : IntKind.i64.wrap ((i : Int) + 1) = (i : Int) + 1 := wrapI (by omega) (by omega)
          repeat ((conv => whnf); first | (refine brT ?_ ?_; · (first | exact gx | exact gy | (simp [*]; done))) | (refine brF ?_ ?_; · (first | exact gx | exact gy | (simp [*]; done))))

          conv => whnf
          obtain ⟨k, rfl⟩ : ∃ j, k = j + 1 := ⟨k - 1, by omega⟩
          exact ⟨k, by omega, [1, 2, 3], rfl, rfl, _, rfl, i + 1, _, _, _, _, by omega, hI.stepX.stepY, LD.run_succ hG, by rw [f2]; rfl, rfl⟩
        · have f1 : ¬ (i : Int) < 40 := by omega
          have k0 : k = 0 := by omega
          subst k0
          obtain ⟨a1, a2, a3, a4, hr⟩ := LD.ends hI hG
          rcases hr with ⟨b1, b2, b3, b4, b5⟩ | ⟨b1, b2, b3, b4, ⟨c1, c2, c3, c4, c5⟩ | ⟨c1, c2⟩⟩
          · repeat ((conv => whnf); first | (refine brT ?_ ?_; · (simp [*]; done)) | (refine brF ?_ ?_; · (simp [*]; done)))

            conv => whnf
            exact congrArg Value.bool (by simp [*])
          · (try cases c2)
            all_goals
              repeat ((conv => whnf); first | (refine brT ?_ ?_; · (simp [*]; done)) | (refine brF ?_ ?_; · (simp [*]; done)))

              conv => whnf
              exact congrArg Value.bool (by simp [*])
          · repeat ((conv => whnf); first | (refine brT ?_ ?_; · (simp [*]; done)) | (refine brF ?_ ?_; · (simp [*]; done)))

            conv => whnf
            exact congrArg Value.bool (by simp [*])
  · refine FWP.body env16_ok 40 Try.func5 rfl (by exact Nat.le_of_ble_eq_true rfl) ?_
    by_cases hbig : 40 < len
    · have hb : (40 : Int) < (len : Int) := by omega
      repeat ((conv => whnf); first | (refine brT ?_ ?_; · (simp [*]; done)) | (refine brF ?_ ?_; · (simp [*]; done)))

      conv => whnf
      exact congrArg Value.bool (by simp [*])
    have hb : ¬ (40 : Int) < (len : Int) := by omega
    cases more
    all_goals
      repeat ((conv => whnf); first | (refine brT ?_ ?_; · (first | with_reducible exact Cf.okB_wf hc rfl | with_reducible exact Cf.okB_is hc rfl | (simp [*]; done))) | (refine brF ?_ ?_; · (first | with_reducible exact Cf.okB_wf hc rfl | with_reducible exact Cf.okB_is hc rfl | (simp [*]; done))))

    all_goals
      conv => whnf
    · refine SWP.cutS Try.f5.ntmps [1, 3, 10, 12, 13] (LD.E1 (some (false, .ext (.old lo n (boolsC B lo)))) one two false) (SWP.loopS Try.f5.ntmps [1, 2, 3, 10, 12, 13, 14] (LD.I1 (.slice (some ⟨0, lo, none⟩) len cap) (some (false, .ext (.old lo n (boolsC B lo)))) one two false len) (N := len) [2, 3, 4] rfl rfl rfl ?_ ?_) ?_
      · exact ⟨0, LD.st0 false, _, _, _, rfl, LD.start one two false, rfl, rfl⟩
      · rintro k vs H ⟨i, s, x, y, V, hk, hI, rfl, rfl⟩
        refine SWP.code env16_ok 40 200 ?_
        obtain ⟨lx, ly⟩ := hI.line
        have gx : (Nat.ble x.line 11 && !Nat.beq 2 1) = true := by rw [Nat.ble_eq_true_of_le lx]; rfl
        have gy : (Nat.ble y.line 11 && !Nat.beq 3 1) = true := by rw [Nat.ble_eq_true_of_le ly]; rfl
        by_cases hi : i < len
        · have f1 : (i : Int) < (len : Int) := by omega
          have f2 : IntKind.i64.wrap ((i : Int) + 1) = (i : Int) + 1 := wrapI (by omega) (by omega)
          have f3 : decide (lo ≤ lo + (i : Int).toNat * 1 ∧ lo + (i : Int).toNat * 1 < n) = true := decide_eq_true ⟨by omega, by omega⟩
          have f5 : decide ((0:Int) ≤ (i:Int) ∧ (i:Int) < (len:Int)) = true := decide_eq_true ⟨by omega, by omega⟩
          cases hB : B (lo + (i : Int).toNat * 1 - lo) with
          | true =>
            repeat ((conv => whnf); first | (refine brT ?_ ?_; · (first | exact gx | exact gy | exact hB | exact f3 | (simp [*]; done))) | (refine brF ?_ ?_; · (first | exact gx | exact gy | exact hB | exact f3 | (simp [*]; done))) | (rw [f5]))

            conv => whnf
            exact ⟨k - 1, by omega, [1, 2, 3], rfl, rfl, _, rfl, i + 1, _, _, _, _, by omega, hI.stepX, by rw [f2]; rfl, rfl⟩
          | false =>
            repeat ((conv => whnf); first | (refine brT ?_ ?_; · (first | exact gx | exact gy | exact hB | exact f3 | (simp [*]; done))) | (refine brF ?_ ?_; · (first | exact gx | exact gy | exact hB | exact f3 | (simp [*]; done))) | (rw [f5]))

            conv => whnf
            exact ⟨k - 1, by omega, [1, 2, 3], rfl, rfl, _, rfl, i + 1, _, _, _, _, by omega, hI.stepY, by rw [f2]; rfl, rfl⟩
        · have f1 : ¬ (i : Int) < (len : Int) := by omega
          repeat ((conv => whnf); first | (refine brT ?_ ?_; · (simp [*]; done)) | (refine brF ?_ ?_; · (simp [*]; done)))

          conv => whnf
          exact ⟨[1, 2, 3], rfl, rfl, _, rfl, rfl, s, x, y, V, hI, rfl, rfl⟩
      · rintro e vs H ⟨rfl, s, x, y, V, hE, rfl, rfl⟩
        repeat ((conv => whnf); first | (refine brT ?_ ?_; · (simp [*]; done)) | (refine brF ?_ ?_; · (simp [*]; done)))

        conv => whnf
        refine SWP.loopS Try.f5.ntmps [1, 3, 10, 12, 13, 15] (LD.I2 (some (false, .ext (.old lo n (boolsC B lo)))) one two false) (N := 40) [1, 2, 3] rfl rfl rfl ⟨0, s, x, y, V, rfl, hE, (LD.fines hE.at').2.2.2.2, rfl, rfl⟩ ?_
        rintro k vs H ⟨i, s, x, y, V, hk, hI, hG, rfl, rfl⟩
        refine SWP.code env16_ok 40 200 ?_
        obtain ⟨lx, ly⟩ := hI.line
        have gx : (Nat.ble x.line 11 && !Nat.beq 2 1) = true := by rw [Nat.ble_eq_true_of_le lx]; rfl
        have gy : (Nat.ble y.line 11 && !Nat.beq 3 1) = true := by rw [Nat.ble_eq_true_of_le ly]; rfl
        by_cases hi : i < 40
        · have f1 : (i : Int) < 40 := by omega
          have f2 : IntKind.i64.wrap ((i : Int) + 1) = (i : Int) + 1 := wrapI (by omega) (by omega)
          repeat ((conv => whnf); first | (refine brT ?_ ?_; · (first | exact gx | exact gy | (simp [*]; done))) | (refine brF ?_ ?_; · (first | exact gx | exact gy | (simp [*]; done))))

          conv => whnf
          obtain ⟨k, rfl⟩ : ∃ j, k = j + 1 := ⟨k - 1, by omega⟩
          exact ⟨k, by omega, [1, 2, 3], rfl, rfl, _, rfl, i + 1, _, _, _, _, by omega, hI.stepX.stepY, LD.run_succ hG, by rw [f2]; rfl, rfl⟩
        · have f1 : ¬ (i : Int) < 40 := by omega
          have k0 : k = 0 := by omega
          subst k0
          obtain ⟨a1, a2, a3, a4, hr⟩ := LD.ends hI hG
          rcases hr with ⟨b1, b2, b3, b4, b5⟩ | ⟨b1, b2, b3, b4, ⟨c1, c2, c3, c4, c5⟩ | ⟨c1, c2⟩⟩
          · repeat ((conv => whnf); first | (refine brT ?_ ?_; · (simp [*]; done)) | (refine brF ?_ ?_; · (simp [*]; done)))

            conv => whnf
            exact congrArg Value.bool (by simp [*])
          · (try cases c2)
            all_goals
              repeat ((conv => whnf); first | (refine brT ?_ ?_; · (simp [*]; done)) | (refine brF ?_ ?_; · (simp [*]; done)))

              conv => whnf
              exact congrArg Value.bool (by simp [*])
          · repeat ((conv => whnf); first | (refine brT ?_ ?_; · (simp [*]; done)) | (refine brF ?_ ?_; · (simp [*]; done)))

            conv => whnf
            exact congrArg Value.bool (by simp [*])
    · refine SWP.cutS Try.f5.ntmps [1, 3, 10, 12, 13] (LD.E1 (some (false, .ext (.old lo n (boolsC B lo)))) one two true) (SWP.loopS Try.f5.ntmps [1, 2, 3, 10, 12, 13, 14] (LD.I1 (.slice (some ⟨0, lo, none⟩) len cap) (some (false, .ext (.old lo n (boolsC B lo)))) one two true len) (N := len) [2, 3, 4] rfl rfl rfl ?_ ?_) ?_
      · exact ⟨0, LD.st0 true, _, _, _, rfl, LD.start one two true, rfl, rfl⟩
      · rintro k vs H ⟨i, s, x, y, V, hk, hI, rfl, rfl⟩
        refine SWP.code env16_ok 40 200 ?_
        obtain ⟨lx, ly⟩ := hI.line
        have gx : (Nat.ble x.line 11 && !Nat.beq 2 1) = true := by rw [Nat.ble_eq_true_of_le lx]; rfl
        have gy : (Nat.ble y.line 11 && !Nat.beq 3 1) = true := by rw [Nat.ble_eq_true_of_le ly]; rfl
        by_cases hi : i < len
        · have f1 : (i : Int) < (len : Int) := by omega
          have f2 : IntKind.i64.wrap ((i : Int) + 1) = (i : Int) + 1 := wrapI (by omega) (by omega)
          have f3 : decide (lo ≤ lo + (i : Int).toNat * 1 ∧ lo + (i : Int).toNat * 1 < n) = true := decide_eq_true ⟨by omega, by omega⟩
          have f5 : decide ((0:Int) ≤ (i:Int) ∧ (i:Int) < (len:Int)) = true := decide_eq_true ⟨by omega, by omega⟩
          cases hB : B (lo + (i : Int).toNat * 1 - lo) with
          | true =>
            repeat ((conv => whnf); first | (refine brT ?_ ?_; · (first | exact gx | exact gy | exact hB | exact f3 | (simp [*]; done))) | (refine brF ?_ ?_; · (first | exact gx | exact gy | exact hB | exact f3 | (simp [*]; done))) | (rw [f5]))

            conv => whnf
            exact ⟨k - 1, by omega, [1, 2, 3], rfl, rfl, _, rfl, i + 1, _, _, _, _, by omega, hI.stepX, by rw [f2]; rfl, rfl⟩
          | false =>
            repeat ((conv => whnf); first | (refine brT ?_ ?_; · (first | exact gx | exact gy | exact hB | exact f3 | (simp [*]; done))) | (refine brF ?_ ?_; · (first | exact gx | exact gy | exact hB | exact f3 | (simp [*]; done))) | (rw [f5]))

            conv => whnf
            exact ⟨k - 1, by omega, [1, 2, 3], rfl, rfl, _, rfl, i + 1, _, _, _, _, by omega, hI.stepY, by rw [f2]; rfl, rfl⟩
        · have f1 : ¬ (i : Int) < (len : Int) := by omega
          repeat ((conv => whnf); first | (refine brT ?_ ?_; · (simp [*]; done)) | (refine brF ?_ ?_; · (simp [*]; done)))

          conv => whnf
          exact ⟨[1, 2, 3], rfl, rfl, _, rfl, rfl, s, x, y, V, hI, rfl, rfl⟩
      · rintro e vs H ⟨rfl, s, x, y, V, hE, rfl, rfl⟩
        repeat ((conv => whnf); first | (refine brT ?_ ?_; · (simp [*]; done)) | (refine brF ?_ ?_; · (simp [*]; done)))

        conv => whnf
        refine SWP.loopS Try.f5.ntmps [1, 3, 10, 12, 13, 15] (LD.I2 (some (false, .ext (.old lo n (boolsC B lo)))) one two true) (N := 40) [1, 2, 3] rfl rfl rfl ⟨0, s, x, y, V, rfl, hE, (LD.fines hE.at').2.2.2.2, rfl, rfl⟩ ?_
        rintro k vs H ⟨i, s, x, y, V, hk, hI, hG, rfl, rfl⟩
        refine SWP.code env16_ok 40 200 ?_
        obtain ⟨lx, ly⟩ := hI.line
        have gx : (Nat.ble x.line 11 && !Nat.beq 2 1) = true := by rw [Nat.ble_eq_true_of_le lx]; rfl
        have gy : (Nat.ble y.line 11 && !Nat.beq 3 1) = true := by rw [Nat.ble_eq_true_of_le ly]; rfl
        by_cases hi : i < 40
        · have f1 : (i : Int) < 40 := by omega
          have f2 : IntKind.i64.wrap ((i : Int) + 1) = (i : Int) + 1 := wrapI (by omega) (by omega)
          repeat ((conv => whnf); first | (refine brT ?_ ?_; · (first | exact gx | exact gy | (simp [*]; done))) | (refine brF ?_ ?_; · (first | exact gx | exact gy | (simp [*]; done))))

          conv => whnf
          obtain ⟨k, rfl⟩ : ∃ j, k = j + 1 := ⟨k - 1, by omega⟩
          exact ⟨k, by omega, [1, 2, 3], rfl, rfl, _, rfl, i + 1, _, _, _, _, by omega, hI.stepX.stepY, LD.run_succ hG, by rw [f2]; rfl, rfl⟩
        · have f1 : ¬ (i : Int) < 40 := by omega
          have k0 : k = 0 := by omega
          subst k0
          obtain ⟨a1, a2, a3, a4, hr⟩ := LD.ends hI hG
          rcases hr with ⟨b1, b2, b3, b4, b5⟩ | ⟨b1, b2, b3, b4, ⟨c1, c2, c3, c4, c5⟩ | ⟨c1, c2⟩⟩
          · repeat ((conv => whnf); first | (refine brT ?_ ?_; · (simp [*]; done)) | (refine brF ?_ ?_; · (simp [*]; done)))

            conv => whnf
            exact congrArg Value.bool (by simp [*])
          · (try cases c2)
            all_goals
              repeat ((conv => whnf); first | (refine brT ?_ ?_; · (simp [*]; done)) | (refine brF ?_ ?_; · (simp [*]; done)))

              conv => whnf
              exact congrArg Value.bool (by simp [*])
          · repeat ((conv => whnf); first | (refine brT ?_ ?_; · (simp [*]; done)) | (refine brF ?_ ?_; · (simp [*]; done)))

            conv => whnf
            exact congrArg Value.bool (by simp [*])
theorem leadTwo_walk (W : World) (a0 a1 : Bool) (A : Option Addr) (len cap : Nat) (B : Nat → Bool) (a3 : Bool) (hA : IsCells W A len cap fun j => .bool (B j)) :
    Calls Try.prog 5 #[.bool a0, .bool a1, .slice A len cap, .bool a3] W fun e w' => e = .returned (.bool true) ∧ Below W.heap.size W w' := by
  obtain ⟨sv, ⟨b, lo, n, c⟩, h1, h2, h3, h4⟩ := bools_arg hA 0
  simp only at h2
  subst h2
  exact law_walk_rows [⟨b, lo, n, boolsC B lo⟩] (fun r hr => by simp at hr; subst hr; exact h3) (.cons (.plain rfl) (.cons (.plain rfl) (.cons (h4 _ _ (by simp) (by simp)) (.cons (.plain rfl) .nil)))) (leadTwo_fwp a0 a1 a3 sv b lo n len B h1)
end Go.Proofs.Ytflhcknnjembjaa
