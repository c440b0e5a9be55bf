/- SpliceRow: the walk. -/
import Derived.Test.YtflhcknnjembjaaSpliceP
import Derived.Test.YtflhcknnjembjaaKn20
namespace Go.Proofs.Ytflhcknnjembjaa
open Go.RowKit
variable {W : World}
noncomputable def envR : Env Ext := ((env20.add 21 (dt dPNew)).add 22 dPStep).add 24 (dt dPStuck)
theorem envR_ok : envR.Ok Try.prog (means W) := ((env20_ok.add fun args H v H' h => ok_PNew (by rw [← DT.out_of (dPNew args H)]; exact h)).add fun _ _ _ _ h => ok_PStep h).add fun args H v H' h => ok_PStuck (by rw [← DT.out_of (dPStuck args H)]; exact h)
namespace SR
abbrev at0 (i : Nat) : Value := .pointer (some ⟨i, 0, none⟩)
abbrev Co : Option (Bool × AObj Ext) := some (true, AObj.cells [.int .i64 1, .int .i64 3, .int .i64 2000, .int .i64 1000] 24)
abbrev Ao (V : Vw) : Option (Bool × AObj Ext) := some (true, .ext (.arena V))
abbrev Lo (n : Nat) (f : Nat → Int) : Option (Bool × AObj Ext) := some (true, .ext (.row 3 1 n (.ints .i64 f)))
abbrev Xo (x : SplM) : Option (Bool × AObj Ext) := some (true, .ext (.splm x))
abbrev sl (p n : Nat) : Value := .slice (some ⟨p, 0, some 0⟩) n 0
abbrev v1 (a1 a2 : Int) (mk : Bool) (k : Nat) (l : Value) (i : Nat) : List Value := [.int .u8 a1, .int .u8 a2, .bool mk, at0 0, at0 1, .int .i64 k, l, .int .i64 i]
def I1 (a1 a2 : Int) (mk : Bool) (k q : Nat) (vs : List Value) (H : HX) : Prop :=
  ∃ (i : Nat) (V : Vw), q + i = k ∧ SimV V (bL k i) ∧ ((i < 1 ∧ vs = v1 a1 a2 mk k (.slice none 0 0) i ∧ H = [Co, Ao V]) ∨
    (0 < i ∧ ∃ f : Nat → Int, (∀ q, q < i → f q = 100 + 50 * (q : Int)) ∧ vs = v1 a1 a2 mk k (sl 2 i) i ∧ H = [Co, Ao V, Lo i f]))
abbrev v2 (mk : Bool) (k j h t : Nat) : List Value := [.bool mk, at0 0, at0 1, .int .i64 k, sl 2 k, .int .i64 j, .int .i64 h, at0 3, .int .i64 t]
def I2 (mk : Bool) (k j h : Nat) (f : Nat → Int) (r : Nat) (vs : List Value) (H : HX) : Prop :=
  ∃ (t : Nat) (x : SplM) (V : Vw) (L : List (Int × Int)), r + t = 100 ∧ SimV V L ∧ runsB k j h mk r x L = true ∧ vs = v2 mk k j h t ∧ H = [Co, Ao V, Lo k f, Xo x]
def I3 (k j : Nat) (st : Int) (f : Nat → Int) (x : SplM) (V : Vw) (L : List (Int × Int)) (r : Nat) (vs : List Value) (H : HX) : Prop :=
  ∃ t : Nat, r + t = k ∧ vs = [at0 1, .int .i64 k, sl 2 k, .int .i64 j, at0 3, .int .i64 st, .int .i64 (chainL L t), .int .i64 t] ∧ H = [Co, Ao V, Lo k f, Xo x]
theorem addr_of {f : Nat → Int} {k j : Nat} (hf : ∀ q, q < k → f q = 100 + 50 * (q : Int)) (hj : j < k) {x : Int} (hx : x = (j : Int)) : f (0 + x.toNat * 1) = 100 + 50 * (j : Int) := by
  subst hx
  rw [show 0 + ((j : Int)).toNat * 1 = j from by simp, hf j hj]
end SR
attribute [local irreducible] Vw.rd Vw.swaps Vw.inb nextF SWP FWP OWP Ent SplM.step SR.chainL SR.rdL SR.stepL SR.runsB SR.chk
set_option maxRecDepth 100000 in
set_option maxHeartbeats 16000000 in
theorem spliceRow_fwp (a0 a1 a2 : Int) (mk : Bool) (h0 : 0 ≤ a0) (h1 : 0 ≤ a1) (h1' : a1 ≤ 255) (h2 : 0 ≤ a2) (h2' : a2 ≤ 255) : FWP Try.prog (means W) 3 [.int .u8 a0, .int .u8 a1, .int .u8 a2, .bool mk] [] fun a _ => a = .bool true := by
  have hc : (⟨1, 3, 2000, 1000⟩ : Cf).okB = true := by decide
  obtain ⟨k, ek, k1, k8⟩ : ∃ k : Nat, IntKind.i64.wrap (IntKind.i64.wrap (a0.tmod 8) + 1) = (k : Int) ∧ 1 ≤ k ∧ k ≤ 8 := by
    refine ⟨(a0 % 8 + 1).toNat, ?_, by omega, by omega⟩
    rw [tmodI h0, wrapI (x := a0 % 8) (by omega) (by omega), wrapI (by omega) (by omega)]; omega
  have z0 : 3 < Try.prog.types.size := Nat.le_of_ble_eq_true (by kernel_rfl)
  have z1 : (Try.prog.types[3]'z0).size = 1 := by kernel_rfl
  refine FWP.body envR_ok 40 Try.func3 rfl (by exact Nat.le_of_ble_eq_true rfl) ?_
  repeat ((conv => whnf); first | (refine brT ?_ ?_; · (first | with_reducible exact Cf.okB_wf hc rfl | with_reducible exact Cf.okB_is hc rfl | (simp [*]; done))) | (refine brF ?_ ?_; · (first | with_reducible exact Cf.okB_wf hc rfl | with_reducible exact Cf.okB_is hc rfl | (simp [*]; done))))

  conv => whnf
  refine SWP.loopS Try.f3.ntmps [1, 2, 3, 9, 10, 12, 13, 14] (SR.I1 a1 a2 mk k) (N := k) [0, 1] rfl rfl rfl ⟨0, _, rfl, SR.base_sim, .inl ⟨Nat.one_pos, by rw [ek]; rfl, rfl⟩⟩ ?_
  rintro q vs H ⟨i, V, hq, hV, ⟨hi, rfl, rfl⟩ | ⟨hi, f, hf, rfl, rfl⟩⟩
  · refine SWP.code envR_ok 40 200 ?_
    by_cases hn : i < k
    · have f1 : (i : Int) < (k : Int) := by omega
      have f2 : IntKind.i64.wrap ((i : Int) + 1) = ((i + 1 : Nat) : Int) := by rw [wrapI (by omega) (by omega)]; rfl
      have f4 : i + 1 ≤ 1000000 := by omega
      have p1 : IntKind.i64.wrap (50 * (i : Int)) = 50 * i := wrapI (by omega) (by omega)
      have p2 : IntKind.i64.wrap (100 + 50 * (i : Int)) = 100 + 50 * i := wrapI (by omega) (by omega)
      have p3 : IntKind.i64.wrap (100 + 50 * (i : Int) + 0) = 100 + 50 * i := by rw [Int.add_zero]; exact p2
      have p4 : IntKind.i64.wrap (100 + 50 * (i : Int) + 2) = 102 + 50 * i := by rw [wrapI (by omega) (by omega)]; omega
      have p5 : IntKind.i64.wrap (5 * (i : Int)) = 5 * i := wrapI (by omega) (by omega)
      have p6 : IntKind.i64.wrap (100 + 50 * (i : Int) + 50) = 150 + 50 * i := by rw [wrapI (by omega) (by omega)]; omega
      have hb : ∀ x, SR.nx k i = x → SR.SimV ((V.wr (100 + 50 * (i : Int)) (5 * (i : Int))).wr (102 + 50 * (i : Int)) (nextF x false)) (SR.bL k (i + 1)) := fun x hx => by
        subst hx; exact (hV.wr _ _).wr _ _
      by_cases hm : i + 1 < k
      · have f3 : ((i + 1 : Nat) : Int) < (k : Int) := by omega
        have g3 : (i : Int) + 1 < (k : Int) := by omega
        have hx : SR.nx k i = 150 + 50 * i := if_pos hm
        repeat ((conv => whnf); first | (refine brT ?_ ?_; · (first | exact Bool.and_eq_true_iff.2 ⟨decide_eq_true ⟨rfl, rfl, rfl⟩, decide_eq_true ⟨Nat.one_pos, Nat.le_of_ble_eq_true rfl, by omega⟩⟩ | (simp [*]; done))) | (refine brF ?_ ?_; · (first | exact Bool.and_eq_true_iff.2 ⟨decide_eq_true ⟨rfl, rfl, rfl⟩, decide_eq_true ⟨Nat.one_pos, Nat.le_of_ble_eq_true rfl, by omega⟩⟩ | (simp [*]; done))))

        conv => whnf
        have i0 : i = 0 := by omega
        subst i0
        refine ⟨q - 1, by omega, [0, 1, 3], rfl, rfl, _, rfl, 0 + 1, _, by omega, ?_, .inr ⟨by omega, _, ?_, ?_, rfl⟩⟩
        · rw [p1, p2, p3, p4, p5, p6]; exact hb _ hx
        · intro q hq
          obtain rfl : q = 0 := by omega
          show IntKind.i64.wrap (100 + IntKind.i64.wrap (50 * ((0 : Nat) : Int))) = _
          rw [p1, p2]
        · rw [f2]; rfl
      · have f3 : ¬ ((i + 1 : Nat) : Int) < (k : Int) := by omega
        have g3 : ¬ (i : Int) + 1 < (k : Int) := by omega
        have hx : SR.nx k i = 0 := if_neg hm
        repeat ((conv => whnf); first | (refine brT ?_ ?_; · (first | exact Bool.and_eq_true_iff.2 ⟨decide_eq_true ⟨rfl, rfl, rfl⟩, decide_eq_true ⟨Nat.one_pos, Nat.le_of_ble_eq_true rfl, by omega⟩⟩ | (simp [*]; done))) | (refine brF ?_ ?_; · (first | exact Bool.and_eq_true_iff.2 ⟨decide_eq_true ⟨rfl, rfl, rfl⟩, decide_eq_true ⟨Nat.one_pos, Nat.le_of_ble_eq_true rfl, by omega⟩⟩ | (simp [*]; done))))

        conv => whnf
        have i0 : i = 0 := by omega
        subst i0
        refine ⟨q - 1, by omega, [0, 1, 3], rfl, rfl, _, rfl, 0 + 1, _, by omega, ?_, .inr ⟨by omega, _, ?_, ?_, rfl⟩⟩
        · rw [p1, p2, p3, p4, p5]; exact hb _ hx
        · intro q hq
          obtain rfl : q = 0 := by omega
          show IntKind.i64.wrap (100 + IntKind.i64.wrap (50 * ((0 : Nat) : Int))) = _
          rw [p1, p2]
        · rw [f2]; rfl
    · omega
  · refine SWP.code envR_ok 40 200 ?_
    by_cases hn : i < k
    · have f1 : (i : Int) < (k : Int) := by omega
      have f2 : IntKind.i64.wrap ((i : Int) + 1) = ((i + 1 : Nat) : Int) := by rw [wrapI (by omega) (by omega)]; rfl
      have f4 : i + 1 ≤ 1000000 := by omega
      have p1 : IntKind.i64.wrap (50 * (i : Int)) = 50 * i := wrapI (by omega) (by omega)
      have p2 : IntKind.i64.wrap (100 + 50 * (i : Int)) = 100 + 50 * i := wrapI (by omega) (by omega)
      have p3 : IntKind.i64.wrap (100 + 50 * (i : Int) + 0) = 100 + 50 * i := by rw [Int.add_zero]; exact p2
      have p4 : IntKind.i64.wrap (100 + 50 * (i : Int) + 2) = 102 + 50 * i := by rw [wrapI (by omega) (by omega)]; omega
      have p5 : IntKind.i64.wrap (5 * (i : Int)) = 5 * i := wrapI (by omega) (by omega)
      have p6 : IntKind.i64.wrap (100 + 50 * (i : Int) + 50) = 150 + 50 * i := by rw [wrapI (by omega) (by omega)]; omega
      have hb : ∀ x, SR.nx k i = x → SR.SimV ((V.wr (100 + 50 * (i : Int)) (5 * (i : Int))).wr (102 + 50 * (i : Int)) (nextF x false)) (SR.bL k (i + 1)) := fun x hx => by
        subst hx; exact (hV.wr _ _).wr _ _
      by_cases hm : i + 1 < k
      · have f3 : ((i + 1 : Nat) : Int) < (k : Int) := by omega
        have g3 : (i : Int) + 1 < (k : Int) := by omega
        have hx : SR.nx k i = 150 + 50 * i := if_pos hm
        repeat ((conv => whnf); first | (refine brT ?_ ?_; · (first | exact Bool.and_eq_true_iff.2 ⟨decide_eq_true ⟨rfl, rfl, rfl⟩, decide_eq_true ⟨Nat.one_pos, Nat.le_of_ble_eq_true rfl, by omega⟩⟩ | (simp [*]; done))) | (refine brF ?_ ?_; · (first | exact Bool.and_eq_true_iff.2 ⟨decide_eq_true ⟨rfl, rfl, rfl⟩, decide_eq_true ⟨Nat.one_pos, Nat.le_of_ble_eq_true rfl, by omega⟩⟩ | (simp [*]; done))))

        conv => whnf
        refine ⟨q - 1, by omega, [0, 1, 4], rfl, rfl, _, rfl, i + 1, _, by omega, ?_, .inr ⟨by omega, _, ?_, ?_, rfl⟩⟩
        · rw [p1, p2, p3, p4, p5, p6]; exact hb _ hx
        · intro q hq
          show (if q < i * 1 then f q else List.getD _ (0 + (q - i * 1)) 0) = _
          by_cases hl : q < i * 1
          · rw [if_pos hl, hf q (by omega)]
          · rw [if_neg hl]
            obtain rfl : q = i := by omega
            rw [show 0 + (q - q * 1) = 0 from by omega]
            show IntKind.i64.wrap (100 + IntKind.i64.wrap (50 * (q : Int))) = _
            rw [p1, p2]
        · rw [f2]; rfl
      · have f3 : ¬ ((i + 1 : Nat) : Int) < (k : Int) := by omega
        have g3 : ¬ (i : Int) + 1 < (k : Int) := by omega
        have hx : SR.nx k i = 0 := if_neg hm
        repeat ((conv => whnf); first | (refine brT ?_ ?_; · (first | exact Bool.and_eq_true_iff.2 ⟨decide_eq_true ⟨rfl, rfl, rfl⟩, decide_eq_true ⟨Nat.one_pos, Nat.le_of_ble_eq_true rfl, by omega⟩⟩ | (simp [*]; done))) | (refine brF ?_ ?_; · (first | exact Bool.and_eq_true_iff.2 ⟨decide_eq_true ⟨rfl, rfl, rfl⟩, decide_eq_true ⟨Nat.one_pos, Nat.le_of_ble_eq_true rfl, by omega⟩⟩ | (simp [*]; done))))

        conv => whnf
        refine ⟨q - 1, by omega, [0, 1, 4], rfl, rfl, _, rfl, i + 1, _, by omega, ?_, .inr ⟨by omega, _, ?_, ?_, rfl⟩⟩
        · rw [p1, p2, p3, p4, p5]; exact hb _ hx
        · intro q hq
          show (if q < i * 1 then f q else List.getD _ (0 + (q - i * 1)) 0) = _
          by_cases hl : q < i * 1
          · rw [if_pos hl, hf q (by omega)]
          · rw [if_neg hl]
            obtain rfl : q = i := by omega
            rw [show 0 + (q - q * 1) = 0 from by omega]
            show IntKind.i64.wrap (100 + IntKind.i64.wrap (50 * (q : Int))) = _
            rw [p1, p2]
        · rw [f2]; rfl
    · obtain rfl : i = k := by omega
      have f1 : ¬ (i : Int) < (i : Int) := by omega
      have kz : ¬ (i : Int) = 0 := by omega
      obtain ⟨j, ej, hj⟩ : ∃ j : Nat, a1.tmod (i : Int) = j ∧ j < i := ⟨(a1 % i).toNat, by rw [tmodI h1, Int.toNat_of_nonneg (Int.emod_nonneg _ kz)], by have := Int.emod_lt_of_pos a1 (b := i) (by omega); have := Int.emod_nonneg a1 kz; omega⟩
      obtain ⟨h, eh, hh⟩ : ∃ h : Nat, a2.tmod (i : Int) = h ∧ h < i := ⟨(a2 % i).toNat, by rw [tmodI h2, Int.toNat_of_nonneg (Int.emod_nonneg _ kz)], by have := Int.emod_lt_of_pos a2 (b := i) (by omega); have := Int.emod_nonneg a2 kz; omega⟩
      have ea1 : IntKind.i64.wrap a1 = a1 := wrapI (by omega) (by omega)
      have ea2 : IntKind.i64.wrap a2 = a2 := wrapI (by omega) (by omega)
      have fj := hf j hj
      have fh := hf h hh
      have eJ : ((IntKind.i64.wrap a1).tmod (i : Int)) = (j : Int) := by rw [ea1]; exact ej
      have eH : ((IntKind.i64.wrap a2).tmod (i : Int)) = (h : Int) := by rw [ea2]; exact eh
      have f5 : decide ((0:Int) ≤ ((IntKind.i64.wrap a2).tmod (i : Int)) ∧ ((IntKind.i64.wrap a2).tmod (i : Int)) < (i:Int)) = true := by rw [eH]; exact decide_eq_true ⟨by omega, by omega⟩
      have g5 : decide ((0:Int) ≤ ((IntKind.i64.wrap a1).tmod (i : Int)) ∧ ((IntKind.i64.wrap a1).tmod (i : Int)) < (i:Int)) = true := by rw [eJ]; exact decide_eq_true ⟨by omega, by omega⟩
      have kd : (!decide ((i : Int) = 0)) = true := by rw [decide_eq_false kz]; rfl
      have f3 : decide (0 ≤ 0 + ((IntKind.i64.wrap a2).tmod (i : Int)).toNat * 1 ∧ 0 + ((IntKind.i64.wrap a2).tmod (i : Int)).toNat * 1 < i * 1) = true := by rw [eH]; exact decide_eq_true ⟨by omega, by omega⟩
      have g3 : decide (0 ≤ 0 + ((IntKind.i64.wrap a1).tmod (i : Int)).toNat * 1 ∧ 0 + ((IntKind.i64.wrap a1).tmod (i : Int)).toNat * 1 < i * 1) = true := by rw [eJ]; exact decide_eq_true ⟨by omega, by omega⟩
      have w10 : IntKind.i64.wrap (IntKind.i64.wrap (IntKind.i64.wrap (3 + 1) + 4) + 2) = 10 := by decide
      have w5 : IntKind.i64.wrap (5 * (j : Int)) = 5 * j := wrapI (by omega) (by omega)
      have w1 : IntKind.i64.wrap ((j : Int) + 1) = ((j + 1 : Nat) : Int) := by rw [wrapI (by omega) (by omega)]; rfl
      have aj := SR.addr_of hf hj eJ
      have ah := SR.addr_of hf hh eH
      have wh : IntKind.i64.wrap (100 + 50 * (h : Int) + 2) = 102 + 50 * h := by rw [wrapI (by omega) (by omega)]; omega
      cases mk
      · by_cases hm : j + 1 < i
        · have e2 : ((j + 1 : Nat) : Int) < (i : Int) := by omega
          have e3 : (j : Int) + 1 < (i : Int) := by omega
          have h5 : decide ((0:Int) ≤ IntKind.i64.wrap (((IntKind.i64.wrap a1).tmod (i : Int)) + 1) ∧ IntKind.i64.wrap (((IntKind.i64.wrap a1).tmod (i : Int)) + 1) < (i:Int)) = true := by rw [eJ, w1]; exact decide_eq_true ⟨by omega, by omega⟩
          have h3 : decide (0 ≤ 0 + (IntKind.i64.wrap (((IntKind.i64.wrap a1).tmod (i : Int)) + 1)).toNat * 1 ∧ 0 + (IntKind.i64.wrap (((IntKind.i64.wrap a1).tmod (i : Int)) + 1)).toNat * 1 < i * 1) = true := by rw [eJ, w1]; exact decide_eq_true ⟨by omega, by omega⟩
          have hx : f (0 + (IntKind.i64.wrap (((IntKind.i64.wrap a1).tmod (i : Int)) + 1)).toNat * 1) = SR.nx i j := by rw [SR.addr_of hf hm (by rw [eJ, w1])]; unfold SR.nx; rw [if_pos hm]; omega
          repeat ((conv => whnf); first | (refine brT ?_ ?_; · (first | exact f3 | exact g3 | exact h3 | (simp [*]; done))) | (refine brF ?_ ?_; · (first | exact f3 | exact g3 | exact h3 | (simp [*]; done))) | (rw [f5]) | (rw [g5]) | (rw [h5]) | (rw [kd]))

          conv => whnf
          refine SWP.loopS Try.f3.ntmps [3, 9, 10, 12, 13, 17, 18, 20, 21] (SR.I2 false i j h f) (N := 100) [0, 1, 2, 3] rfl rfl rfl ⟨0, _, _, SR.L1 i j h false, rfl, ?_, ?_, by rw [eJ, eH]; rfl, rfl⟩ ?_
          · show SR.SimV (((V.wr (IntKind.i64.wrap (IntKind.i64.wrap (IntKind.i64.wrap (3 + 1) + 4) + 2)) (nextF 100 false)).wr 900 (IntKind.i64.wrap (5 * ((IntKind.i64.wrap a1).tmod (i : Int))))).wr 902 (nextF (f (0 + (IntKind.i64.wrap (((IntKind.i64.wrap a1).tmod (i : Int)) + 1)).toNat * 1)) false)) _
            rw [hx, eJ, w10, w5]
            exact ((hV.wr _ _).wr _ _).wr _ _
          · show SR.runsB i j h false 100 (SplM.new SR.cf (f (0 + ((IntKind.i64.wrap a1).tmod (i : Int)).toNat * 1)) 0 900) _ = true
            rw [aj]
            exact SR.ok_at (by omega) k8 hj hh
          rintro r vs H ⟨t, x, V1, L, ht, hS, hR, rfl, rfl⟩
          clear hx e2 e3 eJ eH ej eh ea1 ea2 aj ah w5 w1
          refine SWP.code envR_ok 40 200 ?_
          obtain ⟨r, rfl, hl, ⟨hz, hK⟩ | ⟨hz, hK⟩⟩ := SR.runs_spec hS hR
          · have t1 : (t : Int) < 100 := by omega
            have gx : (Nat.ble x.line 7 && !Nat.beq 3 1) = true := by rw [Nat.ble_eq_true_of_le hl]; rfl
            have gz : decide ((x.step V1).1.line = 0) = true := decide_eq_true hz
            have hS2 := (SR.step_sim hS x).2
            obtain ⟨q1, q2, q3, q4⟩ := SR.chk_spec hK
            have w6 : IntKind.i64.wrap (100 + 50 * (j : Int) + 6) = 106 + 50 * j := by rw [wrapI (by omega) (by omega)]; omega
            have fj : f j = 100 + 50 * (j : Int) := hf j hj
            have fh : f h = 100 + 50 * (h : Int) := hf h hh
            have l5 : decide ((0:Int) ≤ (j:Int) ∧ (j:Int) < (i:Int)) = true := decide_eq_true ⟨by omega, by omega⟩
            have l3 : decide (0 ≤ 0 + (j : Int).toNat * 1 ∧ 0 + (j : Int).toNat * 1 < i * 1) = true := decide_eq_true ⟨by omega, by omega⟩
            have m5 : decide ((0:Int) ≤ (h:Int) ∧ (h:Int) < (i:Int)) = true := decide_eq_true ⟨by omega, by omega⟩
            have m3 : decide (0 ≤ 0 + (h : Int).toNat * 1 ∧ 0 + (h : Int).toNat * 1 < i * 1) = true := decide_eq_true ⟨by omega, by omega⟩
            have ah2 : f (0 + (h : Int).toNat * 1) = 100 + 50 * (h : Int) := SR.addr_of hf hh rfl
            have sF : SR.stuckF j h false = 0 := rfl
            rw [sF] at q1 q2 q4
            repeat ((conv => whnf); first | (refine brT ?_ ?_; · (first | exact gx | exact gz | exact m3 | (simp [*]; done))) | (refine brF ?_ ?_; · (first | exact gx | exact gz | exact m3 | (simp [*]; done))) | (rw [m5]))

            conv => whnf
            refine SWP.loopS Try.f3.ntmps [10, 12, 13, 17, 20, 22, 23, 24] (SR.I3 i j (0) f (x.step V1).1 (x.step V1).2 (SR.stepL x L).2) (N := i) [0, 1, 2, 3] rfl rfl rfl ⟨0, rfl, by rw [SR.chainL_zero, ← hS2.rd, ← w10]; rfl, rfl⟩ ?_
            generalize (x.step V1).1 = x2 at *
            generalize (x.step V1).2 = V2 at *
            generalize (SR.stepL x L).2 = L2 at *
            rintro r vs H ⟨t, ht, rfl, rfl⟩
            refine SWP.code envR_ok 40 200 ?_
            by_cases hn : t < i
            · have t1 : (t : Int) < (i : Int) := by omega
              have t2 : IntKind.i64.wrap ((t : Int) + 1) = ((t + 1 : Nat) : Int) := by rw [wrapI (by omega) (by omega)]; rfl
              have n5 : decide ((0:Int) ≤ (t:Int) ∧ (t:Int) < (i:Int)) = true := decide_eq_true ⟨by omega, by omega⟩
              have n3 : decide (0 ≤ 0 + (t : Int).toNat * 1 ∧ 0 + (t : Int).toNat * 1 < i * 1) = true := decide_eq_true ⟨by omega, by omega⟩
              have c1 := q2 t hn
              clear q2
              have c2 := SR.chainL_succ L2 t
              have c3 : f t = 100 + 50 * (t : Int) := hf t hn
              rw [← hS2.rd] at c2
              unfold SR.wantF at c1
              by_cases htj : t = j
              · rw [if_pos ⟨htj, rfl⟩] at c1
                have t3 : ((t : Int) == (j : Int)) = true := by rw [htj]; exact beq_self_eq_true _
                clear htj
                repeat ((conv => whnf); first | (refine brT ?_ ?_; · (first | exact n3 | exact t3 | (simp [*]; done))) | (refine brF ?_ ?_; · (first | exact n3 | exact t3 | (simp [*]; done))) | (rw [n5]))

                conv => whnf
                exact ⟨r - 1, by omega, [0, 1, 2, 3], rfl, rfl, _, rfl, t + 1, by omega, by rw [c2, t2]; rfl, rfl⟩
              · rw [if_neg (fun q => htj q.1)] at c1
                have t3 : ((t : Int) == (j : Int)) = false := beq_eq_false_iff_ne.2 (by omega)
                repeat ((conv => whnf); first | (refine brT ?_ ?_; · (first | exact n3 | exact t3 | (simp [*]; done))) | (refine brF ?_ ?_; · (first | exact n3 | exact t3 | (simp [*]; done))) | (rw [n5]))

                conv => whnf
                exact ⟨r - 1, by omega, [0, 1, 2, 3], rfl, rfl, _, rfl, t + 1, by omega, by rw [c2, t2]; rfl, rfl⟩
            · have t1 : ¬ (t : Int) < (i : Int) := by omega
              have c1 : SR.chainL L2 t = 0 := by rw [show t = i from by omega]; exact q3
              rw [if_pos rfl] at q4
              rw [← hS2.rd] at q4
              repeat ((conv => whnf); first | (refine brT ?_ ?_; · (first | exact l3 | (simp [*]; done))) | (refine brF ?_ ?_; · (first | exact l3 | (simp [*]; done))) | (rw [l5]))

              conv => whnf
              exact congrArg Value.bool (by simp [*])
          · have t1 : (t : Int) < 100 := by omega
            have t2 : IntKind.i64.wrap ((t : Int) + 1) = ((t + 1 : Nat) : Int) := by rw [wrapI (by omega) (by omega)]; rfl
            have gx : (Nat.ble x.line 7 && !Nat.beq 3 1) = true := by rw [Nat.ble_eq_true_of_le hl]; rfl
            have gz : decide ((x.step V1).1.line = 0) = false := decide_eq_false hz
            repeat ((conv => whnf); first | (refine brT ?_ ?_; · (first | exact gx | exact gz | (simp [*]; done))) | (refine brF ?_ ?_; · (first | exact gx | exact gz | (simp [*]; done))))

            conv => whnf
            exact ⟨r, by omega, [0, 1, 2, 3], rfl, rfl, _, rfl, t + 1, _, _, _, by omega, (SR.step_sim hS x).2, hK, by rw [t2]; rfl, rfl⟩
        · have e2 : ¬ ((j + 1 : Nat) : Int) < (i : Int) := by omega
          have e3 : ¬ (j : Int) + 1 < (i : Int) := by omega
          have hx : (0 : Int) = SR.nx i j := (if_neg hm).symm
          repeat ((conv => whnf); first | (refine brT ?_ ?_; · (first | exact f3 | exact g3 | (simp [*]; done))) | (refine brF ?_ ?_; · (first | exact f3 | exact g3 | (simp [*]; done))) | (rw [f5]) | (rw [g5]) | (rw [kd]))

          conv => whnf
          refine SWP.loopS Try.f3.ntmps [3, 9, 10, 12, 13, 17, 18, 20, 21] (SR.I2 false i j h f) (N := 100) [0, 1, 2, 3] rfl rfl rfl ⟨0, _, _, SR.L1 i j h false, rfl, ?_, ?_, by rw [eJ, eH]; rfl, rfl⟩ ?_
          · show SR.SimV (((V.wr (IntKind.i64.wrap (IntKind.i64.wrap (IntKind.i64.wrap (3 + 1) + 4) + 2)) (nextF 100 false)).wr 900 (IntKind.i64.wrap (5 * ((IntKind.i64.wrap a1).tmod (i : Int))))).wr 902 (nextF (0) false)) _
            rw [hx, eJ, w10, w5]
            exact ((hV.wr _ _).wr _ _).wr _ _
          · show SR.runsB i j h false 100 (SplM.new SR.cf (f (0 + ((IntKind.i64.wrap a1).tmod (i : Int)).toNat * 1)) 0 900) _ = true
            rw [aj]
            exact SR.ok_at (by omega) k8 hj hh
          rintro r vs H ⟨t, x, V1, L, ht, hS, hR, rfl, rfl⟩
          clear hx e2 e3 eJ eH ej eh ea1 ea2 aj ah w5 w1
          refine SWP.code envR_ok 40 200 ?_
          obtain ⟨r, rfl, hl, ⟨hz, hK⟩ | ⟨hz, hK⟩⟩ := SR.runs_spec hS hR
          · have t1 : (t : Int) < 100 := by omega
            have gx : (Nat.ble x.line 7 && !Nat.beq 3 1) = true := by rw [Nat.ble_eq_true_of_le hl]; rfl
            have gz : decide ((x.step V1).1.line = 0) = true := decide_eq_true hz
            have hS2 := (SR.step_sim hS x).2
            obtain ⟨q1, q2, q3, q4⟩ := SR.chk_spec hK
            have w6 : IntKind.i64.wrap (100 + 50 * (j : Int) + 6) = 106 + 50 * j := by rw [wrapI (by omega) (by omega)]; omega
            have fj : f j = 100 + 50 * (j : Int) := hf j hj
            have fh : f h = 100 + 50 * (h : Int) := hf h hh
            have l5 : decide ((0:Int) ≤ (j:Int) ∧ (j:Int) < (i:Int)) = true := decide_eq_true ⟨by omega, by omega⟩
            have l3 : decide (0 ≤ 0 + (j : Int).toNat * 1 ∧ 0 + (j : Int).toNat * 1 < i * 1) = true := decide_eq_true ⟨by omega, by omega⟩
            have m5 : decide ((0:Int) ≤ (h:Int) ∧ (h:Int) < (i:Int)) = true := decide_eq_true ⟨by omega, by omega⟩
            have m3 : decide (0 ≤ 0 + (h : Int).toNat * 1 ∧ 0 + (h : Int).toNat * 1 < i * 1) = true := decide_eq_true ⟨by omega, by omega⟩
            have ah2 : f (0 + (h : Int).toNat * 1) = 100 + 50 * (h : Int) := SR.addr_of hf hh rfl
            have sF : SR.stuckF j h false = 0 := rfl
            rw [sF] at q1 q2 q4
            repeat ((conv => whnf); first | (refine brT ?_ ?_; · (first | exact gx | exact gz | exact m3 | (simp [*]; done))) | (refine brF ?_ ?_; · (first | exact gx | exact gz | exact m3 | (simp [*]; done))) | (rw [m5]))

            conv => whnf
            refine SWP.loopS Try.f3.ntmps [10, 12, 13, 17, 20, 22, 23, 24] (SR.I3 i j (0) f (x.step V1).1 (x.step V1).2 (SR.stepL x L).2) (N := i) [0, 1, 2, 3] rfl rfl rfl ⟨0, rfl, by rw [SR.chainL_zero, ← hS2.rd, ← w10]; rfl, rfl⟩ ?_
            generalize (x.step V1).1 = x2 at *
            generalize (x.step V1).2 = V2 at *
            generalize (SR.stepL x L).2 = L2 at *
            rintro r vs H ⟨t, ht, rfl, rfl⟩
            refine SWP.code envR_ok 40 200 ?_
            by_cases hn : t < i
            · have t1 : (t : Int) < (i : Int) := by omega
              have t2 : IntKind.i64.wrap ((t : Int) + 1) = ((t + 1 : Nat) : Int) := by rw [wrapI (by omega) (by omega)]; rfl
              have n5 : decide ((0:Int) ≤ (t:Int) ∧ (t:Int) < (i:Int)) = true := decide_eq_true ⟨by omega, by omega⟩
              have n3 : decide (0 ≤ 0 + (t : Int).toNat * 1 ∧ 0 + (t : Int).toNat * 1 < i * 1) = true := decide_eq_true ⟨by omega, by omega⟩
              have c1 := q2 t hn
              clear q2
              have c2 := SR.chainL_succ L2 t
              have c3 : f t = 100 + 50 * (t : Int) := hf t hn
              rw [← hS2.rd] at c2
              unfold SR.wantF at c1
              by_cases htj : t = j
              · rw [if_pos ⟨htj, rfl⟩] at c1
                have t3 : ((t : Int) == (j : Int)) = true := by rw [htj]; exact beq_self_eq_true _
                clear htj
                repeat ((conv => whnf); first | (refine brT ?_ ?_; · (first | exact n3 | exact t3 | (simp [*]; done))) | (refine brF ?_ ?_; · (first | exact n3 | exact t3 | (simp [*]; done))) | (rw [n5]))

                conv => whnf
                exact ⟨r - 1, by omega, [0, 1, 2, 3], rfl, rfl, _, rfl, t + 1, by omega, by rw [c2, t2]; rfl, rfl⟩
              · rw [if_neg (fun q => htj q.1)] at c1
                have t3 : ((t : Int) == (j : Int)) = false := beq_eq_false_iff_ne.2 (by omega)
                repeat ((conv => whnf); first | (refine brT ?_ ?_; · (first | exact n3 | exact t3 | (simp [*]; done))) | (refine brF ?_ ?_; · (first | exact n3 | exact t3 | (simp [*]; done))) | (rw [n5]))

                conv => whnf
                exact ⟨r - 1, by omega, [0, 1, 2, 3], rfl, rfl, _, rfl, t + 1, by omega, by rw [c2, t2]; rfl, rfl⟩
            · have t1 : ¬ (t : Int) < (i : Int) := by omega
              have c1 : SR.chainL L2 t = 0 := by rw [show t = i from by omega]; exact q3
              rw [if_pos rfl] at q4
              rw [← hS2.rd] at q4
              repeat ((conv => whnf); first | (refine brT ?_ ?_; · (first | exact l3 | (simp [*]; done))) | (refine brF ?_ ?_; · (first | exact l3 | (simp [*]; done))) | (rw [l5]))

              conv => whnf
              exact congrArg Value.bool (by simp [*])
          · have t1 : (t : Int) < 100 := by omega
            have t2 : IntKind.i64.wrap ((t : Int) + 1) = ((t + 1 : Nat) : Int) := by rw [wrapI (by omega) (by omega)]; rfl
            have gx : (Nat.ble x.line 7 && !Nat.beq 3 1) = true := by rw [Nat.ble_eq_true_of_le hl]; rfl
            have gz : decide ((x.step V1).1.line = 0) = false := decide_eq_false hz
            repeat ((conv => whnf); first | (refine brT ?_ ?_; · (first | exact gx | exact gz | (simp [*]; done))) | (refine brF ?_ ?_; · (first | exact gx | exact gz | (simp [*]; done))))

            conv => whnf
            exact ⟨r, by omega, [0, 1, 2, 3], rfl, rfl, _, rfl, t + 1, _, _, _, by omega, (SR.step_sim hS x).2, hK, by rw [t2]; rfl, rfl⟩
      · by_cases hm : j + 1 < i
        · have e2 : ((j + 1 : Nat) : Int) < (i : Int) := by omega
          have e3 : (j : Int) + 1 < (i : Int) := by omega
          have h5 : decide ((0:Int) ≤ IntKind.i64.wrap (((IntKind.i64.wrap a1).tmod (i : Int)) + 1) ∧ IntKind.i64.wrap (((IntKind.i64.wrap a1).tmod (i : Int)) + 1) < (i:Int)) = true := by rw [eJ, w1]; exact decide_eq_true ⟨by omega, by omega⟩
          have h3 : decide (0 ≤ 0 + (IntKind.i64.wrap (((IntKind.i64.wrap a1).tmod (i : Int)) + 1)).toNat * 1 ∧ 0 + (IntKind.i64.wrap (((IntKind.i64.wrap a1).tmod (i : Int)) + 1)).toNat * 1 < i * 1) = true := by rw [eJ, w1]; exact decide_eq_true ⟨by omega, by omega⟩
          have hx : f (0 + (IntKind.i64.wrap (((IntKind.i64.wrap a1).tmod (i : Int)) + 1)).toNat * 1) = SR.nx i j := by rw [SR.addr_of hf hm (by rw [eJ, w1])]; unfold SR.nx; rw [if_pos hm]; omega
          repeat ((conv => whnf); first | (refine brT ?_ ?_; · (first | exact f3 | exact g3 | exact h3 | (simp [*]; done))) | (refine brF ?_ ?_; · (first | exact f3 | exact g3 | exact h3 | (simp [*]; done))) | (rw [f5]) | (rw [g5]) | (rw [h5]) | (rw [kd]))

          conv => whnf
          refine SWP.loopS Try.f3.ntmps [3, 9, 10, 12, 13, 17, 18, 20, 21] (SR.I2 true i j h f) (N := 100) [0, 1, 2, 3] rfl rfl rfl ⟨0, _, _, SR.L1 i j h true, rfl, ?_, ?_, by rw [eJ, eH]; rfl, rfl⟩ ?_
          · show SR.SimV ((((V.wr (IntKind.i64.wrap (IntKind.i64.wrap (IntKind.i64.wrap (3 + 1) + 4) + 2)) (nextF 100 false)).wr (IntKind.i64.wrap (f (0 + ((IntKind.i64.wrap a2).tmod (i : Int)).toNat * 1) + 2)) (orF ((V.wr (IntKind.i64.wrap (IntKind.i64.wrap (IntKind.i64.wrap (3 + 1) + 4) + 2)) (nextF 100 false)).rd (IntKind.i64.wrap (f (0 + ((IntKind.i64.wrap a2).tmod (i : Int)).toNat * 1) + 2))))).wr 900 (IntKind.i64.wrap (5 * ((IntKind.i64.wrap a1).tmod (i : Int))))).wr 902 (nextF (f (0 + (IntKind.i64.wrap (((IntKind.i64.wrap a1).tmod (i : Int)) + 1)).toNat * 1)) false)) _
            rw [hx, eJ, w10, w5, ah, wh, (hV.wr 10 (nextF 100 false)).rd]
            exact (((hV.wr _ _).wr _ _).wr _ _).wr _ _
          · show SR.runsB i j h true 100 (SplM.new SR.cf (f (0 + ((IntKind.i64.wrap a1).tmod (i : Int)).toNat * 1)) 0 900) _ = true
            rw [aj]
            exact SR.ok_at (by omega) k8 hj hh
          rintro r vs H ⟨t, x, V1, L, ht, hS, hR, rfl, rfl⟩
          clear hx e2 e3 eJ eH ej eh ea1 ea2 aj ah w5 w1
          refine SWP.code envR_ok 40 200 ?_
          obtain ⟨r, rfl, hl, ⟨hz, hK⟩ | ⟨hz, hK⟩⟩ := SR.runs_spec hS hR
          · have t1 : (t : Int) < 100 := by omega
            have gx : (Nat.ble x.line 7 && !Nat.beq 3 1) = true := by rw [Nat.ble_eq_true_of_le hl]; rfl
            have gz : decide ((x.step V1).1.line = 0) = true := decide_eq_true hz
            have hS2 := (SR.step_sim hS x).2
            obtain ⟨q1, q2, q3, q4⟩ := SR.chk_spec hK
            have w6 : IntKind.i64.wrap (100 + 50 * (j : Int) + 6) = 106 + 50 * j := by rw [wrapI (by omega) (by omega)]; omega
            have fj : f j = 100 + 50 * (j : Int) := hf j hj
            have fh : f h = 100 + 50 * (h : Int) := hf h hh
            have l5 : decide ((0:Int) ≤ (j:Int) ∧ (j:Int) < (i:Int)) = true := decide_eq_true ⟨by omega, by omega⟩
            have l3 : decide (0 ≤ 0 + (j : Int).toNat * 1 ∧ 0 + (j : Int).toNat * 1 < i * 1) = true := decide_eq_true ⟨by omega, by omega⟩
            have m5 : decide ((0:Int) ≤ (h:Int) ∧ (h:Int) < (i:Int)) = true := decide_eq_true ⟨by omega, by omega⟩
            have m3 : decide (0 ≤ 0 + (h : Int).toNat * 1 ∧ 0 + (h : Int).toNat * 1 < i * 1) = true := decide_eq_true ⟨by omega, by omega⟩
            have ah2 : f (0 + (h : Int).toNat * 1) = 100 + 50 * (h : Int) := SR.addr_of hf hh rfl
            by_cases hs : h < j
            · have hs1 : (h : Int) < (j : Int) := by omega
              have sF : SR.stuckF j h true = 100 + 50 * (h : Int) := if_pos hs
              rw [sF] at q1 q2 q4
              repeat ((conv => whnf); first | (refine brT ?_ ?_; · (first | exact gx | exact gz | exact m3 | (simp [*]; done))) | (refine brF ?_ ?_; · (first | exact gx | exact gz | exact m3 | (simp [*]; done))) | (rw [m5]))

              conv => whnf
              refine SWP.loopS Try.f3.ntmps [10, 12, 13, 17, 20, 22, 23, 24] (SR.I3 i j (100 + 50 * (h : Int)) f (x.step V1).1 (x.step V1).2 (SR.stepL x L).2) (N := i) [0, 1, 2, 3] rfl rfl rfl ⟨0, rfl, by rw [SR.chainL_zero, ← hS2.rd, ← w10, ← ah2]; rfl, rfl⟩ ?_
              generalize (x.step V1).1 = x2 at *
              generalize (x.step V1).2 = V2 at *
              generalize (SR.stepL x L).2 = L2 at *
              rintro r vs H ⟨t, ht, rfl, rfl⟩
              refine SWP.code envR_ok 40 200 ?_
              by_cases hn : t < i
              · have t1 : (t : Int) < (i : Int) := by omega
                have t2 : IntKind.i64.wrap ((t : Int) + 1) = ((t + 1 : Nat) : Int) := by rw [wrapI (by omega) (by omega)]; rfl
                have n5 : decide ((0:Int) ≤ (t:Int) ∧ (t:Int) < (i:Int)) = true := decide_eq_true ⟨by omega, by omega⟩
                have n3 : decide (0 ≤ 0 + (t : Int).toNat * 1 ∧ 0 + (t : Int).toNat * 1 < i * 1) = true := decide_eq_true ⟨by omega, by omega⟩
                have c1 := q2 t hn
                clear q2
                have c2 := SR.chainL_succ L2 t
                have c3 : f t = 100 + 50 * (t : Int) := hf t hn
                rw [← hS2.rd] at c2
                unfold SR.wantF at c1
                by_cases htj : t = j
                · rw [if_neg (fun q => by have := q.2; omega)] at c1
                  have t3 : ((t : Int) == (j : Int)) = true := by rw [htj]; exact beq_self_eq_true _
                  clear htj
                  have t4 : ¬ (100 + 50 * (h : Int)) = 0 := by omega
                  repeat ((conv => whnf); first | (refine brT ?_ ?_; · (first | exact n3 | exact t3 | (simp [*]; done))) | (refine brF ?_ ?_; · (first | exact n3 | exact t3 | (simp [*]; done))) | (rw [n5]))

                  conv => whnf
                  exact ⟨r - 1, by omega, [0, 1, 2, 3], rfl, rfl, _, rfl, t + 1, by omega, by rw [c2, t2]; rfl, rfl⟩
                · rw [if_neg (fun q => by have := q.2; omega)] at c1
                  have t3 : ((t : Int) == (j : Int)) = false := beq_eq_false_iff_ne.2 (by omega)
                  have t4 : ¬ (100 + 50 * (h : Int)) = 0 := by omega
                  repeat ((conv => whnf); first | (refine brT ?_ ?_; · (first | exact n3 | exact t3 | (simp [*]; done))) | (refine brF ?_ ?_; · (first | exact n3 | exact t3 | (simp [*]; done))) | (rw [n5]))

                  conv => whnf
                  exact ⟨r - 1, by omega, [0, 1, 2, 3], rfl, rfl, _, rfl, t + 1, by omega, by rw [c2, t2]; rfl, rfl⟩
              · have t1 : ¬ (t : Int) < (i : Int) := by omega
                have c1 : SR.chainL L2 t = 0 := by rw [show t = i from by omega]; exact q3
                have t4 : ¬ (100 + 50 * (h : Int)) = 0 := by omega
                rw [if_neg t4] at q4
                rw [← hS2.rd] at q4
                repeat ((conv => whnf); first | (refine brT ?_ ?_; · (first | exact l3 | (simp [*]; done))) | (refine brF ?_ ?_; · (first | exact l3 | (simp [*]; done))) | (rw [l5]))

                conv => whnf
                exact congrArg Value.bool (by simp [*])
            · have hs1 : ¬ (h : Int) < (j : Int) := by omega
              have sF : SR.stuckF j h true = 0 := if_neg hs
              rw [sF] at q1 q2 q4
              repeat ((conv => whnf); first | (refine brT ?_ ?_; · (first | exact gx | exact gz | exact m3 | (simp [*]; done))) | (refine brF ?_ ?_; · (first | exact gx | exact gz | exact m3 | (simp [*]; done))) | (rw [m5]))

              conv => whnf
              refine SWP.loopS Try.f3.ntmps [10, 12, 13, 17, 20, 22, 23, 24] (SR.I3 i j (0) f (x.step V1).1 (x.step V1).2 (SR.stepL x L).2) (N := i) [0, 1, 2, 3] rfl rfl rfl ⟨0, rfl, by rw [SR.chainL_zero, ← hS2.rd, ← w10]; rfl, rfl⟩ ?_
              generalize (x.step V1).1 = x2 at *
              generalize (x.step V1).2 = V2 at *
              generalize (SR.stepL x L).2 = L2 at *
              rintro r vs H ⟨t, ht, rfl, rfl⟩
              refine SWP.code envR_ok 40 200 ?_
              by_cases hn : t < i
              · have t1 : (t : Int) < (i : Int) := by omega
                have t2 : IntKind.i64.wrap ((t : Int) + 1) = ((t + 1 : Nat) : Int) := by rw [wrapI (by omega) (by omega)]; rfl
                have n5 : decide ((0:Int) ≤ (t:Int) ∧ (t:Int) < (i:Int)) = true := decide_eq_true ⟨by omega, by omega⟩
                have n3 : decide (0 ≤ 0 + (t : Int).toNat * 1 ∧ 0 + (t : Int).toNat * 1 < i * 1) = true := decide_eq_true ⟨by omega, by omega⟩
                have c1 := q2 t hn
                clear q2
                have c2 := SR.chainL_succ L2 t
                have c3 : f t = 100 + 50 * (t : Int) := hf t hn
                rw [← hS2.rd] at c2
                unfold SR.wantF at c1
                by_cases htj : t = j
                · rw [if_pos ⟨htj, rfl⟩] at c1
                  have t3 : ((t : Int) == (j : Int)) = true := by rw [htj]; exact beq_self_eq_true _
                  clear htj
                  repeat ((conv => whnf); first | (refine brT ?_ ?_; · (first | exact n3 | exact t3 | (simp [*]; done))) | (refine brF ?_ ?_; · (first | exact n3 | exact t3 | (simp [*]; done))) | (rw [n5]))

                  conv => whnf
                  exact ⟨r - 1, by omega, [0, 1, 2, 3], rfl, rfl, _, rfl, t + 1, by omega, by rw [c2, t2]; rfl, rfl⟩
                · rw [if_neg (fun q => htj q.1)] at c1
                  have t3 : ((t : Int) == (j : Int)) = false := beq_eq_false_iff_ne.2 (by omega)
                  repeat ((conv => whnf); first | (refine brT ?_ ?_; · (first | exact n3 | exact t3 | (simp [*]; done))) | (refine brF ?_ ?_; · (first | exact n3 | exact t3 | (simp [*]; done))) | (rw [n5]))

                  conv => whnf
                  exact ⟨r - 1, by omega, [0, 1, 2, 3], rfl, rfl, _, rfl, t + 1, by omega, by rw [c2, t2]; rfl, rfl⟩
              · have t1 : ¬ (t : Int) < (i : Int) := by omega
                have c1 : SR.chainL L2 t = 0 := by rw [show t = i from by omega]; exact q3
                rw [if_pos rfl] at q4
                rw [← hS2.rd] at q4
                repeat ((conv => whnf); first | (refine brT ?_ ?_; · (first | exact l3 | (simp [*]; done))) | (refine brF ?_ ?_; · (first | exact l3 | (simp [*]; done))) | (rw [l5]))

                conv => whnf
                exact congrArg Value.bool (by simp [*])
          · have t1 : (t : Int) < 100 := by omega
            have t2 : IntKind.i64.wrap ((t : Int) + 1) = ((t + 1 : Nat) : Int) := by rw [wrapI (by omega) (by omega)]; rfl
            have gx : (Nat.ble x.line 7 && !Nat.beq 3 1) = true := by rw [Nat.ble_eq_true_of_le hl]; rfl
            have gz : decide ((x.step V1).1.line = 0) = false := decide_eq_false hz
            repeat ((conv => whnf); first | (refine brT ?_ ?_; · (first | exact gx | exact gz | (simp [*]; done))) | (refine brF ?_ ?_; · (first | exact gx | exact gz | (simp [*]; done))))

            conv => whnf
            exact ⟨r, by omega, [0, 1, 2, 3], rfl, rfl, _, rfl, t + 1, _, _, _, by omega, (SR.step_sim hS x).2, hK, by rw [t2]; rfl, rfl⟩
        · have e2 : ¬ ((j + 1 : Nat) : Int) < (i : Int) := by omega
          have e3 : ¬ (j : Int) + 1 < (i : Int) := by omega
          have hx : (0 : Int) = SR.nx i j := (if_neg hm).symm
          repeat ((conv => whnf); first | (refine brT ?_ ?_; · (first | exact f3 | exact g3 | (simp [*]; done))) | (refine brF ?_ ?_; · (first | exact f3 | exact g3 | (simp [*]; done))) | (rw [f5]) | (rw [g5]) | (rw [kd]))

          conv => whnf
          refine SWP.loopS Try.f3.ntmps [3, 9, 10, 12, 13, 17, 18, 20, 21] (SR.I2 true i j h f) (N := 100) [0, 1, 2, 3] rfl rfl rfl ⟨0, _, _, SR.L1 i j h true, rfl, ?_, ?_, by rw [eJ, eH]; rfl, rfl⟩ ?_
          · show SR.SimV ((((V.wr (IntKind.i64.wrap (IntKind.i64.wrap (IntKind.i64.wrap (3 + 1) + 4) + 2)) (nextF 100 false)).wr (IntKind.i64.wrap (f (0 + ((IntKind.i64.wrap a2).tmod (i : Int)).toNat * 1) + 2)) (orF ((V.wr (IntKind.i64.wrap (IntKind.i64.wrap (IntKind.i64.wrap (3 + 1) + 4) + 2)) (nextF 100 false)).rd (IntKind.i64.wrap (f (0 + ((IntKind.i64.wrap a2).tmod (i : Int)).toNat * 1) + 2))))).wr 900 (IntKind.i64.wrap (5 * ((IntKind.i64.wrap a1).tmod (i : Int))))).wr 902 (nextF (0) false)) _
            rw [hx, eJ, w10, w5, ah, wh, (hV.wr 10 (nextF 100 false)).rd]
            exact (((hV.wr _ _).wr _ _).wr _ _).wr _ _
          · show SR.runsB i j h true 100 (SplM.new SR.cf (f (0 + ((IntKind.i64.wrap a1).tmod (i : Int)).toNat * 1)) 0 900) _ = true
            rw [aj]
            exact SR.ok_at (by omega) k8 hj hh
          rintro r vs H ⟨t, x, V1, L, ht, hS, hR, rfl, rfl⟩
          clear hx e2 e3 eJ eH ej eh ea1 ea2 aj ah w5 w1
          refine SWP.code envR_ok 40 200 ?_
          obtain ⟨r, rfl, hl, ⟨hz, hK⟩ | ⟨hz, hK⟩⟩ := SR.runs_spec hS hR
          · have t1 : (t : Int) < 100 := by omega
            have gx : (Nat.ble x.line 7 && !Nat.beq 3 1) = true := by rw [Nat.ble_eq_true_of_le hl]; rfl
            have gz : decide ((x.step V1).1.line = 0) = true := decide_eq_true hz
            have hS2 := (SR.step_sim hS x).2
            obtain ⟨q1, q2, q3, q4⟩ := SR.chk_spec hK
            have w6 : IntKind.i64.wrap (100 + 50 * (j : Int) + 6) = 106 + 50 * j := by rw [wrapI (by omega) (by omega)]; omega
            have fj : f j = 100 + 50 * (j : Int) := hf j hj
            have fh : f h = 100 + 50 * (h : Int) := hf h hh
            have l5 : decide ((0:Int) ≤ (j:Int) ∧ (j:Int) < (i:Int)) = true := decide_eq_true ⟨by omega, by omega⟩
            have l3 : decide (0 ≤ 0 + (j : Int).toNat * 1 ∧ 0 + (j : Int).toNat * 1 < i * 1) = true := decide_eq_true ⟨by omega, by omega⟩
            have m5 : decide ((0:Int) ≤ (h:Int) ∧ (h:Int) < (i:Int)) = true := decide_eq_true ⟨by omega, by omega⟩
            have m3 : decide (0 ≤ 0 + (h : Int).toNat * 1 ∧ 0 + (h : Int).toNat * 1 < i * 1) = true := decide_eq_true ⟨by omega, by omega⟩
            have ah2 : f (0 + (h : Int).toNat * 1) = 100 + 50 * (h : Int) := SR.addr_of hf hh rfl
            by_cases hs : h < j
            · have hs1 : (h : Int) < (j : Int) := by omega
              have sF : SR.stuckF j h true = 100 + 50 * (h : Int) := if_pos hs
              rw [sF] at q1 q2 q4
              repeat ((conv => whnf); first | (refine brT ?_ ?_; · (first | exact gx | exact gz | exact m3 | (simp [*]; done))) | (refine brF ?_ ?_; · (first | exact gx | exact gz | exact m3 | (simp [*]; done))) | (rw [m5]))

              conv => whnf
              refine SWP.loopS Try.f3.ntmps [10, 12, 13, 17, 20, 22, 23, 24] (SR.I3 i j (100 + 50 * (h : Int)) f (x.step V1).1 (x.step V1).2 (SR.stepL x L).2) (N := i) [0, 1, 2, 3] rfl rfl rfl ⟨0, rfl, by rw [SR.chainL_zero, ← hS2.rd, ← w10, ← ah2]; rfl, rfl⟩ ?_
              generalize (x.step V1).1 = x2 at *
              generalize (x.step V1).2 = V2 at *
              generalize (SR.stepL x L).2 = L2 at *
              rintro r vs H ⟨t, ht, rfl, rfl⟩
              refine SWP.code envR_ok 40 200 ?_
              by_cases hn : t < i
              · have t1 : (t : Int) < (i : Int) := by omega
                have t2 : IntKind.i64.wrap ((t : Int) + 1) = ((t + 1 : Nat) : Int) := by rw [wrapI (by omega) (by omega)]; rfl
                have n5 : decide ((0:Int) ≤ (t:Int) ∧ (t:Int) < (i:Int)) = true := decide_eq_true ⟨by omega, by omega⟩
                have n3 : decide (0 ≤ 0 + (t : Int).toNat * 1 ∧ 0 + (t : Int).toNat * 1 < i * 1) = true := decide_eq_true ⟨by omega, by omega⟩
                have c1 := q2 t hn
                clear q2
                have c2 := SR.chainL_succ L2 t
                have c3 : f t = 100 + 50 * (t : Int) := hf t hn
                rw [← hS2.rd] at c2
                unfold SR.wantF at c1
                by_cases htj : t = j
                · rw [if_neg (fun q => by have := q.2; omega)] at c1
                  have t3 : ((t : Int) == (j : Int)) = true := by rw [htj]; exact beq_self_eq_true _
                  clear htj
                  have t4 : ¬ (100 + 50 * (h : Int)) = 0 := by omega
                  repeat ((conv => whnf); first | (refine brT ?_ ?_; · (first | exact n3 | exact t3 | (simp [*]; done))) | (refine brF ?_ ?_; · (first | exact n3 | exact t3 | (simp [*]; done))) | (rw [n5]))

                  conv => whnf
                  exact ⟨r - 1, by omega, [0, 1, 2, 3], rfl, rfl, _, rfl, t + 1, by omega, by rw [c2, t2]; rfl, rfl⟩
                · rw [if_neg (fun q => by have := q.2; omega)] at c1
                  have t3 : ((t : Int) == (j : Int)) = false := beq_eq_false_iff_ne.2 (by omega)
                  have t4 : ¬ (100 + 50 * (h : Int)) = 0 := by omega
                  repeat ((conv => whnf); first | (refine brT ?_ ?_; · (first | exact n3 | exact t3 | (simp [*]; done))) | (refine brF ?_ ?_; · (first | exact n3 | exact t3 | (simp [*]; done))) | (rw [n5]))

                  conv => whnf
                  exact ⟨r - 1, by omega, [0, 1, 2, 3], rfl, rfl, _, rfl, t + 1, by omega, by rw [c2, t2]; rfl, rfl⟩
              · have t1 : ¬ (t : Int) < (i : Int) := by omega
                have c1 : SR.chainL L2 t = 0 := by rw [show t = i from by omega]; exact q3
                have t4 : ¬ (100 + 50 * (h : Int)) = 0 := by omega
                rw [if_neg t4] at q4
                rw [← hS2.rd] at q4
                repeat ((conv => whnf); first | (refine brT ?_ ?_; · (first | exact l3 | (simp [*]; done))) | (refine brF ?_ ?_; · (first | exact l3 | (simp [*]; done))) | (rw [l5]))

                conv => whnf
                exact congrArg Value.bool (by simp [*])
            · have hs1 : ¬ (h : Int) < (j : Int) := by omega
              have sF : SR.stuckF j h true = 0 := if_neg hs
              rw [sF] at q1 q2 q4
              repeat ((conv => whnf); first | (refine brT ?_ ?_; · (first | exact gx | exact gz | exact m3 | (simp [*]; done))) | (refine brF ?_ ?_; · (first | exact gx | exact gz | exact m3 | (simp [*]; done))) | (rw [m5]))

              conv => whnf
              refine SWP.loopS Try.f3.ntmps [10, 12, 13, 17, 20, 22, 23, 24] (SR.I3 i j (0) f (x.step V1).1 (x.step V1).2 (SR.stepL x L).2) (N := i) [0, 1, 2, 3] rfl rfl rfl ⟨0, rfl, by rw [SR.chainL_zero, ← hS2.rd, ← w10]; rfl, rfl⟩ ?_
              generalize (x.step V1).1 = x2 at *
              generalize (x.step V1).2 = V2 at *
              generalize (SR.stepL x L).2 = L2 at *
              rintro r vs H ⟨t, ht, rfl, rfl⟩
              refine SWP.code envR_ok 40 200 ?_
              by_cases hn : t < i
              · have t1 : (t : Int) < (i : Int) := by omega
                have t2 : IntKind.i64.wrap ((t : Int) + 1) = ((t + 1 : Nat) : Int) := by rw [wrapI (by omega) (by omega)]; rfl
                have n5 : decide ((0:Int) ≤ (t:Int) ∧ (t:Int) < (i:Int)) = true := decide_eq_true ⟨by omega, by omega⟩
                have n3 : decide (0 ≤ 0 + (t : Int).toNat * 1 ∧ 0 + (t : Int).toNat * 1 < i * 1) = true := decide_eq_true ⟨by omega, by omega⟩
                have c1 := q2 t hn
                clear q2
                have c2 := SR.chainL_succ L2 t
                have c3 : f t = 100 + 50 * (t : Int) := hf t hn
                rw [← hS2.rd] at c2
                unfold SR.wantF at c1
                by_cases htj : t = j
                · rw [if_pos ⟨htj, rfl⟩] at c1
                  have t3 : ((t : Int) == (j : Int)) = true := by rw [htj]; exact beq_self_eq_true _
                  clear htj
                  repeat ((conv => whnf); first | (refine brT ?_ ?_; · (first | exact n3 | exact t3 | (simp [*]; done))) | (refine brF ?_ ?_; · (first | exact n3 | exact t3 | (simp [*]; done))) | (rw [n5]))

                  conv => whnf
                  exact ⟨r - 1, by omega, [0, 1, 2, 3], rfl, rfl, _, rfl, t + 1, by omega, by rw [c2, t2]; rfl, rfl⟩
                · rw [if_neg (fun q => htj q.1)] at c1
                  have t3 : ((t : Int) == (j : Int)) = false := beq_eq_false_iff_ne.2 (by omega)
                  repeat ((conv => whnf); first | (refine brT ?_ ?_; · (first | exact n3 | exact t3 | (simp [*]; done))) | (refine brF ?_ ?_; · (first | exact n3 | exact t3 | (simp [*]; done))) | (rw [n5]))

                  conv => whnf
                  exact ⟨r - 1, by omega, [0, 1, 2, 3], rfl, rfl, _, rfl, t + 1, by omega, by rw [c2, t2]; rfl, rfl⟩
              · have t1 : ¬ (t : Int) < (i : Int) := by omega
                have c1 : SR.chainL L2 t = 0 := by rw [show t = i from by omega]; exact q3
                rw [if_pos rfl] at q4
                rw [← hS2.rd] at q4
                repeat ((conv => whnf); first | (refine brT ?_ ?_; · (first | exact l3 | (simp [*]; done))) | (refine brF ?_ ?_; · (first | exact l3 | (simp [*]; done))) | (rw [l5]))

                conv => whnf
                exact congrArg Value.bool (by simp [*])
          · have t1 : (t : Int) < 100 := by omega
            have t2 : IntKind.i64.wrap ((t : Int) + 1) = ((t + 1 : Nat) : Int) := by rw [wrapI (by omega) (by omega)]; rfl
            have gx : (Nat.ble x.line 7 && !Nat.beq 3 1) = true := by rw [Nat.ble_eq_true_of_le hl]; rfl
            have gz : decide ((x.step V1).1.line = 0) = false := decide_eq_false hz
            repeat ((conv => whnf); first | (refine brT ?_ ?_; · (first | exact gx | exact gz | (simp [*]; done))) | (refine brF ?_ ?_; · (first | exact gx | exact gz | (simp [*]; done))))

            conv => whnf
            exact ⟨r, by omega, [0, 1, 2, 3], rfl, rfl, _, rfl, t + 1, _, _, _, by omega, (SR.step_sim hS x).2, hK, by rw [t2]; rfl, rfl⟩
theorem spliceRow_walk (a0 a1 a2 : Int) (a3 : Bool) (w0 : (Lit.int .u8 a0).wf = true) (w1 : (Lit.int .u8 a1).wf = true) (w2 : (Lit.int .u8 a2).wf = true) (w : World) :
    Calls Try.prog 3 #[.int .u8 a0, .int .u8 a1, .int .u8 a2, .bool a3] w fun e w' => e = .returned (.bool true) ∧ Below w.heap.size w w' :=
  law_walk (n := 1) rfl w (spliceRow_fwp a0 a1 a2 a3 (wf_u8_bounds w0).1 (wf_u8_bounds w1).1 (wf_u8_bounds w1).2 (wf_u8_bounds w2).1 (wf_u8_bounds w2).2)
end Go.Proofs.Ytflhcknnjembjaa
