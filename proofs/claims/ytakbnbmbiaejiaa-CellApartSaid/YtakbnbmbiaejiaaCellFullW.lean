/- CellFull: the walk. -/
import Derived.Test.YtakbnbmbiaejiaaCellC
import Derived.Test.YtakbnbmbiaejiaaCellRun
namespace Go.Proofs.Ytakbnbmbiaejiaa
open Go.RowKit
variable {W : World}

theorem known15 : FWP Try.prog (means W) 24 [] [] fun a b => a = .bool true ∧ b = [] := closed (by kernel_rfl)
noncomputable def envC15 : Env Ext := ((((envK 24).add 25 (dt dCNew)).add 26 dCStep).add 27 (dt dCVersion)).add 28 (dt dCPlace)
theorem envC15_ok : envC15.Ok Try.prog (means W) := ((((envK_ok known15).add fun args H v H' h => ok_CNew (by rw [← DT.out_of (dCNew args H)]; exact h)).add fun args H v H' h => ok_CStep h).add fun args H v H' h => ok_CVersion (by rw [← DT.out_of (dCVersion args H)]; exact h)).add fun args H v H' h => ok_CPlace (by rw [← DT.out_of (dCPlace args H)]; exact h)
namespace CF
/-- Of i puts: as many cells as there are, are given. -/
structure inv (cap : Int) (i : Nat) (V : Vw) : Prop where
  len : V.ws.length = 200
  clk : V.rd 1 = 0
  st : V.rd 21 = 0
  cnt : V.rd 16 = i
  done : ∀ q : Nat, q < i → (q : Int) < cap → V.rd (cpos 15 q) = 3 ∧ V.rd (cpos 15 q + 2) = 100 + q
  free : ∀ q : Nat, i ≤ q → (q : Int) < cap → V.rd (cpos 15 q) = 0
abbrev S (cf : Cf) (i : Nat) (V : Vw) (t : Nat) : CellM × Vw := iterS cellF t (CellM.new cf (15 : Nat) (i : Int) (100 + i), V)
theorem S_succ (cf : Cf) (i : Nat) (V : Vw) (t : Nat) : (S cf i V t).1.step (S cf i V t).2 = S cf i V (t + 1) := rfl
theorem S_zero (cf : Cf) (i : Nat) (V : Vw) : S cf i V 0 = (CellM.new cf (15 : Nat) (i : Int) (100 + i), V) := rfl
attribute [local irreducible] iterS CellM.step cellF
theorem run {cf : Cf} (h3 : 3 ≤ cf.cap) (h16 : cf.cap ≤ 15) {i : Nat} (hi : i < 24) {V : Vw} (h : inv cf.cap i V) : ∃ T, 0 < T ∧ T ≤ 8 ∧ (∀ t, t < T → (S cf i V t).1.line ≤ 8 ∧ (0 < t → (S cf i V t).1.line ≠ 0)) ∧ (S cf i V T).1.line = 0 ∧ inv cf.cap (i + 1) (S cf i V T).2 ∧
    (if (i : Int) < cf.cap then (S cf i V T).1.ok = true ∧ (S cf i V T).1.i = i else (S cf i V T).1.ok = false ∧ (S cf i V T).1.i = -1) := by
  have c6 : ((15 : Nat) : Int) + 6 = 21 := rfl
  have c1 : ((15 : Nat) : Int) + 1 = 16 := rfl
  by_cases hc : (i : Int) < cf.cap
  · obtain ⟨r1, V', r2, r3, r4⟩ := cell_runs (c := 15) (n := 200) (cf := cf) (ky := i) (d := 100 + i) h.len (by decide) (by decide) (by decide) (by rw [c6]; exact h.st) (i := i) (by rw [c1]; exact h.cnt) hc (by omega) (h.free i (Nat.le_refl _) hc) (by rw [h.clk]; decide) (by rw [h.clk]; decide)
    have r2' : S cf i V 8 = _ := r2
    rw [h.clk, c1] at r4
    refine ⟨8, by decide, by decide, fun t ht => ⟨?_, fun h0 => ?_⟩, by rw [r2'], ?_, ?_⟩
    · cases t with
      | zero => rw [S_zero]; show (1 : Nat) ≤ 8; decide
      | succ t =>
        have z : (S cf i V (t + 1)).1.line = t + 1 + 1 := r1 (t + 1) ht (by omega)
        rw [z]; omega
    · have z : (S cf i V t).1.line = t + 1 := r1 t ht h0
      rw [z]; omega
    · rw [r2']
      have hp : ∀ q : Nat, cpos 15 q = 22 + 3 * (q : Int) := fun q => by unfold cpos; omega
      have hpi := hp i
      refine ⟨r3, ?_, ?_, ?_, fun q hq hqc => ?_, fun q hq hqc => ?_⟩
      · rw [r4, if_neg (by omega), if_neg (by omega), if_neg (by omega), if_neg (by omega)]; exact h.clk
      · rw [r4, if_neg (by omega), if_neg (by omega), if_neg (by omega), if_neg (by omega)]; exact h.st
      · rw [r4, if_pos rfl]; omega
      · have hpq := hp q
        rcases Nat.lt_or_eq_of_le (Nat.lt_succ_iff.1 hq) with q' | rfl
        · obtain ⟨d1, d2⟩ := h.done q q' hqc
          constructor
          · rw [r4, if_neg (by omega), if_neg (by omega), if_neg (by omega), if_neg (by omega)]; exact d1
          · rw [r4, if_neg (by omega), if_neg (by omega), if_neg (by omega), if_neg (by omega)]; exact d2
        · constructor
          · rw [r4, if_neg (by omega), if_pos rfl]; rfl
          · rw [r4, if_neg (by omega), if_neg (by omega), if_neg (by omega), if_pos rfl]
      · have hpq := hp q
        rw [r4, if_neg (by omega), if_neg (by omega), if_neg (by omega), if_neg (by omega)]
        exact h.free q (by omega) hqc
    · rw [if_pos hc]; rw [r2']; exact ⟨rfl, rfl⟩
  · obtain ⟨r1, V', r2, r3, r4⟩ := cell_none (c := 15) (n := 200) (cf := cf) (ky := i) (d := 100 + i) h.len (by decide) (by decide) (by rw [c6]; exact h.st) (i := i) (by rw [c1]; exact h.cnt) (by omega) (by omega)
    have r2' : S cf i V 2 = _ := r2
    have r1' : (S cf i V 1).1.line = 2 := r1
    rw [c1] at r4
    refine ⟨2, by decide, by decide, fun t ht => ⟨?_, fun h0 => ?_⟩, by rw [r2'], ?_, ?_⟩
    · have : t = 0 ∨ t = 1 := by omega
      rcases this with rfl | rfl
      · rw [S_zero]; show (1 : Nat) ≤ 8; decide
      · rw [r1']; decide
    · obtain rfl : t = 1 := by omega
      rw [r1']; decide
    · rw [r2']
      have hp : ∀ q : Nat, cpos 15 q = 22 + 3 * (q : Int) := fun q => by unfold cpos; omega
      refine ⟨r3, ?_, ?_, ?_, fun q hq hqc => ?_, fun q hq hqc => by omega⟩
      · rw [r4, if_neg (by omega)]; exact h.clk
      · rw [r4, if_neg (by omega)]; exact h.st
      · rw [r4, if_pos rfl]; omega
      · have hpq := hp q
        obtain ⟨d1, d2⟩ := h.done q (by omega) hqc
        exact ⟨by rw [r4, if_neg (by omega)]; exact d1, by rw [r4, if_neg (by omega)]; exact d2⟩
    · rw [if_neg hc]; rw [r2']; exact ⟨rfl, rfl⟩
def conf (cap : Int) : Option (Bool × AObj Ext) := some (true, .cells [.int .i64 1, .int .i64 cap, .int .i64 200, .int .i64 1000] 25)
abbrev p0 : Value := .pointer (some ⟨0, 0, none⟩)
abbrev p1 : Value := .pointer (some ⟨1, 0, none⟩)
abbrev p2 : Value := .pointer (some ⟨2, 0, none⟩)
def I1 (n : Int) (N : Nat) (cap : Int) (k : Nat) (vs : List Value) (H : HX) : Prop :=
  ∃ (i : Nat) (V : Vw), k + i = N ∧ inv cap i V ∧ vs = [.int .u8 n, p0, p1, .int .i64 15, .int .i64 i] ∧ H = [conf cap, some (true, .ext (.arena V))]
def E1 (n : Int) (N : Nat) (cap : Int) (e : Exit) (vs : List Value) (H : HX) : Prop :=
  e = .exit 0 ∧ ∃ V : Vw, inv cap N V ∧ vs = [.int .u8 n, p0, p1, .int .i64 15] ∧ H = [conf cap, some (true, .ext (.arena V))]
def I2 (n : Int) (cf : Cf) (i : Nat) (V : Vw) (T : Nat) (k : Nat) (vs : List Value) (H : HX) : Prop :=
  ∃ t, k + t = T ∧ t < T ∧ vs = [.int .u8 n, p0, p1, .int .i64 15, .int .i64 i, p2, .int .i64 t] ∧ H = [conf cf.cap, some (true, .ext (.arena (S cf i V t).2)), some (true, .ext (.cell (S cf i V t).1))]
def E2 (n : Int) (cf : Cf) (i : Nat) (V : Vw) (T : Nat) (e : Exit) (vs : List Value) (H : HX) : Prop :=
  e = .exit 2 ∧ vs = [.int .u8 n, p0, p1, .int .i64 15, .int .i64 i, p2] ∧ H = [conf cf.cap, some (true, .ext (.arena (S cf i V T).2)), some (true, .ext (.cell (S cf i V T).1))]
def I3 (n : Int) (N : Nat) (cap : Int) (k : Nat) (vs : List Value) (H : HX) : Prop :=
  ∃ (i : Nat) (V : Vw), (k : Int) + i = cap ∧ inv cap N V ∧ vs = [.int .u8 n, p0, p1, .int .i64 15, .int .i64 i] ∧ H = [conf cap, some (true, .ext (.arena V))]
theorem start {cap : Int} (h3 : 3 ≤ cap) (h15 : cap ≤ 15) : inv cap 0 (Cf.arena ⟨1, cap, 200, 1000⟩) := by
  have hz : ∀ q : Int, (q = 1 ∨ q = 21 ∨ q = 16 ∨ (22 ≤ q ∧ q < 22 + 3 * cap)) → (Cf.arena ⟨1, cap, 200, 1000⟩).rd q = 0 := fun q hq => by
    simp only [sx_rd_arena, sx_lies]
    repeat' split
    all_goals omega
  exact ⟨by simp [Cf.arena], hz _ (by omega), hz _ (by omega), by rw [hz _ (by omega)]; rfl, fun q hq => by omega, fun q _ hq => hz _ (by unfold cpos; omega)⟩
end CF
attribute [local irreducible] Vw.rd Vw.swaps Vw.inb partF claimF stateF versionF SWP FWP OWP Ent CellM.step iterS
set_option maxRecDepth 100000 in
set_option maxHeartbeats 8000000 in
theorem cellFull_fwp (n cells : Int) (hn0 : 0 ≤ n) (hc0 : 0 ≤ cells) : FWP Try.prog (means W) 5 [.int .u8 n, .int .u8 cells] [] fun a _ => a = .bool true := by
  obtain ⟨N, hN⟩ := Int.eq_ofNat_of_zero_le (Int.emod_nonneg n (show (24 : Int) ≠ 0 by decide))
  have hN24 : N < 24 := by omega
  obtain ⟨cap, hcap⟩ : ∃ cap : Int, 3 + cells % 13 = cap := ⟨_, rfl⟩
  have h3 : 3 ≤ cap := by omega
  have h15 : cap ≤ 15 := by omega
  have hc : (⟨1, cap, 200, 1000⟩ : Cf).okB = true := by simp [Cf.okB]; omega
  have e1 : IntKind.i64.wrap (3 + IntKind.i64.wrap (cells.tmod 13)) = cap := by
    rw [tmodI hc0, wrapI (x := cells % 13) (by omega) (by omega), wrapI (by omega) (by omega)]; exact hcap
  have e2 : IntKind.i64.wrap (n.tmod 24) = (N : Int) := by rw [tmodI hn0, wrapI (by omega) (by omega)]; exact hN
  have ek : IntKind.i64.wrap (IntKind.i64.wrap (IntKind.i64.wrap (3 + 1) + 4) + 7) = 15 := by decide
  have e15 : IntKind.i64.wrap (15 + 7) = 22 := by decide
  have e16 : IntKind.i64.wrap (15 + 1) = 16 := by decide
  refine FWP.body envC15_ok 40 Try.func5 rfl (by exact Nat.le_of_ble_eq_true rfl) ?_
  repeat ((conv => whnf); first | (refine brT ?_ ?_; · (first | with_reducible exact Cf.okB_wf hc (by rw [e1]) | with_reducible exact Cf.okB_is hc (by rw [e1]) | (simp [*]; done))) | (refine brF ?_ ?_; · (first | with_reducible exact Cf.okB_wf hc (by rw [e1]) | with_reducible exact Cf.okB_is hc (by rw [e1]) | (simp [*]; done))))

  conv => whnf
  refine SWP.cutS Try.f5.ntmps [0, 5, 6, 8] (CF.E1 n N cap) (SWP.loopS Try.f5.ntmps [0, 5, 6, 8, 9] (CF.I1 n N cap) (N := N) [0, 1] rfl rfl rfl ?_ ?_) ?_
  · refine ⟨0, Cf.arena ⟨1, cap, 200, 1000⟩, rfl, CF.start h3 h15, ?_, ?_⟩
    · simp only [ek]; rfl
    · simp only [e1]; rfl
  · rintro k vs H ⟨i, V, hk, hI, rfl, rfl⟩
    refine SWP.code envC15_ok 40 200 ?_
    by_cases hi : i < N
    · have f1 : (i : Int) < (N : Int) := by omega
      have f2 : IntKind.i64.wrap ((i : Int) + 1) = (i : Int) + 1 := wrapI (by omega) (by omega)
      have f3 : IntKind.i64.wrap (100 + (i : Int)) = 100 + i := wrapI (by omega) (by omega)
      repeat ((conv => whnf); first | (refine brT ?_ ?_; · (simp [*]; done)) | (refine brF ?_ ?_; · (simp [*]; done)))

      conv => whnf
      obtain ⟨T, hT0, hT8, hl, hlT, hI', hv⟩ := CF.run (cf := ⟨1, cap, 200, 1000⟩) h3 h15 (i := i) (by omega) hI
      refine SWP.cutS Try.f5.ntmps [0, 5, 6, 8, 9, 10] (CF.E2 n ⟨1, cap, 200, 1000⟩ i V T) (SWP.loopS Try.f5.ntmps [0, 5, 6, 8, 9, 10, 11] (CF.I2 n ⟨1, cap, 200, 1000⟩ i V T) (N := T) [0, 1, 2] rfl rfl rfl ?_ ?_) ?_
      · refine ⟨0, rfl, hT0, rfl, ?_⟩
        rw [CF.S_zero]; simp only [f3]; rfl
      · rintro k' vs H ⟨t, hkt, htT, rfl, rfl⟩
        refine SWP.code envC15_ok 40 200 ?_
        obtain ⟨hl8, _⟩ := hl t htT
        have g0 : (Nat.ble (CF.S ⟨1, cap, 200, 1000⟩ i V t).1.line 8 && !Nat.beq 2 1) = true := by rw [Nat.ble_eq_true_of_le hl8]; rfl
        have g1 : (t : Int) < 12 := by omega
        have g2 : IntKind.i64.wrap ((t : Int) + 1) = (t : Int) + 1 := wrapI (by omega) (by omega)
        have hs := CF.S_succ ⟨1, cap, 200, 1000⟩ i V t
        by_cases ht : t + 1 < T
        · have hl' : decide (((CF.S ⟨1, cap, 200, 1000⟩ i V t).1.step (CF.S ⟨1, cap, 200, 1000⟩ i V t).2).1.line = 0) = false := by rw [hs]; exact decide_eq_false ((hl _ ht).2 (by omega))
          have hl2 : (!decide (((CF.S ⟨1, cap, 200, 1000⟩ i V t).1.step (CF.S ⟨1, cap, 200, 1000⟩ i V t).2).1.line = 0)) = true := by rw [hl']; rfl
          repeat ((conv => whnf); first | (refine brT ?_ ?_; · (first | exact g0 | exact hl' | exact hl2 | (simp [*]; done))) | (refine brF ?_ ?_; · (first | exact g0 | exact hl' | exact hl2 | (simp [*]; done))))

          conv => whnf
          refine ⟨k' - 1, by omega, [0, 1, 2], rfl, rfl, _, rfl, t + 1, by omega, ht, by rw [g2]; rfl, ?_⟩
          rw [← hs]; rfl
        · have hl' : decide (((CF.S ⟨1, cap, 200, 1000⟩ i V t).1.step (CF.S ⟨1, cap, 200, 1000⟩ i V t).2).1.line = 0) = true := by rw [hs, show t + 1 = T from by omega]; exact decide_eq_true hlT
          have hl2 : (!decide (((CF.S ⟨1, cap, 200, 1000⟩ i V t).1.step (CF.S ⟨1, cap, 200, 1000⟩ i V t).2).1.line = 0)) = false := by rw [hl']; rfl
          repeat ((conv => whnf); first | (refine brT ?_ ?_; · (first | exact g0 | exact hl' | exact hl2 | (simp [*]; done))) | (refine brF ?_ ?_; · (first | exact g0 | exact hl' | exact hl2 | (simp [*]; done))))

          conv => whnf
          refine ⟨[0, 1, 2], rfl, rfl, _, rfl, rfl, rfl, ?_⟩
          have : T = t + 1 := by omega
          rw [this, ← hs]; rfl
      · rintro e vs H ⟨rfl, rfl, rfl⟩
        by_cases hic : (i : Int) < cap
        · rw [if_pos hic] at hv
          obtain ⟨v1, v2⟩ := hv
          repeat ((conv => whnf); first | (refine brT ?_ ?_; · (simp [*]; done)) | (refine brF ?_ ?_; · (simp [*]; done)))

          conv => whnf
          refine ⟨k - 1, by omega, [0, 1], rfl, rfl, _, rfl, i + 1, _, by omega, hI', by rw [f2]; rfl, rfl⟩
        · rw [if_neg hic] at hv
          obtain ⟨v1, v2⟩ := hv
          repeat ((conv => whnf); first | (refine brT ?_ ?_; · (simp [*]; done)) | (refine brF ?_ ?_; · (simp [*]; done)))

          conv => whnf
          refine ⟨k - 1, by omega, [0, 1], rfl, rfl, _, rfl, i + 1, _, by omega, hI', by rw [f2]; rfl, rfl⟩
    · have f1 : ¬ (i : Int) < (N : Int) := by omega
      repeat ((conv => whnf); first | (refine brT ?_ ?_; · (simp [*]; done)) | (refine brF ?_ ?_; · (simp [*]; done)))

      conv => whnf
      have : i = N := by omega
      subst this
      exact ⟨[0, 1], rfl, rfl, _, rfl, rfl, V, hI, rfl, rfl⟩
  · rintro e vs H ⟨rfl, V, hE, rfl, rfl⟩
    repeat ((conv => whnf); first | (refine brT ?_ ?_; · (simp [*]; done)) | (refine brF ?_ ?_; · (simp [*]; done)))

    conv => whnf
    obtain ⟨M, hM⟩ : ∃ M : Nat, (M : Int) = cap := ⟨cap.toNat, by omega⟩
    refine SWP.loopS Try.f5.ntmps [0, 5, 6, 8, 14] (CF.I3 n N cap) (N := M) [0, 1] rfl rfl rfl ⟨0, V, by omega, hE, rfl, rfl⟩ ?_
    rintro k vs H ⟨i, V, hk, hI, rfl, rfl⟩
    refine SWP.code envC15_ok 40 200 ?_
    by_cases hi : (i : Int) < cap
    · have f2 : IntKind.i64.wrap ((i : Int) + 1) = (i : Int) + 1 := wrapI (by omega) (by omega)
      have f3 : IntKind.i64.wrap (22 + IntKind.i64.wrap (3 * (i : Int))) = cpos 15 i := by
        rw [wrapI (x := 3 * (i : Int)) (by omega) (by omega), wrapI (by omega) (by omega)]; unfold cpos; omega
      have f4 : IntKind.i64.wrap (cpos 15 i + 2) = cpos 15 i + 2 := by unfold cpos; exact wrapI (by omega) (by omega)
      have f5 : IntKind.i64.wrap (100 + (i : Int)) = 100 + i := wrapI (by omega) (by omega)
      by_cases hn : (i : Int) < (N : Int)
      · obtain ⟨d1, d2⟩ := hI.done i (by omega) hi
        repeat ((conv => whnf); first | (refine brT ?_ ?_; · (simp [*]; done)) | (refine brF ?_ ?_; · (simp [*]; done)))

        conv => whnf
        exact ⟨k - 1, by omega, [0, 1], rfl, rfl, _, rfl, i + 1, V, by omega, hI, by rw [f2]; rfl, rfl⟩
      · have d1 := hI.free i (by omega) hi
        repeat ((conv => whnf); first | (refine brT ?_ ?_; · (simp [*]; done)) | (refine brF ?_ ?_; · (simp [*]; done)))

        conv => whnf
        exact ⟨k - 1, by omega, [0, 1], rfl, rfl, _, rfl, i + 1, V, by omega, hI, by rw [f2]; rfl, rfl⟩
    · have d := hI.cnt
      repeat ((conv => whnf); first | (refine brT ?_ ?_; · (simp [*]; done)) | (refine brF ?_ ?_; · (simp [*]; done)))

      conv => whnf
      exact congrArg Value.bool (by simp [*])
theorem cellFull_walk (a0 a1 : Int) (w0 : (Lit.int .u8 a0).wf = true) (w1 : (Lit.int .u8 a1).wf = true) (w : World) :
    Calls Try.prog 5 #[.int .u8 a0, .int .u8 a1] w fun e w' => e = .returned (.bool true) ∧ Below w.heap.size w w' :=
  law_walk (n := 1) rfl w (cellFull_fwp a0 a1 (wf_u8_bounds w0).1 (wf_u8_bounds w1).1)
end Go.Proofs.Ytakbnbmbiaejiaa
