/- SealAgainst: the walk. -/
import Derived.Test.YtakbnbmbiaejiaaSealC
import Derived.Test.YtakbnbmbiaejiaaSealAgainstP
namespace Go.Proofs.Ytakbnbmbiaejiaa
open Go.RowKit
variable {W : World}

theorem known17 : FWP Try.prog (means W) 13 [] [] fun a b => a = .bool true ∧ b = [] := closed (by kernel_rfl)
noncomputable def envS : Env Ext := ((envK 13).add 19 (dt dSNew)).add 21 dSStep
theorem envS_ok : envS.Ok Try.prog (means W) := ((envK_ok known17).add fun args H v H' h => ok_SNew (by rw [← DT.out_of (dSNew args H)]; exact h)).add fun args H v H' h => ok_SStep h
/-- Slots ahead of a round of the first loop. -/
def SA.I1 (when clock : Int) (p : Nat) (posts : Bool) (k : Nat) (vs : List Value) (H : HX) : Prop :=
  ∃ (i : Nat) (x : SealM) (V : Vw) (d : Bool), k + i = 60 ∧ SA.inv clock p i x V d ∧ (d = true → posts = true ∧ when % 30 < i) ∧
    vs = [.int .u8 when, .bool posts, .int .u16 clock, .pointer (some ⟨0, 0, none⟩), .int .i64 15, .int .i64 (SA.pos p), .pointer (some ⟨1, 0, none⟩), .bool d, .int .i64 i] ∧ H = [some (true, .ext (.arena V)), some (true, .ext (.sealm x))]
/-- Behind it. -/
def SA.E1 (clock : Int) (p : Nat) (e : Exit) (vs : List Value) (H : HX) : Prop :=
  e = .exit 0 ∧ ∃ (V : Vw) (d : Bool), SA.ended clock p V d ∧ vs = [.int .u16 clock, .pointer (some ⟨0, 0, none⟩), .int .i64 15, .int .i64 (SA.pos p), .bool d] ∧ H = [some (true, .ext (.arena V))]
def SA.I2 (clock : Int) (p : Nat) (k : Nat) (vs : List Value) (H : HX) : Prop :=
  ∃ (i : Nat) (V : Vw) (d : Bool), k + i = 6 ∧ SA.ended clock p V d ∧ vs = [.int .u16 clock, .pointer (some ⟨0, 0, none⟩), .int .i64 15, .int .i64 (SA.pos p), .bool d, .int .i64 i] ∧ H = [some (true, .ext (.arena V))]
attribute [local irreducible] Vw.rd Vw.swaps Vw.inb partF claimF stateF versionF SWP FWP OWP Ent SealM.step
set_option maxRecDepth 100000 in
set_option maxHeartbeats 8000000 in
theorem sealAgainst_fwp (at' when clock : Int) (posts : Bool) (ha0 : 0 ≤ at') (hw0 : 0 ≤ when) (hc0 : 0 ≤ clock) (hc1 : clock ≤ 65535) : FWP Try.prog (means W) 3 [.int .u8 at', .int .u8 when, .bool posts, .int .u16 clock] [] fun a _ => a = .bool true := by
  have hc : (⟨1, 6, 200, 1000⟩ : Cf).okB = true := by decide
  obtain ⟨p, hp6⟩ := Int.eq_ofNat_of_zero_le (Int.emod_nonneg at' (show (6 : Int) ≠ 0 by decide))
  have hp : p < 6 := by omega
  have e1 : IntKind.i64.wrap (at'.tmod 6) = (p : Int) := by rw [tmodI ha0, wrapI (by omega) (by omega)]; exact hp6
  have e2 : IntKind.i64.wrap (when.tmod 30) = when % 30 := by rw [tmodI hw0, wrapI (by omega) (by omega)]
  have e3 : IntKind.i64.wrap clock = clock := wrapI (by omega) (by omega)
  have ek : IntKind.i64.wrap (IntKind.i64.wrap (IntKind.i64.wrap (3 + 1) + 4) + 7) = 15 := by decide
  have eq22 : IntKind.i64.wrap (15 + 7) = 22 := by decide
  have ep : ∀ q : Nat, q < 6 → IntKind.i64.wrap (22 + IntKind.i64.wrap (3 * (q : Int))) = SA.pos q := fun q hq => by
    rw [wrapI (x := 3 * (q : Int)) (by omega) (by omega), wrapI (by omega) (by omega)]; rfl
  have ep0 := ep _ hp
  refine FWP.body envS_ok 40 Try.func3 rfl (by exact Nat.le_of_ble_eq_true rfl) ?_
  repeat ((conv => whnf); first | (refine brT ?_ ?_; · (first | with_reducible exact Cf.okB_wf hc rfl | with_reducible exact Cf.okB_is hc rfl | (simp [*]; done))) | (refine brF ?_ ?_; · (first | with_reducible exact Cf.okB_wf hc rfl | with_reducible exact Cf.okB_is hc rfl | (simp [*]; done))))

  conv => whnf
  refine SWP.cutS Try.f3.ntmps [3, 10, 12, 13, 15] (SA.E1 clock p) (SWP.loopS Try.f3.ntmps [1, 2, 3, 10, 12, 13, 14, 15, 16] (SA.I1 when clock p posts) (N := 60) [1, 2] rfl rfl rfl ?_ ?_) ?_
  · refine ⟨0, SealM.new ⟨1, 6, 200, 1000⟩ 15 0, (Cf.arena ⟨1, 6, 200, 1000⟩).wr 1 clock, false, rfl, ?_, (fun h => by cases h), ?_, ?_⟩
    · have hz : ∀ q : Nat, q < 6 → ((Cf.arena ⟨1, 6, 200, 1000⟩).wr 1 clock).rd (SA.pos q) = 0 := fun q hq => by
        unfold SA.pos
        simp only [sx_rd_wr, sx_rd_arena, sx_lies]
        repeat' split
        all_goals omega
      exact ⟨⟨by simp [Cf.arena], by simp, rfl, rfl, rfl, rfl⟩, 0, by decide, rfl, fun q hq => by omega, fun q hq _ => .inl (hz q hq), .inl ⟨rfl, rfl, rfl, .inl (hz 0 (by decide))⟩⟩
    · simp [e1, ep0]
    · simp only [e3, ek]; rfl
  · rintro k vs H ⟨i, x, V, d, hk, hI, hd, rfl, rfl⟩
    obtain ⟨hi, hl, hat⟩ := SA.small hI
    refine SWP.code envS_ok 40 200 ?_
    have f1 : (i : Int) < 60 := by omega
    have g0 : (Nat.ble x.line 6 && (Nat.ble x.at' 1 || Nat.beq x.line 0) && !Nat.beq 1 0) = true := by rw [Nat.ble_eq_true_of_le hl, Nat.ble_eq_true_of_le hat]; rfl
    have f2 : IntKind.i64.wrap ((i : Int) + 1) = (i : Int) + 1 := wrapI (by omega) (by omega)
    have behind : ∀ (V' : Vw) (d' : Bool), SA.inv clock p i x V' d' → (d' = true → posts = true ∧ when % 30 < (i : Int) + 1) → ((x.step V').1.line ≠ 0 ∧ decide ((x.step V').1.line = 0) = false ∧ SA.I1 when clock p posts (k - 1) [.int .u8 when, .bool posts, .int .u16 clock, .pointer (some ⟨0, 0, none⟩), .int .i64 15, .int .i64 (SA.pos p), .pointer (some ⟨1, 0, none⟩), .bool d', .int .i64 (IntKind.i64.wrap ((i : Int) + 1))] [some (true, .ext (.arena (x.step V').2)), some (true, .ext (.sealm (x.step V').1))]) ∨
        (decide ((x.step V').1.line = 0) = true ∧ SA.E1 clock p (.exit 0) [.int .u16 clock, .pointer (some ⟨0, 0, none⟩), .int .i64 15, .int .i64 (SA.pos p), .bool d'] [some (true, .ext (.arena (x.step V').2))]) := fun V' d' h hd' => by
      rcases SA.step hc0 hc1 h with ⟨h1, h2⟩ | ⟨h1, h2⟩
      · exact .inl ⟨h1, decide_eq_false h1, i + 1, _, _, d', by omega, h2, fun z => by have := hd' z; exact ⟨this.1, by omega⟩, by rw [f2]; rfl, rfl⟩
      · exact .inr ⟨decide_eq_true h1, rfl, _, _, h2, rfl, rfl⟩
    by_cases hr : when % 30 = (i : Int)
    · cases posts with
      | true =>
        have hd0 : d = false := by
          cases d with
          | false => rfl
          | true => have := (hd rfl).2; omega
        subst hd0
        rcases behind _ _ (SA.post hp hI) (fun _ => ⟨rfl, by omega⟩) with ⟨_, hl', hB⟩ | ⟨hl', hE⟩
        · repeat ((conv => whnf); first | (refine brT ?_ ?_; · (first | exact g0 | exact hl' | (simp [*]; done))) | (refine brF ?_ ?_; · (first | exact g0 | exact hl' | (simp [*]; done))))

          conv => whnf
          exact ⟨k - 1, by omega, [0, 1], rfl, rfl, _, rfl, hB⟩
        · repeat ((conv => whnf); first | (refine brT ?_ ?_; · (first | exact g0 | exact hl' | (simp [*]; done))) | (refine brF ?_ ?_; · (first | exact g0 | exact hl' | (simp [*]; done))))

          conv => whnf
          exact ⟨[0], rfl, rfl, _, rfl, hE⟩
      | false =>
        rcases behind _ _ hI (fun z => by have := hd z; exact ⟨this.1, by omega⟩) with ⟨_, hl', hB⟩ | ⟨hl', hE⟩
        · repeat ((conv => whnf); first | (refine brT ?_ ?_; · (first | exact g0 | exact hl' | (simp [*]; done))) | (refine brF ?_ ?_; · (first | exact g0 | exact hl' | (simp [*]; done))))

          conv => whnf
          exact ⟨k - 1, by omega, [0, 1], rfl, rfl, _, rfl, hB⟩
        · repeat ((conv => whnf); first | (refine brT ?_ ?_; · (first | exact g0 | exact hl' | (simp [*]; done))) | (refine brF ?_ ?_; · (first | exact g0 | exact hl' | (simp [*]; done))))

          conv => whnf
          exact ⟨[0], rfl, rfl, _, rfl, hE⟩
    · have hr2 : ¬ (i : Int) = when % 30 := fun q => hr q.symm
      rcases behind _ _ hI (fun z => by have := hd z; exact ⟨this.1, by omega⟩) with ⟨_, hl', hB⟩ | ⟨hl', hE⟩
      · repeat ((conv => whnf); first | (refine brT ?_ ?_; · (first | exact g0 | exact hl' | (simp [*]; done))) | (refine brF ?_ ?_; · (first | exact g0 | exact hl' | (simp [*]; done))))

        conv => whnf
        exact ⟨k - 1, by omega, [0, 1], rfl, rfl, _, rfl, hB⟩
      · repeat ((conv => whnf); first | (refine brT ?_ ?_; · (first | exact g0 | exact hl' | (simp [*]; done))) | (refine brF ?_ ?_; · (first | exact g0 | exact hl' | (simp [*]; done))))

        conv => whnf
        exact ⟨[0], rfl, rfl, _, rfl, hE⟩
  · rintro e vs H ⟨rfl, V, d, hE, rfl, rfl⟩
    repeat ((conv => whnf); first | (refine brT ?_ ?_; · (simp [*]; done)) | (refine brF ?_ ?_; · (simp [*]; done)))

    conv => whnf
    refine SWP.loopS Try.f3.ntmps [3, 10, 12, 13, 15, 17] (SA.I2 clock p) (N := 6) [0] rfl rfl rfl ⟨0, V, d, rfl, hE, rfl, rfl⟩ ?_
    rintro k vs H ⟨i, V, d, hk, hE, rfl, rfl⟩
    refine SWP.code envS_ok 40 200 ?_
    by_cases hi : i < 6
    · have f1 : (i : Int) < 6 := by omega
      have f2 : IntKind.i64.wrap ((i : Int) + 1) = (i : Int) + 1 := wrapI (by omega) (by omega)
      have f3 := ep i hi
      have n1 : ¬ clock + 3 = 2 := by omega
      have n2 : ¬ clock < 0 := by omega
      have n3 : ¬ clock > 16777212 := by omega
      have n4 : (if 0 < clock then clock else 0) = clock := by split <;> omega
      have n5 : IntKind.i64.wrap (clock + 3) = clock + 3 := wrapI (by omega) (by omega)
      have n6 : ¬ 16777212 < clock := by omega
      rcases hE.2.2 i hi with hw | ⟨hw, rfl, rfl⟩
      · repeat ((conv => whnf); first | (refine brT ?_ ?_; · (simp [*]; done)) | (refine brF ?_ ?_; · (simp [*]; done)))

        conv => whnf
        exact ⟨k - 1, by omega, [0], rfl, rfl, _, rfl, i + 1, V, d, by omega, hE, by rw [f2]; rfl, rfl⟩
      · repeat ((conv => whnf); first | (refine brT ?_ ?_; · (simp [*]; done)) | (refine brF ?_ ?_; · (simp [*]; done)))

        conv => whnf
        exact ⟨k - 1, by omega, [0], rfl, rfl, _, rfl, i + 1, V, _, by omega, hE, by rw [f2]; rfl, rfl⟩
    · have f1 : ¬ (i : Int) < 6 := by omega
      rcases hE.2.2 p hp with hw | ⟨hw, rfl, _⟩
      · repeat ((conv => whnf); first | (refine brT ?_ ?_; · (simp [*]; done)) | (refine brF ?_ ?_; · (simp [*]; done)))

        conv => whnf
        exact congrArg Value.bool (by simp [*])
      · have n1 : ¬ clock + 3 = 2 := by omega
        repeat ((conv => whnf); first | (refine brT ?_ ?_; · (simp [*]; done)) | (refine brF ?_ ?_; · (simp [*]; done)))

        conv => whnf
        exact congrArg Value.bool (by simp [*])
theorem sealAgainst_walk (a0 a1 : Int) (a2 : Bool) (a3 : Int) (w0 : (Lit.int .u8 a0).wf = true) (w1 : (Lit.int .u8 a1).wf = true) (w3 : (Lit.int .u16 a3).wf = true) (w : World) :
    Calls Try.prog 3 #[.int .u8 a0, .int .u8 a1, .bool a2, .int .u16 a3] w fun e w' => e = .returned (.bool true) ∧ Below w.heap.size w w' :=
  law_walk (n := 1) rfl w (sealAgainst_fwp a0 a1 a3 a2 (wf_u8_bounds w0).1 (wf_u8_bounds w1).1 (wf_u16_bounds w3).1 (wf_u16_bounds w3).2)
end Go.Proofs.Ytakbnbmbiaejiaa
