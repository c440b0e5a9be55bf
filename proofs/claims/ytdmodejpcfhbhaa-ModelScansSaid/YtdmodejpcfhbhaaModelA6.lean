/- Package model: its map's pairs, told where three other objects lie behind the map. -/
import Derived.Test.YtdmodejpcfhbhaaModelB
namespace Go.Proofs.Ytdmodejpcfhbhaa
open Go.RowKit
variable {W : World}

def All6.I (p : Bool) (T : TypeId) (k0 k1 k2 k3 : Int) (f g : Int → Option Int) (t1 t2 : Tk) (ks : List Int) (k : Nat) (vs : List Value) (H : HX) : Prop :=
  ∃ i, k + i = ks.length ∧ vs = [.pointer (some ⟨0, 0, none⟩), pairV 7 (pairsOf f (ks.take i)), slOf 6 ks.length, .int .i64 ks.length, .int .i64 i] ∧
    H = [some (p, .cells [.map (some 1), .map (some 2)] T), some (p, .ext (.im (.ints f) t1)), some (p, .ext (.im (.ints g) t2)), some (true, .cells [.int .i64 k0, .int .i64 k1, .int .i64 k2, .int .i64 k3] 27), some (true, .cells [.int .i64 0, .bool false, .int .i64 0, .int .i64 0, .int .i64 0, .slice none 0 0] 43), some (true, .cells [.int .i64 0, .bool false, .int .i64 0, .int .i64 (-1), .int .i64 0, .slice none 0 0] 43), ksRow ks] ++ pairH (pairsOf f (ks.take i))
def All6.E (p : Bool) (T : TypeId) (k0 k1 k2 k3 : Int) (f g : Int → Option Int) (t1 t2 : Tk) (ks : List Int) (e : Exit) (vs : List Value) (H : HX) : Prop :=
  e = .exit 0 ∧ vs = [pairV 6 (pairsOf f ks)] ∧ H = [some (p, .cells [.map (some 1), .map (some 2)] T), some (p, .ext (.im (.ints f) t1)), some (p, .ext (.im (.ints g) t2)), some (true, .cells [.int .i64 k0, .int .i64 k1, .int .i64 k2, .int .i64 k3] 27), some (true, .cells [.int .i64 0, .bool false, .int .i64 0, .int .i64 0, .int .i64 0, .slice none 0 0] 43), some (true, .cells [.int .i64 0, .bool false, .int .i64 0, .int .i64 (-1), .int .i64 0, .slice none 0 0] 43)] ++ pairH (pairsOf f ks)
attribute [local irreducible] keysF SWP FWP OWP
set_option maxRecDepth 100000 in
set_option maxHeartbeats 4000000 in
theorem all_fwp6 (k0 k1 k2 k3 : Int) (T : TypeId) (f g : Int → Option Int) (t1 t2 : Tk) : FWP Try.prog (means W) 28 [.pointer (some ⟨0, 0, none⟩)] (parts3 true T f g t1 t2 ++ [some (true, .cells [.int .i64 k0, .int .i64 k1, .int .i64 k2, .int .i64 k3] 27), some (true, .cells [.int .i64 0, .bool false, .int .i64 0, .int .i64 0, .int .i64 0, .slice none 0 0] 43), some (true, .cells [.int .i64 0, .bool false, .int .i64 0, .int .i64 (-1), .int .i64 0, .slice none 0 0] 43)]) fun v G => v = pairV 6 (pairsOf f (keysF 64 (Mc.ints f).has)) ∧ G = parts3 true T f g t1 t2 ++ [some (true, .cells [.int .i64 k0, .int .i64 k1, .int .i64 k2, .int .i64 k3] 27), some (true, .cells [.int .i64 0, .bool false, .int .i64 0, .int .i64 0, .int .i64 0, .slice none 0 0] 43), some (true, .cells [.int .i64 0, .bool false, .int .i64 0, .int .i64 (-1), .int .i64 0, .slice none 0 0] 43)] ++ pairH (pairsOf f (keysF 64 (Mc.ints f).has)) := by
  unfold parts3
  refine FWP.tidy (FWP.body envL_ok 40 Try.func28 rfl (by exact Nat.le_of_ble_eq_true rfl) ?_)
  cases hemp : (keysF 64 (Mc.ints f).has).isEmpty with
  | true =>
    have e0 : keysF 64 (Mc.ints f).has = [] := by simpa using hemp
    rw [e0]
    repeat ((conv => whnf); first | (refine brT ?_ ?_; · (exact hemp)) | (refine brF ?_ ?_; · (exact hemp)))

    conv => whnf
    refine SWP.turns envL_ok 40 200 3 ?_
    conv => whnf
    exact ⟨rfl, rfl⟩
  | false =>
    obtain ⟨ks, hks⟩ : ∃ ks, keysF 64 (Mc.ints f).has = ks := ⟨_, rfl⟩
    have hlen64 : ks.length ≤ 64 := by subst hks; exact keysF_len _ _
    have hget : ∀ i, i < ks.length → 0 ≤ ks.getD i 0 ∧ ks.getD i 0 < 64 := fun i hi => by subst hks; have := keysF_get hi; exact ⟨this.1, this.2.1⟩
    have hroom : keysF (Mc.ints f).room (Mc.ints f).has = ks := hks
    rw [hks]
    repeat ((conv => whnf); first | (refine brT ?_ ?_; · (exact hemp)) | (refine brF ?_ ?_; · (exact hemp)))

    conv => whnf
    rw [hroom]
    refine SWP.cutS Try.f28.ntmps [3] (All6.E true T k0 k1 k2 k3 f g t1 t2 ks) (SWP.loopS Try.f28.ntmps [0, 3, 11, 12, 13] (All6.I true T k0 k1 k2 k3 f g t1 t2 ks) (N := ks.length) [7] rfl rfl rfl ?_ ?_) ?_
    · exact ⟨0, rfl, rfl, rfl⟩
    · rintro k vs H ⟨i, hk, rfl, rfl⟩
      refine SWP.code envL_ok 40 200 ?_
      by_cases hi : i < ks.length
      · have hg := hget i hi
        have gi : decide (0 ≤ (i : Int) ∧ (i : Int) < (ks.length : Int)) = true := decide_eq_true (by omega)
        have gw : (Lit.int .i64 (ks.getD i 0)).wf = true := by rw [sx_wf]; simp only [Bool.and_eq_true, decide_eq_true_eq]; omega
        have gw1 : ((i + 1 : Nat) : Int) = IntKind.i64.wrap ((i : Int) + 1) := by rw [wrapI (by omega) (by omega)]; rfl
        cases i with
        | zero =>
          repeat ((conv => whnf); first | (refine brT ?_ ?_; · (first | exact gw | (simp [*]; done))) | (refine brF ?_ ?_; · (first | exact gw | (simp [*]; done))) | (rw [gi]))

          conv => whnf
          refine ⟨k - 1, by omega, [6, 8], rfl, rfl, _, rfl, 1, by omega, ?_, ?_⟩
          · rw [pairsOf_take f ks 0 hi 0 rfl, pairV_app, gw1]; rfl
          · rw [pairsOf_take f ks 0 hi 0 rfl, pairH_app]; rfl
        | succ j =>
          obtain ⟨a, r, har⟩ : ∃ a r, pairsOf f (ks.take (j + 1)) = a :: r := by
            cases q : pairsOf f (ks.take (j + 1)) with
            | nil => have := congrArg List.length q; unfold pairsOf at this; rw [List.length_map, List.length_take, List.length_nil] at this; omega
            | cons a r => exact ⟨a, r, rfl⟩
          have hlen : r.length = j := by have := congrArg List.length har; unfold pairsOf at this; rw [List.length_map, List.length_take, List.length_cons] at this; omega
          rw [har]
          have f1 : decide (((j + 1 : Nat) : Int) < (ks.length : Int)) = true := decide_eq_true (by omega)
          have f2 : decide (0 ≤ 0 + (((j + 1 : Nat) : Int)).toNat * 1 ∧ 0 + (((j + 1 : Nat) : Int)).toNat * 1 < ks.length * 1) = true := decide_eq_true (by omega)
          have hidx : 0 + (((j + 1 : Nat) : Int)).toNat * 1 = j + 1 := by omega
          have gw2 : (Lit.int .i64 (ks.getD (0 + (((j + 1 : Nat) : Int)).toNat * 1) 0)).wf = true := by rw [hidx]; exact gw
          have f3 : (decide ((59 : TypeId) = 59 ∧ 2 = 2 ∧ (a :: r).length = (a :: r).length) && decide (0 < 1 ∧ 0 + 1 * 2 ≤ 2 ∧ (a :: r).length + 1 ≤ 1000000)) = true := by rw [Bool.and_eq_true, decide_eq_true_eq, decide_eq_true_eq, List.length_cons, hlen]; exact ⟨⟨rfl, rfl, rfl⟩, by omega, by omega, by omega⟩
          repeat ((conv => whnf); first | (refine brT ?_ ?_; · (first | exact f1 | exact f2 | exact gw2 | exact f3 | exact gw | (simp; omega) | (simp [*]; done))) | (refine brF ?_ ?_; · (first | exact f1 | exact f2 | exact gw2 | exact f3 | exact gw | (simp; omega) | (simp [*]; done))) | (rw [gi]))

          conv => whnf
          have gt := pairsOf_take f ks (j + 1) hi _ hidx
          rw [har] at gt
          refine ⟨k - 1, by omega, [6, 9], rfl, rfl, _, rfl, j + 1 + 1, by omega, ?_, ?_⟩
          · rw [gt, pairV_app, gw1]; rfl
          · rw [gt, pairH_app]; rfl
      · have hki : ks.take i = ks := List.take_of_length_le (by omega)
        rw [hki]
        cases hp : pairsOf f ks with
        | nil =>
          repeat ((conv => whnf); first | (refine brT ?_ ?_; · (simp [*]; done)) | (refine brF ?_ ?_; · (simp [*]; done)))

          conv => whnf
          exact ⟨[], rfl, rfl, _, rfl, rfl, by rw [hp]; rfl, by rw [hp]; rfl⟩
        | cons a r =>
          repeat ((conv => whnf); first | (refine brT ?_ ?_; · (simp [*]; done)) | (refine brF ?_ ?_; · (simp [*]; done)))

          conv => whnf
          exact ⟨[7], rfl, rfl, _, rfl, rfl, by rw [hp]; rfl, by rw [hp]; rfl⟩
    · rintro e vs H ⟨rfl, rfl, rfl⟩
      cases hp : pairsOf f ks with
      | nil =>
        conv => whnf
        exact ⟨rfl, rfl⟩
      | cons a r =>
        conv => whnf
        exact ⟨rfl, rfl⟩
end Go.Proofs.Ytdmodejpcfhbhaa
