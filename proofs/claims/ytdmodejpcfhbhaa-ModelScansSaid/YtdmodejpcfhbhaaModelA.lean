/- Package model: its map's pairs, told. -/
import Derived.Test.YtdmodejpcfhbhaaLay
import Derived.Test.YtdmodejpcfhbhaaModl
namespace Go.Proofs.Ytdmodejpcfhbhaa
open Go.RowKit
variable {W : World}

noncomputable def envL : Env Ext := (((env.add 72 (dt (dKeysOf 100 106))).add 71 dSorted).add 74 (dt dClone))
theorem envL_ok : envL.Ok Try.prog (means W) := ((env_ok.add fun args H v H' h => ok_keysA (by rw [← DT.out_of (dKeysOf _ _ args H)]; exact h)).add fun args H v H' h => ok_Sorted h).add fun args H v H' h => ok_Clone (by rw [← DT.out_of (dClone args H)]; exact h)
/-- Pairs in a row. -/
def pairF (l : List (Int × Int)) (q : Nat) : Int := if q % 2 = 0 then (l.getD (q / 2) (0, 0)).1 else (l.getD (q / 2) (0, 0)).2
def pairsOf (f : Int → Option Int) (ks : List Int) : List (Int × Int) := ks.map fun k => (k, (f k).getD 0)
def pairRow (l : List (Int × Int)) : Option (Bool × AObj Ext) := some (true, .ext (.row 59 2 l.length (.ints .i64 (pairF l))))
def slOf (i n : Nat) : Value := .slice (some ⟨i, 0, some 0⟩) n 0
/-- A row of pairs as the value at number i, and what it adds to memory. -/
def pairV (i : Nat) (l : List (Int × Int)) : Value := match l with | [] => .slice none 0 0 | _ :: _ => slOf i l.length
def pairH (l : List (Int × Int)) : HX := match l with | [] => [] | _ :: _ => [pairRow l]
def ksRow (ks : List Int) : Option (Bool × AObj Ext) := some (true, .ext (.row intT 1 ks.length (.ints .i64 fun q => ks.getD q 0)))
def All.I (p : Bool) (T : TypeId) (f g : Int → Option Int) (t1 t2 : Tk) (ks : List Int) (k : Nat) (vs : List Value) (H : HX) : Prop :=
  ∃ i, k + i = ks.length ∧ vs = [.pointer (some ⟨0, 0, none⟩), pairV 4 (pairsOf f (ks.take i)), slOf 3 ks.length, .int .i64 ks.length, .int .i64 i] ∧
    H = [some (p, .cells [.map (some 1), .map (some 2)] T), some (p, .ext (.im (.ints f) t1)), some (p, .ext (.im (.ints g) t2)), ksRow ks] ++ pairH (pairsOf f (ks.take i))
def All.E (p : Bool) (T : TypeId) (f g : Int → Option Int) (t1 t2 : Tk) (ks : List Int) (e : Exit) (vs : List Value) (H : HX) : Prop :=
  e = .exit 0 ∧ vs = [pairV 3 (pairsOf f ks)] ∧ H = [some (p, .cells [.map (some 1), .map (some 2)] T), some (p, .ext (.im (.ints f) t1)), some (p, .ext (.im (.ints g) t2))] ++ pairH (pairsOf f ks)
theorem keysF_get {room : Nat} {g : Int → Bool} {i : Nat} (h : i < (keysF room g).length) : 0 ≤ (keysF room g).getD i 0 ∧ (keysF room g).getD i 0 < (room : Int) ∧ g ((keysF room g).getD i 0) = true := by
  rw [List.getD_eq_getElem?_getD, List.getElem?_eq_getElem h]
  exact keysF_mem.1 (List.getElem_mem h)
theorem pairF_app (l : List (Int × Int)) (x : Int × Int) (q : Nat) : pairF (l ++ [x]) q = if q < l.length * 2 then pairF l q else [x.1, x.2].getD (0 + (q - l.length * 2)) 0 := by
  unfold pairF
  by_cases h : q < l.length * 2
  · rw [if_pos h]
    have e : (l ++ [x]).getD (q / 2) (0, 0) = l.getD (q / 2) (0, 0) := by
      rw [List.getD_eq_getElem?_getD, List.getElem?_append_left (by omega), ← List.getD_eq_getElem?_getD]
    rw [e]
  · rw [if_neg h]
    by_cases h2 : q / 2 = l.length
    · have e : (l ++ [x]).getD (q / 2) (0, 0) = x := by rw [h2, List.getD_eq_getElem?_getD]; simp
      rw [e]
      by_cases hp : q % 2 = 0
      · rw [if_pos hp, show 0 + (q - l.length * 2) = 0 from by omega]; rfl
      · rw [if_neg hp, show 0 + (q - l.length * 2) = 1 from by omega]; rfl
    · have e : (l ++ [x]).getD (q / 2) (0, 0) = (0, 0) := by
        rw [List.getD_eq_getElem?_getD, List.getElem?_eq_none (by simp; omega)]; rfl
      rw [e]
      obtain ⟨z, hz⟩ : ∃ z, 0 + (q - l.length * 2) = z + 2 := ⟨q - l.length * 2 - 2, by omega⟩
      rw [hz]
      split <;> rfl
theorem pairV_app (i : Nat) (l : List (Int × Int)) (x : Int × Int) : pairV i (l ++ [x]) = slOf i (l.length + 1) := by
  cases l with
  | nil => rfl
  | cons a r => show slOf i _ = _; simp
theorem pairH_app (l : List (Int × Int)) (x : Int × Int) : pairH (l ++ [x]) = [some (true, .ext (.row 59 2 (l.length + 1) (.ints .i64 fun q => if q < l.length * 2 then pairF l q else [x.1, x.2].getD (0 + (q - l.length * 2)) 0)))] := by
  have h : pairRow (l ++ [x]) = some (true, .ext (.row 59 2 (l.length + 1) (.ints .i64 fun q => if q < l.length * 2 then pairF l q else [x.1, x.2].getD (0 + (q - l.length * 2)) 0))) := by
    unfold pairRow
    rw [show pairF (l ++ [x]) = _ from funext (pairF_app l x)]
    simp
  cases l with
  | nil => exact congrArg (fun z => [z]) h
  | cons a r => exact congrArg (fun z => [z]) h
theorem pairsOf_take (f : Int → Option Int) (ks : List Int) (i : Nat) (h : i < ks.length) (q : Nat) (hq : q = i) : pairsOf f (ks.take (i + 1)) = pairsOf f (ks.take i) ++ [(ks.getD q 0, (f (ks.getD q 0)).getD 0)] := by
  subst hq
  unfold pairsOf
  rw [List.take_add_one, List.map_append, List.getD_eq_getElem?_getD, List.getElem?_eq_getElem h]; rfl
attribute [local irreducible] keysF SWP FWP OWP
set_option maxRecDepth 100000 in
set_option maxHeartbeats 4000000 in
theorem all_fwp (p : Bool) (T : TypeId) (f g : Int → Option Int) (t1 t2 : Tk) : FWP Try.prog (means W) 28 [.pointer (some ⟨0, 0, none⟩)] (parts3 p T f g t1 t2) fun v G => v = pairV 3 (pairsOf f (keysF 64 (Mc.ints f).has)) ∧ G = parts3 p T f g t1 t2 ++ pairH (pairsOf f (keysF 64 (Mc.ints f).has)) := by
  unfold parts3
  refine FWP.tidy (FWP.body envL_ok 40 Try.func28 rfl (by exact Nat.le_of_ble_eq_true rfl) ?_)
  cases hemp : (keysF 64 (Mc.ints f).has).isEmpty with
  | true =>
    have e0 : keysF 64 (Mc.ints f).has = [] := by simpa using hemp
    rw [e0]
    cases p
    all_goals
      repeat ((conv => whnf); first | (refine brT ?_ ?_; · (exact hemp)) | (refine brF ?_ ?_; · (exact hemp)))

      conv => whnf
      refine SWP.turns envL_ok 40 200 3 ?_
      conv => whnf
      exact ⟨rfl, rfl⟩
  | false =>
    obtain ⟨ks, hks⟩ : ∃ ks, keysF 64 (Mc.ints f).has = ks := ⟨_, rfl⟩
    have hlen64 : ks.length ≤ 64 := by subst hks; exact keysF_len _ _
    have hget : ∀ i, i < ks.length → 0 ≤ ks.getD i 0 ∧ ks.getD i 0 < 64 := fun i hi => by subst hks; have := keysF_get hi; exact ⟨this.1, this.2.1⟩
    have hroom : keysF (Mc.ints f).room (Mc.ints f).has = ks := hks
    rw [hks]
    cases p
    · repeat ((conv => whnf); first | (refine brT ?_ ?_; · (exact hemp)) | (refine brF ?_ ?_; · (exact hemp)))

      conv => whnf
      rw [hroom]
      refine SWP.cutS Try.f28.ntmps [3] (All.E false T f g t1 t2 ks) (SWP.loopS Try.f28.ntmps [0, 3, 11, 12, 13] (All.I false T f g t1 t2 ks) (N := ks.length) [4] rfl rfl rfl ?_ ?_) ?_
      · exact ⟨0, rfl, rfl, rfl⟩
      · rintro k vs H ⟨i, hk, rfl, rfl⟩
        refine SWP.code envL_ok 40 200 ?_
        by_cases hi : i < ks.length
        · have hg := hget i hi
          have gi : decide (0 ≤ (i : Int) ∧ (i : Int) < (ks.length : Int)) = true := decide_eq_true (by omega)
          have gw : (Lit.int .i64 (ks.getD i 0)).wf = true := by rw [sx_wf]; simp only [Bool.and_eq_true, decide_eq_true_eq]; omega
          have gw1 : ((i + 1 : Nat) : Int) = IntKind.i64.wrap ((i : Int) + 1) := by rw [wrapI (by omega) (by omega)]; rfl
          cases i with
          | zero =>
            repeat ((conv => whnf); first | (refine brT ?_ ?_; · (first | exact gw | (simp [*]; done))) | (refine brF ?_ ?_; · (first | exact gw | (simp [*]; done))) | (rw [gi]))

            conv => whnf
            refine ⟨k - 1, by omega, [3, 5], rfl, rfl, _, rfl, 1, by omega, ?_, ?_⟩
            · rw [pairsOf_take f ks 0 hi 0 rfl, pairV_app, gw1]; rfl
            · rw [pairsOf_take f ks 0 hi 0 rfl, pairH_app]; rfl
          | succ j =>
            obtain ⟨a, r, har⟩ : ∃ a r, pairsOf f (ks.take (j + 1)) = a :: r := by
              cases q : pairsOf f (ks.take (j + 1)) with
              | nil => have := congrArg List.length q; unfold pairsOf at this; rw [List.length_map, List.length_take, List.length_nil] at this; omega
              | cons a r => exact ⟨a, r, rfl⟩
            have hlen : r.length = j := by have := congrArg List.length har; unfold pairsOf at this; rw [List.length_map, List.length_take, List.length_cons] at this; omega
            rw [har]
            have f1 : decide (((j + 1 : Nat) : Int) < (ks.length : Int)) = true := decide_eq_true (by omega)
            have f2 : decide (0 ≤ 0 + (((j + 1 : Nat) : Int)).toNat * 1 ∧ 0 + (((j + 1 : Nat) : Int)).toNat * 1 < ks.length * 1) = true := decide_eq_true (by omega)
            have hidx : 0 + (((j + 1 : Nat) : Int)).toNat * 1 = j + 1 := by omega
            have gw2 : (Lit.int .i64 (ks.getD (0 + (((j + 1 : Nat) : Int)).toNat * 1) 0)).wf = true := by rw [hidx]; exact gw
            have f3 : (decide ((59 : TypeId) = 59 ∧ 2 = 2 ∧ (a :: r).length = (a :: r).length) && decide (0 < 1 ∧ 0 + 1 * 2 ≤ 2 ∧ (a :: r).length + 1 ≤ 1000000)) = true := by rw [Bool.and_eq_true, decide_eq_true_eq, decide_eq_true_eq, List.length_cons, hlen]; exact ⟨⟨rfl, rfl, rfl⟩, by omega, by omega, by omega⟩
            repeat ((conv => whnf); first | (refine brT ?_ ?_; · (first | exact f1 | exact f2 | exact gw2 | exact f3 | exact gw | (simp; omega) | (simp [*]; done))) | (refine brF ?_ ?_; · (first | exact f1 | exact f2 | exact gw2 | exact f3 | exact gw | (simp; omega) | (simp [*]; done))) | (rw [gi]))

            conv => whnf
            have gt := pairsOf_take f ks (j + 1) hi _ hidx
            rw [har] at gt
            refine ⟨k - 1, by omega, [3, 6], rfl, rfl, _, rfl, j + 1 + 1, by omega, ?_, ?_⟩
            · rw [gt, pairV_app, gw1]; rfl
            · rw [gt, pairH_app]; rfl
        · have hki : ks.take i = ks := List.take_of_length_le (by omega)
          rw [hki]
          cases hp : pairsOf f ks with
          | nil =>
            repeat ((conv => whnf); first | (refine brT ?_ ?_; · (simp [*]; done)) | (refine brF ?_ ?_; · (simp [*]; done)))

            conv => whnf
            exact ⟨[], rfl, rfl, _, rfl, rfl, by rw [hp]; rfl, by rw [hp]; rfl⟩
          | cons a r =>
            repeat ((conv => whnf); first | (refine brT ?_ ?_; · (simp [*]; done)) | (refine brF ?_ ?_; · (simp [*]; done)))

            conv => whnf
            exact ⟨[4], rfl, rfl, _, rfl, rfl, by rw [hp]; rfl, by rw [hp]; rfl⟩
      · rintro e vs H ⟨rfl, rfl, rfl⟩
        cases hp : pairsOf f ks with
        | nil =>
          conv => whnf
          exact ⟨rfl, rfl⟩
        | cons a r =>
          conv => whnf
          exact ⟨rfl, rfl⟩
    · repeat ((conv => whnf); first | (refine brT ?_ ?_; · (exact hemp)) | (refine brF ?_ ?_; · (exact hemp)))

      conv => whnf
      rw [hroom]
      refine SWP.cutS Try.f28.ntmps [3] (All.E true T f g t1 t2 ks) (SWP.loopS Try.f28.ntmps [0, 3, 11, 12, 13] (All.I true T f g t1 t2 ks) (N := ks.length) [4] rfl rfl rfl ?_ ?_) ?_
      · exact ⟨0, rfl, rfl, rfl⟩
      · rintro k vs H ⟨i, hk, rfl, rfl⟩
        refine SWP.code envL_ok 40 200 ?_
        by_cases hi : i < ks.length
        · have hg := hget i hi
          have gi : decide (0 ≤ (i : Int) ∧ (i : Int) < (ks.length : Int)) = true := decide_eq_true (by omega)
          have gw : (Lit.int .i64 (ks.getD i 0)).wf = true := by rw [sx_wf]; simp only [Bool.and_eq_true, decide_eq_true_eq]; omega
          have gw1 : ((i + 1 : Nat) : Int) = IntKind.i64.wrap ((i : Int) + 1) := by rw [wrapI (by omega) (by omega)]; rfl
          cases i with
          | zero =>
            repeat ((conv => whnf); first | (refine brT ?_ ?_; · (first | exact gw | (simp [*]; done))) | (refine brF ?_ ?_; · (first | exact gw | (simp [*]; done))) | (rw [gi]))

            conv => whnf
            refine ⟨k - 1, by omega, [3, 5], rfl, rfl, _, rfl, 1, by omega, ?_, ?_⟩
            · rw [pairsOf_take f ks 0 hi 0 rfl, pairV_app, gw1]; rfl
            · rw [pairsOf_take f ks 0 hi 0 rfl, pairH_app]; rfl
          | succ j =>
            obtain ⟨a, r, har⟩ : ∃ a r, pairsOf f (ks.take (j + 1)) = a :: r := by
              cases q : pairsOf f (ks.take (j + 1)) with
              | nil => have := congrArg List.length q; unfold pairsOf at this; rw [List.length_map, List.length_take, List.length_nil] at this; omega
              | cons a r => exact ⟨a, r, rfl⟩
            have hlen : r.length = j := by have := congrArg List.length har; unfold pairsOf at this; rw [List.length_map, List.length_take, List.length_cons] at this; omega
            rw [har]
            have f1 : decide (((j + 1 : Nat) : Int) < (ks.length : Int)) = true := decide_eq_true (by omega)
            have f2 : decide (0 ≤ 0 + (((j + 1 : Nat) : Int)).toNat * 1 ∧ 0 + (((j + 1 : Nat) : Int)).toNat * 1 < ks.length * 1) = true := decide_eq_true (by omega)
            have hidx : 0 + (((j + 1 : Nat) : Int)).toNat * 1 = j + 1 := by omega
            have gw2 : (Lit.int .i64 (ks.getD (0 + (((j + 1 : Nat) : Int)).toNat * 1) 0)).wf = true := by rw [hidx]; exact gw
            have f3 : (decide ((59 : TypeId) = 59 ∧ 2 = 2 ∧ (a :: r).length = (a :: r).length) && decide (0 < 1 ∧ 0 + 1 * 2 ≤ 2 ∧ (a :: r).length + 1 ≤ 1000000)) = true := by rw [Bool.and_eq_true, decide_eq_true_eq, decide_eq_true_eq, List.length_cons, hlen]; exact ⟨⟨rfl, rfl, rfl⟩, by omega, by omega, by omega⟩
            repeat ((conv => whnf); first | (refine brT ?_ ?_; · (first | exact f1 | exact f2 | exact gw2 | exact f3 | exact gw | (simp; omega) | (simp [*]; done))) | (refine brF ?_ ?_; · (first | exact f1 | exact f2 | exact gw2 | exact f3 | exact gw | (simp; omega) | (simp [*]; done))) | (rw [gi]))

            conv => whnf
            have gt := pairsOf_take f ks (j + 1) hi _ hidx
            rw [har] at gt
            refine ⟨k - 1, by omega, [3, 6], rfl, rfl, _, rfl, j + 1 + 1, by omega, ?_, ?_⟩
            · rw [gt, pairV_app, gw1]; rfl
            · rw [gt, pairH_app]; rfl
        · have hki : ks.take i = ks := List.take_of_length_le (by omega)
          rw [hki]
          cases hp : pairsOf f ks with
          | nil =>
            repeat ((conv => whnf); first | (refine brT ?_ ?_; · (simp [*]; done)) | (refine brF ?_ ?_; · (simp [*]; done)))

            conv => whnf
            exact ⟨[], rfl, rfl, _, rfl, rfl, by rw [hp]; rfl, by rw [hp]; rfl⟩
          | cons a r =>
            repeat ((conv => whnf); first | (refine brT ?_ ?_; · (simp [*]; done)) | (refine brF ?_ ?_; · (simp [*]; done)))

            conv => whnf
            exact ⟨[4], rfl, rfl, _, rfl, rfl, by rw [hp]; rfl, by rw [hp]; rfl⟩
      · rintro e vs H ⟨rfl, rfl, rfl⟩
        cases hp : pairsOf f ks with
        | nil =>
          conv => whnf
          exact ⟨rfl, rfl⟩
        | cons a r =>
          conv => whnf
          exact ⟨rfl, rfl⟩
end Go.Proofs.Ytdmodejpcfhbhaa
