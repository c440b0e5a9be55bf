/- Answers compared, told. -/
import Derived.Test.YtdmodejpcfhbhaaModelP
namespace Go.Proofs.Ytdmodejpcfhbhaa
open Go.RowKit
variable {W : World}
noncomputable def envSP : Env Ext := env.add 27 dSP
theorem envSP_ok : envSP.Ok Try.prog (means W) := env_ok.add fun args H v H' h => ok_SP h
attribute [local irreducible] SWP FWP OWP
set_option maxRecDepth 100000 in
set_option maxHeartbeats 8000000 in
theorem sameAns0 (c1 c2 v1 v2 w1 w2 : Int) (b1 b2 : Bool) (hc : (c1 == c2) = true) (hb : (b1 == b2) = true) (hv : (v1 == v2) = true) (hw : (w1 == w2) = true) : FWP Try.prog (means W) 25 [ansV c1 b1 v1 w1 (.slice none 0 0), ansV c2 b2 v2 w2 (.slice none 0 0)] [] fun r H => r = .bool true ∧ H = [] := by
  unfold ansV
  refine FWP.tidy (FWP.body envSP_ok 40 Try.func25 rfl (by exact Nat.le_of_ble_eq_true rfl) ?_)
  repeat ((conv => whnf); first | (refine brT ?_ ?_; · (first | exact hc | exact hb | exact hv | exact hw)) | (refine brF ?_ ?_; · (first | exact hc | exact hb | exact hv | exact hw)))

  conv => whnf
  exact ⟨rfl, rfl⟩
set_option maxRecDepth 100000 in
set_option maxHeartbeats 8000000 in
theorem sameAns1 (n : Nat) (hn : n ≤ 1000000) (d1 d2 : Nat → Int) (he : eqRows n d1 n d2 = true) : FWP Try.prog (means W) 25 [ansV 0 false 0 (-1) (slOf 0 n), ansV 0 false 0 (-1) (slOf 1 n)] [rowP n d1, rowP n d2] fun r H => r = .bool true ∧ H = [rowP n d1, rowP n d2] := by
  have t : ∀ a b : Nat, a ≠ b → decide ((59 : TypeId) = 59 ∧ (59 : TypeId) = 59 ∧ n = n ∧ n = n ∧ n = n ∧ n ≤ 1000000 ∧ a ≠ b) = true := fun a b hab => decide_eq_true ⟨rfl, rfl, rfl, rfl, rfl, hn, hab⟩
  unfold ansV
  refine FWP.tidy (FWP.body envSP_ok 40 Try.func25 rfl (by exact Nat.le_of_ble_eq_true rfl) ?_)
  repeat ((conv => whnf); first | (refine brT ?_ ?_; · (first | exact he | exact t _ _ (by simp))) | (refine brF ?_ ?_; · (first | exact he | exact t _ _ (by simp))))

  conv => whnf
  exact ⟨congrArg Value.bool he, rfl⟩
def eqA (c1 c2 v1 v2 w1 w2 : Int) (b1 b2 : Bool) : Bool := (c1 == c2) && (b1 == b2) && (v1 == v2) && (w1 == w2)
def dSA : DetD
  | [.agg ⟨[.int .i64 c1, .bool b1, .int .i64 v1, .int .i64 w1, .int .i64 0, .slice none 0 0]⟩, .agg ⟨[.int .i64 c2, .bool b2, .int .i64 v2, .int .i64 w2, .int .i64 0, .slice none 0 0]⟩], H => .ite (eqA c1 c2 v1 v2 w1 w2 b1 b2) (.ret (.bool true) H) .no
  | [.agg ⟨[.int .i64 0, .bool false, .int .i64 0, .int .i64 (-1), .int .i64 0, .slice (some ⟨i, 0, some 0⟩) n 0]⟩, .agg ⟨[.int .i64 0, .bool false, .int .i64 0, .int .i64 (-1), .int .i64 0, .slice (some ⟨j, 0, some 0⟩) m 0]⟩], H => (match nth H i, nth H j with
    | some (true, .ext (.row T 2 n' (.ints .i64 c1))), some (true, .ext (.row U 2 m' (.ints .i64 c2))) =>
      .ite (decide (T = 59 ∧ U = 59 ∧ n' = n ∧ m' = m ∧ n = m ∧ n ≤ 1000000 ∧ i ≠ j)) (.ite (eqRows n c1 n c2) (.ret (.bool true) H) .no) .no
    | _, _ => .no)
  | _, _ => .no
theorem ok_SA {args : List Value} {H H' : HX} {v : Value} (h : (dSA args H).out = some (v, H')) : FWP Try.prog (means W) 25 args H fun a b => a = v ∧ b = H' := by
  unfold dSA at h
  split at h <;> try (cases h; done)
  · simp only [DT.out] at h
    split at h <;> try (cases h; done)
    rename_i he
    cases h
    unfold eqA at he
    simp only [Bool.and_eq_true] at he
    obtain ⟨⟨⟨h1, h2⟩, h3⟩, h4⟩ := he
    have := FWP.amongN (H := H) (G := []) (N := []) (r := .bool true) (n := 0) [] rfl rfl (rnL_scal 0 [] 2 _ rfl) (fun k e hk => by simp at hk) (fun k p o e => by simp [nth] at e) rfl (sameAns0 (W := W) _ _ _ _ _ _ _ _ h1 h2 h3 h4)
    simpa [putAll, ansV] using this
  · rename_i i n j m
    split at h <;> try (cases h; done)
    rename_i T n' c1 U m' c2 hi hj
    simp only [DT.out] at h
    split at h <;> try (cases h; done)
    rename_i hd
    split at h <;> try (cases h; done)
    rename_i heq
    cases h
    obtain ⟨rfl, rfl, rfl, rfl, rfl, hn, hij⟩ := of_decide_eq_true hd
    have hne : Nat.beq i j = false := by simpa [← Nat.beq_eq] using hij
    have := FWP.amongN (H := H) (G := [rowP n' c1, rowP n' c2]) (N := []) (r0 := .bool true) (r := .bool true) (n := 1) (args := [ansV 0 false 0 (-1) (.slice (some ⟨i, 0, some 0⟩) n' 0), ansV 0 false 0 (-1) (.slice (some ⟨j, 0, some 0⟩) n' 0)]) (args0 := [ansV 0 false 0 (-1) (slOf 0 n'), ansV 0 false 0 (-1) (slOf 1 n')]) [i, j] (by simp [okS, hne]) rfl
      (by simp [rnL, rnV, rnId, rnId.go, hne, slOf, ansV, plain, show Nat.beq 0 1 = false from rfl, show ∀ k, Nat.blt k 0 = false from fun k => rfl]) (fun k e hk => by
        cases k with
        | zero => simp at hk; subst hk; rw [hi]; rfl
        | succ k => cases k with
          | zero => simp at hk; subst hk; rw [hj]; rfl
          | succ k => simp at hk) (fun k p o e => by
        match k, e with
        | 0, e => simp [rowP, nth] at e; exact ⟨_, e.2.symm⟩
        | 1, e => simp [rowP, nth] at e; exact ⟨_, e.2.symm⟩
        | k + 2, e => simp [nth] at e) rfl (by simpa [Go.Proofs.Ytdmodejpcfhbhaa.pick, hi, hj, rowP] using sameAns1 (W := W) n' hn c1 c2 heq)
    have e2 : putAll H [i, j] [rowP n' c1, rowP n' c2] = H := by
      show put (put H i (rowP n' c1)) j (rowP n' c2) = H
      have : put H i (rowP n' c1) = H := put_self hi
      rw [this]; exact put_self hj
    rw [e2, List.append_nil] at this
    exact this
noncomputable def envP5 : Env Ext := envK5.add 25 dSA
theorem envP5_ok : envP5.Ok Try.prog (means W) := envK5_ok.add fun args H v H' h => ok_SA h
end Go.Proofs.Ytdmodejpcfhbhaa
