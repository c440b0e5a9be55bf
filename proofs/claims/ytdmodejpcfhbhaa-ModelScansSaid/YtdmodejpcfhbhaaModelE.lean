/- Rows of pairs compared, told; what the law's known answers. -/
import Derived.Test.YtdmodejpcfhbhaaModelD
namespace Go.Proofs.Ytdmodejpcfhbhaa
open Go.RowKit
variable {W : World}

def rowP (n : Nat) (c : Nat → Int) : Option (Bool × AObj Ext) := some (true, .ext (.row 59 2 n (.ints .i64 c)))
def eqRows (n1 : Nat) (c1 : Nat → Int) (n2 : Nat) (c2 : Nat → Int) : Bool := decide (n1 = n2) && (List.range (n1 * 2)).all fun j => decide (c1 j = c2 j)
def SP.I (n : Nat) (c1 c2 : Nat → Int) (k : Nat) (vs : List Value) (H : HX) : Prop :=
  ∃ i : Nat, k + i = n ∧ (∀ j, j < i * 2 → c1 j = c2 j) ∧ vs = [slOf 0 n, slOf 1 n, .int .i64 i] ∧ H = [rowP n c1, rowP n c2]
attribute [local irreducible] keysF SWP FWP OWP
set_option maxRecDepth 100000 in
set_option maxHeartbeats 8000000 in
theorem samePairs0 (n : Nat) (hn : n ≤ 1000000) (c1 c2 : Nat → Int) : FWP Try.prog (means W) 27 [slOf 0 n, slOf 1 n] [rowP n c1, rowP n c2] fun r H => r = .bool (eqRows n c1 n c2) ∧ H = [rowP n c1, rowP n c2] := by
  refine FWP.tidy (FWP.body envR_ok 40 Try.func27 rfl (by exact Nat.le_of_ble_eq_true rfl) ?_)
  have f0 : (!decide ((n : Int) = (n : Int))) = false := by simp
  repeat ((conv => whnf); first | (refine brT ?_ ?_; · (first | exact f0 | (simp; done))) | (refine brF ?_ ?_; · (first | exact f0 | (simp; done))))

  conv => whnf
  refine SWP.loopS Try.f27.ntmps [0, 1, 5] (SP.I n c1 c2) (N := n) [] rfl rfl rfl ?_ ?_
  · exact ⟨0, rfl, fun j hj => by omega, rfl, rfl⟩
  rintro k vs H ⟨i, hki, heq, rfl, rfl⟩
  refine SWP.code envR_ok 40 200 ?_
  by_cases hi : i < n
  · have gi : decide (0 ≤ (i : Int) ∧ (i : Int) < (n : Int)) = true := decide_eq_true (by omega)
    have f1 : decide ((i : Int) < (n : Int)) = true := decide_eq_true (by omega)
    have f2 : decide (0 ≤ 0 + ((i : Int)).toNat * 2 ∧ 0 + ((i : Int)).toNat * 2 + 2 ≤ n * 2) = true := decide_eq_true (by omega)
    have gw1 : ((i + 1 : Nat) : Int) = IntKind.i64.wrap ((i : Int) + 1) := by rw [wrapI (by omega) (by omega)]; rfl
    by_cases hb : c1 (0 + ((i : Int)).toNat * 2) = c2 (0 + ((i : Int)).toNat * 2) ∧ c1 (0 + ((i : Int)).toNat * 2 + 1) = c2 (0 + ((i : Int)).toNat * 2 + 1)
    · have e0 : (!(c1 (0 + ((i : Int)).toNat * 2) == c2 (0 + ((i : Int)).toNat * 2) && (c1 (0 + ((i : Int)).toNat * 2 + 1) == c2 (0 + ((i : Int)).toNat * 2 + 1) && true))) = false := by rw [hb.1, hb.2]; simp
      repeat ((conv => whnf); first | (refine brT ?_ ?_; · (first | exact f1 | exact f2 | exact e0)) | (refine brF ?_ ?_; · (first | exact f1 | exact f2 | exact e0)) | (rw [gi]))

      conv => whnf
      refine ⟨k - 1, by omega, [], rfl, rfl, _, rfl, i + 1, by omega, fun j hj => ?_, by rw [gw1]; rfl, rfl⟩
      by_cases hj2 : j < i * 2
      · exact heq j hj2
      · by_cases hj3 : j = i * 2
        · have := hb.1; rw [show 0 + ((i : Int)).toNat * 2 = j from by omega] at this; exact this
        · have := hb.2; rw [show 0 + ((i : Int)).toNat * 2 + 1 = j from by omega] at this; exact this
    · have e0 : (!(c1 (0 + ((i : Int)).toNat * 2) == c2 (0 + ((i : Int)).toNat * 2) && (c1 (0 + ((i : Int)).toNat * 2 + 1) == c2 (0 + ((i : Int)).toNat * 2 + 1) && true))) = true := by
        rw [Bool.not_eq_true', ← Bool.not_eq_true]
        intro h
        simp only [Bool.and_true, Bool.and_eq_true, beq_iff_eq] at h
        exact hb h
      repeat ((conv => whnf); first | (refine brT ?_ ?_; · (first | exact f1 | exact f2 | exact e0)) | (refine brF ?_ ?_; · (first | exact f1 | exact f2 | exact e0)) | (rw [gi]))

      conv => whnf
      refine ⟨congrArg Value.bool ?_, rfl⟩
      symm
      unfold eqRows
      rw [decide_eq_true rfl, Bool.true_and, ← Bool.not_eq_true, List.all_eq_true]
      intro h
      refine hb ⟨?_, ?_⟩
      · exact of_decide_eq_true (h _ (List.mem_range.2 (by omega)))
      · exact of_decide_eq_true (h _ (List.mem_range.2 (by omega)))
  · have f1 : decide ((i : Int) < (n : Int)) = false := decide_eq_false (by omega)
    repeat ((conv => whnf); first | (refine brT ?_ ?_; · (exact f1)) | (refine brF ?_ ?_; · (exact f1)))

    conv => whnf
    refine ⟨congrArg Value.bool ?_, rfl⟩
    symm
    unfold eqRows
    rw [decide_eq_true rfl, Bool.true_and, List.all_eq_true]
    exact fun j hj => decide_eq_true (heq j (by have := List.mem_range.1 hj; omega))
set_option maxRecDepth 100000 in
set_option maxHeartbeats 8000000 in
theorem samePairsN : FWP Try.prog (means W) 27 [nilS, nilS] [] fun r H => r = .bool true ∧ H = [] := by
  unfold nilS
  refine FWP.tidy (FWP.body envR_ok 40 Try.func27 rfl (by exact Nat.le_of_ble_eq_true rfl) ?_)
  conv => whnf
  refine SWP.turns envR_ok 40 200 3 ?_
  conv => whnf
  exact ⟨rfl, rfl⟩
def dSP : DetD
  | [.slice none 0 0, .slice none 0 0], H => .ret (.bool true) H
  | [.slice (some ⟨i, 0, some 0⟩) n 0, .slice (some ⟨j, 0, some 0⟩) m 0], H => (match nth H i, nth H j with
    | some (true, .ext (.row T 2 n' (.ints .i64 c1))), some (true, .ext (.row U 2 m' (.ints .i64 c2))) =>
      .ite (decide (T = 59 ∧ U = 59 ∧ n' = n ∧ m' = m ∧ n = m ∧ n ≤ 1000000 ∧ i ≠ j)) (.ret (.bool (eqRows n c1 n c2)) H) .no
    | _, _ => .no)
  | _, _ => .no
theorem ok_SP {args : List Value} {H H' : HX} {v : Value} (h : (dSP args H).out = some (v, H')) : FWP Try.prog (means W) 27 args H fun a b => a = v ∧ b = H' := by
  unfold dSP at h
  split at h <;> try (cases h; done)
  · cases h
    have := FWP.amongN (H := H) (G := []) (N := []) (r := .bool true) (n := 0) (args := [nilS, nilS]) (args0 := [nilS, nilS]) [] rfl rfl rfl (fun k e hk => by simp at hk) (fun k p o e => by simp [nth] at e) rfl (samePairsN (W := W))
    simpa [putAll, nilS] using this
  · rename_i i n j m
    split at h <;> try (cases h; done)
    rename_i T n' c1 U m' c2 hi hj
    simp only [DT.out] at h
    split at h <;> try (cases h; done)
    rename_i hd
    cases h
    obtain ⟨rfl, rfl, rfl, rfl, rfl, hn, hij⟩ := of_decide_eq_true hd
    have hne : Nat.beq i j = false := by simpa [← Nat.beq_eq] using hij
    have := FWP.amongN (H := H) (G := [rowP n' c1, rowP n' c2]) (N := []) (r0 := .bool (eqRows n' c1 n' c2)) (r := .bool (eqRows n' c1 n' c2)) (n := 1) (args := [.slice (some ⟨i, 0, some 0⟩) n' 0, .slice (some ⟨j, 0, some 0⟩) n' 0]) (args0 := [slOf 0 n', slOf 1 n']) [i, j] (by simp [okS, hne]) rfl
      (by simp [rnL, rnV, rnId, rnId.go, hne, slOf, show Nat.beq 0 1 = false from rfl, show ∀ k, Nat.blt k 0 = false from fun k => rfl]) (fun k e hk => by
        cases k with
        | zero => simp at hk; subst hk; rw [hi]; rfl
        | succ k => cases k with
          | zero => simp at hk; subst hk; rw [hj]; rfl
          | succ k => simp at hk) (fun k p o e => by
        match k, e with
        | 0, e => simp [rowP, nth] at e; exact ⟨_, e.2.symm⟩
        | 1, e => simp [rowP, nth] at e; exact ⟨_, e.2.symm⟩
        | k + 2, e => simp [nth] at e) rfl (by simpa [Go.Proofs.Ytdmodejpcfhbhaa.pick, hi, hj, rowP] using samePairs0 (W := W) n' hn c1 c2)
    have e2 : putAll H [i, j] [rowP n' c1, rowP n' c2] = H := by
      show put (put H i (rowP n' c1)) j (rowP n' c2) = H
      have : put H i (rowP n' c1) = H := put_self hi
      rw [this]; exact put_self hj
    rw [e2, List.append_nil] at this
    exact this
/-! ### The law's known -/
noncomputable def env5 : Env Ext := (((((((((envL.add 16 (dt dOpIs)).add 28 dAll).add 21 dDo).add 22 dGet).add 23 dWriter).add 20 (dt dModel)).add 30 (dt dMCopy)).add 24 (dt dRNewMap)).add 26 dRDo).add 27 dSP
theorem env5_ok : env5.Ok Try.prog (means W) := (((((((((envL_ok.add fun args H v H' h => ok_OpIs (by rw [← DT.out_of (dOpIs args H)]; exact h)).add fun args H v H' h => ok_All h).add fun args H v H' h => ok_Do h).add fun args H v H' h => ok_Get h).add fun args H v H' h => ok_Writer h).add fun args H v H' h => ok_Model (by rw [← DT.out_of (dModel args H)]; exact h)).add fun args H v H' h => ok_MCopy (by rw [← DT.out_of (dMCopy args H)]; exact h)).add fun args H v H' h => ok_RNewMap (by rw [← DT.out_of (dRNewMap args H)]; exact h)).add fun args H v H' h => ok_RDo h).add fun args H v H' h => ok_SP h
theorem closedE {E : Env Ext} (hE : E.Ok Try.prog (means W)) {f : FuncId} {v : Value} (h : fevD Try.prog E 40 f [] [] (fun a b => a = v ∧ b = []) = (v = v ∧ ([] : HX) = [])) : FWP Try.prog (means W) f [] [] fun a b => a = v ∧ b = [] :=
  fevD_fwp hE (d := 40) (h.mpr ⟨rfl, rfl⟩)
theorem known5 : FWP Try.prog (means W) 19 [] [] fun a b => a = .bool true ∧ b = [] := closedE env5_ok (by kernel_rfl)
noncomputable def envK5 : Env Ext := env5.add 19 (dt fun args H => match args with | [] => some (.bool true, H) | _ => none)
theorem envK5_ok : envK5.Ok Try.prog (means W) := env5_ok.add fun args H v H' h => by
  cases args with
  | nil => cases h; exact FWP.frame0 (n := 1) rfl known5 _
  | cons a l => cases h
end Go.Proofs.Ytdmodejpcfhbhaa
