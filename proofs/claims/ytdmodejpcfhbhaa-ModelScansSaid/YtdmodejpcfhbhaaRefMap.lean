/- The document's map: NewMap. -/
import Derived.Test.YtdmodejpcfhbhaaModelC
namespace Go.Proofs.Ytdmodejpcfhbhaa
open Go.RowKit
variable {W : World}

set_option maxRecDepth 1000000 in
set_option maxHeartbeats 40000000 in
theorem refNew0 : FWP Try.prog (means W) 24 [] [] fun v G => v = .pointer (some ⟨0, 0, none⟩) ∧ ∃ T, G = [some (true, .cells (List.replicate 128 (.int .i64 (-1))) T)] := by
  refine FWP.body env_ok 40 Try.func24 rfl (by exact Nat.le_of_ble_eq_true rfl) ?_
  conv => whnf
  refine SWP.turns env_ok 40 200 70 ?_
  conv => whnf
  exact ⟨rfl, _, rfl⟩
theorem fix_shuts (n : Nat) (cs : List Value) (c : Rw) (hl : cs.length = n) (hc : ∀ j, j < n → cs[j]? = some (c.get j)) (W : World) : Shuts (means W) (.fix n c) cs := fun b h T hb => ⟨rfl, ⟨cs⟩, T, hb, by simpa using hl, fun j hj => by simpa using hc j hj⟩
def dRNewMap : DetT
  | [], H => some (.pointer (some ⟨H.length, 0, none⟩), H ++ [some (true, .ext (.fix 128 (.ints .i64 fun _ => -1)))])
  | _, _ => none
theorem ok_RNewMap {args : List Value} {H H' : HX} {v : Value} (h : dRNewMap args H = some (v, H')) : FWP Try.prog (means W) 24 args H fun a b => a = v ∧ b = H' := by
  unfold dRNewMap at h
  split at h <;> try (cases h; done)
  cases h
  refine FWP.born (n := 1) (cs := List.replicate 128 (.int .i64 (-1))) rfl rfl (fix_shuts 128 (List.replicate 128 (.int .i64 (-1))) _ List.length_replicate fun j hj => by rw [List.getElem?_replicate, if_pos hj]; rfl) (refNew0.mono fun v G ⟨e1, T, e2⟩ => ⟨0, T, e1, by rw [e2]; rfl⟩) H
/-! ### Do -/
noncomputable def envR : Env Ext := env.add 29 (dt dOpIs)
theorem envR_ok : envR.Ok Try.prog (means W) := env_ok.add fun args H v H' h => ok_RefIs (by rw [← DT.out_of (dOpIs args H)]; exact h)
def fixH (G : Nat → Int) : HX := [some (true, .ext (.fix 128 (.ints .i64 G)))]
def setG2 (G : Nat → Int) (k v w : Int) : Nat → Int := fun j => if j = 64 + k.toNat then w else if j = k.toNat then v else G j
set_option maxRecDepth 100000 in
set_option maxHeartbeats 4000000 in
theorem ref_bad (G : Nat → Int) (k key v to w : Int) (h : isOpB k key v to = false) : FWP Try.prog (means W) 26 [.pointer (some ⟨0, 0, none⟩), opV k key v to, .int .i64 w] (fixH G) fun r H => r = ansV 10 false 0 0 (.slice none 0 0) ∧ H = fixH G := by
  unfold fixH opV
  refine FWP.tidy (FWP.body envR_ok 40 Try.func26 rfl (by exact Nat.le_of_ble_eq_true rfl) ?_)
  repeat ((conv => whnf); first | (refine brT ?_ ?_; · (first | exact h | (simp [h]; done))) | (refine brF ?_ ?_; · (first | exact h | (simp [h]; done))))

  conv => whnf
  exact ⟨rfl, rfl⟩
theorem setG2_eq (G : Nat → Int) (k v w : Int) : (fun j => if j = 64 + k.toNat * 1 then w else (fun j => if j = 0 + k.toNat * 1 then v else G j) j) = setG2 G k v w := by
  funext j; unfold setG2; simp
set_option maxRecDepth 100000 in
set_option maxHeartbeats 4000000 in
theorem ref_put (G : Nat → Int) (key v to w : Int) (h : isOpB 1 key v to = true) : FWP Try.prog (means W) 26 [.pointer (some ⟨0, 0, none⟩), opV 1 key v to, .int .i64 w] (fixH G) fun r H => r = ansV 0 false 0 (-1) (.slice none 0 0) ∧ H = fixH (setG2 G key v w) := by
  have hk := op_key h
  have gi : decide (0 ≤ key ∧ key < ((64 : Nat) : Int)) = true := decide_eq_true (by omega)
  have s1 : decide (1 = 1 ∧ 0 + key.toNat * 1 + 1 ≤ 128) = true := decide_eq_true (by omega)
  have s2 : decide (1 = 1 ∧ 64 + key.toNat * 1 + 1 ≤ 128) = true := decide_eq_true (by omega)
  rw [← setG2_eq]
  unfold fixH opV
  refine FWP.tidy (FWP.body envR_ok 40 Try.func26 rfl (by exact Nat.le_of_ble_eq_true rfl) ?_)
  repeat ((conv => whnf); first | (refine brT ?_ ?_; · (first | exact h | (simp [h]; done) | exact s1 | exact s2)) | (refine brF ?_ ?_; · (first | exact h | (simp [h]; done) | exact s1 | exact s2)) | (rw [gi]))

  conv => whnf
  exact ⟨rfl, rfl⟩
set_option maxRecDepth 100000 in
set_option maxHeartbeats 4000000 in
theorem ref_del (G : Nat → Int) (key v to w : Int) (h : isOpB 2 key v to = true) : FWP Try.prog (means W) 26 [.pointer (some ⟨0, 0, none⟩), opV 2 key v to, .int .i64 w] (fixH G) fun r H => r = ansV 0 false 0 (-1) (.slice none 0 0) ∧ H = fixH (setG2 G key (-1) w) := by
  have hk := op_key h
  have gi : decide (0 ≤ key ∧ key < ((64 : Nat) : Int)) = true := decide_eq_true (by omega)
  have s1 : decide (1 = 1 ∧ 0 + key.toNat * 1 + 1 ≤ 128) = true := decide_eq_true (by omega)
  have s2 : decide (1 = 1 ∧ 64 + key.toNat * 1 + 1 ≤ 128) = true := decide_eq_true (by omega)
  rw [← setG2_eq]
  unfold fixH opV
  refine FWP.tidy (FWP.body envR_ok 40 Try.func26 rfl (by exact Nat.le_of_ble_eq_true rfl) ?_)
  repeat ((conv => whnf); first | (refine brT ?_ ?_; · (first | exact h | (simp [h]; done) | exact s1 | exact s2)) | (refine brF ?_ ?_; · (first | exact h | (simp [h]; done) | exact s1 | exact s2)) | (rw [gi]))

  conv => whnf
  exact ⟨rfl, rfl⟩
set_option maxRecDepth 100000 in
set_option maxHeartbeats 4000000 in
theorem ref_get0 (G : Nat → Int) (key v to w : Int) (h : isOpB 3 key v to = true) : FWP Try.prog (means W) 26 [.pointer (some ⟨0, 0, none⟩), opV 3 key v to, .int .i64 w] (fixH G) fun r H => r = ansV 0 (decide (G (0 + key.toNat * 1) ≥ 0)) (if G (0 + key.toNat * 1) > 0 then G (0 + key.toNat * 1) else 0) (G (64 + key.toNat * 1)) (.slice none 0 0) ∧ H = fixH G := by
  have hk := op_key h
  have gi : decide (0 ≤ key ∧ key < ((64 : Nat) : Int)) = true := decide_eq_true (by omega)
  have s1 : decide (0 ≤ 0 + key.toNat * 1 ∧ 0 + key.toNat * 1 < 128) = true := decide_eq_true (by omega)
  have s2 : decide (0 ≤ 64 + key.toNat * 1 ∧ 64 + key.toNat * 1 < 128) = true := decide_eq_true (by omega)
  unfold fixH opV
  refine FWP.tidy (FWP.body envR_ok 40 Try.func26 rfl (by exact Nat.le_of_ble_eq_true rfl) ?_)
  repeat ((conv => whnf); first | (refine brT ?_ ?_; · (first | exact h | (simp [h]; done) | exact s1 | exact s2)) | (refine brF ?_ ?_; · (first | exact h | (simp [h]; done) | exact s1 | exact s2)) | (rw [gi]))

  conv => whnf
  exact ⟨rfl, rfl⟩
def maxF (x : Int) : Int := if 0 < x then x else 0
def fndF (x : Int) : Bool := decide (0 ≤ x)
theorem ref_get (G : Nat → Int) (key v to w : Int) (h : isOpB 3 key v to = true) : FWP Try.prog (means W) 26 [.pointer (some ⟨0, 0, none⟩), opV 3 key v to, .int .i64 w] (fixH G) fun r H => r = ansV 0 (fndF (G key.toNat)) (maxF (G key.toNat)) (G (64 + key.toNat)) (.slice none 0 0) ∧ H = fixH G := by
  have := ref_get0 (W := W) G key v to w h
  rw [show 0 + key.toNat * 1 = key.toNat from by omega, show 64 + key.toNat * 1 = 64 + key.toNat from by omega] at this
  exact this
def gg (G : Nat → Int) (x : Int) : Bool := decide (0 ≤ G x.toNat)
def allG (G : Nat → Int) (n : Nat) : List (Int × Int) := (keysF n (gg G)).map fun k => (k, G k.toNat)
def rangeG (G : Nat → Int) (lo hi : Int) : List (Int × Int) := (allG G 64).filter (inP lo hi)
def loP (lo : Int) (p : Int × Int) : Bool := decide (lo ≤ p.1)
theorem keysF_succ (n : Nat) (g : Int → Bool) : keysF (n + 1) g = keysF n g ++ (if g (n : Int) then [(n : Int)] else []) := by
  unfold keysF
  rw [List.range_succ, List.filter_append, List.map_append]
  congr 1
  simp only [List.filter_cons, List.filter_nil]
  split <;> rfl
theorem allG_succ (G : Nat → Int) (lo : Int) (n : Nat) (q : Nat) (hq : q = n) (hlo : lo ≤ (n : Int)) : (allG G (n + 1)).filter (loP lo) = (allG G n).filter (loP lo) ++ (if 0 ≤ G q then [((n : Int), G q)] else []) := by
  subst hq
  unfold allG
  rw [keysF_succ, List.map_append, List.filter_append]
  congr 1
  unfold gg
  simp only [Int.toNat_natCast]
  by_cases h : 0 ≤ G q
  · rw [if_pos (by simpa using h), if_pos h]
    simp [loP, hlo]
  · rw [if_neg (by simpa using h), if_neg h]; rfl
theorem keysF_lt {n : Nat} {g : Int → Bool} {x : Int} (h : x ∈ keysF n g) : x < (n : Int) := (keysF_mem.1 h).2.1
theorem allG_none (G : Nat → Int) (lo : Int) (n : Nat) (h : (n : Int) ≤ lo) : (allG G n).filter (loP lo) = [] := by
  rw [List.filter_eq_nil_iff]
  intro p hp
  unfold allG at hp
  obtain ⟨x, hx, rfl⟩ := List.mem_map.1 hp
  have := keysF_lt hx
  simp [loP]; omega
theorem allG_cut (G : Nat → Int) (lo hi : Int) (m : Nat) (hm : (m : Int) = hi + 1) : ∀ n, m ≤ n → (allG G n).filter (inP lo hi) = (allG G m).filter (loP lo)
  | 0, h => by
    obtain rfl : m = 0 := by omega
    rfl
  | n + 1, h => by
    by_cases e : m = n + 1
    · subst e
      refine List.filter_congr fun p hp => ?_
      unfold allG at hp
      obtain ⟨x, hx, rfl⟩ := List.mem_map.1 hp
      have := keysF_lt hx
      unfold inP loP
      rw [show decide (x ≤ hi) = true from decide_eq_true (by omega), Bool.and_true]
    · rw [← allG_cut G lo hi m hm n (by omega)]
      unfold allG
      rw [keysF_succ, List.map_append, List.filter_append]
      have : List.filter (inP lo hi) (List.map (fun k => (k, G k.toNat)) (if gg G (n : Int) = true then [(n : Int)] else [])) = [] := by
        rw [List.filter_eq_nil_iff]
        intro p hp
        obtain ⟨x, hx, rfl⟩ := List.mem_map.1 hp
        split at hx
        · simp at hx; subst hx; unfold inP; simp; omega
        · simp at hx
      rw [this, List.append_nil]
theorem rangeG_eq (G : Nat → Int) (lo hi : Int) (n : Nat) (h1 : hi ≤ 63) (h : (n : Int) = hi + 1 ∨ ((n : Int) = lo ∧ hi < lo)) : (allG G n).filter (loP lo) = rangeG G lo hi := by
  rcases h with h | ⟨h, h2⟩
  · exact (allG_cut G lo hi n h 64 (by omega)).symm
  · rw [allG_none G lo n (by omega)]
    symm
    unfold rangeG
    rw [List.filter_eq_nil_iff]
    intro p _
    unfold inP
    simp; omega
def RScan.I (G : Nat → Int) (key v to : Int) (k : Nat) (vs : List Value) (H : HX) : Prop :=
  ∃ i : Nat, k + i = 65 ∧ key ≤ (i : Int) ∧ ((i : Int) ≤ to + 1 ∨ (i : Int) = key) ∧ vs = [.pointer (some ⟨0, 0, none⟩), .pointer (some ⟨1, 0, none⟩), .pointer (some ⟨2, 0, none⟩), .pointer (some ⟨3, 0, none⟩), .int .i64 i] ∧
    H = [some (true, .ext (.fix 128 (.ints .i64 G))), some (true, .cells [.int .i64 4, .int .i64 key, .int .i64 v, .int .i64 to] 27), ansC 0 0 (.slice none 0 0), ansC 0 (-1) (pairV 4 ((allG G i).filter (loP key)))] ++ pairH ((allG G i).filter (loP key))
def RScan.K (G : Nat → Int) (q : List (Int × Int)) (r : Value) (H : HX) : Prop :=
  r = ansV 0 false 0 (-1) (pairV 4 q) ∧ ((q = [] ∧ H = fixH G) ∨ (q ≠ [] ∧ ∃ c1 c2 c3, H = fixH G ++ [c1, c2, c3, pairRow q]))
attribute [local irreducible] keysF SWP FWP OWP
set_option maxRecDepth 100000 in
set_option maxHeartbeats 8000000 in
theorem ref_scan0 (G : Nat → Int) (key v to w : Int) (h : isOpB 4 key v to = true) : FWP Try.prog (means W) 26 [.pointer (some ⟨0, 0, none⟩), opV 4 key v to, .int .i64 w] (fixH G) (RScan.K G (rangeG G key to)) := by
  have hk := op_key h
  have ht := op_to h
  obtain ⟨kn, hkn⟩ := Int.eq_ofNat_of_zero_le hk.1
  unfold fixH opV
  refine FWP.tidy (FWP.body envR_ok 40 Try.func26 rfl (by exact Nat.le_of_ble_eq_true rfl) ?_)
  repeat ((conv => whnf); first | (refine brT ?_ ?_; · (first | exact h | (simp [h]; done))) | (refine brF ?_ ?_; · (first | exact h | (simp [h]; done))))

  conv => whnf
  refine SWP.loopS Try.f26.ntmps [0, 4, 6, 7, 8] (RScan.I G key v to) (N := 65 - kn) [1, 2, 3] rfl rfl rfl ?_ ?_
  · refine ⟨kn, by omega, by omega, .inr hkn.symm, by rw [hkn]; rfl, ?_⟩
    rw [allG_none G key kn (by omega)]; rfl
  rintro k vs H ⟨i, hki, hlo, hup, rfl, rfl⟩
  refine SWP.code envR_ok 40 200 ?_
  by_cases hi : (i : Int) ≤ to
  · have gi : decide (0 ≤ (i : Int) ∧ (i : Int) < ((64 : Nat) : Int)) = true := decide_eq_true (by omega)
    have f1 : decide ((i : Int) ≤ to) = true := decide_eq_true (by omega)
    have f2 : decide (0 ≤ 0 + ((i : Int)).toNat * 1 ∧ 0 + ((i : Int)).toNat * 1 < 128) = true := decide_eq_true (by omega)
    have gw1 : ((i + 1 : Nat) : Int) = IntKind.i64.wrap ((i : Int) + 1) := by rw [wrapI (by omega) (by omega)]; rfl
    have gt := allG_succ G key i (0 + ((i : Int)).toNat * 1) (by omega) hlo
    have hql : ((allG G i).filter (loP key)).length ≤ 64 := by
      refine Nat.le_trans (List.length_filter_le _ _) ?_
      unfold allG
      rw [List.length_map]
      exact Nat.le_trans (keysF_len _ _) (by omega)
    by_cases hg : 0 ≤ G (0 + ((i : Int)).toNat * 1)
    · have d1 : decide (G (0 + ((i : Int)).toNat * 1) ≥ 0) = true := decide_eq_true hg
      rw [if_pos hg] at gt
      cases hq : (allG G i).filter (loP key) with
      | nil =>
        rw [hq] at gt
        repeat ((conv => whnf); first | (refine brT ?_ ?_; · (first | exact f1 | exact f2 | exact d1 | (simp; done))) | (refine brF ?_ ?_; · (first | exact f1 | exact f2 | exact d1 | (simp; done))) | (rw [gi]))

        conv => whnf
        refine ⟨k - 1, by omega, [1, 2, 3, 5], rfl, rfl, _, rfl, i + 1, by omega, by omega, .inl (by omega), ?_, ?_⟩
        · rw [gw1]; rfl
        · rw [gt, pairV_app, pairH_app]; rfl
      | cons b s =>
        rw [hq] at gt hql
        have f3 : (decide ((59 : TypeId) = 59 ∧ 2 = 2 ∧ (b :: s).length = (b :: s).length) && decide (0 < 1 ∧ 0 + 1 * 2 ≤ 2 ∧ (b :: s).length + 1 ≤ 1000000)) = true := by rw [Bool.and_eq_true, decide_eq_true_eq, decide_eq_true_eq]; exact ⟨⟨rfl, rfl, rfl⟩, by omega, by omega, by omega⟩
        repeat ((conv => whnf); first | (refine brT ?_ ?_; · (first | exact f1 | exact f2 | exact d1 | exact f3 | (simp; done))) | (refine brF ?_ ?_; · (first | exact f1 | exact f2 | exact d1 | exact f3 | (simp; done))) | (rw [gi]))

        conv => whnf
        refine ⟨k - 1, by omega, [1, 2, 3, 6], rfl, rfl, _, rfl, i + 1, by omega, by omega, .inl (by omega), ?_, ?_⟩
        · rw [gw1]; rfl
        · rw [gt, pairV_app, pairH_app]; rfl
    · have d1 : decide (G (0 + ((i : Int)).toNat * 1) ≥ 0) = false := decide_eq_false hg
      rw [if_neg hg, List.append_nil] at gt
      cases hq : (allG G i).filter (loP key) with
      | nil =>
        rw [hq] at gt
        repeat ((conv => whnf); first | (refine brT ?_ ?_; · (first | exact f1 | exact f2 | exact d1 | (simp; done))) | (refine brF ?_ ?_; · (first | exact f1 | exact f2 | exact d1 | (simp; done))) | (rw [gi]))

        conv => whnf
        exact ⟨k - 1, by omega, [1, 2, 3], rfl, rfl, _, rfl, i + 1, by omega, by omega, .inl (by omega), by rw [gw1]; rfl, by rw [gt]; rfl⟩
      | cons b s =>
        rw [hq] at gt
        repeat ((conv => whnf); first | (refine brT ?_ ?_; · (first | exact f1 | exact f2 | exact d1 | (simp; done))) | (refine brF ?_ ?_; · (first | exact f1 | exact f2 | exact d1 | (simp; done))) | (rw [gi]))

        conv => whnf
        exact ⟨k - 1, by omega, [1, 2, 3, 4], rfl, rfl, _, rfl, i + 1, by omega, by omega, .inl (by omega), by rw [gw1]; rfl, by rw [gt]; rfl⟩
  · have f1 : decide ((i : Int) ≤ to) = false := decide_eq_false hi
    have he := rangeG_eq G key to i ht.2.1 (by omega)
    cases hq : (allG G i).filter (loP key) with
    | nil =>
      rw [hq] at he
      repeat ((conv => whnf); first | (refine brT ?_ ?_; · (exact f1)) | (refine brF ?_ ?_; · (exact f1)))

      conv => whnf
      exact ⟨by rw [← he]; rfl, .inl ⟨he.symm, rfl⟩⟩
    | cons b s =>
      rw [hq] at he
      repeat ((conv => whnf); first | (refine brT ?_ ?_; · (exact f1)) | (refine brF ?_ ?_; · (exact f1)))

      conv => whnf
      exact ⟨by rw [← he]; rfl, .inr ⟨by rw [← he]; simp, _, _, _, by rw [← he]; rfl⟩⟩
end Go.Proofs.Ytdmodejpcfhbhaa
