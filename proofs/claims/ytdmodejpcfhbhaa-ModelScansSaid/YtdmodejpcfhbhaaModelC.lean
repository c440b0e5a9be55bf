/- Package model, told: Do. -/
import Derived.Test.YtdmodejpcfhbhaaModelA6
namespace Go.Proofs.Ytdmodejpcfhbhaa
open Go.RowKit
variable {W : World}

def nope : List Value → HX → DT Ext := fun _ _ => .no
noncomputable def envM : Env Ext := (envL.add 16 (dt dOpIs)).add 28 nope
theorem envM_ok : envM.Ok Try.prog (means W) := (envL_ok.add fun args H v H' h => ok_OpIs (by rw [← DT.out_of (dOpIs args H)]; exact h)).add fun args H v H' h => by cases h
def ansV (code : Int) (found : Bool) (val writer : Int) (pairs : Value) : Value := .agg ⟨[.int .i64 code, .bool found, .int .i64 val, .int .i64 writer, .int .i64 0, pairs]⟩
def setF (f : Int → Option Int) (k : Int) (v : Option Int) : Int → Option Int := fun x => if x = k then v else f x
theorem set_two (f : Int → Option Int) (k a b : Int) : (fun x => if x = k then some b else (fun x => if x = k then some a else f x) x) = setF f k (some b) := by
  funext x; unfold setF; split <;> simp [*]
theorem op_key {k key v to : Int} (h : isOpB k key v to = true) : 0 ≤ key ∧ key ≤ 63 := by
  simp [isOpB, isKeyB] at h; omega
theorem op_to {key v to : Int} (h : isOpB 4 key v to = true) : 0 ≤ to ∧ to ≤ 63 ∧ v = 0 := by
  simp [isOpB, isKeyB] at h; omega
theorem op_kind {k key v to : Int} (h : isOpB k key v to = true) : k = 1 ∨ k = 2 ∨ k = 3 ∨ k = 4 := by
  simp [isOpB, isKeyB] at h; omega
theorem key_wf {key : Int} (h : 0 ≤ key ∧ key ≤ 63) : (Lit.int .i64 key).wf = true := by rw [sx_wf]; simp only [Bool.and_eq_true, decide_eq_true_eq]; omega
set_option maxRecDepth 100000 in
set_option maxHeartbeats 4000000 in
theorem do_bad (T : TypeId) (f g : Int → Option Int) (t1 t2 : Tk) (k key v to w : Int) (h : isOpB k key v to = false) : FWP Try.prog (means W) 21 [.pointer (some ⟨0, 0, none⟩), opV k key v to, .int .i64 w] (parts3 true T f g t1 t2) fun r G => r = ansV 10 false 0 0 (.slice none 0 0) ∧ G = parts3 true T f g t1 t2 ++ [] := by
  unfold parts3 opV
  refine FWP.tidy (FWP.body envM_ok 40 Try.func21 rfl (by exact Nat.le_of_ble_eq_true rfl) ?_)
  repeat ((conv => whnf); first | (refine brT ?_ ?_; · (first | exact h | (simp [h]; done))) | (refine brF ?_ ?_; · (first | exact h | (simp [h]; done))))

  conv => whnf
  exact ⟨rfl, rfl⟩
set_option maxRecDepth 100000 in
set_option maxHeartbeats 4000000 in
theorem do_put (T : TypeId) (f g : Int → Option Int) (t1 t2 : Tk) (key v to w : Int) (h : isOpB 1 key v to = true) : FWP Try.prog (means W) 21 [.pointer (some ⟨0, 0, none⟩), opV 1 key v to, .int .i64 w] (parts3 true T f g t1 t2) fun r G => r = ansV 0 false 0 (-1) (.slice none 0 0) ∧ ∃ t1' t2', G = parts3 true T (setF f key (some v)) (setF g key (some w)) t1' t2' ++ [] := by
  have hk := op_key h
  have h1 : decide (0 ≤ key ∧ key < (64 : Int)) = true := decide_eq_true (by omega)
  unfold parts3 opV
  refine FWP.tidy (FWP.body envM_ok 40 Try.func21 rfl (by exact Nat.le_of_ble_eq_true rfl) ?_)
  repeat ((conv => whnf); first | (refine brT ?_ ?_; · (first | exact h | (simp [h]; done) | exact h1 | (simp [Tk.put]; done) | (simp [Tk.put]; exact h1))) | (refine brF ?_ ?_; · (first | exact h | (simp [h]; done) | exact h1 | (simp [Tk.put]; done) | (simp [Tk.put]; exact h1))))

  conv => whnf
  refine ⟨rfl, t1.put key (f key).isSome, t2.put key (g key).isSome, ?_⟩
  rw [← set_two f key ((f key).getD 0) v, ← set_two g key ((g key).getD 0) w]
  rfl
set_option maxRecDepth 100000 in
set_option maxHeartbeats 4000000 in
theorem do_del (T : TypeId) (f g : Int → Option Int) (t1 t2 : Tk) (key v to w : Int) (h : isOpB 2 key v to = true) : FWP Try.prog (means W) 21 [.pointer (some ⟨0, 0, none⟩), opV 2 key v to, .int .i64 w] (parts3 true T f g t1 t2) fun r G => r = ansV 0 false 0 (-1) (.slice none 0 0) ∧ ∃ t1' t2', G = parts3 true T (setF f key none) (setF g key (some w)) t1' t2' ++ [] := by
  have hk := op_key h
  have h1 : decide (0 ≤ key ∧ key < (64 : Int)) = true := decide_eq_true (by omega)
  have h2 := key_wf hk
  unfold parts3 opV
  refine FWP.tidy (FWP.body envM_ok 40 Try.func21 rfl (by exact Nat.le_of_ble_eq_true rfl) ?_)
  repeat ((conv => whnf); first | (refine brT ?_ ?_; · (first | exact h | (simp [h]; done) | exact h1 | exact h2)) | (refine brF ?_ ?_; · (first | exact h | (simp [h]; done) | exact h1 | exact h2)))

  conv => whnf
  exact ⟨rfl, t1, t2.put key (g key).isSome, rfl⟩
set_option maxRecDepth 100000 in
set_option maxHeartbeats 4000000 in
theorem do_get (T : TypeId) (f g : Int → Option Int) (t1 t2 : Tk) (key v to w : Int) (h : isOpB 3 key v to = true) : FWP Try.prog (means W) 21 [.pointer (some ⟨0, 0, none⟩), opV 3 key v to, .int .i64 w] (parts3 true T f g t1 t2) fun r G => r = ansV 0 (f key).isSome ((f key).getD 0) ((g key).getD (-1)) (.slice none 0 0) ∧ G = parts3 true T f g t1 t2 ++ [] := by
  have hk := op_key h
  have h2 := key_wf hk
  unfold parts3 opV
  refine FWP.tidy (FWP.body envM_ok 40 Try.func21 rfl (by exact Nat.le_of_ble_eq_true rfl) ?_)
  cases hg : g key with
  | none =>
    repeat ((conv => whnf); first | (refine brT ?_ ?_; · (first | exact h | (simp [h]; done) | exact h2 | (simp [hg]; done))) | (refine brF ?_ ?_; · (first | exact h | (simp [h]; done) | exact h2 | (simp [hg]; done))))

    conv => whnf
    exact ⟨rfl, rfl⟩
  | some z =>
    repeat ((conv => whnf); first | (refine brT ?_ ?_; · (first | exact h | (simp [h]; done) | exact h2 | (simp [hg]; done))) | (refine brF ?_ ?_; · (first | exact h | (simp [h]; done) | exact h2 | (simp [hg]; done))))

    conv => whnf
    exact ⟨by rw [hg]; rfl, rfl⟩
def rangeP (f : Int → Option Int) (lo hi : Int) : List (Int × Int) := (pairsOf f (keysF 64 (Mc.ints f).has)).filter fun p => decide (lo ≤ p.1) && decide (p.1 ≤ hi)
def scanH (l : List (Int × Int)) : HX := match l with | [] => [] | _ :: _ => [none, none, none, none, pairRow l]
def inP (lo hi : Int) (p : Int × Int) : Bool := decide (lo ≤ p.1) && decide (p.1 ≤ hi)
def ansC (k w : Int) (v : Value) : Option (Bool × AObj Ext) := some (true, .cells [.int .i64 0, .bool false, .int .i64 0, .int .i64 w, .int .i64 k, v] 43)
def Scan.I (T : TypeId) (f g : Int → Option Int) (t1 t2 : Tk) (key v to : Int) (l : List (Int × Int)) (k : Nat) (vs : List Value) (H : HX) : Prop :=
  ∃ i, k + i = l.length ∧ vs = [.pointer (some ⟨3, 0, none⟩), .pointer (some ⟨4, 0, none⟩), .pointer (some ⟨5, 0, none⟩), slOf 6 l.length, .int .i64 l.length, .int .i64 i] ∧
    H = [some (true, .cells [.map (some 1), .map (some 2)] T), some (true, .ext (.im (.ints f) t1)), some (true, .ext (.im (.ints g) t2)), some (true, .cells [.int .i64 4, .int .i64 key, .int .i64 v, .int .i64 to] 27), ansC 0 0 (.slice none 0 0), ansC 0 (-1) (pairV 7 ((l.take i).filter (inP key to))), pairRow l] ++ pairH ((l.take i).filter (inP key to))
def Scan.K (T : TypeId) (f g : Int → Option Int) (t1 t2 : Tk) (q : List (Int × Int)) (r : Value) (G : HX) : Prop :=
  r = ansV 0 false 0 (-1) (pairV 7 q) ∧ ((q = [] ∧ G = parts3 true T f g t1 t2) ∨ (q ≠ [] ∧ ∃ c3 c4 c5 c6, G = parts3 true T f g t1 t2 ++ [c3, c4, c5, c6, pairRow q]))
attribute [local irreducible] keysF SWP FWP OWP
theorem pairF_at (l : List (Int × Int)) (i q : Nat) (hq : q = i * 2) : pairF l q = (l.getD i (0, 0)).1 ∧ pairF l (q + 1) = (l.getD i (0, 0)).2 := by
  subst hq
  unfold pairF
  rw [if_pos (by omega), if_neg (by omega), show i * 2 / 2 = i from by omega, show (i * 2 + 1) / 2 = i from by omega]
  exact ⟨rfl, rfl⟩
theorem take_filter (l : List (Int × Int)) (P : Int × Int → Bool) (i : Nat) (h : i < l.length) : (l.take (i + 1)).filter P = (l.take i).filter P ++ (if P (l.getD i (0, 0)) then [l.getD i (0, 0)] else []) := by
  rw [List.take_add_one, List.filter_append, List.getD_eq_getElem?_getD, List.getElem?_eq_getElem h]
  congr 1
  simp only [Option.toList_some, List.filter_cons, List.filter_nil, Option.getD_some]
set_option maxRecDepth 100000 in
set_option maxHeartbeats 8000000 in
theorem do_scan0 (T : TypeId) (f g : Int → Option Int) (t1 t2 : Tk) (key v to w : Int) (h : isOpB 4 key v to = true) : FWP Try.prog (means W) 21 [.pointer (some ⟨0, 0, none⟩), opV 4 key v to, .int .i64 w] (parts3 true T f g t1 t2) (Scan.K T f g t1 t2 (rangeP f key to)) := by
  have hk := op_key h
  unfold parts3 opV
  refine FWP.tidy (FWP.body envM_ok 40 Try.func21 rfl (by exact Nat.le_of_ble_eq_true rfl) ?_)
  repeat ((conv => whnf); first | (refine brT ?_ ?_; · (first | exact h | (simp [h]; done))) | (refine brF ?_ ?_; · (first | exact h | (simp [h]; done))))

  conv => whnf
  refine (all_fwp6 4 key v to T f g t1 t2).mono fun v' G' ⟨e1, e2⟩ => ?_
  subst e1 e2
  unfold rangeP parts3
  have hle : (pairsOf f (keysF 64 (Mc.ints f).has)).length ≤ 64 := by unfold pairsOf; rw [List.length_map]; exact keysF_len _ _
  generalize pairsOf f (keysF 64 (Mc.ints f).has) = l at hle ⊢
  cases hl : l with
  | nil =>
    conv => whnf
    refine SWP.turns envM_ok 40 200 3 ?_
    conv => whnf
    exact ⟨rfl, .inl ⟨rfl, rfl⟩⟩
  | cons a r =>
    conv => whnf
    refine SWP.loopS Try.f21.ntmps [4, 6, 7, 75, 76, 77] (Scan.I T f g t1 t2 key v to (a :: r)) (N := (a :: r).length) [3, 4, 5, 6] rfl rfl rfl ?_ ?_
    · exact ⟨0, rfl, rfl, rfl⟩
    rw [← hl]
    rintro k vs H ⟨i, hki, rfl, rfl⟩
    refine SWP.code envM_ok 40 200 ?_
    by_cases hi : i < l.length
    · have gi : decide (0 ≤ (i : Int) ∧ (i : Int) < (l.length : Int)) = true := decide_eq_true (by omega)
      have f1 : decide ((i : Int) < (l.length : Int)) = true := decide_eq_true (by omega)
      have f2 : decide (0 ≤ 0 + ((i : Int)).toNat * 2 ∧ 0 + ((i : Int)).toNat * 2 + 2 ≤ l.length * 2) = true := decide_eq_true (by omega)
      have gw1 : ((i + 1 : Nat) : Int) = IntKind.i64.wrap ((i : Int) + 1) := by rw [wrapI (by omega) (by omega)]; rfl
      obtain ⟨e1, e2⟩ := pairF_at l i (0 + ((i : Int)).toNat * 2) (by omega)
      have gt := take_filter l (inP key to) i hi
      by_cases c1 : key ≤ (l.getD i (0, 0)).1
      · have d1 : decide (key ≤ pairF l (0 + ((i : Int)).toNat * 2)) = true := by rw [e1]; exact decide_eq_true c1
        by_cases c2 : (l.getD i (0, 0)).1 ≤ to
        · have d2 : decide (pairF l (0 + ((i : Int)).toNat * 2) ≤ to) = true := by rw [e1]; exact decide_eq_true c2
          have hin : inP key to (l.getD i (0, 0)) = true := by unfold inP; rw [decide_eq_true c1, decide_eq_true c2]; rfl
          rw [hin, if_pos rfl, show l.getD i (0, 0) = (pairF l (0 + ((i : Int)).toNat * 2), pairF l (0 + ((i : Int)).toNat * 2 + 1)) from by rw [e1, e2]] at gt
          have hql : ((l.take i).filter (inP key to)).length ≤ i := Nat.le_trans (List.length_filter_le _ _) (by rw [List.length_take]; omega)
          cases hq : (l.take i).filter (inP key to) with
          | nil =>
            rw [hq] at gt
            repeat ((conv => whnf); first | (refine brT ?_ ?_; · (first | exact f1 | exact f2 | exact d1 | exact d2 | (simp; done))) | (refine brF ?_ ?_; · (first | exact f1 | exact f2 | exact d1 | exact d2 | (simp; done))) | (rw [gi]))

            conv => whnf
            refine ⟨k - 1, by omega, [3, 4, 5, 6, 9], rfl, rfl, _, rfl, i + 1, by omega, ?_, ?_⟩
            · rw [gw1]; rfl
            · rw [gt, pairV_app, pairH_app]; rfl
          | cons b s =>
            rw [hq] at gt hql
            have f3 : (decide ((59 : TypeId) = 59 ∧ 2 = 2 ∧ (b :: s).length = (b :: s).length) && decide (0 < 1 ∧ 0 + 1 * 2 ≤ 2 ∧ (b :: s).length + 1 ≤ 1000000)) = true := by rw [Bool.and_eq_true, decide_eq_true_eq, decide_eq_true_eq]; exact ⟨⟨rfl, rfl, rfl⟩, by omega, by omega, by omega⟩
            repeat ((conv => whnf); first | (refine brT ?_ ?_; · (first | exact f1 | exact f2 | exact d1 | exact d2 | exact f3 | (simp; done))) | (refine brF ?_ ?_; · (first | exact f1 | exact f2 | exact d1 | exact d2 | exact f3 | (simp; done))) | (rw [gi]))

            conv => whnf
            refine ⟨k - 1, by omega, [3, 4, 5, 6, 10], rfl, rfl, _, rfl, i + 1, by omega, ?_, ?_⟩
            · rw [gw1]; rfl
            · rw [gt, pairV_app, pairH_app]; rfl
        · have d2 : decide (pairF l (0 + ((i : Int)).toNat * 2) ≤ to) = false := by rw [e1]; exact decide_eq_false c2
          have hin : inP key to (l.getD i (0, 0)) = false := by unfold inP; rw [decide_eq_false c2, Bool.and_false]
          rw [hin, if_neg (by simp), List.append_nil] at gt
          cases hq : (l.take i).filter (inP key to) with
          | nil =>
            rw [hq] at gt
            repeat ((conv => whnf); first | (refine brT ?_ ?_; · (first | exact f1 | exact f2 | exact d1 | exact d2 | (simp; done))) | (refine brF ?_ ?_; · (first | exact f1 | exact f2 | exact d1 | exact d2 | (simp; done))) | (rw [gi]))

            conv => whnf
            refine ⟨k - 1, by omega, [3, 4, 5, 6], rfl, rfl, _, rfl, i + 1, by omega, by rw [gw1]; rfl, by rw [gt]; rfl⟩
          | cons b s =>
            rw [hq] at gt
            repeat ((conv => whnf); first | (refine brT ?_ ?_; · (first | exact f1 | exact f2 | exact d1 | exact d2 | (simp; done))) | (refine brF ?_ ?_; · (first | exact f1 | exact f2 | exact d1 | exact d2 | (simp; done))) | (rw [gi]))

            conv => whnf
            refine ⟨k - 1, by omega, [3, 4, 5, 6, 7], rfl, rfl, _, rfl, i + 1, by omega, by rw [gw1]; rfl, by rw [gt]; rfl⟩
      · have d1 : decide (key ≤ pairF l (0 + ((i : Int)).toNat * 2)) = false := by rw [e1]; exact decide_eq_false c1
        have hin : inP key to (l.getD i (0, 0)) = false := by unfold inP; rw [decide_eq_false c1, Bool.false_and]
        rw [hin, if_neg (by simp), List.append_nil] at gt
        cases hq : (l.take i).filter (inP key to) with
        | nil =>
          rw [hq] at gt
          repeat ((conv => whnf); first | (refine brT ?_ ?_; · (first | exact f1 | exact f2 | exact d1 | (simp; done))) | (refine brF ?_ ?_; · (first | exact f1 | exact f2 | exact d1 | (simp; done))) | (rw [gi]))

          conv => whnf
          refine ⟨k - 1, by omega, [3, 4, 5, 6], rfl, rfl, _, rfl, i + 1, by omega, by rw [gw1]; rfl, by rw [gt]; rfl⟩
        | cons b s =>
          rw [hq] at gt
          repeat ((conv => whnf); first | (refine brT ?_ ?_; · (first | exact f1 | exact f2 | exact d1 | (simp; done))) | (refine brF ?_ ?_; · (first | exact f1 | exact f2 | exact d1 | (simp; done))) | (rw [gi]))

          conv => whnf
          refine ⟨k - 1, by omega, [3, 4, 5, 6, 7], rfl, rfl, _, rfl, i + 1, by omega, by rw [gw1]; rfl, by rw [gt]; rfl⟩
    · have f1 : decide ((i : Int) < (l.length : Int)) = false := decide_eq_false (by omega)
      rw [List.take_of_length_le (by omega : l.length ≤ i)]
      cases hq : l.filter (inP key to) with
      | nil =>
        repeat ((conv => whnf); first | (refine brT ?_ ?_; · (exact f1)) | (refine brF ?_ ?_; · (exact f1)))

        conv => whnf
        exact ⟨by rw [show l.filter (fun p => decide (key ≤ p.1) && decide (p.1 ≤ to)) = [] from hq]; rfl, .inl ⟨hq, rfl⟩⟩
      | cons b s =>
        repeat ((conv => whnf); first | (refine brT ?_ ?_; · (exact f1)) | (refine brF ?_ ?_; · (exact f1)))

        conv => whnf
        exact ⟨by rw [show l.filter (fun p => decide (key ≤ p.1) && decide (p.1 ≤ to)) = _ from hq]; rfl, .inr ⟨by rw [show l.filter (fun p => decide (key ≤ p.1) && decide (p.1 ≤ to)) = _ from hq]; simp, _, _, _, _, by rw [show l.filter (fun p => decide (key ≤ p.1) && decide (p.1 ≤ to)) = _ from hq]; rfl⟩⟩
end Go.Proofs.Ytdmodejpcfhbhaa
