/- Both maps' Do, told; rows of pairs compared. -/
import Derived.Test.YtdmodejpcfhbhaaRefMap
namespace Go.Proofs.Ytdmodejpcfhbhaa
open Go.RowKit
variable {W : World}

theorem rnV_scal (m : Nat) (σ : List Nat) : ∀ (n : Nat) (a : Value), scal n a = true → rnV m σ a = some a
  | 0, a, h => rnV_plain m σ a (by cases a <;> exact h)
  | n + 1, a, h => by
    have hl : ∀ l : List Value, l.all (scal n) = true → rnL m σ l = some l := by
      intro l
      induction l with
      | nil => intro _; rfl
      | cons a l ih => intro h; simp only [List.all_cons, Bool.and_eq_true] at h; simp only [rnL, rnV_scal m σ n a h.1, ih h.2]
    cases a with
    | agg c => obtain ⟨l⟩ := c; simp only [rnV, hl l h]
    | tuple c => obtain ⟨l⟩ := c; simp only [rnV, hl l h]
    | iface t v => simp only [rnV, rnV_scal m σ n v h]
    | _ => exact rnV_plain m σ _ h
theorem rnL_scal (m : Nat) (σ : List Nat) (n : Nat) : ∀ l : List Value, l.all (scal n) = true → rnL m σ l = some l
  | [], _ => rfl
  | a :: l, h => by simp only [List.all_cons, Bool.and_eq_true] at h; simp only [rnL, rnV_scal m σ n a h.1, rnL_scal m σ n l h.2]
/-- A call of one object that is told whole, among others. -/
theorem one_amongS {f : FuncId} {H N : HX} {i : Nat} {p : Bool} {x x' : Ext} {r0 r : Value} {n : Nat} {rest : List Value} (hrest : rest.all (scal 2) = true) (hi : nth H i = some (p, .ext x)) (hN : ∀ k q o, nth N k = some (q, o) → ∃ x, o = .ext x)
    (hr : upV (fun k => some (upId 1 H.length [i] k)) n r0 = some r)
    (h : FWP Try.prog (means W) f (.pointer (some ⟨0, 0, none⟩) :: rest) [some (p, .ext x)] fun v G => v = r0 ∧ G = some (p, .ext x') :: N) :
    FWP Try.prog (means W) f (.pointer (some ⟨i, 0, none⟩) :: rest) H fun v G => v = r ∧ G = put H i (some (p, .ext x')) ++ N := by
  have hrn := rnL_scal 0 [i] 2 rest hrest
  refine FWP.amongN (H := H) (G := [some (p, .ext x')]) (N := N) (args0 := .pointer (some ⟨0, 0, none⟩) :: rest) [i] (by simp [okS]) hr ?_ (fun k e hk => ?_) (fun k q o e => ?_) rfl ?_
  · have h0 : rnV 0 [i] (.pointer (some ⟨i, 0, none⟩)) = some (.pointer (some ⟨0, 0, none⟩)) := by simp [rnV, rnId, rnId.go, show ∀ k, Nat.blt k 0 = false from fun k => rfl]
    simp only [rnL, h0, hrn]
  · cases k with
    | zero => simp at hk; subst hk; rw [hi]; rfl
    | succ k => simp at hk
  · cases k with
    | zero => simp [nth] at e; exact ⟨_, e.2.symm⟩
    | succ k => exact hN k q o e
  · simpa [Go.Proofs.Ytdmodejpcfhbhaa.pick, hi] using h
theorem no_new : ∀ k q o, nth ([] : HX) k = some (q, o) → ∃ x, o = AObj.ext x := fun k q o e => by simp [nth] at e
/-! ### The program's map -/
def nilS : Value := .slice none 0 0
def dDo : DetD
  | [.pointer (some ⟨i, 0, none⟩), .agg ⟨[.int .i64 k, .int .i64 key, .int .i64 v, .int .i64 to]⟩, .int .i64 w], H => (match nth H i with
    | some (true, .ext (.modl f g)) => .ite (isOpB k key v to)
      (.ite (decide (k = 1)) (.ret (ansV 0 false 0 (-1) nilS) (put H i (some (true, .ext (.modl (setF f key (some v)) (setF g key (some w)))))))
      (.ite (decide (k = 2)) (.ret (ansV 0 false 0 (-1) nilS) (put H i (some (true, .ext (.modl (setF f key none) (setF g key (some w)))))))
      (.ite (decide (k = 3)) (.ret (ansV 0 (f key).isSome ((f key).getD 0) ((g key).getD (-1)) nilS) H)
      (.ite (rangeP f key to).isEmpty (.ret (ansV 0 false 0 (-1) nilS) H) (.ret (ansV 0 false 0 (-1) (slOf (H.length + 4) (rangeP f key to).length)) (H ++ [none, none, none, none, pairRow (rangeP f key to)]))))))
      (.ret (ansV 10 false 0 0 nilS) H)
    | _ => .no)
  | _, _ => .no
theorem scanH_ext (l : List (Int × Int)) : ∀ k p o, nth (scanH l) k = some (p, o) → ∃ x, o = .ext x := fun k p o h => by
  cases l with
  | nil => simp [scanH, nth] at h
  | cons a r =>
    match k, h with
    | 0, h => simp [scanH, nth] at h
    | 1, h => simp [scanH, nth] at h
    | 2, h => simp [scanH, nth] at h
    | 3, h => simp [scanH, nth] at h
    | 4, h => simp [scanH, pairRow, nth] at h; exact ⟨_, h.2.symm⟩
    | k + 5, h => simp [scanH, nth] at h
theorem holes4 {P3 : HX} {c3 c4 c5 c6 e : Option (Bool × AObj Ext)} : (P3 ++ [none, none, none, none, e]).length = (P3 ++ [c3, c4, c5, c6, e]).length ∧ ∀ i p o, nth (P3 ++ [none, none, none, none, e]) i = some (p, o) → nth (P3 ++ [c3, c4, c5, c6, e]) i = some (p, o) := by
  refine ⟨by simp, fun i p o h => ?_⟩
  rw [nth_append] at h ⊢
  split at h
  · rename_i q; rw [if_pos q]; exact h
  · rename_i q
    rw [if_neg q]
    generalize i - P3.length = m at h
    match m, h with
    | 0, h => simp [nth] at h
    | 1, h => simp [nth] at h
    | 2, h => simp [nth] at h
    | 3, h => simp [nth] at h
    | m + 4, h => simpa [nth] using h
theorem do_scan (T : TypeId) (f g : Int → Option Int) (t1 t2 : Tk) (key v to w : Int) (h : isOpB 4 key v to = true) : FWP Try.prog (means W) 21 [.pointer (some ⟨0, 0, none⟩), opV 4 key v to, .int .i64 w] (parts3 true T f g t1 t2) fun r G => r = ansV 0 false 0 (-1) (pairV 7 (rangeP f key to)) ∧ ∃ t1' t2', G = parts3 true T f g t1' t2' ++ scanH (rangeP f key to) := by
  refine FWP.less (do_scan0 T f g t1 t2 key v to w h) fun r G ⟨h1, h2⟩ => ?_
  rcases h2 with ⟨hq, rfl⟩ | ⟨hq, c3, c4, c5, c6, rfl⟩
  · exact ⟨_, ⟨h1, t1, t2, rfl⟩, by rw [hq]; simp [scanH], fun i p o e => by rw [hq] at e; simpa [scanH] using e⟩
  · cases hl : rangeP f key to with
    | nil => exact absurd hl hq
    | cons a r =>
      rw [hl] at h1
      exact ⟨_, ⟨h1, t1, t2, rfl⟩, holes4.1, holes4.2⟩
theorem ok_Do {args : List Value} {H H' : HX} {v : Value} (h : (dDo args H).out = some (v, H')) : FWP Try.prog (means W) 21 args H fun a b => a = v ∧ b = H' := by
  unfold dDo at h
  split at h <;> try (cases h; done)
  rename_i i k key vv to w
  split at h <;> try (cases h; done)
  rename_i f g hi
  have lift : ∀ {f' g' : Int → Option Int} {r : Value} {K : Nat → Value}, (∀ T t1 t2, FWP Try.prog (means W) 21 [.pointer (some ⟨0, 0, none⟩), opV k key vv to, .int .i64 w] (parts3 true T f g t1 t2) fun v G => v = r ∧ ∃ t1' t2', G = parts3 true T f' g' t1' t2' ++ []) → scal 1 r = true → upV modlG 2 r = some r → upV (fun k => some (upId 1 H.length [i] k)) 2 r = some r →
      FWP Try.prog (means W) 21 [.pointer (some ⟨i, 0, none⟩), opV k key vv to, .int .i64 w] H fun v G => v = r ∧ G = put H i (some (true, .ext (.modl f' g'))) := fun {f' g' r K} hh _ h2 h3 => by
    have := one_amongS (rest := [opV k key vv to, .int .i64 w]) rfl hi no_new h3 (FWP.parts (n := 2) no_new h2 hh)
    simpa using this
  have same := put_self hi
  simp only [DT.out] at h
  split at h
  · rename_i hop
    split at h
    · rename_i h1
      obtain rfl := of_decide_eq_true h1
      cases h
      exact lift (K := fun _ => nilS) (fun T t1 t2 => do_put T f g t1 t2 key vv to w hop) rfl rfl rfl
    · split at h
      · rename_i h1
        obtain rfl := of_decide_eq_true h1
        cases h
        exact lift (K := fun _ => nilS) (fun T t1 t2 => do_del T f g t1 t2 key vv to w hop) rfl rfl rfl
      · split at h
        · rename_i h1
          obtain rfl := of_decide_eq_true h1
          cases h
          have := lift (K := fun _ => nilS) (fun T t1 t2 => (do_get T f g t1 t2 key vv to w hop).mono fun v G ⟨e1, e2⟩ => ⟨e1, t1, t2, e2⟩) rfl rfl rfl
          rw [same] at this
          exact this
        · obtain rfl : k = 4 := by
            rcases op_kind hop with e | e | e | e
            · exact absurd e (of_decide_eq_false (by assumption))
            · exact absurd e (of_decide_eq_false (by assumption))
            · exact absurd e (of_decide_eq_false (by assumption))
            · exact e
          have key2 : ∀ r, upV (fun k => some (upId 1 H.length [i] k)) 2 (ansV 0 false 0 (-1) (pairV 5 (rangeP f key to))) = some r → FWP Try.prog (means W) 21 [.pointer (some ⟨i, 0, none⟩), opV 4 key vv to, .int .i64 w] H fun v G => v = r ∧ G = put H i (some (true, .ext (.modl f g))) ++ scanH (rangeP f key to) := fun r hr => by
            refine one_amongS (rest := [opV 4 key vv to, .int .i64 w]) rfl hi (scanH_ext _) hr (FWP.parts (n := 2) (scanH_ext _) ?_ fun T t1 t2 => do_scan T f g t1 t2 key vv to w hop)
            cases rangeP f key to <;> rfl
          rw [same] at key2
          cases hq : rangeP f key to with
          | nil =>
            rw [hq] at h key2
            cases h
            have := key2 _ rfl
            simp only [show scanH [] = [] from rfl, List.append_nil] at this
            exact this
          | cons a r =>
            rw [hq] at h key2
            cases h
            refine key2 _ ?_
            show some (ansV 0 false 0 (-1) (slOf (upId 1 H.length [i] 5) (a :: r).length)) = _
            simp [upId, show Nat.blt 5 1 = false from rfl]
  · rename_i hop
    cases h
    have := lift (K := fun _ => nilS) (fun T t1 t2 => (do_bad T f g t1 t2 k key vv to w (by simpa using hop)).mono fun v G ⟨e1, e2⟩ => ⟨e1, t1, t2, e2⟩) rfl rfl rfl
    rw [same] at this
    exact this
/-! ### The document's map -/
def dRDo : DetD
  | [.pointer (some ⟨i, 0, none⟩), .agg ⟨[.int .i64 k, .int .i64 key, .int .i64 v, .int .i64 to]⟩, .int .i64 w], H => (match nth H i with
    | some (true, .ext (.fix 128 (.ints .i64 G))) => .ite (isOpB k key v to)
      (.ite (decide (k = 1)) (.ret (ansV 0 false 0 (-1) nilS) (put H i (some (true, .ext (.fix 128 (.ints .i64 (setG2 G key v w)))))))
      (.ite (decide (k = 2)) (.ret (ansV 0 false 0 (-1) nilS) (put H i (some (true, .ext (.fix 128 (.ints .i64 (setG2 G key (-1) w)))))))
      (.ite (decide (k = 3)) (.ret (ansV 0 (fndF (G key.toNat)) (maxF (G key.toNat)) (G (64 + key.toNat)) nilS) H)
      (.ite (rangeG G key to).isEmpty (.ret (ansV 0 false 0 (-1) nilS) H) (.ret (ansV 0 false 0 (-1) (slOf (H.length + 3) (rangeG G key to).length)) (H ++ [none, none, none, pairRow (rangeG G key to)]))))))
      (.ret (ansV 10 false 0 0 nilS) H)
    | _ => .no)
  | _, _ => .no
def rscanH (l : List (Int × Int)) : HX := match l with | [] => [] | _ :: _ => [none, none, none, pairRow l]
theorem rscanH_ext (l : List (Int × Int)) : ∀ k p o, nth (rscanH l) k = some (p, o) → ∃ x, o = .ext x := fun k p o h => by
  cases l with
  | nil => simp [rscanH, nth] at h
  | cons a r =>
    match k, h with
    | 0, h => simp [rscanH, nth] at h
    | 1, h => simp [rscanH, nth] at h
    | 2, h => simp [rscanH, nth] at h
    | 3, h => simp [rscanH, pairRow, nth] at h; exact ⟨_, h.2.symm⟩
    | k + 4, h => simp [rscanH, nth] at h
theorem holes3 {P3 : HX} {c3 c4 c5 e : Option (Bool × AObj Ext)} : (P3 ++ [none, none, none, e]).length = (P3 ++ [c3, c4, c5, e]).length ∧ ∀ i p o, nth (P3 ++ [none, none, none, e]) i = some (p, o) → nth (P3 ++ [c3, c4, c5, e]) i = some (p, o) := by
  refine ⟨by simp, fun i p o h => ?_⟩
  rw [nth_append] at h ⊢
  split at h
  · rename_i q; rw [if_pos q]; exact h
  · rename_i q
    rw [if_neg q]
    generalize i - P3.length = m at h
    match m, h with
    | 0, h => simp [nth] at h
    | 1, h => simp [nth] at h
    | 2, h => simp [nth] at h
    | m + 3, h => simpa [nth] using h
theorem ref_scan (G : Nat → Int) (key v to w : Int) (h : isOpB 4 key v to = true) : FWP Try.prog (means W) 26 [.pointer (some ⟨0, 0, none⟩), opV 4 key v to, .int .i64 w] (fixH G) fun r H => r = ansV 0 false 0 (-1) (pairV 4 (rangeG G key to)) ∧ H = fixH G ++ rscanH (rangeG G key to) := by
  refine FWP.less (ref_scan0 G key v to w h) fun r H ⟨h1, h2⟩ => ?_
  rcases h2 with ⟨hq, rfl⟩ | ⟨hq, c3, c4, c5, rfl⟩
  · exact ⟨_, ⟨h1, rfl⟩, by rw [hq]; simp [rscanH], fun i p o e => by rw [hq] at e; simpa [rscanH] using e⟩
  · cases hl : rangeG G key to with
    | nil => exact absurd hl hq
    | cons a r =>
      rw [hl] at h1
      exact ⟨_, ⟨h1, rfl⟩, holes3.1, holes3.2⟩
theorem ok_RDo {args : List Value} {H H' : HX} {v : Value} (h : (dRDo args H).out = some (v, H')) : FWP Try.prog (means W) 26 args H fun a b => a = v ∧ b = H' := by
  unfold dRDo at h
  split at h <;> try (cases h; done)
  rename_i i k key vv to w
  split at h <;> try (cases h; done)
  rename_i G hi
  have lift : ∀ {G' : Nat → Int} {r : Value}, (FWP Try.prog (means W) 26 [.pointer (some ⟨0, 0, none⟩), opV k key vv to, .int .i64 w] (fixH G) fun v H => v = r ∧ H = fixH G') → upV (fun k => some (upId 1 H.length [i] k)) 2 r = some r →
      FWP Try.prog (means W) 26 [.pointer (some ⟨i, 0, none⟩), opV k key vv to, .int .i64 w] H fun v K => v = r ∧ K = put H i (some (true, .ext (.fix 128 (.ints .i64 G')))) := fun {G' r} hh h3 => by
    have := one_amongS (N := []) (rest := [opV k key vv to, .int .i64 w]) rfl hi no_new h3 hh
    simpa using this
  have same := put_self hi
  simp only [DT.out] at h
  split at h
  · rename_i hop
    split at h
    · rename_i h1
      obtain rfl := of_decide_eq_true h1
      cases h
      exact lift (ref_put G key vv to w hop) rfl
    · split at h
      · rename_i h1
        obtain rfl := of_decide_eq_true h1
        cases h
        exact lift (ref_del G key vv to w hop) rfl
      · split at h
        · rename_i h1
          obtain rfl := of_decide_eq_true h1
          cases h
          have := lift (ref_get G key vv to w hop) rfl
          rw [same] at this
          exact this
        · obtain rfl : k = 4 := by
            rcases op_kind hop with e | e | e | e
            · exact absurd e (of_decide_eq_false (by assumption))
            · exact absurd e (of_decide_eq_false (by assumption))
            · exact absurd e (of_decide_eq_false (by assumption))
            · exact e
          have key2 : ∀ r, upV (fun k => some (upId 1 H.length [i] k)) 2 (ansV 0 false 0 (-1) (pairV 4 (rangeG G key to))) = some r → FWP Try.prog (means W) 26 [.pointer (some ⟨i, 0, none⟩), opV 4 key vv to, .int .i64 w] H fun v K => v = r ∧ K = put H i (some (true, .ext (.fix 128 (.ints .i64 G)))) ++ rscanH (rangeG G key to) := fun r hr =>
            one_amongS (rest := [opV 4 key vv to, .int .i64 w]) rfl hi (rscanH_ext _) hr (ref_scan G key vv to w hop)
          rw [same] at key2
          cases hq : rangeG G key to with
          | nil =>
            rw [hq] at h key2
            cases h
            have := key2 _ rfl
            simp only [show rscanH [] = [] from rfl, List.append_nil] at this
            exact this
          | cons a r =>
            rw [hq] at h key2
            cases h
            refine key2 _ ?_
            show some (ansV 0 false 0 (-1) (slOf (upId 1 H.length [i] 4) (a :: r).length)) = _
            simp [upId, show Nat.blt 4 1 = false from rfl]
  · rename_i hop
    cases h
    have := lift (ref_bad G k key vv to w (by simpa using hop)) rfl
    rw [same] at this
    exact this
end Go.Proofs.Ytdmodejpcfhbhaa
