/- Package model, told: New, Get, Writer, All. -/
import Derived.Test.YtdmodejpcfhbhaaOpIs
namespace Go.Proofs.Ytdmodejpcfhbhaa
open Go.RowKit
variable {W : World}

theorem pair_ext (l : List (Int × Int)) : ∀ k p o, nth (pairH l) k = some (p, o) → ∃ x, o = .ext x := fun k p o h => by
  cases l with
  | nil => simp [pairH, nth] at h
  | cons a r =>
    cases k with
    | zero => simp [pairH, pairRow, nth] at h; exact ⟨_, h.2.symm⟩
    | succ k => simp [pairH, nth] at h
theorem rnV_plain (m : Nat) (σ : List Nat) (a : Value) (h : plain a = true) : rnV m σ a = some a := by
  cases a with
  | pointer x => cases x with
    | none => rfl
    | some x => simp [plain] at h
  | slice x l c => cases x with
    | none => rfl
    | some x => simp [plain] at h
  | map x => cases x with
    | none => rfl
    | some x => simp [plain] at h
  | tuple x =>
    obtain ⟨x⟩ := x
    cases x with
    | nil => simp [rnV, rnL]
    | cons _ _ => simp [plain] at h
  | _ => first | rfl | (simp [plain] at h; done) | (simp [rnV, plain]; done)
theorem rnL_plain (m : Nat) (σ : List Nat) : ∀ l : List Value, l.all plain = true → rnL m σ l = some l
  | [], _ => rfl
  | a :: l, h => by
    simp only [List.all_cons, Bool.and_eq_true] at h
    simp only [rnL, rnV_plain m σ a h.1, rnL_plain m σ l h.2]
/-- A call of one object that is told whole, among others. -/
theorem one_among {f : FuncId} {H N : HX} {i : Nat} {p : Bool} {x x' : Ext} {r0 r : Value} {n : Nat} {rest : List Value} (hrest : rest.all plain = true) (hi : nth H i = some (p, .ext x)) (hN : ∀ k q o, nth N k = some (q, o) → ∃ x, o = .ext x)
    (hr : upV (fun k => some (upId 1 H.length [i] k)) n r0 = some r)
    (h : FWP Try.prog (means W) f (.pointer (some ⟨0, 0, none⟩) :: rest) [some (p, .ext x)] fun v G => v = r0 ∧ G = some (p, .ext x') :: N) :
    FWP Try.prog (means W) f (.pointer (some ⟨i, 0, none⟩) :: rest) H fun v G => v = r ∧ G = put H i (some (p, .ext x')) ++ N := by
  have hrn := rnL_plain 0 [i] rest hrest
  refine FWP.amongN (H := H) (G := [some (p, .ext x')]) (N := N) (args0 := .pointer (some ⟨0, 0, none⟩) :: rest) [i] (by simp [okS]) hr ?_ (fun k e hk => ?_) (fun k q o e => ?_) rfl ?_
  · have h0 : rnV 0 [i] (.pointer (some ⟨i, 0, none⟩)) = some (.pointer (some ⟨0, 0, none⟩)) := by simp [rnV, rnId, rnId.go, show ∀ k, Nat.blt k 0 = false from fun k => rfl]
    simp only [rnL, h0, hrn]
  · cases k with
    | zero => simp at hk; subst hk; rw [hi]; rfl
    | succ k => simp at hk
  · cases k with
    | zero => simp [nth] at e; exact ⟨_, e.2.symm⟩
    | succ k => exact hN k q o e
  · simpa [Go.Proofs.Ytdmodejpcfhbhaa.pick, hi] using h
def dAll : DetD
  | [.pointer (some ⟨i, 0, none⟩)], H => (match nth H i with
    | some (p, .ext (.modl f g)) => .ite (pairsOf f (keysF 64 (Mc.ints f).has)).isEmpty (.ret (.slice none 0 0) (put H i (some (p, .ext (.modl f g)))))
        (.ret (slOf H.length (pairsOf f (keysF 64 (Mc.ints f).has)).length) (put H i (some (p, .ext (.modl f g))) ++ [pairRow (pairsOf f (keysF 64 (Mc.ints f).has))]))
    | _ => .no)
  | _, _ => .no
theorem all_one (p : Bool) (f g : Int → Option Int) : FWP Try.prog (means W) 28 [.pointer (some ⟨0, 0, none⟩)] [some (p, .ext (.modl f g))] fun v G => v = pairV 1 (pairsOf f (keysF 64 (Mc.ints f).has)) ∧ G = some (p, .ext (.modl f g)) :: pairH (pairsOf f (keysF 64 (Mc.ints f).has)) := by
  refine FWP.parts (n := 1) (pair_ext _) ?_ fun T t1 t2 => (all_fwp p T f g t1 t2).mono fun v G ⟨e1, e2⟩ => ⟨e1, t1, t2, e2⟩
  cases pairsOf f (keysF 64 (Mc.ints f).has) <;> rfl
theorem ok_All {args : List Value} {H H' : HX} {v : Value} (h : (dAll args H).out = some (v, H')) : FWP Try.prog (means W) 28 args H fun a b => a = v ∧ b = H' := by
  unfold dAll at h
  split at h <;> try (cases h; done)
  rename_i i
  split at h <;> try (cases h; done)
  rename_i p f g hi
  have key : ∀ r, upV (fun k => some (upId 1 H.length [i] k)) 1 (pairV 1 (pairsOf f (keysF 64 (Mc.ints f).has))) = some r → FWP Try.prog (means W) 28 [.pointer (some ⟨i, 0, none⟩)] H fun v G => v = r ∧ G = put H i (some (p, .ext (.modl f g))) ++ pairH (pairsOf f (keysF 64 (Mc.ints f).has)) :=
    fun r hr => one_among (rest := []) rfl hi (pair_ext _) hr (all_one p f g)
  simp only [DT.out] at h
  cases q : pairsOf f (keysF 64 (Mc.ints f).has) with
  | nil =>
    rw [q] at h key
    cases h
    have := key _ rfl
    simpa [pairH] using this
  | cons a r =>
    rw [q] at h key
    cases h
    exact key _ (by show some (slOf (upId 1 H.length [i] 1) (a :: r).length) = _; simp [upId, show Nat.blt 1 1 = false from rfl])
/-! ### Get, Writer -/
set_option maxRecDepth 100000 in
set_option maxHeartbeats 4000000 in
theorem get0 (p : Bool) (T : TypeId) (f g : Int → Option Int) (t1 t2 : Tk) (k : Int) (hk : (Lit.int .i64 k).wf = true) : FWP Try.prog (means W) 22 [.pointer (some ⟨0, 0, none⟩), .int .i64 k] (parts3 p T f g t1 t2) fun v G => v = .tuple ⟨[.int .i64 ((f k).getD 0), .bool (f k).isSome]⟩ ∧ G = parts3 p T f g t1 t2 ++ [] := by
  unfold parts3
  refine fevD_fwp envL_ok (d := 40) ?_
  cases p
  all_goals
    repeat ((conv => whnf); first | (refine brT ?_ ?_; · (exact hk)) | (refine brF ?_ ?_; · (exact hk)))

    conv => whnf
    exact ⟨rfl, rfl⟩
set_option maxRecDepth 100000 in
set_option maxHeartbeats 4000000 in
theorem writer0 (p : Bool) (T : TypeId) (f g : Int → Option Int) (t1 t2 : Tk) (k : Int) (hk : (Lit.int .i64 k).wf = true) : FWP Try.prog (means W) 23 [.pointer (some ⟨0, 0, none⟩), .int .i64 k] (parts3 p T f g t1 t2) fun v G => v = .int .i64 ((g k).getD (-1)) ∧ G = parts3 p T f g t1 t2 ++ [] := by
  unfold parts3
  refine fevD_fwp envL_ok (d := 40) ?_
  cases hg : g k with
  | none =>
    cases p
    all_goals
      repeat ((conv => whnf); first | (refine brT ?_ ?_; · (first | exact hk | (simp [hg]; done))) | (refine brF ?_ ?_; · (first | exact hk | (simp [hg]; done))))

      conv => whnf
      exact ⟨rfl, rfl⟩
  | some z =>
    cases p
    all_goals
      repeat ((conv => whnf); first | (refine brT ?_ ?_; · (first | exact hk | (simp [hg]; done))) | (refine brF ?_ ?_; · (first | exact hk | (simp [hg]; done))))

      conv => whnf
      exact ⟨congrArg (Value.int .i64) (by rw [hg]; rfl), rfl⟩
def dGet : DetD
  | [.pointer (some ⟨i, 0, none⟩), .int .i64 k], H => (match nth H i with
    | some (_, .ext (.modl f _)) => .ite (Lit.int .i64 k).wf (.ret (.tuple ⟨[.int .i64 ((f k).getD 0), .bool (f k).isSome]⟩) H) .no
    | _ => .no)
  | _, _ => .no
def dWriter : DetD
  | [.pointer (some ⟨i, 0, none⟩), .int .i64 k], H => (match nth H i with
    | some (_, .ext (.modl _ g)) => .ite (Lit.int .i64 k).wf (.ret (.int .i64 ((g k).getD (-1))) H) .no
    | _ => .no)
  | _, _ => .no
theorem put_self {α : Type} : ∀ {H : List (Option α)} {i : Nat} {x : α}, nth H i = some x → put H i (some x) = H
  | [], _, _, h => by simp [nth] at h
  | a :: H, 0, x, h => by simp [nth] at h; simp [put, h]
  | a :: H, i + 1, x, h => by simp only [put]; rw [put_self (by simpa [nth] using h)]
theorem look_one {f : FuncId} {H : HX} {i : Nat} {p : Bool} {x : Ext} {r : Value} {n : Nat} {rest : List Value} (hrest : rest.all plain = true) (hi : nth H i = some (p, .ext x)) (hr : upV (fun k => some (upId 1 H.length [i] k)) n r = some r)
    (h : FWP Try.prog (means W) f (.pointer (some ⟨0, 0, none⟩) :: rest) [some (p, .ext x)] fun v G => v = r ∧ G = [some (p, .ext x)]) : FWP Try.prog (means W) f (.pointer (some ⟨i, 0, none⟩) :: rest) H fun v G => v = r ∧ G = H := by
  have := one_among (N := []) hrest hi (fun k q o e => by simp [nth] at e) hr h
  rw [put_self hi, List.append_nil] at this
  exact this
theorem ok_Get {args : List Value} {H H' : HX} {v : Value} (h : (dGet args H).out = some (v, H')) : FWP Try.prog (means W) 22 args H fun a b => a = v ∧ b = H' := by
  unfold dGet at h
  split at h <;> try (cases h; done)
  split at h <;> try (cases h; done)
  rename_i hi
  simp only [DT.out] at h
  split at h <;> try (cases h; done)
  rename_i hk
  cases h
  exact look_one (n := 2) rfl hi rfl (FWP.parts (n := 2) (N := []) (fun k q o e => by simp [nth] at e) rfl fun T t1 t2 => (get0 _ T _ _ t1 t2 _ hk).mono fun v G ⟨e1, e2⟩ => ⟨e1, t1, t2, e2⟩)
theorem ok_Writer {args : List Value} {H H' : HX} {v : Value} (h : (dWriter args H).out = some (v, H')) : FWP Try.prog (means W) 23 args H fun a b => a = v ∧ b = H' := by
  unfold dWriter at h
  split at h <;> try (cases h; done)
  split at h <;> try (cases h; done)
  rename_i hi
  simp only [DT.out] at h
  split at h <;> try (cases h; done)
  rename_i hk
  cases h
  exact look_one (n := 2) rfl hi rfl (FWP.parts (n := 2) (N := []) (fun k q o e => by simp [nth] at e) rfl fun T t1 t2 => (writer0 _ T _ _ t1 t2 _ hk).mono fun v G ⟨e1, e2⟩ => ⟨e1, t1, t2, e2⟩)
/-! ### New, Copy -/
def noneF : Int → Option Int := fun _ => none
set_option maxRecDepth 100000 in
set_option maxHeartbeats 4000000 in
theorem new0 : FWP Try.prog (means W) 20 [] [] fun v G => v = .pointer (some ⟨2, 0, none⟩) ∧ G = [some (true, .ext (.im (.ints noneF) Tk.new)), some (true, .ext (.im (.ints noneF) Tk.new)), some (true, .cells [.map (some 0), .map (some 1)] 108)] := by
  refine fevD_fwp envL_ok (d := 40) ?_
  conv => whnf
  exact ⟨rfl, rfl⟩
def dModel : DetT
  | [], H => some (.pointer (some ⟨H.length + 2, 0, none⟩), H ++ [none, none, some (true, .ext (.modl noneF noneF))])
  | _, _ => none
theorem ok_Model {args : List Value} {H H' : HX} {v : Value} (h : dModel args H = some (v, H')) : FWP Try.prog (means W) 20 args H fun a b => a = v ∧ b = H' := by
  unfold dModel at h
  split at h <;> try (cases h; done)
  cases h
  have h1 := FWP.fold (j := 2) (a := 0) (b := 1) (Nat.zero_le _) (Nat.zero_le _) (Nat.zero_le _) (by decide) (by decide) (by decide) rfl rfl rfl (new0 (W := W))
  have := FWP.amongN (H := H) (G := []) (N := [none, none, some (true, .ext (.modl noneF noneF))]) (r0 := .pointer (some ⟨2, 0, none⟩)) (r := .pointer (some ⟨H.length + 2, 0, none⟩)) (n := 1) (args := []) (args0 := []) [] rfl (by simp [upV, upId, show Nat.blt 2 0 = false from rfl]) rfl (fun k e hk => by simp at hk) (fun k p o e => by
    match k, e with
    | 0, e => simp [nth] at e
    | 1, e => simp [nth] at e
    | 2, e => simp [nth] at e; exact ⟨_, e.2.symm⟩
    | k + 3, e => simp [nth] at e) rfl h1
  simpa [putAll] using this
set_option maxRecDepth 100000 in
set_option maxHeartbeats 4000000 in
theorem copy0 (p : Bool) (T : TypeId) (f g : Int → Option Int) (t1 t2 : Tk) : FWP Try.prog (means W) 30 [.pointer (some ⟨0, 0, none⟩)] (parts3 p T f g t1 t2) fun v G => v = .pointer (some ⟨5, 0, none⟩) ∧ G = parts3 p T f g t1 t2 ++ [some (true, .ext (.im (.ints f) t1)), some (true, .ext (.im (.ints g) t2)), some (true, .cells [.map (some 3), .map (some 4)] 108)] := by
  unfold parts3
  refine fevD_fwp envL_ok (d := 40) ?_
  cases p
  · conv => whnf
    exact ⟨rfl, rfl⟩
  · conv => whnf
    exact ⟨rfl, rfl⟩
def dMCopy : DetT
  | [.pointer (some ⟨i, 0, none⟩)], H => (match nth H i with
    | some (_, .ext (.modl f g)) => some (.pointer (some ⟨H.length + 2, 0, none⟩), H ++ [none, none, some (true, .ext (.modl f g))])
    | _ => none)
  | _, _ => none
theorem ok_MCopy {args : List Value} {H H' : HX} {v : Value} (h : dMCopy args H = some (v, H')) : FWP Try.prog (means W) 30 args H fun a b => a = v ∧ b = H' := by
  unfold dMCopy at h
  split at h <;> try (cases h; done)
  rename_i i
  split at h <;> try (cases h; done)
  rename_i p f g hi
  cases h
  have hN : ∀ k q o, nth [none, none, some (true, AObj.ext (Ext.modl f g))] k = some (q, o) → ∃ x, o = .ext x := fun k p o e => by
    match k, e with
    | 0, e => simp [nth] at e
    | 1, e => simp [nth] at e
    | 2, e => simp [nth] at e; exact ⟨_, e.2.symm⟩
    | k + 3, e => simp [nth] at e
  have h1 : ∀ T t1 t2, FWP Try.prog (means W) 30 [.pointer (some ⟨0, 0, none⟩)] (parts3 p T f g t1 t2) fun v G => v = .pointer (some ⟨5, 0, none⟩) ∧ G = parts3 p T f g t1 t2 ++ [none, none, some (true, .ext (.modl f g))] := fun T t1 t2 =>
    FWP.fold (j := 5) (a := 3) (b := 4) (by show 3 ≤ 5; decide) (by show 3 ≤ 3; decide) (by show 3 ≤ 4; decide) (by decide) (by decide) (by decide) rfl rfl rfl (copy0 p T f g t1 t2)
  have h2 := FWP.parts (n := 1) (r := .pointer (some ⟨3, 0, none⟩)) hN rfl fun T t1 t2 => (h1 T t1 t2).mono fun v G ⟨e1, e2⟩ => ⟨e1, t1, t2, e2⟩
  have := one_among (rest := []) (n := 1) (r := .pointer (some ⟨H.length + 2, 0, none⟩)) rfl hi hN (by simp [upV, upId, show Nat.blt 3 1 = false from rfl]) h2
  rwa [put_self hi] at this
end Go.Proofs.Ytdmodejpcfhbhaa
