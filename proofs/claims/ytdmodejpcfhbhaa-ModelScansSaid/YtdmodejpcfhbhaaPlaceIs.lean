/- Package place: whether a configuration may be. -/
import Derived.Test.YtdmodejpcfhbhaaPlace
namespace Go.Proofs.Ytdmodejpcfhbhaa
open Go.RowKit Go.Maps

/-- An error by its number; 0 is none. -/
def encE (n : Int) : Value := if n = 0 then .nilIface else .iface 100 (.int .i64 n)

def Cf.row (c : Cf) : Nat → Int × Int × Int
  | 0 => (c.threads, 1, 8)
  | 1 => (c.cap, c.threads, 16)
  | 2 => (c.versions, 1, 1048576)
  | _ => (c.words, 1, 20000)
/-- The rows ahead of k that are out of their bounds. -/
def Cf.fails (c : Cf) : Nat → Int
  | 0 => 0
  | k + 1 => c.fails k + if (c.row k).2.1 ≤ (c.row k).1 ∧ (c.row k).1 ≤ (c.row k).2.2 then 0 else 1
def Cf.bad (c : Cf) : Prop := 0 < c.fails 4 ∨ c.cap - 2 < c.threads
instance (c : Cf) : Decidable c.bad := inferInstanceAs (Decidable (0 < c.fails 4 ∨ c.cap - 2 < c.threads))
def Cf.is (c : Cf) : Int := if c.bad then 10 else if c.top > c.words then 14 else 0

theorem Cf.fails_lo (c : Cf) (k : Nat) : 0 ≤ c.fails k := by
  induction k with
  | zero => exact Int.le_refl _
  | succ k ih => unfold Cf.fails; split <;> omega
theorem Cf.fails_hi (c : Cf) (k : Nat) : c.fails k ≤ k := by
  induction k with
  | zero => exact Int.le_refl _
  | succ k ih => unfold Cf.fails; split <;> omega
theorem Cf.fails_yes {c : Cf} {k : Nat} (h : (c.row k).2.1 ≤ (c.row k).1 ∧ (c.row k).1 ≤ (c.row k).2.2) : c.fails (k + 1) = c.fails k := by
  show c.fails k + _ = _; rw [if_pos h]; omega
theorem Cf.fails_no {c : Cf} {k : Nat} (h : ¬ ((c.row k).2.1 ≤ (c.row k).1 ∧ (c.row k).1 ≤ (c.row k).2.2)) : c.fails (k + 1) = c.fails k + 1 := by
  show c.fails k + _ = _; rw [if_neg h]
theorem Cf.good_of {c : Cf} (h : ¬ c.bad) : (1 ≤ c.threads ∧ c.threads ≤ 8) ∧ (c.threads ≤ c.cap ∧ c.cap ≤ 16) ∧ (1 ≤ c.versions ∧ c.versions ≤ 1048576) ∧ (1 ≤ c.words ∧ c.words ≤ 20000) ∧ c.threads ≤ c.cap - 2 := by
  unfold Cf.bad at h
  have hl : ∀ k, c.fails k ≤ c.fails (k + 1) := fun k => by show _ ≤ c.fails k + _; split <;> omega
  have h3 := hl 3
  have h2 := hl 2
  have h1 := hl 1
  have h0 := c.fails_lo 1
  have hx : ∀ k, c.fails (k + 1) = c.fails k → (c.row k).2.1 ≤ (c.row k).1 ∧ (c.row k).1 ≤ (c.row k).2.2 := fun k e => Decidable.byContradiction fun hn => by
    rw [Cf.fails_no hn] at e; omega
  have z : c.fails 0 = 0 := rfl
  have a1 : c.fails (0 + 1) = c.fails 1 := rfl
  have a2 : c.fails (1 + 1) = c.fails 2 := rfl
  have a3 : c.fails (2 + 1) = c.fails 3 := rfl
  have a4 : c.fails (3 + 1) = c.fails 4 := rfl
  have b0 := hl 0
  have x0 := hx 0 (by omega)
  have x1 := hx 1 (by omega)
  have x2 := hx 2 (by omega)
  have x3 := hx 3 (by omega)
  simp only [Cf.row] at x0 x1 x2 x3
  exact ⟨x0, x1, x2, x3, by omega⟩
theorem Cf.row_of {c : Cf} {k : Nat} (hk : k < 4) (h : c.fails 4 ≤ 0) : (c.row k).2.1 ≤ (c.row k).1 ∧ (c.row k).1 ≤ (c.row k).2.2 := by
  have hl : ∀ k, c.fails k ≤ c.fails (k + 1) := fun k => by show _ ≤ c.fails k + _; split <;> omega
  have h3 := hl 3
  have h2 := hl 2
  have h1 := hl 1
  have b0 := hl 0
  have hx : ∀ k, c.fails (k + 1) = c.fails k → (c.row k).2.1 ≤ (c.row k).1 ∧ (c.row k).1 ≤ (c.row k).2.2 := fun k e => Decidable.byContradiction fun hn => by
    rw [Cf.fails_no hn] at e; omega
  have z : c.fails 0 = 0 := rfl
  have a1 : c.fails (0 + 1) = c.fails 1 := rfl
  have a2 : c.fails (1 + 1) = c.fails 2 := rfl
  have a3 : c.fails (2 + 1) = c.fails 3 := rfl
  have a4 : c.fails (3 + 1) = c.fails 4 := rfl
  rcases (by omega : k = 0 ∨ k = 1 ∨ k = 2 ∨ k = 3) with rfl | rfl | rfl | rfl
  · exact hx 0 (by omega)
  · exact hx 1 (by omega)
  · exact hx 2 (by omega)
  · exact hx 3 (by omega)
theorem Cf.inb_of {c : Cf} (h : ¬ c.bad) : c.inb := by
  obtain ⟨⟨a, b⟩, ⟨d, e⟩, _, _, _⟩ := Cf.good_of h
  exact ⟨a, b, by omega, e⟩

theorem index4c (x0 x1 x2 x3 x4 x5 x6 x7 x8 x9 x10 x11 : Value) (w : World) :
    (Instr.index 160 (.agg #[x0, x1, x2, x3, x4, x5, x6, x7, x8, x9, x10, x11]) (.int .i64 0)).run Try.prog w = .ok (.agg #[x0, x1, x2]) w ∧
    (Instr.index 160 (.agg #[x0, x1, x2, x3, x4, x5, x6, x7, x8, x9, x10, x11]) (.int .i64 1)).run Try.prog w = .ok (.agg #[x3, x4, x5]) w ∧
    (Instr.index 160 (.agg #[x0, x1, x2, x3, x4, x5, x6, x7, x8, x9, x10, x11]) (.int .i64 2)).run Try.prog w = .ok (.agg #[x6, x7, x8]) w ∧
    (Instr.index 160 (.agg #[x0, x1, x2, x3, x4, x5, x6, x7, x8, x9, x10, x11]) (.int .i64 3)).run Try.prog w = .ok (.agg #[x9, x10, x11]) w :=
  ⟨by kernel_rfl, by kernel_rfl, by kernel_rfl, by kernel_rfl⟩

theorem lawB : Keyed Try.prog 4 := bool_keyed Try.underlying4
theorem lawI : Keyed Try.prog 3 := int_keyed Try.underlying3
theorem zeroI (w : World) : (zeroValue 3).run Try.prog w = .ok (.int .i64 0) w := by kernel_rfl

/-- What a pair of Booleans makes of a map's count. -/
def CountIs (D : DataW Nat) (f : Int) : Prop := IsMap D ∧ D.atKey (.bool false) (.lit (.int .i64 0)) = .lit (.int .i64 f)
theorem CountIs.made : CountIs (.map []) 0 := ⟨isMap_empty, rfl⟩
theorem CountIs.yes {D : DataW Nat} {f : Int} (h : CountIs D f) (x : DataW Nat) : CountIs (D.put (.bool true) x) f :=
  ⟨h.1.put _ _, by rw [atKey_put_other (by simp)]; exact h.2⟩
theorem CountIs.val {D : DataW Nat} {f c : Int} (h : CountIs D f) (hat : D.atKey (.bool false) (.lit (.int .i64 0)) = .lit (.int .i64 c)) : c = f := by
  have := hat.symm.trans h.2; cases this; rfl
theorem CountIs.no {D : DataW Nat} {f c : Int} (h0 : 0 ≤ f) (h1 : f ≤ 100) (h : CountIs D f) (hat : D.atKey (.bool false) (.lit (.int .i64 0)) = .lit (.int .i64 c)) : CountIs (D.put (.bool false) (.lit (.int .i64 (wrap64 (c + 1))))) (f + 1) := by
  have ew : wrap64 (c + 1) = c + 1 := by have := h.val hat; unfold wrap64; omega
  rw [ew]
  have e : c = f := by have := hat.symm.trans h.2; cases this; rfl
  subst e
  exact ⟨h.1.put _ _, atKey_put_same h.1 (by trivial) _ _⟩


set_option maxRecDepth 100000 in
set_option maxHeartbeats 4000000 in
theorem is_calls_c (c : Cf) (hw : c.wf) (w : World) :
    Calls Try.prog 65 #[encC c] w fun e w' => e = .returned (encE c.is) ∧ Below w.heap.size w w' := by
  have hmm := @run_makeMap Try.prog
  have ht := fun hc w => top_calls c hc w
  obtain ⟨w0, w1, w2, w3⟩ := hw
  unfold encC at *
  have i0 := fun (x0 x1 x2 x3 x4 x5 x6 x7 x8 x9 x10 x11 : Value) (w : World) => (index4c x0 x1 x2 x3 x4 x5 x6 x7 x8 x9 x10 x11 w).1
  have i1 := fun (x0 x1 x2 x3 x4 x5 x6 x7 x8 x9 x10 x11 : Value) (w : World) => (index4c x0 x1 x2 x3 x4 x5 x6 x7 x8 x9 x10 x11 w).2.1
  have i2 := fun (x0 x1 x2 x3 x4 x5 x6 x7 x8 x9 x10 x11 : Value) (w : World) => (index4c x0 x1 x2 x3 x4 x5 x6 x7 x8 x9 x10 x11 w).2.2.1
  have i3 := fun (x0 x1 x2 x3 x4 x5 x6 x7 x8 x9 x10 x11 : Value) (w : World) => (index4c x0 x1 x2 x3 x4 x5 x6 x7 x8 x9 x10 x11 w).2.2.2
  go_enter Try.func65, Try.ntmps65
  go_wp2_with fail
  go_loopw [22] (fun i wr => ∃ k : Nat, k ≤ 4 ∧ i = .int .i64 k ∧ ∃ (n : Nat) (D : DataW Nat) (h : GH), n ≤ k ∧ IsM h Try.prog 4 (plainElem Try.prog 3) (w.heap.size + 1) n D ∧ CountIs D (c.fails k) ∧ Mem w h wr ∧ h w.heap.size = some (.cells #[.int .i64 c.threads, .int .i64 c.cap, .int .i64 c.words, .int .i64 c.versions] 29)) (fun i _ => 4 - (intOf i).toNat)
  case atStart =>
    have hm0 := (Mem.start w).keep #[.int .i64 c.threads, .int .i64 c.cap, .int .i64 c.words, .int .i64 c.versions] 29
    have hs : (w.alloc (.cells #[.int .i64 c.threads, .int .i64 c.cap, .int .i64 c.words, .int .i64 c.versions] 29)).heap.size = w.heap.size + 1 := by show (w.heap.push _).size = _; simp
    have hm1 := hm0.keepO (.map #[] 0)
    rw [hs] at hm1
    exact ⟨0, by omega, rfl, 0, .map [], _, Nat.le_refl _, IsM.made _ _ _ _ _, CountIs.made, hm1, by rw [upd_other _ _ (by omega)]; exact upd_same _ _ _⟩
  case round =>
    obtain ⟨k, hk, rfl, n, D, h, hn, hi0, hD, hm, hc⟩ := hrel
    have hown := hi0.owns hm
    have hnc := hi0.ne hc
    rcases (by omega : k = 0 ∨ k = 1 ∨ k = 2 ∨ k = 3 ∨ k = 4) with rfl | rfl | rfl | rfl | rfl
    · by_cases hlo : 1 ≤ c.threads
      · by_cases hhi : c.threads ≤ 8
        · go_wp2_with (first
            | (at_lookup; refine wpList_lookup_own_int _ rfl _ _ 158 rfl 4 3 .i64 lawB Try.underlying158 Try.underlying3 (zeroI _) (w.heap.size + 1) n _ rfl (hown.alloc _) _ _ rfl (keyOf_bool_mk Try.underlying4 _) ?_; intro ct hat hwc)
            | (at_mapUpdate; refine wpList_mapUpdate_own _ rfl _ _ _ 158 rfl 4 3 lawB Try.underlying158 _ (w.heap.size + 1) n _ rfl (hown.alloc _) (by unfold maxLen; omega) _ _ _ rfl rfl (keyOf_bool_mk Try.underlying4 _) _ [] (plainElem_int Try.underlying3 (wrap64_wf _)) ?_; intro w1 hown1 hgrow1)
            | go_in)
          obtain ⟨o, mo, io⟩ := hi0.turned (hm.alloc _) hgrow1 hown1
          go_roundw
          case rel => exact ⟨1, by omega, by go_num, n + 1, _, _, by omega, io, (by rw [Cf.fails_yes (k := 0) ⟨hlo, hhi⟩]; exact hD.yes _), mo, by rw [upd_other _ _ (Ne.symm hnc)]; exact hc⟩
          case measure => simp [intOf]
        · go_wp2_with (first
            | (at_lookup; refine wpList_lookup_own_int _ rfl _ _ 158 rfl 4 3 .i64 lawB Try.underlying158 Try.underlying3 (zeroI _) (w.heap.size + 1) n _ rfl (hown.alloc _) _ _ rfl (keyOf_bool_mk Try.underlying4 _) ?_; intro ct hat hwc)
            | (at_mapUpdate; refine wpList_mapUpdate_own _ rfl _ _ _ 158 rfl 4 3 lawB Try.underlying158 _ (w.heap.size + 1) n _ rfl (hown.alloc _) (by unfold maxLen; omega) _ _ _ rfl rfl (keyOf_bool_mk Try.underlying4 _) _ [] (plainElem_int Try.underlying3 (wrap64_wf _)) ?_; intro w1 hown1 hgrow1)
            | go_in)
          obtain ⟨o, mo, io⟩ := hi0.turned (hm.alloc _) hgrow1 hown1
          go_roundw
          case rel => exact ⟨1, by omega, by go_num, n + 1, _, _, by omega, io, (by rw [Cf.fails_no (k := 0) (fun q => hhi q.2)]; exact hD.no (c.fails_lo _) (Int.le_trans (c.fails_hi _) (by decide)) hat), mo, by rw [upd_other _ _ (Ne.symm hnc)]; exact hc⟩
          case measure => simp [intOf]
      · go_wp2_with (first
          | (at_lookup; refine wpList_lookup_own_int _ rfl _ _ 158 rfl 4 3 .i64 lawB Try.underlying158 Try.underlying3 (zeroI _) (w.heap.size + 1) n _ rfl (hown.alloc _) _ _ rfl (keyOf_bool_mk Try.underlying4 _) ?_; intro ct hat hwc)
          | (at_mapUpdate; refine wpList_mapUpdate_own _ rfl _ _ _ 158 rfl 4 3 lawB Try.underlying158 _ (w.heap.size + 1) n _ rfl (hown.alloc _) (by unfold maxLen; omega) _ _ _ rfl rfl (keyOf_bool_mk Try.underlying4 _) _ [] (plainElem_int Try.underlying3 (wrap64_wf _)) ?_; intro w1 hown1 hgrow1)
          | go_in)
        obtain ⟨o, mo, io⟩ := hi0.turned (hm.alloc _) hgrow1 hown1
        go_roundw
        case rel => exact ⟨1, by omega, by go_num, n + 1, _, _, by omega, io, (by rw [Cf.fails_no (k := 0) (fun q => hlo q.1)]; exact hD.no (c.fails_lo _) (Int.le_trans (c.fails_hi _) (by decide)) hat), mo, by rw [upd_other _ _ (Ne.symm hnc)]; exact hc⟩
        case measure => simp [intOf]
    · by_cases hlo : c.threads ≤ c.cap
      · by_cases hhi : c.cap ≤ 16
        · go_wp2_with (first
            | (at_lookup; refine wpList_lookup_own_int _ rfl _ _ 158 rfl 4 3 .i64 lawB Try.underlying158 Try.underlying3 (zeroI _) (w.heap.size + 1) n _ rfl (hown.alloc _) _ _ rfl (keyOf_bool_mk Try.underlying4 _) ?_; intro ct hat hwc)
            | (at_mapUpdate; refine wpList_mapUpdate_own _ rfl _ _ _ 158 rfl 4 3 lawB Try.underlying158 _ (w.heap.size + 1) n _ rfl (hown.alloc _) (by unfold maxLen; omega) _ _ _ rfl rfl (keyOf_bool_mk Try.underlying4 _) _ [] (plainElem_int Try.underlying3 (wrap64_wf _)) ?_; intro w1 hown1 hgrow1)
            | go_in)
          obtain ⟨o, mo, io⟩ := hi0.turned (hm.alloc _) hgrow1 hown1
          go_roundw
          case rel => exact ⟨2, by omega, by go_num, n + 1, _, _, by omega, io, (by rw [Cf.fails_yes (k := 1) ⟨hlo, hhi⟩]; exact hD.yes _), mo, by rw [upd_other _ _ (Ne.symm hnc)]; exact hc⟩
          case measure => simp [intOf]
        · go_wp2_with (first
            | (at_lookup; refine wpList_lookup_own_int _ rfl _ _ 158 rfl 4 3 .i64 lawB Try.underlying158 Try.underlying3 (zeroI _) (w.heap.size + 1) n _ rfl (hown.alloc _) _ _ rfl (keyOf_bool_mk Try.underlying4 _) ?_; intro ct hat hwc)
            | (at_mapUpdate; refine wpList_mapUpdate_own _ rfl _ _ _ 158 rfl 4 3 lawB Try.underlying158 _ (w.heap.size + 1) n _ rfl (hown.alloc _) (by unfold maxLen; omega) _ _ _ rfl rfl (keyOf_bool_mk Try.underlying4 _) _ [] (plainElem_int Try.underlying3 (wrap64_wf _)) ?_; intro w1 hown1 hgrow1)
            | go_in)
          obtain ⟨o, mo, io⟩ := hi0.turned (hm.alloc _) hgrow1 hown1
          go_roundw
          case rel => exact ⟨2, by omega, by go_num, n + 1, _, _, by omega, io, (by rw [Cf.fails_no (k := 1) (fun q => hhi q.2)]; exact hD.no (c.fails_lo _) (Int.le_trans (c.fails_hi _) (by decide)) hat), mo, by rw [upd_other _ _ (Ne.symm hnc)]; exact hc⟩
          case measure => simp [intOf]
      · go_wp2_with (first
          | (at_lookup; refine wpList_lookup_own_int _ rfl _ _ 158 rfl 4 3 .i64 lawB Try.underlying158 Try.underlying3 (zeroI _) (w.heap.size + 1) n _ rfl (hown.alloc _) _ _ rfl (keyOf_bool_mk Try.underlying4 _) ?_; intro ct hat hwc)
          | (at_mapUpdate; refine wpList_mapUpdate_own _ rfl _ _ _ 158 rfl 4 3 lawB Try.underlying158 _ (w.heap.size + 1) n _ rfl (hown.alloc _) (by unfold maxLen; omega) _ _ _ rfl rfl (keyOf_bool_mk Try.underlying4 _) _ [] (plainElem_int Try.underlying3 (wrap64_wf _)) ?_; intro w1 hown1 hgrow1)
          | go_in)
        obtain ⟨o, mo, io⟩ := hi0.turned (hm.alloc _) hgrow1 hown1
        go_roundw
        case rel => exact ⟨2, by omega, by go_num, n + 1, _, _, by omega, io, (by rw [Cf.fails_no (k := 1) (fun q => hlo q.1)]; exact hD.no (c.fails_lo _) (Int.le_trans (c.fails_hi _) (by decide)) hat), mo, by rw [upd_other _ _ (Ne.symm hnc)]; exact hc⟩
        case measure => simp [intOf]
    · by_cases hlo : 1 ≤ c.versions
      · by_cases hhi : c.versions ≤ 1048576
        · go_wp2_with (first
            | (at_lookup; refine wpList_lookup_own_int _ rfl _ _ 158 rfl 4 3 .i64 lawB Try.underlying158 Try.underlying3 (zeroI _) (w.heap.size + 1) n _ rfl (hown.alloc _) _ _ rfl (keyOf_bool_mk Try.underlying4 _) ?_; intro ct hat hwc)
            | (at_mapUpdate; refine wpList_mapUpdate_own _ rfl _ _ _ 158 rfl 4 3 lawB Try.underlying158 _ (w.heap.size + 1) n _ rfl (hown.alloc _) (by unfold maxLen; omega) _ _ _ rfl rfl (keyOf_bool_mk Try.underlying4 _) _ [] (plainElem_int Try.underlying3 (wrap64_wf _)) ?_; intro w1 hown1 hgrow1)
            | go_in)
          obtain ⟨o, mo, io⟩ := hi0.turned (hm.alloc _) hgrow1 hown1
          go_roundw
          case rel => exact ⟨3, by omega, by go_num, n + 1, _, _, by omega, io, (by rw [Cf.fails_yes (k := 2) ⟨hlo, hhi⟩]; exact hD.yes _), mo, by rw [upd_other _ _ (Ne.symm hnc)]; exact hc⟩
          case measure => simp [intOf]
        · go_wp2_with (first
            | (at_lookup; refine wpList_lookup_own_int _ rfl _ _ 158 rfl 4 3 .i64 lawB Try.underlying158 Try.underlying3 (zeroI _) (w.heap.size + 1) n _ rfl (hown.alloc _) _ _ rfl (keyOf_bool_mk Try.underlying4 _) ?_; intro ct hat hwc)
            | (at_mapUpdate; refine wpList_mapUpdate_own _ rfl _ _ _ 158 rfl 4 3 lawB Try.underlying158 _ (w.heap.size + 1) n _ rfl (hown.alloc _) (by unfold maxLen; omega) _ _ _ rfl rfl (keyOf_bool_mk Try.underlying4 _) _ [] (plainElem_int Try.underlying3 (wrap64_wf _)) ?_; intro w1 hown1 hgrow1)
            | go_in)
          obtain ⟨o, mo, io⟩ := hi0.turned (hm.alloc _) hgrow1 hown1
          go_roundw
          case rel => exact ⟨3, by omega, by go_num, n + 1, _, _, by omega, io, (by rw [Cf.fails_no (k := 2) (fun q => hhi q.2)]; exact hD.no (c.fails_lo _) (Int.le_trans (c.fails_hi _) (by decide)) hat), mo, by rw [upd_other _ _ (Ne.symm hnc)]; exact hc⟩
          case measure => simp [intOf]
      · go_wp2_with (first
          | (at_lookup; refine wpList_lookup_own_int _ rfl _ _ 158 rfl 4 3 .i64 lawB Try.underlying158 Try.underlying3 (zeroI _) (w.heap.size + 1) n _ rfl (hown.alloc _) _ _ rfl (keyOf_bool_mk Try.underlying4 _) ?_; intro ct hat hwc)
          | (at_mapUpdate; refine wpList_mapUpdate_own _ rfl _ _ _ 158 rfl 4 3 lawB Try.underlying158 _ (w.heap.size + 1) n _ rfl (hown.alloc _) (by unfold maxLen; omega) _ _ _ rfl rfl (keyOf_bool_mk Try.underlying4 _) _ [] (plainElem_int Try.underlying3 (wrap64_wf _)) ?_; intro w1 hown1 hgrow1)
          | go_in)
        obtain ⟨o, mo, io⟩ := hi0.turned (hm.alloc _) hgrow1 hown1
        go_roundw
        case rel => exact ⟨3, by omega, by go_num, n + 1, _, _, by omega, io, (by rw [Cf.fails_no (k := 2) (fun q => hlo q.1)]; exact hD.no (c.fails_lo _) (Int.le_trans (c.fails_hi _) (by decide)) hat), mo, by rw [upd_other _ _ (Ne.symm hnc)]; exact hc⟩
        case measure => simp [intOf]
    · by_cases hlo : 1 ≤ c.words
      · by_cases hhi : c.words ≤ 20000
        · go_wp2_with (first
            | (at_lookup; refine wpList_lookup_own_int _ rfl _ _ 158 rfl 4 3 .i64 lawB Try.underlying158 Try.underlying3 (zeroI _) (w.heap.size + 1) n _ rfl (hown.alloc _) _ _ rfl (keyOf_bool_mk Try.underlying4 _) ?_; intro ct hat hwc)
            | (at_mapUpdate; refine wpList_mapUpdate_own _ rfl _ _ _ 158 rfl 4 3 lawB Try.underlying158 _ (w.heap.size + 1) n _ rfl (hown.alloc _) (by unfold maxLen; omega) _ _ _ rfl rfl (keyOf_bool_mk Try.underlying4 _) _ [] (plainElem_int Try.underlying3 (wrap64_wf _)) ?_; intro w1 hown1 hgrow1)
            | go_in)
          obtain ⟨o, mo, io⟩ := hi0.turned (hm.alloc _) hgrow1 hown1
          go_roundw
          case rel => exact ⟨4, by omega, by go_num, n + 1, _, _, by omega, io, (by rw [Cf.fails_yes (k := 3) ⟨hlo, hhi⟩]; exact hD.yes _), mo, by rw [upd_other _ _ (Ne.symm hnc)]; exact hc⟩
          case measure => simp [intOf]
        · go_wp2_with (first
            | (at_lookup; refine wpList_lookup_own_int _ rfl _ _ 158 rfl 4 3 .i64 lawB Try.underlying158 Try.underlying3 (zeroI _) (w.heap.size + 1) n _ rfl (hown.alloc _) _ _ rfl (keyOf_bool_mk Try.underlying4 _) ?_; intro ct hat hwc)
            | (at_mapUpdate; refine wpList_mapUpdate_own _ rfl _ _ _ 158 rfl 4 3 lawB Try.underlying158 _ (w.heap.size + 1) n _ rfl (hown.alloc _) (by unfold maxLen; omega) _ _ _ rfl rfl (keyOf_bool_mk Try.underlying4 _) _ [] (plainElem_int Try.underlying3 (wrap64_wf _)) ?_; intro w1 hown1 hgrow1)
            | go_in)
          obtain ⟨o, mo, io⟩ := hi0.turned (hm.alloc _) hgrow1 hown1
          go_roundw
          case rel => exact ⟨4, by omega, by go_num, n + 1, _, _, by omega, io, (by rw [Cf.fails_no (k := 3) (fun q => hhi q.2)]; exact hD.no (c.fails_lo _) (Int.le_trans (c.fails_hi _) (by decide)) hat), mo, by rw [upd_other _ _ (Ne.symm hnc)]; exact hc⟩
          case measure => simp [intOf]
      · go_wp2_with (first
          | (at_lookup; refine wpList_lookup_own_int _ rfl _ _ 158 rfl 4 3 .i64 lawB Try.underlying158 Try.underlying3 (zeroI _) (w.heap.size + 1) n _ rfl (hown.alloc _) _ _ rfl (keyOf_bool_mk Try.underlying4 _) ?_; intro ct hat hwc)
          | (at_mapUpdate; refine wpList_mapUpdate_own _ rfl _ _ _ 158 rfl 4 3 lawB Try.underlying158 _ (w.heap.size + 1) n _ rfl (hown.alloc _) (by unfold maxLen; omega) _ _ _ rfl rfl (keyOf_bool_mk Try.underlying4 _) _ [] (plainElem_int Try.underlying3 (wrap64_wf _)) ?_; intro w1 hown1 hgrow1)
          | go_in)
        obtain ⟨o, mo, io⟩ := hi0.turned (hm.alloc _) hgrow1 hown1
        go_roundw
        case rel => exact ⟨4, by omega, by go_num, n + 1, _, _, by omega, io, (by rw [Cf.fails_no (k := 3) (fun q => hlo q.1)]; exact hD.no (c.fails_lo _) (Int.le_trans (c.fails_hi _) (by decide)) hat), mo, by rw [upd_other _ _ (Ne.symm hnc)]; exact hc⟩
        case measure => simp [intOf]
    · obtain ⟨ct, hrun, hat, hwc⟩ := hown.lookup_int lawB Try.underlying158 Try.underlying3 (zeroI wr) (key := .bool false) (kl := .bool false) (keyOf_bool_mk Try.underlying4 _)
      have hct := hD.val hat
      have hlo := c.fails_lo 4
      rw [← hct] at hlo
      have hIs : c.is = if 0 < ct ∨ c.cap - 2 < c.threads then 10 else if c.top > c.words then 14 else 0 := by rw [hct]; rfl
      have hgood := c.good_of
      have hinb := c.inb_of
      unfold Cf.bad at hgood hinb
      rw [← hct] at hgood hinb
      have HI := Lib.hid hIs
      have hcapb : ct ≤ 0 → 1 ≤ c.threads ∧ c.threads ≤ c.cap ∧ c.cap ≤ 16 := fun h => by
        have e0 := c.row_of (k := 0) (by omega) (by rw [← hct]; exact h)
        have e := c.row_of (k := 1) (by omega) (by rw [← hct]; exact h)
        exact ⟨e0.1, e⟩
      clear hIs hat hD hct
      by_cases hf : 0 < ct
      · have HR : Hid (c.is = 10) := by show _ = _; rw [HI.out, if_pos (.inl hf)]
        go_wp2_with fail
        go_ret
        exact ⟨by rw [HR.out]; rfl, hm.below⟩
      · by_cases hs : c.cap - 2 < c.threads
        · have hb0 := wf_i64_bounds w1
          obtain ⟨hc2, hc0, hc1⟩ := hcapb (by omega)
          have p0 : wr.cell? ⟨w.heap.size, 0, none⟩ = some (.int .i64 c.threads) := hm.cell hc 0
          have p1 : wr.cell? ⟨w.heap.size, 1, none⟩ = some (.int .i64 c.cap) := hm.cell hc 1
          have HR : Hid (c.is = 10) := by show _ = _; rw [HI.out, if_pos (.inr hs)]
          go_wp2_with fail
          go_ret
          exact ⟨by rw [HR.out]; rfl, hm.below⟩
        · have hg := hgood (fun q => q.elim hf hs)
          have hi := hinb (fun q => q.elim hf hs)
          obtain ⟨⟨g0, g1⟩, ⟨g2, g3⟩, _, ⟨g4, g5⟩, _⟩ := hg
          have q0 : ∀ x : MW w h, x.w.cell? ⟨w.heap.size, 0, none⟩ = some (.int .i64 c.threads) := fun x => x.m.cell hc 0
          have q1 : ∀ x : MW w h, x.w.cell? ⟨w.heap.size, 1, none⟩ = some (.int .i64 c.cap) := fun x => x.m.cell hc 1
          have q2 : ∀ x : MW w h, x.w.cell? ⟨w.heap.size, 2, none⟩ = some (.int .i64 c.words) := fun x => x.m.cell hc 2
          have q3 : ∀ x : MW w h, x.w.cell? ⟨w.heap.size, 3, none⟩ = some (.int .i64 c.versions) := fun x => x.m.cell hc 3
          have hne : Nonempty (MW w h) := ⟨⟨_, hm⟩⟩
          have p0 := q0 ⟨wr, hm⟩
          have p1 := q1 ⟨wr, hm⟩
          clear hgood hinb
          by_cases ht2 : c.top > c.words
          · have HR : Hid (c.is = 14) := by show _ = _; rw [HI.out, if_neg (fun q => q.elim hf hs), if_pos ht2]
            go_wp2_with fail
            refine region_mem (by kernel_rfl) (by kernel_rfl) hm ?_
            repeat (any_goals (first | go_big_quiet_step ((go_at_call 76; exact in_mem_grown (ht hi _))) | quiet_step ((go_at_call 76; exact in_mem_grown (ht hi _)))))
            refine wpQuiet_nil ?_
            intro w' hw'
            obtain ⟨⟨w', hm'⟩, rfl⟩ := hw'
            go_wp2_with fail
            go_ret
            exact ⟨by rw [HR.out]; rfl, hm'.below⟩
          · have HR : Hid (c.is = 0) := by show _ = _; rw [HI.out, if_neg (fun q => q.elim hf hs), if_neg ht2]
            go_wp2_with fail
            refine region_mem (by kernel_rfl) (by kernel_rfl) hm ?_
            repeat (any_goals (first | go_big_quiet_step ((go_at_call 76; exact in_mem_grown (ht hi _))) | quiet_step ((go_at_call 76; exact in_mem_grown (ht hi _)))))
            refine wpQuiet_nil ?_
            intro w' hw'
            obtain ⟨⟨w', hm'⟩, rfl⟩ := hw'
            go_wp2_with fail
            go_ret
            exact ⟨by rw [HR.out]; rfl, hm'.below⟩

end Go.Proofs.Ytdmodejpcfhbhaa
