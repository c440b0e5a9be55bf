/- ViewItems: the walk. -/
import Derived.Test.YtflhcknnjembjaaKn6
namespace Go.Proofs.Ytflhcknnjembjaa
open Go.RowKit
variable {W : World}
namespace VI
theorem getD_l {L M : List Int} {q : Nat} (h : q < L.length) : (L ++ M).getD q 0 = L.getD q 0 := by
  rw [List.getD_eq_getElem?_getD, List.getD_eq_getElem?_getD, List.getElem?_append_left h]
theorem getD_r {L M : List Int} {q : Nat} (h : L.length ≤ q) : (L ++ M).getD q 0 = M.getD (q - L.length) 0 := by
  rw [List.getD_eq_getElem?_getD, List.getD_eq_getElem?_getD, List.getElem?_append_right h]
/-- What a row holds. -/
def RowIs (f : Nat → Int) (L : List Int) : Prop := ∀ q, q < L.length → f q = L.getD q 0
theorem RowIs.snoc {f f' : Nat → Int} {L : List Int} {n : Nat} {x y z : Int} (h : RowIs f L) (hn : n = L.length) (h1 : ∀ q, q < n → f' q = f q) (hx : f' n = x) (hy : f' (n + 1) = y) (hz : f' (n + 2) = z) : RowIs f' (L ++ [x, y, z]) := by
  subst hn
  intro q hq
  by_cases hl : q < L.length
  · rw [h1 q hl, h q hl, getD_l hl]
  · rw [getD_r (by omega)]
    simp only [List.length_append, List.length_cons, List.length_nil] at hq
    obtain rfl | rfl | rfl : q = L.length ∨ q = L.length + 1 ∨ q = L.length + 2 := by omega
    · rw [hx, Nat.sub_self]; rfl
    · rw [hy, Nat.add_sub_cancel_left]; rfl
    · rw [hz, Nat.add_sub_cancel_left]; rfl
/-- All cells; the items among them; how many. -/
def C (S K : Nat → Int) : Nat → List Int
  | 0 => []
  | i + 1 => C S K i ++ [S i, K i, 1000 + i]
def D (S K : Nat → Int) : Nat → List Int
  | 0 => []
  | i + 1 => if 2 < S i then D S K i ++ [K i, S i - 3, 1000 + i] else D S K i
def cnt (S : Nat → Int) : Nat → Nat
  | 0 => 0
  | i + 1 => if 2 < S i then cnt S i + 1 else cnt S i
theorem C_len (S K : Nat → Int) : ∀ i, (C S K i).length = 3 * i
  | 0 => rfl
  | i + 1 => by simp [C, C_len S K i]; omega
theorem D_len (S K : Nat → Int) : ∀ i, (D S K i).length = 3 * cnt S i
  | 0 => rfl
  | i + 1 => by
    unfold D cnt
    split
    · simp [D_len S K i]; omega
    · exact D_len S K i
theorem cnt_le (S : Nat → Int) : ∀ i, cnt S i ≤ i
  | 0 => Nat.le_refl _
  | i + 1 => by unfold cnt; have := cnt_le S i; split <;> omega
theorem C_get (S K : Nat → Int) : ∀ (i j : Nat), j < i → (C S K i).getD (3 * j) 0 = S j ∧ (C S K i).getD (3 * j + 1) 0 = K j ∧ (C S K i).getD (3 * j + 2) 0 = 1000 + j
  | i + 1, j, h => by
    unfold C
    by_cases hj : j < i
    · have := C_get S K i j hj
      have hl := C_len S K i
      rw [getD_l (by omega), getD_l (by omega), getD_l (by omega)]
      exact this
    · have : j = i := by omega
      subst this
      have hl := C_len S K j
      rw [getD_r (by omega), getD_r (by omega), getD_r (by omega), hl]
      simp
theorem D_nil {S K : Nat → Int} {i : Nat} (h : cnt S i = 0) : D S K i = [] := List.eq_nil_of_length_eq_zero (by rw [D_len, h])
theorem cnt_mono (S : Nat → Int) : ∀ {i j : Nat}, j ≤ i → cnt S j ≤ cnt S i
  | 0, j, h => by have : j = 0 := by omega
                  subst this; exact Nat.le_refl _
  | i + 1, j, h => by
    by_cases hj : j ≤ i
    · have h1 := cnt_mono S hj
      have h2 : cnt S i ≤ cnt S (i + 1) := by show cnt S i ≤ (if 2 < S i then cnt S i + 1 else cnt S i); split <;> omega
      omega
    · have : j = i + 1 := by omega
      subst this; exact Nat.le_refl _
theorem cnt_zero {S : Nat → Int} {i j : Nat} (h : cnt S i = 0) (hj : j < i) : ¬ 2 < S j := fun q => by
  have h1 := cnt_mono S (show j + 1 ≤ i from hj)
  have h2 : cnt S (j + 1) = cnt S j + 1 := by show (if 2 < S j then cnt S j + 1 else cnt S j) = _; rw [if_pos q]
  omega
theorem cell_at {S K : Nat → Int} {f : Nat → Int} {i j : Nat} (h : RowIs f (C S K i)) (hj : j < i) : f (j * 3) = S j ∧ f (j * 3 + 1) = K j ∧ f (j * 3 + 1 + 1) = 1000 + j := by
  obtain ⟨h1, h2, h3⟩ := C_get S K i j hj
  have hl := C_len S K i
  refine ⟨?_, ?_, ?_⟩
  · rw [h _ (by omega), show j * 3 = 3 * j from by omega, h1]
  · rw [h _ (by omega), show j * 3 + 1 = 3 * j + 1 from by omega, h2]
  · rw [h _ (by omega), show j * 3 + 1 + 1 = 3 * j + 2 from by omega, h3]
theorem ver_no {x : Int} (h : ¬ 2 < x) : verW x = -1 := by unfold verW; rw [if_pos (by omega)]
theorem ver_is {x : Int} (h : 2 < x) (h' : x < 12) : verW x = x - 3 := by unfold verW; rw [if_neg (by omega)]; exact wrapI (by omega) (by omega)
abbrev sl (p n : Nat) : Value := .slice (some ⟨p, 0, some 0⟩) n 0
abbrev Xo (c : Value) : Option (Bool × AObj Ext) := some (true, AObj.cells [.int .i64 5, .int .i64 0, .int .i64 0, .int .i64 0, .int .i64 0, .int .i64 0, .int .i64 0, .int .i64 0, c] 52)
abbrev Cr (n : Nat) (f : Nat → Int) : Option (Bool × AObj Ext) := some (true, .ext (.row 55 3 n (.ints .i64 f)))
abbrev Ir (n : Nat) (f : Nat → Int) : Option (Bool × AObj Ext) := some (true, .ext (.row 57 3 n (.ints .i64 f)))
abbrev v0 (sv kv wv : Value) (i : Nat) : List Value := [sv, kv, .pointer (some ⟨2, 0, none⟩), wv, .int .i64 i]
def I (sv kv : Value) (O1 O2 : Option (Bool × AObj Ext)) (S K : Nat → Int) (len k : Nat) (vs : List Value) (H : HX) : Prop :=
  ∃ i : Nat, k + i = len ∧ ((i < 1 ∧ vs = v0 sv kv (.slice none 0 0) i ∧ H = [O1, O2, Xo (.slice none 0 0)]) ∨
    (0 < i ∧ cnt S i = 0 ∧ ∃ f, RowIs f (C S K i) ∧ vs = v0 sv kv (.slice none 0 0) i ∧ H = [O1, O2, Xo (sl 3 i), Cr i f]) ∨
    (0 < i ∧ 0 < cnt S i ∧ ∃ f g, RowIs f (C S K i) ∧ RowIs g (D S K i) ∧ vs = v0 sv kv (sl 4 (cnt S i)) i ∧ H = [O1, O2, Xo (sl 3 i), Cr i f, Ir (cnt S i) g]))
/-- The items' loop. -/
def J2 (O1 O2 : Option (Bool × AObj Ext)) (f : Nat → Int) (n k : Nat) (vs : List Value) (H : HX) : Prop :=
  ∃ j : Nat, k + j = n ∧ vs = [.slice none 0 0, sl 3 n, .int .i64 n, .int .i64 j] ∧ H = [O1, O2, Xo (sl 3 n), Cr n f]
def J3 (O1 O2 : Option (Bool × AObj Ext)) (S K f g : Nat → Int) (n k : Nat) (vs : List Value) (H : HX) : Prop :=
  ∃ j : Nat, k + j = n ∧ ((cnt S j < 1 ∧ vs = [.slice none 0 0, sl 3 n, .int .i64 n, .int .i64 j] ∧ H = [O1, O2, Xo (sl 3 n), Cr n f, Ir (cnt S n) g]) ∨
    (0 < cnt S j ∧ ∃ e, RowIs e (D S K j) ∧ vs = [sl 5 (cnt S j), sl 3 n, .int .i64 n, .int .i64 j] ∧ H = [O1, O2, Xo (sl 3 n), Cr n f, Ir (cnt S n) g, Ir (cnt S j) e]))
/-- The rows are alike. -/
def J4 (A B : Option (Bool × AObj Ext)) (X : Option (Bool × AObj Ext)) (f g e : Nat → Int) (m n k : Nat) (vs : List Value) (H : HX) : Prop :=
  ∃ j : Nat, k + j = n ∧ vs = [sl 5 n, sl 4 n, .int .i64 j] ∧ H = [A, B, X, Cr m f, Ir n g, Ir n e]
theorem alike {f g : Nat → Int} {L : List Int} {n j : Nat} (hf : RowIs f L) (hg : RowIs g L) (hl : L.length = 3 * n) (hj : j < n) : f (j * 3) = g (j * 3) ∧ f (j * 3 + 1) = g (j * 3 + 1) ∧ f (j * 3 + 1 + 1) = g (j * 3 + 1 + 1) := by
  refine ⟨?_, ?_, ?_⟩
  · rw [hf _ (by omega), hg _ (by omega)]
  · rw [hf _ (by omega), hg _ (by omega)]
  · rw [hf _ (by omega), hg _ (by omega)]
end VI
attribute [local irreducible] SWP FWP OWP Ent
set_option maxRecDepth 100000 in
set_option maxHeartbeats 16000000 in
theorem viewItems_fwp (sv kv : Value) (b lo n len b' lo' n' len' : Nat) (z y : Nat → Int) (hz : ∀ j, j < len → 0 ≤ z j) (hy : ∀ j, j < len' → 0 ≤ y j) (hs : SlAt 0 len sv ⟨b, lo, n, intsC .u8 z lo⟩) (hk : SlAt 1 len' kv ⟨b', lo', n', intsC .u8 y lo'⟩) :
    FWP Try.prog (means W) 6 [sv, kv] [some (false, .ext (.old lo n (intsC .u8 z lo))), some (false, .ext (.old lo' n' (intsC .u8 y lo')))] fun a _ => a = .bool true := by
  obtain ⟨rfl, rfl⟩ | ⟨rfl, rfl⟩ | ⟨cap, rfl, hn, hlen⟩ := hs
  · refine fevD_fwp (envK_ok known6) (d := 40) ?_
    repeat ((conv => whnf); first | (refine brT ?_ ?_; · (simp [*]; done)) | (refine brF ?_ ?_; · (simp [*]; done)))

    rfl
  · refine fevD_fwp (envK_ok known6) (d := 40) ?_
    repeat ((conv => whnf); first | (refine brT ?_ ?_; · (simp [*]; done)) | (refine brF ?_ ?_; · (simp [*]; done)))

    rfl
  simp only at hn hlen
  by_cases hbig : 16 < len
  · have hb : (16 : Int) < (len : Int) := by omega
    refine fevD_fwp (envK_ok known6) (d := 40) ?_
    repeat ((conv => whnf); first | (refine brT ?_ ?_; · (simp [*]; done)) | (refine brF ?_ ?_; · (simp [*]; done)))

    rfl
  have hb : ¬ (16 : Int) < (len : Int) := by omega
  obtain ⟨S, eS⟩ : ∃ S : Nat → Int, ∀ j, S j = (z j).tmod 12 := ⟨_, fun _ => rfl⟩
  obtain ⟨K, eK⟩ : ∃ K : Nat → Int, ∀ j, (if j < len' then (y j).tmod 64 else 0) = K j := ⟨_, fun _ => rfl⟩
  have zS : ∀ j, j < len → IntKind.i64.wrap ((z j).tmod 12) = S j ∧ 0 ≤ S j ∧ S j < 12 := fun j hj => by rw [eS, tmodI (hz j hj), wrapI (by omega) (by omega)]; omega
  clear eS
  have z0 : 5 < Try.prog.types.size := Nat.le_of_ble_eq_true (by kernel_rfl)
  have z1 : (Try.prog.types[5]'z0).size = 1 := by kernel_rfl
  have z2 : 55 < Try.prog.types.size := Nat.le_of_ble_eq_true (by kernel_rfl)
  have z3 : (Try.prog.types[55]'z2).size = 3 := by kernel_rfl
  have z4 : 57 < Try.prog.types.size := Nat.le_of_ble_eq_true (by kernel_rfl)
  have z5 : (Try.prog.types[57]'z4).size = 3 := by kernel_rfl
  refine FWP.body (envK_ok known6) 40 Try.func6 rfl (by exact Nat.le_of_ble_eq_true rfl) ?_
  obtain ⟨rfl, rfl⟩ | ⟨rfl, rfl⟩ | ⟨cap', rfl, hn', hlen'⟩ := hk
  · repeat ((conv => whnf); first | (refine brT ?_ ?_; · (simp [*]; done)) | (refine brF ?_ ?_; · (simp [*]; done)))

    conv => whnf
    refine SWP.loopS Try.f6.ntmps [0, 1, 5, 6, 7] (VI.I (.slice (some ⟨0, lo, none⟩) len cap) (.slice none 0 0) (some (false, .ext (.old lo n (intsC .u8 z lo)))) (some (false, .ext (.old lo' n' (intsC .u8 y lo')))) S K len) (N := len) [2] rfl rfl rfl ⟨0, rfl, .inl ⟨Nat.one_pos, rfl, rfl⟩⟩ ?_
    rintro k vs H ⟨i, hk, ⟨hi, rfl, rfl⟩ | ⟨hi, hc, f, hf, rfl, rfl⟩ | ⟨hi, hc, f, g, hf, hg, rfl, rfl⟩⟩
    · refine SWP.code (envK_ok known6) 40 200 ?_
      by_cases hn : i < len
      · have f1 : (i : Int) < (len : Int) := by omega
        have f4 : i + 1 ≤ 1000000 := by omega
        have f2 : IntKind.i64.wrap ((i : Int) + 1) = ((i + 1 : Nat) : Int) := by rw [wrapI (by omega) (by omega)]; rfl
        have f5 : decide ((0:Int) ≤ (i:Int) ∧ (i:Int) < (len:Int)) = true := decide_eq_true ⟨by omega, by omega⟩
        have f3 : decide (lo ≤ lo + (i : Int).toNat * 1 ∧ lo + (i : Int).toNat * 1 < n) = true := decide_eq_true ⟨by omega, by omega⟩
        have f6 : IntKind.i64.wrap (1000 + (i : Int)) = 1000 + i := wrapI (by omega) (by omega)
        obtain ⟨s1, s2, s3⟩ := zS i hn
        have s4 : IntKind.i64.wrap (S i - 3) = S i - 3 := wrapI (by omega) (by omega)
        have s5 : ∀ q, q = i → IntKind.i64.wrap (IntKind.i64.wrap ((z q).tmod 12) - 3) = S i - 3 := fun q h => by rw [h, s1, s4]
        have s6 : ∀ q, q = i → IntKind.i64.wrap ((z q).tmod 12) = S i := fun q h => by rw [h, s1]
        have g1 : ¬ (i : Int) < (0 : Int) := by omega
        have k1 : (0 : Int) = K i := by rw [← eK i, if_neg (by omega)]
        by_cases hS : 2 < S i
        · have hc1 : VI.cnt S (i + 1) = VI.cnt S i + 1 := by show (if 2 < S i then VI.cnt S i + 1 else VI.cnt S i) = _; rw [if_pos hS]
          have hd1 : VI.D S K (i + 1) = VI.D S K i ++ [K i, S i - 3, 1000 + i] := by show (if 2 < S i then _ else _) = _; rw [if_pos hS]
          repeat ((conv => whnf); first | (refine brT ?_ ?_; · (first | exact f3 | exact Bool.and_eq_true_iff.2 ⟨decide_eq_true ⟨rfl, rfl, rfl⟩, decide_eq_true ⟨Nat.one_pos, Nat.le_of_ble_eq_true rfl, by omega⟩⟩ | (simp [*]; done))) | (refine brF ?_ ?_; · (first | exact f3 | exact Bool.and_eq_true_iff.2 ⟨decide_eq_true ⟨rfl, rfl, rfl⟩, decide_eq_true ⟨Nat.one_pos, Nat.le_of_ble_eq_true rfl, by omega⟩⟩ | (simp [*]; done))) | (rw [f5]))

          conv => whnf
          have i0 : i = 0 := by omega
          subst i0
          refine ⟨k - 1, by omega, [2, 5, 7], rfl, rfl, _, rfl, 0 + 1, by omega, .inr (.inr ⟨by omega, by rw [hc1]; exact Nat.succ_pos _, ?_⟩)⟩
          rw [hc1, hd1]
          refine ⟨_, _, ?_, ?_, ?_, rfl⟩
          · intro q hq
            have hq3 : q < 3 := by first | exact hq | (rw [VI.C_len] at hq; omega) | (rw [VI.D_nil rfl] at hq; exact hq)
            obtain rfl | rfl | rfl : q = 0 ∨ q = 1 ∨ q = 2 := by omega
            · exact s6 _ (by first | (simp; done) | (simp [z1]; done))
            · exact k1
            · exact f6
          · intro q hq
            have hq3 : q < 3 := by first | exact hq | (rw [VI.C_len] at hq; omega) | (rw [VI.D_nil rfl] at hq; exact hq)
            obtain rfl | rfl | rfl : q = 0 ∨ q = 1 ∨ q = 2 := by omega
            · exact k1
            · exact s5 _ (by first | (simp; done) | (simp [z1]; done))
            · exact f6
          · rw [f2]; rfl
        · have hc1 : VI.cnt S (i + 1) = VI.cnt S i := by show (if 2 < S i then VI.cnt S i + 1 else VI.cnt S i) = _; rw [if_neg hS]
          have hd1 : VI.D S K (i + 1) = VI.D S K i := by show (if 2 < S i then _ else _) = _; rw [if_neg hS]
          repeat ((conv => whnf); first | (refine brT ?_ ?_; · (first | exact f3 | exact Bool.and_eq_true_iff.2 ⟨decide_eq_true ⟨rfl, rfl, rfl⟩, decide_eq_true ⟨Nat.one_pos, Nat.le_of_ble_eq_true rfl, by omega⟩⟩ | (simp [*]; done))) | (refine brF ?_ ?_; · (first | exact f3 | exact Bool.and_eq_true_iff.2 ⟨decide_eq_true ⟨rfl, rfl, rfl⟩, decide_eq_true ⟨Nat.one_pos, Nat.le_of_ble_eq_true rfl, by omega⟩⟩ | (simp [*]; done))) | (rw [f5]))

          conv => whnf
          have i0 : i = 0 := by omega
          subst i0
          refine ⟨k - 1, by omega, [2, 5], rfl, rfl, _, rfl, 0 + 1, by omega, .inr (.inl ⟨by omega, by rw [hc1]; rfl, ?_⟩)⟩
          refine ⟨_, ?_, ?_, rfl⟩
          · intro q hq
            have hq3 : q < 3 := by first | exact hq | (rw [VI.C_len] at hq; omega) | (rw [VI.D_nil rfl] at hq; exact hq)
            obtain rfl | rfl | rfl : q = 0 ∨ q = 1 ∨ q = 2 := by omega
            · exact s6 _ (by first | (simp; done) | (simp [z1]; done))
            · exact k1
            · exact f6
          · rw [f2]; rfl
      · have f1 : ¬ (i : Int) < (len : Int) := by omega
        have i0 : i = 0 := by omega
        subst i0
        repeat ((conv => whnf); first | (refine brT ?_ ?_; · (simp [*]; done)) | (refine brF ?_ ?_; · (simp [*]; done)))

        conv => whnf
        refine SWP.turns (envK_ok known6) 40 200 1 ?_
        repeat ((conv => whnf); first | (refine brT ?_ ?_; · (simp [*]; done)) | (refine brF ?_ ?_; · (simp [*]; done)))

        conv => whnf
        refine SWP.turns (envK_ok known6) 40 200 1 ?_
        repeat ((conv => whnf); first | (refine brT ?_ ?_; · (simp [*]; done)) | (refine brF ?_ ?_; · (simp [*]; done)))

        rfl
    · refine SWP.code (envK_ok known6) 40 200 ?_
      by_cases hn : i < len
      · have f1 : (i : Int) < (len : Int) := by omega
        have f4 : i + 1 ≤ 1000000 := by omega
        have f2 : IntKind.i64.wrap ((i : Int) + 1) = ((i + 1 : Nat) : Int) := by rw [wrapI (by omega) (by omega)]; rfl
        have f5 : decide ((0:Int) ≤ (i:Int) ∧ (i:Int) < (len:Int)) = true := decide_eq_true ⟨by omega, by omega⟩
        have f3 : decide (lo ≤ lo + (i : Int).toNat * 1 ∧ lo + (i : Int).toNat * 1 < n) = true := decide_eq_true ⟨by omega, by omega⟩
        have f6 : IntKind.i64.wrap (1000 + (i : Int)) = 1000 + i := wrapI (by omega) (by omega)
        obtain ⟨s1, s2, s3⟩ := zS i hn
        have s4 : IntKind.i64.wrap (S i - 3) = S i - 3 := wrapI (by omega) (by omega)
        have s5 : ∀ q, q = i → IntKind.i64.wrap (IntKind.i64.wrap ((z q).tmod 12) - 3) = S i - 3 := fun q h => by rw [h, s1, s4]
        have s6 : ∀ q, q = i → IntKind.i64.wrap ((z q).tmod 12) = S i := fun q h => by rw [h, s1]
        have g1 : ¬ (i : Int) < (0 : Int) := by omega
        have k1 : (0 : Int) = K i := by rw [← eK i, if_neg (by omega)]
        by_cases hS : 2 < S i
        · have hc1 : VI.cnt S (i + 1) = VI.cnt S i + 1 := by show (if 2 < S i then VI.cnt S i + 1 else VI.cnt S i) = _; rw [if_pos hS]
          have hd1 : VI.D S K (i + 1) = VI.D S K i ++ [K i, S i - 3, 1000 + i] := by show (if 2 < S i then _ else _) = _; rw [if_pos hS]
          repeat ((conv => whnf); first | (refine brT ?_ ?_; · (first | exact f3 | exact Bool.and_eq_true_iff.2 ⟨decide_eq_true ⟨rfl, rfl, rfl⟩, decide_eq_true ⟨Nat.one_pos, Nat.le_of_ble_eq_true rfl, by omega⟩⟩ | (simp [*]; done))) | (refine brF ?_ ?_; · (first | exact f3 | exact Bool.and_eq_true_iff.2 ⟨decide_eq_true ⟨rfl, rfl, rfl⟩, decide_eq_true ⟨Nat.one_pos, Nat.le_of_ble_eq_true rfl, by omega⟩⟩ | (simp [*]; done))) | (rw [f5]))

          conv => whnf
          refine ⟨k - 1, by omega, [2, 6, 8], rfl, rfl, _, rfl, i + 1, by omega, .inr (.inr ⟨by omega, by rw [hc1]; omega, ?_⟩)⟩
          rw [hc1, hd1, hc, VI.D_nil hc]
          refine ⟨_, _, ?_, ?_, ?_, rfl⟩
          · show VI.RowIs _ (VI.C S K i ++ [S i, K i, 1000 + i])
            refine VI.RowIs.snoc (n := i * 3) hf (by rw [VI.C_len]; omega) ?_ ?_ ?_ ?_
            · intro q hq
              show (if q < i * 3 then f q else _) = f q
              exact if_pos hq
            · show (if i * 3 < i * 3 then _ else List.getD _ (0 + (i * 3 - i * 3)) 0) = _
              rw [if_neg (Nat.lt_irrefl _), Nat.sub_self]
              exact s6 _ (by first | (simp; done) | (simp [z1]; done))
            · show (if i * 3 + 1 < i * 3 then _ else List.getD _ (0 + (i * 3 + 1 - i * 3)) 0) = _
              rw [if_neg (by omega), Nat.add_sub_cancel_left]
              exact k1
            · show (if i * 3 + 2 < i * 3 then _ else List.getD _ (0 + (i * 3 + 2 - i * 3)) 0) = _
              rw [if_neg (by omega), Nat.add_sub_cancel_left]
              exact f6
          · intro q hq
            have hq3 : q < 3 := by first | exact hq | (rw [VI.C_len] at hq; omega) | (rw [VI.D_nil rfl] at hq; exact hq)
            obtain rfl | rfl | rfl : q = 0 ∨ q = 1 ∨ q = 2 := by omega
            · exact k1
            · exact s5 _ (by first | (simp; done) | (simp [z1]; done))
            · exact f6
          · rw [f2]; rfl
        · have hc1 : VI.cnt S (i + 1) = VI.cnt S i := by show (if 2 < S i then VI.cnt S i + 1 else VI.cnt S i) = _; rw [if_neg hS]
          have hd1 : VI.D S K (i + 1) = VI.D S K i := by show (if 2 < S i then _ else _) = _; rw [if_neg hS]
          repeat ((conv => whnf); first | (refine brT ?_ ?_; · (first | exact f3 | exact Bool.and_eq_true_iff.2 ⟨decide_eq_true ⟨rfl, rfl, rfl⟩, decide_eq_true ⟨Nat.one_pos, Nat.le_of_ble_eq_true rfl, by omega⟩⟩ | (simp [*]; done))) | (refine brF ?_ ?_; · (first | exact f3 | exact Bool.and_eq_true_iff.2 ⟨decide_eq_true ⟨rfl, rfl, rfl⟩, decide_eq_true ⟨Nat.one_pos, Nat.le_of_ble_eq_true rfl, by omega⟩⟩ | (simp [*]; done))) | (rw [f5]))

          conv => whnf
          refine ⟨k - 1, by omega, [2, 6], rfl, rfl, _, rfl, i + 1, by omega, .inr (.inl ⟨by omega, by rw [hc1]; omega, ?_⟩)⟩
          refine ⟨_, ?_, ?_, rfl⟩
          · show VI.RowIs _ (VI.C S K i ++ [S i, K i, 1000 + i])
            refine VI.RowIs.snoc (n := i * 3) hf (by rw [VI.C_len]; omega) ?_ ?_ ?_ ?_
            · intro q hq
              show (if q < i * 3 then f q else _) = f q
              exact if_pos hq
            · show (if i * 3 < i * 3 then _ else List.getD _ (0 + (i * 3 - i * 3)) 0) = _
              rw [if_neg (Nat.lt_irrefl _), Nat.sub_self]
              exact s6 _ (by first | (simp; done) | (simp [z1]; done))
            · show (if i * 3 + 1 < i * 3 then _ else List.getD _ (0 + (i * 3 + 1 - i * 3)) 0) = _
              rw [if_neg (by omega), Nat.add_sub_cancel_left]
              exact k1
            · show (if i * 3 + 2 < i * 3 then _ else List.getD _ (0 + (i * 3 + 2 - i * 3)) 0) = _
              rw [if_neg (by omega), Nat.add_sub_cancel_left]
              exact f6
          · rw [f2]; rfl
      · have f1 : ¬ (i : Int) < (len : Int) := by omega
        repeat ((conv => whnf); first | (refine brT ?_ ?_; · (simp [*]; done)) | (refine brF ?_ ?_; · (simp [*]; done)))

        conv => whnf
        have i0 : i ≤ len := by omega
        refine SWP.loopS Try.f32.ntmps [3, 8, 9, 10] (VI.J2 (some (false, .ext (.old lo n (intsC .u8 z lo)))) (some (false, .ext (.old lo' n' (intsC .u8 y lo')))) f i) (N := i) [] rfl rfl rfl ⟨0, rfl, rfl, rfl⟩ ?_
        rintro k vs H ⟨j, hj, rfl, rfl⟩
        refine SWP.code (envK_ok known6) 40 200 ?_
        by_cases hl : j < i
        · have f1 : (j : Int) < (i : Int) := by omega
          have f2 : IntKind.i64.wrap ((j : Int) + 1) = ((j + 1 : Nat) : Int) := by rw [wrapI (by omega) (by omega)]; rfl
          have f5 : decide ((0:Int) ≤ (j:Int) ∧ (j:Int) < (i:Int)) = true := decide_eq_true ⟨by omega, by omega⟩
          have f3 : decide (0 ≤ 0 + (j : Int).toNat * 3 ∧ 0 + (j : Int).toNat * 3 + 3 ≤ i * 3) = true := decide_eq_true ⟨by omega, by omega⟩
          obtain ⟨c1, c2, c3⟩ := VI.cell_at hf hl
          have v1 := VI.ver_no (VI.cnt_zero hc hl)
          repeat ((conv => whnf); first | (refine brT ?_ ?_; · (first | exact f3 | (simp [*]; done))) | (refine brF ?_ ?_; · (first | exact f3 | (simp [*]; done))) | (rw [f5]))

          conv => whnf
          exact ⟨k - 1, by omega, [], rfl, rfl, _, rfl, j + 1, by omega, by rw [f2], rfl⟩
        · have f1 : ¬ (j : Int) < (i : Int) := by omega
          repeat ((conv => whnf); first | (refine brT ?_ ?_; · (simp [*]; done)) | (refine brF ?_ ?_; · (simp [*]; done)))

          conv => whnf
          refine SWP.turns (envK_ok known6) 40 200 1 ?_
          repeat ((conv => whnf); first | (refine brT ?_ ?_; · (simp [*]; done)) | (refine brF ?_ ?_; · (simp [*]; done)))

          rfl
    · refine SWP.code (envK_ok known6) 40 200 ?_
      by_cases hn : i < len
      · have f1 : (i : Int) < (len : Int) := by omega
        have f4 : i + 1 ≤ 1000000 := by omega
        have f2 : IntKind.i64.wrap ((i : Int) + 1) = ((i + 1 : Nat) : Int) := by rw [wrapI (by omega) (by omega)]; rfl
        have f5 : decide ((0:Int) ≤ (i:Int) ∧ (i:Int) < (len:Int)) = true := decide_eq_true ⟨by omega, by omega⟩
        have f3 : decide (lo ≤ lo + (i : Int).toNat * 1 ∧ lo + (i : Int).toNat * 1 < n) = true := decide_eq_true ⟨by omega, by omega⟩
        have f6 : IntKind.i64.wrap (1000 + (i : Int)) = 1000 + i := wrapI (by omega) (by omega)
        obtain ⟨s1, s2, s3⟩ := zS i hn
        have s4 : IntKind.i64.wrap (S i - 3) = S i - 3 := wrapI (by omega) (by omega)
        have s5 : ∀ q, q = i → IntKind.i64.wrap (IntKind.i64.wrap ((z q).tmod 12) - 3) = S i - 3 := fun q h => by rw [h, s1, s4]
        have s6 : ∀ q, q = i → IntKind.i64.wrap ((z q).tmod 12) = S i := fun q h => by rw [h, s1]
        have g1 : ¬ (i : Int) < (0 : Int) := by omega
        have k1 : (0 : Int) = K i := by rw [← eK i, if_neg (by omega)]
        by_cases hS : 2 < S i
        · have hc1 : VI.cnt S (i + 1) = VI.cnt S i + 1 := by show (if 2 < S i then VI.cnt S i + 1 else VI.cnt S i) = _; rw [if_pos hS]
          have hd1 : VI.D S K (i + 1) = VI.D S K i ++ [K i, S i - 3, 1000 + i] := by show (if 2 < S i then _ else _) = _; rw [if_pos hS]
          have f7 : VI.cnt S i + 1 ≤ 1000000 := by have := VI.cnt_le S i; omega
          repeat ((conv => whnf); first | (refine brT ?_ ?_; · (first | exact f3 | exact Bool.and_eq_true_iff.2 ⟨decide_eq_true ⟨rfl, rfl, rfl⟩, decide_eq_true ⟨Nat.one_pos, Nat.le_of_ble_eq_true rfl, by omega⟩⟩ | (simp [*]; done))) | (refine brF ?_ ?_; · (first | exact f3 | exact Bool.and_eq_true_iff.2 ⟨decide_eq_true ⟨rfl, rfl, rfl⟩, decide_eq_true ⟨Nat.one_pos, Nat.le_of_ble_eq_true rfl, by omega⟩⟩ | (simp [*]; done))) | (rw [f5]))

          conv => whnf
          refine ⟨k - 1, by omega, [2, 7, 9], rfl, rfl, _, rfl, i + 1, by omega, .inr (.inr ⟨by omega, by rw [hc1]; omega, ?_⟩)⟩
          rw [hc1, hd1]
          refine ⟨_, _, ?_, ?_, ?_, rfl⟩
          · show VI.RowIs _ (VI.C S K i ++ [S i, K i, 1000 + i])
            refine VI.RowIs.snoc (n := i * 3) hf (by rw [VI.C_len]; omega) ?_ ?_ ?_ ?_
            · intro q hq
              show (if q < i * 3 then f q else _) = f q
              exact if_pos hq
            · show (if i * 3 < i * 3 then _ else List.getD _ (0 + (i * 3 - i * 3)) 0) = _
              rw [if_neg (Nat.lt_irrefl _), Nat.sub_self]
              exact s6 _ (by first | (simp; done) | (simp [z1]; done))
            · show (if i * 3 + 1 < i * 3 then _ else List.getD _ (0 + (i * 3 + 1 - i * 3)) 0) = _
              rw [if_neg (by omega), Nat.add_sub_cancel_left]
              exact k1
            · show (if i * 3 + 2 < i * 3 then _ else List.getD _ (0 + (i * 3 + 2 - i * 3)) 0) = _
              rw [if_neg (by omega), Nat.add_sub_cancel_left]
              exact f6
          · refine VI.RowIs.snoc (n := VI.cnt S i * 3) hg (by rw [VI.D_len]; omega) ?_ ?_ ?_ ?_
            · intro q hq
              show (if q < VI.cnt S i * 3 then g q else _) = g q
              exact if_pos hq
            · show (if VI.cnt S i * 3 < VI.cnt S i * 3 then _ else List.getD _ (0 + (VI.cnt S i * 3 - VI.cnt S i * 3)) 0) = _
              rw [if_neg (Nat.lt_irrefl _), Nat.sub_self]
              exact k1
            · show (if VI.cnt S i * 3 + 1 < VI.cnt S i * 3 then _ else List.getD _ (0 + (VI.cnt S i * 3 + 1 - VI.cnt S i * 3)) 0) = _
              rw [if_neg (by omega), Nat.add_sub_cancel_left]
              exact s5 _ (by first | (simp; done) | (simp [z1]; done))
            · show (if VI.cnt S i * 3 + 2 < VI.cnt S i * 3 then _ else List.getD _ (0 + (VI.cnt S i * 3 + 2 - VI.cnt S i * 3)) 0) = _
              rw [if_neg (by omega), Nat.add_sub_cancel_left]
              exact f6
          · rw [f2]; rfl
        · have hc1 : VI.cnt S (i + 1) = VI.cnt S i := by show (if 2 < S i then VI.cnt S i + 1 else VI.cnt S i) = _; rw [if_neg hS]
          have hd1 : VI.D S K (i + 1) = VI.D S K i := by show (if 2 < S i then _ else _) = _; rw [if_neg hS]
          have f7 : VI.cnt S i + 1 ≤ 1000000 := by have := VI.cnt_le S i; omega
          repeat ((conv => whnf); first | (refine brT ?_ ?_; · (first | exact f3 | exact Bool.and_eq_true_iff.2 ⟨decide_eq_true ⟨rfl, rfl, rfl⟩, decide_eq_true ⟨Nat.one_pos, Nat.le_of_ble_eq_true rfl, by omega⟩⟩ | (simp [*]; done))) | (refine brF ?_ ?_; · (first | exact f3 | exact Bool.and_eq_true_iff.2 ⟨decide_eq_true ⟨rfl, rfl, rfl⟩, decide_eq_true ⟨Nat.one_pos, Nat.le_of_ble_eq_true rfl, by omega⟩⟩ | (simp [*]; done))) | (rw [f5]))

          conv => whnf
          refine ⟨k - 1, by omega, [2, 7, 4], rfl, rfl, _, rfl, i + 1, by omega, .inr (.inr ⟨by omega, by rw [hc1]; omega, ?_⟩)⟩
          rw [hc1, hd1]
          refine ⟨_, g, ?_, hg, ?_, rfl⟩
          · show VI.RowIs _ (VI.C S K i ++ [S i, K i, 1000 + i])
            refine VI.RowIs.snoc (n := i * 3) hf (by rw [VI.C_len]; omega) ?_ ?_ ?_ ?_
            · intro q hq
              show (if q < i * 3 then f q else _) = f q
              exact if_pos hq
            · show (if i * 3 < i * 3 then _ else List.getD _ (0 + (i * 3 - i * 3)) 0) = _
              rw [if_neg (Nat.lt_irrefl _), Nat.sub_self]
              exact s6 _ (by first | (simp; done) | (simp [z1]; done))
            · show (if i * 3 + 1 < i * 3 then _ else List.getD _ (0 + (i * 3 + 1 - i * 3)) 0) = _
              rw [if_neg (by omega), Nat.add_sub_cancel_left]
              exact k1
            · show (if i * 3 + 2 < i * 3 then _ else List.getD _ (0 + (i * 3 + 2 - i * 3)) 0) = _
              rw [if_neg (by omega), Nat.add_sub_cancel_left]
              exact f6
          · rw [f2]; rfl
      · have f1 : ¬ (i : Int) < (len : Int) := by omega
        repeat ((conv => whnf); first | (refine brT ?_ ?_; · (simp [*]; done)) | (refine brF ?_ ?_; · (simp [*]; done)))

        conv => whnf
        have i0 : i ≤ len := by omega
        refine SWP.loopS Try.f32.ntmps [3, 8, 9, 10] (VI.J3 (some (false, .ext (.old lo n (intsC .u8 z lo)))) (some (false, .ext (.old lo' n' (intsC .u8 y lo')))) S K f g i) (N := i) [] rfl rfl rfl ⟨0, rfl, .inl ⟨Nat.one_pos, rfl, rfl⟩⟩ ?_
        rintro k vs H ⟨j, hj, ⟨hc0, rfl, rfl⟩ | ⟨hc0, e, he, rfl, rfl⟩⟩
        · refine SWP.code (envK_ok known6) 40 200 ?_
          by_cases hl : j < i
          · have f1 : (j : Int) < (i : Int) := by omega
            have f2 : IntKind.i64.wrap ((j : Int) + 1) = ((j + 1 : Nat) : Int) := by rw [wrapI (by omega) (by omega)]; rfl
            have f5 : decide ((0:Int) ≤ (j:Int) ∧ (j:Int) < (i:Int)) = true := decide_eq_true ⟨by omega, by omega⟩
            have f3 : decide (0 ≤ 0 + (j : Int).toNat * 3 ∧ 0 + (j : Int).toNat * 3 + 3 ≤ i * 3) = true := decide_eq_true ⟨by omega, by omega⟩
            obtain ⟨c1, c2, c3⟩ := VI.cell_at hf hl
            obtain ⟨_, s2, s3⟩ := zS j (by omega)
            by_cases hS : 2 < S j
            · have hc1 : VI.cnt S (j + 1) = VI.cnt S j + 1 := by show (if 2 < S j then VI.cnt S j + 1 else VI.cnt S j) = _; rw [if_pos hS]
              have hd1 : VI.D S K (j + 1) = VI.D S K j ++ [K j, S j - 3, 1000 + j] := by show (if 2 < S j then _ else _) = _; rw [if_pos hS]
              have v1 := VI.ver_is hS s3
              have x1 : ∀ q, q = j * 3 → verW (f q) = S j - 3 := fun q h => by rw [h, c1, v1]
              have x2 : ∀ q, q = j * 3 + 1 → f q = K j := fun q h => by rw [h, c2]
              have x3 : ∀ q, q = j * 3 + 1 + 1 → f q = 1000 + j := fun q h => by rw [h, c3]
              have v2 : ¬ S j < 3 := by omega
              have v3 : 3 ≤ S j := by omega
              have f7 : VI.cnt S j + 1 ≤ 1000000 := by have := VI.cnt_le S j; omega
              repeat ((conv => whnf); first | (refine brT ?_ ?_; · (first | exact f3 | exact Bool.and_eq_true_iff.2 ⟨decide_eq_true ⟨rfl, rfl, rfl⟩, decide_eq_true ⟨Nat.one_pos, Nat.le_of_ble_eq_true rfl, by omega⟩⟩ | (simp [*]; done))) | (refine brF ?_ ?_; · (first | exact f3 | exact Bool.and_eq_true_iff.2 ⟨decide_eq_true ⟨rfl, rfl, rfl⟩, decide_eq_true ⟨Nat.one_pos, Nat.le_of_ble_eq_true rfl, by omega⟩⟩ | (simp [*]; done))) | (rw [f5]))

              conv => whnf
              refine ⟨k - 1, by omega, [7], rfl, rfl, _, rfl, j + 1, by omega, .inr ⟨by rw [hc1]; omega, ?_⟩⟩
              have hz0 : VI.cnt S j = 0 := by omega
              rw [hc1, hd1, hz0, VI.D_nil hz0]
              refine ⟨_, ?_, by rw [f2], rfl⟩
              intro q hq
              have hq3 : q < 3 := hq
              obtain rfl | rfl | rfl : q = 0 ∨ q = 1 ∨ q = 2 := by omega
              · exact x2 _ (by first | (simp; done) | (simp [z3]; done))
              · exact x1 _ (by first | (simp; done) | (simp [z3]; done))
              · exact x3 _ (by first | (simp; done) | (simp [z3]; done))
            · have hc1 : VI.cnt S (j + 1) = VI.cnt S j := by show (if 2 < S j then VI.cnt S j + 1 else VI.cnt S j) = _; rw [if_neg hS]
              have hd1 : VI.D S K (j + 1) = VI.D S K j := by show (if 2 < S j then _ else _) = _; rw [if_neg hS]
              have v1 := VI.ver_no hS
              repeat ((conv => whnf); first | (refine brT ?_ ?_; · (first | exact f3 | (simp [*]; done))) | (refine brF ?_ ?_; · (first | exact f3 | (simp [*]; done))) | (rw [f5]))

              conv => whnf
              exact ⟨k - 1, by omega, [], rfl, rfl, _, rfl, j + 1, by omega, .inl ⟨by rw [hc1]; exact hc0, by rw [f2], rfl⟩⟩
          · have f1 : ¬ (j : Int) < (i : Int) := by omega
            have j0 : j = i := by omega
            rw [j0] at hc0
            omega
        · refine SWP.code (envK_ok known6) 40 200 ?_
          by_cases hl : j < i
          · have f1 : (j : Int) < (i : Int) := by omega
            have f2 : IntKind.i64.wrap ((j : Int) + 1) = ((j + 1 : Nat) : Int) := by rw [wrapI (by omega) (by omega)]; rfl
            have f5 : decide ((0:Int) ≤ (j:Int) ∧ (j:Int) < (i:Int)) = true := decide_eq_true ⟨by omega, by omega⟩
            have f3 : decide (0 ≤ 0 + (j : Int).toNat * 3 ∧ 0 + (j : Int).toNat * 3 + 3 ≤ i * 3) = true := decide_eq_true ⟨by omega, by omega⟩
            obtain ⟨c1, c2, c3⟩ := VI.cell_at hf hl
            obtain ⟨_, s2, s3⟩ := zS j (by omega)
            by_cases hS : 2 < S j
            · have hc1 : VI.cnt S (j + 1) = VI.cnt S j + 1 := by show (if 2 < S j then VI.cnt S j + 1 else VI.cnt S j) = _; rw [if_pos hS]
              have hd1 : VI.D S K (j + 1) = VI.D S K j ++ [K j, S j - 3, 1000 + j] := by show (if 2 < S j then _ else _) = _; rw [if_pos hS]
              have v1 := VI.ver_is hS s3
              have x1 : ∀ q, q = j * 3 → verW (f q) = S j - 3 := fun q h => by rw [h, c1, v1]
              have x2 : ∀ q, q = j * 3 + 1 → f q = K j := fun q h => by rw [h, c2]
              have x3 : ∀ q, q = j * 3 + 1 + 1 → f q = 1000 + j := fun q h => by rw [h, c3]
              have v2 : ¬ S j < 3 := by omega
              have v3 : 3 ≤ S j := by omega
              have f7 : VI.cnt S j + 1 ≤ 1000000 := by have := VI.cnt_le S j; omega
              repeat ((conv => whnf); first | (refine brT ?_ ?_; · (first | exact f3 | exact Bool.and_eq_true_iff.2 ⟨decide_eq_true ⟨rfl, rfl, rfl⟩, decide_eq_true ⟨Nat.one_pos, Nat.le_of_ble_eq_true rfl, by omega⟩⟩ | (simp [*]; done))) | (refine brF ?_ ?_; · (first | exact f3 | exact Bool.and_eq_true_iff.2 ⟨decide_eq_true ⟨rfl, rfl, rfl⟩, decide_eq_true ⟨Nat.one_pos, Nat.le_of_ble_eq_true rfl, by omega⟩⟩ | (simp [*]; done))) | (rw [f5]))

              conv => whnf
              refine ⟨k - 1, by omega, [8], rfl, rfl, _, rfl, j + 1, by omega, .inr ⟨by rw [hc1]; omega, ?_⟩⟩
              rw [hc1, hd1]
              refine ⟨_, ?_, by rw [f2], rfl⟩
              refine VI.RowIs.snoc (n := VI.cnt S j * 3) he (by rw [VI.D_len]; omega) ?_ ?_ ?_ ?_
              · intro q hq
                show (if q < VI.cnt S j * 3 then e q else _) = e q
                exact if_pos hq
              · show (if VI.cnt S j * 3 < VI.cnt S j * 3 then _ else List.getD _ (0 + (VI.cnt S j * 3 - VI.cnt S j * 3)) 0) = _
                rw [if_neg (Nat.lt_irrefl _), Nat.sub_self]
                exact x2 _ (by first | (simp; done) | (simp [z3]; done))
              · show (if VI.cnt S j * 3 + 1 < VI.cnt S j * 3 then _ else List.getD _ (0 + (VI.cnt S j * 3 + 1 - VI.cnt S j * 3)) 0) = _
                rw [if_neg (by omega), Nat.add_sub_cancel_left]
                exact x1 _ (by first | (simp; done) | (simp [z3]; done))
              · show (if VI.cnt S j * 3 + 2 < VI.cnt S j * 3 then _ else List.getD _ (0 + (VI.cnt S j * 3 + 2 - VI.cnt S j * 3)) 0) = _
                rw [if_neg (by omega), Nat.add_sub_cancel_left]
                exact x3 _ (by first | (simp; done) | (simp [z3]; done))
            · have hc1 : VI.cnt S (j + 1) = VI.cnt S j := by show (if 2 < S j then VI.cnt S j + 1 else VI.cnt S j) = _; rw [if_neg hS]
              have hd1 : VI.D S K (j + 1) = VI.D S K j := by show (if 2 < S j then _ else _) = _; rw [if_neg hS]
              have v1 := VI.ver_no hS
              repeat ((conv => whnf); first | (refine brT ?_ ?_; · (first | exact f3 | (simp [*]; done))) | (refine brF ?_ ?_; · (first | exact f3 | (simp [*]; done))) | (rw [f5]))

              conv => whnf
              exact ⟨k - 1, by omega, [5], rfl, rfl, _, rfl, j + 1, by omega, .inr ⟨by rw [hc1]; exact hc0, e, by rw [hd1]; exact he, by rw [hc1, f2], by rw [hc1]; rfl⟩⟩
          · have f1 : ¬ (j : Int) < (i : Int) := by omega
            have j0 : j = i := by omega
            subst j0
            repeat ((conv => whnf); first | (refine brT ?_ ?_; · (simp [*]; done)) | (refine brF ?_ ?_; · (simp [*]; done)))

            conv => whnf
            refine SWP.loopS Try.f31.ntmps [0, 1, 5] (VI.J4 (some (false, .ext (.old lo n (intsC .u8 z lo)))) (some (false, .ext (.old lo' n' (intsC .u8 y lo')))) (VI.Xo (VI.sl 3 j)) f g e j (VI.cnt S j)) (N := VI.cnt S j) [] rfl rfl rfl ⟨0, rfl, rfl, rfl⟩ ?_
            rintro k vs H ⟨q, hq, rfl, rfl⟩
            refine SWP.code (envK_ok known6) 40 200 ?_
            have cl := VI.cnt_le S j
            generalize hcn : VI.cnt S j = cn at *
            by_cases hl : q < cn
            · obtain ⟨a1, a2, a3⟩ := VI.alike he hg (by rw [VI.D_len, hcn]) hl
              have f1 : (q : Int) < (cn : Int) := by omega
              have f2 : IntKind.i64.wrap ((q : Int) + 1) = ((q + 1 : Nat) : Int) := by rw [wrapI (by omega) (by omega)]; rfl
              have f5 : decide ((0:Int) ≤ (q:Int) ∧ (q:Int) < (cn:Int)) = true := decide_eq_true ⟨by omega, by omega⟩
              have f3 : decide (0 ≤ 0 + (q : Int).toNat * 3 ∧ 0 + (q : Int).toNat * 3 + 3 ≤ cn * 3) = true := decide_eq_true ⟨by omega, by omega⟩
              repeat ((conv => whnf); first | (refine brT ?_ ?_; · (first | exact f3 | (simp [*]; done))) | (refine brF ?_ ?_; · (first | exact f3 | (simp [*]; done))) | (rw [f5]))

              conv => whnf
              exact ⟨k - 1, by omega, [], rfl, rfl, _, rfl, q + 1, by omega, by rw [f2], rfl⟩
            · have f1 : ¬ (q : Int) < (cn : Int) := by omega
              repeat ((conv => whnf); first | (refine brT ?_ ?_; · (simp [*]; done)) | (refine brF ?_ ?_; · (simp [*]; done)))

              rfl
  · repeat ((conv => whnf); first | (refine brT ?_ ?_; · (simp [*]; done)) | (refine brF ?_ ?_; · (simp [*]; done)))

    conv => whnf
    refine SWP.loopS Try.f6.ntmps [0, 1, 5, 6, 7] (VI.I (.slice (some ⟨0, lo, none⟩) len cap) (.slice (some ⟨0, 0, some 0⟩) 0 1) (some (false, .ext (.old lo n (intsC .u8 z lo)))) (some (false, .ext (.old lo' n' (intsC .u8 y lo')))) S K len) (N := len) [2] rfl rfl rfl ⟨0, rfl, .inl ⟨Nat.one_pos, rfl, rfl⟩⟩ ?_
    rintro k vs H ⟨i, hk, ⟨hi, rfl, rfl⟩ | ⟨hi, hc, f, hf, rfl, rfl⟩ | ⟨hi, hc, f, g, hf, hg, rfl, rfl⟩⟩
    · refine SWP.code (envK_ok known6) 40 200 ?_
      by_cases hn : i < len
      · have f1 : (i : Int) < (len : Int) := by omega
        have f4 : i + 1 ≤ 1000000 := by omega
        have f2 : IntKind.i64.wrap ((i : Int) + 1) = ((i + 1 : Nat) : Int) := by rw [wrapI (by omega) (by omega)]; rfl
        have f5 : decide ((0:Int) ≤ (i:Int) ∧ (i:Int) < (len:Int)) = true := decide_eq_true ⟨by omega, by omega⟩
        have f3 : decide (lo ≤ lo + (i : Int).toNat * 1 ∧ lo + (i : Int).toNat * 1 < n) = true := decide_eq_true ⟨by omega, by omega⟩
        have f6 : IntKind.i64.wrap (1000 + (i : Int)) = 1000 + i := wrapI (by omega) (by omega)
        obtain ⟨s1, s2, s3⟩ := zS i hn
        have s4 : IntKind.i64.wrap (S i - 3) = S i - 3 := wrapI (by omega) (by omega)
        have s5 : ∀ q, q = i → IntKind.i64.wrap (IntKind.i64.wrap ((z q).tmod 12) - 3) = S i - 3 := fun q h => by rw [h, s1, s4]
        have s6 : ∀ q, q = i → IntKind.i64.wrap ((z q).tmod 12) = S i := fun q h => by rw [h, s1]
        have g1 : ¬ (i : Int) < (0 : Int) := by omega
        have k1 : (0 : Int) = K i := by rw [← eK i, if_neg (by omega)]
        by_cases hS : 2 < S i
        · have hc1 : VI.cnt S (i + 1) = VI.cnt S i + 1 := by show (if 2 < S i then VI.cnt S i + 1 else VI.cnt S i) = _; rw [if_pos hS]
          have hd1 : VI.D S K (i + 1) = VI.D S K i ++ [K i, S i - 3, 1000 + i] := by show (if 2 < S i then _ else _) = _; rw [if_pos hS]
          repeat ((conv => whnf); first | (refine brT ?_ ?_; · (first | exact f3 | exact Bool.and_eq_true_iff.2 ⟨decide_eq_true ⟨rfl, rfl, rfl⟩, decide_eq_true ⟨Nat.one_pos, Nat.le_of_ble_eq_true rfl, by omega⟩⟩ | (simp [*]; done))) | (refine brF ?_ ?_; · (first | exact f3 | exact Bool.and_eq_true_iff.2 ⟨decide_eq_true ⟨rfl, rfl, rfl⟩, decide_eq_true ⟨Nat.one_pos, Nat.le_of_ble_eq_true rfl, by omega⟩⟩ | (simp [*]; done))) | (rw [f5]))

          conv => whnf
          have i0 : i = 0 := by omega
          subst i0
          refine ⟨k - 1, by omega, [2, 5, 7], rfl, rfl, _, rfl, 0 + 1, by omega, .inr (.inr ⟨by omega, by rw [hc1]; exact Nat.succ_pos _, ?_⟩)⟩
          rw [hc1, hd1]
          refine ⟨_, _, ?_, ?_, ?_, rfl⟩
          · intro q hq
            have hq3 : q < 3 := by first | exact hq | (rw [VI.C_len] at hq; omega) | (rw [VI.D_nil rfl] at hq; exact hq)
            obtain rfl | rfl | rfl : q = 0 ∨ q = 1 ∨ q = 2 := by omega
            · exact s6 _ (by first | (simp; done) | (simp [z1]; done))
            · exact k1
            · exact f6
          · intro q hq
            have hq3 : q < 3 := by first | exact hq | (rw [VI.C_len] at hq; omega) | (rw [VI.D_nil rfl] at hq; exact hq)
            obtain rfl | rfl | rfl : q = 0 ∨ q = 1 ∨ q = 2 := by omega
            · exact k1
            · exact s5 _ (by first | (simp; done) | (simp [z1]; done))
            · exact f6
          · rw [f2]; rfl
        · have hc1 : VI.cnt S (i + 1) = VI.cnt S i := by show (if 2 < S i then VI.cnt S i + 1 else VI.cnt S i) = _; rw [if_neg hS]
          have hd1 : VI.D S K (i + 1) = VI.D S K i := by show (if 2 < S i then _ else _) = _; rw [if_neg hS]
          repeat ((conv => whnf); first | (refine brT ?_ ?_; · (first | exact f3 | exact Bool.and_eq_true_iff.2 ⟨decide_eq_true ⟨rfl, rfl, rfl⟩, decide_eq_true ⟨Nat.one_pos, Nat.le_of_ble_eq_true rfl, by omega⟩⟩ | (simp [*]; done))) | (refine brF ?_ ?_; · (first | exact f3 | exact Bool.and_eq_true_iff.2 ⟨decide_eq_true ⟨rfl, rfl, rfl⟩, decide_eq_true ⟨Nat.one_pos, Nat.le_of_ble_eq_true rfl, by omega⟩⟩ | (simp [*]; done))) | (rw [f5]))

          conv => whnf
          have i0 : i = 0 := by omega
          subst i0
          refine ⟨k - 1, by omega, [2, 5], rfl, rfl, _, rfl, 0 + 1, by omega, .inr (.inl ⟨by omega, by rw [hc1]; rfl, ?_⟩)⟩
          refine ⟨_, ?_, ?_, rfl⟩
          · intro q hq
            have hq3 : q < 3 := by first | exact hq | (rw [VI.C_len] at hq; omega) | (rw [VI.D_nil rfl] at hq; exact hq)
            obtain rfl | rfl | rfl : q = 0 ∨ q = 1 ∨ q = 2 := by omega
            · exact s6 _ (by first | (simp; done) | (simp [z1]; done))
            · exact k1
            · exact f6
          · rw [f2]; rfl
      · have f1 : ¬ (i : Int) < (len : Int) := by omega
        have i0 : i = 0 := by omega
        subst i0
        repeat ((conv => whnf); first | (refine brT ?_ ?_; · (simp [*]; done)) | (refine brF ?_ ?_; · (simp [*]; done)))

        conv => whnf
        refine SWP.turns (envK_ok known6) 40 200 1 ?_
        repeat ((conv => whnf); first | (refine brT ?_ ?_; · (simp [*]; done)) | (refine brF ?_ ?_; · (simp [*]; done)))

        conv => whnf
        refine SWP.turns (envK_ok known6) 40 200 1 ?_
        repeat ((conv => whnf); first | (refine brT ?_ ?_; · (simp [*]; done)) | (refine brF ?_ ?_; · (simp [*]; done)))

        rfl
    · refine SWP.code (envK_ok known6) 40 200 ?_
      by_cases hn : i < len
      · have f1 : (i : Int) < (len : Int) := by omega
        have f4 : i + 1 ≤ 1000000 := by omega
        have f2 : IntKind.i64.wrap ((i : Int) + 1) = ((i + 1 : Nat) : Int) := by rw [wrapI (by omega) (by omega)]; rfl
        have f5 : decide ((0:Int) ≤ (i:Int) ∧ (i:Int) < (len:Int)) = true := decide_eq_true ⟨by omega, by omega⟩
        have f3 : decide (lo ≤ lo + (i : Int).toNat * 1 ∧ lo + (i : Int).toNat * 1 < n) = true := decide_eq_true ⟨by omega, by omega⟩
        have f6 : IntKind.i64.wrap (1000 + (i : Int)) = 1000 + i := wrapI (by omega) (by omega)
        obtain ⟨s1, s2, s3⟩ := zS i hn
        have s4 : IntKind.i64.wrap (S i - 3) = S i - 3 := wrapI (by omega) (by omega)
        have s5 : ∀ q, q = i → IntKind.i64.wrap (IntKind.i64.wrap ((z q).tmod 12) - 3) = S i - 3 := fun q h => by rw [h, s1, s4]
        have s6 : ∀ q, q = i → IntKind.i64.wrap ((z q).tmod 12) = S i := fun q h => by rw [h, s1]
        have g1 : ¬ (i : Int) < (0 : Int) := by omega
        have k1 : (0 : Int) = K i := by rw [← eK i, if_neg (by omega)]
        by_cases hS : 2 < S i
        · have hc1 : VI.cnt S (i + 1) = VI.cnt S i + 1 := by show (if 2 < S i then VI.cnt S i + 1 else VI.cnt S i) = _; rw [if_pos hS]
          have hd1 : VI.D S K (i + 1) = VI.D S K i ++ [K i, S i - 3, 1000 + i] := by show (if 2 < S i then _ else _) = _; rw [if_pos hS]
          repeat ((conv => whnf); first | (refine brT ?_ ?_; · (first | exact f3 | exact Bool.and_eq_true_iff.2 ⟨decide_eq_true ⟨rfl, rfl, rfl⟩, decide_eq_true ⟨Nat.one_pos, Nat.le_of_ble_eq_true rfl, by omega⟩⟩ | (simp [*]; done))) | (refine brF ?_ ?_; · (first | exact f3 | exact Bool.and_eq_true_iff.2 ⟨decide_eq_true ⟨rfl, rfl, rfl⟩, decide_eq_true ⟨Nat.one_pos, Nat.le_of_ble_eq_true rfl, by omega⟩⟩ | (simp [*]; done))) | (rw [f5]))

          conv => whnf
          refine ⟨k - 1, by omega, [2, 6, 8], rfl, rfl, _, rfl, i + 1, by omega, .inr (.inr ⟨by omega, by rw [hc1]; omega, ?_⟩)⟩
          rw [hc1, hd1, hc, VI.D_nil hc]
          refine ⟨_, _, ?_, ?_, ?_, rfl⟩
          · show VI.RowIs _ (VI.C S K i ++ [S i, K i, 1000 + i])
            refine VI.RowIs.snoc (n := i * 3) hf (by rw [VI.C_len]; omega) ?_ ?_ ?_ ?_
            · intro q hq
              show (if q < i * 3 then f q else _) = f q
              exact if_pos hq
            · show (if i * 3 < i * 3 then _ else List.getD _ (0 + (i * 3 - i * 3)) 0) = _
              rw [if_neg (Nat.lt_irrefl _), Nat.sub_self]
              exact s6 _ (by first | (simp; done) | (simp [z1]; done))
            · show (if i * 3 + 1 < i * 3 then _ else List.getD _ (0 + (i * 3 + 1 - i * 3)) 0) = _
              rw [if_neg (by omega), Nat.add_sub_cancel_left]
              exact k1
            · show (if i * 3 + 2 < i * 3 then _ else List.getD _ (0 + (i * 3 + 2 - i * 3)) 0) = _
              rw [if_neg (by omega), Nat.add_sub_cancel_left]
              exact f6
          · intro q hq
            have hq3 : q < 3 := by first | exact hq | (rw [VI.C_len] at hq; omega) | (rw [VI.D_nil rfl] at hq; exact hq)
            obtain rfl | rfl | rfl : q = 0 ∨ q = 1 ∨ q = 2 := by omega
            · exact k1
            · exact s5 _ (by first | (simp; done) | (simp [z1]; done))
            · exact f6
          · rw [f2]; rfl
        · have hc1 : VI.cnt S (i + 1) = VI.cnt S i := by show (if 2 < S i then VI.cnt S i + 1 else VI.cnt S i) = _; rw [if_neg hS]
          have hd1 : VI.D S K (i + 1) = VI.D S K i := by show (if 2 < S i then _ else _) = _; rw [if_neg hS]
          repeat ((conv => whnf); first | (refine brT ?_ ?_; · (first | exact f3 | exact Bool.and_eq_true_iff.2 ⟨decide_eq_true ⟨rfl, rfl, rfl⟩, decide_eq_true ⟨Nat.one_pos, Nat.le_of_ble_eq_true rfl, by omega⟩⟩ | (simp [*]; done))) | (refine brF ?_ ?_; · (first | exact f3 | exact Bool.and_eq_true_iff.2 ⟨decide_eq_true ⟨rfl, rfl, rfl⟩, decide_eq_true ⟨Nat.one_pos, Nat.le_of_ble_eq_true rfl, by omega⟩⟩ | (simp [*]; done))) | (rw [f5]))

          conv => whnf
          refine ⟨k - 1, by omega, [2, 6], rfl, rfl, _, rfl, i + 1, by omega, .inr (.inl ⟨by omega, by rw [hc1]; omega, ?_⟩)⟩
          refine ⟨_, ?_, ?_, rfl⟩
          · show VI.RowIs _ (VI.C S K i ++ [S i, K i, 1000 + i])
            refine VI.RowIs.snoc (n := i * 3) hf (by rw [VI.C_len]; omega) ?_ ?_ ?_ ?_
            · intro q hq
              show (if q < i * 3 then f q else _) = f q
              exact if_pos hq
            · show (if i * 3 < i * 3 then _ else List.getD _ (0 + (i * 3 - i * 3)) 0) = _
              rw [if_neg (Nat.lt_irrefl _), Nat.sub_self]
              exact s6 _ (by first | (simp; done) | (simp [z1]; done))
            · show (if i * 3 + 1 < i * 3 then _ else List.getD _ (0 + (i * 3 + 1 - i * 3)) 0) = _
              rw [if_neg (by omega), Nat.add_sub_cancel_left]
              exact k1
            · show (if i * 3 + 2 < i * 3 then _ else List.getD _ (0 + (i * 3 + 2 - i * 3)) 0) = _
              rw [if_neg (by omega), Nat.add_sub_cancel_left]
              exact f6
          · rw [f2]; rfl
      · have f1 : ¬ (i : Int) < (len : Int) := by omega
        repeat ((conv => whnf); first | (refine brT ?_ ?_; · (simp [*]; done)) | (refine brF ?_ ?_; · (simp [*]; done)))

        conv => whnf
        have i0 : i ≤ len := by omega
        refine SWP.loopS Try.f32.ntmps [3, 8, 9, 10] (VI.J2 (some (false, .ext (.old lo n (intsC .u8 z lo)))) (some (false, .ext (.old lo' n' (intsC .u8 y lo')))) f i) (N := i) [] rfl rfl rfl ⟨0, rfl, rfl, rfl⟩ ?_
        rintro k vs H ⟨j, hj, rfl, rfl⟩
        refine SWP.code (envK_ok known6) 40 200 ?_
        by_cases hl : j < i
        · have f1 : (j : Int) < (i : Int) := by omega
          have f2 : IntKind.i64.wrap ((j : Int) + 1) = ((j + 1 : Nat) : Int) := by rw [wrapI (by omega) (by omega)]; rfl
          have f5 : decide ((0:Int) ≤ (j:Int) ∧ (j:Int) < (i:Int)) = true := decide_eq_true ⟨by omega, by omega⟩
          have f3 : decide (0 ≤ 0 + (j : Int).toNat * 3 ∧ 0 + (j : Int).toNat * 3 + 3 ≤ i * 3) = true := decide_eq_true ⟨by omega, by omega⟩
          obtain ⟨c1, c2, c3⟩ := VI.cell_at hf hl
          have v1 := VI.ver_no (VI.cnt_zero hc hl)
          repeat ((conv => whnf); first | (refine brT ?_ ?_; · (first | exact f3 | (simp [*]; done))) | (refine brF ?_ ?_; · (first | exact f3 | (simp [*]; done))) | (rw [f5]))

          conv => whnf
          exact ⟨k - 1, by omega, [], rfl, rfl, _, rfl, j + 1, by omega, by rw [f2], rfl⟩
        · have f1 : ¬ (j : Int) < (i : Int) := by omega
          repeat ((conv => whnf); first | (refine brT ?_ ?_; · (simp [*]; done)) | (refine brF ?_ ?_; · (simp [*]; done)))

          conv => whnf
          refine SWP.turns (envK_ok known6) 40 200 1 ?_
          repeat ((conv => whnf); first | (refine brT ?_ ?_; · (simp [*]; done)) | (refine brF ?_ ?_; · (simp [*]; done)))

          rfl
    · refine SWP.code (envK_ok known6) 40 200 ?_
      by_cases hn : i < len
      · have f1 : (i : Int) < (len : Int) := by omega
        have f4 : i + 1 ≤ 1000000 := by omega
        have f2 : IntKind.i64.wrap ((i : Int) + 1) = ((i + 1 : Nat) : Int) := by rw [wrapI (by omega) (by omega)]; rfl
        have f5 : decide ((0:Int) ≤ (i:Int) ∧ (i:Int) < (len:Int)) = true := decide_eq_true ⟨by omega, by omega⟩
        have f3 : decide (lo ≤ lo + (i : Int).toNat * 1 ∧ lo + (i : Int).toNat * 1 < n) = true := decide_eq_true ⟨by omega, by omega⟩
        have f6 : IntKind.i64.wrap (1000 + (i : Int)) = 1000 + i := wrapI (by omega) (by omega)
        obtain ⟨s1, s2, s3⟩ := zS i hn
        have s4 : IntKind.i64.wrap (S i - 3) = S i - 3 := wrapI (by omega) (by omega)
        have s5 : ∀ q, q = i → IntKind.i64.wrap (IntKind.i64.wrap ((z q).tmod 12) - 3) = S i - 3 := fun q h => by rw [h, s1, s4]
        have s6 : ∀ q, q = i → IntKind.i64.wrap ((z q).tmod 12) = S i := fun q h => by rw [h, s1]
        have g1 : ¬ (i : Int) < (0 : Int) := by omega
        have k1 : (0 : Int) = K i := by rw [← eK i, if_neg (by omega)]
        by_cases hS : 2 < S i
        · have hc1 : VI.cnt S (i + 1) = VI.cnt S i + 1 := by show (if 2 < S i then VI.cnt S i + 1 else VI.cnt S i) = _; rw [if_pos hS]
          have hd1 : VI.D S K (i + 1) = VI.D S K i ++ [K i, S i - 3, 1000 + i] := by show (if 2 < S i then _ else _) = _; rw [if_pos hS]
          have f7 : VI.cnt S i + 1 ≤ 1000000 := by have := VI.cnt_le S i; omega
          repeat ((conv => whnf); first | (refine brT ?_ ?_; · (first | exact f3 | exact Bool.and_eq_true_iff.2 ⟨decide_eq_true ⟨rfl, rfl, rfl⟩, decide_eq_true ⟨Nat.one_pos, Nat.le_of_ble_eq_true rfl, by omega⟩⟩ | (simp [*]; done))) | (refine brF ?_ ?_; · (first | exact f3 | exact Bool.and_eq_true_iff.2 ⟨decide_eq_true ⟨rfl, rfl, rfl⟩, decide_eq_true ⟨Nat.one_pos, Nat.le_of_ble_eq_true rfl, by omega⟩⟩ | (simp [*]; done))) | (rw [f5]))

          conv => whnf
          refine ⟨k - 1, by omega, [2, 7, 9], rfl, rfl, _, rfl, i + 1, by omega, .inr (.inr ⟨by omega, by rw [hc1]; omega, ?_⟩)⟩
          rw [hc1, hd1]
          refine ⟨_, _, ?_, ?_, ?_, rfl⟩
          · show VI.RowIs _ (VI.C S K i ++ [S i, K i, 1000 + i])
            refine VI.RowIs.snoc (n := i * 3) hf (by rw [VI.C_len]; omega) ?_ ?_ ?_ ?_
            · intro q hq
              show (if q < i * 3 then f q else _) = f q
              exact if_pos hq
            · show (if i * 3 < i * 3 then _ else List.getD _ (0 + (i * 3 - i * 3)) 0) = _
              rw [if_neg (Nat.lt_irrefl _), Nat.sub_self]
              exact s6 _ (by first | (simp; done) | (simp [z1]; done))
            · show (if i * 3 + 1 < i * 3 then _ else List.getD _ (0 + (i * 3 + 1 - i * 3)) 0) = _
              rw [if_neg (by omega), Nat.add_sub_cancel_left]
              exact k1
            · show (if i * 3 + 2 < i * 3 then _ else List.getD _ (0 + (i * 3 + 2 - i * 3)) 0) = _
              rw [if_neg (by omega), Nat.add_sub_cancel_left]
              exact f6
          · refine VI.RowIs.snoc (n := VI.cnt S i * 3) hg (by rw [VI.D_len]; omega) ?_ ?_ ?_ ?_
            · intro q hq
              show (if q < VI.cnt S i * 3 then g q else _) = g q
              exact if_pos hq
            · show (if VI.cnt S i * 3 < VI.cnt S i * 3 then _ else List.getD _ (0 + (VI.cnt S i * 3 - VI.cnt S i * 3)) 0) = _
              rw [if_neg (Nat.lt_irrefl _), Nat.sub_self]
              exact k1
            · show (if VI.cnt S i * 3 + 1 < VI.cnt S i * 3 then _ else List.getD _ (0 + (VI.cnt S i * 3 + 1 - VI.cnt S i * 3)) 0) = _
              rw [if_neg (by omega), Nat.add_sub_cancel_left]
              exact s5 _ (by first | (simp; done) | (simp [z1]; done))
            · show (if VI.cnt S i * 3 + 2 < VI.cnt S i * 3 then _ else List.getD _ (0 + (VI.cnt S i * 3 + 2 - VI.cnt S i * 3)) 0) = _
              rw [if_neg (by omega), Nat.add_sub_cancel_left]
              exact f6
          · rw [f2]; rfl
        · have hc1 : VI.cnt S (i + 1) = VI.cnt S i := by show (if 2 < S i then VI.cnt S i + 1 else VI.cnt S i) = _; rw [if_neg hS]
          have hd1 : VI.D S K (i + 1) = VI.D S K i := by show (if 2 < S i then _ else _) = _; rw [if_neg hS]
          have f7 : VI.cnt S i + 1 ≤ 1000000 := by have := VI.cnt_le S i; omega
          repeat ((conv => whnf); first | (refine brT ?_ ?_; · (first | exact f3 | exact Bool.and_eq_true_iff.2 ⟨decide_eq_true ⟨rfl, rfl, rfl⟩, decide_eq_true ⟨Nat.one_pos, Nat.le_of_ble_eq_true rfl, by omega⟩⟩ | (simp [*]; done))) | (refine brF ?_ ?_; · (first | exact f3 | exact Bool.and_eq_true_iff.2 ⟨decide_eq_true ⟨rfl, rfl, rfl⟩, decide_eq_true ⟨Nat.one_pos, Nat.le_of_ble_eq_true rfl, by omega⟩⟩ | (simp [*]; done))) | (rw [f5]))

          conv => whnf
          refine ⟨k - 1, by omega, [2, 7, 4], rfl, rfl, _, rfl, i + 1, by omega, .inr (.inr ⟨by omega, by rw [hc1]; omega, ?_⟩)⟩
          rw [hc1, hd1]
          refine ⟨_, g, ?_, hg, ?_, rfl⟩
          · show VI.RowIs _ (VI.C S K i ++ [S i, K i, 1000 + i])
            refine VI.RowIs.snoc (n := i * 3) hf (by rw [VI.C_len]; omega) ?_ ?_ ?_ ?_
            · intro q hq
              show (if q < i * 3 then f q else _) = f q
              exact if_pos hq
            · show (if i * 3 < i * 3 then _ else List.getD _ (0 + (i * 3 - i * 3)) 0) = _
              rw [if_neg (Nat.lt_irrefl _), Nat.sub_self]
              exact s6 _ (by first | (simp; done) | (simp [z1]; done))
            · show (if i * 3 + 1 < i * 3 then _ else List.getD _ (0 + (i * 3 + 1 - i * 3)) 0) = _
              rw [if_neg (by omega), Nat.add_sub_cancel_left]
              exact k1
            · show (if i * 3 + 2 < i * 3 then _ else List.getD _ (0 + (i * 3 + 2 - i * 3)) 0) = _
              rw [if_neg (by omega), Nat.add_sub_cancel_left]
              exact f6
          · rw [f2]; rfl
      · have f1 : ¬ (i : Int) < (len : Int) := by omega
        repeat ((conv => whnf); first | (refine brT ?_ ?_; · (simp [*]; done)) | (refine brF ?_ ?_; · (simp [*]; done)))

        conv => whnf
        have i0 : i ≤ len := by omega
        refine SWP.loopS Try.f32.ntmps [3, 8, 9, 10] (VI.J3 (some (false, .ext (.old lo n (intsC .u8 z lo)))) (some (false, .ext (.old lo' n' (intsC .u8 y lo')))) S K f g i) (N := i) [] rfl rfl rfl ⟨0, rfl, .inl ⟨Nat.one_pos, rfl, rfl⟩⟩ ?_
        rintro k vs H ⟨j, hj, ⟨hc0, rfl, rfl⟩ | ⟨hc0, e, he, rfl, rfl⟩⟩
        · refine SWP.code (envK_ok known6) 40 200 ?_
          by_cases hl : j < i
          · have f1 : (j : Int) < (i : Int) := by omega
            have f2 : IntKind.i64.wrap ((j : Int) + 1) = ((j + 1 : Nat) : Int) := by rw [wrapI (by omega) (by omega)]; rfl
            have f5 : decide ((0:Int) ≤ (j:Int) ∧ (j:Int) < (i:Int)) = true := decide_eq_true ⟨by omega, by omega⟩
            have f3 : decide (0 ≤ 0 + (j : Int).toNat * 3 ∧ 0 + (j : Int).toNat * 3 + 3 ≤ i * 3) = true := decide_eq_true ⟨by omega, by omega⟩
            obtain ⟨c1, c2, c3⟩ := VI.cell_at hf hl
            obtain ⟨_, s2, s3⟩ := zS j (by omega)
            by_cases hS : 2 < S j
            · have hc1 : VI.cnt S (j + 1) = VI.cnt S j + 1 := by show (if 2 < S j then VI.cnt S j + 1 else VI.cnt S j) = _; rw [if_pos hS]
              have hd1 : VI.D S K (j + 1) = VI.D S K j ++ [K j, S j - 3, 1000 + j] := by show (if 2 < S j then _ else _) = _; rw [if_pos hS]
              have v1 := VI.ver_is hS s3
              have x1 : ∀ q, q = j * 3 → verW (f q) = S j - 3 := fun q h => by rw [h, c1, v1]
              have x2 : ∀ q, q = j * 3 + 1 → f q = K j := fun q h => by rw [h, c2]
              have x3 : ∀ q, q = j * 3 + 1 + 1 → f q = 1000 + j := fun q h => by rw [h, c3]
              have v2 : ¬ S j < 3 := by omega
              have v3 : 3 ≤ S j := by omega
              have f7 : VI.cnt S j + 1 ≤ 1000000 := by have := VI.cnt_le S j; omega
              repeat ((conv => whnf); first | (refine brT ?_ ?_; · (first | exact f3 | exact Bool.and_eq_true_iff.2 ⟨decide_eq_true ⟨rfl, rfl, rfl⟩, decide_eq_true ⟨Nat.one_pos, Nat.le_of_ble_eq_true rfl, by omega⟩⟩ | (simp [*]; done))) | (refine brF ?_ ?_; · (first | exact f3 | exact Bool.and_eq_true_iff.2 ⟨decide_eq_true ⟨rfl, rfl, rfl⟩, decide_eq_true ⟨Nat.one_pos, Nat.le_of_ble_eq_true rfl, by omega⟩⟩ | (simp [*]; done))) | (rw [f5]))

              conv => whnf
              refine ⟨k - 1, by omega, [7], rfl, rfl, _, rfl, j + 1, by omega, .inr ⟨by rw [hc1]; omega, ?_⟩⟩
              have hz0 : VI.cnt S j = 0 := by omega
              rw [hc1, hd1, hz0, VI.D_nil hz0]
              refine ⟨_, ?_, by rw [f2], rfl⟩
              intro q hq
              have hq3 : q < 3 := hq
              obtain rfl | rfl | rfl : q = 0 ∨ q = 1 ∨ q = 2 := by omega
              · exact x2 _ (by first | (simp; done) | (simp [z3]; done))
              · exact x1 _ (by first | (simp; done) | (simp [z3]; done))
              · exact x3 _ (by first | (simp; done) | (simp [z3]; done))
            · have hc1 : VI.cnt S (j + 1) = VI.cnt S j := by show (if 2 < S j then VI.cnt S j + 1 else VI.cnt S j) = _; rw [if_neg hS]
              have hd1 : VI.D S K (j + 1) = VI.D S K j := by show (if 2 < S j then _ else _) = _; rw [if_neg hS]
              have v1 := VI.ver_no hS
              repeat ((conv => whnf); first | (refine brT ?_ ?_; · (first | exact f3 | (simp [*]; done))) | (refine brF ?_ ?_; · (first | exact f3 | (simp [*]; done))) | (rw [f5]))

              conv => whnf
              exact ⟨k - 1, by omega, [], rfl, rfl, _, rfl, j + 1, by omega, .inl ⟨by rw [hc1]; exact hc0, by rw [f2], rfl⟩⟩
          · have f1 : ¬ (j : Int) < (i : Int) := by omega
            have j0 : j = i := by omega
            rw [j0] at hc0
            omega
        · refine SWP.code (envK_ok known6) 40 200 ?_
          by_cases hl : j < i
          · have f1 : (j : Int) < (i : Int) := by omega
            have f2 : IntKind.i64.wrap ((j : Int) + 1) = ((j + 1 : Nat) : Int) := by rw [wrapI (by omega) (by omega)]; rfl
            have f5 : decide ((0:Int) ≤ (j:Int) ∧ (j:Int) < (i:Int)) = true := decide_eq_true ⟨by omega, by omega⟩
            have f3 : decide (0 ≤ 0 + (j : Int).toNat * 3 ∧ 0 + (j : Int).toNat * 3 + 3 ≤ i * 3) = true := decide_eq_true ⟨by omega, by omega⟩
            obtain ⟨c1, c2, c3⟩ := VI.cell_at hf hl
            obtain ⟨_, s2, s3⟩ := zS j (by omega)
            by_cases hS : 2 < S j
            · have hc1 : VI.cnt S (j + 1) = VI.cnt S j + 1 := by show (if 2 < S j then VI.cnt S j + 1 else VI.cnt S j) = _; rw [if_pos hS]
              have hd1 : VI.D S K (j + 1) = VI.D S K j ++ [K j, S j - 3, 1000 + j] := by show (if 2 < S j then _ else _) = _; rw [if_pos hS]
              have v1 := VI.ver_is hS s3
              have x1 : ∀ q, q = j * 3 → verW (f q) = S j - 3 := fun q h => by rw [h, c1, v1]
              have x2 : ∀ q, q = j * 3 + 1 → f q = K j := fun q h => by rw [h, c2]
              have x3 : ∀ q, q = j * 3 + 1 + 1 → f q = 1000 + j := fun q h => by rw [h, c3]
              have v2 : ¬ S j < 3 := by omega
              have v3 : 3 ≤ S j := by omega
              have f7 : VI.cnt S j + 1 ≤ 1000000 := by have := VI.cnt_le S j; omega
              repeat ((conv => whnf); first | (refine brT ?_ ?_; · (first | exact f3 | exact Bool.and_eq_true_iff.2 ⟨decide_eq_true ⟨rfl, rfl, rfl⟩, decide_eq_true ⟨Nat.one_pos, Nat.le_of_ble_eq_true rfl, by omega⟩⟩ | (simp [*]; done))) | (refine brF ?_ ?_; · (first | exact f3 | exact Bool.and_eq_true_iff.2 ⟨decide_eq_true ⟨rfl, rfl, rfl⟩, decide_eq_true ⟨Nat.one_pos, Nat.le_of_ble_eq_true rfl, by omega⟩⟩ | (simp [*]; done))) | (rw [f5]))

              conv => whnf
              refine ⟨k - 1, by omega, [8], rfl, rfl, _, rfl, j + 1, by omega, .inr ⟨by rw [hc1]; omega, ?_⟩⟩
              rw [hc1, hd1]
              refine ⟨_, ?_, by rw [f2], rfl⟩
              refine VI.RowIs.snoc (n := VI.cnt S j * 3) he (by rw [VI.D_len]; omega) ?_ ?_ ?_ ?_
              · intro q hq
                show (if q < VI.cnt S j * 3 then e q else _) = e q
                exact if_pos hq
              · show (if VI.cnt S j * 3 < VI.cnt S j * 3 then _ else List.getD _ (0 + (VI.cnt S j * 3 - VI.cnt S j * 3)) 0) = _
                rw [if_neg (Nat.lt_irrefl _), Nat.sub_self]
                exact x2 _ (by first | (simp; done) | (simp [z3]; done))
              · show (if VI.cnt S j * 3 + 1 < VI.cnt S j * 3 then _ else List.getD _ (0 + (VI.cnt S j * 3 + 1 - VI.cnt S j * 3)) 0) = _
                rw [if_neg (by omega), Nat.add_sub_cancel_left]
                exact x1 _ (by first | (simp; done) | (simp [z3]; done))
              · show (if VI.cnt S j * 3 + 2 < VI.cnt S j * 3 then _ else List.getD _ (0 + (VI.cnt S j * 3 + 2 - VI.cnt S j * 3)) 0) = _
                rw [if_neg (by omega), Nat.add_sub_cancel_left]
                exact x3 _ (by first | (simp; done) | (simp [z3]; done))
            · have hc1 : VI.cnt S (j + 1) = VI.cnt S j := by show (if 2 < S j then VI.cnt S j + 1 else VI.cnt S j) = _; rw [if_neg hS]
              have hd1 : VI.D S K (j + 1) = VI.D S K j := by show (if 2 < S j then _ else _) = _; rw [if_neg hS]
              have v1 := VI.ver_no hS
              repeat ((conv => whnf); first | (refine brT ?_ ?_; · (first | exact f3 | (simp [*]; done))) | (refine brF ?_ ?_; · (first | exact f3 | (simp [*]; done))) | (rw [f5]))

              conv => whnf
              exact ⟨k - 1, by omega, [5], rfl, rfl, _, rfl, j + 1, by omega, .inr ⟨by rw [hc1]; exact hc0, e, by rw [hd1]; exact he, by rw [hc1, f2], by rw [hc1]; rfl⟩⟩
          · have f1 : ¬ (j : Int) < (i : Int) := by omega
            have j0 : j = i := by omega
            subst j0
            repeat ((conv => whnf); first | (refine brT ?_ ?_; · (simp [*]; done)) | (refine brF ?_ ?_; · (simp [*]; done)))

            conv => whnf
            refine SWP.loopS Try.f31.ntmps [0, 1, 5] (VI.J4 (some (false, .ext (.old lo n (intsC .u8 z lo)))) (some (false, .ext (.old lo' n' (intsC .u8 y lo')))) (VI.Xo (VI.sl 3 j)) f g e j (VI.cnt S j)) (N := VI.cnt S j) [] rfl rfl rfl ⟨0, rfl, rfl, rfl⟩ ?_
            rintro k vs H ⟨q, hq, rfl, rfl⟩
            refine SWP.code (envK_ok known6) 40 200 ?_
            have cl := VI.cnt_le S j
            generalize hcn : VI.cnt S j = cn at *
            by_cases hl : q < cn
            · obtain ⟨a1, a2, a3⟩ := VI.alike he hg (by rw [VI.D_len, hcn]) hl
              have f1 : (q : Int) < (cn : Int) := by omega
              have f2 : IntKind.i64.wrap ((q : Int) + 1) = ((q + 1 : Nat) : Int) := by rw [wrapI (by omega) (by omega)]; rfl
              have f5 : decide ((0:Int) ≤ (q:Int) ∧ (q:Int) < (cn:Int)) = true := decide_eq_true ⟨by omega, by omega⟩
              have f3 : decide (0 ≤ 0 + (q : Int).toNat * 3 ∧ 0 + (q : Int).toNat * 3 + 3 ≤ cn * 3) = true := decide_eq_true ⟨by omega, by omega⟩
              repeat ((conv => whnf); first | (refine brT ?_ ?_; · (first | exact f3 | (simp [*]; done))) | (refine brF ?_ ?_; · (first | exact f3 | (simp [*]; done))) | (rw [f5]))

              conv => whnf
              exact ⟨k - 1, by omega, [], rfl, rfl, _, rfl, q + 1, by omega, by rw [f2], rfl⟩
            · have f1 : ¬ (q : Int) < (cn : Int) := by omega
              repeat ((conv => whnf); first | (refine brT ?_ ?_; · (simp [*]; done)) | (refine brF ?_ ?_; · (simp [*]; done)))

              rfl
  · simp only at hn' hlen'
    repeat ((conv => whnf); first | (refine brT ?_ ?_; · (simp [*]; done)) | (refine brF ?_ ?_; · (simp [*]; done)))

    conv => whnf
    refine SWP.loopS Try.f6.ntmps [0, 1, 5, 6, 7] (VI.I (.slice (some ⟨0, lo, none⟩) len cap) (.slice (some ⟨1, lo', none⟩) len' cap') (some (false, .ext (.old lo n (intsC .u8 z lo)))) (some (false, .ext (.old lo' n' (intsC .u8 y lo')))) S K len) (N := len) [2] rfl rfl rfl ⟨0, rfl, .inl ⟨Nat.one_pos, rfl, rfl⟩⟩ ?_
    rintro k vs H ⟨i, hk, ⟨hi, rfl, rfl⟩ | ⟨hi, hc, f, hf, rfl, rfl⟩ | ⟨hi, hc, f, g, hf, hg, rfl, rfl⟩⟩
    · refine SWP.code (envK_ok known6) 40 200 ?_
      by_cases hn : i < len
      · have f1 : (i : Int) < (len : Int) := by omega
        have f4 : i + 1 ≤ 1000000 := by omega
        have f2 : IntKind.i64.wrap ((i : Int) + 1) = ((i + 1 : Nat) : Int) := by rw [wrapI (by omega) (by omega)]; rfl
        have f5 : decide ((0:Int) ≤ (i:Int) ∧ (i:Int) < (len:Int)) = true := decide_eq_true ⟨by omega, by omega⟩
        have f3 : decide (lo ≤ lo + (i : Int).toNat * 1 ∧ lo + (i : Int).toNat * 1 < n) = true := decide_eq_true ⟨by omega, by omega⟩
        have f6 : IntKind.i64.wrap (1000 + (i : Int)) = 1000 + i := wrapI (by omega) (by omega)
        obtain ⟨s1, s2, s3⟩ := zS i hn
        have s4 : IntKind.i64.wrap (S i - 3) = S i - 3 := wrapI (by omega) (by omega)
        have s5 : ∀ q, q = i → IntKind.i64.wrap (IntKind.i64.wrap ((z q).tmod 12) - 3) = S i - 3 := fun q h => by rw [h, s1, s4]
        have s6 : ∀ q, q = i → IntKind.i64.wrap ((z q).tmod 12) = S i := fun q h => by rw [h, s1]
        by_cases hl : i < len'
        · have hl0 := hl
          have g1 : (i : Int) < (len' : Int) := by omega
          have g5 : decide ((0:Int) ≤ (i:Int) ∧ (i:Int) < (len':Int)) = true := decide_eq_true ⟨by omega, by omega⟩
          have g3 : decide (lo' ≤ lo' + (i : Int).toNat * 1 ∧ lo' + (i : Int).toNat * 1 < n') = true := decide_eq_true ⟨by omega, by omega⟩
          have k1 : ∀ q, q = i → IntKind.i64.wrap ((y q).tmod 64) = K i := fun q h => by rw [h, ← eK i, if_pos hl, tmodI (hy i hl), wrapI (by omega) (by omega)]
          by_cases hS : 2 < S i
          · have hc1 : VI.cnt S (i + 1) = VI.cnt S i + 1 := by show (if 2 < S i then VI.cnt S i + 1 else VI.cnt S i) = _; rw [if_pos hS]
            have hd1 : VI.D S K (i + 1) = VI.D S K i ++ [K i, S i - 3, 1000 + i] := by show (if 2 < S i then _ else _) = _; rw [if_pos hS]
            repeat ((conv => whnf); first | (refine brT ?_ ?_; · (first | exact f3 | exact g3 | exact Bool.and_eq_true_iff.2 ⟨decide_eq_true ⟨rfl, rfl, rfl⟩, decide_eq_true ⟨Nat.one_pos, Nat.le_of_ble_eq_true rfl, by omega⟩⟩ | (simp [*]; done))) | (refine brF ?_ ?_; · (first | exact f3 | exact g3 | exact Bool.and_eq_true_iff.2 ⟨decide_eq_true ⟨rfl, rfl, rfl⟩, decide_eq_true ⟨Nat.one_pos, Nat.le_of_ble_eq_true rfl, by omega⟩⟩ | (simp [*]; done))) | (rw [f5]) | (rw [g5]))

            conv => whnf
            have i0 : i = 0 := by omega
            subst i0
            refine ⟨k - 1, by omega, [2, 5, 7], rfl, rfl, _, rfl, 0 + 1, by omega, .inr (.inr ⟨by omega, by rw [hc1]; exact Nat.succ_pos _, ?_⟩)⟩
            rw [hc1, hd1]
            refine ⟨_, _, ?_, ?_, ?_, rfl⟩
            · intro q hq
              have hq3 : q < 3 := by first | exact hq | (rw [VI.C_len] at hq; omega) | (rw [VI.D_nil rfl] at hq; exact hq)
              obtain rfl | rfl | rfl : q = 0 ∨ q = 1 ∨ q = 2 := by omega
              · exact s6 _ (by first | (simp; done) | (simp [z1]; done))
              · exact (k1 _ (by first | (simp; done) | (simp [z1]; done)))
              · exact f6
            · intro q hq
              have hq3 : q < 3 := by first | exact hq | (rw [VI.C_len] at hq; omega) | (rw [VI.D_nil rfl] at hq; exact hq)
              obtain rfl | rfl | rfl : q = 0 ∨ q = 1 ∨ q = 2 := by omega
              · exact (k1 _ (by first | (simp; done) | (simp [z1]; done)))
              · exact s5 _ (by first | (simp; done) | (simp [z1]; done))
              · exact f6
            · rw [f2]; rfl
          · have hc1 : VI.cnt S (i + 1) = VI.cnt S i := by show (if 2 < S i then VI.cnt S i + 1 else VI.cnt S i) = _; rw [if_neg hS]
            have hd1 : VI.D S K (i + 1) = VI.D S K i := by show (if 2 < S i then _ else _) = _; rw [if_neg hS]
            repeat ((conv => whnf); first | (refine brT ?_ ?_; · (first | exact f3 | exact g3 | exact Bool.and_eq_true_iff.2 ⟨decide_eq_true ⟨rfl, rfl, rfl⟩, decide_eq_true ⟨Nat.one_pos, Nat.le_of_ble_eq_true rfl, by omega⟩⟩ | (simp [*]; done))) | (refine brF ?_ ?_; · (first | exact f3 | exact g3 | exact Bool.and_eq_true_iff.2 ⟨decide_eq_true ⟨rfl, rfl, rfl⟩, decide_eq_true ⟨Nat.one_pos, Nat.le_of_ble_eq_true rfl, by omega⟩⟩ | (simp [*]; done))) | (rw [f5]) | (rw [g5]))

            conv => whnf
            have i0 : i = 0 := by omega
            subst i0
            refine ⟨k - 1, by omega, [2, 5], rfl, rfl, _, rfl, 0 + 1, by omega, .inr (.inl ⟨by omega, by rw [hc1]; rfl, ?_⟩)⟩
            refine ⟨_, ?_, ?_, rfl⟩
            · intro q hq
              have hq3 : q < 3 := by first | exact hq | (rw [VI.C_len] at hq; omega) | (rw [VI.D_nil rfl] at hq; exact hq)
              obtain rfl | rfl | rfl : q = 0 ∨ q = 1 ∨ q = 2 := by omega
              · exact s6 _ (by first | (simp; done) | (simp [z1]; done))
              · exact (k1 _ (by first | (simp; done) | (simp [z1]; done)))
              · exact f6
            · rw [f2]; rfl
        · have hl0 := hl
          have g1 : ¬ (i : Int) < (len' : Int) := by omega
          have k1 : (0 : Int) = K i := by rw [← eK i, if_neg hl]
          by_cases hS : 2 < S i
          · have hc1 : VI.cnt S (i + 1) = VI.cnt S i + 1 := by show (if 2 < S i then VI.cnt S i + 1 else VI.cnt S i) = _; rw [if_pos hS]
            have hd1 : VI.D S K (i + 1) = VI.D S K i ++ [K i, S i - 3, 1000 + i] := by show (if 2 < S i then _ else _) = _; rw [if_pos hS]
            repeat ((conv => whnf); first | (refine brT ?_ ?_; · (first | exact f3 | exact Bool.and_eq_true_iff.2 ⟨decide_eq_true ⟨rfl, rfl, rfl⟩, decide_eq_true ⟨Nat.one_pos, Nat.le_of_ble_eq_true rfl, by omega⟩⟩ | (simp [*]; done))) | (refine brF ?_ ?_; · (first | exact f3 | exact Bool.and_eq_true_iff.2 ⟨decide_eq_true ⟨rfl, rfl, rfl⟩, decide_eq_true ⟨Nat.one_pos, Nat.le_of_ble_eq_true rfl, by omega⟩⟩ | (simp [*]; done))) | (rw [f5]))

            conv => whnf
            have i0 : i = 0 := by omega
            subst i0
            refine ⟨k - 1, by omega, [2, 5, 7], rfl, rfl, _, rfl, 0 + 1, by omega, .inr (.inr ⟨by omega, by rw [hc1]; exact Nat.succ_pos _, ?_⟩)⟩
            rw [hc1, hd1]
            refine ⟨_, _, ?_, ?_, ?_, rfl⟩
            · intro q hq
              have hq3 : q < 3 := by first | exact hq | (rw [VI.C_len] at hq; omega) | (rw [VI.D_nil rfl] at hq; exact hq)
              obtain rfl | rfl | rfl : q = 0 ∨ q = 1 ∨ q = 2 := by omega
              · exact s6 _ (by first | (simp; done) | (simp [z1]; done))
              · exact k1
              · exact f6
            · intro q hq
              have hq3 : q < 3 := by first | exact hq | (rw [VI.C_len] at hq; omega) | (rw [VI.D_nil rfl] at hq; exact hq)
              obtain rfl | rfl | rfl : q = 0 ∨ q = 1 ∨ q = 2 := by omega
              · exact k1
              · exact s5 _ (by first | (simp; done) | (simp [z1]; done))
              · exact f6
            · rw [f2]; rfl
          · have hc1 : VI.cnt S (i + 1) = VI.cnt S i := by show (if 2 < S i then VI.cnt S i + 1 else VI.cnt S i) = _; rw [if_neg hS]
            have hd1 : VI.D S K (i + 1) = VI.D S K i := by show (if 2 < S i then _ else _) = _; rw [if_neg hS]
            repeat ((conv => whnf); first | (refine brT ?_ ?_; · (first | exact f3 | exact Bool.and_eq_true_iff.2 ⟨decide_eq_true ⟨rfl, rfl, rfl⟩, decide_eq_true ⟨Nat.one_pos, Nat.le_of_ble_eq_true rfl, by omega⟩⟩ | (simp [*]; done))) | (refine brF ?_ ?_; · (first | exact f3 | exact Bool.and_eq_true_iff.2 ⟨decide_eq_true ⟨rfl, rfl, rfl⟩, decide_eq_true ⟨Nat.one_pos, Nat.le_of_ble_eq_true rfl, by omega⟩⟩ | (simp [*]; done))) | (rw [f5]))

            conv => whnf
            have i0 : i = 0 := by omega
            subst i0
            refine ⟨k - 1, by omega, [2, 5], rfl, rfl, _, rfl, 0 + 1, by omega, .inr (.inl ⟨by omega, by rw [hc1]; rfl, ?_⟩)⟩
            refine ⟨_, ?_, ?_, rfl⟩
            · intro q hq
              have hq3 : q < 3 := by first | exact hq | (rw [VI.C_len] at hq; omega) | (rw [VI.D_nil rfl] at hq; exact hq)
              obtain rfl | rfl | rfl : q = 0 ∨ q = 1 ∨ q = 2 := by omega
              · exact s6 _ (by first | (simp; done) | (simp [z1]; done))
              · exact k1
              · exact f6
            · rw [f2]; rfl
      · have f1 : ¬ (i : Int) < (len : Int) := by omega
        have i0 : i = 0 := by omega
        subst i0
        repeat ((conv => whnf); first | (refine brT ?_ ?_; · (simp [*]; done)) | (refine brF ?_ ?_; · (simp [*]; done)))

        conv => whnf
        refine SWP.turns (envK_ok known6) 40 200 1 ?_
        repeat ((conv => whnf); first | (refine brT ?_ ?_; · (simp [*]; done)) | (refine brF ?_ ?_; · (simp [*]; done)))

        conv => whnf
        refine SWP.turns (envK_ok known6) 40 200 1 ?_
        repeat ((conv => whnf); first | (refine brT ?_ ?_; · (simp [*]; done)) | (refine brF ?_ ?_; · (simp [*]; done)))

        rfl
    · refine SWP.code (envK_ok known6) 40 200 ?_
      by_cases hn : i < len
      · have f1 : (i : Int) < (len : Int) := by omega
        have f4 : i + 1 ≤ 1000000 := by omega
        have f2 : IntKind.i64.wrap ((i : Int) + 1) = ((i + 1 : Nat) : Int) := by rw [wrapI (by omega) (by omega)]; rfl
        have f5 : decide ((0:Int) ≤ (i:Int) ∧ (i:Int) < (len:Int)) = true := decide_eq_true ⟨by omega, by omega⟩
        have f3 : decide (lo ≤ lo + (i : Int).toNat * 1 ∧ lo + (i : Int).toNat * 1 < n) = true := decide_eq_true ⟨by omega, by omega⟩
        have f6 : IntKind.i64.wrap (1000 + (i : Int)) = 1000 + i := wrapI (by omega) (by omega)
        obtain ⟨s1, s2, s3⟩ := zS i hn
        have s4 : IntKind.i64.wrap (S i - 3) = S i - 3 := wrapI (by omega) (by omega)
        have s5 : ∀ q, q = i → IntKind.i64.wrap (IntKind.i64.wrap ((z q).tmod 12) - 3) = S i - 3 := fun q h => by rw [h, s1, s4]
        have s6 : ∀ q, q = i → IntKind.i64.wrap ((z q).tmod 12) = S i := fun q h => by rw [h, s1]
        by_cases hl : i < len'
        · have hl0 := hl
          have g1 : (i : Int) < (len' : Int) := by omega
          have g5 : decide ((0:Int) ≤ (i:Int) ∧ (i:Int) < (len':Int)) = true := decide_eq_true ⟨by omega, by omega⟩
          have g3 : decide (lo' ≤ lo' + (i : Int).toNat * 1 ∧ lo' + (i : Int).toNat * 1 < n') = true := decide_eq_true ⟨by omega, by omega⟩
          have k1 : ∀ q, q = i → IntKind.i64.wrap ((y q).tmod 64) = K i := fun q h => by rw [h, ← eK i, if_pos hl, tmodI (hy i hl), wrapI (by omega) (by omega)]
          by_cases hS : 2 < S i
          · have hc1 : VI.cnt S (i + 1) = VI.cnt S i + 1 := by show (if 2 < S i then VI.cnt S i + 1 else VI.cnt S i) = _; rw [if_pos hS]
            have hd1 : VI.D S K (i + 1) = VI.D S K i ++ [K i, S i - 3, 1000 + i] := by show (if 2 < S i then _ else _) = _; rw [if_pos hS]
            repeat ((conv => whnf); first | (refine brT ?_ ?_; · (first | exact f3 | exact g3 | exact Bool.and_eq_true_iff.2 ⟨decide_eq_true ⟨rfl, rfl, rfl⟩, decide_eq_true ⟨Nat.one_pos, Nat.le_of_ble_eq_true rfl, by omega⟩⟩ | (simp [*]; done))) | (refine brF ?_ ?_; · (first | exact f3 | exact g3 | exact Bool.and_eq_true_iff.2 ⟨decide_eq_true ⟨rfl, rfl, rfl⟩, decide_eq_true ⟨Nat.one_pos, Nat.le_of_ble_eq_true rfl, by omega⟩⟩ | (simp [*]; done))) | (rw [f5]) | (rw [g5]))

            conv => whnf
            refine ⟨k - 1, by omega, [2, 6, 8], rfl, rfl, _, rfl, i + 1, by omega, .inr (.inr ⟨by omega, by rw [hc1]; omega, ?_⟩)⟩
            rw [hc1, hd1, hc, VI.D_nil hc]
            refine ⟨_, _, ?_, ?_, ?_, rfl⟩
            · show VI.RowIs _ (VI.C S K i ++ [S i, K i, 1000 + i])
              refine VI.RowIs.snoc (n := i * 3) hf (by rw [VI.C_len]; omega) ?_ ?_ ?_ ?_
              · intro q hq
                show (if q < i * 3 then f q else _) = f q
                exact if_pos hq
              · show (if i * 3 < i * 3 then _ else List.getD _ (0 + (i * 3 - i * 3)) 0) = _
                rw [if_neg (Nat.lt_irrefl _), Nat.sub_self]
                exact s6 _ (by first | (simp; done) | (simp [z1]; done))
              · show (if i * 3 + 1 < i * 3 then _ else List.getD _ (0 + (i * 3 + 1 - i * 3)) 0) = _
                rw [if_neg (by omega), Nat.add_sub_cancel_left]
                exact (k1 _ (by first | (simp; done) | (simp [z1]; done)))
              · show (if i * 3 + 2 < i * 3 then _ else List.getD _ (0 + (i * 3 + 2 - i * 3)) 0) = _
                rw [if_neg (by omega), Nat.add_sub_cancel_left]
                exact f6
            · intro q hq
              have hq3 : q < 3 := by first | exact hq | (rw [VI.C_len] at hq; omega) | (rw [VI.D_nil rfl] at hq; exact hq)
              obtain rfl | rfl | rfl : q = 0 ∨ q = 1 ∨ q = 2 := by omega
              · exact (k1 _ (by first | (simp; done) | (simp [z1]; done)))
              · exact s5 _ (by first | (simp; done) | (simp [z1]; done))
              · exact f6
            · rw [f2]; rfl
          · have hc1 : VI.cnt S (i + 1) = VI.cnt S i := by show (if 2 < S i then VI.cnt S i + 1 else VI.cnt S i) = _; rw [if_neg hS]
            have hd1 : VI.D S K (i + 1) = VI.D S K i := by show (if 2 < S i then _ else _) = _; rw [if_neg hS]
            repeat ((conv => whnf); first | (refine brT ?_ ?_; · (first | exact f3 | exact g3 | exact Bool.and_eq_true_iff.2 ⟨decide_eq_true ⟨rfl, rfl, rfl⟩, decide_eq_true ⟨Nat.one_pos, Nat.le_of_ble_eq_true rfl, by omega⟩⟩ | (simp [*]; done))) | (refine brF ?_ ?_; · (first | exact f3 | exact g3 | exact Bool.and_eq_true_iff.2 ⟨decide_eq_true ⟨rfl, rfl, rfl⟩, decide_eq_true ⟨Nat.one_pos, Nat.le_of_ble_eq_true rfl, by omega⟩⟩ | (simp [*]; done))) | (rw [f5]) | (rw [g5]))

            conv => whnf
            refine ⟨k - 1, by omega, [2, 6], rfl, rfl, _, rfl, i + 1, by omega, .inr (.inl ⟨by omega, by rw [hc1]; omega, ?_⟩)⟩
            refine ⟨_, ?_, ?_, rfl⟩
            · show VI.RowIs _ (VI.C S K i ++ [S i, K i, 1000 + i])
              refine VI.RowIs.snoc (n := i * 3) hf (by rw [VI.C_len]; omega) ?_ ?_ ?_ ?_
              · intro q hq
                show (if q < i * 3 then f q else _) = f q
                exact if_pos hq
              · show (if i * 3 < i * 3 then _ else List.getD _ (0 + (i * 3 - i * 3)) 0) = _
                rw [if_neg (Nat.lt_irrefl _), Nat.sub_self]
                exact s6 _ (by first | (simp; done) | (simp [z1]; done))
              · show (if i * 3 + 1 < i * 3 then _ else List.getD _ (0 + (i * 3 + 1 - i * 3)) 0) = _
                rw [if_neg (by omega), Nat.add_sub_cancel_left]
                exact (k1 _ (by first | (simp; done) | (simp [z1]; done)))
              · show (if i * 3 + 2 < i * 3 then _ else List.getD _ (0 + (i * 3 + 2 - i * 3)) 0) = _
                rw [if_neg (by omega), Nat.add_sub_cancel_left]
                exact f6
            · rw [f2]; rfl
        · have hl0 := hl
          have g1 : ¬ (i : Int) < (len' : Int) := by omega
          have k1 : (0 : Int) = K i := by rw [← eK i, if_neg hl]
          by_cases hS : 2 < S i
          · have hc1 : VI.cnt S (i + 1) = VI.cnt S i + 1 := by show (if 2 < S i then VI.cnt S i + 1 else VI.cnt S i) = _; rw [if_pos hS]
            have hd1 : VI.D S K (i + 1) = VI.D S K i ++ [K i, S i - 3, 1000 + i] := by show (if 2 < S i then _ else _) = _; rw [if_pos hS]
            repeat ((conv => whnf); first | (refine brT ?_ ?_; · (first | exact f3 | exact Bool.and_eq_true_iff.2 ⟨decide_eq_true ⟨rfl, rfl, rfl⟩, decide_eq_true ⟨Nat.one_pos, Nat.le_of_ble_eq_true rfl, by omega⟩⟩ | (simp [*]; done))) | (refine brF ?_ ?_; · (first | exact f3 | exact Bool.and_eq_true_iff.2 ⟨decide_eq_true ⟨rfl, rfl, rfl⟩, decide_eq_true ⟨Nat.one_pos, Nat.le_of_ble_eq_true rfl, by omega⟩⟩ | (simp [*]; done))) | (rw [f5]))

            conv => whnf
            refine ⟨k - 1, by omega, [2, 6, 8], rfl, rfl, _, rfl, i + 1, by omega, .inr (.inr ⟨by omega, by rw [hc1]; omega, ?_⟩)⟩
            rw [hc1, hd1, hc, VI.D_nil hc]
            refine ⟨_, _, ?_, ?_, ?_, rfl⟩
            · show VI.RowIs _ (VI.C S K i ++ [S i, K i, 1000 + i])
              refine VI.RowIs.snoc (n := i * 3) hf (by rw [VI.C_len]; omega) ?_ ?_ ?_ ?_
              · intro q hq
                show (if q < i * 3 then f q else _) = f q
                exact if_pos hq
              · show (if i * 3 < i * 3 then _ else List.getD _ (0 + (i * 3 - i * 3)) 0) = _
                rw [if_neg (Nat.lt_irrefl _), Nat.sub_self]
                exact s6 _ (by first | (simp; done) | (simp [z1]; done))
              · show (if i * 3 + 1 < i * 3 then _ else List.getD _ (0 + (i * 3 + 1 - i * 3)) 0) = _
                rw [if_neg (by omega), Nat.add_sub_cancel_left]
                exact k1
              · show (if i * 3 + 2 < i * 3 then _ else List.getD _ (0 + (i * 3 + 2 - i * 3)) 0) = _
                rw [if_neg (by omega), Nat.add_sub_cancel_left]
                exact f6
            · intro q hq
              have hq3 : q < 3 := by first | exact hq | (rw [VI.C_len] at hq; omega) | (rw [VI.D_nil rfl] at hq; exact hq)
              obtain rfl | rfl | rfl : q = 0 ∨ q = 1 ∨ q = 2 := by omega
              · exact k1
              · exact s5 _ (by first | (simp; done) | (simp [z1]; done))
              · exact f6
            · rw [f2]; rfl
          · have hc1 : VI.cnt S (i + 1) = VI.cnt S i := by show (if 2 < S i then VI.cnt S i + 1 else VI.cnt S i) = _; rw [if_neg hS]
            have hd1 : VI.D S K (i + 1) = VI.D S K i := by show (if 2 < S i then _ else _) = _; rw [if_neg hS]
            repeat ((conv => whnf); first | (refine brT ?_ ?_; · (first | exact f3 | exact Bool.and_eq_true_iff.2 ⟨decide_eq_true ⟨rfl, rfl, rfl⟩, decide_eq_true ⟨Nat.one_pos, Nat.le_of_ble_eq_true rfl, by omega⟩⟩ | (simp [*]; done))) | (refine brF ?_ ?_; · (first | exact f3 | exact Bool.and_eq_true_iff.2 ⟨decide_eq_true ⟨rfl, rfl, rfl⟩, decide_eq_true ⟨Nat.one_pos, Nat.le_of_ble_eq_true rfl, by omega⟩⟩ | (simp [*]; done))) | (rw [f5]))

            conv => whnf
            refine ⟨k - 1, by omega, [2, 6], rfl, rfl, _, rfl, i + 1, by omega, .inr (.inl ⟨by omega, by rw [hc1]; omega, ?_⟩)⟩
            refine ⟨_, ?_, ?_, rfl⟩
            · show VI.RowIs _ (VI.C S K i ++ [S i, K i, 1000 + i])
              refine VI.RowIs.snoc (n := i * 3) hf (by rw [VI.C_len]; omega) ?_ ?_ ?_ ?_
              · intro q hq
                show (if q < i * 3 then f q else _) = f q
                exact if_pos hq
              · show (if i * 3 < i * 3 then _ else List.getD _ (0 + (i * 3 - i * 3)) 0) = _
                rw [if_neg (Nat.lt_irrefl _), Nat.sub_self]
                exact s6 _ (by first | (simp; done) | (simp [z1]; done))
              · show (if i * 3 + 1 < i * 3 then _ else List.getD _ (0 + (i * 3 + 1 - i * 3)) 0) = _
                rw [if_neg (by omega), Nat.add_sub_cancel_left]
                exact k1
              · show (if i * 3 + 2 < i * 3 then _ else List.getD _ (0 + (i * 3 + 2 - i * 3)) 0) = _
                rw [if_neg (by omega), Nat.add_sub_cancel_left]
                exact f6
            · rw [f2]; rfl
      · have f1 : ¬ (i : Int) < (len : Int) := by omega
        repeat ((conv => whnf); first | (refine brT ?_ ?_; · (simp [*]; done)) | (refine brF ?_ ?_; · (simp [*]; done)))

        conv => whnf
        have i0 : i ≤ len := by omega
        refine SWP.loopS Try.f32.ntmps [3, 8, 9, 10] (VI.J2 (some (false, .ext (.old lo n (intsC .u8 z lo)))) (some (false, .ext (.old lo' n' (intsC .u8 y lo')))) f i) (N := i) [] rfl rfl rfl ⟨0, rfl, rfl, rfl⟩ ?_
        rintro k vs H ⟨j, hj, rfl, rfl⟩
        refine SWP.code (envK_ok known6) 40 200 ?_
        by_cases hl : j < i
        · have f1 : (j : Int) < (i : Int) := by omega
          have f2 : IntKind.i64.wrap ((j : Int) + 1) = ((j + 1 : Nat) : Int) := by rw [wrapI (by omega) (by omega)]; rfl
          have f5 : decide ((0:Int) ≤ (j:Int) ∧ (j:Int) < (i:Int)) = true := decide_eq_true ⟨by omega, by omega⟩
          have f3 : decide (0 ≤ 0 + (j : Int).toNat * 3 ∧ 0 + (j : Int).toNat * 3 + 3 ≤ i * 3) = true := decide_eq_true ⟨by omega, by omega⟩
          obtain ⟨c1, c2, c3⟩ := VI.cell_at hf hl
          have v1 := VI.ver_no (VI.cnt_zero hc hl)
          repeat ((conv => whnf); first | (refine brT ?_ ?_; · (first | exact f3 | (simp [*]; done))) | (refine brF ?_ ?_; · (first | exact f3 | (simp [*]; done))) | (rw [f5]))

          conv => whnf
          exact ⟨k - 1, by omega, [], rfl, rfl, _, rfl, j + 1, by omega, by rw [f2], rfl⟩
        · have f1 : ¬ (j : Int) < (i : Int) := by omega
          repeat ((conv => whnf); first | (refine brT ?_ ?_; · (simp [*]; done)) | (refine brF ?_ ?_; · (simp [*]; done)))

          conv => whnf
          refine SWP.turns (envK_ok known6) 40 200 1 ?_
          repeat ((conv => whnf); first | (refine brT ?_ ?_; · (simp [*]; done)) | (refine brF ?_ ?_; · (simp [*]; done)))

          rfl
    · refine SWP.code (envK_ok known6) 40 200 ?_
      by_cases hn : i < len
      · have f1 : (i : Int) < (len : Int) := by omega
        have f4 : i + 1 ≤ 1000000 := by omega
        have f2 : IntKind.i64.wrap ((i : Int) + 1) = ((i + 1 : Nat) : Int) := by rw [wrapI (by omega) (by omega)]; rfl
        have f5 : decide ((0:Int) ≤ (i:Int) ∧ (i:Int) < (len:Int)) = true := decide_eq_true ⟨by omega, by omega⟩
        have f3 : decide (lo ≤ lo + (i : Int).toNat * 1 ∧ lo + (i : Int).toNat * 1 < n) = true := decide_eq_true ⟨by omega, by omega⟩
        have f6 : IntKind.i64.wrap (1000 + (i : Int)) = 1000 + i := wrapI (by omega) (by omega)
        obtain ⟨s1, s2, s3⟩ := zS i hn
        have s4 : IntKind.i64.wrap (S i - 3) = S i - 3 := wrapI (by omega) (by omega)
        have s5 : ∀ q, q = i → IntKind.i64.wrap (IntKind.i64.wrap ((z q).tmod 12) - 3) = S i - 3 := fun q h => by rw [h, s1, s4]
        have s6 : ∀ q, q = i → IntKind.i64.wrap ((z q).tmod 12) = S i := fun q h => by rw [h, s1]
        by_cases hl : i < len'
        · have hl0 := hl
          have g1 : (i : Int) < (len' : Int) := by omega
          have g5 : decide ((0:Int) ≤ (i:Int) ∧ (i:Int) < (len':Int)) = true := decide_eq_true ⟨by omega, by omega⟩
          have g3 : decide (lo' ≤ lo' + (i : Int).toNat * 1 ∧ lo' + (i : Int).toNat * 1 < n') = true := decide_eq_true ⟨by omega, by omega⟩
          have k1 : ∀ q, q = i → IntKind.i64.wrap ((y q).tmod 64) = K i := fun q h => by rw [h, ← eK i, if_pos hl, tmodI (hy i hl), wrapI (by omega) (by omega)]
          by_cases hS : 2 < S i
          · have hc1 : VI.cnt S (i + 1) = VI.cnt S i + 1 := by show (if 2 < S i then VI.cnt S i + 1 else VI.cnt S i) = _; rw [if_pos hS]
            have hd1 : VI.D S K (i + 1) = VI.D S K i ++ [K i, S i - 3, 1000 + i] := by show (if 2 < S i then _ else _) = _; rw [if_pos hS]
            have f7 : VI.cnt S i + 1 ≤ 1000000 := by have := VI.cnt_le S i; omega
            repeat ((conv => whnf); first | (refine brT ?_ ?_; · (first | exact f3 | exact g3 | exact Bool.and_eq_true_iff.2 ⟨decide_eq_true ⟨rfl, rfl, rfl⟩, decide_eq_true ⟨Nat.one_pos, Nat.le_of_ble_eq_true rfl, by omega⟩⟩ | (simp [*]; done))) | (refine brF ?_ ?_; · (first | exact f3 | exact g3 | exact Bool.and_eq_true_iff.2 ⟨decide_eq_true ⟨rfl, rfl, rfl⟩, decide_eq_true ⟨Nat.one_pos, Nat.le_of_ble_eq_true rfl, by omega⟩⟩ | (simp [*]; done))) | (rw [f5]) | (rw [g5]))

            conv => whnf
            refine ⟨k - 1, by omega, [2, 7, 9], rfl, rfl, _, rfl, i + 1, by omega, .inr (.inr ⟨by omega, by rw [hc1]; omega, ?_⟩)⟩
            rw [hc1, hd1]
            refine ⟨_, _, ?_, ?_, ?_, rfl⟩
            · show VI.RowIs _ (VI.C S K i ++ [S i, K i, 1000 + i])
              refine VI.RowIs.snoc (n := i * 3) hf (by rw [VI.C_len]; omega) ?_ ?_ ?_ ?_
              · intro q hq
                show (if q < i * 3 then f q else _) = f q
                exact if_pos hq
              · show (if i * 3 < i * 3 then _ else List.getD _ (0 + (i * 3 - i * 3)) 0) = _
                rw [if_neg (Nat.lt_irrefl _), Nat.sub_self]
                exact s6 _ (by first | (simp; done) | (simp [z1]; done))
              · show (if i * 3 + 1 < i * 3 then _ else List.getD _ (0 + (i * 3 + 1 - i * 3)) 0) = _
                rw [if_neg (by omega), Nat.add_sub_cancel_left]
                exact (k1 _ (by first | (simp; done) | (simp [z1]; done)))
              · show (if i * 3 + 2 < i * 3 then _ else List.getD _ (0 + (i * 3 + 2 - i * 3)) 0) = _
                rw [if_neg (by omega), Nat.add_sub_cancel_left]
                exact f6
            · refine VI.RowIs.snoc (n := VI.cnt S i * 3) hg (by rw [VI.D_len]; omega) ?_ ?_ ?_ ?_
              · intro q hq
                show (if q < VI.cnt S i * 3 then g q else _) = g q
                exact if_pos hq
              · show (if VI.cnt S i * 3 < VI.cnt S i * 3 then _ else List.getD _ (0 + (VI.cnt S i * 3 - VI.cnt S i * 3)) 0) = _
                rw [if_neg (Nat.lt_irrefl _), Nat.sub_self]
                exact (k1 _ (by first | (simp; done) | (simp [z1]; done)))
              · show (if VI.cnt S i * 3 + 1 < VI.cnt S i * 3 then _ else List.getD _ (0 + (VI.cnt S i * 3 + 1 - VI.cnt S i * 3)) 0) = _
                rw [if_neg (by omega), Nat.add_sub_cancel_left]
                exact s5 _ (by first | (simp; done) | (simp [z1]; done))
              · show (if VI.cnt S i * 3 + 2 < VI.cnt S i * 3 then _ else List.getD _ (0 + (VI.cnt S i * 3 + 2 - VI.cnt S i * 3)) 0) = _
                rw [if_neg (by omega), Nat.add_sub_cancel_left]
                exact f6
            · rw [f2]; rfl
          · have hc1 : VI.cnt S (i + 1) = VI.cnt S i := by show (if 2 < S i then VI.cnt S i + 1 else VI.cnt S i) = _; rw [if_neg hS]
            have hd1 : VI.D S K (i + 1) = VI.D S K i := by show (if 2 < S i then _ else _) = _; rw [if_neg hS]
            have f7 : VI.cnt S i + 1 ≤ 1000000 := by have := VI.cnt_le S i; omega
            repeat ((conv => whnf); first | (refine brT ?_ ?_; · (first | exact f3 | exact g3 | exact Bool.and_eq_true_iff.2 ⟨decide_eq_true ⟨rfl, rfl, rfl⟩, decide_eq_true ⟨Nat.one_pos, Nat.le_of_ble_eq_true rfl, by omega⟩⟩ | (simp [*]; done))) | (refine brF ?_ ?_; · (first | exact f3 | exact g3 | exact Bool.and_eq_true_iff.2 ⟨decide_eq_true ⟨rfl, rfl, rfl⟩, decide_eq_true ⟨Nat.one_pos, Nat.le_of_ble_eq_true rfl, by omega⟩⟩ | (simp [*]; done))) | (rw [f5]) | (rw [g5]))

            conv => whnf
            refine ⟨k - 1, by omega, [2, 7, 4], rfl, rfl, _, rfl, i + 1, by omega, .inr (.inr ⟨by omega, by rw [hc1]; omega, ?_⟩)⟩
            rw [hc1, hd1]
            refine ⟨_, g, ?_, hg, ?_, rfl⟩
            · show VI.RowIs _ (VI.C S K i ++ [S i, K i, 1000 + i])
              refine VI.RowIs.snoc (n := i * 3) hf (by rw [VI.C_len]; omega) ?_ ?_ ?_ ?_
              · intro q hq
                show (if q < i * 3 then f q else _) = f q
                exact if_pos hq
              · show (if i * 3 < i * 3 then _ else List.getD _ (0 + (i * 3 - i * 3)) 0) = _
                rw [if_neg (Nat.lt_irrefl _), Nat.sub_self]
                exact s6 _ (by first | (simp; done) | (simp [z1]; done))
              · show (if i * 3 + 1 < i * 3 then _ else List.getD _ (0 + (i * 3 + 1 - i * 3)) 0) = _
                rw [if_neg (by omega), Nat.add_sub_cancel_left]
                exact (k1 _ (by first | (simp; done) | (simp [z1]; done)))
              · show (if i * 3 + 2 < i * 3 then _ else List.getD _ (0 + (i * 3 + 2 - i * 3)) 0) = _
                rw [if_neg (by omega), Nat.add_sub_cancel_left]
                exact f6
            · rw [f2]; rfl
        · have hl0 := hl
          have g1 : ¬ (i : Int) < (len' : Int) := by omega
          have k1 : (0 : Int) = K i := by rw [← eK i, if_neg hl]
          by_cases hS : 2 < S i
          · have hc1 : VI.cnt S (i + 1) = VI.cnt S i + 1 := by show (if 2 < S i then VI.cnt S i + 1 else VI.cnt S i) = _; rw [if_pos hS]
            have hd1 : VI.D S K (i + 1) = VI.D S K i ++ [K i, S i - 3, 1000 + i] := by show (if 2 < S i then _ else _) = _; rw [if_pos hS]
            have f7 : VI.cnt S i + 1 ≤ 1000000 := by have := VI.cnt_le S i; omega
            repeat ((conv => whnf); first | (refine brT ?_ ?_; · (first | exact f3 | exact Bool.and_eq_true_iff.2 ⟨decide_eq_true ⟨rfl, rfl, rfl⟩, decide_eq_true ⟨Nat.one_pos, Nat.le_of_ble_eq_true rfl, by omega⟩⟩ | (simp [*]; done))) | (refine brF ?_ ?_; · (first | exact f3 | exact Bool.and_eq_true_iff.2 ⟨decide_eq_true ⟨rfl, rfl, rfl⟩, decide_eq_true ⟨Nat.one_pos, Nat.le_of_ble_eq_true rfl, by omega⟩⟩ | (simp [*]; done))) | (rw [f5]))

            conv => whnf
            refine ⟨k - 1, by omega, [2, 7, 9], rfl, rfl, _, rfl, i + 1, by omega, .inr (.inr ⟨by omega, by rw [hc1]; omega, ?_⟩)⟩
            rw [hc1, hd1]
            refine ⟨_, _, ?_, ?_, ?_, rfl⟩
            · show VI.RowIs _ (VI.C S K i ++ [S i, K i, 1000 + i])
              refine VI.RowIs.snoc (n := i * 3) hf (by rw [VI.C_len]; omega) ?_ ?_ ?_ ?_
              · intro q hq
                show (if q < i * 3 then f q else _) = f q
                exact if_pos hq
              · show (if i * 3 < i * 3 then _ else List.getD _ (0 + (i * 3 - i * 3)) 0) = _
                rw [if_neg (Nat.lt_irrefl _), Nat.sub_self]
                exact s6 _ (by first | (simp; done) | (simp [z1]; done))
              · show (if i * 3 + 1 < i * 3 then _ else List.getD _ (0 + (i * 3 + 1 - i * 3)) 0) = _
                rw [if_neg (by omega), Nat.add_sub_cancel_left]
                exact k1
              · show (if i * 3 + 2 < i * 3 then _ else List.getD _ (0 + (i * 3 + 2 - i * 3)) 0) = _
                rw [if_neg (by omega), Nat.add_sub_cancel_left]
                exact f6
            · refine VI.RowIs.snoc (n := VI.cnt S i * 3) hg (by rw [VI.D_len]; omega) ?_ ?_ ?_ ?_
              · intro q hq
                show (if q < VI.cnt S i * 3 then g q else _) = g q
                exact if_pos hq
              · show (if VI.cnt S i * 3 < VI.cnt S i * 3 then _ else List.getD _ (0 + (VI.cnt S i * 3 - VI.cnt S i * 3)) 0) = _
                rw [if_neg (Nat.lt_irrefl _), Nat.sub_self]
                exact k1
              · show (if VI.cnt S i * 3 + 1 < VI.cnt S i * 3 then _ else List.getD _ (0 + (VI.cnt S i * 3 + 1 - VI.cnt S i * 3)) 0) = _
                rw [if_neg (by omega), Nat.add_sub_cancel_left]
                exact s5 _ (by first | (simp; done) | (simp [z1]; done))
              · show (if VI.cnt S i * 3 + 2 < VI.cnt S i * 3 then _ else List.getD _ (0 + (VI.cnt S i * 3 + 2 - VI.cnt S i * 3)) 0) = _
                rw [if_neg (by omega), Nat.add_sub_cancel_left]
                exact f6
            · rw [f2]; rfl
          · have hc1 : VI.cnt S (i + 1) = VI.cnt S i := by show (if 2 < S i then VI.cnt S i + 1 else VI.cnt S i) = _; rw [if_neg hS]
            have hd1 : VI.D S K (i + 1) = VI.D S K i := by show (if 2 < S i then _ else _) = _; rw [if_neg hS]
            have f7 : VI.cnt S i + 1 ≤ 1000000 := by have := VI.cnt_le S i; omega
            repeat ((conv => whnf); first | (refine brT ?_ ?_; · (first | exact f3 | exact Bool.and_eq_true_iff.2 ⟨decide_eq_true ⟨rfl, rfl, rfl⟩, decide_eq_true ⟨Nat.one_pos, Nat.le_of_ble_eq_true rfl, by omega⟩⟩ | (simp [*]; done))) | (refine brF ?_ ?_; · (first | exact f3 | exact Bool.and_eq_true_iff.2 ⟨decide_eq_true ⟨rfl, rfl, rfl⟩, decide_eq_true ⟨Nat.one_pos, Nat.le_of_ble_eq_true rfl, by omega⟩⟩ | (simp [*]; done))) | (rw [f5]))

            conv => whnf
            refine ⟨k - 1, by omega, [2, 7, 4], rfl, rfl, _, rfl, i + 1, by omega, .inr (.inr ⟨by omega, by rw [hc1]; omega, ?_⟩)⟩
            rw [hc1, hd1]
            refine ⟨_, g, ?_, hg, ?_, rfl⟩
            · show VI.RowIs _ (VI.C S K i ++ [S i, K i, 1000 + i])
              refine VI.RowIs.snoc (n := i * 3) hf (by rw [VI.C_len]; omega) ?_ ?_ ?_ ?_
              · intro q hq
                show (if q < i * 3 then f q else _) = f q
                exact if_pos hq
              · show (if i * 3 < i * 3 then _ else List.getD _ (0 + (i * 3 - i * 3)) 0) = _
                rw [if_neg (Nat.lt_irrefl _), Nat.sub_self]
                exact s6 _ (by first | (simp; done) | (simp [z1]; done))
              · show (if i * 3 + 1 < i * 3 then _ else List.getD _ (0 + (i * 3 + 1 - i * 3)) 0) = _
                rw [if_neg (by omega), Nat.add_sub_cancel_left]
                exact k1
              · show (if i * 3 + 2 < i * 3 then _ else List.getD _ (0 + (i * 3 + 2 - i * 3)) 0) = _
                rw [if_neg (by omega), Nat.add_sub_cancel_left]
                exact f6
            · rw [f2]; rfl
      · have f1 : ¬ (i : Int) < (len : Int) := by omega
        repeat ((conv => whnf); first | (refine brT ?_ ?_; · (simp [*]; done)) | (refine brF ?_ ?_; · (simp [*]; done)))

        conv => whnf
        have i0 : i ≤ len := by omega
        refine SWP.loopS Try.f32.ntmps [3, 8, 9, 10] (VI.J3 (some (false, .ext (.old lo n (intsC .u8 z lo)))) (some (false, .ext (.old lo' n' (intsC .u8 y lo')))) S K f g i) (N := i) [] rfl rfl rfl ⟨0, rfl, .inl ⟨Nat.one_pos, rfl, rfl⟩⟩ ?_
        rintro k vs H ⟨j, hj, ⟨hc0, rfl, rfl⟩ | ⟨hc0, e, he, rfl, rfl⟩⟩
        · refine SWP.code (envK_ok known6) 40 200 ?_
          by_cases hl : j < i
          · have f1 : (j : Int) < (i : Int) := by omega
            have f2 : IntKind.i64.wrap ((j : Int) + 1) = ((j + 1 : Nat) : Int) := by rw [wrapI (by omega) (by omega)]; rfl
            have f5 : decide ((0:Int) ≤ (j:Int) ∧ (j:Int) < (i:Int)) = true := decide_eq_true ⟨by omega, by omega⟩
            have f3 : decide (0 ≤ 0 + (j : Int).toNat * 3 ∧ 0 + (j : Int).toNat * 3 + 3 ≤ i * 3) = true := decide_eq_true ⟨by omega, by omega⟩
            obtain ⟨c1, c2, c3⟩ := VI.cell_at hf hl
            obtain ⟨_, s2, s3⟩ := zS j (by omega)
            by_cases hS : 2 < S j
            · have hc1 : VI.cnt S (j + 1) = VI.cnt S j + 1 := by show (if 2 < S j then VI.cnt S j + 1 else VI.cnt S j) = _; rw [if_pos hS]
              have hd1 : VI.D S K (j + 1) = VI.D S K j ++ [K j, S j - 3, 1000 + j] := by show (if 2 < S j then _ else _) = _; rw [if_pos hS]
              have v1 := VI.ver_is hS s3
              have x1 : ∀ q, q = j * 3 → verW (f q) = S j - 3 := fun q h => by rw [h, c1, v1]
              have x2 : ∀ q, q = j * 3 + 1 → f q = K j := fun q h => by rw [h, c2]
              have x3 : ∀ q, q = j * 3 + 1 + 1 → f q = 1000 + j := fun q h => by rw [h, c3]
              have v2 : ¬ S j < 3 := by omega
              have v3 : 3 ≤ S j := by omega
              have f7 : VI.cnt S j + 1 ≤ 1000000 := by have := VI.cnt_le S j; omega
              repeat ((conv => whnf); first | (refine brT ?_ ?_; · (first | exact f3 | exact Bool.and_eq_true_iff.2 ⟨decide_eq_true ⟨rfl, rfl, rfl⟩, decide_eq_true ⟨Nat.one_pos, Nat.le_of_ble_eq_true rfl, by omega⟩⟩ | (simp [*]; done))) | (refine brF ?_ ?_; · (first | exact f3 | exact Bool.and_eq_true_iff.2 ⟨decide_eq_true ⟨rfl, rfl, rfl⟩, decide_eq_true ⟨Nat.one_pos, Nat.le_of_ble_eq_true rfl, by omega⟩⟩ | (simp [*]; done))) | (rw [f5]))

              conv => whnf
              refine ⟨k - 1, by omega, [7], rfl, rfl, _, rfl, j + 1, by omega, .inr ⟨by rw [hc1]; omega, ?_⟩⟩
              have hz0 : VI.cnt S j = 0 := by omega
              rw [hc1, hd1, hz0, VI.D_nil hz0]
              refine ⟨_, ?_, by rw [f2], rfl⟩
              intro q hq
              have hq3 : q < 3 := hq
              obtain rfl | rfl | rfl : q = 0 ∨ q = 1 ∨ q = 2 := by omega
              · exact x2 _ (by first | (simp; done) | (simp [z3]; done))
              · exact x1 _ (by first | (simp; done) | (simp [z3]; done))
              · exact x3 _ (by first | (simp; done) | (simp [z3]; done))
            · have hc1 : VI.cnt S (j + 1) = VI.cnt S j := by show (if 2 < S j then VI.cnt S j + 1 else VI.cnt S j) = _; rw [if_neg hS]
              have hd1 : VI.D S K (j + 1) = VI.D S K j := by show (if 2 < S j then _ else _) = _; rw [if_neg hS]
              have v1 := VI.ver_no hS
              repeat ((conv => whnf); first | (refine brT ?_ ?_; · (first | exact f3 | (simp [*]; done))) | (refine brF ?_ ?_; · (first | exact f3 | (simp [*]; done))) | (rw [f5]))

              conv => whnf
              exact ⟨k - 1, by omega, [], rfl, rfl, _, rfl, j + 1, by omega, .inl ⟨by rw [hc1]; exact hc0, by rw [f2], rfl⟩⟩
          · have f1 : ¬ (j : Int) < (i : Int) := by omega
            have j0 : j = i := by omega
            rw [j0] at hc0
            omega
        · refine SWP.code (envK_ok known6) 40 200 ?_
          by_cases hl : j < i
          · have f1 : (j : Int) < (i : Int) := by omega
            have f2 : IntKind.i64.wrap ((j : Int) + 1) = ((j + 1 : Nat) : Int) := by rw [wrapI (by omega) (by omega)]; rfl
            have f5 : decide ((0:Int) ≤ (j:Int) ∧ (j:Int) < (i:Int)) = true := decide_eq_true ⟨by omega, by omega⟩
            have f3 : decide (0 ≤ 0 + (j : Int).toNat * 3 ∧ 0 + (j : Int).toNat * 3 + 3 ≤ i * 3) = true := decide_eq_true ⟨by omega, by omega⟩
            obtain ⟨c1, c2, c3⟩ := VI.cell_at hf hl
            obtain ⟨_, s2, s3⟩ := zS j (by omega)
            by_cases hS : 2 < S j
            · have hc1 : VI.cnt S (j + 1) = VI.cnt S j + 1 := by show (if 2 < S j then VI.cnt S j + 1 else VI.cnt S j) = _; rw [if_pos hS]
              have hd1 : VI.D S K (j + 1) = VI.D S K j ++ [K j, S j - 3, 1000 + j] := by show (if 2 < S j then _ else _) = _; rw [if_pos hS]
              have v1 := VI.ver_is hS s3
              have x1 : ∀ q, q = j * 3 → verW (f q) = S j - 3 := fun q h => by rw [h, c1, v1]
              have x2 : ∀ q, q = j * 3 + 1 → f q = K j := fun q h => by rw [h, c2]
              have x3 : ∀ q, q = j * 3 + 1 + 1 → f q = 1000 + j := fun q h => by rw [h, c3]
              have v2 : ¬ S j < 3 := by omega
              have v3 : 3 ≤ S j := by omega
              have f7 : VI.cnt S j + 1 ≤ 1000000 := by have := VI.cnt_le S j; omega
              repeat ((conv => whnf); first | (refine brT ?_ ?_; · (first | exact f3 | exact Bool.and_eq_true_iff.2 ⟨decide_eq_true ⟨rfl, rfl, rfl⟩, decide_eq_true ⟨Nat.one_pos, Nat.le_of_ble_eq_true rfl, by omega⟩⟩ | (simp [*]; done))) | (refine brF ?_ ?_; · (first | exact f3 | exact Bool.and_eq_true_iff.2 ⟨decide_eq_true ⟨rfl, rfl, rfl⟩, decide_eq_true ⟨Nat.one_pos, Nat.le_of_ble_eq_true rfl, by omega⟩⟩ | (simp [*]; done))) | (rw [f5]))

              conv => whnf
              refine ⟨k - 1, by omega, [8], rfl, rfl, _, rfl, j + 1, by omega, .inr ⟨by rw [hc1]; omega, ?_⟩⟩
              rw [hc1, hd1]
              refine ⟨_, ?_, by rw [f2], rfl⟩
              refine VI.RowIs.snoc (n := VI.cnt S j * 3) he (by rw [VI.D_len]; omega) ?_ ?_ ?_ ?_
              · intro q hq
                show (if q < VI.cnt S j * 3 then e q else _) = e q
                exact if_pos hq
              · show (if VI.cnt S j * 3 < VI.cnt S j * 3 then _ else List.getD _ (0 + (VI.cnt S j * 3 - VI.cnt S j * 3)) 0) = _
                rw [if_neg (Nat.lt_irrefl _), Nat.sub_self]
                exact x2 _ (by first | (simp; done) | (simp [z3]; done))
              · show (if VI.cnt S j * 3 + 1 < VI.cnt S j * 3 then _ else List.getD _ (0 + (VI.cnt S j * 3 + 1 - VI.cnt S j * 3)) 0) = _
                rw [if_neg (by omega), Nat.add_sub_cancel_left]
                exact x1 _ (by first | (simp; done) | (simp [z3]; done))
              · show (if VI.cnt S j * 3 + 2 < VI.cnt S j * 3 then _ else List.getD _ (0 + (VI.cnt S j * 3 + 2 - VI.cnt S j * 3)) 0) = _
                rw [if_neg (by omega), Nat.add_sub_cancel_left]
                exact x3 _ (by first | (simp; done) | (simp [z3]; done))
            · have hc1 : VI.cnt S (j + 1) = VI.cnt S j := by show (if 2 < S j then VI.cnt S j + 1 else VI.cnt S j) = _; rw [if_neg hS]
              have hd1 : VI.D S K (j + 1) = VI.D S K j := by show (if 2 < S j then _ else _) = _; rw [if_neg hS]
              have v1 := VI.ver_no hS
              repeat ((conv => whnf); first | (refine brT ?_ ?_; · (first | exact f3 | (simp [*]; done))) | (refine brF ?_ ?_; · (first | exact f3 | (simp [*]; done))) | (rw [f5]))

              conv => whnf
              exact ⟨k - 1, by omega, [5], rfl, rfl, _, rfl, j + 1, by omega, .inr ⟨by rw [hc1]; exact hc0, e, by rw [hd1]; exact he, by rw [hc1, f2], by rw [hc1]; rfl⟩⟩
          · have f1 : ¬ (j : Int) < (i : Int) := by omega
            have j0 : j = i := by omega
            subst j0
            repeat ((conv => whnf); first | (refine brT ?_ ?_; · (simp [*]; done)) | (refine brF ?_ ?_; · (simp [*]; done)))

            conv => whnf
            refine SWP.loopS Try.f31.ntmps [0, 1, 5] (VI.J4 (some (false, .ext (.old lo n (intsC .u8 z lo)))) (some (false, .ext (.old lo' n' (intsC .u8 y lo')))) (VI.Xo (VI.sl 3 j)) f g e j (VI.cnt S j)) (N := VI.cnt S j) [] rfl rfl rfl ⟨0, rfl, rfl, rfl⟩ ?_
            rintro k vs H ⟨q, hq, rfl, rfl⟩
            refine SWP.code (envK_ok known6) 40 200 ?_
            have cl := VI.cnt_le S j
            generalize hcn : VI.cnt S j = cn at *
            by_cases hl : q < cn
            · obtain ⟨a1, a2, a3⟩ := VI.alike he hg (by rw [VI.D_len, hcn]) hl
              have f1 : (q : Int) < (cn : Int) := by omega
              have f2 : IntKind.i64.wrap ((q : Int) + 1) = ((q + 1 : Nat) : Int) := by rw [wrapI (by omega) (by omega)]; rfl
              have f5 : decide ((0:Int) ≤ (q:Int) ∧ (q:Int) < (cn:Int)) = true := decide_eq_true ⟨by omega, by omega⟩
              have f3 : decide (0 ≤ 0 + (q : Int).toNat * 3 ∧ 0 + (q : Int).toNat * 3 + 3 ≤ cn * 3) = true := decide_eq_true ⟨by omega, by omega⟩
              repeat ((conv => whnf); first | (refine brT ?_ ?_; · (first | exact f3 | (simp [*]; done))) | (refine brF ?_ ?_; · (first | exact f3 | (simp [*]; done))) | (rw [f5]))

              conv => whnf
              exact ⟨k - 1, by omega, [], rfl, rfl, _, rfl, q + 1, by omega, by rw [f2], rfl⟩
            · have f1 : ¬ (q : Int) < (cn : Int) := by omega
              repeat ((conv => whnf); first | (refine brT ?_ ?_; · (simp [*]; done)) | (refine brF ?_ ?_; · (simp [*]; done)))

              rfl
theorem viewItems_walk (W : World) (A : Option Addr) (len cap : Nat) (z : Nat → Int) (A' : Option Addr) (len' cap' : Nat) (y : Nat → Int) (hA : IsCells W A len cap fun j => .int .u8 (z j)) (hu : ∀ j, j < len → (Lit.int .u8 (z j)).wf = true) (hA' : IsCells W A' len' cap' fun j => .int .u8 (y j)) (hu' : ∀ j, j < len' → (Lit.int .u8 (y j)).wf = true) :
    Calls Try.prog 6 #[.slice A len cap, .slice A' len' cap'] W fun e w' => e = .returned (.bool true) ∧ Below W.heap.size W w' := by
  obtain ⟨sv, ⟨b, lo, n, c⟩, h1, h2, h3, h4⟩ := ints_arg hA 0
  obtain ⟨sv', ⟨b', lo', n', c'⟩, g1, g2, g3, g4⟩ := ints_arg hA' 1
  simp only at h2 g2
  subst h2 g2
  exact law_walk_rows [⟨b, lo, n, intsC .u8 z lo⟩, ⟨b', lo', n', intsC .u8 y lo'⟩] (fun r hr => by simp at hr; rcases hr with rfl | rfl; exact h3; exact g3) (.cons (h4 _ _ (by simp) (by simp)) (.cons (g4 _ _ (by simp) (by simp)) .nil)) (viewItems_fwp sv sv' b lo n len b' lo' n' len' z y (fun j hj => (wf_u8_bounds (hu j hj)).1) (fun j hj => (wf_u8_bounds (hu' j hj)).1) h1 g1)
end Go.Proofs.Ytflhcknnjembjaa
