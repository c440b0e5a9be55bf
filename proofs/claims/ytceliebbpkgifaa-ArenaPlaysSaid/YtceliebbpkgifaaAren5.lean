/- The walks of the statements on arenas alone. -/
import Derived.Test.YtceliebbpkgifaaAren4
namespace Go.Proofs.Ytceliebbpkgifaa
open Go.RowKit

theorem none_of_kept {h h' : GH} {a : Nat} (hk : ∀ k b, h k = some b → h' k = some b) (hn : h' a = none) : h a = none := by
  cases e : h a with
  | none => rfl
  | some b => rw [hk a b e] at hn; exact absurd hn (by simp)

set_option maxRecDepth 100000 in
set_option maxHeartbeats 1000000 in
theorem arenaSizes_walk (a0 : Int) (w0 : (Lit.int .i64 a0).wf = true) (w : World) :
    Calls Try.prog 12 #[.int .i64 a0] w fun e w' => e = .returned (.bool true) ∧ Below w.heap.size w w' := by
  have hm := Mem.start w
  obtain ⟨l0, u0⟩ := wf_i64_bounds w0
  obtain ⟨n, hn⟩ : ∃ n, (clamp a0 1 20000).toNat = n := ⟨_, rfl⟩
  have hq : ((n : Int) == max 1 (min a0 20000)) = true := beq_t (by unfold clamp at hn; omega)
  have HN := Lib.hid hn
  clear hn
  go_enter Try.func12, Try.ntmps12
  go_wp2_with fail
  (with_reducible refine (arenaKnown hm).mono ?_)
  rintro e w1 ⟨rfl, m1⟩
  clear hm
  go_wp2_with fail
  (with_reducible refine (new_x n HN.out m1).mono ?_)
  rintro e w2 ⟨a, d, h2, rfl, fa, fd, m2, va_2, k2⟩
  clear m1 k2 fa fd
  go_wp2_with fail
  (with_reducible refine (len_x n (by simp [Vw.fresh]) m2 va_2).mono ?_)
  rintro e w' ⟨rfl, rfl⟩
  go_wp2_with fail
  (with_reducible refine (accesses_x 0 (show wrap64 0 = 0 by decide +kernel) m2 va_2).mono ?_)
  rintro e w' ⟨rfl, rfl⟩
  go_wp2_with fail
  (with_reducible refine (last_x Acc.zero rfl m2 va_2).mono ?_)
  rintro e w3 ⟨rfl, m3⟩
  clear m2
  go_wp2_with fail
  (with_reducible refine (copy_v a d _ m3 va_2).mono ?_)
  rintro e w4 ⟨b, c, h4, rfl, fb, fc, m4, vb_4, k4⟩
  obtain ⟨a_b, d_b⟩ := va_2.apart fb
  obtain ⟨a_c, d_c⟩ := va_2.apart fc
  have b_a := Ne.symm a_b
  have b_d := Ne.symm d_b
  have c_a := Ne.symm a_c
  have c_d := Ne.symm d_c
  have va_4 := va_2.other k4 a_b a_c d_b d_c
  clear m3 k4 va_2 fb fc
  go_wp2_with fail
  (with_reducible refine (len_x n (by simp [Vw.fresh]) m4 vb_4).mono ?_)
  rintro e w' ⟨rfl, rfl⟩
  go_wp2_with fail
  (with_reducible refine (len_x n (by simp [Vw.fresh]) m4 va_4).mono ?_)
  rintro e w' ⟨rfl, rfl⟩
  go_wp2_with fail
  go_returns
  exact ⟨rfl, m4.below⟩

theorem index4 (x0 x1 x2 x3 : Value) (w : World) :
    (Instr.index 55 (.agg #[x0, x1, x2, x3]) (.int .u8 0)).run Try.prog w = .ok x0 w ∧ (Instr.index 55 (.agg #[x0, x1, x2, x3]) (.int .u8 1)).run Try.prog w = .ok x1 w ∧
    (Instr.index 55 (.agg #[x0, x1, x2, x3]) (.int .u8 2)).run Try.prog w = .ok x2 w ∧ (Instr.index 55 (.agg #[x0, x1, x2, x3]) (.int .u8 3)).run Try.prog w = .ok x3 w :=
  ⟨by kernel_rfl, by kernel_rfl, by kernel_rfl, by kernel_rfl⟩

section
variable {w0 w : World} {h : GH} {V : Vw} {a d : Nat} {i : Int}
theorem store_o (hi : ¬ V.inb i) (v : Int) (hm : Mem w0 h w) (hv : IsV h a d V) :
    Calls Try.prog 33 #[.pointer (some ⟨a, 0, none⟩), .int .i64 i, .int .i64 v] w fun e w' => e = .returned (.tuple #[]) ∧ Arp w0 h a d (V.note ⟨2, i, 0, 0, false⟩) w' := by
  have := store_v a d V i v hm hv
  rwa [show V.store i v = V.note ⟨2, i, 0, 0, false⟩ from by unfold Vw.store Vw.wr Vw.rd; simp only [if_neg hi]] at this
theorem load_o (hi : ¬ V.inb i) (hm : Mem w0 h w) (hv : IsV h a d V) :
    Calls Try.prog 31 #[.pointer (some ⟨a, 0, none⟩), .int .i64 i] w fun e w' => e = .returned (.int .i64 0) ∧ Arp w0 h a d (V.note ⟨1, i, 0, 0, false⟩) w' := by
  have := load_v a d V i hm hv
  rwa [show V.load i = V.note ⟨1, i, 0, 0, false⟩ from by unfold Vw.load Vw.rd; simp only [if_neg hi], show V.rd i = 0 from by unfold Vw.rd; rw [if_neg hi]] at this
theorem add_o (hi : ¬ V.inb i) (v : Int) (hm : Mem w0 h w) (hv : IsV h a d V) :
    Calls Try.prog 37 #[.pointer (some ⟨a, 0, none⟩), .int .i64 i, .int .i64 v] w fun e w' => e = .returned (.int .i64 0) ∧ Arp w0 h a d (V.note ⟨4, i, 0, 0, false⟩) w' := by
  have := add_v a d V i v hm hv
  rwa [show V.add i v = V.note ⟨4, i, 0, 0, false⟩ from by unfold Vw.add Vw.wr Vw.rd; simp only [if_neg hi], show V.rd i = 0 from by unfold Vw.rd; rw [if_neg hi]] at this
theorem swap_o (hi : ¬ V.inb i) (o v : Int) (hm : Mem w0 h w) (hv : IsV h a d V) :
    Calls Try.prog 35 #[.pointer (some ⟨a, 0, none⟩), .int .i64 i, .int .i64 o, .int .i64 v] w fun e w' => e = .returned (.bool false) ∧ Arp w0 h a d (V.note ⟨3, i, 0, 0, false⟩) w' := by
  have := swap_v a d V i o v hm hv
  have e : V.swaps i o = false := decide_eq_false (fun q => hi q.1)
  rwa [show V.swap i o v = V.note ⟨3, i, 0, 0, false⟩ from by unfold Vw.swap; rw [e]; unfold Vw.rd; simp [if_neg hi], e] at this
theorem poke_o (hi : ¬ V.inb i) (v : Int) (hm : Mem w0 h w) (hv : IsV h a d V) :
    Calls Try.prog 41 #[.pointer (some ⟨a, 0, none⟩), .int .i64 i, .int .i64 v] w fun e w' => e = .returned (.tuple #[]) ∧ Arp w0 h a d V w' := by
  have := poke_v a d V i v hm hv
  rwa [show V.wr i v = V from by unfold Vw.wr; rw [if_neg hi]] at this
end

/-- The first words laid. -/
def laidN (v : Int) (n : Nat) : Nat → Vw
  | 0 => Vw.fresh n
  | k + 1 => (laidN v n k).wr k v
theorem laidN_len (v : Int) (n k : Nat) : (laidN v n k).ws.length = n := by induction k with
  | zero => simp [laidN, Vw.fresh]
  | succ k ih => simp [laidN, ih]
theorem laidN_n (v : Int) (n k : Nat) : (laidN v n k).n = 0 := by induction k with
  | zero => rfl
  | succ k ih => rw [laidN, vwr_n, ih]
theorem rd_wr (V : Vw) (i j v : Int) (hi : V.inb i) : (V.wr i v).rd j = if i = j then v else V.rd j := by
  by_cases hj : V.inb j
  · have hj' : (V.wr i v).inb j := by unfold Vw.inb at *; simpa using hj
    unfold Vw.rd
    rw [if_pos hj', if_pos hj]
    unfold Vw.wr
    rw [if_pos hi]
    obtain ⟨i, rfl⟩ := Int.eq_ofNat_of_zero_le hi.1
    obtain ⟨j, rfl⟩ := Int.eq_ofNat_of_zero_le hj.1
    have h1 : i < V.ws.length := by have := hi.2; omega
    have h2 : j < V.ws.length := by have := hj.2; omega
    simp only [Int.toNat_natCast, List.getD_eq_getElem?_getD, List.getElem?_set]
    by_cases e : i = j
    · subst e; simp [h1]
    · rw [if_neg e, if_neg (by omega)]
  · have hj' : ¬ (V.wr i v).inb j := by unfold Vw.inb at *; simpa using hj
    unfold Vw.rd
    rw [if_neg hj', if_neg hj, if_neg]
    rintro rfl; exact hj hi
theorem rd_wr_out (V : Vw) (i v : Int) (hi : ¬ V.inb i) : V.wr i v = V := by unfold Vw.wr; rw [if_neg hi]
theorem laidN_rd (v : Int) (n k : Nat) (hk : k ≤ n) (j : Nat) : (laidN v n k).rd j = if j < k then v else 0 := by induction k with
  | zero =>
    simp only [laidN, Nat.not_lt_zero, if_false]
    unfold Vw.rd Vw.fresh
    split
    · simp [List.getD_eq_getElem?_getD, List.getElem?_replicate]; split <;> rfl
    · rfl
  | succ k ih =>
    rw [laidN, rd_wr _ _ _ _ ⟨by omega, by rw [laidN_len]; omega⟩, ih (by omega)]
    by_cases e : k = j
    · subst e; simp
    · rw [if_neg (by omega)]
      by_cases e2 : j < k
      · rw [if_pos e2, if_pos (by omega)]
      · rw [if_neg e2, if_neg (by omega)]
@[simp] theorem vnote_ws (V : Vw) (x : Acc) : (V.note x).ws = V.ws := rfl
theorem rd_note (V : Vw) (x : Acc) (i : Int) : (V.note x).rd i = V.rd i := rfl
theorem vrd_out {V : Vw} {i : Int} (hi : ¬ V.inb i) : V.rd i = 0 := by unfold Vw.rd; rw [if_neg hi]

set_option maxRecDepth 100000 in
set_option maxHeartbeats 1000000 in
theorem arenaPlaces_walk (a0 : Int) (a1 : Int) (a2 : Int) (w0 : (Lit.int .u8 a0).wf = true) (w1 : (Lit.int .u8 a1).wf = true) (w2 : (Lit.int .i64 a2).wf = true) (w : World) :
    Calls Try.prog 11 #[.int .u8 a0, .int .u8 a1, .int .i64 a2] w fun e w' => e = .returned (.bool true) ∧ Below w.heap.size w w' := by
  have hm := Mem.start w
  obtain ⟨l0, u0⟩ := wf_u8_bounds w0
  obtain ⟨l1, u1⟩ := wf_u8_bounds w1
  obtain ⟨l2, u2⟩ := wf_i64_bounds w2
  clear w0 w1 w2
  obtain ⟨n, hn⟩ : ∃ n : Nat, (n : Int) = a0 % 50 + 1 := ⟨(a0 % 50 + 1).toNat, by omega⟩
  have n1 : 1 ≤ n := by omega
  have n2 : n ≤ 50 := by omega
  have hn1 : (n : Int) ≤ a0 % 50 + 1 := by omega
  have hn2 : a0 % 50 + 1 ≤ (n : Int) := by omega
  clear hn
  have i0 := fun (x0 x1 x2 x3 : Value) (w : World) => (index4 x0 x1 x2 x3 w).1
  have i1 := fun (x0 x1 x2 x3 : Value) (w : World) => (index4 x0 x1 x2 x3 w).2.1
  have i2 := fun (x0 x1 x2 x3 : Value) (w : World) => (index4 x0 x1 x2 x3 w).2.2.1
  have i3 := fun (x0 x1 x2 x3 : Value) (w : World) => (index4 x0 x1 x2 x3 w).2.2.2
  obtain ⟨P, hP, hc⟩ : ∃ P : Int, (P < 0 ∨ (n : Int) ≤ P) ∧ ((a1 % 4 = 0 ∧ P = -1) ∨ (a1 % 4 = 1 ∧ P = a0 % 50 + 1) ∨ (a1 % 4 = 2 ∧ P = a0 % 50 + 1 + 100) ∨ (a1 % 4 = 3 ∧ P = -1099511627776)) := by
    rcases (by omega : a1 % 4 = 0 ∨ a1 % 4 = 1 ∨ a1 % 4 = 2 ∨ a1 % 4 = 3) with h | h | h | h
    · exact ⟨_, .inl (by decide), .inl ⟨h, rfl⟩⟩
    · exact ⟨_, .inr (by omega), .inr (.inl ⟨h, rfl⟩)⟩
    · exact ⟨_, .inr (by omega), .inr (.inr (.inl ⟨h, rfl⟩))⟩
    · exact ⟨_, .inl (by decide), .inr (.inr (.inr ⟨h, rfl⟩))⟩
  have HP : Hid (P < 0 ∨ (n : Int) ≤ P) := hP
  clear hP l2 u2
  rcases hc with ⟨hq, rfl⟩ | ⟨hq, rfl⟩ | ⟨hq, rfl⟩ | ⟨hq, rfl⟩
  · go_enter Try.func11, Try.ntmps11
    go_wp2_with fail
    (with_reducible refine (arenaKnown hm).mono ?_)
    rintro e w1 ⟨rfl, m1⟩
    clear hm
    go_wp2_with fail
    (with_reducible refine (new_x n (by unfold clamp; omega) m1).mono ?_)
    rintro e w2 ⟨a, d, h2, rfl, fa, fd, m2, va_2, k2⟩
    clear m1 k2 fa fd
    go_wp2_with fail
    go_loopw [9] (fun i wr => ∃ k : Nat, k ≤ n ∧ i = .int .i64 k ∧ ∃ h', Mem w h' wr ∧ IsV h' a d (laidN 7 n k)) (fun i _ => n - (intOf i).toNat)
    case atStart => exact ⟨0, by omega, rfl, _, m2, va_2⟩
    case round =>
      obtain ⟨k, hk, rfl, hr, mr, vr⟩ := hrel
      clear m2 va_2
      by_cases hlt : k < n
      · go_wp2_with fail
        (with_reducible refine (poke_v a d _ k 7 mr vr).mono ?_)
        rintro e wx ⟨rfl, hx, mx, vx, _⟩
        go_wp2
        go_roundw
        case rel => exact ⟨k + 1, by omega, by go_num, hx, mx, vx⟩
        case measure => simp [intOf]; omega
      · obtain rfl : k = n := by omega
        have ho : ∀ V : Vw, V.ws = (laidN 7 k k).ws → ¬ V.inb (-1) := fun V e q => by
          have := q.1; have := q.2; rw [e, laidN_len] at this; have := HP.out; omega
        have HO := Lib.hid ho
        clear ho hlt hk
        go_wp2_with fail
        (with_reducible refine (store_o (by exact HO.out _ rfl) a2 mr vr).mono ?_)
        rintro e w11 ⟨rfl, h11, m11, vr_11, k11⟩
        clear mr vr k11
        go_wp2_with fail
        (with_reducible refine (load_o (by exact HO.out _ rfl) m11 vr_11).mono ?_)
        rintro e w12 ⟨rfl, h12, m12, vr_12, k12⟩
        clear m11 vr_11 k12
        go_wp2_with fail
        (with_reducible refine (add_o (by exact HO.out _ rfl) a2 m12 vr_12).mono ?_)
        rintro e w13 ⟨rfl, h13, m13, vr_13, k13⟩
        clear m12 vr_12 k13
        go_wp2_with fail
        (with_reducible refine (swap_o (by exact HO.out _ rfl) 0 a2 m13 vr_13).mono ?_)
        rintro e w14 ⟨rfl, h14, m14, vr_14, k14⟩
        clear m13 vr_13 k14
        go_wp2_with fail
        (with_reducible refine (poke_o (by exact HO.out _ rfl) a2 m14 vr_14).mono ?_)
        rintro e w15 ⟨rfl, h15, m15, vr_15, k15⟩
        clear m14 vr_14 k15
        go_wp2_with fail
        go_loop [14] (fun i => ∃ j : Nat, j ≤ k ∧ i = .int .i64 j) (fun i => k - (intOf i).toNat)
        case atStart => exact ⟨0, by omega, rfl⟩
        case round =>
          obtain ⟨j, hj, rfl⟩ := hrel
          by_cases hlt : j < k
          · go_wp2_with fail
            (with_reducible refine (peek_x 7 (by simp only [rd_note]; rw [laidN_rd _ _ _ (Nat.le_refl _), if_pos hlt]) m15 vr_15).mono ?_)
            rintro e w' ⟨rfl, rfl⟩
            go_wp2
            go_round
            case rel => exact ⟨j + 1, by omega, by go_num⟩
            case measure => simp [intOf]; omega
          · have hge : k ≤ j := by omega
            go_wp2_with fail
            (with_reducible refine (peek_x 0 (vrd_out (by exact HO.out _ rfl)) m15 vr_15).mono ?_)
            rintro e w' ⟨rfl, rfl⟩
            go_wp2_with fail
            (with_reducible refine (accesses_x 4 (by simp only [Vw.note, laidN_n]; decide +kernel) m15 vr_15).mono ?_)
            rintro e w' ⟨rfl, rfl⟩
            go_wp2_with fail
            (with_reducible refine (last_x ⟨3, (-1), 0, 0, false⟩ rfl m15 vr_15).mono ?_)
            rintro e w31 ⟨rfl, m31⟩
            clear m15
            go_wp2_with fail
            go_returns
            exact ⟨rfl, m31.below⟩
  · go_enter Try.func11, Try.ntmps11
    go_wp2_with fail
    (with_reducible refine (arenaKnown hm).mono ?_)
    rintro e w1 ⟨rfl, m1⟩
    clear hm
    go_wp2_with fail
    (with_reducible refine (new_x n (by unfold clamp; omega) m1).mono ?_)
    rintro e w2 ⟨a, d, h2, rfl, fa, fd, m2, va_2, k2⟩
    clear m1 k2 fa fd
    go_wp2_with fail
    go_loopw [9] (fun i wr => ∃ k : Nat, k ≤ n ∧ i = .int .i64 k ∧ ∃ h', Mem w h' wr ∧ IsV h' a d (laidN 7 n k)) (fun i _ => n - (intOf i).toNat)
    case atStart => exact ⟨0, by omega, rfl, _, m2, va_2⟩
    case round =>
      obtain ⟨k, hk, rfl, hr, mr, vr⟩ := hrel
      clear m2 va_2
      by_cases hlt : k < n
      · go_wp2_with fail
        (with_reducible refine (poke_v a d _ k 7 mr vr).mono ?_)
        rintro e wx ⟨rfl, hx, mx, vx, _⟩
        go_wp2
        go_roundw
        case rel => exact ⟨k + 1, by omega, by go_num, hx, mx, vx⟩
        case measure => simp [intOf]; omega
      · obtain rfl : k = n := by omega
        have ho : ∀ V : Vw, V.ws = (laidN 7 k k).ws → ¬ V.inb (a0 % 50 + 1) := fun V e q => by
          have := q.1; have := q.2; rw [e, laidN_len] at this; have := HP.out; omega
        have HO := Lib.hid ho
        clear ho hlt hk
        go_wp2_with fail
        (with_reducible refine (store_o (by exact HO.out _ rfl) a2 mr vr).mono ?_)
        rintro e w11 ⟨rfl, h11, m11, vr_11, k11⟩
        clear mr vr k11
        go_wp2_with fail
        (with_reducible refine (load_o (by exact HO.out _ rfl) m11 vr_11).mono ?_)
        rintro e w12 ⟨rfl, h12, m12, vr_12, k12⟩
        clear m11 vr_11 k12
        go_wp2_with fail
        (with_reducible refine (add_o (by exact HO.out _ rfl) a2 m12 vr_12).mono ?_)
        rintro e w13 ⟨rfl, h13, m13, vr_13, k13⟩
        clear m12 vr_12 k13
        go_wp2_with fail
        (with_reducible refine (swap_o (by exact HO.out _ rfl) 0 a2 m13 vr_13).mono ?_)
        rintro e w14 ⟨rfl, h14, m14, vr_14, k14⟩
        clear m13 vr_13 k14
        go_wp2_with fail
        (with_reducible refine (poke_o (by exact HO.out _ rfl) a2 m14 vr_14).mono ?_)
        rintro e w15 ⟨rfl, h15, m15, vr_15, k15⟩
        clear m14 vr_14 k15
        go_wp2_with fail
        go_loop [14] (fun i => ∃ j : Nat, j ≤ k ∧ i = .int .i64 j) (fun i => k - (intOf i).toNat)
        case atStart => exact ⟨0, by omega, rfl⟩
        case round =>
          obtain ⟨j, hj, rfl⟩ := hrel
          by_cases hlt : j < k
          · go_wp2_with fail
            (with_reducible refine (peek_x 7 (by simp only [rd_note]; rw [laidN_rd _ _ _ (Nat.le_refl _), if_pos hlt]) m15 vr_15).mono ?_)
            rintro e w' ⟨rfl, rfl⟩
            go_wp2
            go_round
            case rel => exact ⟨j + 1, by omega, by go_num⟩
            case measure => simp [intOf]; omega
          · have hge : k ≤ j := by omega
            go_wp2_with fail
            (with_reducible refine (peek_x 0 (vrd_out (by exact HO.out _ rfl)) m15 vr_15).mono ?_)
            rintro e w' ⟨rfl, rfl⟩
            go_wp2_with fail
            (with_reducible refine (accesses_x 4 (by simp only [Vw.note, laidN_n]; decide +kernel) m15 vr_15).mono ?_)
            rintro e w' ⟨rfl, rfl⟩
            go_wp2_with fail
            (with_reducible refine (last_x ⟨3, (a0 % 50 + 1), 0, 0, false⟩ rfl m15 vr_15).mono ?_)
            rintro e w31 ⟨rfl, m31⟩
            clear m15
            go_wp2_with fail
            go_returns
            exact ⟨rfl, m31.below⟩
  · go_enter Try.func11, Try.ntmps11
    go_wp2_with fail
    (with_reducible refine (arenaKnown hm).mono ?_)
    rintro e w1 ⟨rfl, m1⟩
    clear hm
    go_wp2_with fail
    (with_reducible refine (new_x n (by unfold clamp; omega) m1).mono ?_)
    rintro e w2 ⟨a, d, h2, rfl, fa, fd, m2, va_2, k2⟩
    clear m1 k2 fa fd
    go_wp2_with fail
    go_loopw [9] (fun i wr => ∃ k : Nat, k ≤ n ∧ i = .int .i64 k ∧ ∃ h', Mem w h' wr ∧ IsV h' a d (laidN 7 n k)) (fun i _ => n - (intOf i).toNat)
    case atStart => exact ⟨0, by omega, rfl, _, m2, va_2⟩
    case round =>
      obtain ⟨k, hk, rfl, hr, mr, vr⟩ := hrel
      clear m2 va_2
      by_cases hlt : k < n
      · go_wp2_with fail
        (with_reducible refine (poke_v a d _ k 7 mr vr).mono ?_)
        rintro e wx ⟨rfl, hx, mx, vx, _⟩
        go_wp2
        go_roundw
        case rel => exact ⟨k + 1, by omega, by go_num, hx, mx, vx⟩
        case measure => simp [intOf]; omega
      · obtain rfl : k = n := by omega
        have ho : ∀ V : Vw, V.ws = (laidN 7 k k).ws → ¬ V.inb (a0 % 50 + 1 + 100) := fun V e q => by
          have := q.1; have := q.2; rw [e, laidN_len] at this; have := HP.out; omega
        have HO := Lib.hid ho
        clear ho hlt hk
        go_wp2_with fail
        (with_reducible refine (store_o (by exact HO.out _ rfl) a2 mr vr).mono ?_)
        rintro e w11 ⟨rfl, h11, m11, vr_11, k11⟩
        clear mr vr k11
        go_wp2_with fail
        (with_reducible refine (load_o (by exact HO.out _ rfl) m11 vr_11).mono ?_)
        rintro e w12 ⟨rfl, h12, m12, vr_12, k12⟩
        clear m11 vr_11 k12
        go_wp2_with fail
        (with_reducible refine (add_o (by exact HO.out _ rfl) a2 m12 vr_12).mono ?_)
        rintro e w13 ⟨rfl, h13, m13, vr_13, k13⟩
        clear m12 vr_12 k13
        go_wp2_with fail
        (with_reducible refine (swap_o (by exact HO.out _ rfl) 0 a2 m13 vr_13).mono ?_)
        rintro e w14 ⟨rfl, h14, m14, vr_14, k14⟩
        clear m13 vr_13 k14
        go_wp2_with fail
        (with_reducible refine (poke_o (by exact HO.out _ rfl) a2 m14 vr_14).mono ?_)
        rintro e w15 ⟨rfl, h15, m15, vr_15, k15⟩
        clear m14 vr_14 k15
        go_wp2_with fail
        go_loop [14] (fun i => ∃ j : Nat, j ≤ k ∧ i = .int .i64 j) (fun i => k - (intOf i).toNat)
        case atStart => exact ⟨0, by omega, rfl⟩
        case round =>
          obtain ⟨j, hj, rfl⟩ := hrel
          by_cases hlt : j < k
          · go_wp2_with fail
            (with_reducible refine (peek_x 7 (by simp only [rd_note]; rw [laidN_rd _ _ _ (Nat.le_refl _), if_pos hlt]) m15 vr_15).mono ?_)
            rintro e w' ⟨rfl, rfl⟩
            go_wp2
            go_round
            case rel => exact ⟨j + 1, by omega, by go_num⟩
            case measure => simp [intOf]; omega
          · have hge : k ≤ j := by omega
            go_wp2_with fail
            (with_reducible refine (peek_x 0 (vrd_out (by exact HO.out _ rfl)) m15 vr_15).mono ?_)
            rintro e w' ⟨rfl, rfl⟩
            go_wp2_with fail
            (with_reducible refine (accesses_x 4 (by simp only [Vw.note, laidN_n]; decide +kernel) m15 vr_15).mono ?_)
            rintro e w' ⟨rfl, rfl⟩
            go_wp2_with fail
            (with_reducible refine (last_x ⟨3, (a0 % 50 + 1 + 100), 0, 0, false⟩ rfl m15 vr_15).mono ?_)
            rintro e w31 ⟨rfl, m31⟩
            clear m15
            go_wp2_with fail
            go_returns
            exact ⟨rfl, m31.below⟩
  · go_enter Try.func11, Try.ntmps11
    go_wp2_with fail
    (with_reducible refine (arenaKnown hm).mono ?_)
    rintro e w1 ⟨rfl, m1⟩
    clear hm
    go_wp2_with fail
    (with_reducible refine (new_x n (by unfold clamp; omega) m1).mono ?_)
    rintro e w2 ⟨a, d, h2, rfl, fa, fd, m2, va_2, k2⟩
    clear m1 k2 fa fd
    go_wp2_with fail
    go_loopw [9] (fun i wr => ∃ k : Nat, k ≤ n ∧ i = .int .i64 k ∧ ∃ h', Mem w h' wr ∧ IsV h' a d (laidN 7 n k)) (fun i _ => n - (intOf i).toNat)
    case atStart => exact ⟨0, by omega, rfl, _, m2, va_2⟩
    case round =>
      obtain ⟨k, hk, rfl, hr, mr, vr⟩ := hrel
      clear m2 va_2
      by_cases hlt : k < n
      · go_wp2_with fail
        (with_reducible refine (poke_v a d _ k 7 mr vr).mono ?_)
        rintro e wx ⟨rfl, hx, mx, vx, _⟩
        go_wp2
        go_roundw
        case rel => exact ⟨k + 1, by omega, by go_num, hx, mx, vx⟩
        case measure => simp [intOf]; omega
      · obtain rfl : k = n := by omega
        have ho : ∀ V : Vw, V.ws = (laidN 7 k k).ws → ¬ V.inb (-1099511627776) := fun V e q => by
          have := q.1; have := q.2; rw [e, laidN_len] at this; have := HP.out; omega
        have HO := Lib.hid ho
        clear ho hlt hk
        go_wp2_with fail
        (with_reducible refine (store_o (by exact HO.out _ rfl) a2 mr vr).mono ?_)
        rintro e w11 ⟨rfl, h11, m11, vr_11, k11⟩
        clear mr vr k11
        go_wp2_with fail
        (with_reducible refine (load_o (by exact HO.out _ rfl) m11 vr_11).mono ?_)
        rintro e w12 ⟨rfl, h12, m12, vr_12, k12⟩
        clear m11 vr_11 k12
        go_wp2_with fail
        (with_reducible refine (add_o (by exact HO.out _ rfl) a2 m12 vr_12).mono ?_)
        rintro e w13 ⟨rfl, h13, m13, vr_13, k13⟩
        clear m12 vr_12 k13
        go_wp2_with fail
        (with_reducible refine (swap_o (by exact HO.out _ rfl) 0 a2 m13 vr_13).mono ?_)
        rintro e w14 ⟨rfl, h14, m14, vr_14, k14⟩
        clear m13 vr_13 k14
        go_wp2_with fail
        (with_reducible refine (poke_o (by exact HO.out _ rfl) a2 m14 vr_14).mono ?_)
        rintro e w15 ⟨rfl, h15, m15, vr_15, k15⟩
        clear m14 vr_14 k15
        go_wp2_with fail
        go_loop [14] (fun i => ∃ j : Nat, j ≤ k ∧ i = .int .i64 j) (fun i => k - (intOf i).toNat)
        case atStart => exact ⟨0, by omega, rfl⟩
        case round =>
          obtain ⟨j, hj, rfl⟩ := hrel
          by_cases hlt : j < k
          · go_wp2_with fail
            (with_reducible refine (peek_x 7 (by simp only [rd_note]; rw [laidN_rd _ _ _ (Nat.le_refl _), if_pos hlt]) m15 vr_15).mono ?_)
            rintro e w' ⟨rfl, rfl⟩
            go_wp2
            go_round
            case rel => exact ⟨j + 1, by omega, by go_num⟩
            case measure => simp [intOf]; omega
          · have hge : k ≤ j := by omega
            go_wp2_with fail
            (with_reducible refine (peek_x 0 (vrd_out (by exact HO.out _ rfl)) m15 vr_15).mono ?_)
            rintro e w' ⟨rfl, rfl⟩
            go_wp2_with fail
            (with_reducible refine (accesses_x 4 (by simp only [Vw.note, laidN_n]; decide +kernel) m15 vr_15).mono ?_)
            rintro e w' ⟨rfl, rfl⟩
            go_wp2_with fail
            (with_reducible refine (last_x ⟨3, (-1099511627776), 0, 0, false⟩ rfl m15 vr_15).mono ?_)
            rintro e w31 ⟨rfl, m31⟩
            clear m15
            go_wp2_with fail
            go_returns
            exact ⟨rfl, m31.below⟩

end Go.Proofs.Ytceliebbpkgifaa
