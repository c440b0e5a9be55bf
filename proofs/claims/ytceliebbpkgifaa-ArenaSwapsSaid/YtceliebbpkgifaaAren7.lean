/- The walks of ArenaApart and ArenaSwaps. -/
import Derived.Test.YtceliebbpkgifaaAren6
namespace Go.Proofs.Ytceliebbpkgifaa
open Go.RowKit

/-- Words that tell their place. -/
def toldN (n : Nat) : Nat → Vw
  | 0 => Vw.fresh n
  | k + 1 => (toldN n k).wr k (1000 + k)
theorem toldN_len (n k : Nat) : (toldN n k).ws.length = n := by induction k with
  | zero => simp [toldN, Vw.fresh]
  | succ k ih => simp [toldN, ih]
theorem toldN_n (n k : Nat) : (toldN n k).n = 0 := by induction k with
  | zero => rfl
  | succ k ih => rw [toldN, vwr_n, ih]
theorem fresh_rd (n : Nat) (j : Int) : (Vw.fresh n).rd j = 0 := by
  unfold Vw.rd Vw.fresh
  split
  · simp [List.getD_eq_getElem?_getD, List.getElem?_replicate]; split <;> rfl
  · rfl
theorem toldN_rd (n k : Nat) (hk : k ≤ n) (j : Nat) (hj : j < k) : (toldN n k).rd j = 1000 + j := by induction k with
  | zero => omega
  | succ k ih =>
    rw [toldN, rd_wr _ _ _ _ ⟨by omega, by rw [toldN_len]; omega⟩]
    by_cases e : k = j
    · subst e; simp
    · rw [if_neg (by omega), ih (by omega) (by omega)]

/-- One access at place k. -/
structure OneOp (V V' : Vw) (k : Int) : Prop where
  other : ∀ j, j ≠ k → V'.rd j = V.rd j
  n : V'.n = V.n + 1
  pos : V'.last.pos = k
  old : V'.last.old = V.rd k
  new : V'.last.new = V'.rd k
theorem OneOp.load (V : Vw) (k : Int) : OneOp V (V.load k) k := ⟨fun _ _ => rfl, rfl, rfl, rfl, rfl⟩
theorem OneOp.store (V : Vw) (k v : Int) (hi : V.inb k) : OneOp V (V.store k v) k := by
  refine ⟨fun j hj => ?_, ?_, rfl, rfl, ?_⟩
  · show (V.wr k v).rd j = _; rw [rd_wr _ _ _ _ hi, if_neg (Ne.symm hj)]
  · show (V.wr k v).n + 1 = _; rw [vwr_n]
  · show (if V.inb k then v else 0) = (V.wr k v).rd k; rw [if_pos hi, rd_wr _ _ _ _ hi, if_pos rfl]
theorem OneOp.add (V : Vw) (k v : Int) (hi : V.inb k) : OneOp V (V.add k v) k := by
  refine ⟨fun j hj => ?_, ?_, rfl, rfl, ?_⟩
  · show (V.wr k _).rd j = _; rw [rd_wr _ _ _ _ hi, if_neg (Ne.symm hj)]
  · show (V.wr k _).n + 1 = _; rw [vwr_n]
  · show (if V.inb k then _ else 0) = (V.wr k _).rd k; rw [if_pos hi, rd_wr _ _ _ _ hi, if_pos rfl]
theorem OneOp.swap (V : Vw) (k o v : Int) (hi : V.inb k) : OneOp V (V.swap k o v) k := by
  cases e : V.swaps k o
  · refine ⟨fun j hj => ?_, ?_, rfl, rfl, ?_⟩
    · show (if V.swaps k o then V.wr k v else V).rd j = _; rw [e]; rfl
    · show (if V.swaps k o then V.wr k v else V).n + 1 = _; rw [e]; rfl
    · show (if V.swaps k o then v else V.rd k) = (if V.swaps k o then V.wr k v else V).rd k; rw [e]; rfl
  · refine ⟨fun j hj => ?_, ?_, rfl, rfl, ?_⟩
    · show (if V.swaps k o then V.wr k v else V).rd j = _; rw [e]; simp only [if_true]; rw [rd_wr _ _ _ _ hi, if_neg (Ne.symm hj)]
    · show (if V.swaps k o then V.wr k v else V).n + 1 = _; rw [e]; simp only [if_true]; rw [vwr_n]
    · show (if V.swaps k o then v else V.rd k) = (if V.swaps k o then V.wr k v else V).rd k; rw [e]; simp only [if_true]; rw [rd_wr _ _ _ _ hi, if_pos rfl]

theorem acc_eta (x : Acc) {p o q : Int} (h1 : x.pos = p) (h2 : x.old = o) (h3 : x.new = q) : x = ⟨x.kind, p, o, q, x.ok⟩ := by subst h1; subst h2; subst h3; rfl
theorem acc_fields (k p o n b : Value) (w : World) :
    (Instr.field 45 (.agg #[k, p, o, n, b]) 1).run Try.prog w = .ok p w ∧ (Instr.field 45 (.agg #[k, p, o, n, b]) 2).run Try.prog w = .ok o w ∧ (Instr.field 45 (.agg #[k, p, o, n, b]) 3).run Try.prog w = .ok n w :=
  ⟨by kernel_rfl, by kernel_rfl, by kernel_rfl⟩
theorem arp_is {w0 : World} {h : GH} {a d : Nat} {V : Vw} {w' : World} (hp : Arp w0 h a d V w') {Q : Vw → Prop} (hq : Q V) : ∃ V', Q V' ∧ Arp w0 h a d V' w' := ⟨V, hq, hp⟩

set_option maxRecDepth 100000 in
set_option maxHeartbeats 2000000 in
theorem arenaApart_walk (a0 : Int) (a1 : Int) (a2 : Int) (a3 : Int) (w0 : (Lit.int .u8 a0).wf = true) (w1 : (Lit.int .u8 a1).wf = true) (w2 : (Lit.int .u8 a2).wf = true) (w3 : (Lit.int .i64 a3).wf = true) (w : World) :
    Calls Try.prog 9 #[.int .u8 a0, .int .u8 a1, .int .u8 a2, .int .i64 a3] w fun e w' => e = .returned (.bool true) ∧ Below w.heap.size w w' := by
  have hm := Mem.start w
  obtain ⟨l0, u0⟩ := wf_u8_bounds w0
  obtain ⟨l1, u1⟩ := wf_u8_bounds w1
  obtain ⟨l2, u2⟩ := wf_u8_bounds w2
  obtain ⟨l3, u3⟩ := wf_i64_bounds w3
  clear w0 w1 w2 w3
  clear l3 u3
  obtain ⟨T, HT, hin, TN, TR⟩ : ∃ T, Hid (toldN 40 40 = T) ∧ Hid (T.inb (a0 % 40)) ∧ Hid (T.n = 0) ∧ Hid (∀ j : Nat, j < 40 → T.rd j = 1000 + j) :=
    ⟨_, rfl, ⟨by omega, by rw [toldN_len]; omega⟩, toldN_n 40 40, fun j hj => toldN_rd 40 40 (Nat.le_refl _) j hj⟩
  have hrd : Hid (T.rd (a0 % 40) = 1000 + a0 % 40) := by
    obtain ⟨k, hk⟩ : ∃ k : Nat, a0 % 40 = k := ⟨(a0 % 40).toNat, by omega⟩
    show _ = _; rw [hk]; exact TR.out k (by omega)
  rcases (by omega : a2 % 4 = 0 ∨ a2 % 4 = 1 ∨ a2 % 4 = 2 ∨ a2 % 4 = 3) with hq | hq | hq | hq
  · go_enter Try.func9, Try.ntmps9
    go_wp2_with fail
    (with_reducible refine (arenaKnown hm).mono ?_)
    rintro e w1 ⟨rfl, m1⟩
    clear hm
    go_wp2_with fail
    (with_reducible refine (new_x 40 (by decide) m1).mono ?_)
    rintro e w2 ⟨a, d, h2, rfl, fa, fd, m2, va_2, k2⟩
    clear m1 k2 fa fd
    go_wp2_with fail
    go_loopw [10] (fun i wr => ∃ k : Nat, k ≤ 40 ∧ i = .int .i64 k ∧ ∃ h', Mem w h' wr ∧ IsV h' a d (toldN 40 k)) (fun i _ => 40 - (intOf i).toNat)
    case atStart => exact ⟨0, by omega, rfl, _, m2, va_2⟩
    case round =>
      obtain ⟨k, hk, rfl, hr, mr, vr⟩ := hrel
      clear m2 va_2
      by_cases hlt : k < 40
      · go_wp2_with fail
        (with_reducible refine (poke_v a d _ k (1000 + k) mr vr).mono ?_)
        rintro e wx ⟨rfl, hx, mx, vx, _⟩
        go_wp2
        go_roundw
        case rel => exact ⟨k + 1, by omega, by go_num, hx, mx, vx⟩
        case measure => simp [intOf]; omega
      · obtain rfl : k = 40 := by omega
        rw [HT.out] at vr
        go_wp2_with fail
        (with_reducible refine (copy_v a d _ mr vr).mono ?_)
        rintro e w11 ⟨b, c, h11, rfl, fb, fc, m11, vb_11, k11⟩
        obtain ⟨a_b, d_b⟩ := vr.apart fb
        obtain ⟨a_c, d_c⟩ := vr.apart fc
        have b_a := Ne.symm a_b
        have b_d := Ne.symm d_b
        have c_a := Ne.symm a_c
        have c_d := Ne.symm d_c
        have vr_11 := vr.other k11 a_b a_c d_b d_c
        clear mr k11 vr fb fc
        go_wp2_with fail
        (with_reducible refine (load_v a d _ _ m11 vr_11).mono ?_)
        rintro e w12 ⟨rfl, hp⟩
        obtain ⟨V, one, h12, m12, vr_12, k12⟩ := arp_is hp (Q := fun V => OneOp T V (a0 % 40)) (OneOp.load _ _)
        clear hp
        have vb_12 := vb_11.other k12 b_a b_d c_a c_d
        clear m11 vr_11 k12 vb_11
        have O1 : Hid (∀ j : Nat, j < 40 → (j : Int) ≠ a0 % 40 → V.rd j = 1000 + j) := fun j h1 h2 => (one.other j h2).trans (TR.out j h1)
        have O2 : Hid (wrap64 V.n = 1) := by show _ = _; rw [one.n, TN.out]; decide +kernel
        have O3 : Hid (V.last = ⟨V.last.kind, a0 % 40, 1000 + a0 % 40, V.rd (a0 % 40), V.last.ok⟩) := acc_eta _ one.pos (one.old.trans hrd.out) one.new
        clear one
        go_wp2_with fail
        go_loop [13] (fun i => ∃ j : Nat, j ≤ 40 ∧ i = .int .i64 j) (fun i => 40 - (intOf i).toNat)
        case atStart => exact ⟨0, by omega, rfl⟩
        case round =>
          obtain ⟨j, hj, rfl⟩ := hrel
          by_cases hlt : j < 40
          · have hb : Hid (T.rd j = 1000 + j) := TR.out j hlt
            rcases Decidable.em ((j : Int) = a0 % 40) with he | he
            · have hne : ((j : Int) != a0 % 40) = false := bne_f he
              clear he
              go_wp2_with fail
              (with_reducible refine (peek_x (1000 + j) hb.out m12 vb_12).mono ?_)
              rintro e w' ⟨rfl, rfl⟩
              go_wp2
              go_round
              case rel => exact ⟨j + 1, by omega, by go_num⟩
              case measure => simp [intOf]; omega
            · have hne : ((j : Int) != a0 % 40) = true := bne_t he
              have ha : Hid (V.rd j = 1000 + j) := O1.out j hlt he
              clear he
              go_wp2_with fail
              (with_reducible refine (peek_x (1000 + j) hb.out m12 vb_12).mono ?_)
              rintro e w' ⟨rfl, rfl⟩
              go_wp2_with fail
              (with_reducible refine (peek_x (1000 + j) ha.out m12 vr_12).mono ?_)
              rintro e w' ⟨rfl, rfl⟩
              go_wp2
              go_round
              case rel => exact ⟨j + 1, by omega, by go_num⟩
              case measure => simp [intOf]; omega
          · have hge : 40 ≤ j := by omega
            have g1 := fun (k p o n b : Value) (w : World) => (acc_fields k p o n b w).1
            have g2 := fun (k p o n b : Value) (w : World) => (acc_fields k p o n b w).2.1
            have g3 := fun (k p o n b : Value) (w : World) => (acc_fields k p o n b w).2.2
            go_wp2_with fail
            (with_reducible refine (accesses_x 1 O2.out m12 vr_12).mono ?_)
            rintro e w' ⟨rfl, rfl⟩
            go_wp2_with fail
            (with_reducible refine (accesses_x 0 (by rw [TN.out]; decide +kernel) m12 vb_12).mono ?_)
            rintro e w' ⟨rfl, rfl⟩
            go_wp2_with fail
            (with_reducible refine (last_x _ O3.out m12 vr_12).mono ?_)
            rintro e w31 ⟨rfl, m31⟩
            clear m12
            go_wp2_with fail
            (with_reducible refine (last_x _ O3.out m31 vr_12).mono ?_)
            rintro e w32 ⟨rfl, m32⟩
            clear m31
            go_wp2_with fail
            (with_reducible refine (last_x _ O3.out m32 vr_12).mono ?_)
            rintro e w33 ⟨rfl, m33⟩
            clear m32
            go_wp2_with fail
            (with_reducible refine (peek_v a d _ _ m33 vr_12).mono ?_)
            rintro e w' ⟨rfl, rfl⟩
            go_wp2_with fail
            go_returns
            exact ⟨rfl, m33.below⟩
  · go_enter Try.func9, Try.ntmps9
    go_wp2_with fail
    (with_reducible refine (arenaKnown hm).mono ?_)
    rintro e w1 ⟨rfl, m1⟩
    clear hm
    go_wp2_with fail
    (with_reducible refine (new_x 40 (by decide) m1).mono ?_)
    rintro e w2 ⟨a, d, h2, rfl, fa, fd, m2, va_2, k2⟩
    clear m1 k2 fa fd
    go_wp2_with fail
    go_loopw [10] (fun i wr => ∃ k : Nat, k ≤ 40 ∧ i = .int .i64 k ∧ ∃ h', Mem w h' wr ∧ IsV h' a d (toldN 40 k)) (fun i _ => 40 - (intOf i).toNat)
    case atStart => exact ⟨0, by omega, rfl, _, m2, va_2⟩
    case round =>
      obtain ⟨k, hk, rfl, hr, mr, vr⟩ := hrel
      clear m2 va_2
      by_cases hlt : k < 40
      · go_wp2_with fail
        (with_reducible refine (poke_v a d _ k (1000 + k) mr vr).mono ?_)
        rintro e wx ⟨rfl, hx, mx, vx, _⟩
        go_wp2
        go_roundw
        case rel => exact ⟨k + 1, by omega, by go_num, hx, mx, vx⟩
        case measure => simp [intOf]; omega
      · obtain rfl : k = 40 := by omega
        rw [HT.out] at vr
        go_wp2_with fail
        (with_reducible refine (copy_v a d _ mr vr).mono ?_)
        rintro e w11 ⟨b, c, h11, rfl, fb, fc, m11, vb_11, k11⟩
        obtain ⟨a_b, d_b⟩ := vr.apart fb
        obtain ⟨a_c, d_c⟩ := vr.apart fc
        have b_a := Ne.symm a_b
        have b_d := Ne.symm d_b
        have c_a := Ne.symm a_c
        have c_d := Ne.symm d_c
        have vr_11 := vr.other k11 a_b a_c d_b d_c
        clear mr k11 vr fb fc
        go_wp2_with fail
        (with_reducible refine (store_v a d _ _ _ m11 vr_11).mono ?_)
        rintro e w12 ⟨rfl, hp⟩
        obtain ⟨V, one, h12, m12, vr_12, k12⟩ := arp_is hp (Q := fun V => OneOp T V (a0 % 40)) (OneOp.store _ _ _ hin.out)
        clear hp
        have vb_12 := vb_11.other k12 b_a b_d c_a c_d
        clear m11 vr_11 k12 vb_11
        have O1 : Hid (∀ j : Nat, j < 40 → (j : Int) ≠ a0 % 40 → V.rd j = 1000 + j) := fun j h1 h2 => (one.other j h2).trans (TR.out j h1)
        have O2 : Hid (wrap64 V.n = 1) := by show _ = _; rw [one.n, TN.out]; decide +kernel
        have O3 : Hid (V.last = ⟨V.last.kind, a0 % 40, 1000 + a0 % 40, V.rd (a0 % 40), V.last.ok⟩) := acc_eta _ one.pos (one.old.trans hrd.out) one.new
        clear one
        go_wp2_with fail
        go_loop [13] (fun i => ∃ j : Nat, j ≤ 40 ∧ i = .int .i64 j) (fun i => 40 - (intOf i).toNat)
        case atStart => exact ⟨0, by omega, rfl⟩
        case round =>
          obtain ⟨j, hj, rfl⟩ := hrel
          by_cases hlt : j < 40
          · have hb : Hid (T.rd j = 1000 + j) := TR.out j hlt
            rcases Decidable.em ((j : Int) = a0 % 40) with he | he
            · have hne : ((j : Int) != a0 % 40) = false := bne_f he
              clear he
              go_wp2_with fail
              (with_reducible refine (peek_x (1000 + j) hb.out m12 vb_12).mono ?_)
              rintro e w' ⟨rfl, rfl⟩
              go_wp2
              go_round
              case rel => exact ⟨j + 1, by omega, by go_num⟩
              case measure => simp [intOf]; omega
            · have hne : ((j : Int) != a0 % 40) = true := bne_t he
              have ha : Hid (V.rd j = 1000 + j) := O1.out j hlt he
              clear he
              go_wp2_with fail
              (with_reducible refine (peek_x (1000 + j) hb.out m12 vb_12).mono ?_)
              rintro e w' ⟨rfl, rfl⟩
              go_wp2_with fail
              (with_reducible refine (peek_x (1000 + j) ha.out m12 vr_12).mono ?_)
              rintro e w' ⟨rfl, rfl⟩
              go_wp2
              go_round
              case rel => exact ⟨j + 1, by omega, by go_num⟩
              case measure => simp [intOf]; omega
          · have hge : 40 ≤ j := by omega
            have g1 := fun (k p o n b : Value) (w : World) => (acc_fields k p o n b w).1
            have g2 := fun (k p o n b : Value) (w : World) => (acc_fields k p o n b w).2.1
            have g3 := fun (k p o n b : Value) (w : World) => (acc_fields k p o n b w).2.2
            go_wp2_with fail
            (with_reducible refine (accesses_x 1 O2.out m12 vr_12).mono ?_)
            rintro e w' ⟨rfl, rfl⟩
            go_wp2_with fail
            (with_reducible refine (accesses_x 0 (by rw [TN.out]; decide +kernel) m12 vb_12).mono ?_)
            rintro e w' ⟨rfl, rfl⟩
            go_wp2_with fail
            (with_reducible refine (last_x _ O3.out m12 vr_12).mono ?_)
            rintro e w31 ⟨rfl, m31⟩
            clear m12
            go_wp2_with fail
            (with_reducible refine (last_x _ O3.out m31 vr_12).mono ?_)
            rintro e w32 ⟨rfl, m32⟩
            clear m31
            go_wp2_with fail
            (with_reducible refine (last_x _ O3.out m32 vr_12).mono ?_)
            rintro e w33 ⟨rfl, m33⟩
            clear m32
            go_wp2_with fail
            (with_reducible refine (peek_v a d _ _ m33 vr_12).mono ?_)
            rintro e w' ⟨rfl, rfl⟩
            go_wp2_with fail
            go_returns
            exact ⟨rfl, m33.below⟩
  · go_enter Try.func9, Try.ntmps9
    go_wp2_with fail
    (with_reducible refine (arenaKnown hm).mono ?_)
    rintro e w1 ⟨rfl, m1⟩
    clear hm
    go_wp2_with fail
    (with_reducible refine (new_x 40 (by decide) m1).mono ?_)
    rintro e w2 ⟨a, d, h2, rfl, fa, fd, m2, va_2, k2⟩
    clear m1 k2 fa fd
    go_wp2_with fail
    go_loopw [10] (fun i wr => ∃ k : Nat, k ≤ 40 ∧ i = .int .i64 k ∧ ∃ h', Mem w h' wr ∧ IsV h' a d (toldN 40 k)) (fun i _ => 40 - (intOf i).toNat)
    case atStart => exact ⟨0, by omega, rfl, _, m2, va_2⟩
    case round =>
      obtain ⟨k, hk, rfl, hr, mr, vr⟩ := hrel
      clear m2 va_2
      by_cases hlt : k < 40
      · go_wp2_with fail
        (with_reducible refine (poke_v a d _ k (1000 + k) mr vr).mono ?_)
        rintro e wx ⟨rfl, hx, mx, vx, _⟩
        go_wp2
        go_roundw
        case rel => exact ⟨k + 1, by omega, by go_num, hx, mx, vx⟩
        case measure => simp [intOf]; omega
      · obtain rfl : k = 40 := by omega
        rw [HT.out] at vr
        go_wp2_with fail
        (with_reducible refine (copy_v a d _ mr vr).mono ?_)
        rintro e w11 ⟨b, c, h11, rfl, fb, fc, m11, vb_11, k11⟩
        obtain ⟨a_b, d_b⟩ := vr.apart fb
        obtain ⟨a_c, d_c⟩ := vr.apart fc
        have b_a := Ne.symm a_b
        have b_d := Ne.symm d_b
        have c_a := Ne.symm a_c
        have c_d := Ne.symm d_c
        have vr_11 := vr.other k11 a_b a_c d_b d_c
        clear mr k11 vr fb fc
        go_wp2_with fail
        (with_reducible refine (swap_v a d _ _ _ _ m11 vr_11).mono ?_)
        rintro e w12 ⟨rfl, hp⟩
        obtain ⟨V, one, h12, m12, vr_12, k12⟩ := arp_is hp (Q := fun V => OneOp T V (a0 % 40)) (OneOp.swap _ _ _ _ hin.out)
        clear hp
        have vb_12 := vb_11.other k12 b_a b_d c_a c_d
        clear m11 vr_11 k12 vb_11
        have O1 : Hid (∀ j : Nat, j < 40 → (j : Int) ≠ a0 % 40 → V.rd j = 1000 + j) := fun j h1 h2 => (one.other j h2).trans (TR.out j h1)
        have O2 : Hid (wrap64 V.n = 1) := by show _ = _; rw [one.n, TN.out]; decide +kernel
        have O3 : Hid (V.last = ⟨V.last.kind, a0 % 40, 1000 + a0 % 40, V.rd (a0 % 40), V.last.ok⟩) := acc_eta _ one.pos (one.old.trans hrd.out) one.new
        clear one
        go_wp2_with fail
        go_loop [13] (fun i => ∃ j : Nat, j ≤ 40 ∧ i = .int .i64 j) (fun i => 40 - (intOf i).toNat)
        case atStart => exact ⟨0, by omega, rfl⟩
        case round =>
          obtain ⟨j, hj, rfl⟩ := hrel
          by_cases hlt : j < 40
          · have hb : Hid (T.rd j = 1000 + j) := TR.out j hlt
            rcases Decidable.em ((j : Int) = a0 % 40) with he | he
            · have hne : ((j : Int) != a0 % 40) = false := bne_f he
              clear he
              go_wp2_with fail
              (with_reducible refine (peek_x (1000 + j) hb.out m12 vb_12).mono ?_)
              rintro e w' ⟨rfl, rfl⟩
              go_wp2
              go_round
              case rel => exact ⟨j + 1, by omega, by go_num⟩
              case measure => simp [intOf]; omega
            · have hne : ((j : Int) != a0 % 40) = true := bne_t he
              have ha : Hid (V.rd j = 1000 + j) := O1.out j hlt he
              clear he
              go_wp2_with fail
              (with_reducible refine (peek_x (1000 + j) hb.out m12 vb_12).mono ?_)
              rintro e w' ⟨rfl, rfl⟩
              go_wp2_with fail
              (with_reducible refine (peek_x (1000 + j) ha.out m12 vr_12).mono ?_)
              rintro e w' ⟨rfl, rfl⟩
              go_wp2
              go_round
              case rel => exact ⟨j + 1, by omega, by go_num⟩
              case measure => simp [intOf]; omega
          · have hge : 40 ≤ j := by omega
            have g1 := fun (k p o n b : Value) (w : World) => (acc_fields k p o n b w).1
            have g2 := fun (k p o n b : Value) (w : World) => (acc_fields k p o n b w).2.1
            have g3 := fun (k p o n b : Value) (w : World) => (acc_fields k p o n b w).2.2
            go_wp2_with fail
            (with_reducible refine (accesses_x 1 O2.out m12 vr_12).mono ?_)
            rintro e w' ⟨rfl, rfl⟩
            go_wp2_with fail
            (with_reducible refine (accesses_x 0 (by rw [TN.out]; decide +kernel) m12 vb_12).mono ?_)
            rintro e w' ⟨rfl, rfl⟩
            go_wp2_with fail
            (with_reducible refine (last_x _ O3.out m12 vr_12).mono ?_)
            rintro e w31 ⟨rfl, m31⟩
            clear m12
            go_wp2_with fail
            (with_reducible refine (last_x _ O3.out m31 vr_12).mono ?_)
            rintro e w32 ⟨rfl, m32⟩
            clear m31
            go_wp2_with fail
            (with_reducible refine (last_x _ O3.out m32 vr_12).mono ?_)
            rintro e w33 ⟨rfl, m33⟩
            clear m32
            go_wp2_with fail
            (with_reducible refine (peek_v a d _ _ m33 vr_12).mono ?_)
            rintro e w' ⟨rfl, rfl⟩
            go_wp2_with fail
            go_returns
            exact ⟨rfl, m33.below⟩
  · go_enter Try.func9, Try.ntmps9
    go_wp2_with fail
    (with_reducible refine (arenaKnown hm).mono ?_)
    rintro e w1 ⟨rfl, m1⟩
    clear hm
    go_wp2_with fail
    (with_reducible refine (new_x 40 (by decide) m1).mono ?_)
    rintro e w2 ⟨a, d, h2, rfl, fa, fd, m2, va_2, k2⟩
    clear m1 k2 fa fd
    go_wp2_with fail
    go_loopw [10] (fun i wr => ∃ k : Nat, k ≤ 40 ∧ i = .int .i64 k ∧ ∃ h', Mem w h' wr ∧ IsV h' a d (toldN 40 k)) (fun i _ => 40 - (intOf i).toNat)
    case atStart => exact ⟨0, by omega, rfl, _, m2, va_2⟩
    case round =>
      obtain ⟨k, hk, rfl, hr, mr, vr⟩ := hrel
      clear m2 va_2
      by_cases hlt : k < 40
      · go_wp2_with fail
        (with_reducible refine (poke_v a d _ k (1000 + k) mr vr).mono ?_)
        rintro e wx ⟨rfl, hx, mx, vx, _⟩
        go_wp2
        go_roundw
        case rel => exact ⟨k + 1, by omega, by go_num, hx, mx, vx⟩
        case measure => simp [intOf]; omega
      · obtain rfl : k = 40 := by omega
        rw [HT.out] at vr
        go_wp2_with fail
        (with_reducible refine (copy_v a d _ mr vr).mono ?_)
        rintro e w11 ⟨b, c, h11, rfl, fb, fc, m11, vb_11, k11⟩
        obtain ⟨a_b, d_b⟩ := vr.apart fb
        obtain ⟨a_c, d_c⟩ := vr.apart fc
        have b_a := Ne.symm a_b
        have b_d := Ne.symm d_b
        have c_a := Ne.symm a_c
        have c_d := Ne.symm d_c
        have vr_11 := vr.other k11 a_b a_c d_b d_c
        clear mr k11 vr fb fc
        go_wp2_with fail
        (with_reducible refine (add_v a d _ _ _ m11 vr_11).mono ?_)
        rintro e w12 ⟨rfl, hp⟩
        obtain ⟨V, one, h12, m12, vr_12, k12⟩ := arp_is hp (Q := fun V => OneOp T V (a0 % 40)) (OneOp.add _ _ _ hin.out)
        clear hp
        have vb_12 := vb_11.other k12 b_a b_d c_a c_d
        clear m11 vr_11 k12 vb_11
        have O1 : Hid (∀ j : Nat, j < 40 → (j : Int) ≠ a0 % 40 → V.rd j = 1000 + j) := fun j h1 h2 => (one.other j h2).trans (TR.out j h1)
        have O2 : Hid (wrap64 V.n = 1) := by show _ = _; rw [one.n, TN.out]; decide +kernel
        have O3 : Hid (V.last = ⟨V.last.kind, a0 % 40, 1000 + a0 % 40, V.rd (a0 % 40), V.last.ok⟩) := acc_eta _ one.pos (one.old.trans hrd.out) one.new
        clear one
        go_wp2_with fail
        go_loop [13] (fun i => ∃ j : Nat, j ≤ 40 ∧ i = .int .i64 j) (fun i => 40 - (intOf i).toNat)
        case atStart => exact ⟨0, by omega, rfl⟩
        case round =>
          obtain ⟨j, hj, rfl⟩ := hrel
          by_cases hlt : j < 40
          · have hb : Hid (T.rd j = 1000 + j) := TR.out j hlt
            rcases Decidable.em ((j : Int) = a0 % 40) with he | he
            · have hne : ((j : Int) != a0 % 40) = false := bne_f he
              clear he
              go_wp2_with fail
              (with_reducible refine (peek_x (1000 + j) hb.out m12 vb_12).mono ?_)
              rintro e w' ⟨rfl, rfl⟩
              go_wp2
              go_round
              case rel => exact ⟨j + 1, by omega, by go_num⟩
              case measure => simp [intOf]; omega
            · have hne : ((j : Int) != a0 % 40) = true := bne_t he
              have ha : Hid (V.rd j = 1000 + j) := O1.out j hlt he
              clear he
              go_wp2_with fail
              (with_reducible refine (peek_x (1000 + j) hb.out m12 vb_12).mono ?_)
              rintro e w' ⟨rfl, rfl⟩
              go_wp2_with fail
              (with_reducible refine (peek_x (1000 + j) ha.out m12 vr_12).mono ?_)
              rintro e w' ⟨rfl, rfl⟩
              go_wp2
              go_round
              case rel => exact ⟨j + 1, by omega, by go_num⟩
              case measure => simp [intOf]; omega
          · have hge : 40 ≤ j := by omega
            have g1 := fun (k p o n b : Value) (w : World) => (acc_fields k p o n b w).1
            have g2 := fun (k p o n b : Value) (w : World) => (acc_fields k p o n b w).2.1
            have g3 := fun (k p o n b : Value) (w : World) => (acc_fields k p o n b w).2.2
            go_wp2_with fail
            (with_reducible refine (accesses_x 1 O2.out m12 vr_12).mono ?_)
            rintro e w' ⟨rfl, rfl⟩
            go_wp2_with fail
            (with_reducible refine (accesses_x 0 (by rw [TN.out]; decide +kernel) m12 vb_12).mono ?_)
            rintro e w' ⟨rfl, rfl⟩
            go_wp2_with fail
            (with_reducible refine (last_x _ O3.out m12 vr_12).mono ?_)
            rintro e w31 ⟨rfl, m31⟩
            clear m12
            go_wp2_with fail
            (with_reducible refine (last_x _ O3.out m31 vr_12).mono ?_)
            rintro e w32 ⟨rfl, m32⟩
            clear m31
            go_wp2_with fail
            (with_reducible refine (last_x _ O3.out m32 vr_12).mono ?_)
            rintro e w33 ⟨rfl, m33⟩
            clear m32
            go_wp2_with fail
            (with_reducible refine (peek_v a d _ _ m33 vr_12).mono ?_)
            rintro e w' ⟨rfl, rfl⟩
            go_wp2_with fail
            go_returns
            exact ⟨rfl, m33.below⟩

end Go.Proofs.Ytceliebbpkgifaa
