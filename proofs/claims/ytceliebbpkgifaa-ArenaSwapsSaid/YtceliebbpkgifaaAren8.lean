/- The walk of ArenaSwaps. -/
import Derived.Test.YtceliebbpkgifaaAren7
namespace Go.Proofs.Ytceliebbpkgifaa
open Go.RowKit

/-- The sum of the first numbers, going round. -/
def swSum (z : List Int) : Nat → Int
  | 0 => 0
  | k + 1 => wrap64 (swSum z k + z.getD k 0)

/-- Behind k swaps. -/
def SwInv (x : Int) (k : Nat) (V : Vw) (won : Int) : Prop :=
  V.ws.length = 4 ∧ V.n = k ∧ V.rd 3 = 0 ∧ ((k = 0 ∧ V.rd 2 = x ∧ won = 0) ∨ (1 ≤ k ∧ V.rd 2 = wrap64 (x + 1) ∧ won = 1))
/-- Behind m swaps and k adds. -/
def AdInv (x : Int) (z : List Int) (m k : Nat) (V : Vw) : Prop := V.ws.length = 4 ∧ V.n = m + k ∧ V.rd 3 = swSum z k ∧ V.rd 2 = wrap64 (x + 1)

theorem rd_swap (V : Vw) (i o n j : Int) (hi : V.inb i) : (V.swap i o n).rd j = if i = j ∧ V.swaps i o = true then n else V.rd j := by
  show (if V.swaps i o then V.wr i n else V).rd j = _
  cases e : V.swaps i o
  · simp
  · simp only [if_true]
    rw [rd_wr _ _ _ _ hi]
    by_cases h : i = j <;> simp [h]
theorem swap_n (V : Vw) (i o n : Int) : (V.swap i o n).n = V.n + 1 := by
  show (if V.swaps i o then V.wr i n else V).n + 1 = _
  split
  · rw [vwr_n]
  · rfl
theorem swap_len (V : Vw) (i o n : Int) : (V.swap i o n).ws.length = V.ws.length := by
  show (if V.swaps i o then V.wr i n else V).ws.length = _
  split <;> simp

theorem SwInv.first {x y : Int} {V : Vw} (h : SwInv x 0 V 0) (hy : y = wrap64 (x + 1)) : V.swaps 2 x = true ∧ SwInv x 1 (V.swap 2 x y) 1 := by
  obtain ⟨h1, h2, h3, h4⟩ := h
  have hi : V.inb 2 := ⟨by decide, by rw [h1]; decide⟩
  have hr : V.rd 2 = x := by rcases h4 with ⟨_, a, _⟩ | ⟨a, _, _⟩ <;> omega
  have hs : V.swaps 2 x = true := decide_eq_true ⟨hi, hr⟩
  refine ⟨hs, by rw [swap_len]; exact h1, by rw [swap_n, h2]; rfl, ?_, .inr ⟨by omega, ?_, rfl⟩⟩
  · rw [rd_swap _ _ _ _ _ hi, if_neg (by omega)]; exact h3
  · rw [rd_swap _ _ _ _ _ hi, if_pos ⟨rfl, hs⟩]; exact hy
theorem SwInv.next {x y won : Int} {k : Nat} {V : Vw} (h : SwInv x k V won) (hk : 1 ≤ k) : V.swaps 2 x = false ∧ SwInv x (k + 1) (V.swap 2 x y) 1 ∧ won = 1 := by
  obtain ⟨h1, h2, h3, h4⟩ := h
  have hi : V.inb 2 := ⟨by decide, by rw [h1]; decide⟩
  rcases h4 with ⟨a, _, _⟩ | ⟨_, h4, h5⟩
  · omega
  have hs : V.swaps 2 x = false := decide_eq_false (fun q => by have := q.2; rw [h4] at this; unfold wrap64 at this; omega)
  refine ⟨hs, ⟨by rw [swap_len]; exact h1, by rw [swap_n, h2]; simp, ?_, .inr ⟨by omega, ?_, rfl⟩⟩, h5⟩
  · rw [rd_swap _ _ _ _ _ hi, if_neg (by omega)]; exact h3
  · rw [rd_swap _ _ _ _ _ hi, if_neg (by rw [hs]; simp)]; exact h4
theorem SwInv.start (x : Int) : SwInv x 0 ((Vw.fresh 4).wr 2 x) 0 := by
  have hi : (Vw.fresh 4).inb 2 := ⟨by decide, by decide⟩
  refine ⟨by simp [Vw.fresh], rfl, ?_, .inl ⟨rfl, ?_, rfl⟩⟩
  · rw [rd_wr _ _ _ _ hi, if_neg (by decide), fresh_rd]
  · rw [rd_wr _ _ _ _ hi, if_pos rfl]
theorem SwInv.adds {x won : Int} {m : Nat} {V : Vw} (h : SwInv x m V won) (hm : 1 ≤ m) (z : List Int) : AdInv x z m 0 V ∧ won = 1 := by
  obtain ⟨h1, h2, h3, h4⟩ := h
  rcases h4 with ⟨a, _, _⟩ | ⟨_, h4, h5⟩
  · omega
  exact ⟨⟨h1, by simpa using h2, h3, h4⟩, h5⟩
theorem AdInv.next {x : Int} {z : List Int} {m k : Nat} {V : Vw} (h : AdInv x z m k V) : V.rd 3 = swSum z k ∧ AdInv x z m (k + 1) (V.add 3 (z.getD k 0)) := by
  obtain ⟨h1, h2, h3, h4⟩ := h
  have hi : V.inb 3 := ⟨by decide, by rw [h1]; decide⟩
  refine ⟨h3, by show (V.wr 3 _).ws.length = 4; simpa using h1, ?_, ?_, ?_⟩
  · show (V.wr 3 _).n + 1 = _; rw [vwr_n, h2]; simp; omega
  · show (V.wr 3 _).rd 3 = _; rw [rd_wr _ _ _ _ hi, if_pos rfl, h3]; rfl
  · show (V.wr 3 _).rd 2 = _; rw [rd_wr _ _ _ _ hi, if_neg (by decide), h4]

set_option maxRecDepth 100000 in
set_option maxHeartbeats 4000000 in
theorem arenaSwaps_walk (w : World) (a0 a1 : Int) (a2 : Option Addr) (len2 cap2 : Nat) (z2 : List Int) (w0 : (Lit.int .u8 a0).wf = true) (_w1 : (Lit.int .i64 a1).wf = true) (w2 : IsRow .i8 w a2 len2 cap2 z2) :
    Calls Try.prog 10 #[.int .u8 a0, .int .i64 a1, .slice a2 len2 cap2] w fun e w' => e = .returned (.bool true) ∧ Below w.heap.size w w' := by
  have hm := Mem.start w
  obtain ⟨l0, u0⟩ := wf_u8_bounds w0
  clear w0
  by_cases hbig : 40 < len2
  · have hbig' : (40 : Int) < (len2 : Int) := by omega
    clear w2
    go_enter Try.func10, Try.ntmps10
    go_wp2_with (go_at_call 28; (with_reducible refine (arenaKnown hm).mono ?_); rintro e w' ⟨rfl, hm'⟩)
    go_returns
    exact ⟨rfl, hm'.below⟩
  have hlen : ¬ (40 : Int) < (len2 : Int) := by omega
  obtain ⟨m, m1, m2⟩ : ∃ m : Nat, (m : Int) ≤ a0 % 10 + 1 ∧ a0 % 10 + 1 ≤ (m : Int) := ⟨(a0 % 10 + 1).toNat, by omega, by omega⟩
  have hread : Hid (∀ j, j < len2 → ∃ b off, a2 = some ⟨b, off, none⟩ ∧ b < w.heap.size ∧ w.cell? ⟨b, off + j, none⟩ = some (.int .i8 (z2.getD j 0)) ∧ -128 ≤ z2.getD j 0 ∧ z2.getD j 0 ≤ 127) := by
    intro j hj
    rcases w2 with h | ⟨b, off, e, hl, _, hz, hc, hw⟩
    · omega
    · have h1 := hc j (by omega)
      have h2 : z2.getD j 0 ∈ z2 := by rw [List.getD_eq_getElem?_getD, List.getElem?_eq_getElem (by omega)]; exact List.getElem_mem _
      exact ⟨b, off, e, World.block_lt_of_cell? w _ h1, h1, wf_i8_bounds (hw _ h2)⟩
  clear w2 hbig
  go_enter Try.func10, Try.ntmps10
  go_wp2_with fail
  (with_reducible refine (arenaKnown hm).mono ?_)
  rintro e w1 ⟨rfl, m1⟩
  clear hm
  go_wp2_with fail
  (with_reducible refine (new_x 4 (by decide) m1).mono ?_)
  rintro e w2 ⟨a, d, h2, rfl, fa, fd, m2, va_2, k2⟩
  clear m1 k2 fa fd
  go_wp2_with fail
  (with_reducible refine (poke_v a d _ 2 a1 m2 va_2).mono ?_)
  rintro e w3 ⟨rfl, h3, m3, va_3, k3⟩
  clear m2 va_2 k3
  go_wp2_with fail
  go_loopw [8, 9] (fun won i wr => ∃ (k : Nat) (q : Int), k ≤ m ∧ i = .int .i64 k ∧ won = .int .i64 q ∧ ∃ h' V, Mem w h' wr ∧ IsV h' a d V ∧ SwInv a1 k V q) (fun _ i _ => m - (intOf i).toNat)
  case atStart => exact ⟨0, 0, by omega, rfl, rfl, _, _, m3, va_3, SwInv.start a1⟩
  case round =>
    obtain ⟨k, q, hk, rfl, rfl, hr, V, mr, vr, inv⟩ := hrel
    have INV := Lib.hid inv
    clear m3 va_3 inv
    by_cases hlt : k < m
    · by_cases k0 : k = 0
      · subst k0
        obtain rfl : q = 0 := by rcases INV.out.2.2.2 with ⟨_, _, e⟩ | ⟨e, _, _⟩ <;> omega
        go_wp2_with fail
        have sw : ∀ y, y = wrap64 (a1 + 1) → Calls Try.prog 35 #[.pointer (some ⟨a, 0, none⟩), .int .i64 2, .int .i64 a1, .int .i64 y] wr fun e w' => e = .returned (.bool true) ∧ ∃ h' V', Mem w h' w' ∧ IsV h' a d V' ∧ SwInv a1 1 V' 1 := fun y hy =>
          (swap_x true (INV.out.first hy).1 mr vr).mono fun e w' ⟨he, h', m', v', _⟩ => ⟨he, h', _, m', v', (INV.out.first hy).2⟩
        (with_reducible refine (sw _ ?hy).mono ?_)
        case hy => unfold wrap64; simp
        rintro e wx ⟨rfl, hx, V', mx, vx, ix⟩
        have IX := Lib.hid ix
        clear ix sw
        go_wp2
        go_roundw
        case rel => exact ⟨1, 1, by omega, rfl, rfl, hx, V', mx, vx, IX.out⟩
        case measure => simp [intOf]; omega
      · obtain rfl : q = 1 := (INV.out.next (y := 0) (by omega)).2.2
        go_wp2_with fail
        have sw : ∀ y, Calls Try.prog 35 #[.pointer (some ⟨a, 0, none⟩), .int .i64 2, .int .i64 a1, .int .i64 y] wr fun e w' => e = .returned (.bool false) ∧ ∃ h' V', Mem w h' w' ∧ IsV h' a d V' ∧ SwInv a1 (k + 1) V' 1 := fun y =>
          (swap_x false (INV.out.next (y := y) (by omega)).1 mr vr).mono fun e w' ⟨he, h', m', v', _⟩ => ⟨he, h', _, m', v', (INV.out.next (y := y) (by omega)).2.1⟩
        (with_reducible refine (sw _).mono ?_)
        rintro e wx ⟨rfl, hx, V', mx, vx, ix⟩
        have IX := Lib.hid ix
        clear ix sw
        go_wp2
        go_roundw
        case rel => exact ⟨k + 1, 1, by omega, by go_num, rfl, hx, V', mx, vx, IX.out⟩
        case measure => simp [intOf]; omega
    · obtain rfl : k = m := by omega
      have ad := INV.out.adds (by omega) z2
      obtain rfl : q = 1 := ad.2
      have AD := Lib.hid ad.1
      clear ad INV
      go_wp2_with fail
      go_loopw [10, 11] (fun sum i wr => ∃ j : Nat, j ≤ len2 ∧ i = .int .i64 j ∧ sum = .int .i64 (swSum z2 j) ∧ ∃ h' V, Mem w h' wr ∧ IsV h' a d V ∧ AdInv a1 z2 k j V) (fun _ i _ => len2 - (intOf i).toNat)
      case atStart => exact ⟨0, by omega, rfl, rfl, _, _, mr, vr, AD.out⟩
      case round =>
        obtain ⟨j, hj, rfl, rfl, hs, V2, ms, vs, inv⟩ := hrel
        have INV := Lib.hid inv
        clear inv mr vr
        by_cases hlt2 : j < len2
        · obtain ⟨b, off, rfl, hb, hcell, hz1, hz2⟩ := hread.out j hlt2
          obtain ⟨zj, hzj⟩ : ∃ zj, z2.getD j 0 = zj := ⟨_, rfl⟩
          have hne : (swSum z2 j != swSum z2 j) = false := by simp
          rw [hzj] at hz1 hz2 hcell
          have hc1 := (ms.below.cell (p := ⟨b, off + j, none⟩) hb).trans hcell
          have ZJ := Lib.hid hzj
          have nx := INV.out.next
          rw [hzj] at nx
          have NX := Lib.hid nx
          clear hzj hcell nx
          go_wp2_with fail
          have ad : Calls Try.prog 37 #[.pointer (some ⟨a, 0, none⟩), .int .i64 3, .int .i64 zj] wr fun e w' => e = .returned (.int .i64 (swSum z2 j)) ∧ ∃ h' V', Mem w h' w' ∧ IsV h' a d V' ∧ AdInv a1 z2 k (j + 1) V' :=
            (add_x (swSum z2 j) NX.out.1 ms vs).mono fun e w' ⟨he, h', m', v', _⟩ => ⟨he, h', _, m', v', NX.out.2⟩
          (with_reducible refine ad.mono ?_)
          clear ad
          rintro e wx ⟨rfl, hx, V', mx, vx, ix⟩
          have IX := Lib.hid ix
          have hc2 := (mx.below.cell (p := ⟨b, off + j, none⟩) hb).trans ((ms.below.cell (p := ⟨b, off + j, none⟩) hb).symm.trans hc1)
          clear ix hc1
          go_wp2
          go_roundw
          case rel => exact ⟨j + 1, by omega, by go_num, by rw [swSum, ZJ.out], hx, V', mx, vx, IX.out⟩
          case measure => simp [intOf]; omega
        · obtain rfl : j = len2 := by omega
          obtain ⟨_, v2, v3, v4⟩ := INV.out
          have W2 := Lib.hid v2
          have W3 := Lib.hid v3
          have W4 := Lib.hid v4
          clear v2 v3 v4
          go_wp2_with fail
          (with_reducible refine (peek_x (wrap64 (a1 + 1)) W4.out ms vs).mono ?_)
          rintro e w' ⟨rfl, rfl⟩
          go_wp2_with fail
          (with_reducible refine (peek_x (swSum z2 j) W3.out ms vs).mono ?_)
          rintro e w' ⟨rfl, rfl⟩
          go_wp2_with fail
          (with_reducible refine (accesses_x (a0 % 10 + 1 + j) (by rw [W2.out]; unfold wrap64; omega) ms vs).mono ?_)
          rintro e w' ⟨rfl, rfl⟩
          go_wp2_with fail
          go_returns
          exact ⟨rfl, ms.below⟩

end Go.Proofs.Ytceliebbpkgifaa
