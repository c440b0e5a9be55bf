/- The walk of PlaceApart. -/
import Derived.Test.YtceliebbpkgifaaPlaceWordsW
import Derived.Test.YtceliebbpkgifaaInts
import Derived.Deep.RegionHeld3
namespace Go.Proofs.Ytceliebbpkgifaa
open Go.RowKit Go.Maps

/-- The j-th place that is looked at. -/
def sg (n j : Nat) : Nat := if j < n + 7 then j else if j < n + 21 then n + 7 + (j - (n + 7)) / 2 + 7 * ((j - (n + 7)) % 2) else j
/-- When a place is looked at. -/
def ta (n x : Nat) : Nat := if x < n + 7 then x else if x < n + 14 then n + 7 + 2 * (x - (n + 7)) else if x < n + 21 then n + 8 + 2 * (x - (n + 14)) else x
theorem ta_sg (n j : Nat) : ta n (sg n j) = j := by
  unfold ta sg; repeat' split
  all_goals omega
theorem sg_of (n x j : Nat) (h : ta n x = j) : x = sg n j := by
  subst h
  unfold ta sg; repeat' split
  all_goals omega
theorem sg_lt (n j T : Nat) (h : n + 21 ≤ T) (hj : j < T) : sg n j < T := by
  unfold sg; repeat' split
  all_goals omega

def Ls (n m : Nat) : List Int := (List.range m).map fun j => (sg n j : Int)
theorem Ls_len (n m : Nat) : (Ls n m).length = m := by simp [Ls]
theorem Ls_succ (n m : Nat) : Ls n (m + 1) = Ls n m ++ [(sg n m : Int)] := by simp [Ls, List.range_succ]
theorem Ls_get (n m j : Nat) (hj : j < m) : ((Ls n m).map (Value.int .i64))[j]? = some (.int .i64 (sg n j)) := by simp [Ls, hj]

/-- The marks once j places have been looked at. -/
def uarr (n j : Nat) : Array Value := ((List.range 500).map fun x => Value.int .i64 (if ta n x < j then 1 else 0)).toArray
theorem uarr_get (n j x : Nat) (hx : x < 500) : (uarr n j)[x]? = some (.int .i64 (if ta n x < j then 1 else 0)) := by simp [uarr, hx]
theorem uarr_set (n j : Nat) : (uarr n j).setIfInBounds (sg n j) (.int .i64 1) = uarr n (j + 1) := by
  apply Array.ext
  · simp [uarr]
  · intro x h1 h2
    have hx : x < 500 := by simpa [uarr] using h2
    rw [Array.getElem_setIfInBounds (by simpa [uarr] using h1)]
    by_cases e : sg n j = x
    · subst e
      rw [if_pos rfl]
      simp [uarr, ta_sg]
    · rw [if_neg e]
      have : ta n x ≠ j := fun q => e (sg_of n x j q).symm
      simp only [uarr, List.getElem_toArray, List.getElem_map, List.getElem_range]
      congr 1
      split <;> split <;> first | rfl | (exfalso; omega)
theorem zeros500 : Try.zeroCells64 = (List.replicate 500 (Value.int .i64 0)).toArray := by kernel_rfl
theorem uarr_zero (n : Nat) : uarr n 0 = Try.zeroCells64 := by
  rw [zeros500]
  unfold uarr
  exact congrArg List.toArray (List.eq_replicate_iff.2 ⟨by rw [List.length_map, List.length_range], fun b hb => by obtain ⟨x, _, rfl⟩ := List.mem_map.1 hb; rw [if_neg (Nat.not_lt_zero _)]⟩)

theorem hint_x (r : Int) {c : Cf} (hc : c.inb) (key : Int) (k0 : 0 ≤ key) (k1 : key ≤ 63) (hr : 3 + c.threads + key / 16 = r) (w : World) :
    Calls Try.prog 51 #[encC c, .int .i64 key] w fun e w' => e = .returned (.int .i64 r) ∧ Below w.heap.size w w' := by
  have := hint_calls c hc key k0 k1 w
  rwa [hr] at this

set_option maxRecDepth 100000 in
set_option maxHeartbeats 8000000 in
theorem placeApart_walk (a0 a1 : Int) (v0 : (Lit.int .u8 a0).wf = true) (v1 : (Lit.int .u8 a1).wf = true) (w : World) :
    Calls Try.prog 14 #[.int .u8 a0, .int .u8 a1] w fun e w' => e = .returned (.bool true) ∧ Below w.heap.size w w' := by
  have hm := Mem.start w
  obtain ⟨l0, u0⟩ := wf_u8_bounds v0
  obtain ⟨l1, u1⟩ := wf_u8_bounds v1
  have d0 : 0 ≤ a0 % 8 := by omega
  have d1 : a0 % 8 ≤ 7 := by omega
  have d2 : 0 ≤ a1 % (16 - (a0 % 8 + 1) - 1) := Int.emod_nonneg _ (by omega)
  have d3 : a1 % (16 - (a0 % 8 + 1) - 1) < 16 - (a0 % 8 + 1) - 1 := Int.emod_lt_of_pos _ (by omega)
  go_enter Try.func14, Try.ntmps14
  go_wp2_with fail
  (with_reducible refine (placeKnown hm).mono ?_)
  rintro e w1 ⟨rfl, m1⟩
  clear hm
  go_wp2_with fail
  (with_reducible refine (conf_calls _ _ _ _).mono ?_)
  rintro e w2 ⟨rfl, b2⟩
  have hC0 : a0 % 8 + 1 + 2 ≤ a0 % 8 + 1 + 2 + a1 % (16 - (a0 % 8 + 1) - 1) := by omega
  have hC1 : a0 % 8 + 1 + 2 + a1 % (16 - (a0 % 8 + 1) - 1) ≤ 16 := by omega
  have hN0 : 1 ≤ a0 % 8 + 1 := by omega
  have hN1 : a0 % 8 + 1 ≤ 8 := by omega
  generalize a0 % 8 + 1 + 2 + a1 % (16 - (a0 % 8 + 1) - 1) = C at *
  generalize a0 % 8 + 1 = N at *
  clear v0 v1 d0 d1 d2 d3 l0 u0 l1 u1
  obtain ⟨n, rfl⟩ := Int.eq_ofNat_of_zero_le (show 0 ≤ N by omega)
  obtain ⟨cc, rfl⟩ := Int.eq_ofNat_of_zero_le (show 0 ≤ C by omega)
  have m2 := (m1.grown b2).keep #[.int .i64 n, .int .i64 cc, .int .i64 500, .int .i64 1000] 59
  have in0 : (⟨n, cc, 500, 1000⟩ : Cf).inb := ⟨hN0, hN1, by show (1 : Int) ≤ cc; omega, hC1⟩
  have hT : (⟨n, cc, 500, 1000⟩ : Cf).top = ((n + 21 + 3 * cc : Nat) : Int) := by unfold Cf.top Cf.first Cf.head Cf.size; simp only; omega
  have hF : (⟨n, cc, 500, 1000⟩ : Cf).first = n + 14 := by unfold Cf.first Cf.head; simp only; omega
  have hH : (⟨n, cc, 500, 1000⟩ : Cf).head = n + 7 := by unfold Cf.head; simp only; omega
  have tp := fun w => top_calls _ in0 w
  have ft := fun w => first_calls _ in0 w
  have hd := fun w => head_calls _ in0 w
  have hi := fun r k h0 h1 h2 w => hint_x r in0 k h0 h1 h2 w
  have sz := fun w => size_calls _ in0 w
  have hb : ¬ (⟨n, cc, 500, 1000⟩ : Cf).bad := by
    unfold Cf.bad
    have e1 := Cf.fails_yes (c := ⟨n, cc, 500, 1000⟩) (k := 0) ⟨hN0, hN1⟩
    have e2 := Cf.fails_yes (c := ⟨n, cc, 500, 1000⟩) (k := 1) ⟨by show (n : Int) ≤ cc; omega, hC1⟩
    have e3 := Cf.fails_yes (c := ⟨n, cc, 500, 1000⟩) (k := 2) ⟨by show (1 : Int) ≤ 1000; decide, by show (1000 : Int) ≤ 1048576; decide⟩
    have e4 := Cf.fails_yes (c := ⟨n, cc, 500, 1000⟩) (k := 3) ⟨by show (1 : Int) ≤ 500; decide, by show (500 : Int) ≤ 20000; decide⟩
    have e5 : (⟨n, cc, 500, 1000⟩ : Cf).fails 4 = 0 := e4.trans (e3.trans (e2.trans (e1.trans rfl)))
    rw [e5]
    show ¬ ((0 : Int) < 0 ∨ (cc : Int) - 2 < n)
    omega
  have his : (⟨n, cc, 500, 1000⟩ : Cf).is = 0 := by
    unfold Cf.is
    rw [if_neg hb, hT, if_neg (by show ¬ ((n + 21 + 3 * cc : Nat) : Int) > 500; omega)]
  have hwf : (⟨n, cc, 500, 1000⟩ : Cf).wf := ⟨wf_i64_of (by show _ ≤ (n : Int); omega) (by show (n : Int) ≤ _; omega), wf_i64_of (by show _ ≤ (cc : Int); omega) (by show (cc : Int) ≤ _; omega), by show (Lit.int .i64 500).wf = true; decide, by show (Lit.int .i64 1000).wf = true; decide⟩
  have isc := fun w => is_ok his hwf w
  rw [hT] at tp
  rw [hF] at ft
  rw [hH] at hd
  have hsz : (⟨n, cc, 500, 1000⟩ : Cf).size = 7 + 3 * cc := rfl
  rw [hsz] at sz
  have hlt := m2.lt (upd_same _ _ _)
  clear his hwf hb hT hF hH in0 hsz b2 m1
  simp only [encC] at *
  have c2 := upd_same none0 w2.heap.size (.cells #[.int .i64 n, .int .i64 cc, .int .i64 500, .int .i64 1000] 59)
  have q0 : (w2.alloc (.cells #[.int .i64 n, .int .i64 cc, .int .i64 500, .int .i64 1000] 59)).cell? ⟨w2.heap.size, 0, none⟩ = some (.int .i64 n) := m2.cell c2 0
  have q1 : (w2.alloc (.cells #[.int .i64 n, .int .i64 cc, .int .i64 500, .int .i64 1000] 59)).cell? ⟨w2.heap.size, 1, none⟩ = some (.int .i64 cc) := m2.cell c2 1
  have q2 : (w2.alloc (.cells #[.int .i64 n, .int .i64 cc, .int .i64 500, .int .i64 1000] 59)).cell? ⟨w2.heap.size, 2, none⟩ = some (.int .i64 500) := m2.cell c2 2
  have q3 : (w2.alloc (.cells #[.int .i64 n, .int .i64 cc, .int .i64 500, .int .i64 1000] 59)).cell? ⟨w2.heap.size, 3, none⟩ = some (.int .i64 1000) := m2.cell c2 3
  go_wp2_with fail
  (with_reducible refine (isc _).mono ?_)
  rintro e w3 ⟨rfl, b3⟩
  have m3 := m2.grown b3
  have hlt3 := m3.lt c2
  clear m2 b3 q0 q1 q2 q3 isc
  have m4 := (m3.keep Try.zeroCells64 64).keep #[.int .i64 0, .int .i64 1, .int .i64 2] 3
  have hs3 : (w3.alloc (.cells Try.zeroCells64 64)).heap.size = w3.heap.size + 1 := by show (w3.heap.push _).size = _; simp
  rw [hs3] at m4
  have z4 := IsSl.lit (size := 1) (upd (upd none0 w2.heap.size (.cells #[.int .i64 n, .int .i64 cc, .int .i64 500, .int .i64 1000] 59)) w3.heap.size (.cells Try.zeroCells64 64)) 3 (w3.heap.size + 1) 3 #[.int .i64 0, .int .i64 1, .int .i64 2] rfl (by unfold maxLen; omega)
  have c4 := (upd_other (upd (upd none0 w2.heap.size (.cells #[.int .i64 n, .int .i64 cc, .int .i64 500, .int .i64 1000] 59)) w3.heap.size (.cells Try.zeroCells64 64)) (.cells #[.int .i64 0, .int .i64 1, .int .i64 2] 3) (show w2.heap.size ≠ w3.heap.size + 1 by omega)).trans ((upd_other (upd none0 w2.heap.size (.cells #[.int .i64 n, .int .i64 cc, .int .i64 500, .int .i64 1000] 59)) (.cells Try.zeroCells64 64) (show w2.heap.size ≠ w3.heap.size by omega)).trans c2)
  have u4 := (upd_other (upd (upd none0 w2.heap.size (.cells #[.int .i64 n, .int .i64 cc, .int .i64 500, .int .i64 1000] 59)) w3.heap.size (.cells Try.zeroCells64 64)) (.cells #[.int .i64 0, .int .i64 1, .int .i64 2] 3) (show w3.heap.size ≠ w3.heap.size + 1 by omega)).trans (upd_same _ _ _)
  generalize hu : (upd (upd (upd none0 w2.heap.size (.cells #[.int .i64 n, .int .i64 cc, .int .i64 500, .int .i64 1000] 59)) w3.heap.size (.cells Try.zeroCells64 64)) (w3.heap.size + 1) (.cells #[.int .i64 0, .int .i64 1, .int .i64 2] 3)) = h4 at *
  have z5 : IsZs h4 (.slice (some ⟨w3.heap.size + 1, 0, none⟩) 3 3) (Ls n 3) := by
    have e : (Ls n 3).map (Value.int .i64) = #[.int .i64 0, .int .i64 1, .int .i64 2].toList := by
      have s0 : sg n 0 = 0 := if_pos (by omega)
      have s1 : sg n 1 = 1 := if_pos (by omega)
      have s2 : sg n 2 = 2 := if_pos (by omega)
      simp [Ls, List.range_succ, s0, s1, s2]
    unfold IsZs
    rw [Ls_len, e]
    exact z4
  clear hu m3 c2 z4 hs3
  go_wp2_with fail
  go_loopw [9, 8] (fun i v wr => ∃ k : Nat, k ≤ n ∧ i = .int .i64 k ∧ ∃ h, Mem w h wr ∧ IsZs h v (Ls n (3 + k)) ∧ h w2.heap.size = some (.cells #[.int .i64 n, .int .i64 cc, .int .i64 500, .int .i64 1000] 59) ∧ h w3.heap.size = some (.cells Try.zeroCells64 64)) (fun i _ _ => n - (intOf i).toNat)
  case atStart => exact ⟨0, by omega, rfl, _, m4, z5, c4, u4⟩
  case round =>
    obtain ⟨k, hk, rfl, h, mr, zr, cr, ur⟩ := hrel
    clear m4 z5 c4 u4
    by_cases hlt : k < n
    · go_wp2_with fail
      (with_reducible refine (psa_calls k (by omega) (by omega) _).mono ?_)
      rintro e wa ⟨rfl, rfl⟩
      go_wp2_with (first | (at_builtin; refine append_zs (mr.alloc _) zr rfl _ _ rfl rfl _ 1 _ _ [(3 : Int) + k] rfl (MapKept.heap_alloc _ _).1 rfl (by decide) (by rw [Ls_len]; omega) ?_; intro g cap wy o' my sy gy) | go_in)
      have e0 : sg n (3 + k) = 3 + k := by unfold sg; rw [if_pos (by omega)]
      have e : Ls n (3 + (k + 1)) = Ls n (3 + k) ++ [(3 : Int) + k] := by rw [show 3 + (k + 1) = 3 + k + 1 from rfl, Ls_succ, e0]; rfl
      have zn := sy
      rw [← e] at zn
      have cy := IsZs.other (o := o') zr cr (by decide) gy
      have uy := IsZs.other (o := o') zr ur (by decide) gy
      go_roundw
      case rel => exact ⟨k + 1, by omega, by go_num, _, my, zn, cy, uy⟩
      case measure => simp [intOf]; omega
    · obtain rfl : n = k := by omega
      have z5 := zr
      rw [show 3 + n = n + 3 + 0 from by omega] at z5
      have m5 := mr
      have c5 := cr
      have u5 := ur
      clear mr zr cr ur hk hlt
      go_wp2_with fail
      go_loopw [10, 8] (fun i v wr => ∃ k : Nat, k ≤ 4 ∧ i = .int .i64 k ∧ ∃ h, Mem w h wr ∧ IsZs h v (Ls n (n + 3 + k)) ∧ h w2.heap.size = some (.cells #[.int .i64 n, .int .i64 cc, .int .i64 500, .int .i64 1000] 59) ∧ h w3.heap.size = some (.cells Try.zeroCells64 64)) (fun i _ _ => 4 - (intOf i).toNat)
      case atStart => exact ⟨0, by omega, rfl, _, m5, z5, c5, u5⟩
      case round =>
        obtain ⟨k, hk, rfl, h, mr, zr, cr, ur⟩ := hrel
        clear m5 z5 c5 u5
        by_cases hlt : k < 4
        · have q0 : wr.cell? ⟨w2.heap.size, 0, none⟩ = some (.int .i64 n) := mr.cell cr 0
          have q1 : wr.cell? ⟨w2.heap.size, 1, none⟩ = some (.int .i64 cc) := mr.cell cr 1
          have q2 : wr.cell? ⟨w2.heap.size, 2, none⟩ = some (.int .i64 500) := mr.cell cr 2
          have q3 : wr.cell? ⟨w2.heap.size, 3, none⟩ = some (.int .i64 1000) := mr.cell cr 3
          go_wp2_with fail
          (with_reducible refine (hi (n + 3 + k) _ (by omega) (by omega) (by show (3 : Int) + n + 16 * k / 16 = _; omega) _).mono ?_)
          rintro e wa ⟨rfl, ba⟩
          have ma := mr.grown ba
          clear q0 q1 q2 q3 ba
          go_wp2_with (first | (at_builtin; refine append_zs (ma.alloc _) zr rfl _ _ rfl rfl _ 1 _ _ [(n : Int) + 3 + k] rfl (MapKept.heap_alloc _ _).1 rfl (by decide) (by rw [Ls_len]; omega) ?_; intro g cap wy o' my sy gy) | go_in)
          have e0 : sg n (n + 3 + k) = n + 3 + k := by unfold sg; rw [if_pos (by omega)]
          have e : Ls n (n + 3 + (k + 1)) = Ls n (n + 3 + k) ++ [(n : Int) + 3 + k] := by rw [show n + 3 + (k + 1) = n + 3 + k + 1 from rfl, Ls_succ, e0]; rfl
          have zn := sy
          rw [← e] at zn
          have cy := IsZs.other (o := o') zr cr (by decide) gy
          have uy := IsZs.other (o := o') zr ur (by decide) gy
          go_roundw
          case rel => exact ⟨k + 1, by omega, by go_num, _, my, zn, cy, uy⟩
          case measure => simp [intOf]; omega
        · obtain rfl : k = 4 := by omega
          rw [show ((4 : Nat) : Int) = 4 from rfl]
          have z5 := zr
          rw [show n + 3 + 4 = n + 7 + 2 * 0 from rfl] at z5
          have m5 := mr
          have c5 := cr
          have u5 := ur
          clear mr zr cr ur hk hlt
          go_wp2_with fail
          go_loopw [11, 8] (fun i v wr => ∃ k : Nat, k ≤ 7 ∧ i = .int .i64 k ∧ ∃ h, Mem w h wr ∧ IsZs h v (Ls n (n + 7 + 2 * k)) ∧ h w2.heap.size = some (.cells #[.int .i64 n, .int .i64 cc, .int .i64 500, .int .i64 1000] 59) ∧ h w3.heap.size = some (.cells Try.zeroCells64 64)) (fun i _ _ => 7 - (intOf i).toNat)
          case atStart => exact ⟨0, by omega, rfl, _, m5, z5, c5, u5⟩
          case round =>
            obtain ⟨k, hk, rfl, h, mr, zr, cr, ur⟩ := hrel
            clear m5 z5 c5 u5
            by_cases hlt : k < 7
            · have W7 : IntKind.i64.wrap ((n : Int) + 7 + k) = n + 7 + k := by rw [IntKind.wrap_i64]; omega
              have W14 : IntKind.i64.wrap ((n : Int) + 14 + k) = n + 14 + k := by rw [IntKind.wrap_i64]; omega
              go_wp2_with fail
              go_region_held3 (fun w' => w'.cell? ⟨w2.heap.size, 0, none⟩ = some (.int .i64 n) ∧ w'.cell? ⟨w2.heap.size, 1, none⟩ = some (.int .i64 cc) ∧ w'.cell? ⟨w2.heap.size, 2, none⟩ = some (.int .i64 500) ∧ w'.cell? ⟨w2.heap.size, 3, none⟩ = some (.int .i64 1000)) (first | exact ⟨(mr.drew).cell cr 0, (mr.drew).cell cr 1, (mr.drew).cell cr 2, (mr.drew).cell cr 3⟩ | exact ⟨mA.cell cr 0, mA.cell cr 1, mA.cell cr 2, mA.cell cr 3⟩ | exact ⟨mB.cell cr 0, mB.cell cr 1, mB.cell cr 2, mB.cell cr 3⟩ | exact ⟨(mB.alloc _).cell cr 0, (mB.alloc _).cell cr 1, (mB.alloc _).cell cr 2, (mB.alloc _).cell cr 3⟩ | exact ⟨my.cell cy 0, my.cell cy 1, my.cell cy 2, my.cell cy 3⟩) (first | (go_at_call 52; refine (hd _).mono ?_; rintro e wA ⟨rfl, bA⟩; have mA := (mr.drew).grown bA) | (go_at_call 53; refine (ft _).mono ?_; rintro e wB ⟨rfl, bB⟩; have mB := mA.grown bB) | (refine step_append_zs (mB.alloc _) zr rfl _ _ rfl rfl _ 2 _ _ [(n : Int) + 7 + k, (n : Int) + 14 + k] rfl (MapKept.heap_alloc _ _).1 rfl (by decide) (by rw [Ls_len]; omega) ?_; intro g cap wy o' my sy gy; have cy := IsZs.other (o := o') zr cr (by decide) gy; have uy := IsZs.other (o := o') zr ur (by decide) gy))
              have e0 : sg n (n + 7 + 2 * k) = n + 7 + k := by unfold sg; rw [if_neg (by omega), if_pos (by omega)]; omega
              have e1 : sg n (n + 7 + 2 * k + 1) = n + 14 + k := by unfold sg; rw [if_neg (by omega), if_pos (by omega)]; omega
              have e : Ls n (n + 7 + 2 * (k + 1)) = Ls n (n + 7 + 2 * k) ++ [(n : Int) + 7 + k, (n : Int) + 14 + k] := by
                rw [show n + 7 + 2 * (k + 1) = n + 7 + 2 * k + 1 + 1 from by omega, Ls_succ, Ls_succ, e0, e1, List.append_assoc]
                congr 1
              have zn := sy
              rw [← e] at zn
              go_wp2_with fail
              go_roundw
              case rel => exact ⟨k + 1, by omega, by go_num, _, my, zn, cy, uy⟩
              case measure => simp [intOf]; omega
            · obtain rfl : k = 7 := by omega
              rw [show ((7 : Nat) : Int) = 7 from rfl]
              have z5 := zr
              rw [show n + 7 + 2 * 7 = n + 21 + 3 * 0 from rfl] at z5
              have m5 := mr
              have c5 := cr
              have u5 := ur
              clear mr zr cr ur hk hlt
              go_wp2_with fail
              go_loopw [12, 8] (fun i v wr => ∃ k : Nat, k ≤ cc ∧ i = .int .i64 k ∧ ∃ h, Mem w h wr ∧ IsZs h v (Ls n (n + 21 + 3 * k)) ∧ h w2.heap.size = some (.cells #[.int .i64 n, .int .i64 cc, .int .i64 500, .int .i64 1000] 59) ∧ h w3.heap.size = some (.cells Try.zeroCells64 64)) (fun i _ _ => cc - (intOf i).toNat)
              case atStart => exact ⟨0, by omega, rfl, _, m5, z5, c5, u5⟩
              case round =>
                obtain ⟨k, hk, rfl, h, mr, zr, cr, ur⟩ := hrel
                clear m5 z5 c5 u5
                by_cases hlt : k < cc
                · have q0 : wr.cell? ⟨w2.heap.size, 0, none⟩ = some (.int .i64 n) := mr.cell cr 0
                  have q1 : wr.cell? ⟨w2.heap.size, 1, none⟩ = some (.int .i64 cc) := mr.cell cr 1
                  have q2 : wr.cell? ⟨w2.heap.size, 2, none⟩ = some (.int .i64 500) := mr.cell cr 2
                  have q3 : wr.cell? ⟨w2.heap.size, 3, none⟩ = some (.int .i64 1000) := mr.cell cr 3
                  go_wp2_with fail
                  (with_reducible refine (ft _).mono ?_)
                  rintro e wa ⟨rfl, ba⟩
                  have ma := mr.grown ba
                  clear q0 q1 q2 q3 ba
                  go_wp2_with fail
                  (with_reducible refine (state_calls _ _ (by omega) (by omega) (by omega) (by omega) _).mono ?_)
                  rintro e wb ⟨rfl, rfl⟩
                  go_wp2_with (first | (at_builtin; refine append_zs (ma.alloc _) zr rfl _ _ rfl rfl _ 3 _ _ [(n : Int) + 14 + 7 + 3 * k, (n : Int) + 14 + 7 + 3 * k + 1, (n : Int) + 14 + 7 + 3 * k + 2] rfl (MapKept.heap_alloc _ _).1 rfl (by decide) (by rw [Ls_len]; omega) ?_; intro g cap wy o' my sy gy) | go_in)
                  have e0 : sg n (n + 21 + 3 * k) = n + 21 + 3 * k := by unfold sg; rw [if_neg (by omega), if_neg (by omega)]
                  have e1 : sg n (n + 21 + 3 * k + 1) = n + 21 + 3 * k + 1 := by unfold sg; rw [if_neg (by omega), if_neg (by omega)]
                  have e2 : sg n (n + 21 + 3 * k + 1 + 1) = n + 21 + 3 * k + 2 := by unfold sg; rw [if_neg (by omega), if_neg (by omega)]
                  have e : Ls n (n + 21 + 3 * (k + 1)) = Ls n (n + 21 + 3 * k) ++ [(n : Int) + 14 + 7 + 3 * k, (n : Int) + 14 + 7 + 3 * k + 1, (n : Int) + 14 + 7 + 3 * k + 2] := by
                    rw [show n + 21 + 3 * (k + 1) = n + 21 + 3 * k + 1 + 1 + 1 from by omega, Ls_succ, Ls_succ, Ls_succ, e0, e1, e2, List.append_assoc, List.append_assoc]
                    congr 1
                  have zn := sy
                  rw [← e] at zn
                  have cy := IsZs.other (o := o') zr cr (by decide) gy
                  have uy := IsZs.other (o := o') zr ur (by decide) gy
                  go_roundw
                  case rel => exact ⟨k + 1, by omega, by go_num, _, my, zn, cy, uy⟩
                  case measure => simp [intOf]; omega
                · obtain rfl : cc = k := by omega
                  have q1 : wr.cell? ⟨w2.heap.size, 1, none⟩ = some (.int .i64 cc) := mr.cell cr 1
                  go_wp2_with fail
                  clear q1
                  have hTlen : (Ls n (n + 21 + 3 * cc)).length = n + 21 + 3 * cc := Ls_len _ _
                  unfold IsZs at zr
                  rw [hTlen] at zr
                  have hT1 : n + 21 + 3 * cc ≤ 100 := by omega
                  have hT0 : n + 21 ≤ n + 21 + 3 * cc := by omega
                  generalize hTT : n + 21 + 3 * cc = T at *
                  have HTT := Lib.hid hTT
                  clear hTT
                  obtain ⟨g, cap, rfl, hc1, hc2⟩ := IsSl.form zr (by omega)
                  have hgu : w3.heap.size ≠ g := by
                    rintro rfl
                    obtain ⟨cur, hcur⟩ := zr.block rfl
                    rw [ur] at hcur; cases hcur
                  have hgc : w2.heap.size ≠ w3.heap.size := by omega
                  have mu : Mem w (upd h w3.heap.size (.cells (uarr n 0) 64)) wr := mr.to (by rw [uarr_zero]; exact (upd_eq ur).symm)
                  have zu : ∀ j, IsSl (upd h w3.heap.size (.cells (uarr n j) 64)) 3 1 (.slice (some ⟨g, 0, none⟩) T cap) T ((Ls n T).map (.int .i64)) := fun j => zr.keep (fun k hk => by cases hk; exact upd_other _ _ (Ne.symm hgu))
                  have cu : ∀ j, upd h w3.heap.size (.cells (uarr n j) 64) w2.heap.size = some (.cells #[.int .i64 n, .int .i64 cc, .int .i64 500, .int .i64 1000] 59) := fun j => (upd_other _ _ hgc).trans cr
                  have hle := mr.lt cr
                  clear mr zr cr ur hlt
                  go_wp2_with fail
                  go_loopw [14] (fun i wr => ∃ j : Nat, j ≤ T ∧ i = .int .i64 j ∧ Mem w (upd h w3.heap.size (.cells (uarr n j) 64)) wr) (fun i _ => T - (intOf i).toNat)
                  case atStart => exact ⟨0, by omega, rfl, mu⟩
                  case round =>
                    obtain ⟨j, hj, rfl, mj⟩ := hrel
                    clear mu
                    by_cases hlt : j < T
                    · have hs := sg_lt n j T hT0 hlt
                      have hl : (j : Int) < (T : Int) := by omega
                      have hs500 : sg n j < 500 := by omega
                      have hsT : ((sg n j : Nat) : Int) < (T : Int) := by omega
                      have hs0 : (0 : Int) ≤ (sg n j : Nat) := by omega
                      have hset := uarr_set n j
                      have R0 : ∀ x : MW w (upd h w3.heap.size (.cells (uarr n j) 64)), x.w.cell? ⟨g, j, none⟩ = some (.int .i64 (sg n j : Nat)) := fun x => ((zu j).cell x.m (by omega)).trans (Ls_get n T j hlt)
                      have R1 : ∀ x : MW w (upd h w3.heap.size (.cells (uarr n j) 64)), x.w.cell? ⟨w3.heap.size, sg n j, none⟩ = some (.int .i64 0) := fun x => (x.m.cell (upd_same _ _ _) _).trans ((uarr_get n j _ hs500).trans (by rw [ta_sg, if_neg (Nat.lt_irrefl _)]))
                      have HSET := Lib.hid hset
                      clear hset
                      generalize sg n j = s at *
                      have B0 : decide ((s : Int) < 0) = false := decide_eq_false (by omega)
                      have B1 : decide (T ≤ s) = false := decide_eq_false (by omega)
                      have B2 : decide (500 < (T : Int)) = false := decide_eq_false (by omega)
                      have fz := fun (x : MW w (upd h w3.heap.size (.cells (uarr n j) 64))) => x.m.free (upd_same h w3.heap.size (.cells (uarr n j) 64)) s
                      have Q0 : ∀ x : MW w (upd h w3.heap.size (.cells (uarr n j) 64)), x.w.cell? ⟨w2.heap.size, 0, none⟩ = some (.int .i64 n) := fun x => x.m.cell (cu j) 0
                      have Q1 : ∀ x : MW w (upd h w3.heap.size (.cells (uarr n j) 64)), x.w.cell? ⟨w2.heap.size, 1, none⟩ = some (.int .i64 cc) := fun x => x.m.cell (cu j) 1
                      have Q2 : ∀ x : MW w (upd h w3.heap.size (.cells (uarr n j) 64)), x.w.cell? ⟨w2.heap.size, 2, none⟩ = some (.int .i64 500) := fun x => x.m.cell (cu j) 2
                      have Q3 : ∀ x : MW w (upd h w3.heap.size (.cells (uarr n j) 64)), x.w.cell? ⟨w2.heap.size, 3, none⟩ = some (.int .i64 1000) := fun x => x.m.cell (cu j) 3
                      have hne : Nonempty (MW w (upd h w3.heap.size (.cells (uarr n j) 64))) := ⟨⟨_, mj⟩⟩
                      go_wp2_with fail
                      refine region_mem (by kernel_rfl) (by kernel_rfl) mj ?_
                      repeat (any_goals (first | go_big_quiet_step ((go_at_call 55; exact in_mem_grown (tp _))) | quiet_step ((go_at_call 55; exact in_mem_grown (tp _)))))
                      refine wpQuiet_nil ?_
                      intro w' hw'
                      obtain ⟨⟨w', hm'⟩, rfl⟩ := hw'
                      clear mj
                      have r1 : w'.cell? ⟨g, j, none⟩ = some (.int .i64 (s : Nat)) := R0 ⟨w', hm'⟩
                      have r2 : w'.cell? ⟨w3.heap.size, s, none⟩ = some (.int .i64 0) := R1 ⟨w', hm'⟩
                      have f1 : w'.frozen? ⟨w3.heap.size, s, none⟩ = false := fz ⟨w', hm'⟩
                      have mS := (hm'.set (upd_same h w3.heap.size (.cells (uarr n j) 64)) s (.int .i64 1)).to (by rw [upd_upd, HSET.out])
                      go_wp2_with fail
                      go_roundw
                      case rel => exact ⟨j + 1, by omega, by go_num, mS⟩
                      case measure => simp [intOf]; omega
                    · obtain rfl : T = j := by omega
                      have Q0 : ∀ x : MW w (upd h w3.heap.size (.cells (uarr n T) 64)), x.w.cell? ⟨w2.heap.size, 0, none⟩ = some (.int .i64 n) := fun x => x.m.cell (cu T) 0
                      have Q1 : ∀ x : MW w (upd h w3.heap.size (.cells (uarr n T) 64)), x.w.cell? ⟨w2.heap.size, 1, none⟩ = some (.int .i64 cc) := fun x => x.m.cell (cu T) 1
                      have Q2 : ∀ x : MW w (upd h w3.heap.size (.cells (uarr n T) 64)), x.w.cell? ⟨w2.heap.size, 2, none⟩ = some (.int .i64 500) := fun x => x.m.cell (cu T) 2
                      have Q3 : ∀ x : MW w (upd h w3.heap.size (.cells (uarr n T) 64)), x.w.cell? ⟨w2.heap.size, 3, none⟩ = some (.int .i64 1000) := fun x => x.m.cell (cu T) 3
                      have hne : Nonempty (MW w (upd h w3.heap.size (.cells (uarr n T) 64))) := ⟨⟨_, mj⟩⟩
                      have hi15 := fun w => hi (3 + n) 15 (by decide) (by decide) (by show (3 : Int) + n + 15 / 16 = _; omega) w
                      have hi0 := fun w => hi (3 + n) 0 (by decide) (by decide) (by show (3 : Int) + n + 0 / 16 = _; omega) w
                      have hi16 := fun w => hi (4 + n) 16 (by decide) (by decide) (by show (3 : Int) + n + 16 / 16 = _; omega) w
                      have k0 : ((T : Int) == (T : Int)) = true := beq_t rfl
                      have k1 : ((3 + (n : Int)) == (3 + n)) = true := beq_t rfl
                      have k2 : ((4 + (n : Int)) != (3 + n)) = true := bne_t (by omega)
                      have k3 : ((T : Int) == (n : Int) + 14 + (7 + 3 * cc)) = true := beq_t (by have := HTT.out; omega)
                      go_wp2_with fail
                      refine region_mem (by kernel_rfl) (by kernel_rfl) mj ?_
                      repeat (any_goals (first | go_big_quiet_step ((first | (go_at_call 55; exact in_mem_grown (tp _)) | (go_at_call 53; exact in_mem_grown (ft _)) | (go_at_call 56; exact in_mem_grown (sz _)) | (go_at_call 51; first | with_reducible exact in_mem_grown (hi15 _) | with_reducible exact in_mem_grown (hi0 _) | with_reducible exact in_mem_grown (hi16 _)))) | quiet_step ((first | (go_at_call 55; exact in_mem_grown (tp _)) | (go_at_call 53; exact in_mem_grown (ft _)) | (go_at_call 56; exact in_mem_grown (sz _)) | (go_at_call 51; first | with_reducible exact in_mem_grown (hi15 _) | with_reducible exact in_mem_grown (hi0 _) | with_reducible exact in_mem_grown (hi16 _))))))
                      refine wpQuiet_nil ?_
                      intro w' hw'
                      obtain ⟨⟨w', hm'⟩, rfl⟩ := hw'
                      go_wp2_with fail
                      go_returns
                      exact ⟨rfl, hm'.below⟩

end Go.Proofs.Ytceliebbpkgifaa
