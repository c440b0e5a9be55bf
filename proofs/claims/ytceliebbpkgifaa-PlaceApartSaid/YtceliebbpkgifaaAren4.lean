/- Package arena: its calls with their answers written out; the closed examples ahead of each statement on arenas. -/
import Derived.Test.YtceliebbpkgifaaAren3
namespace Go.Proofs.Ytceliebbpkgifaa
open Go.RowKit

theorem IsV.ne_ty {h : GH} {a d k : Nat} {V : Vw} {c : Array Value} {T : TypeId} (hv : IsV h a d V) (hl : h k = some (.cells c T)) (h1 : T ≠ 78) (h2 : T ≠ 3) : k ≠ a ∧ k ≠ d := by
  obtain ⟨x, hx⟩ := hv.some_a
  obtain ⟨y, hy⟩ := hv.some_d
  constructor
  · rintro rfl; rw [hl] at hx; simp only [Option.some.injEq, Obj.cells.injEq] at hx; exact h1 hx.2.1
  · rintro rfl; rw [hl] at hy; simp only [Option.some.injEq, Obj.cells.injEq] at hy; exact h2 hy.2.1

theorem IsV.kept {h h' : GH} {a d k : Nat} {V : Vw} {c : Array Value} {T : TypeId} (hv : IsV h a d V) (hk : ∀ k, k ≠ a → k ≠ d → h' k = h k) (hl : h k = some (.cells c T)) (h1 : T ≠ 78) (h2 : T ≠ 3) : h' k = some (.cells c T) := by
  obtain ⟨n1, n2⟩ := hv.ne_ty hl h1 h2
  rw [hk k n1 n2]; exact hl

section
variable {w0 w : World} {h : GH} {V : Vw}
theorem new_x (n : Nat) {words : Int} (hn : (clamp words 1 20000).toNat = n) (hm : Mem w0 h w) : Calls Try.prog 29 #[.int .i64 words] w (MadeV w0 h (Vw.fresh n)) := by
  have := new_v words hm; rwa [hn] at this
theorem load_x (r : Int) {a d : Nat} {i : Int} (hr : V.rd i = r) (hm : Mem w0 h w) (hv : IsV h a d V) :
    Calls Try.prog 31 #[.pointer (some ⟨a, 0, none⟩), .int .i64 i] w fun e w' => e = .returned (.int .i64 r) ∧ Arp w0 h a d (V.load i) w' := by
  have := load_v a d V i hm hv; rwa [hr] at this
theorem add_x (r : Int) {a d : Nat} {i n : Int} (hr : V.rd i = r) (hm : Mem w0 h w) (hv : IsV h a d V) :
    Calls Try.prog 37 #[.pointer (some ⟨a, 0, none⟩), .int .i64 i, .int .i64 n] w fun e w' => e = .returned (.int .i64 r) ∧ Arp w0 h a d (V.add i n) w' := by
  have := add_v a d V i n hm hv; rwa [hr] at this
theorem swap_x (r : Bool) {a d : Nat} {i o n : Int} (hr : V.swaps i o = r) (hm : Mem w0 h w) (hv : IsV h a d V) :
    Calls Try.prog 35 #[.pointer (some ⟨a, 0, none⟩), .int .i64 i, .int .i64 o, .int .i64 n] w fun e w' => e = .returned (.bool r) ∧ Arp w0 h a d (V.swap i o n) w' := by
  have := swap_v a d V i o n hm hv; rwa [hr] at this
theorem peek_x (r : Int) {a d : Nat} {i : Int} (hr : V.rd i = r) (hm : Mem w0 h w) (hv : IsV h a d V) :
    Calls Try.prog 39 #[.pointer (some ⟨a, 0, none⟩), .int .i64 i] w fun e w' => e = .returned (.int .i64 r) ∧ w = w' := by
  have := peek_v a d V i hm hv; rwa [hr] at this
theorem accesses_x (r : Int) {a d : Nat} (hr : wrap64 V.n = r) (hm : Mem w0 h w) (hv : IsV h a d V) :
    Calls Try.prog 43 #[.pointer (some ⟨a, 0, none⟩)] w fun e w' => e = .returned (.int .i64 r) ∧ w = w' := by
  have := accesses_v a d V hm hv; rwa [hr] at this
theorem len_x (r : Int) {a d : Nat} (hr : (V.ws.length : Int) = r) (hm : Mem w0 h w) (hv : IsV h a d V) :
    Calls Try.prog 45 #[.pointer (some ⟨a, 0, none⟩)] w fun e w' => e = .returned (.int .i64 r) ∧ w = w' := by
  have := len_v a d V hm hv; rwa [hr] at this
theorem last_x (x : Acc) {a d : Nat} (hr : V.last = x) (hm : Mem w0 h w) (hv : IsV h a d V) :
    Calls Try.prog 44 #[.pointer (some ⟨a, 0, none⟩)] w fun e w' => e = .returned (.agg #[.int .i64 x.kind, .int .i64 x.pos, .int .i64 x.old, .int .i64 x.new, .bool x.ok]) ∧ Mem w0 h w' := by
  have := last_v a d V hm hv; rwa [hr] at this
end

theorem rd_wr (V : Vw) (i j v : Int) (hi : V.inb i) : (V.wr i v).rd j = if i = j then v else V.rd j := by
  by_cases hj : V.inb j
  · have hj' : (V.wr i v).inb j := by unfold Vw.inb at *; simpa using hj
    unfold Vw.rd
    rw [if_pos hj', if_pos hj]
    unfold Vw.wr
    rw [if_pos hi]
    obtain ⟨i, rfl⟩ := Int.eq_ofNat_of_zero_le hi.1
    obtain ⟨j, rfl⟩ := Int.eq_ofNat_of_zero_le hj.1
    have h1 : i < V.ws.length := by have := hi.2; omega
    have h2 : j < V.ws.length := by have := hj.2; omega
    simp only [Int.toNat_natCast, List.getD_eq_getElem?_getD, List.getElem?_set]
    by_cases e : i = j
    · subst e; simp [h1]
    · rw [if_neg e, if_neg (by omega)]
  · have hj' : ¬ (V.wr i v).inb j := by unfold Vw.inb at *; simpa using hj
    unfold Vw.rd
    rw [if_neg hj', if_neg hj, if_neg]
    rintro rfl; exact hj hi
theorem rd_wr_out (V : Vw) (i v : Int) (hi : ¬ V.inb i) : V.wr i v = V := by unfold Vw.wr; rw [if_neg hi]
theorem vrd_out {V : Vw} {i : Int} (hi : ¬ V.inb i) : V.rd i = 0 := by unfold Vw.rd; rw [if_neg hi]
theorem fresh_rd (n : Nat) (j : Int) : (Vw.fresh n).rd j = 0 := by
  unfold Vw.rd Vw.fresh
  split
  · simp [List.getD_eq_getElem?_getD, List.getElem?_replicate]; split <;> rfl
  · rfl

set_option maxRecDepth 100000 in
set_option maxHeartbeats 1000000 in
theorem arenaKnown {w0 w : World} {h : GH} (hm : Mem w0 h w) :
    Calls Try.prog 28 #[] w fun e w' => e = .returned (.bool true) ∧ Mem w0 h w' := by
  go_enter Try.func28, Try.ntmps28
  go_wp2_with fail
  (with_reducible refine (new_x 10 (by decide) hm).mono ?_)
  rintro e w1 ⟨a, d, h1, rfl, na, nd, m1, v1, k1⟩
  have K1 : ∀ k b, h k = some b → h1 k = some b := fun k b hb => by rw [k1 k (ne_of_none hb na) (ne_of_none hb nd)]; exact hb
  clear hm k1
  go_wp2_with fail
  (with_reducible refine (store_v a d _ 3 7 m1 v1).mono ?_)
  rintro e w2 ⟨rfl, h2, m2, v2, k2⟩
  have K2 : ∀ k b, h k = some b → h2 k = some b := fun k b hb => by rw [k2 k (ne_of_none hb na) (ne_of_none hb nd)]; exact K1 k b hb
  clear m1 v1 k2 K1
  go_wp2_with fail
  (with_reducible refine (last_x ⟨2, 3, 0, 7, false⟩ rfl m2 v2).mono ?_)
  rintro e w3 ⟨rfl, m3⟩
  clear m2
  have m4 := m3.keep #[.int .i64 2, .int .i64 3, .int .i64 0, .int .i64 7, .bool false] 45
  have hl : h2 w3.heap.size = none := m3.fresh (Nat.le_refl _)
  have nl : h w3.heap.size = none := by
    cases e : h w3.heap.size with
    | none => rfl
    | some b => rw [K2 _ b e] at hl; exact hl
  have K4 : ∀ k b, h k = some b → upd h2 w3.heap.size (.cells #[.int .i64 2, .int .i64 3, .int .i64 0, .int .i64 7, .bool false] 45) k = some b := fun k b hb => by rw [upd_other _ _ (ne_of_none hb nl)]; exact K2 k b hb
  have L4 := upd_same h2 w3.heap.size (.cells #[.int .i64 2, .int .i64 3, .int .i64 0, .int .i64 7, .bool false] 45)
  obtain ⟨sa, sd⟩ := v2.apart hl
  have v4 : IsV (upd h2 w3.heap.size (.cells #[.int .i64 2, .int .i64 3, .int .i64 0, .int .i64 7, .bool false] 45)) a d _ := v2.keep (upd_other _ _ sa) (upd_other _ _ sd)
  clear m3 v2 K2
  generalize hq : w3.heap.size = l at *
  generalize hr : upd h2 l (.cells #[.int .i64 2, .int .i64 3, .int .i64 0, .int .i64 7, .bool false] 45) = h4 at *
  clear hr hl h2
  go_wp2_with fail
  (with_reducible refine (swap_x true (by decide +kernel) m4 v4).mono ?_)
  rintro e w5 ⟨rfl, h5, m5, v5, k5⟩
  have K5 : ∀ k b, h k = some b → h5 k = some b := fun k b hb => by rw [k5 k (ne_of_none hb na) (ne_of_none hb nd)]; exact K4 k b hb
  have L5 := v4.kept k5 L4 (by decide) (by decide)
  clear k5 m4 v4 K4 L4
  go_wp2_with fail
  (with_reducible refine (swap_x false (by decide +kernel) m5 v5).mono ?_)
  rintro e w6 ⟨rfl, h6, m6, v6, k6⟩
  have K6 : ∀ k b, h k = some b → h6 k = some b := fun k b hb => by rw [k6 k (ne_of_none hb na) (ne_of_none hb nd)]; exact K5 k b hb
  have L6 := v5.kept k6 L5 (by decide) (by decide)
  clear k6 m5 v5 K5 L5
  go_wp2_with fail
  (with_reducible refine (add_x 9 (by decide +kernel) m6 v6).mono ?_)
  rintro e w7 ⟨rfl, h7, m7, v7, k7⟩
  have K7 : ∀ k b, h k = some b → h7 k = some b := fun k b hb => by rw [k7 k (ne_of_none hb na) (ne_of_none hb nd)]; exact K6 k b hb
  have L7 := v6.kept k7 L6 (by decide) (by decide)
  clear k7 m6 v6 K6 L6
  go_wp2_with fail
  (with_reducible refine (copy_v a d _ m7 v7).mono ?_)
  rintro e w8 ⟨b, c, h8, rfl, nb, nc, m8, u8, k8⟩
  obtain ⟨ab, db⟩ := v7.apart nb
  obtain ⟨ac, dc⟩ := v7.apart nc
  have nb' : h b = none := by
    cases e : h b with
    | none => rfl
    | some x => rw [K7 _ x e] at nb; exact nb
  have nc' : h c = none := by
    cases e : h c with
    | none => rfl
    | some x => rw [K7 _ x e] at nc; exact nc
  have v8 := v7.other k8 ab ac db dc
  have K8 : ∀ k b, h k = some b → h8 k = some b := fun k x hb => by rw [k8 k (ne_of_none hb nb') (ne_of_none hb nc')]; exact K7 k x hb
  have L8 : h8 l = _ := (k8 l (ne_of_none L7 nb) (ne_of_none L7 nc)).trans L7
  clear m7 v7 K7 L7 k8 nb nc
  go_wp2_with fail
  (with_reducible refine (poke_v b c _ 3 1 m8 u8).mono ?_)
  rintro e w9 ⟨rfl, h9, m9, u9, k9⟩
  have v9 := v8.other k9 ab ac db dc
  have K9 : ∀ k b, h k = some b → h9 k = some b := fun k x hb => by rw [k9 k (ne_of_none hb nb') (ne_of_none hb nc')]; exact K8 k x hb
  have L9 := u8.kept k9 L8 (by decide) (by decide)
  clear m8 v8 u8 K8 L8 k9
  have q0 : w9.cell? ⟨l, 0, none⟩ = some (.int .i64 2) := m9.cell L9 0
  have q1 : w9.cell? ⟨l, 1, none⟩ = some (.int .i64 3) := m9.cell L9 1
  have q2 : w9.cell? ⟨l, 2, none⟩ = some (.int .i64 0) := m9.cell L9 2
  have q3 : w9.cell? ⟨l, 3, none⟩ = some (.int .i64 7) := m9.cell L9 3
  have q4 : w9.cell? ⟨l, 4, none⟩ = some (.bool false) := m9.cell L9 4
  go_wp2_with fail
  (with_reducible refine (load_x 14 (by decide +kernel) m9 v9).mono ?_)
  rintro e w10 ⟨rfl, h10, m10, v10, k10⟩
  have u10 := u9.other k10 (Ne.symm ab) (Ne.symm db) (Ne.symm ac) (Ne.symm dc)
  have K10 : ∀ k b, h k = some b → h10 k = some b := fun k b hb => by rw [k10 k (ne_of_none hb na) (ne_of_none hb nd)]; exact K9 k b hb
  clear m9 v9 u9 K9 L9 k10
  go_wp2_with fail
  (with_reducible refine (accesses_x 5 (by decide +kernel) m10 v10).mono ?_)
  rintro e w' ⟨rfl, rfl⟩
  go_wp2_with fail
  (with_reducible refine (peek_x 1 (by decide +kernel) m10 u10).mono ?_)
  rintro e w' ⟨rfl, rfl⟩
  go_wp2_with fail
  (with_reducible refine (accesses_x 4 (by decide +kernel) m10 u10).mono ?_)
  rintro e w' ⟨rfl, rfl⟩
  go_wp2_with fail
  (with_reducible refine (load_x 0 (by decide +kernel) m10 v10).mono ?_)
  rintro e w11 ⟨rfl, h11, m11, v11, k11⟩
  have K11 : ∀ k b, h k = some b → h11 k = some b := fun k b hb => by rw [k11 k (ne_of_none hb na) (ne_of_none hb nd)]; exact K10 k b hb
  clear m10 v10 u10 K10 k11
  go_wp2_with fail
  (with_reducible refine (swap_x false (by decide +kernel) m11 v11).mono ?_)
  rintro e w12 ⟨rfl, h12, m12, v12, k12⟩
  have K12 : ∀ k b, h k = some b → h12 k = some b := fun k b hb => by rw [k12 k (ne_of_none hb na) (ne_of_none hb nd)]; exact K11 k b hb
  clear m11 v11 K11 k12
  go_wp2_with fail
  (with_reducible refine (len_x 10 (by decide +kernel) m12 v12).mono ?_)
  rintro e w' ⟨rfl, rfl⟩
  go_wp2_with fail
  go_returns
  exact ⟨rfl, m12.less K12⟩

end Go.Proofs.Ytceliebbpkgifaa
