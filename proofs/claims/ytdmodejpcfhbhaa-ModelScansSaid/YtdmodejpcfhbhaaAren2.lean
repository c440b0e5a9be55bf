/- Package arena: making, copying and looking. -/
import Derived.Test.YtdmodejpcfhbhaaAcc
import Derived.Deep.OwnRows
import Derived.Shelf.Slices.Clone
namespace Go.Proofs.Ytdmodejpcfhbhaa
open Go.RowKit

theorem len_calls (a d : Nat) (A : Ar) {w0 w : World} {h : GH} (hm : Mem w0 h w) (ha : IsAr h a d A) :
    Calls Try.prog 151 #[.pointer (some ⟨a, 0, none⟩)] w fun e w' => e = .returned (.int .i64 A.ws.length) ∧ w = w' := by
  have c0 : w.cell? ⟨a, 0, none⟩ = some (.slice (some ⟨d, 0, none⟩) A.ws.length A.cap) := hm.cell ha.at_a 0
  go_enter Try.func151, Try.ntmps151
  go_wp2
  go_returns
  exact ⟨rfl, rfl⟩

theorem peek_calls (a d : Nat) (A : Ar) (i : Int) {w0 w : World} {h : GH} (hm : Mem w0 h w) (ha : IsAr h a d A) :
    Calls Try.prog 40 #[.pointer (some ⟨a, 0, none⟩), .int .i64 i] w fun e w' => e = .returned (.int .i64 (A.rd i)) ∧ w = w' := by
  have c0 : w.cell? ⟨a, 0, none⟩ = some (.slice (some ⟨d, 0, none⟩) A.ws.length A.cap) := hm.cell ha.at_a 0
  by_cases hi : A.inb i
  · obtain ⟨k, rfl⟩ := Int.eq_ofNat_of_zero_le hi.1
    have hk : k < A.ws.length := by have := hi.2; omega
    obtain ⟨x, hx⟩ : ∃ x, A.ws.getD k 0 = x := ⟨_, rfl⟩
    have ck : w.cell? ⟨d, k, none⟩ = some (.int .i64 x) := by rw [hm.cell ha.at_d k, ← hx]; exact encW_get _ hk
    have HX := Lib.hid hx
    clear hi hx
    go_enter Try.func40, Try.ntmps40
    go_wp2_with (go_at_call 78; (with_reducible refine (is_yes a d A _ (by omega) (by omega) hm ha).mono ?_); rintro e w' ⟨rfl, rfl⟩)
    go_returns
    exact ⟨ret_int (by rw [rd_in hk]; exact HX.out.symm), rfl⟩
  · have HI := Lib.hid hi
    clear hi
    go_enter Try.func40, Try.ntmps40
    go_wp2_with (go_at_call 78; (with_reducible refine (is_no a d A _ HI.out hm ha).mono ?_); rintro e w' ⟨rfl, rfl⟩)
    go_returns
    exact ⟨ret_int (by rw [rd_out HI.out]), rfl⟩

theorem poke_calls (a d : Nat) (A : Ar) (i v : Int) {w0 w : World} {h : GH} (hm : Mem w0 h w) (ha : IsAr h a d A) :
    Calls Try.prog 33 #[.pointer (some ⟨a, 0, none⟩), .int .i64 i, .int .i64 v] w fun e w' => e = .returned (.tuple #[]) ∧ Mem w0 (ua h a d (A.wr i v)) w' := by
  have c0 : w.cell? ⟨a, 0, none⟩ = some (.slice (some ⟨d, 0, none⟩) A.ws.length A.cap) := hm.cell ha.at_a 0
  by_cases hi : A.inb i
  · obtain ⟨k, rfl⟩ := Int.eq_ofNat_of_zero_le hi.1
    have hk : k < A.ws.length := by have := hi.2; omega
    obtain ⟨x, hx⟩ : ∃ x, A.ws.getD k 0 = x := ⟨_, rfl⟩
    have ck : w.cell? ⟨d, k, none⟩ = some (.int .i64 x) := by rw [hm.cell ha.at_d k, ← hx]; exact encW_get _ hk
    have fk := hm.free ha.at_d k
    clear hi hx
    have hat : upd h d (.cells (encD (A.wr k v)) 3) a = some (.cells (encA (A.wr k v) d) 119) := by
      rw [upd_other _ _ ha.ne, ha.at_a, wr_in hk]; simp [encA]
    have hd : Mem w0 (upd h d (.cells (encD (A.wr k v)) 3)) (w.setCell ⟨d, k, none⟩ (.int .i64 v)) := (hm.set ha.at_d k _).eqv (by rw [encD, encW_set _ _ hk, wr_in hk]; rfl)
    go_enter Try.func33, Try.ntmps33
    go_wp2_with (go_at_call 78; (with_reducible refine (is_yes a d A _ (by omega) (by omega) hm ha).mono ?_); rintro e w' ⟨rfl, rfl⟩)
    go_end0
    exact ⟨rfl, hd.to (by unfold ua; rw [upd_eq hat])⟩
  · have HI := Lib.hid hi
    clear hi
    go_enter Try.func33, Try.ntmps33
    go_wp2_with (go_at_call 78; (with_reducible refine (is_no a d A _ HI.out hm ha).mono ?_); rintro e w' ⟨rfl, rfl⟩)
    go_end0
    exact ⟨rfl, hm.to (by rw [wr_out HI.out, ua_same ha _ rfl rfl]; exact (upd_eq ha.at_a).symm)⟩

theorem accesses_calls (a d : Nat) (A : Ar) {w0 w : World} {h : GH} (hm : Mem w0 h w) (ha : IsAr h a d A) :
    Calls Try.prog 87 #[.pointer (some ⟨a, 0, none⟩)] w fun e w' => e = .returned (.int .i64 (wrap64 A.n)) ∧ w = w' := by
  have c1 : w.cell? ⟨a, 1, none⟩ = some (.int .i64 (wrap64 A.d0)) := hm.cell ha.at_a 1
  have c2 : w.cell? ⟨a, 2, none⟩ = some (.int .i64 (wrap64 A.d1)) := hm.cell ha.at_a 2
  have c3 : w.cell? ⟨a, 3, none⟩ = some (.int .i64 (wrap64 A.d2)) := hm.cell ha.at_a 3
  have c4 : w.cell? ⟨a, 4, none⟩ = some (.int .i64 (wrap64 A.d3)) := hm.cell ha.at_a 4
  have c5 : w.cell? ⟨a, 5, none⟩ = some (.int .i64 (wrap64 A.d4)) := hm.cell ha.at_a 5
  have i0 : ∀ (w : World) (a b c d e : Value), (Instr.index 115 (.agg #[a, b, c, d, e]) (.int .i64 0)).run Try.prog w = .ok a w := fun _ _ _ _ _ _ => by kernel_rfl
  have i1 : ∀ (w : World) (a b c d e : Value), (Instr.index 115 (.agg #[a, b, c, d, e]) (.int .i64 1)).run Try.prog w = .ok b w := fun _ _ _ _ _ _ => by kernel_rfl
  have i2 : ∀ (w : World) (a b c d e : Value), (Instr.index 115 (.agg #[a, b, c, d, e]) (.int .i64 2)).run Try.prog w = .ok c w := fun _ _ _ _ _ _ => by kernel_rfl
  have i3 : ∀ (w : World) (a b c d e : Value), (Instr.index 115 (.agg #[a, b, c, d, e]) (.int .i64 3)).run Try.prog w = .ok d w := fun _ _ _ _ _ _ => by kernel_rfl
  have i4 : ∀ (w : World) (a b c d e : Value), (Instr.index 115 (.agg #[a, b, c, d, e]) (.int .i64 4)).run Try.prog w = .ok e w := fun _ _ _ _ _ _ => by kernel_rfl
  go_enter Try.func87, Try.ntmps87
  go_wp2
  go_rounds 6
  go_returns
  exact ⟨ret_int (by unfold Ar.n wrap64; omega), rfl⟩

/-! ### A new one. -/
def Ar.fresh (n : Nat) : Ar := { ws := List.replicate n 0, cap := n, tail := [], d0 := 0, d1 := 0, d2 := 0, d3 := 0, d4 := 0, last := Acc.zero }

/-- What a call that makes an arena leaves. -/
def MadeAr (w0 : World) (h : GH) (A : Ar) (e : Ending) (w' : World) : Prop :=
  ∃ a d, e = .returned (.pointer (some ⟨a, 0, none⟩)) ∧ h a = none ∧ h d = none ∧ IsAr (ua h a d A) a d A ∧ Mem w0 (ua h a d A) w'

theorem madeCells_int (n : Nat) : madeCells #[.int .i64 0] n = encW (List.replicate n 0) [] := by
  apply Array.ext_getElem?
  intro i
  simp only [madeCells, encW]
  by_cases h : i < n
  · simp [h, Nat.mod_one]
  · simp [h]

theorem info_int : (Try.prog.info? 3).map (fun i => (i.zero, i.size, i.bytes)) = some (some (.int .i64 0), 1, 8) := by kernel_rfl

set_option maxRecDepth 100000 in
theorem new_at (n : Nat) (h1 : 1 ≤ n) (h2 : n ≤ 20000) (words : Int) (hn : (n : Int) = clamp words 1 20000) {w0 w : World} {h : GH} (hm : Mem w0 h w) :
    Calls Try.prog 75 #[.int .i64 words] w (MadeAr w0 h (Ar.fresh n)) := by
  have hz := hm.below.size
  have key : ∀ (w1 : World), w1 = (w.alloc (.cells (madeCells #[.int .i64 0] n) 3)).alloc (.cells #[.slice (some ⟨w.heap.size, 0, none⟩) n n, .int .i64 0, .int .i64 0, .int .i64 0, .int .i64 0, .int .i64 0, .int .i64 0, .int .i64 0, .int .i64 0, .int .i64 0, .bool false] 119) →
      MadeAr w0 h (Ar.fresh n) (.returned (.pointer (some ⟨w.heap.size + 1, 0, none⟩))) w1 := by
    intro w1 e
    subst e
    have m1 := (hm.keep (madeCells #[.int .i64 0] n) 3).keep #[.slice (some ⟨w.heap.size, 0, none⟩) n n, .int .i64 0, .int .i64 0, .int .i64 0, .int .i64 0, .int .i64 0, .int .i64 0, .int .i64 0, .int .i64 0, .int .i64 0, .bool false] 119
    rw [World.size_alloc] at m1
    have e1 : encA (Ar.fresh n) w.heap.size = #[.slice (some ⟨w.heap.size, 0, none⟩) n n, .int .i64 0, .int .i64 0, .int .i64 0, .int .i64 0, .int .i64 0, .int .i64 0, .int .i64 0, .int .i64 0, .int .i64 0, .bool false] := by
      simp [encA, Ar.fresh, Acc.zero, wrap64]
    have e2 : encD (Ar.fresh n) = madeCells #[.int .i64 0] n := by rw [madeCells_int]; rfl
    refine ⟨w.heap.size + 1, w.heap.size, rfl, hm.fresh (by omega), hm.fresh (by omega), ⟨upd_same _ _ _, ?_, by omega, by simpa [Ar.fresh] using h2, by simpa [Ar.fresh] using h1⟩, ?_⟩
    · unfold ua; rw [upd_other _ _ (by omega)]; exact upd_same _ _ _
    · unfold ua; rw [e1, e2]; exact m1
  have hmk : ∀ w, (Instr.makeSlice 23 (.int .i64 (n : Int)) (.int .i64 (n : Int))).run Try.prog w = .ok (.slice (some ⟨w.heap.size, 0, none⟩) n n) (w.alloc (.cells (madeCells #[.int .i64 0] n) 3)) :=
    fun w => run_make_row' 23 3 (.int .i64 0) 8 Try.underlying23 info_int rfl .i64 .i64 n (by omega) (by omega) w
  have HK := Lib.hid key
  clear key
  have hmk2 : ∀ w, (Instr.makeSlice 23 (.int .i64 (min (max words 1) 20000)) (.int .i64 (min (max words 1) 20000))).run Try.prog w = .ok (.slice (some ⟨w.heap.size, 0, none⟩) n n) (w.alloc (.cells (madeCells #[.int .i64 0] n) 3)) := by
    rw [show min (max words 1) 20000 = (n : Int) from hn.symm]; exact hmk
  clear hn hmk
  go_enter Try.func75, Try.ntmps75
  go_wp2
  go_returns
  exact HK.out _ rfl

theorem new_calls (words : Int) {w0 w : World} {h : GH} (hm : Mem w0 h w) :
    Calls Try.prog 75 #[.int .i64 words] w (MadeAr w0 h (Ar.fresh (clamp words 1 20000).toNat)) := by
  have h0 := @clamp_lo words 1 20000 (by decide)
  have h1 := @clamp_hi words 1 20000
  exact new_at _ (by omega) (by omega) words (by omega) hm
/-! ### A copy. -/
/-- What cloning a row of numbers leaves: a new row. -/
def Cloned (w0 : World) (h : GH) (zs : List Int) (e : Ending) (w' : World) : Prop :=
  ∃ g cap tl, e = .returned (.slice (some ⟨g, 0, none⟩) zs.length cap) ∧ h g = none ∧ Mem w0 (upd h g (.cells (encW zs tl) 3)) w'

end Go.Proofs.Ytdmodejpcfhbhaa
