/- Package arena: its calls with their answers written out; the closed examples ahead of each statement on arenas. -/
import Derived.Test.YtdmodejpcfhbhaaAren3
namespace Go.Proofs.Ytdmodejpcfhbhaa
open Go.RowKit

theorem IsV.ne_ty {h : GH} {a d k : Nat} {V : Vw} {c : Array Value} {T : TypeId} (hv : IsV h a d V) (hl : h k = some (.cells c T)) (h1 : T ≠ 119) (h2 : T ≠ 3) : k ≠ a ∧ k ≠ d := by
  obtain ⟨x, hx⟩ := hv.some_a
  obtain ⟨y, hy⟩ := hv.some_d
  constructor
  · rintro rfl; rw [hl] at hx; simp only [Option.some.injEq, Obj.cells.injEq] at hx; exact h1 hx.2.1
  · rintro rfl; rw [hl] at hy; simp only [Option.some.injEq, Obj.cells.injEq] at hy; exact h2 hy.2.1

theorem IsV.kept {h h' : GH} {a d k : Nat} {V : Vw} {c : Array Value} {T : TypeId} (hv : IsV h a d V) (hk : ∀ k, k ≠ a → k ≠ d → h' k = h k) (hl : h k = some (.cells c T)) (h1 : T ≠ 119) (h2 : T ≠ 3) : h' k = some (.cells c T) := by
  obtain ⟨n1, n2⟩ := hv.ne_ty hl h1 h2
  rw [hk k n1 n2]; exact hl

section
variable {w0 w : World} {h : GH} {V : Vw}
theorem new_x (n : Nat) {words : Int} (hn : (clamp words 1 20000).toNat = n) (hm : Mem w0 h w) : Calls Try.prog 75 #[.int .i64 words] w (MadeV w0 h (Vw.fresh n)) := by
  have := new_v words hm; rwa [hn] at this
theorem load_x (r : Int) {a d : Nat} {i : Int} (hr : V.rd i = r) (hm : Mem w0 h w) (hv : IsV h a d V) :
    Calls Try.prog 107 #[.pointer (some ⟨a, 0, none⟩), .int .i64 i] w fun e w' => e = .returned (.int .i64 r) ∧ Arp w0 h a d (V.load i) w' := by
  have := load_v a d V i hm hv; rwa [hr] at this
theorem add_x (r : Int) {a d : Nat} {i n : Int} (hr : V.rd i = r) (hm : Mem w0 h w) (hv : IsV h a d V) :
    Calls Try.prog 103 #[.pointer (some ⟨a, 0, none⟩), .int .i64 i, .int .i64 n] w fun e w' => e = .returned (.int .i64 r) ∧ Arp w0 h a d (V.add i n) w' := by
  have := add_v a d V i n hm hv; rwa [hr] at this
theorem swap_x (r : Bool) {a d : Nat} {i o n : Int} (hr : V.swaps i o = r) (hm : Mem w0 h w) (hv : IsV h a d V) :
    Calls Try.prog 104 #[.pointer (some ⟨a, 0, none⟩), .int .i64 i, .int .i64 o, .int .i64 n] w fun e w' => e = .returned (.bool r) ∧ Arp w0 h a d (V.swap i o n) w' := by
  have := swap_v a d V i o n hm hv; rwa [hr] at this
theorem peek_x (r : Int) {a d : Nat} {i : Int} (hr : V.rd i = r) (hm : Mem w0 h w) (hv : IsV h a d V) :
    Calls Try.prog 40 #[.pointer (some ⟨a, 0, none⟩), .int .i64 i] w fun e w' => e = .returned (.int .i64 r) ∧ w = w' := by
  have := peek_v a d V i hm hv; rwa [hr] at this
theorem accesses_x (r : Int) {a d : Nat} (hr : wrap64 V.n = r) (hm : Mem w0 h w) (hv : IsV h a d V) :
    Calls Try.prog 87 #[.pointer (some ⟨a, 0, none⟩)] w fun e w' => e = .returned (.int .i64 r) ∧ w = w' := by
  have := accesses_v a d V hm hv; rwa [hr] at this
theorem len_x (r : Int) {a d : Nat} (hr : (V.ws.length : Int) = r) (hm : Mem w0 h w) (hv : IsV h a d V) :
    Calls Try.prog 151 #[.pointer (some ⟨a, 0, none⟩)] w fun e w' => e = .returned (.int .i64 r) ∧ w = w' := by
  have := len_v a d V hm hv; rwa [hr] at this
end

theorem rd_wr (V : Vw) (i j v : Int) (hi : V.inb i) : (V.wr i v).rd j = if i = j then v else V.rd j := by
  by_cases hj : V.inb j
  · have hj' : (V.wr i v).inb j := by unfold Vw.inb at *; simpa using hj
    unfold Vw.rd
    rw [if_pos hj', if_pos hj]
    unfold Vw.wr
    rw [if_pos hi]
    obtain ⟨i, rfl⟩ := Int.eq_ofNat_of_zero_le hi.1
    obtain ⟨j, rfl⟩ := Int.eq_ofNat_of_zero_le hj.1
    have h1 : i < V.ws.length := by have := hi.2; omega
    have h2 : j < V.ws.length := by have := hj.2; omega
    simp only [Int.toNat_natCast, List.getD_eq_getElem?_getD, List.getElem?_set]
    by_cases e : i = j
    · subst e; simp [h1]
    · rw [if_neg e, if_neg (by omega)]
  · have hj' : ¬ (V.wr i v).inb j := by unfold Vw.inb at *; simpa using hj
    unfold Vw.rd
    rw [if_neg hj', if_neg hj, if_neg]
    rintro rfl; exact hj hi
theorem rd_wr_out (V : Vw) (i v : Int) (hi : ¬ V.inb i) : V.wr i v = V := by unfold Vw.wr; rw [if_neg hi]
theorem vrd_out {V : Vw} {i : Int} (hi : ¬ V.inb i) : V.rd i = 0 := by unfold Vw.rd; rw [if_neg hi]
theorem fresh_rd (n : Nat) (j : Int) : (Vw.fresh n).rd j = 0 := by
  unfold Vw.rd Vw.fresh
  split
  · simp [List.getD_eq_getElem?_getD, List.getElem?_replicate]; split <;> rfl
  · rfl

end Go.Proofs.Ytdmodejpcfhbhaa
