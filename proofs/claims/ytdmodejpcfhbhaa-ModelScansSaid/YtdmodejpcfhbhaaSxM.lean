/- What words read behind accesses; how a stuck test is decided. -/
import Derived.Test.YtdmodejpcfhbhaaSxL
namespace Go.Proofs.Ytdmodejpcfhbhaa
open Go.RowKit

@[simp] theorem sx_rd_wr (V : Vw) (i j v : Int) : (V.wr i v).rd j = if i = j ∧ V.inb i then v else V.rd j := by
  by_cases h : V.inb i
  · rw [rd_wr V i j v h]; simp [h]
  · rw [rd_wr_out V i v h, if_neg (fun q => h q.2)]
theorem sx_rd_note (V : Vw) (x : Acc) (j : Int) : (V.note x).rd j = V.rd j := rfl
@[simp] theorem sx_rd_load (V : Vw) (i j : Int) : (V.load i).rd j = V.rd j := rfl
@[simp] theorem sx_rd_store (V : Vw) (i j v : Int) : (V.store i v).rd j = if i = j ∧ V.inb i then v else V.rd j := sx_rd_wr V i j v
@[simp] theorem sx_rd_add (V : Vw) (i j v : Int) : (V.add i v).rd j = if i = j ∧ V.inb i then wrap64 (V.rd i + v) else V.rd j := sx_rd_wr V i j _
@[simp] theorem sx_rd_swap (V : Vw) (i o v j : Int) : (V.swap i o v).rd j = if i = j ∧ V.inb i ∧ V.rd i = o then v else V.rd j := by
  show (if V.swaps i o then V.wr i v else V).rd j = _
  unfold Vw.swaps
  by_cases h : V.inb i ∧ V.rd i = o
  · rw [if_pos (decide_eq_true h), sx_rd_wr]; simp [h.1, h.2]
  · rw [if_neg (by simpa using h), if_neg (fun q => h q.2)]
@[simp] theorem sx_inb_wr (V : Vw) (i j v : Int) : (V.wr i v).inb j = V.inb j := by unfold Vw.inb; simp
@[simp] theorem sx_inb_load (V : Vw) (i j : Int) : (V.load i).inb j = V.inb j := rfl
@[simp] theorem sx_inb_store (V : Vw) (i j v : Int) : (V.store i v).inb j = V.inb j := sx_inb_wr V i j v
@[simp] theorem sx_inb_add (V : Vw) (i j v : Int) : (V.add i v).inb j = V.inb j := sx_inb_wr V i j _
@[simp] theorem sx_inb_swap (V : Vw) (i o v j : Int) : (V.swap i o v).inb j = V.inb j := by
  show (if V.swaps i o then V.wr i v else V).inb j = _
  split
  · exact sx_inb_wr ..
  · rfl
@[simp] theorem sx_inb_arena (c : Cf) (j : Int) : c.arena.inb j = (0 ≤ j ∧ j < (c.words.toNat : Int)) := by
  unfold Vw.inb Cf.arena; simp
@[simp] theorem sx_rd_arena (c : Cf) (j : Int) : c.arena.rd j = if 0 ≤ j ∧ j < (c.words.toNat : Int) then c.lies j else 0 := by
  split
  · rename_i h
    unfold Vw.rd
    obtain ⟨k, rfl⟩ := Int.eq_ofNat_of_zero_le h.1
    have hk : k < c.words.toNat := by omega
    rw [if_pos ⟨by omega, by unfold Cf.arena; simp; omega⟩]
    unfold Cf.arena
    simp [hk]
  · rename_i h
    exact vrd_out (fun q => h (by rwa [sx_inb_arena] at q))
@[simp] theorem sx_swaps (V : Vw) (i o : Int) : V.swaps i o = decide (V.inb i ∧ V.rd i = o) := rfl
@[simp] theorem sx_n_wr (V : Vw) (i v : Int) : (V.wr i v).n = V.n := vwr_n V i v
@[simp] theorem sx_n_load (V : Vw) (i : Int) : (V.load i).n = V.n + 1 := rfl
@[simp] theorem sx_n_store (V : Vw) (i v : Int) : (V.store i v).n = V.n + 1 := by show (V.wr i v).n + 1 = _; rw [vwr_n]
@[simp] theorem sx_n_add (V : Vw) (i v : Int) : (V.add i v).n = V.n + 1 := by show (V.wr i _).n + 1 = _; rw [vwr_n]
@[simp] theorem sx_n_swap (V : Vw) (i o v : Int) : (V.swap i o v).n = V.n + 1 := by
  show (if V.swaps i o then V.wr i v else V).n + 1 = _
  split
  · rw [vwr_n]
  · rfl
@[simp] theorem sx_n_arena (c : Cf) : c.arena.n = 0 := rfl
@[simp] theorem sx_lies (c : Cf) (i : Int) : c.lies i = if i = 2 then 3 + c.threads + 4 + 7 + (7 + 3 * c.cap) else if i = 3 + c.threads + 4 then -1 else if i = 3 + c.threads + 4 + 2 then 2 * (3 + c.threads + 4 + 7) else 0 := rfl
@[simp] theorem sx_wrapL (n : Nat) (h : n < 9223372036854775808) : IntKind.i64.wrap (no_index (@OfNat.ofNat Int n _)) = @OfNat.ofNat Int n _ := by
  rw [IntKind.wrap_i64]
  show ((n : Int) + 9223372036854775808) % 18446744073709551616 - 9223372036854775808 = (n : Int)
  omega
/-- In its bounds. -/
def Cf.okB (c : Cf) : Bool := decide (1 ≤ c.threads) && decide (c.threads ≤ 8) && decide (c.threads + 2 ≤ c.cap) && decide (c.cap ≤ 16) && decide (1 ≤ c.versions) && decide (c.versions ≤ 1048576) && decide (c.words ≤ 20000) && decide (c.threads + c.cap * 3 + 21 ≤ c.words)
theorem Cf.okB_spec {c : Cf} (h : c.okB = true) : c.wfB = true ∧ c.is = 0 := by
  obtain ⟨t, k, m, v⟩ := c
  simp only [Cf.okB, Bool.and_eq_true, decide_eq_true_eq] at h
  obtain ⟨⟨⟨⟨⟨⟨⟨h1, h2⟩, h3⟩, h4⟩, h5⟩, h6⟩, h7⟩, h8⟩ := h
  constructor
  · have e1 : IntKind.i64.min = -9223372036854775808 := by decide
    have e2 : IntKind.i64.max = 9223372036854775807 := by decide
    simp [Cf.wfB, Lit.wf, e1, e2]
    omega
  · unfold Cf.is
    have e1 : (⟨t, k, m, v⟩ : Cf).fails 4 = 0 := by
      simp only [Cf.fails, Cf.row]
      split <;> split <;> split <;> split <;> omega
    rw [if_neg, if_neg]
    · show ¬ (3 + t + 4 + 7 + (7 + 3 * k) > m); omega
    · unfold Cf.bad; rw [e1]; simp only; omega
theorem Cf.okB_wf {c c' : Cf} (h : c'.okB = true) (e : c = c') : c.wfB = true := by rw [e]; exact (Cf.okB_spec h).1
theorem Cf.okB_is {c c' : Cf} (h : c'.okB = true) (e : c = c') : decide (c.is = 0) = true := by rw [e]; exact decide_eq_true (Cf.okB_spec h).2
theorem wrapI {x : Int} (h0 : -9223372036854775808 ≤ x) (h1 : x < 9223372036854775808) : IntKind.i64.wrap x = x := by
  rw [IntKind.wrap_i64]; omega
@[simp] theorem sx_clamp (n a b : Int) : clamp n a b = if b < (if a ≤ n then n else a) then b else (if a ≤ n then n else a) := by unfold clamp; simp only [Int.max_def, Int.min_def]; split <;> split <;> split <;> omega
@[simp] theorem sx_claimF (s p : Int) : claimF s p = clamp s 0 1073741824 * 16777216 + clamp p 0 16777212 := rfl
@[simp] theorem sx_partF (x : Int) : partF x = x % 16777216 := rfl
@[simp] theorem sx_stateF (x : Int) : stateF x = clamp x 0 16777212 + 3 := rfl
@[simp] theorem sx_versionF (x : Int) : versionF x = if x < 3 then -1 else x - 3 := rfl
@[simp] theorem sx_wf (x : Int) : (Lit.int .i64 x).wf = (decide (-9223372036854775808 ≤ x) && decide (x ≤ 9223372036854775807)) := by
  have e1 : IntKind.i64.min = -9223372036854775808 := by decide
  have e2 : IntKind.i64.max = 9223372036854775807 := by decide
  simp [Lit.wf, e1, e2]
theorem tmodI {x n : Int} (h0 : 0 ≤ x) : x.tmod n = x % n := Int.tmod_eq_emod_of_nonneg h0
end Go.Proofs.Ytdmodejpcfhbhaa
