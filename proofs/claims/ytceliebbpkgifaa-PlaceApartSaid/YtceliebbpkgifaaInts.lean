/- Rows of ints of one's own: append. -/
import Derived.Test.YtceliebbpkgifaaSlices
import Derived.Test.YtceliebbpkgifaaProg
namespace Go.Proofs.Ytceliebbpkgifaa
open Go.RowKit

theorem intsInfo : (Try.prog.info? 3).map (fun i => (i.zero, i.size, i.bytes)) = some (some (.int .i64 0), 1, 8) := by kernel_rfl

/-- v is a slice of ints of one's own. -/
abbrev IsZs (h : GH) (v : Value) (zs : List Int) : Prop := IsSl h 3 1 v zs.length (zs.map (.int .i64))

section
variable {w0 w : World} {h : GH} {v : Value} {zs ys : List Int}

/-- Another block is as it was. -/
theorem IsZs.other {k g : Nat} {o : Obj} {c : Array Value} {T : TypeId} (hs : IsZs h v zs) (hk : h k = some (.cells c T)) (hT : T ≠ 3) (hg : v.ownBlock = some g ∨ h g = none) : after h v g o k = some (.cells c T) := by
  have h1 : v.ownBlock ≠ some k := fun q => by
    obtain ⟨cur, hc⟩ := hs.block q
    rw [hk] at hc; cases hc; exact hT rfl
  have h2 : k ≠ g := by
    rintro rfl
    rcases hg with q | q
    · exact h1 q
    · rw [q] at hk; cases hk
  rw [after_other h1 h2]; exact hk

theorem append_zs {ops : Array Oper} {rest : List Oper} {o : Oper} {a : Act} {Q : Exit → Act → World → Prop} (m0 : Mem w0 h w) (hs : IsZs h v zs) (hgd : o.guard = none) (s x : Operand)
    (ho : o.op = .call { callee := .builtin .append, args := #[s, x], argTypes := #[43, 43] }) (hev : a.eval s = v) (B m c : Nat) (T : TypeId) (ys : List Int) (hx : a.eval x = .slice (some ⟨B, 0, none⟩) m c)
    (hB : w.heap[B]? = some (.cells (ys.map (.int .i64)).toArray T)) (hl : ys.length = m) (hm : 0 < m) (hsmall : zs.length + m ≤ 1000000)
    (hK : ∀ g cap w' o', Mem w0 (after h v g o') w' → IsZs (after h v g o') (.slice (some ⟨g, 0, none⟩) (zs.length + m) cap) (zs ++ ys) → (v.ownBlock = some g ∨ h g = none) → wpList Try.prog ops Q rest (a.put o.dst (.slice (some ⟨g, 0, none⟩) (zs.length + m) cap)) w') : wpList Try.prog ops Q (o :: rest) a w := by
  obtain ⟨i0, hi, hz⟩ := Option.map_eq_some_iff.1 intsInfo
  simp only [Prod.mk.injEq] at hz
  obtain ⟨z0, z1, z2⟩ := hz
  refine wpList_append_m hgd s x 43 ho m0 hs i0 (.int .i64 0) 8 Try.underlying43 hi z0 z1 z2 rfl (by decide) hev ⟨B, 0, none⟩ m c (ys.map (.int .i64)) hx (by simp [hl]) (by simpa using World.news_of_block hB) (fun u hu => by obtain ⟨q, _, rfl⟩ := List.mem_map.1 hu; rfl) hm (by unfold maxLen; omega) (by omega) fun g cap w' o' h1 h2 h3 => hK g cap w' o' h1 ?_ h3
  have e : (zs ++ ys).length = zs.length + m := by simp [hl]
  unfold IsZs
  rw [e, List.map_append]
  exact h2
/-- The same, in a region that draws its order. -/
theorem step_append_zs {ops : Array Oper} {o : Oper} {a : Act} {K : Act → World → Prop} {Q : Exit → Act → World → Prop} {E : Prop} (m0 : Mem w0 h w) (hs : IsZs h v zs) (hgd : o.guard = none) (s x : Operand)
    (ho : o.op = .call { callee := .builtin .append, args := #[s, x], argTypes := #[43, 43] }) (hev : a.eval s = v) (B m c : Nat) (T : TypeId) (ys : List Int) (hx : a.eval x = .slice (some ⟨B, 0, none⟩) m c)
    (hB : w.heap[B]? = some (.cells (ys.map (.int .i64)).toArray T)) (hl : ys.length = m) (hm : 0 < m) (hsmall : zs.length + m ≤ 1000000)
    (hK : ∀ g cap w' o', Mem w0 (after h v g o') w' → IsZs (after h v g o') (.slice (some ⟨g, 0, none⟩) (zs.length + m) cap) (zs ++ ys) → (v.ownBlock = some g ∨ h g = none) → K (a.put o.dst (.slice (some ⟨g, 0, none⟩) (zs.length + m) cap)) w') : if Region.wanted o (yielded ops a.tmps) = true then Oper.wp Try.prog o a w K Q else E := by
  rw [if_pos (by simp [Region.wanted, hgd])]
  obtain ⟨i0, hi, hz⟩ := Option.map_eq_some_iff.1 intsInfo
  simp only [Prod.mk.injEq] at hz
  obtain ⟨z0, z1, z2⟩ := hz
  refine wp_append_m s x 43 ho m0 hs i0 (.int .i64 0) 8 Try.underlying43 hi z0 z1 z2 rfl (by decide) hev ⟨B, 0, none⟩ m c (ys.map (.int .i64)) hx (by simp [hl]) (by simpa using World.news_of_block hB) (fun u hu => by obtain ⟨q, _, rfl⟩ := List.mem_map.1 hu; rfl) hm (by unfold maxLen; omega) (by omega) fun g cap w' o' h1 h2 h3 => hK g cap w' o' h1 ?_ h3
  have e : (zs ++ ys).length = zs.length + m := by simp [hl]
  unfold IsZs
  rw [e, List.map_append]
  exact h2
end

end Go.Proofs.Ytceliebbpkgifaa
