/- Slices of one's own, among what is owned: what an append does to them. No program is named here. -/
import Derived.Test.YtdmodejpcfhbhaaBase
import Derived.Deep.AppendLies
import Derived.OwnWalk
namespace Go.Proofs.Ytdmodejpcfhbhaa
open Go.RowKit

/-- v is nil, or a slice at the beginning of an owned block, and holds the n elements xs. -/
def IsSl (h : GH) (e : TypeId) (size : Nat) (v : Value) (n : Nat) (xs : List Value) : Prop :=
  xs.length = n * size ∧
  ((v = .slice none 0 0 ∧ n = 0) ∨
   ∃ g cap cur, v = .slice (some ⟨g, 0, none⟩) n cap ∧ h g = some (.cells cur e) ∧ n ≤ cap ∧ cap ≤ maxLen ∧ cur.size = cap * size ∧ cur.toList.take (n * size) = xs)

section
variable {P : Program} {h h' : GH} {e : TypeId} {size : Nat} {v : Value} {n : Nat} {xs : List Value} {w0 w w' : World}

theorem IsSl.nil (h : GH) (e : TypeId) (size : Nat) : IsSl h e size (.slice none 0 0) 0 [] := ⟨by simp, .inl ⟨rfl, rfl⟩⟩

theorem IsSl.owns (hs : IsSl h e size v n xs) (m : Mem w0 h w) : w.ownsRow w0.heap.size e size v n xs := by
  obtain ⟨hl, hs⟩ := hs
  refine ⟨hl, hs.imp id ?_⟩
  rintro ⟨g, cap, cur, hv, hg, r⟩
  exact ⟨g, cap, cur, hv, m.own g _ hg, m.blk g _ hg, r⟩

theorem IsSl.keep (hs : IsSl h e size v n xs) (hk : ∀ k, v.ownBlock = some k → h' k = h k) : IsSl h' e size v n xs := by
  obtain ⟨hl, hs⟩ := hs
  refine ⟨hl, hs.imp id ?_⟩
  rintro ⟨g, cap, cur, hv, hg, r⟩
  exact ⟨g, cap, cur, hv, (hk g (by rw [hv]; rfl)).trans hg, r⟩

/-- Its block, if it has one, is owned, and holds elements. -/
theorem IsSl.block (hs : IsSl h e size v n xs) {k : Nat} (hk : v.ownBlock = some k) : ∃ cur, h k = some (.cells cur e) := by
  obtain ⟨_, hs⟩ := hs
  rcases hs with ⟨rfl, _⟩ | ⟨g, cap, cur, rfl, hg, _⟩
  · cases hk
  · cases hk; exact ⟨_, hg⟩

theorem IsSl.form (hs : IsSl h e size v n xs) (hn : 0 < n) : ∃ g cap, v = .slice (some ⟨g, 0, none⟩) n cap ∧ n ≤ cap ∧ cap ≤ maxLen := by
  obtain ⟨_, hs⟩ := hs
  rcases hs with ⟨_, h0⟩ | ⟨g, cap, cur, hv, _, h1, h2, _⟩
  · omega
  · exact ⟨g, cap, hv, h1, h2⟩

theorem IsSl.cell {g cap : Nat} (hs : IsSl h e size (.slice (some ⟨g, 0, none⟩) n cap) n xs) (m : Mem w0 h w) {j : Nat} (hj : j < n * size) : w.cell? ⟨g, j, none⟩ = xs[j]? := by
  obtain ⟨_, hs⟩ := hs
  rcases hs with ⟨hv, _⟩ | ⟨g', cap', cur, hv, hg, _, _, _, ht⟩
  · cases hv
  · cases hv
    rw [m.cell hg, ← ht, List.getElem?_take_of_lt hj]
    simp

/-- A literal. -/
theorem IsSl.lit (h : GH) (e : TypeId) (g n : Nat) (cs : Array Value) (hn : cs.size = n * size) (hm : n ≤ maxLen) : IsSl (upd h g (.cells cs e)) e size (.slice (some ⟨g, 0, none⟩) n n) n cs.toList :=
  ⟨by simp [hn], .inr ⟨g, n, cs, rfl, upd_same _ _ _, Nat.le_refl _, hm, hn, by rw [← hn, ← Array.length_toList]; exact List.take_length⟩⟩

/-- What an append leaves: the new row in its block; the old one, where it was left, forgotten. -/
def after (h : GH) (v : Value) (g : Nat) (o : Obj) : GH := fun k => if k = g then some o else if v.ownBlock = some k then none else h k

theorem after_other {v : Value} {g k : Nat} {o : Obj} (h1 : v.ownBlock ≠ some k) (h2 : k ≠ g) : after h v g o k = h k := by
  unfold after; rw [if_neg h2, if_neg h1]

theorem IsSl.appended {g cap k : Nat} {ys : List Value} (hs : IsSl h e size v n xs) (m : Mem w0 h w) (hown : w'.ownsRow w0.heap.size e size (.slice (some ⟨g, 0, none⟩) k cap) k ys) (hg : w.grownBy w' v.ownBlock) (hat : v.ownBlock = some g ∨ g = w.heap.size) :
    ∃ o, Mem w0 (after h v g o) w' ∧ IsSl (after h v g o) e size (.slice (some ⟨g, 0, none⟩) k cap) k ys := by
  obtain ⟨hl, hown⟩ := hown
  rcases hown with ⟨hv, _⟩ | ⟨g', cap', cur, hv, hb, hgg, r⟩
  · cases hv
  · cases hv
    refine ⟨.cells cur e, ⟨m.below.grown hg m.below.size (fun j hj => ?_), fun j b hj => ?_, fun j b hj => ?_⟩, hl, .inr ⟨g, cap, cur, rfl, if_pos rfl, r⟩⟩
    · obtain ⟨c, hc⟩ := hs.block hj
      exact m.own j _ hc
    · unfold after at hj
      by_cases e1 : j = g
      · rw [e1]; exact hb
      · rw [if_neg e1] at hj
        by_cases e2 : v.ownBlock = some j
        · rw [if_pos e2] at hj; cases hj
        · rw [if_neg e2] at hj; exact m.own j _ hj
    · unfold after at hj
      by_cases e1 : j = g
      · subst e1; rw [if_pos rfl] at hj; cases hj; exact hgg
      · rw [if_neg e1] at hj
        by_cases e2 : v.ownBlock = some j
        · rw [if_pos e2] at hj; cases hj
        · rw [if_neg e2] at hj
          rw [hg.block j (m.lt hj) (fun q => e2 q.symm)]; exact m.blk j _ hj

/-- append. -/
theorem wp_append_m {o : Oper} {a : Act} {K : Act → World → Prop} {Q : Exit → Act → World → Prop} (s x : Operand) (t : TypeId)
    (ho : o.op = .call { callee := .builtin .append, args := #[s, x], argTypes := #[t, t] }) (m0 : Mem w0 h w) (hs : IsSl h e size v n xs) (i : TypeInfo) (z : Value) (bytes : Nat) (ht : P.underlying t = some (.slice e)) (hi : P.info? e = some i) (hz : i.zero = some z)
    (hsize : i.size = size) (hby : i.bytes = bytes) (hzs : z.cells.size = size) (hsz : 0 < size) (hev : a.eval s = v)
    (ad : Addr) (m c : Nat) (news : List Value) (hx : a.eval x = .slice (some ad) m c) (hl : news.length = m * size) (hnews : ∀ j u, news[j]? = some u → w.cell? (ad.add j) = some u) (h1 : ∀ u ∈ news, u.oneCell' = true)
    (hm : 0 < m) (h63 : n + m ≤ maxLen) (hbytes : (n + m) * bytes ≤ 140737488355328)
    (hK : ∀ g cap w' o', Mem w0 (after h v g o') w' → IsSl (after h v g o') e size (.slice (some ⟨g, 0, none⟩) (n + m) cap) (n + m) (xs ++ news) → (v.ownBlock = some g ∨ h g = none) → K (a.put o.dst (.slice (some ⟨g, 0, none⟩) (n + m) cap)) w') : o.wp P a w K Q := by
  refine wp_append_lies w s x t ho w0.heap.size e i z size bytes ht hi hz hsize hby hzs hsz v n xs hev (hs.owns m0) ad m c news hx hl hnews h1 hm h63 hbytes m0.below.size _ rfl fun g cap w' h2 h3 h4 _ => ?_
  obtain ⟨o', mo, so⟩ := hs.appended m0 h2 h3 h4
  exact hK g cap w' o' mo so (h4.imp id fun q => m0.fresh (by omega))
/-- append, at the operation. -/
theorem wpList_append_m {ops : Array Oper} {rest : List Oper} {o : Oper} {a : Act} {Q : Exit → Act → World → Prop} (hgd : o.guard = none) (s x : Operand) (t : TypeId)
    (ho : o.op = .call { callee := .builtin .append, args := #[s, x], argTypes := #[t, t] }) (m0 : Mem w0 h w) (hs : IsSl h e size v n xs) (i : TypeInfo) (z : Value) (bytes : Nat) (ht : P.underlying t = some (.slice e)) (hi : P.info? e = some i) (hz : i.zero = some z)
    (hsize : i.size = size) (hby : i.bytes = bytes) (hzs : z.cells.size = size) (hsz : 0 < size) (hev : a.eval s = v)
    (ad : Addr) (m c : Nat) (news : List Value) (hx : a.eval x = .slice (some ad) m c) (hl : news.length = m * size) (hnews : ∀ j u, news[j]? = some u → w.cell? (ad.add j) = some u) (h1 : ∀ u ∈ news, u.oneCell' = true)
    (hm : 0 < m) (h63 : n + m ≤ maxLen) (hbytes : (n + m) * bytes ≤ 140737488355328)
    (hK : ∀ g cap w' o', Mem w0 (after h v g o') w' → IsSl (after h v g o') e size (.slice (some ⟨g, 0, none⟩) (n + m) cap) (n + m) (xs ++ news) → (v.ownBlock = some g ∨ h g = none) → wpList P ops Q rest (a.put o.dst (.slice (some ⟨g, 0, none⟩) (n + m) cap)) w') : wpList P ops Q (o :: rest) a w :=
  wpList_plain hgd fun _ hK' => wp_append_m s x t ho m0 hs i z bytes ht hi hz hsize hby hzs hsz hev ad m c news hx hl hnews h1 hm h63 hbytes fun g cap w' o' q1 q2 q3 => hK' _ _ (hK g cap w' o' q1 q2 q3)
end

end Go.Proofs.Ytdmodejpcfhbhaa
