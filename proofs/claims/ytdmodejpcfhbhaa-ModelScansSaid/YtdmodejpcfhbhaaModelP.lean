/- Two maps that are alike: numbers and lists alone. -/
import Derived.Test.YtdmodejpcfhbhaaModelE
namespace Go.Proofs.Ytdmodejpcfhbhaa
open Go.RowKit

structure Rel (f g : Int → Option Int) (G : Nat → Int) : Prop where
  v : ∀ k : Nat, k < 64 → G k = (f k).getD (-1)
  pos : ∀ k v, f k = some v → 0 ≤ v
  w : ∀ k : Nat, k < 64 → G (64 + k) = (g k).getD (-1)
theorem rel_new : Rel noneF noneF fun _ => -1 := ⟨fun _ _ => rfl, (fun _ _ h => by cases h), fun _ _ => rfl⟩
section
variable {f g : Int → Option Int} {G : Nat → Int} {key : Int}
theorem Rel.set (h : Rel f g G) (hk : 0 ≤ key ∧ key ≤ 63) (v : Option Int) (hv : ∀ x, v = some x → 0 ≤ x) (w : Int) : Rel (setF f key v) (setF g key (some w)) (setG2 G key (v.getD (-1)) w) := by
  obtain ⟨n, rfl⟩ := Int.eq_ofNat_of_zero_le hk.1
  refine ⟨fun k hk2 => ?_, fun k x e => ?_, fun k hk2 => ?_⟩
  · unfold setG2 setF
    simp only [Int.toNat_natCast]
    rw [if_neg (by omega)]
    by_cases q : k = n
    · rw [if_pos q, if_pos (by omega)]
    · rw [if_neg q, if_neg (by omega)]; exact h.v k hk2
  · unfold setF at e
    split at e
    · exact hv x e
    · exact h.pos k x e
  · unfold setG2 setF
    simp only [Int.toNat_natCast]
    by_cases q : k = n
    · rw [if_pos (by omega), if_pos (by omega)]; rfl
    · rw [if_neg (by omega), if_neg (by omega), if_neg (by omega)]; exact h.w k hk2
theorem Rel.put (h : Rel f g G) (hk : 0 ≤ key ∧ key ≤ 63) {v : Int} (hv : 0 ≤ v) (w : Int) : Rel (setF f key (some v)) (setF g key (some w)) (setG2 G key v w) := h.set hk (some v) (fun x e => by cases e; exact hv) w
theorem Rel.del (h : Rel f g G) (hk : 0 ≤ key ∧ key ≤ 63) (w : Int) : Rel (setF f key none) (setF g key (some w)) (setG2 G key (-1) w) := h.set hk none (fun x e => by cases e) w
theorem Rel.found (h : Rel f g G) {k : Nat} (hk : k < 64) : decide (0 ≤ G k) = (f k).isSome := by
  rw [h.v k hk]
  cases e : f k with
  | none => rfl
  | some v => have := h.pos _ _ e; simpa using this
theorem Rel.val (h : Rel f g G) {k : Nat} (hk : k < 64) : (if 0 < G k then G k else 0) = (f k).getD 0 := by
  rw [h.v k hk]
  cases e : f k with
  | none => rfl
  | some v =>
    have := h.pos _ _ e
    simp only [Option.getD_some]
    split <;> omega
theorem keysF_congr {room : Nat} {g g' : Int → Bool} (h : ∀ k : Nat, k < room → g k = g' k) : keysF room g = keysF room g' := by
  unfold keysF
  congr 1
  exact List.filter_congr fun k hk => h k (List.mem_range.1 hk)
theorem Rel.all (h : Rel f g G) : allG G 64 = pairsOf f (keysF 64 (Mc.ints f).has) := by
  have e1 : keysF 64 (gg G) = keysF 64 (Mc.ints f).has := keysF_congr fun k hk => by
    show decide (0 ≤ G ((k : Int)).toNat) = (f k).isSome
    rw [Int.toNat_natCast]; exact h.found hk
  unfold allG pairsOf
  rw [e1]
  refine List.map_congr_left fun x hx => ?_
  obtain ⟨h0, h1, h2⟩ := keysF_mem.1 hx
  obtain ⟨n, rfl⟩ := Int.eq_ofNat_of_zero_le h0
  rw [Int.toNat_natCast, h.v n (by omega)]
  have h2 : (f n).isSome = true := h2
  cases e : f n with
  | none => rw [e] at h2; cases h2
  | some v => rfl
theorem Rel.range (h : Rel f g G) (lo hi : Int) : rangeG G lo hi = rangeP f lo hi := by
  unfold rangeG rangeP
  rw [h.all]; rfl
theorem range_all (f : Int → Option Int) : rangeP f 0 63 = pairsOf f (keysF 64 (Mc.ints f).has) := by
  unfold rangeP
  rw [List.filter_eq_self]
  intro p hp
  unfold pairsOf at hp
  obtain ⟨x, hx, rfl⟩ := List.mem_map.1 hp
  obtain ⟨h0, h1, _⟩ := keysF_mem.1 hx
  simp; omega
theorem eqRows_refl (n : Nat) (c : Nat → Int) : eqRows n c n c = true := by
  unfold eqRows
  simp
theorem range_len (f : Int → Option Int) (lo hi : Int) : (rangeP f lo hi).length ≤ 64 := by
  unfold rangeP
  refine Nat.le_trans (List.length_filter_le _ _) ?_
  unfold pairsOf
  rw [List.length_map]
  exact keysF_len _ _
theorem op_val {key v to : Int} (h : isOpB 1 key v to = true) : 0 ≤ v := by
  simp [isOpB, isKeyB] at h; omega
end
end Go.Proofs.Ytdmodejpcfhbhaa
