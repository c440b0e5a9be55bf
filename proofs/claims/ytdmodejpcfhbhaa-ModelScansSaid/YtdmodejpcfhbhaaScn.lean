/- A range of a map parted: lists alone. -/
import Derived.Test.YtdmodejpcfhbhaaMcp
namespace Go.Proofs.Ytdmodejpcfhbhaa
open Go.RowKit

def Up (l : List (Int × Int)) : Prop := l.Pairwise fun p q => p.1 < q.1
def cutP (a b : Int) (l : List (Int × Int)) : List (Int × Int) := l.filter fun p => decide (a ≤ p.1) && decide (p.1 ≤ b)
theorem cutP_cons_in {a b : Int} {x : Int × Int} {t : List (Int × Int)} (h : a ≤ x.1 ∧ x.1 ≤ b) : cutP a b (x :: t) = x :: cutP a b t := by
  unfold cutP
  rw [List.filter_cons, if_pos]
  simp; omega
theorem cutP_cons_out {a b : Int} {x : Int × Int} {t : List (Int × Int)} (h : ¬ (a ≤ x.1 ∧ x.1 ≤ b)) : cutP a b (x :: t) = cutP a b t := by
  unfold cutP
  rw [List.filter_cons, if_neg]
  intro e
  simp at e
  exact h e
theorem cutP_none {a b : Int} {l : List (Int × Int)} (h : ∀ p ∈ l, ¬ (a ≤ p.1 ∧ p.1 ≤ b)) : cutP a b l = [] := by
  induction l with
  | nil => rfl
  | cons x t ih => rw [cutP_cons_out (h x (by simp))]; exact ih fun p hp => h p (by simp [hp])
theorem cutP_split {a c b : Int} (hcb : c ≤ b) (hac : a ≤ c + 1) : ∀ {l : List (Int × Int)}, Up l → cutP a b l = cutP a c l ++ cutP (c + 1) b l
  | [], _ => rfl
  | x :: t, h => by
    obtain ⟨hx, ht⟩ := List.pairwise_cons.1 h
    have ih := cutP_split hcb hac ht
    by_cases h1 : x.1 < a
    · rw [cutP_cons_out (by omega), cutP_cons_out (by omega), cutP_cons_out (by omega)]; exact ih
    · by_cases h2 : x.1 ≤ c
      · rw [cutP_cons_in (by omega), cutP_cons_in (by omega), cutP_cons_out (by omega), ih]; rfl
      · by_cases h3 : x.1 ≤ b
        · have e : cutP a c t = [] := cutP_none fun p hp => by have := hx p hp; omega
          rw [cutP_cons_in (by omega), cutP_cons_out (by omega), cutP_cons_in (by omega), ih, e]; rfl
        · rw [cutP_cons_out (by omega), cutP_cons_out (by omega), cutP_cons_out (by omega)]; exact ih
theorem cutP_one {p : Int × Int} : ∀ {l : List (Int × Int)}, Up l → p ∈ l → cutP p.1 p.1 l = [p]
  | [], _, h => by cases h
  | x :: t, h, hp => by
    obtain ⟨hx, ht⟩ := List.pairwise_cons.1 h
    rcases List.mem_cons.1 hp with rfl | hp
    · rw [cutP_cons_in (by omega), cutP_none fun q hq => by have := hx q hq; omega]
    · have := hx p hp
      rw [cutP_cons_out (by omega)]; exact cutP_one ht hp
theorem pairs_up (f : Int → Option Int) : Up (pairsOf f (keysF 64 (Mc.ints f).has)) := by
  unfold pairsOf keysF Up
  rw [List.map_map, List.pairwise_map]
  refine (List.Pairwise.filter _ List.pairwise_lt_range).imp ?_
  intro i j h
  simp; omega
theorem rangeP_cut (f : Int → Option Int) (a b : Int) : rangeP f a b = cutP a b (pairsOf f (keysF 64 (Mc.ints f).has)) := rfl
theorem rangeP_split (f : Int → Option Int) {a c b : Int} (hcb : c ≤ b) (hac : a ≤ c + 1) : rangeP f a b = rangeP f a c ++ rangeP f (c + 1) b := by
  rw [rangeP_cut, rangeP_cut, rangeP_cut]; exact cutP_split hcb hac (pairs_up f)
theorem rangeP_empty (f : Int → Option Int) {a b : Int} (h : b < a) : rangeP f a b = [] := by
  rw [rangeP_cut]; exact cutP_none fun p _ => by omega
theorem rangeP_one (f : Int → Option Int) {k : Nat} (hk : k < 64) : rangeP f k k = if (f k).isSome then [((k : Int), (f k).getD 0)] else [] := by
  rw [rangeP_cut]
  split
  · rename_i h
    refine cutP_one (p := ((k : Int), (f k).getD 0)) (pairs_up f) ?_
    unfold pairsOf
    exact List.mem_map.2 ⟨(k : Int), keysF_mem.2 ⟨by omega, by omega, h⟩, rfl⟩
  · rename_i h
    refine cutP_none fun p hp hh => ?_
    unfold pairsOf at hp
    obtain ⟨x, hx, rfl⟩ := List.mem_map.1 hp
    obtain ⟨_, _, h3⟩ := keysF_mem.1 hx
    have : x = (k : Int) := by simp at hh; omega
    subst this
    exact h h3
/-- How many of the range lie before k. -/
def cnt (f : Int → Option Int) (a k : Nat) : Nat := (rangeP f a ((k : Int) - 1)).length
theorem cnt_zero (f : Int → Option Int) (a : Nat) : cnt f a a = 0 := by unfold cnt; rw [rangeP_empty f (by omega)]; rfl
theorem cnt_step (f : Int → Option Int) {a k : Nat} (hak : a ≤ k) (hk : k < 64) : cnt f a (k + 1) = cnt f a k + if (f k).isSome then 1 else 0 := by
  unfold cnt
  have e : (((k + 1 : Nat) : Int) - 1) = k := by omega
  rw [e, rangeP_split f (a := a) (c := (k : Int) - 1) (b := k) (by omega) (by omega), List.length_append, show (k : Int) - 1 + 1 = k from by omega, rangeP_one f hk]
  split <;> rfl
theorem cnt_at (f : Int → Option Int) {a b k : Nat} (hak : a ≤ k) (hkb : k ≤ b) (hb : b < 64) (hs : (f k).isSome = true) : cnt f a k < (rangeP f a b).length ∧ (rangeP f a b).getD (cnt f a k) (0, 0) = ((k : Int), (f k).getD 0) := by
  have e : rangeP f a b = rangeP f a ((k : Int) - 1) ++ (((k : Int), (f k).getD 0) :: rangeP f ((k : Int) + 1) b) := by
    rw [rangeP_split f (a := a) (c := (k : Int) - 1) (b := b) (by omega) (by omega), show (k : Int) - 1 + 1 = k from by omega, rangeP_split f (a := k) (c := k) (b := b) (by omega) (by omega), rangeP_one f (by omega), if_pos hs]
    rfl
  unfold cnt
  rw [e]
  refine ⟨by simp, ?_⟩
  simp
theorem cnt_end (f : Int → Option Int) (a b : Nat) : cnt f a (b + 1) = (rangeP f a b).length := by
  unfold cnt
  rw [show ((b + 1 : Nat) : Int) - 1 = b from by omega]
theorem pairF_cat (y z : List (Int × Int)) (q : Nat) : pairF (y ++ z) q = if q < y.length * 2 then pairF y q else pairF z (q - y.length * 2) := by
  unfold pairF
  by_cases h : q < y.length * 2
  · rw [if_pos h, List.getD_eq_getElem?_getD, List.getD_eq_getElem?_getD, List.getElem?_append_left (by omega)]
  · rw [if_neg h, List.getD_eq_getElem?_getD, List.getD_eq_getElem?_getD, List.getElem?_append_right (by omega), show (q - y.length * 2) % 2 = q % 2 from by omega, show (q - y.length * 2) / 2 = q / 2 - y.length from by omega]
theorem eqRows_of {n1 n2 : Nat} {c1 c2 : Nat → Int} (hn : n1 = n2) (hc : ∀ q, c1 q = c2 q) : eqRows n1 c1 n2 c2 = true := by
  rw [hn, funext hc]; exact eqRows_refl _ _
end Go.Proofs.Ytdmodejpcfhbhaa
