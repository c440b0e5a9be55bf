/- A region that draws its order, shown by what holds between its operations, whichever have come up. No program is named here. -/
import Derived.Test.YtdmodejpcfhbhaaBase
import Derived.Orders
namespace Go.Proofs.Ytdmodejpcfhbhaa
open Go.RowKit

/-- Each operation waits for earlier ones alone. -/
def backward (ops : Array Oper) : Bool := (List.range ops.size).all fun i => ((ops[i]?).map fun o => o.after.all fun e => !Region.binds .any e || decide (e.on < i)).getD true

theorem backward_spec {ops : Array Oper} (h : backward ops = true) {i : Nat} {o : Oper} (ho : ops[i]? = some o) : ∀ e ∈ o.after, Region.binds .any e = true → e.on < i := by
  intro e he hbd
  have hi : i < ops.size := (Array.getElem?_eq_some_iff.1 ho).1
  have := List.all_eq_true.1 h i (List.mem_range.2 hi)
  rw [ho] at this
  simp only [Option.map_some, Option.getD_some] at this
  have := Array.all_eq_true_iff_forall_mem.1 this e he
  simpa [hbd] using this

/-- How many have not come up. -/
def unl (l : Array Bool) : Nat := l.toList.count false

theorem unl_set {l : Array Bool} {i : Nat} (hi : l.getD i true = false) : unl (l.setIfInBounds i true) + 1 = unl l := by
  have hl : i < l.size := by
    rcases Nat.lt_or_ge i l.size with h | h
    · exact h
    · simp [Array.getD, Nat.not_lt.2 h] at hi
  have hv : l.toList[i]'(by simpa using hl) = false := by simpa [Array.getD, hl] using hi
  unfold unl
  have e : (l.setIfInBounds i true).toList = l.toList.set i true := by simp
  rw [e, List.count_set (by simpa using hl), hv]
  have : 0 < l.toList.count false := List.count_pos_iff.2 (by rw [← hv]; exact List.getElem_mem _)
  show l.toList.count false - 1 + 0 + 1 = l.toList.count false
  omega

theorem unl_zero {l : Array Bool} (h : unl l = 0) (i : Nat) (hi : i < l.size) : l.getD i false = true := by
  have h0 := List.count_eq_zero.1 h
  have hm : l[i] ∈ l.toList := by simp
  cases e : l[i] with
  | true => simp [Array.getD, hi, e]
  | false => rw [e] at hm; exact absurd hm h0

section
variable {P : Program} {ops : Array Oper} {Q : Exit → Act → World → Prop}

theorem ready_none {l : Array Bool} (hs : backward ops = true) (hz : l.size = ops.size) (hr : Region.ready .any ops l = []) : ∀ i, i < ops.size → l.getD i false = true := by
  intro i
  induction i using Nat.strongRecOn with
  | ind i ih =>
    intro hi
    cases e : l.getD i false with
    | true => rfl
    | false =>
      exfalso
      have hl : i < l.size := by omega
      have hin : i ∈ Region.ready .any ops l := by
        refine mem_ready.2 ⟨?_, ops[i], by simp [hi], fun d hd hbd => ?_⟩
        · simpa [Array.getD, hl] using e
        · have hlt := backward_spec hs (i := i) (o := ops[i]) (by simp [hi]) d hd hbd
          exact ih d.on hlt (by omega)
      rw [hr] at hin
      cases hin

theorem wpAny_inv (hs : backward ops = true) (I : Array Bool → Act → World → Prop) (hsz : ∀ l a w, I l a w → l.size = ops.size)
    (hend : ∀ l a w, I l a w → (∀ i, i < ops.size → l.getD i false = true) → Q .normal a w)
    (hstep : ∀ i o, ops[i]? = some o → ∀ l a w, I l a w → l.getD i true = false → (∀ e ∈ o.after, Region.binds .any e = true → l.getD e.on false = true) → ∀ K : Act → World → Prop, (∀ a' w', I (l.setIfInBounds i true) a' w' → K a' w') →
      if Region.wanted o (yielded ops a.tmps) then o.wp P a w K Q else K (a.put o.dst undef) w) :
    ∀ (fuel : Nat) (l : Array Bool) (a : Act) (w : World), unl l ≤ fuel → I l a w → wpAny P .any ops Q fuel l a w
  | 0, l, a, w, hu, hI => by
    have hall : ∀ i, i < ops.size → l.getD i false = true := fun i hi => unl_zero (by omega) i (by rw [hsz _ _ _ hI]; exact hi)
    refine ⟨?_, hend _ _ _ hI hall⟩
    cases hr : Region.ready .any ops l with
    | nil => rfl
    | cons j t =>
      exfalso
      have hj : j ∈ Region.ready .any ops l := by rw [hr]; simp
      obtain ⟨h1, o, ho, _⟩ := mem_ready.1 hj
      have hi : j < ops.size := (Array.getElem?_eq_some_iff.1 ho).1
      have h2 := hall j hi
      have hl : j < l.size := by rw [hsz _ _ _ hI]; exact hi
      simp [Array.getD, hl] at h1 h2
      rw [h1] at h2; cases h2
  | fuel + 1, l, a, w, hu, hI => by
    refine ⟨fun hr => hend _ _ _ hI (ready_none hs (hsz _ _ _ hI) hr), fun i hi => ?_⟩
    obtain ⟨h1, o, ho, hdeps⟩ := mem_ready.1 hi
    have hst := hstep i o ho l a w hI h1 hdeps (wpAny P .any ops Q fuel (l.setIfInBounds i true)) (fun a' w' hI' => wpAny_inv hs I hsz hend hstep fuel _ a' w' (by have := unl_set h1; omega) hI')
    unfold wpOp
    simp only [ho]
    split
    · rename_i hw
      rw [if_pos hw] at hst
      exact .inl hst
    · rename_i hw
      rw [if_neg hw] at hst
      exact hst

/-- The rule. -/
theorem region_inv {id : Nat} {a : Act} {w : World} (hm : P.follows .mixedOrders = true) (hs : backward ops = true) (I : Array Bool → Act → World → Prop)
    (h0 : I (Array.replicate ops.size false) a w.drew) (hsz : ∀ l a w, I l a w → l.size = ops.size)
    (hend : ∀ l a w, I l a w → (∀ i, i < ops.size → l.getD i false = true) → Q .normal a w)
    (hstep : ∀ i o, ops[i]? = some o → ∀ l a w, I l a w → l.getD i true = false → (∀ e ∈ o.after, Region.binds .any e = true → l.getD e.on false = true) → ∀ K : Act → World → Prop, (∀ a' w', I (l.setIfInBounds i true) a' w' → K a' w') →
      if Region.wanted o (yielded ops a.tmps) then o.wp P a w K Q else K (a.put o.dst undef) w) :
    (Code.region id ops true).wp P Q a w :=
  wp_region_any hm (wpAny_inv hs I hsz hend hstep ops.size _ a _ (by unfold unl; simp) h0)
end

end Go.Proofs.Ytdmodejpcfhbhaa
