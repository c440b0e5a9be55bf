/- Maps of one's own, among what is owned. No program is named here. -/
import Derived.Test.YtdmodejpcfhbhaaBase
import Derived.Maps.Own
import Derived.Maps.OwnOps
import Derived.Maps.Keyed
import Derived.Maps.Views
import Derived.Maps.RangeWalk
namespace Go.Proofs.Ytdmodejpcfhbhaa
open Go.RowKit Go.Maps

/-- Block b is owned, and is a map of at most n entries that reads as D. -/
def IsM {H : Type} (h : GH) (P : Program) (k : TypeId) (R : Value → Option (DataW H × List MemPlace)) (b n : Nat) (D : DataW H) : Prop :=
  ∃ es clock, h b = some (.map es clock) ∧ WideElems.Fit P k R es clock ∧ es.size ≤ n ∧ D = .map ((es.toList.map (WideElems.rg P k R)).foldr DataW.insert [])

section
variable {H : Type} {h h' : GH} {P : Program} {k : TypeId} {R : Value → Option (DataW H × List MemPlace)} {b n : Nat} {D : DataW H} {w0 w w' : World}

theorem IsM.owns (hi : IsM h P k R b n D) (m : Mem w0 h w) : w.ownsMap P k R b n D := by
  obtain ⟨es, clock, hb, hf, hs, hD⟩ := hi
  exact ⟨es, clock, m.blk b _ hb, hf, hs, hD⟩

theorem IsM.here (hi : IsM h P k R b n D) : ∃ o, h b = some o := by
  obtain ⟨es, clock, hb, _⟩ := hi
  exact ⟨_, hb⟩

theorem IsM.keep (hi : IsM h P k R b n D) (e : h' b = h b) : IsM h' P k R b n D := by
  obtain ⟨es, clock, hb, r⟩ := hi
  exact ⟨es, clock, e.trans hb, r⟩

theorem IsM.of_owns {o : Obj} (ho : h b = some o) (m : Mem w0 h w) (hw : w.ownsMap P k R b n D) : IsM h P k R b n D := by
  obtain ⟨es, clock, hb, r⟩ := hw
  have := m.blk b o ho
  rw [hb] at this
  cases this
  exact ⟨es, clock, ho, r⟩

theorem IsM.made (h : GH) (P : Program) (k : TypeId) (R : Value → Option (DataW H × List MemPlace)) (b : Nat) : IsM (upd h b (.map #[] 0)) P k R b 0 (.map []) :=
  ⟨#[], 0, upd_same _ _ _, ⟨by simp, MapKept.stamped_empty 0, by simp⟩, Nat.le_refl _, rfl⟩

/-- Behind an operation on it. -/
theorem IsM.turned {n' : Nat} {D' : DataW H} (hi : IsM h P k R b n D) (m : Mem w0 h w) (g : w.grownBy w' (some b)) (hown : w'.ownsMap P k R b n' D') : ∃ o, Mem w0 (upd h b o) w' ∧ IsM (upd h b o) P k R b n' D' := by
  obtain ⟨es, clock, hb, _⟩ := hi
  obtain ⟨es', clock', hb', r⟩ := hown
  exact ⟨_, m.turned hb g hb', es', clock', upd_same _ _ _, r⟩

/-- No block of cells is a map. -/
theorem IsM.ne (hi : IsM h P k R b n D) {j : Nat} {c : Array Value} {T : TypeId} (hj : h j = some (.cells c T)) : b ≠ j := by
  obtain ⟨es, clock, hb, _⟩ := hi
  rintro rfl
  rw [hb] at hj
  cases hj
end

/-! ### A range under way -/
/-- Blocks b and r are owned: a map, and a range over it, of which 'left' is still to come. -/
def IsRg {H : Type} (h : GH) (P : Program) (k : TypeId) (R : Value → Option (DataW H × List MemPlace)) (b r n : Nat) (D : DataW H) (left : Lit → Bool) (cnt : Nat) : Prop :=
  ∃ es clock since seen c0, h b = some (.map es clock) ∧ WideElems.Fit P k R es clock ∧ es.size ≤ n ∧ D = .map ((es.toList.map (WideElems.rg P k R)).foldr DataW.insert []) ∧
    h r = some (.mapIter (some b) since seen c0) ∧ (∀ x ∈ es.toList, x.born < since) ∧ (leftOf es seen).size = cnt ∧
    (∀ x ∈ es.toList, left (WideElems.rg P k R x).1 = !seen.contains x.born) ∧ (∀ kl, left kl = true → ∃ x ∈ es.toList, (WideElems.rg P k R x).1 = kl) ∧ since ≤ c0 ∧ since ≤ clock

section
variable {H : Type} {h h' : GH} {P : Program} {k : TypeId} {R : Value → Option (DataW H × List MemPlace)} {b r n cnt : Nat} {D : DataW H} {left : Lit → Bool} {w0 w w' : World}

theorem IsRg.ranges (hi : IsRg h P k R b r n D left cnt) (m : Mem w0 h w) : w.ranges P k R b r n D left cnt := by
  obtain ⟨es, clock, since, seen, c0, hb, hf, hs, hD, hr, q⟩ := hi
  exact ⟨es, clock, since, seen, c0, m.blk b _ hb, hf, hs, hD, m.blk r _ hr, q⟩

theorem IsRg.keep (hi : IsRg h P k R b r n D left cnt) (eb : h' b = h b) (er : h' r = h r) : IsRg h' P k R b r n D left cnt := by
  obtain ⟨es, clock, since, seen, c0, hb, hf, hs, hD, hr, q⟩ := hi
  exact ⟨es, clock, since, seen, c0, eb.trans hb, hf, hs, hD, er.trans hr, q⟩

theorem IsRg.of_ranges {o o' : Obj} (hb : h b = some o) (hr : h r = some o') (m : Mem w0 h w) (hw : w.ranges P k R b r n D left cnt) : IsRg h P k R b r n D left cnt := by
  obtain ⟨es, clock, since, seen, c0, gb, hf, hs, hD, gr, q⟩ := hw
  have e1 := m.blk b o hb
  have e2 := m.blk r o' hr
  rw [gb] at e1
  rw [gr] at e2
  cases e1
  cases e2
  exact ⟨es, clock, since, seen, c0, hb, hf, hs, hD, hr, q⟩

/-- Where 'range' has made it. -/
theorem IsRg.start (hi : IsM h P k R b n D) (m : Mem w0 h w) (g : w.grownBy w' none) (hw : w'.ranges P k R b w.heap.size n D left cnt) : ∃ o, Mem w0 (upd h w.heap.size o) w' ∧ IsRg (upd h w.heap.size o) P k R b w.heap.size n D left cnt ∧ IsM (upd h w.heap.size o) P k R b n D := by
  obtain ⟨ob, hb⟩ := hi.here
  have hn := m.lt hb
  have m1 : Mem w0 h w' := m.grew g (fun j hj => by cases hj)
  obtain ⟨es, clock, since, seen, c0, gb, hf, hs', hD, gr, q⟩ := hw
  have m2 := m1.addO gr m.below.size
  have eb : upd h w.heap.size (.mapIter (some b) since seen c0) b = h b := upd_other _ _ (by omega)
  exact ⟨_, m2, IsRg.of_ranges (eb.trans hb) (upd_same _ _ _) m2 ⟨es, clock, since, seen, c0, gb, hf, hs', hD, gr, q⟩, hi.keep eb⟩

/-- Behind a step. -/
theorem IsRg.turned {left' : Lit → Bool} {cnt' : Nat} (hi : IsRg h P k R b r n D left cnt) (m : Mem w0 h w) (g : w.grownBy w' (some r)) (hw : w'.ranges P k R b r n D left' cnt') : ∃ o, Mem w0 (upd h r o) w' ∧ IsRg (upd h r o) P k R b r n D left' cnt' := by
  obtain ⟨es, clock, since, seen, c0, hb, _, _, _, hr, _⟩ := hi
  have hne := hw.ne
  obtain ⟨es', clock', since', seen', c0', gb, hf, hs', hD, gr, q⟩ := hw
  have m2 := m.turned hr g gr
  have eb : upd h r (.mapIter (some b) since' seen' c0') b = h b := upd_other _ _ (Ne.symm hne)
  exact ⟨_, m2, IsRg.of_ranges (eb.trans hb) (upd_same _ _ _) m2 ⟨es', clock', since', seen', c0', gb, hf, hs', hD, gr, q⟩⟩

theorem IsRg.ne (hi : IsRg h P k R b r n D left cnt) {j : Nat} {c : Array Value} {T : TypeId} (hj : h j = some (.cells c T)) : b ≠ j ∧ r ≠ j := by
  obtain ⟨es, clock, since, seen, c0, hb, _, _, _, hr, _⟩ := hi
  constructor
  · rintro rfl; rw [hb] at hj; cases hj
  · rintro rfl; rw [hr] at hj; cases hj
end

end Go.Proofs.Ytdmodejpcfhbhaa
