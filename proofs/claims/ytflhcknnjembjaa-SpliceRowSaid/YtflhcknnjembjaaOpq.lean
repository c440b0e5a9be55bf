/- Arenas that are not reckoned further: what place.Make makes, under another name. -/
import Derived.Test.YtflhcknnjembjaaSxV
namespace Go.Proofs.Ytflhcknnjembjaa
open Go.RowKit
variable {W : World}

noncomputable def Cf.box (c : Cf) : Vw := Classical.choose (⟨c.arena, rfl⟩ : ∃ V : Vw, V = c.arena)
theorem Cf.box_eq (c : Cf) : c.box = c.arena := Classical.choose_spec (⟨c.arena, rfl⟩ : ∃ V : Vw, V = c.arena)
@[simp] theorem sx_inb_box (c : Cf) (j : Int) : c.box.inb j = (0 ≤ j ∧ j < (c.words.toNat : Int)) := by rw [Cf.box_eq]; exact sx_inb_arena c j
@[simp] theorem sx_rd_box (c : Cf) (j : Int) : c.box.rd j = if 0 ≤ j ∧ j < (c.words.toNat : Int) then c.lies j else 0 := by rw [Cf.box_eq]; exact sx_rd_arena c j
noncomputable def dMakeO : DetD
  | [.agg ⟨[.int .i64 t, .int .i64 c, .int .i64 m, .int .i64 v]⟩], H => .ite (⟨t, c, m, v⟩ : Cf).wfB (.ite (decide ((⟨t, c, m, v⟩ : Cf).is = 0))
      (.ret (.tuple ⟨[.pointer (some ⟨H.length, 0, none⟩), .nilIface]⟩) (H ++ [some (true, .ext (.arena (Cf.box ⟨t, c, m, v⟩)))]))
      (.ret (.tuple ⟨[.pointer none, .iface 118 (.int .i64 (⟨t, c, m, v⟩ : Cf).is)]⟩) H)) .no
  | _, _ => .no
theorem ok_MakeO {args : List Value} {H H' : HX} {v : Value} (h : (dMakeO args H).out = some (v, H')) : FWP Try.prog (means W) 16 args H fun a b => a = v ∧ b = H' := by
  unfold dMakeO at h
  split at h
  · rw [Cf.box_eq] at h
    exact ok_Make h
  · cases h
end Go.Proofs.Ytflhcknnjembjaa
