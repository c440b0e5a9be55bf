/- A chunk that came in. -/
import Derived.Test.YtflhcknnjembjaaTabs
import Derived.Test.YtflhcknnjembjaaViewUnlikeN
namespace Go.Proofs.Ytflhcknnjembjaa
open Go.RowKit Go.ChangeShapes Go.WideShapes Go.Deep
variable {W : World}
section
variable {H : Type} {enc : TypeId × Value → H} {base : Nat} {spare : Nat → Bool} {held : Bool}
set_option maxRecDepth 100000 in
theorem chunk_arg {r : Reach} {b0 : Nat} {v : Value} {d : DataW H} {p : List MemPlace} (hv : Value.okWide Try.prog W r b0 52 v) (h : DataW.Trod enc Try.prog W base spare held 52 v d p) :
    ∃ (g z : Nat → Int) (A : Option Addr) (len cap : Nat), v = VU.xs g (.slice A len cap) ∧ (∀ i, i < 8 → (Lit.int .i64 (g i)).wf = true) ∧ IsTri W A 3 len cap z := by
  obtain ⟨cs, rfl, hl, hf⟩ := fields_of_trod Try.underlying52 (by kernel_rfl) (by kernel_rfl) hv h
  have hl : cs.length = 9 := hl
  match cs, hl with
  | [a0, a1, a2, a3, a4, a5, a6, a7, a8], _ =>
    obtain ⟨n0, y0, t0⟩ := hf 0 _ rfl
    obtain ⟨n1, y1, t1⟩ := hf 1 _ rfl
    obtain ⟨n2, y2, t2⟩ := hf 2 _ rfl
    obtain ⟨n3, y3, t3⟩ := hf 3 _ rfl
    obtain ⟨n4, y4, t4⟩ := hf 4 _ rfl
    obtain ⟨n5, y5, t5⟩ := hf 5 _ rfl
    obtain ⟨n6, y6, t6⟩ := hf 6 _ rfl
    obtain ⟨n7, y7, t7⟩ := hf 7 _ rfl
    obtain ⟨n8, y8, t8⟩ := hf 8 _ rfl
    obtain ⟨z0, e0, _, w0⟩ := DataW.trod_int Try.underlying3 t0
    obtain ⟨z1, e1, _, w1⟩ := DataW.trod_int Try.underlying3 t1
    obtain ⟨z2, e2, _, w2⟩ := DataW.trod_int Try.underlying3 t2
    obtain ⟨z3, e3, _, w3⟩ := DataW.trod_int Try.underlying3 t3
    obtain ⟨z4, e4, _, w4⟩ := DataW.trod_int Try.underlying3 t4
    obtain ⟨z5, e5, _, w5⟩ := DataW.trod_int Try.underlying3 t5
    obtain ⟨z6, e6, _, w6⟩ := DataW.trod_int Try.underlying3 t6
    obtain ⟨z7, e7, _, w7⟩ := DataW.trod_int Try.underlying3 t7
    obtain ⟨A, len, cap, z, e8, tri⟩ := tri_of_trod Try.underlying50 Try.underlying55 (by kernel_rfl) (by
      intro j f hf
      rcases j with _ | _ | _ | j
      · obtain rfl := Option.some.inj hf; exact Try.underlying3
      · obtain rfl := Option.some.inj hf; exact Try.underlying3
      · obtain rfl := Option.some.inj hf; exact Try.underlying3
      · simp at hf) (by kernel_rfl) (by decide) t8
    have q0 : a0 = .int .i64 z0 := List.head_eq_of_cons_eq e0
    have q1 : a1 = .int .i64 z1 := List.head_eq_of_cons_eq e1
    have q2 : a2 = .int .i64 z2 := List.head_eq_of_cons_eq e2
    have q3 : a3 = .int .i64 z3 := List.head_eq_of_cons_eq e3
    have q4 : a4 = .int .i64 z4 := List.head_eq_of_cons_eq e4
    have q5 : a5 = .int .i64 z5 := List.head_eq_of_cons_eq e5
    have q6 : a6 = .int .i64 z6 := List.head_eq_of_cons_eq e6
    have q7 : a7 = .int .i64 z7 := List.head_eq_of_cons_eq e7
    have q8 : a8 = .slice A len cap := List.head_eq_of_cons_eq e8
    subst q0 q1 q2 q3 q4 q5 q6 q7 q8
    refine ⟨fun i => [z0, z1, z2, z3, z4, z5, z6, z7].getD i 0, z, A, len, cap, rfl, fun i hi => ?_, tri⟩
    rcases i with _ | _ | _ | _ | _ | _ | _ | _ | i
    · exact w0
    · exact w1
    · exact w2
    · exact w3
    · exact w4
    · exact w5
    · exact w6
    · exact w7
    · omega
end
end Go.Proofs.Ytflhcknnjembjaa
