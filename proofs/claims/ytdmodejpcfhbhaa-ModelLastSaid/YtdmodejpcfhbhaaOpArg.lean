/- An op that came in. -/
import Derived.Test.YtdmodejpcfhbhaaTabs
import Derived.Test.YtdmodejpcfhbhaaOpIs
namespace Go.Proofs.Ytdmodejpcfhbhaa
open Go.RowKit Go.ChangeShapes Go.WideShapes Go.Deep
variable {W : World}
section
variable {H : Type} {enc : TypeId × Value → H} {base : Nat} {spare : Nat → Bool} {held : Bool}
set_option maxRecDepth 100000 in
theorem op_arg {r : Reach} {b0 : Nat} {v : Value} {d : DataW H} {p : List MemPlace} (hv : Value.okWide Try.prog W r b0 27 v) (h : DataW.Trod enc Try.prog W base spare held 27 v d p) :
    ∃ a b c e : Int, v = opV a b c e := by
  obtain ⟨cs, rfl, hl, hf⟩ := fields_of_trod Try.underlying27 (by kernel_rfl) (by kernel_rfl) hv h
  have hl : cs.length = 4 := hl
  match cs, hl with
  | [a0, a1, a2, a3], _ =>
    obtain ⟨n0, y0, t0⟩ := hf 0 _ rfl
    obtain ⟨n1, y1, t1⟩ := hf 1 _ rfl
    obtain ⟨n2, y2, t2⟩ := hf 2 _ rfl
    obtain ⟨n3, y3, t3⟩ := hf 3 _ rfl
    obtain ⟨z0, e0, _, _⟩ := DataW.trod_int Try.underlying3 t0
    obtain ⟨z1, e1, _, _⟩ := DataW.trod_int Try.underlying3 t1
    obtain ⟨z2, e2, _, _⟩ := DataW.trod_int Try.underlying3 t2
    obtain ⟨z3, e3, _, _⟩ := DataW.trod_int Try.underlying3 t3
    have q0 : a0 = .int .i64 z0 := List.head_eq_of_cons_eq e0
    have q1 : a1 = .int .i64 z1 := List.head_eq_of_cons_eq e1
    have q2 : a2 = .int .i64 z2 := List.head_eq_of_cons_eq e2
    have q3 : a3 = .int .i64 z3 := List.head_eq_of_cons_eq e3
    subst q0 q1 q2 q3
    exact ⟨z0, z1, z2, z3, rfl⟩
end
end Go.Proofs.Ytdmodejpcfhbhaa
