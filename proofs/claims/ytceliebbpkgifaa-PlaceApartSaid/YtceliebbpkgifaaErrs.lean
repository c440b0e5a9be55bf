/- errors.Is of an error number and itself. -/
import Derived.Test.YtceliebbpkgifaaProg
import Derived.Test.YtceliebbpkgifaaBase
import Derived.LaidEql
import Derived.Stop.Asserts
namespace Go.Proofs.Ytceliebbpkgifaa
open Go.RowKit Go.Extern.Stop Go.Stop Go.Extern

theorem errTypeOf (v : Value) (w : World) : (Extern.ReflectliteType.typeOf #[.iface 85 v]).run Try.prog w = .ok (.iface 97 (.agg #[.pointer (some ⟨0, 85, none⟩)])) w := by kernel_rfl
def errComp : Array Value → Sem Value := Extern.ReflectliteType.method fun t => do Go.Extern.Rtype.noPackHeld "Comparable" t; pure (.bool (← typeInfo t).comparable)
theorem errComparable : ∃ f, Extern.find Try.f97 = some f ∧ ∀ w, (f #[.agg #[.pointer (some ⟨0, 85, none⟩)]]).run Try.prog w = .ok (.bool true) w :=
  ⟨errComp, by kernel_rfl, fun w => by kernel_rfl⟩
theorem errMethod (v : Value) (w : World) : (Go.method (Try.prog.types.size + Made.depth) 97 v "Comparable").run Try.prog w = .ok (97, v) w := by kernel_rfl
theorem errSame10 (w : World) : (binOp .eql 62 (.iface 85 (.int .i64 10)) (.iface 85 (.int .i64 10))).run Try.prog w = .ok (.bool true) w := by kernel_rfl
theorem errSame14 (w : World) : (binOp .eql 62 (.iface 85 (.int .i64 14)) (.iface 85 (.int .i64 14))).run Try.prog w = .ok (.bool true) w := by kernel_rfl

set_option maxHeartbeats 2000000 in
theorem is_same (n : Int) (hn : n = 10 ∨ n = 14) (w : World) :
    Calls Try.prog 74 #[.iface 85 (.int .i64 n), .iface 85 (.int .i64 n)] w fun e w' => e = .returned (.bool true) ∧ w = w' := by
  have h8 := @run_callFunc_extern Try.prog 76 _ Extern.ReflectliteType.typeOf Try.func76 (by kernel_rfl) (by kernel_rfl) (by kernel_rfl) (by kernel_rfl)
  obtain ⟨f, hfind, cT⟩ := errComparable
  have h32 := @run_callFunc_extern Try.prog 97 _ f Try.func97 (by kernel_rfl) (by kernel_rfl) (by kernel_rfl) hfind
  have tT := errTypeOf
  have mR := errMethod
  rw [show Try.prog.types.size + Made.depth = 185 from by kernel_rfl] at mR
  have heq := errSame10
  have heq' := errSame14
  rcases hn with rfl | rfl
  · go_enter Try.func74, Try.ntmps74
    go_wp2
    refine wp_loop_rounds 1 ?_
    rw [rounds_succ]
    go_wp2
    go_ret
    exact ⟨rfl, rfl⟩
  · go_enter Try.func74, Try.ntmps74
    go_wp2
    refine wp_loop_rounds 1 ?_
    rw [rounds_succ]
    go_wp2
    go_ret
    exact ⟨rfl, rfl⟩

end Go.Proofs.Ytceliebbpkgifaa
