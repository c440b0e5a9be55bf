/- errors.Is of an error number and itself. -/
import Derived.Test.YtdmodejpcfhbhaaProg
import Derived.Test.YtdmodejpcfhbhaaBase
import Derived.LaidEql
import Derived.Stop.Asserts
namespace Go.Proofs.Ytdmodejpcfhbhaa
open Go.RowKit Go.Extern.Stop Go.Stop Go.Extern

theorem errTypeOf (v : Value) (w : World) : (Extern.ReflectliteType.typeOf #[.iface 100 v]).run Try.prog w = .ok (.iface 173 (.agg #[.pointer (some ⟨0, 100, none⟩)])) w := by kernel_rfl
def errComp : Array Value → Sem Value := Extern.ReflectliteType.method fun t => do Go.Extern.Rtype.noPackHeld "Comparable" t; pure (.bool (← typeInfo t).comparable)
theorem errComparable : ∃ f, Extern.find Try.f172 = some f ∧ ∀ w, (f #[.agg #[.pointer (some ⟨0, 100, none⟩)]]).run Try.prog w = .ok (.bool true) w :=
  ⟨errComp, by kernel_rfl, fun w => by kernel_rfl⟩
theorem errMethod (v : Value) (w : World) : (Go.method (Try.prog.types.size + Made.depth) 173 v "Comparable").run Try.prog w = .ok (172, v) w := by kernel_rfl
theorem errSame10 (w : World) : (binOp .eql 35 (.iface 100 (.int .i64 10)) (.iface 100 (.int .i64 10))).run Try.prog w = .ok (.bool true) w := by kernel_rfl
theorem errSame11 (w : World) : (binOp .eql 35 (.iface 100 (.int .i64 11)) (.iface 100 (.int .i64 11))).run Try.prog w = .ok (.bool true) w := by kernel_rfl
theorem errSame12 (w : World) : (binOp .eql 35 (.iface 100 (.int .i64 12)) (.iface 100 (.int .i64 12))).run Try.prog w = .ok (.bool true) w := by kernel_rfl
theorem errSame14 (w : World) : (binOp .eql 35 (.iface 100 (.int .i64 14)) (.iface 100 (.int .i64 14))).run Try.prog w = .ok (.bool true) w := by kernel_rfl
theorem errSame15 (w : World) : (binOp .eql 35 (.iface 100 (.int .i64 15)) (.iface 100 (.int .i64 15))).run Try.prog w = .ok (.bool true) w := by kernel_rfl
theorem errSame16 (w : World) : (binOp .eql 35 (.iface 100 (.int .i64 16)) (.iface 100 (.int .i64 16))).run Try.prog w = .ok (.bool true) w := by kernel_rfl

set_option maxHeartbeats 2000000 in
theorem is_same (n : Int) (hn : n = 10 ∨ n = 11 ∨ n = 12 ∨ n = 14 ∨ n = 15 ∨ n = 16) (w : World) :
    Calls Try.prog 61 #[.iface 100 (.int .i64 n), .iface 100 (.int .i64 n)] w fun e w' => e = .returned (.bool true) ∧ w = w' := by
  have h8 := @run_callFunc_extern Try.prog 92 _ Extern.ReflectliteType.typeOf Try.func92 (by kernel_rfl) (by kernel_rfl) (by kernel_rfl) (by kernel_rfl)
  obtain ⟨f, hfind, cT⟩ := errComparable
  have h32 := @run_callFunc_extern Try.prog 172 _ f Try.func172 (by kernel_rfl) (by kernel_rfl) (by kernel_rfl) hfind
  have tT := errTypeOf
  have mR := errMethod
  rw [show Try.prog.types.size + Made.depth = 346 from by kernel_rfl] at mR
  rcases hn with rfl | rfl | rfl | rfl | rfl | rfl
  · have heq := errSame10
    go_enter Try.func61, Try.ntmps61
    go_wp2
    refine wp_loop_rounds 1 ?_
    rw [rounds_succ]
    go_wp2
    go_ret
    exact ⟨rfl, rfl⟩
  · have heq := errSame11
    go_enter Try.func61, Try.ntmps61
    go_wp2
    refine wp_loop_rounds 1 ?_
    rw [rounds_succ]
    go_wp2
    go_ret
    exact ⟨rfl, rfl⟩
  · have heq := errSame12
    go_enter Try.func61, Try.ntmps61
    go_wp2
    refine wp_loop_rounds 1 ?_
    rw [rounds_succ]
    go_wp2
    go_ret
    exact ⟨rfl, rfl⟩
  · have heq := errSame14
    go_enter Try.func61, Try.ntmps61
    go_wp2
    refine wp_loop_rounds 1 ?_
    rw [rounds_succ]
    go_wp2
    go_ret
    exact ⟨rfl, rfl⟩
  · have heq := errSame15
    go_enter Try.func61, Try.ntmps61
    go_wp2
    refine wp_loop_rounds 1 ?_
    rw [rounds_succ]
    go_wp2
    go_ret
    exact ⟨rfl, rfl⟩
  · have heq := errSame16
    go_enter Try.func61, Try.ntmps61
    go_wp2
    refine wp_loop_rounds 1 ?_
    rw [rounds_succ]
    go_wp2
    go_ret
    exact ⟨rfl, rfl⟩

end Go.Proofs.Ytdmodejpcfhbhaa
