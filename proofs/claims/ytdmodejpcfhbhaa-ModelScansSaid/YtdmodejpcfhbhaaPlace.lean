/- Package place: where what lies; whether a configuration may be. -/
import Derived.Test.YtdmodejpcfhbhaaAren4
import Derived.Test.YtdmodejpcfhbhaaRead
import Derived.Test.YtdmodejpcfhbhaaMaps
namespace Go.Proofs.Ytdmodejpcfhbhaa
open Go.RowKit Go.Maps

/-- A configuration. -/
structure Cf where
  threads : Int
  cap : Int
  words : Int
  versions : Int

def encC (c : Cf) : Value := .agg #[.int .i64 c.threads, .int .i64 c.cap, .int .i64 c.words, .int .i64 c.versions]
structure Cf.wf (c : Cf) : Prop where
  threads : (Lit.int .i64 c.threads).wf = true
  cap : (Lit.int .i64 c.cap).wf = true
  words : (Lit.int .i64 c.words).wf = true
  versions : (Lit.int .i64 c.versions).wf = true
/-- Threads and cells within their bounds. -/
structure Cf.inb (c : Cf) : Prop where
  t0 : 1 ≤ c.threads
  t1 : c.threads ≤ 8
  c0 : 1 ≤ c.cap
  c1 : c.cap ≤ 16

def Cf.size (c : Cf) : Int := 7 + 3 * c.cap
def Cf.head (c : Cf) : Int := 3 + c.threads + 4
def Cf.first (c : Cf) : Int := c.head + 7
def Cf.top (c : Cf) : Int := c.first + c.size

theorem below_over {w w' : World} (o : Obj) (h : Below (w.alloc o).heap.size (w.alloc o) w') : Below w.heap.size w w' := by
  have b := (Below.refl w.heap.size w).alloc (Nat.le_refl _) o
  exact b.trans (h.mono b.size)

/-- A callee that makes new blocks alone, in a region that draws. -/
theorem in_mem_grown {f : FuncId} {args : Array Value} {w0 : World} {h : GH} {x : MW w0 h} {v : Value}
    (hc : Calls Try.prog f args x.w fun e w' => e = .returned v ∧ Below x.w.heap.size x.w w') : Calls Try.prog f args x.w fun e w'' => e = .returned v ∧ ∃ y : MW w0 h, w'' = y.w :=
  hc.mono fun _ _ ⟨he, hb⟩ => ⟨he, ⟨_, x.m.grown hb⟩, rfl⟩

theorem psa_calls (t : Int) (h0 : 0 ≤ t) (h1 : t ≤ 20) (w : World) :
    Calls Try.prog 34 #[.int .i64 t] w fun e w' => e = .returned (.int .i64 (3 + t)) ∧ w = w' := by
  go_enter Try.func34, Try.ntmps34
  go_wp2
  go_ret
  exact ⟨rfl, rfl⟩

theorem pstate_calls (at' i : Int) (h0 : 0 ≤ at') (h1 : at' ≤ 1000000) (h2 : 0 ≤ i) (h3 : i ≤ 100) (w : World) :
    Calls Try.prog 52 #[.int .i64 at', .int .i64 i] w fun e w' => e = .returned (.int .i64 (at' + 7 + 3 * i)) ∧ w = w' := by
  go_enter Try.func52, Try.ntmps52
  go_wp2
  go_ret
  exact ⟨rfl, rfl⟩

theorem size_calls (c : Cf) (hc : c.inb) (w : World) :
    Calls Try.prog 102 #[encC c] w fun e w' => e = .returned (.int .i64 c.size) ∧ Below w.heap.size w w' := by
  obtain ⟨t0, t1, c0, c1⟩ := hc
  unfold encC Cf.size
  go_enter Try.func102, Try.ntmps102
  go_wp2
  go_ret
  exact ⟨rfl, (Below.refl _ _).alloc (Nat.le_refl _) _⟩

theorem head_calls (c : Cf) (hc : c.inb) (w : World) :
    Calls Try.prog 54 #[encC c] w fun e w' => e = .returned (.int .i64 c.head) ∧ Below w.heap.size w w' := by
  obtain ⟨t0, t1, c0, c1⟩ := hc
  unfold encC Cf.head
  go_enter Try.func54, Try.ntmps54
  go_wp2_with fail
  (with_reducible refine (psa_calls c.threads (by omega) (by omega) _).mono ?_)
  rintro e w' ⟨rfl, rfl⟩
  go_wp2
  go_ret
  exact ⟨rfl, (Below.refl _ _).alloc (Nat.le_refl _) _⟩

theorem first_calls (c : Cf) (hc : c.inb) (w : World) :
    Calls Try.prog 77 #[encC c] w fun e w' => e = .returned (.int .i64 c.first) ∧ Below w.heap.size w w' := by
  have hh := fun w => head_calls c hc w
  obtain ⟨t0, t1, c0, c1⟩ := hc
  unfold Cf.first
  have hb : 8 ≤ c.head ∧ c.head ≤ 15 := by unfold Cf.head; omega
  obtain ⟨hb0, hb1⟩ := hb
  unfold encC at *
  go_enter Try.func77, Try.ntmps77
  go_wp2_with fail
  (with_reducible refine (hh _).mono ?_)
  rintro e w' ⟨rfl, hw'⟩
  go_wp2
  go_ret
  exact ⟨rfl, below_over _ hw'⟩

theorem top_calls (c : Cf) (hc : c.inb) (w : World) :
    Calls Try.prog 76 #[encC c] w fun e w' => e = .returned (.int .i64 c.top) ∧ Below w.heap.size w w' := by
  have hf := fun w => first_calls c hc w
  have hs := fun w => size_calls c hc w
  obtain ⟨t0, t1, c0, c1⟩ := hc
  unfold Cf.top
  have hb : 15 ≤ c.first ∧ c.first ≤ 22 := by unfold Cf.first Cf.head; omega
  have hz : 10 ≤ c.size ∧ c.size ≤ 55 := by unfold Cf.size; omega
  obtain ⟨hb0, hb1⟩ := hb
  obtain ⟨hz0, hz1⟩ := hz
  unfold encC at *
  go_enter Try.func76, Try.ntmps76
  go_wp2_with fail
  have hm := (Mem.start w).keep #[.int .i64 c.threads, .int .i64 c.cap, .int .i64 c.words, .int .i64 c.versions] 29
  have q0 : ∀ x : MW w (upd none0 w.heap.size (.cells #[.int .i64 c.threads, .int .i64 c.cap, .int .i64 c.words, .int .i64 c.versions] 29)), x.w.cell? ⟨w.heap.size, 0, none⟩ = some (.int .i64 c.threads) := fun x => x.m.cell (upd_same _ _ _) 0
  have q1 : ∀ x : MW w (upd none0 w.heap.size (.cells #[.int .i64 c.threads, .int .i64 c.cap, .int .i64 c.words, .int .i64 c.versions] 29)), x.w.cell? ⟨w.heap.size, 1, none⟩ = some (.int .i64 c.cap) := fun x => x.m.cell (upd_same _ _ _) 1
  have q2 : ∀ x : MW w (upd none0 w.heap.size (.cells #[.int .i64 c.threads, .int .i64 c.cap, .int .i64 c.words, .int .i64 c.versions] 29)), x.w.cell? ⟨w.heap.size, 2, none⟩ = some (.int .i64 c.words) := fun x => x.m.cell (upd_same _ _ _) 2
  have q3 : ∀ x : MW w (upd none0 w.heap.size (.cells #[.int .i64 c.threads, .int .i64 c.cap, .int .i64 c.words, .int .i64 c.versions] 29)), x.w.cell? ⟨w.heap.size, 3, none⟩ = some (.int .i64 c.versions) := fun x => x.m.cell (upd_same _ _ _) 3
  have hne : Nonempty (MW w (upd none0 w.heap.size (.cells #[.int .i64 c.threads, .int .i64 c.cap, .int .i64 c.words, .int .i64 c.versions] 29))) := ⟨⟨_, hm⟩⟩
  refine region_mem (by kernel_rfl) (by kernel_rfl) hm ?_
  repeat (any_goals (first | go_big_quiet_step ((first | (go_at_call 77; exact in_mem_grown (hf _)) | (go_at_call 102; exact in_mem_grown (hs _)))) | quiet_step ((first | (go_at_call 77; exact in_mem_grown (hf _)) | (go_at_call 102; exact in_mem_grown (hs _))))))
  refine wpQuiet_nil ?_
  intro w' hw'
  obtain ⟨⟨w', hm'⟩, rfl⟩ := hw'
  go_wp2_with fail
  go_ret
  exact ⟨rfl, hm'.below⟩

end Go.Proofs.Ytdmodejpcfhbhaa
