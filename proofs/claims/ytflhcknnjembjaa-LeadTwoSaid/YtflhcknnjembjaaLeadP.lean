/- Two who lead, as few numbers: what they come to, tried out. -/
import Derived.Test.YtflhcknnjembjaaSxT
namespace Go.Proofs.Ytflhcknnjembjaa
open Go.RowKit
namespace LD
/-- One who leads: chunks are numbered 1, 2, 3; a word is twice a chunk, and its mark. -/
structure LA where
  line : Nat
  w : Nat
  l : Nat
  n : Nat
  m : Nat
  mate : Nat
  aft : Nat
structure GA where
  n1 : Nat
  l1 : Nat
  t1 : Nat
  n2 : Nat
  l2 : Nat
  t2 : Nat
  n3 : Nat
  l3 : Nat
  t3 : Nat
def GA.nx (g : GA) : Nat → Nat
  | 1 => g.n1 | 2 => g.n2 | 3 => g.n3 | _ => 0
def GA.ld (g : GA) : Nat → Nat
  | 1 => g.l1 | 2 => g.l2 | 3 => g.l3 | _ => 0
def GA.mt (g : GA) : Nat → Nat
  | 1 => g.t1 | 2 => g.t2 | 3 => g.t3 | _ => 0
def GA.setN (g : GA) (c v : Nat) : GA := match c with
  | 1 => { g with n1 := v } | 2 => { g with n2 := v } | 3 => { g with n3 := v } | _ => g
def GA.setL (g : GA) (c v : Nat) : GA := match c with
  | 1 => { g with l1 := v } | 2 => { g with l2 := v } | 3 => { g with l3 := v } | _ => g
def GA.setT (g : GA) (c v : Nat) : GA := match c with
  | 1 => { g with t1 := v } | 2 => { g with t2 := v } | 3 => { g with t3 := v } | _ => g
def LA.step (ch : Nat) (dr : Bool) (x : LA) (g : GA) : LA × GA :=
  match x.line with
  | 1 => ({ x with line := 2 }, if g.ld ch = 0 then g.setL ch ch else g)
  | 2 => ({ x with l := g.ld ch, line := 3 }, g)
  | 3 => (if g.nx x.l % 2 = 1 then { x with w := g.nx x.l, n := g.nx x.l / 2, line := 5 } else { x with w := g.nx x.l, line := 4 }, g)
  | 4 => ({ x with line := 3 }, if g.nx x.l = x.w then g.setN x.l (x.w + 1) else g)
  | 5 => (if g.mt x.l = 0 then { x with m := g.mt x.l, line := 6 } else if g.mt x.l = 1 ∨ x.n = 0 then { x with m := g.mt x.l, aft := x.n, line := 0 } else { x with m := g.mt x.l, line := 8 }, g)
  | 6 => ({ x with line := 7 }, if g.mt x.l = 0 then g.setT x.l (if dr = true ∧ x.n ≠ 0 then x.n else 1) else g)
  | 7 => (if g.mt x.l = 1 ∨ x.n = 0 then { x with m := g.mt x.l, aft := x.n, line := 0 } else { x with m := g.mt x.l, line := 8 }, g)
  | 8 => ({ x with line := 9 }, if g.ld x.n = 0 then g.setL x.n x.l else g)
  | 9 => (if g.ld x.n ≠ x.l then { x with aft := x.n, line := 0 } else { x with line := 10 }, g)
  | 10 => (if g.nx x.n % 2 = 1 then { x with w := g.nx x.n, mate := x.n, aft := g.nx x.n / 2, line := 0 } else { x with w := g.nx x.n, line := 11 }, g)
  | 11 => ({ x with line := 10 }, if g.nx x.n = x.w then g.setN x.n (x.w + 1) else g)
  | _ => (x, g)
structure St where
  x : LA
  y : LA
  g : GA
def St.sx (a : Bool) (s : St) : St := ⟨(s.x.step 1 a s.g).1, s.y, (s.x.step 1 a s.g).2⟩
def St.sy (b : Bool) (s : St) : St := ⟨s.x, (s.y.step 2 b s.g).1, (s.y.step 2 b s.g).2⟩
def st0 (more : Bool) : St := ⟨⟨1, 0, 0, 0, 0, 0, 0⟩, ⟨1, 0, 0, 0, 0, 0, 0⟩, ⟨4, 0, 0, if more then 6 else 0, 0, 0, 0, 0, 0⟩⟩
def LA.eqB (x y : LA) : Bool := Nat.beq x.line y.line && (Nat.beq x.w y.w && (Nat.beq x.l y.l && (Nat.beq x.n y.n && (Nat.beq x.m y.m && (Nat.beq x.mate y.mate && Nat.beq x.aft y.aft)))))
def GA.eqB (x y : GA) : Bool := Nat.beq x.n1 y.n1 && (Nat.beq x.l1 y.l1 && (Nat.beq x.t1 y.t1 && (Nat.beq x.n2 y.n2 && (Nat.beq x.l2 y.l2 && (Nat.beq x.t2 y.t2 && (Nat.beq x.n3 y.n3 && (Nat.beq x.l3 y.l3 && Nat.beq x.t3 y.t3)))))))
def St.eqB (s t : St) : Bool := s.x.eqB t.x && (s.y.eqB t.y && s.g.eqB t.g)
theorem LA.eqB_eq {x y : LA} (h : x.eqB y = true) : x = y := by
  cases x; cases y
  simp only [LA.eqB, Bool.and_eq_true, Nat.beq_eq] at h
  simp [h]
theorem GA.eqB_eq {x y : GA} (h : x.eqB y = true) : x = y := by
  cases x; cases y
  simp only [GA.eqB, Bool.and_eq_true, Nat.beq_eq] at h
  simp [h]
theorem St.eqB_eq {s t : St} (h : s.eqB t = true) : s = t := by
  cases s; cases t
  simp only [St.eqB, Bool.and_eq_true] at h
  rw [LA.eqB_eq h.1, LA.eqB_eq h.2.1, GA.eqB_eq h.2.2]
def memB (s : St) : List St → Bool
  | [] => false
  | t :: l => match s.eqB t with
    | true => true
    | false => memB s l
theorem memB_mem {s : St} : ∀ {l : List St}, memB s l = true → s ∈ l
  | [], h => by cases h
  | t :: l, h => by
    unfold memB at h
    split at h
    · rename_i q; rw [St.eqB_eq q]; exact .head _
    · exact .tail _ (memB_mem h)
/-- Those that aren't met yet are added; they are told. -/
def add (s : St) : List St × List St → List St × List St
  | (seen, new) => match memB s seen with
    | true => (seen, new)
    | false => (s :: seen, s :: new)
def turn (a b : Bool) : List St → List St × List St → List St × List St
  | [], r => r
  | s :: l, r => turn a b l (add (s.sy b) (add (s.sx a) r))
def bfs (a b : Bool) : Nat → List St → List St → List St
  | 0, seen, _ => seen
  | k + 1, seen, fr => match turn a b fr (seen, []) with
    | (seen, new) => bfs a b k seen new
def reach (a b more : Bool) : List St := bfs a b 40 [st0 more] [st0 more]
/-- All that is asked of them. -/
def LA.wf (x : LA) : Bool := Nat.ble x.line 11 && (Nat.ble x.w 7 && (Nat.ble x.l 3 && (Nat.ble x.n 3 && (Nat.ble x.m 3 && ((Nat.ble x.line 2 || Nat.beq x.line 0 || Nat.ble 1 x.l) && ((Nat.ble x.line 7 || Nat.ble 1 x.n) && (!(Nat.beq x.n 1) && ((!(Nat.beq x.line 4) && !(Nat.beq x.line 11)) || Nat.beq (x.w % 2) 0))))))))
def GA.wf (g : GA) : Bool := Nat.ble g.n1 7 && (Nat.ble g.n2 7 && (Nat.ble g.n3 7 && (Nat.ble g.l1 3 && (Nat.ble g.l2 3 && (Nat.ble g.l3 3 && (Nat.ble g.t1 3 && (Nat.ble g.t2 3 && Nat.ble g.t3 3)))))))
def run (a b : Bool) : Nat → St → St
  | 0, s => s
  | k + 1, s => run a b k ((s.sx a).sy b)
def good (b more : Bool) (s : St) : Bool :=
  Nat.beq s.x.line 0 && (Nat.beq s.y.line 0 && (Nat.beq s.x.l 1 && (Nat.beq s.g.l1 1 &&
    ((Nat.beq s.x.mate 2 && (Nat.beq s.y.l 1 && (Nat.beq s.y.mate 2 && (Nat.beq s.x.aft s.y.aft && Nat.beq s.g.l2 1)))) ||
     (Nat.beq s.x.mate 0 && (Nat.beq s.x.aft 2 && (Nat.beq s.y.l 2 && (Nat.beq s.g.l2 2 &&
       ((Nat.beq s.y.mate 3 && (more && (b && (Nat.beq s.g.l3 2 && Nat.beq s.y.aft 0)))) || (Nat.beq s.y.mate 0 && (match more with | true => Nat.beq s.y.aft 3 | false => Nat.beq s.y.aft 0)))))))))))
def fine (a b more : Bool) (R : List St) : Bool := memB (st0 more) R && R.all fun s => memB (s.sx a) R && (memB (s.sy b) R && (s.x.wf && (s.y.wf && (s.g.wf && good b more (run a b 40 s)))))
theorem all_fine (a b more : Bool) : fine a b more (reach a b more) = true := by
  cases a <;> cases b <;> cases more <;> kernel_rfl
end LD
end Go.Proofs.Ytflhcknnjembjaa
