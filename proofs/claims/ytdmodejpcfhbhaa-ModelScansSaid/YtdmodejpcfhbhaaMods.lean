/- What packages' structs hold, and what a step makes of them: numbers alone, no Go. -/
import Derived.Test.YtdmodejpcfhbhaaAren4
import Derived.Test.YtdmodejpcfhbhaaWord
import Derived.Test.YtdmodejpcfhbhaaPlace
namespace Go.Proofs.Ytdmodejpcfhbhaa
open Go.RowKit

abbrev W64 (x : Int) : Int := IntKind.i64.wrap x
/-- The word of a cell's state. -/
def psF (at' i : Int) : Int := W64 (W64 (at' + 7) + W64 (3 * i))
def psaF (t : Int) : Int := W64 (3 + t)
def verW (s : Int) : Int := if s < 3 then -1 else W64 (s - 3)
def Cf.enc (c : Cf) : List Value := [.int .i64 c.threads, .int .i64 c.cap, .int .i64 c.words, .int .i64 c.versions]

/-! ### Package cell -/
structure CellM where
  c : Cf
  chunk : Int
  key : Int
  data : Int
  line : Nat
  i : Int
  g : Int
  version : Int
  ok : Bool
def CellM.enc (x : CellM) : List Value := [.int .i64 x.c.threads, .int .i64 x.c.cap, .int .i64 x.c.words, .int .i64 x.c.versions, .int .i64 x.chunk, .int .i64 x.key, .int .i64 x.data, .int .i64 (x.line : Int), .int .i64 x.i, .int .i64 x.g, .int .i64 x.version, .bool x.ok]
def CellM.new (c : Cf) (chunk key data : Int) : CellM := ⟨c, chunk, key, data, 1, -1, 0, 0, false⟩
def CellM.at (x : CellM) : Int := psF x.chunk x.i
def CellM.step (x : CellM) (V : Vw) : CellM × Vw :=
  match x.line with
  | 1 => ({ x with line := if V.rd (W64 (x.chunk + 6)) = 0 then 2 else 0 }, V.load (W64 (x.chunk + 6)))
  | 2 => (if V.rd (W64 (x.chunk + 1)) < 0 ∨ x.c.cap ≤ V.rd (W64 (x.chunk + 1)) then { x with i := -1, line := 0 } else { x with i := V.rd (W64 (x.chunk + 1)), line := 3 }, V.add (W64 (x.chunk + 1)) 1)
  | 3 => ({ x with line := 4 }, V.store (W64 (x.at + 1)) x.key)
  | 4 => ({ x with line := 5 }, V.store (W64 (x.at + 2)) x.data)
  | 5 => ({ x with line := if V.swaps x.at 0 then 6 else 0 }, V.swap x.at 0 1)
  | 6 => ({ x with g := V.rd 1, line := 7 }, V.load 1)
  | 7 => ({ x with line := 8 }, V.swap x.at 1 (stateF x.g))
  | 8 => (if 0 ≤ verW (V.rd x.at) then { x with version := verW (V.rd x.at), ok := true, line := 0 } else { x with line := 0 }, V.load x.at)
  | _ => (x, V)

/-! ### Package claim -/
structure ClaimM where
  c : Cf
  thread : Int
  seq : Int
  line : Nat
  v : Int
  version : Int
  err : Bool
def ClaimM.new (c : Cf) (thread seq : Int) : ClaimM := ⟨c, thread, seq, 1, 0, 0, false⟩
def ClaimM.step (x : ClaimM) (V : Vw) : ClaimM × Vw :=
  match x.line with
  | 1 => (if x.c.versions ≤ V.rd 1 then { x with err := true, line := 0 } else { x with line := 2 }, V.load 1)
  | 2 => ({ x with line := 3 }, V.store (psaF x.thread) (claimF x.seq 1))
  | 3 => ({ x with v := V.rd 1, line := 4 }, V.add 1 1)
  | 4 => ({ x with line := 5 }, V.swap (psaF x.thread) (claimF x.seq 1) (claimF x.seq (W64 (x.v + 2))))
  | 5 => ({ x with version := W64 (partF (V.rd (psaF x.thread)) - 2), line := 0 }, V.load (psaF x.thread))
  | _ => (x, V)

/-! ### Package seal -/
structure SealM where
  c : Cf
  c0 : Int
  c1 : Int
  line : Nat
  at' : Nat
  i : Int
  g : Int
def SealM.enc (x : SealM) : List Value := [.int .i64 x.c.threads, .int .i64 x.c.cap, .int .i64 x.c.words, .int .i64 x.c.versions, .int .i64 x.c0, .int .i64 x.c1, .int .i64 (x.line : Int), .int .i64 (x.at' : Int), .int .i64 x.i, .int .i64 x.g]
def SealM.new (c : Cf) (chunk mate : Int) : SealM := ⟨c, chunk, mate, 1, 0, 0, 0⟩
def SealM.st (x : SealM) : Int := psF (if x.at' = 0 then x.c0 else x.c1) x.i
def SealM.next (x : SealM) : SealM :=
  if W64 (x.i + 1) < x.c.cap then { x with i := W64 (x.i + 1), line := 3 }
  else if x.at' = 0 ∧ x.c1 ≠ 0 then { x with at' := 1, i := 0, line := 3 }
  else { x with at' := x.at' + 1, i := 0, line := 0 }
def SealM.step (x : SealM) (V : Vw) : SealM × Vw :=
  match x.line with
  | 1 => ({ x with line := if x.c1 = 0 then 3 else 2 }, V.store (W64 (x.c0 + 6)) 1)
  | 2 => ({ x with line := 3 }, V.store (W64 (x.c1 + 6)) 1)
  | 3 => (if V.rd x.st = 0 then { x with line := 4 } else if V.rd x.st = 1 then { x with line := 5 } else x.next, V.load x.st)
  | 4 => ({ x with line := 3 }, V.swap x.st 0 2)
  | 5 => ({ x with g := V.rd 1, line := 6 }, V.load 1)
  | 6 => ({ x with line := 3 }, V.swap x.st 1 (stateF x.g))
  | _ => (x, V)

/-! ### Package lead -/
/-- A word, marked. -/
def orF (w : Int) : Int := W64 ((BitVec.ofInt IntKind.i64.bits w ||| BitVec.ofInt IntKind.i64.bits 1).toNat : Int)
structure LeadM where
  c : Cf
  chunk : Int
  draw : Bool
  line : Nat
  w : Int
  l : Int
  n : Int
  m : Int
  mate : Int
  aft : Int
  drew : Bool
def LeadM.enc (x : LeadM) : List Value := [.int .i64 x.c.threads, .int .i64 x.c.cap, .int .i64 x.c.words, .int .i64 x.c.versions, .int .i64 x.chunk, .bool x.draw, .int .i64 (x.line : Int), .int .i64 x.w, .int .i64 x.l, .int .i64 x.n, .int .i64 x.m, .int .i64 x.mate, .int .i64 x.aft, .bool x.drew]
def LeadM.new (c : Cf) (chunk : Int) (draw : Bool) : LeadM := ⟨c, chunk, draw, 1, 0, 0, 0, 0, 0, 0, false⟩
def LeadM.step (x : LeadM) (V : Vw) : LeadM × Vw :=
  match x.line with
  | 1 => ({ x with line := 2 }, V.swap (W64 (x.chunk + 3)) 0 x.chunk)
  | 2 => ({ x with l := V.rd (W64 (x.chunk + 3)), line := 3 }, V.load (W64 (x.chunk + 3)))
  | 3 => (if V.rd (W64 (x.l + 2)) % 2 = 1 then { x with w := V.rd (W64 (x.l + 2)), n := V.rd (W64 (x.l + 2)) / 2, line := 5 } else { x with w := V.rd (W64 (x.l + 2)), line := 4 }, V.load (W64 (x.l + 2)))
  | 4 => ({ x with line := 3 }, V.swap (W64 (x.l + 2)) x.w (orF x.w))
  | 5 => (if V.rd (W64 (x.l + 4)) = 0 then { x with m := V.rd (W64 (x.l + 4)), line := 6 } else if V.rd (W64 (x.l + 4)) = 1 ∨ x.n = 0 then { x with m := V.rd (W64 (x.l + 4)), aft := x.n, line := 0 } else { x with m := V.rd (W64 (x.l + 4)), line := 8 }, V.load (W64 (x.l + 4)))
  | 6 => ({ x with drew := true, line := 7 }, V.swap (W64 (x.l + 4)) 0 (if x.draw = true ∧ x.n ≠ 0 then x.n else 1))
  | 7 => (if V.rd (W64 (x.l + 4)) = 1 ∨ x.n = 0 then { x with m := V.rd (W64 (x.l + 4)), aft := x.n, line := 0 } else { x with m := V.rd (W64 (x.l + 4)), line := 8 }, V.load (W64 (x.l + 4)))
  | 8 => ({ x with line := 9 }, V.swap (W64 (x.n + 3)) 0 x.l)
  | 9 => (if V.rd (W64 (x.n + 3)) ≠ x.l then { x with aft := x.n, line := 0 } else { x with line := 10 }, V.load (W64 (x.n + 3)))
  | 10 => (if V.rd (W64 (x.n + 2)) % 2 = 1 then { x with w := V.rd (W64 (x.n + 2)), mate := x.n, aft := V.rd (W64 (x.n + 2)) / 2, line := 0 } else { x with w := V.rd (W64 (x.n + 2)), line := 11 }, V.load (W64 (x.n + 2)))
  | 11 => ({ x with line := 10 }, V.swap (W64 (x.n + 2)) x.w (orF x.w))
  | _ => (x, V)

/-! ### Package splice -/
structure SplM where
  c : Cf
  c0 : Int
  c1 : Int
  repl : Int
  line : Nat
  m : Int
  cur : Int
  w : Int
  n : Int
  stuck : Int
def SplM.enc (x : SplM) : List Value := [.int .i64 x.c.threads, .int .i64 x.c.cap, .int .i64 x.c.words, .int .i64 x.c.versions, .int .i64 x.c0, .int .i64 x.c1, .int .i64 x.repl, .int .i64 (x.line : Int), .int .i64 x.m, .int .i64 x.cur, .int .i64 x.w, .int .i64 x.n, .int .i64 x.stuck]
def SplM.new (c : Cf) (chunk mate repl : Int) : SplM := ⟨c, chunk, mate, repl, 1, 0, 0, 0, 0, 0⟩
def headF (c : Cf) : Int := W64 (W64 (3 + c.threads) + 4)
def hintF (c : Cf) (k : Int) : Int := W64 (W64 (3 + c.threads) + W64 ((IntKind.u8.wrap k).fdiv (2 ^ min 4 IntKind.u8.bits)))
def keyF (m : Int) : Int := if 63 < (if m < 0 then 0 else m) then 63 else if m < 0 then 0 else m
def SplM.step (x : SplM) (V : Vw) : SplM × Vw :=
  match x.line with
  | 1 => ({ x with m := V.rd (W64 (x.c0 + 0)), cur := headF x.c, line := 2 }, V.load (W64 (x.c0 + 0)))
  | 2 => (if V.rd (W64 (x.cur + 2)) % 2 = 1 then { x with w := V.rd (W64 (x.cur + 2)), stuck := x.cur, line := 0 } else { x with w := V.rd (W64 (x.cur + 2)), n := V.rd (W64 (x.cur + 2)) / 2, line := if V.rd (W64 (x.cur + 2)) / 2 = 0 then 5 else if V.rd (W64 (x.cur + 2)) / 2 = x.c0 then 3 else 4 }, V.load (W64 (x.cur + 2)))
  | 3 => (if V.swaps (W64 (x.cur + 2)) x.w = true then { x with line := 5 } else { x with cur := headF x.c, line := 2 }, V.swap (W64 (x.cur + 2)) x.w (nextF x.repl false))
  | 4 => (if x.m ≤ V.rd (W64 (x.n + 0)) then { x with line := 5 } else { x with cur := x.n, line := 2 }, V.load (W64 (x.n + 0)))
  | 5 => ({ x with line := if x.c1 = 0 then 7 else 6 }, V.store (W64 (x.c0 + 6)) 2)
  | 6 => ({ x with line := 7 }, V.store (W64 (x.c1 + 6)) 2)
  | 7 => ({ x with line := 0 }, V.store (hintF x.c (keyF x.m)) x.repl)
  | _ => (x, V)

/-! ### Package need -/
structure NeedM where
  c : Cf
  line : Nat
  t : Nat
  e : Int
  v : Int
  met : Nat → Int
def NeedM.enc (x : NeedM) : List Value := [.int .i64 x.c.threads, .int .i64 x.c.cap, .int .i64 x.c.words, .int .i64 x.c.versions, .int .i64 (x.line : Int), .int .i64 (x.t : Int), .int .i64 x.e, .int .i64 x.v, .int .i64 (x.met 0), .int .i64 (x.met 1), .int .i64 (x.met 2), .int .i64 (x.met 3), .int .i64 (x.met 4), .int .i64 (x.met 5), .int .i64 (x.met 6), .int .i64 (x.met 7)]
def NeedM.new (c : Cf) : NeedM := ⟨c, 1, 0, 0, 0, fun _ => 0⟩
def NeedM.next (x : NeedM) : NeedM := { x with t := x.t + 1, line := if (x.t : Int) + 1 < x.c.threads then 1 else 0 }
def NeedM.meets (x : NeedM) (p : Int) : NeedM := { x with met := fun j => if j = x.t then W64 (W64 (p - 2) + 1) else x.met j }.next
def NeedM.step (x : NeedM) (V : Vw) : NeedM × Vw :=
  match x.line with
  | 1 => (if partF (V.rd (psaF x.t)) = 0 then { x with e := V.rd (psaF x.t) }.next else if 1 < partF (V.rd (psaF x.t)) then { x with e := V.rd (psaF x.t) }.meets (partF (V.rd (psaF x.t))) else { x with e := V.rd (psaF x.t), line := 2 }, V.load (psaF x.t))
  | 2 => ({ x with v := V.rd 1, line := 3 }, V.add 1 1)
  | 3 => ({ x with line := 4 }, V.swap (psaF x.t) x.e (claimF (seqF x.e) (W64 (x.v + 2))))
  | 4 => (if seqF (V.rd (psaF x.t)) = seqF x.e ∧ 1 < partF (V.rd (psaF x.t)) then x.meets (partF (V.rd (psaF x.t))) else x.next, V.load (psaF x.t))
  | _ => (x, V)
end Go.Proofs.Ytdmodejpcfhbhaa
