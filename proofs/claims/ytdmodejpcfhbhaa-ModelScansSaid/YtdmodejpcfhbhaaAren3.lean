/- Package arena, as its users see it: words, how many accesses, the last one. -/
import Derived.Test.YtdmodejpcfhbhaaAren2
namespace Go.Proofs.Ytdmodejpcfhbhaa
open Go.RowKit

structure Vw where
  ws : List Int
  n : Int
  last : Acc

def IsV (h : GH) (a d : Nat) (V : Vw) : Prop := ∃ A, IsAr h a d A ∧ A.ws = V.ws ∧ A.n = V.n ∧ A.last = V.last

theorem IsV.ne {h : GH} {a d : Nat} {V : Vw} (hv : IsV h a d V) : a ≠ d := by obtain ⟨A, hA, _⟩ := hv; exact hA.ne
theorem IsV.len {h : GH} {a d : Nat} {V : Vw} (hv : IsV h a d V) : V.ws.length ≤ 20000 := by obtain ⟨A, hA, e, _⟩ := hv; rw [← e]; exact hA.len
theorem IsV.pos {h : GH} {a d : Nat} {V : Vw} (hv : IsV h a d V) : 1 ≤ V.ws.length := by obtain ⟨A, hA, e, _⟩ := hv; rw [← e]; exact hA.pos
theorem IsV.some_a {h : GH} {a d : Nat} {V : Vw} (hv : IsV h a d V) : ∃ c, h a = some (.cells c 119) := by obtain ⟨A, hA, _⟩ := hv; exact ⟨_, hA.at_a⟩
theorem IsV.some_d {h : GH} {a d : Nat} {V : Vw} (hv : IsV h a d V) : ∃ c, h d = some (.cells c 3) := by obtain ⟨A, hA, _⟩ := hv; exact ⟨_, hA.at_d⟩
/-- Its two blocks untouched, it is as it was. -/
theorem IsV.keep {h h' : GH} {a d : Nat} {V : Vw} (hv : IsV h a d V) (e1 : h' a = h a) (e2 : h' d = h d) : IsV h' a d V := by
  obtain ⟨A, hA, r⟩ := hv
  exact ⟨A, ⟨by rw [e1]; exact hA.at_a, by rw [e2]; exact hA.at_d, hA.ne, hA.len, hA.pos⟩, r⟩

def Vw.inb (V : Vw) (i : Int) : Prop := 0 ≤ i ∧ i < V.ws.length
instance (V : Vw) (i : Int) : Decidable (V.inb i) := inferInstanceAs (Decidable (0 ≤ i ∧ i < V.ws.length))
def Vw.rd (V : Vw) (i : Int) : Int := if V.inb i then V.ws.getD i.toNat 0 else 0
def Vw.wr (V : Vw) (i v : Int) : Vw := if V.inb i then { V with ws := V.ws.set i.toNat v } else V
def Vw.note (V : Vw) (x : Acc) : Vw := { V with n := V.n + 1, last := x }
def Vw.load (V : Vw) (i : Int) : Vw := V.note ⟨1, i, V.rd i, V.rd i, false⟩
def Vw.store (V : Vw) (i v : Int) : Vw := (V.wr i v).note ⟨2, i, V.rd i, if V.inb i then v else 0, false⟩
def Vw.swaps (V : Vw) (i o : Int) : Bool := decide (V.inb i ∧ V.rd i = o)
def Vw.swap (V : Vw) (i o n : Int) : Vw := (if V.swaps i o then V.wr i n else V).note ⟨3, i, V.rd i, if V.swaps i o then n else V.rd i, V.swaps i o⟩
def Vw.add (V : Vw) (i n : Int) : Vw := (V.wr i (wrap64 (V.rd i + n))).note ⟨4, i, V.rd i, if V.inb i then wrap64 (V.rd i + n) else 0, false⟩
def Vw.fresh (n : Nat) : Vw := ⟨List.replicate n 0, 0, Acc.zero⟩

/-- Behind a call: this arena is so; nothing else that is owned has turned. -/
def Arp (w0 : World) (h : GH) (a d : Nat) (V : Vw) (w' : World) : Prop := ∃ h', Mem w0 h' w' ∧ IsV h' a d V ∧ ∀ k, k ≠ a → k ≠ d → h' k = h k

section
variable {A : Ar} {V : Vw}
theorem note_n (A : Ar) (x : Acc) : (A.note x).n = A.n + 1 := by
  unfold Ar.note Ar.n; split <;> (try split) <;> (try split) <;> simp <;> omega
theorem note_last (A : Ar) (x : Acc) : (A.note x).last = x := by
  unfold Ar.note; split <;> (try split) <;> (try split) <;> rfl
theorem inb_eq (e : A.ws = V.ws) (i : Int) : A.inb i ↔ V.inb i := by unfold Ar.inb Vw.inb; rw [e]
theorem rd_eq (e : A.ws = V.ws) (i : Int) : A.rd i = V.rd i := by
  unfold Ar.rd Vw.rd
  by_cases h : A.inb i
  · rw [if_pos h, if_pos ((inb_eq e i).1 h), e]
  · rw [if_neg h, if_neg (fun q => h ((inb_eq e i).2 q))]
theorem wr_eq (e : A.ws = V.ws) (i v : Int) : (A.wr i v).ws = (V.wr i v).ws := by
  unfold Ar.wr Vw.wr
  by_cases h : A.inb i
  · rw [if_pos h, if_pos ((inb_eq e i).1 h), e]
  · rw [if_neg h, if_neg (fun q => h ((inb_eq e i).2 q)), e]
theorem wr_n (A : Ar) (i v : Int) : (A.wr i v).n = A.n := by unfold Ar.wr; split <;> rfl
theorem vwr_n (V : Vw) (i v : Int) : (V.wr i v).n = V.n := by unfold Vw.wr; split <;> rfl
theorem wr_last (A : Ar) (i v : Int) : (A.wr i v).last = A.last := by unfold Ar.wr; split <;> rfl
theorem vwr_last (V : Vw) (i v : Int) : (V.wr i v).last = V.last := by unfold Vw.wr; split <;> rfl
theorem swaps_eq (e : A.ws = V.ws) (i o : Int) : A.swaps i o = V.swaps i o := by
  unfold Ar.swaps Vw.swaps; rw [rd_eq e, decide_eq_decide, inb_eq e]
@[simp] theorem vwr_len (V : Vw) (i v : Int) : (V.wr i v).ws.length = V.ws.length := by unfold Vw.wr; split <;> simp
end

theorem Arp.of {w0 : World} {h : GH} {a d : Nat} {A A' : Ar} {V : Vw} {w' : World} (ha : IsAr h a d A) (hl : A'.ws.length = A.ws.length) (hm : Mem w0 (ua h a d A') w') (e1 : A'.ws = V.ws) (e2 : A'.n = V.n) (e3 : A'.last = V.last) : Arp w0 h a d V w' :=
  ⟨_, hm, ⟨A', ha.ua hl, e1, e2, e3⟩, fun _ h1 h2 => ua_other h1 h2⟩

theorem load_v (a d : Nat) (V : Vw) (i : Int) {w0 w : World} {h : GH} (hm : Mem w0 h w) (hv : IsV h a d V) :
    Calls Try.prog 107 #[.pointer (some ⟨a, 0, none⟩), .int .i64 i] w fun e w' => e = .returned (.int .i64 (V.rd i)) ∧ Arp w0 h a d (V.load i) w' := by
  obtain ⟨A, hA, e1, e2, e3⟩ := hv
  refine (load_calls a d A i hm hA).mono fun e w' ⟨he, hm'⟩ => ⟨by rw [he, rd_eq e1], Arp.of hA (by unfold Ar.load; simp) hm' ?_ ?_ ?_⟩
  · unfold Ar.load Vw.load Vw.note; rw [note_ws]; exact e1
  · unfold Ar.load Vw.load Vw.note; rw [note_n, e2]
  · unfold Ar.load Vw.load Vw.note; rw [note_last, rd_eq e1]
theorem add_v (a d : Nat) (V : Vw) (i n : Int) {w0 w : World} {h : GH} (hm : Mem w0 h w) (hv : IsV h a d V) :
    Calls Try.prog 103 #[.pointer (some ⟨a, 0, none⟩), .int .i64 i, .int .i64 n] w fun e w' => e = .returned (.int .i64 (V.rd i)) ∧ Arp w0 h a d (V.add i n) w' := by
  obtain ⟨A, hA, e1, e2, e3⟩ := hv
  refine (add_calls a d A i n hm hA).mono fun e w' ⟨he, hm'⟩ => ⟨by rw [he, rd_eq e1], Arp.of hA (by unfold Ar.add; simp) hm' ?_ ?_ ?_⟩
  · unfold Ar.add Vw.add Vw.note; rw [note_ws, rd_eq e1]; exact wr_eq e1 i _
  · unfold Ar.add Vw.add Vw.note; rw [note_n, wr_n, e2]; simp only [vwr_n]
  · unfold Ar.add Vw.add Vw.note; rw [note_last, rd_eq e1]; simp only [inb_eq e1]
theorem swap_v (a d : Nat) (V : Vw) (i o n : Int) {w0 w : World} {h : GH} (hm : Mem w0 h w) (hv : IsV h a d V) :
    Calls Try.prog 104 #[.pointer (some ⟨a, 0, none⟩), .int .i64 i, .int .i64 o, .int .i64 n] w fun e w' => e = .returned (.bool (V.swaps i o)) ∧ Arp w0 h a d (V.swap i o n) w' := by
  obtain ⟨A, hA, e1, e2, e3⟩ := hv
  refine (swap_calls a d A i o n hm hA).mono fun e w' ⟨he, hm'⟩ => ⟨by rw [he, swaps_eq e1], Arp.of hA (by unfold Ar.swap; split <;> simp) hm' ?_ ?_ ?_⟩
  · unfold Ar.swap Vw.swap Vw.note; rw [note_ws, swaps_eq e1]; split
    · exact wr_eq e1 i n
    · exact e1
  · unfold Ar.swap Vw.swap Vw.note; rw [note_n, swaps_eq e1]; split
    · simp only [vwr_n, wr_n, e2]
    · simp only [e2]
  · unfold Ar.swap Vw.swap Vw.note; rw [note_last, rd_eq e1, swaps_eq e1]
theorem poke_v (a d : Nat) (V : Vw) (i v : Int) {w0 w : World} {h : GH} (hm : Mem w0 h w) (hv : IsV h a d V) :
    Calls Try.prog 33 #[.pointer (some ⟨a, 0, none⟩), .int .i64 i, .int .i64 v] w fun e w' => e = .returned (.tuple #[]) ∧ Arp w0 h a d (V.wr i v) w' := by
  obtain ⟨A, hA, e1, e2, e3⟩ := hv
  refine (poke_calls a d A i v hm hA).mono fun e w' ⟨he, hm'⟩ => ⟨he, Arp.of hA (by simp) hm' (wr_eq e1 i v) ?_ ?_⟩
  · rw [wr_n, vwr_n, e2]
  · rw [wr_last, vwr_last, e3]
theorem peek_v (a d : Nat) (V : Vw) (i : Int) {w0 w : World} {h : GH} (hm : Mem w0 h w) (hv : IsV h a d V) :
    Calls Try.prog 40 #[.pointer (some ⟨a, 0, none⟩), .int .i64 i] w fun e w' => e = .returned (.int .i64 (V.rd i)) ∧ w = w' := by
  obtain ⟨A, hA, e1, e2, e3⟩ := hv
  exact (peek_calls a d A i hm hA).mono fun e w' ⟨he, hw⟩ => ⟨by rw [he, rd_eq e1], hw⟩
theorem len_v (a d : Nat) (V : Vw)  {w0 w : World} {h : GH} (hm : Mem w0 h w) (hv : IsV h a d V) :
    Calls Try.prog 151 #[.pointer (some ⟨a, 0, none⟩)] w fun e w' => e = .returned (.int .i64 V.ws.length) ∧ w = w' := by
  obtain ⟨A, hA, e1, e2, e3⟩ := hv
  exact (len_calls a d A hm hA).mono fun e w' ⟨he, hw⟩ => ⟨by rw [he, e1], hw⟩
theorem accesses_v (a d : Nat) (V : Vw)  {w0 w : World} {h : GH} (hm : Mem w0 h w) (hv : IsV h a d V) :
    Calls Try.prog 87 #[.pointer (some ⟨a, 0, none⟩)] w fun e w' => e = .returned (.int .i64 (wrap64 V.n)) ∧ w = w' := by
  obtain ⟨A, hA, e1, e2, e3⟩ := hv
  exact (accesses_calls a d A hm hA).mono fun e w' ⟨he, hw⟩ => ⟨by rw [he, e2], hw⟩
/-- What a call that makes an arena leaves. -/
def MadeV (w0 : World) (h : GH) (V : Vw) (e : Ending) (w' : World) : Prop :=
  ∃ a d h', e = .returned (.pointer (some ⟨a, 0, none⟩)) ∧ h a = none ∧ h d = none ∧ Mem w0 h' w' ∧ IsV h' a d V ∧ ∀ k, k ≠ a → k ≠ d → h' k = h k

theorem new_v (words : Int) {w0 w : World} {h : GH} (hm : Mem w0 h w) :
    Calls Try.prog 75 #[.int .i64 words] w (MadeV w0 h (Vw.fresh (clamp words 1 20000).toNat)) :=
  (new_calls words hm).mono fun _ _ ⟨a, d, he, h1, h2, h3, h4⟩ => ⟨a, d, _, he, h1, h2, h4, ⟨_, h3, rfl, rfl, rfl⟩, fun _ k1 k2 => ua_other k1 k2⟩

/-- Another arena, untouched by a call on this one. -/
theorem IsV.other {h h' : GH} {a d b c : Nat} {V : Vw} (hv : IsV h b c V) (hk : ∀ k, k ≠ a → k ≠ d → h' k = h k) (n1 : b ≠ a) (n2 : b ≠ d) (n3 : c ≠ a) (n4 : c ≠ d) : IsV h' b c V :=
  hv.keep (hk b n1 n2) (hk c n3 n4)

theorem ne_of_none {h : GH} {a b : Nat} {x : Obj} (h1 : h a = some x) (h2 : h b = none) : a ≠ b := fun e => by rw [e, h2] at h1; exact absurd h1 (by simp)

/-- A new one is apart from one that was there. -/
theorem IsV.apart {h : GH} {a d b : Nat} {V : Vw} (hv : IsV h a d V) (hb : h b = none) : a ≠ b ∧ d ≠ b := by
  obtain ⟨c, hc⟩ := hv.some_a
  obtain ⟨c', hc'⟩ := hv.some_d
  exact ⟨ne_of_none hc hb, ne_of_none hc' hb⟩

end Go.Proofs.Ytdmodejpcfhbhaa
