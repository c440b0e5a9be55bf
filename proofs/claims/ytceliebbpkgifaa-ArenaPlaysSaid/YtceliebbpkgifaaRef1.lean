/- The document's arena (armillaryref1): what each method answers, and what it leaves. -/
import Derived.Test.YtceliebbpkgifaaAren5
namespace Go.Proofs.Ytceliebbpkgifaa
open Go.RowKit

def encR (V : Vw) (cap c : Nat) : Array Value :=
  #[.slice (some ⟨c, 0, none⟩) V.ws.length cap, .int .i64 (wrap64 V.n), .int .i64 V.last.kind, .int .i64 V.last.pos, .int .i64 V.last.old, .int .i64 V.last.new, .bool V.last.ok]

structure IsRx (h : GH) (r c : Nat) (V : Vw) (cap : Nat) (tl : List Value) : Prop where
  at_r : h r = some (encR V cap c, 47)
  at_c : h c = some (encW V.ws tl, 3)
  ne : r ≠ c
  len : V.ws.length ≤ 20000
  pos : 1 ≤ V.ws.length

/-- At r lies a document's arena, its words at c. -/
def IsR (h : GH) (r c : Nat) (V : Vw) : Prop := ∃ cap tl, IsRx h r c V cap tl
/-- Behind a call: this arena is so; nothing else that is owned has turned. -/
def Rrp (w0 : World) (h : GH) (r c : Nat) (V : Vw) (w' : World) : Prop := ∃ h', Mem w0 h' w' ∧ IsR h' r c V ∧ ∀ k, k ≠ r → k ≠ c → h' k = h k

section
variable {h : GH} {r c : Nat} {V : Vw} {cap : Nat} {tl : List Value}
theorem IsR.ne (hv : IsR h r c V) : r ≠ c := by obtain ⟨_, _, x⟩ := hv; exact x.ne
theorem IsR.len (hv : IsR h r c V) : V.ws.length ≤ 20000 := by obtain ⟨_, _, x⟩ := hv; exact x.len
theorem IsR.pos (hv : IsR h r c V) : 1 ≤ V.ws.length := by obtain ⟨_, _, x⟩ := hv; exact x.pos
theorem IsR.some_r (hv : IsR h r c V) : ∃ x, h r = some (x, 47) := by obtain ⟨_, _, x⟩ := hv; exact ⟨_, x.at_r⟩
theorem IsR.some_c (hv : IsR h r c V) : ∃ x, h c = some (x, 3) := by obtain ⟨_, _, x⟩ := hv; exact ⟨_, x.at_c⟩
theorem IsR.keep {h' : GH} (hv : IsR h r c V) (e1 : h' r = h r) (e2 : h' c = h c) : IsR h' r c V := by
  obtain ⟨a, b, x⟩ := hv
  exact ⟨a, b, by rw [e1]; exact x.at_r, by rw [e2]; exact x.at_c, x.ne, x.len, x.pos⟩
theorem IsR.other {h' : GH} {a d : Nat} (hv : IsR h r c V) (hk : ∀ k, k ≠ a → k ≠ d → h' k = h k) (n1 : r ≠ a) (n2 : r ≠ d) (n3 : c ≠ a) (n4 : c ≠ d) : IsR h' r c V :=
  hv.keep (hk r n1 n2) (hk c n3 n4)
theorem IsR.apart {b : Nat} (hv : IsR h r c V) (hb : h b = none) : r ≠ b ∧ c ≠ b := by
  obtain ⟨x, hx⟩ := hv.some_r
  obtain ⟨y, hy⟩ := hv.some_c
  exact ⟨ne_of_none hx hb, ne_of_none hy hb⟩
theorem IsR.ne_ty {k : Nat} {x : Array Value} {T : TypeId} (hv : IsR h r c V) (hl : h k = some (x, T)) (h1 : T ≠ 47) (h2 : T ≠ 3) : k ≠ r ∧ k ≠ c := by
  obtain ⟨x, hx⟩ := hv.some_r
  obtain ⟨y, hy⟩ := hv.some_c
  constructor
  · rintro rfl; rw [hl] at hx; simp only [Option.some.injEq, Prod.mk.injEq] at hx; exact h1 hx.2
  · rintro rfl; rw [hl] at hy; simp only [Option.some.injEq, Prod.mk.injEq] at hy; exact h2 hy.2
theorem IsR.kept {h' : GH} {k : Nat} {x : Array Value} {T : TypeId} (hv : IsR h r c V) (hk : ∀ k, k ≠ r → k ≠ c → h' k = h k) (hl : h k = some (x, T)) (h1 : T ≠ 47) (h2 : T ≠ 3) : h' k = some (x, T) := by
  obtain ⟨n1, n2⟩ := hv.ne_ty hl h1 h2
  rw [hk k n1 n2]; exact hl
theorem IsRx.put {V' : Vw} (hv : IsRx h r c V cap tl) (hw : V'.ws = V.ws) : IsRx (upd h r (encR V' cap c, 47)) r c V' cap tl :=
  ⟨upd_same _ _ _, by rw [upd_other _ _ (Ne.symm hv.ne), hw]; exact hv.at_c, hv.ne, by rw [hw]; exact hv.len, by rw [hw]; exact hv.pos⟩
theorem IsRx.words {V' : Vw} (hv : IsRx h r c V cap tl) (hl : V'.ws.length = V.ws.length) (hn : V'.n = V.n) (ha : V'.last = V.last) : IsRx (upd h c (encW V'.ws tl, 3)) r c V' cap tl :=
  ⟨by rw [upd_other _ _ hv.ne, hv.at_r]; simp [encR, hl, hn, ha], upd_same _ _ _, hv.ne, by rw [hl]; exact hv.len, by rw [hl]; exact hv.pos⟩
end

theorem rheld_calls (n a b : Int) (w : World) :
    Calls Try.prog 64 #[.int .i64 n, .int .i64 a, .int .i64 b] w fun e w' => e = .returned (.int .i64 (max a (min n b))) ∧ w = w' := by
  go_enter Try.func64, Try.ntmps64
  go_wp2
  all_goals
    go_returns
    first | exact ⟨rfl, rfl⟩ | exact ⟨ret_int (by omega), rfl⟩

section
variable {w0 w : World} {h : GH} {r c : Nat} {V : Vw}
theorem ris_yes (i : Int) (h0 : 0 ≤ i) (h1 : i < V.ws.length) (hm : Mem w0 h w) (hv : IsR h r c V) :
    Calls Try.prog 70 #[.pointer (some ⟨r, 0, none⟩), .int .i64 i] w fun e w' => e = .returned (.bool true) ∧ w = w' := by
  obtain ⟨cap, tl, hx⟩ := hv
  have c0 : w.cell? ⟨r, 0, none⟩ = some (.slice (some ⟨c, 0, none⟩) V.ws.length cap) := hm.cell hx.at_r 0
  go_enter Try.func70, Try.ntmps70
  go_wp2
  go_returns
  exact ⟨ret_bool (by first | (simp; done) | (simp; omega)), rfl⟩
theorem ris_no (i : Int) (hi : ¬ V.inb i) (hm : Mem w0 h w) (hv : IsR h r c V) :
    Calls Try.prog 70 #[.pointer (some ⟨r, 0, none⟩), .int .i64 i] w fun e w' => e = .returned (.bool false) ∧ w = w' := by
  obtain ⟨cap, tl, hx⟩ := hv
  have c0 : w.cell? ⟨r, 0, none⟩ = some (.slice (some ⟨c, 0, none⟩) V.ws.length cap) := hm.cell hx.at_r 0
  have hi' : i < 0 ∨ (V.ws.length : Int) ≤ i := by unfold Vw.inb at hi; omega
  clear hi
  by_cases h0 : 0 ≤ i
  · have h1 : ¬ i < (V.ws.length : Int) := by omega
    go_enter Try.func70, Try.ntmps70
    go_wp2
    go_returns
    exact ⟨ret_bool (by first | (simp; done) | (simp; omega)), rfl⟩
  · go_enter Try.func70, Try.ntmps70
    go_wp2
    go_returns
    exact ⟨ret_bool (by first | (simp; done) | (simp; omega)), rfl⟩

theorem rpeek_v (i : Int) (hm : Mem w0 h w) (hv : IsR h r c V) :
    Calls Try.prog 40 #[.pointer (some ⟨r, 0, none⟩), .int .i64 i] w fun e w' => e = .returned (.int .i64 (V.rd i)) ∧ w = w' := by
  have hv' := hv
  obtain ⟨cap, tl, hx⟩ := hv
  have c0 : w.cell? ⟨r, 0, none⟩ = some (.slice (some ⟨c, 0, none⟩) V.ws.length cap) := hm.cell hx.at_r 0
  by_cases hi : V.inb i
  · obtain ⟨k, rfl⟩ := Int.eq_ofNat_of_zero_le hi.1
    have hk : k < V.ws.length := by have := hi.2; omega
    obtain ⟨x, hq⟩ : ∃ x, V.ws.getD k 0 = x := ⟨_, rfl⟩
    have ck : w.cell? ⟨c, k, none⟩ = some (.int .i64 x) := by rw [hm.cell hx.at_c k, ← hq]; exact encW_get _ hk
    have HX : Hid (V.rd k = x) := by unfold Vw.rd; rw [if_pos hi]; exact hq
    clear hi hq
    go_enter Try.func40, Try.ntmps40
    go_wp2_with (go_at_call 70; (with_reducible refine (ris_yes _ (by omega) (by omega) hm hv').mono ?_); rintro e w' ⟨rfl, rfl⟩)
    go_returns
    exact ⟨ret_int HX.out.symm, rfl⟩
  · have HI := Lib.hid hi
    clear hi
    go_enter Try.func40, Try.ntmps40
    go_wp2_with (go_at_call 70; (with_reducible refine (ris_no _ HI.out hm hv').mono ?_); rintro e w' ⟨rfl, rfl⟩)
    go_returns
    exact ⟨ret_int (by unfold Vw.rd; rw [if_neg HI.out]), rfl⟩

theorem rpoke_v (i v : Int) (hm : Mem w0 h w) (hv : IsR h r c V) :
    Calls Try.prog 42 #[.pointer (some ⟨r, 0, none⟩), .int .i64 i, .int .i64 v] w fun e w' => e = .returned (.tuple #[]) ∧ Rrp w0 h r c (V.wr i v) w' := by
  have hv' := hv
  obtain ⟨cap, tl, hx⟩ := hv
  have c0 : w.cell? ⟨r, 0, none⟩ = some (.slice (some ⟨c, 0, none⟩) V.ws.length cap) := hm.cell hx.at_r 0
  by_cases hi : V.inb i
  · obtain ⟨k, rfl⟩ := Int.eq_ofNat_of_zero_le hi.1
    have hk : k < V.ws.length := by have := hi.2; omega
    obtain ⟨x, hq⟩ : ∃ x, V.ws.getD k 0 = x := ⟨_, rfl⟩
    have ck : w.cell? ⟨c, k, none⟩ = some (.int .i64 x) := by rw [hm.cell hx.at_c k, ← hq]; exact encW_get _ hk
    have fk := hm.free hx.at_c k
    have hw : (V.wr k v).ws = V.ws.set k v := by unfold Vw.wr; rw [if_pos hi]; simp
    have hd : Mem w0 (upd h c (encW (V.wr k v).ws tl, 3)) (w.setCell ⟨c, k, none⟩ (.int .i64 v)) := (hm.set hx.at_c k _).eqv (by rw [encW_set _ _ hk, hw])
    have fin : Rrp w0 h r c (V.wr k v) (w.setCell ⟨c, k, none⟩ (.int .i64 v)) :=
      ⟨_, hd, ⟨cap, tl, hx.words (by simp) (vwr_n _ _ _) (vwr_last _ _ _)⟩, fun j _ h2 => upd_other _ _ h2⟩
    have FIN := Lib.hid fin
    clear hi hq hw hd fin
    go_enter Try.func42, Try.ntmps42
    go_wp2_with (go_at_call 70; (with_reducible refine (ris_yes _ (by omega) (by omega) hm hv').mono ?_); rintro e w' ⟨rfl, rfl⟩)
    go_end0
    exact ⟨rfl, FIN.out⟩
  · have HI := Lib.hid hi
    clear hi
    go_enter Try.func42, Try.ntmps42
    go_wp2_with (go_at_call 70; (with_reducible refine (ris_no _ HI.out hm hv').mono ?_); rintro e w' ⟨rfl, rfl⟩)
    go_end0
    exact ⟨rfl, _, hm, by rw [show V.wr i v = V from by unfold Vw.wr; rw [if_neg HI.out]]; exact hv', fun _ _ _ => rfl⟩

theorem rdid_v (kind i old : Int) (ok : Bool) (hm : Mem w0 h w) (hv : IsR h r c V) :
    Calls Try.prog 67 #[.pointer (some ⟨r, 0, none⟩), .int .i64 kind, .int .i64 i, .int .i64 old, .bool ok] w fun e w' => e = .returned (.tuple #[]) ∧ Rrp w0 h r c (V.note ⟨kind, i, old, V.rd i, ok⟩) w' := by
  obtain ⟨cap, tl, hx⟩ := hv
  have c1 : w.cell? ⟨r, 1, none⟩ = some (.int .i64 (wrap64 V.n)) := hm.cell hx.at_r 1
  have f1 := hm.free hx.at_r 1
  have m1 : Mem w0 (upd h r (encR { V with n := V.n + 1 } cap c, 47)) (w.setCell ⟨r, 1, none⟩ (.int .i64 (wrap64 (wrap64 V.n + 1)))) := (hm.set hx.at_r 1 _).eqv (by simp [encR, wrap_succ])
  have x1 : IsRx (upd h r (encR { V with n := V.n + 1 } cap c, 47)) r c { V with n := V.n + 1 } cap tl := hx.put rfl
  have v1 : IsR (upd h r (encR { V with n := V.n + 1 } cap c, 47)) r c { V with n := V.n + 1 } := ⟨cap, tl, x1⟩
  have d2 : World.cell? (w.setCell ⟨r, 1, none⟩ (.int .i64 (wrap64 (wrap64 V.n + 1)))) ⟨r, 2, none⟩ = some (.int .i64 V.last.kind) := m1.cell x1.at_r 2
  have d3 : World.cell? (w.setCell ⟨r, 1, none⟩ (.int .i64 (wrap64 (wrap64 V.n + 1)))) ⟨r, 3, none⟩ = some (.int .i64 V.last.pos) := m1.cell x1.at_r 3
  have d4 : World.cell? (w.setCell ⟨r, 1, none⟩ (.int .i64 (wrap64 (wrap64 V.n + 1)))) ⟨r, 4, none⟩ = some (.int .i64 V.last.old) := m1.cell x1.at_r 4
  have d5 : World.cell? (w.setCell ⟨r, 1, none⟩ (.int .i64 (wrap64 (wrap64 V.n + 1)))) ⟨r, 5, none⟩ = some (.int .i64 V.last.new) := m1.cell x1.at_r 5
  have d6 : World.cell? (w.setCell ⟨r, 1, none⟩ (.int .i64 (wrap64 (wrap64 V.n + 1)))) ⟨r, 6, none⟩ = some (.bool V.last.ok) := m1.cell x1.at_r 6
  have g2 := m1.free x1.at_r 2
  have g3 := m1.free x1.at_r 3
  have g4 := m1.free x1.at_r 4
  have g5 := m1.free x1.at_r 5
  have g6 := m1.free x1.at_r 6
  have fin := ((((m1.set2 2 (.int .i64 kind)).set2 3 (.int .i64 i)).set2 4 (.int .i64 old)).set2 5 (.int .i64 (V.rd i))).set2 6 (.bool ok)
  have hpk : Vw.rd { V with n := V.n + 1 } i = V.rd i := rfl
  have FIN := Lib.hid fin
  have HPK := Lib.hid hpk
  have hk1 := Lib.hid hx
  clear fin hpk hm hx
  generalize hW : w.setCell ⟨r, 1, none⟩ (.int .i64 (wrap64 (wrap64 V.n + 1))) = W at *
  have HW := Lib.hid hW
  clear hW
  go_enter Try.func67, Try.ntmps67
  go_wp2_with fail
  rw [HW.out]
  have pk := rpeek_v i m1 v1
  rw [HPK.out] at pk
  (with_reducible refine pk.mono ?_)
  clear pk
  rintro e w' ⟨rfl, rfl⟩
  go_wp2
  go_end0
  refine ⟨rfl, _, FIN.out, ⟨cap, tl, ?_⟩, fun j h1 _ => upd_other _ _ h1⟩
  exact hk1.out.put (V' := V.note ⟨kind, i, old, V.rd i, ok⟩) rfl
end

section
variable {w0 w : World} {h : GH} {r c : Nat} {V : Vw}
theorem Rrp.then {V' : Vw} {h1 : GH} {w' : World} (hk : ∀ k, k ≠ r → k ≠ c → h1 k = h k) (hp : Rrp w0 h1 r c V' w') : Rrp w0 h r c V' w' := by
  obtain ⟨h2, m, v, k2⟩ := hp
  exact ⟨h2, m, v, fun k a b => (k2 k a b).trans (hk k a b)⟩
theorem Rrp.is {V' V'' : Vw} {w' : World} (hp : Rrp w0 h r c V' w') (e : V' = V'') : Rrp w0 h r c V'' w' := e ▸ hp

theorem rload_v (i : Int) (hm : Mem w0 h w) (hv : IsR h r c V) :
    Calls Try.prog 32 #[.pointer (some ⟨r, 0, none⟩), .int .i64 i] w fun e w' => e = .returned (.int .i64 (V.rd i)) ∧ Rrp w0 h r c (V.load i) w' := by
  go_enter Try.func32, Try.ntmps32
  go_wp2_with fail
  (with_reducible refine (rpeek_v i hm hv).mono ?_)
  rintro e w' ⟨rfl, rfl⟩
  go_wp2_with fail
  (with_reducible refine (rdid_v 1 i (V.rd i) false hm hv).mono ?_)
  rintro e w1 ⟨rfl, hp⟩
  go_wp2
  go_returns
  exact ⟨rfl, hp⟩

theorem wr_rd_same (V : Vw) (i v : Int) : (V.wr i v).rd i = if V.inb i then v else 0 := by
  by_cases hi : V.inb i
  · rw [rd_wr _ _ _ _ hi, if_pos rfl, if_pos hi]
  · rw [if_neg hi]
    show Vw.rd _ _ = 0
    unfold Vw.wr Vw.rd
    rw [if_neg hi, if_neg hi]

theorem rstore_v (i v : Int) (hm : Mem w0 h w) (hv : IsR h r c V) :
    Calls Try.prog 34 #[.pointer (some ⟨r, 0, none⟩), .int .i64 i, .int .i64 v] w fun e w' => e = .returned (.tuple #[]) ∧ Rrp w0 h r c (V.store i v) w' := by
  go_enter Try.func34, Try.ntmps34
  go_wp2_with fail
  (with_reducible refine (rpeek_v i hm hv).mono ?_)
  rintro e w' ⟨rfl, rfl⟩
  go_wp2_with fail
  (with_reducible refine (rpoke_v i v hm hv).mono ?_)
  rintro e w1 ⟨rfl, h1, m1, v1, k1⟩
  go_wp2_with fail
  (with_reducible refine (rdid_v 2 i (V.rd i) false m1 v1).mono ?_)
  rintro e w2 ⟨rfl, hp⟩
  go_wp2
  go_end0
  exact ⟨rfl, (hp.then k1).is (by unfold Vw.store; rw [wr_rd_same])⟩

theorem radd_v (i n : Int) (hm : Mem w0 h w) (hv : IsR h r c V) :
    Calls Try.prog 38 #[.pointer (some ⟨r, 0, none⟩), .int .i64 i, .int .i64 n] w fun e w' => e = .returned (.int .i64 (V.rd i)) ∧ Rrp w0 h r c (V.add i n) w' := by
  go_enter Try.func38, Try.ntmps38
  go_wp2_with fail
  (with_reducible refine (rpeek_v i hm hv).mono ?_)
  rintro e w' ⟨rfl, rfl⟩
  go_wp2_with fail
  (with_reducible refine (rpoke_v i (wrap64 (V.rd i + n)) hm hv).mono ?_)
  rintro e w1 ⟨rfl, h1, m1, v1, k1⟩
  go_wp2_with fail
  (with_reducible refine (rdid_v 4 i (V.rd i) false m1 v1).mono ?_)
  rintro e w2 ⟨rfl, hp⟩
  go_wp2
  go_returns
  exact ⟨rfl, (hp.then k1).is (by unfold Vw.add; rw [wr_rd_same])⟩

theorem rswap_v (i o n : Int) (hm : Mem w0 h w) (hv : IsR h r c V) :
    Calls Try.prog 36 #[.pointer (some ⟨r, 0, none⟩), .int .i64 i, .int .i64 o, .int .i64 n] w fun e w' => e = .returned (.bool (V.swaps i o)) ∧ Rrp w0 h r c (V.swap i o n) w' := by
  by_cases hi : V.inb i
  · have hi0 := hi.1
    have hi1 := hi.2
    by_cases he : V.rd i = o
    · have HS : Hid (V.swaps i o = true) := decide_eq_true ⟨hi, he⟩
      have hq : (V.rd i == o) = true := beq_t he
      clear hi he
      go_enter Try.func36, Try.ntmps36
      go_wp2_with fail
      (with_reducible refine (rpeek_v i hm hv).mono ?_)
      rintro e w' ⟨rfl, rfl⟩
      go_wp2_with fail
      (with_reducible refine (ris_yes i hi0 hi1 hm hv).mono ?_)
      rintro e w' ⟨rfl, rfl⟩
      go_wp2_with fail
      (with_reducible refine (rpoke_v i n hm hv).mono ?_)
      rintro e w1 ⟨rfl, h1, m1, v1, k1⟩
      go_wp2_with fail
      (with_reducible refine (rdid_v 3 i (V.rd i) true m1 v1).mono ?_)
      rintro e w2 ⟨rfl, hp⟩
      go_wp2
      go_returns
      exact ⟨ret_bool HS.out.symm, (hp.then k1).is (by unfold Vw.swap; rw [HS.out]; simp only [if_true]; rw [wr_rd_same, if_pos ⟨hi0, hi1⟩])⟩
    · have HS : Hid (V.swaps i o = false) := decide_eq_false (fun q => he q.2)
      have hq : (V.rd i == o) = false := beq_f he
      clear hi he
      go_enter Try.func36, Try.ntmps36
      go_wp2_with fail
      (with_reducible refine (rpeek_v i hm hv).mono ?_)
      rintro e w' ⟨rfl, rfl⟩
      go_wp2_with fail
      (with_reducible refine (ris_yes i hi0 hi1 hm hv).mono ?_)
      rintro e w' ⟨rfl, rfl⟩
      go_wp2_with fail
      (with_reducible refine (rdid_v 3 i (V.rd i) false hm hv).mono ?_)
      rintro e w2 ⟨rfl, hp⟩
      go_wp2
      go_returns
      exact ⟨ret_bool HS.out.symm, hp.is (by unfold Vw.swap; rw [HS.out]; rfl)⟩
  · have HS : Hid (V.swaps i o = false) := decide_eq_false (fun q => hi q.1)
    have HI := Lib.hid hi
    clear hi
    go_enter Try.func36, Try.ntmps36
    go_wp2_with fail
    (with_reducible refine (rpeek_v i hm hv).mono ?_)
    rintro e w' ⟨rfl, rfl⟩
    go_wp2_with fail
    (with_reducible refine (ris_no i HI.out hm hv).mono ?_)
    rintro e w' ⟨rfl, rfl⟩
    go_wp2_with fail
    (with_reducible refine (rdid_v 3 i (V.rd i) false hm hv).mono ?_)
    rintro e w2 ⟨rfl, hp⟩
    go_wp2
    go_returns
    exact ⟨ret_bool HS.out.symm, hp.is (by unfold Vw.swap; rw [HS.out]; rfl)⟩

/-- What a call that makes a document's arena leaves. -/
def MadeR (w0 : World) (h : GH) (V : Vw) (e : Ending) (w' : World) : Prop :=
  ∃ r c h', e = .returned (.pointer (some ⟨r, 0, none⟩)) ∧ h r = none ∧ h c = none ∧ Mem w0 h' w' ∧ IsR h' r c V ∧ ∀ k, k ≠ r → k ≠ c → h' k = h k

set_option maxRecDepth 100000 in
theorem rnew_at (n : Nat) (h1 : 1 ≤ n) (h2 : n ≤ 20000) (words : Int) (hn : (n : Int) = max 1 (min words 20000)) (hm : Mem w0 h w) :
    Calls Try.prog 30 #[.int .i64 words] w (MadeR w0 h (Vw.fresh n)) := by
  have key : ∀ (w1 : World), w1 = (w.alloc (.cells (madeCells #[.int .i64 0] n) 3)).alloc (.cells #[.slice (some ⟨w.heap.size, 0, none⟩) n n, .int .i64 0, .int .i64 0, .int .i64 0, .int .i64 0, .int .i64 0, .bool false] 47) →
      MadeR w0 h (Vw.fresh n) (.returned (.pointer (some ⟨w.heap.size + 1, 0, none⟩))) w1 := by
    intro w1 e
    subst e
    have m1 := (hm.keep (madeCells #[.int .i64 0] n) 3).keep #[.slice (some ⟨w.heap.size, 0, none⟩) n n, .int .i64 0, .int .i64 0, .int .i64 0, .int .i64 0, .int .i64 0, .bool false] 47
    rw [World.size_alloc] at m1
    have e1 : encR (Vw.fresh n) n w.heap.size = #[.slice (some ⟨w.heap.size, 0, none⟩) n n, .int .i64 0, .int .i64 0, .int .i64 0, .int .i64 0, .int .i64 0, .bool false] := by
      simp [encR, Vw.fresh, Acc.zero, wrap64]
    refine ⟨w.heap.size + 1, w.heap.size, _, rfl, hm.fresh (by omega), hm.fresh (by omega), m1, ⟨n, [], ⟨by rw [e1]; exact upd_same _ _ _, ?_, by omega, by simpa [Vw.fresh] using h2, by simpa [Vw.fresh] using h1⟩⟩, ?_⟩
    · rw [upd_other _ _ (by omega), madeCells_int]; exact upd_same _ _ _
    · intro k k1 k2; rw [upd_other _ _ k1, upd_other _ _ k2]
  have hmk : ∀ w, (Instr.makeSlice 43 (.int .i64 (n : Int)) (.int .i64 (n : Int))).run Try.prog w = .ok (.slice (some ⟨w.heap.size, 0, none⟩) n n) (w.alloc (.cells (madeCells #[.int .i64 0] n) 3)) :=
    fun w => run_make_row' 43 3 (.int .i64 0) 8 Try.underlying43 info_int rfl .i64 .i64 n (by omega) (by omega) w
  have HK := Lib.hid key
  clear key
  have hmk2 : ∀ w, (Instr.makeSlice 43 (.int .i64 (max 1 (min words 20000))) (.int .i64 (max 1 (min words 20000)))).run Try.prog w = .ok (.slice (some ⟨w.heap.size, 0, none⟩) n n) (w.alloc (.cells (madeCells #[.int .i64 0] n) 3)) := by
    rw [← hn]; exact hmk
  clear hn hmk
  go_enter Try.func30, Try.ntmps30
  go_wp2_with (go_at_call 64; (with_reducible refine (rheld_calls _ _ _ _).mono ?_); rintro e w' ⟨rfl, rfl⟩)
  go_returns
  exact HK.out _ rfl

theorem rnew_v (words : Int) (hm : Mem w0 h w) :
    Calls Try.prog 30 #[.int .i64 words] w (MadeR w0 h (Vw.fresh (clamp words 1 20000).toNat)) := by
  have h0 := @clamp_lo words 1 20000 (by decide)
  have h1 := @clamp_hi words 1 20000
  have h2 : clamp words 1 20000 = max 1 (min words 20000) := by unfold clamp; omega
  exact rnew_at _ (by omega) (by omega) words (by omega) hm
theorem rnew_x (n : Nat) {words : Int} (hn : (clamp words 1 20000).toNat = n) (hm : Mem w0 h w) : Calls Try.prog 30 #[.int .i64 words] w (MadeR w0 h (Vw.fresh n)) := by
  have := rnew_v words hm; rwa [hn] at this
end

end Go.Proofs.Ytceliebbpkgifaa
