/- Package arena: making, copying and looking. -/
import Derived.Test.YtceliebbpkgifaaAcc
import Derived.Deep.OwnRows
import Derived.Shelf.Slices.Clone
namespace Go.Proofs.Ytceliebbpkgifaa
open Go.RowKit

theorem len_calls (a d : Nat) (A : Ar) {w0 w : World} {h : GH} (hm : Mem w0 h w) (ha : IsAr h a d A) :
    Calls Try.prog 45 #[.pointer (some ⟨a, 0, none⟩)] w fun e w' => e = .returned (.int .i64 A.ws.length) ∧ w = w' := by
  have c0 : w.cell? ⟨a, 0, none⟩ = some (.slice (some ⟨d, 0, none⟩) A.ws.length A.cap) := hm.cell ha.at_a 0
  go_enter Try.func45, Try.ntmps45
  go_wp2
  go_returns
  exact ⟨rfl, rfl⟩

theorem last_calls (a d : Nat) (A : Ar) {w0 w : World} {h : GH} (hm : Mem w0 h w) (ha : IsAr h a d A) :
    Calls Try.prog 44 #[.pointer (some ⟨a, 0, none⟩)] w fun e w' => e = .returned (.agg #[.int .i64 A.last.kind, .int .i64 A.last.pos, .int .i64 A.last.old, .int .i64 A.last.new, .bool A.last.ok]) ∧ Mem w0 h w' := by
  have la := hm.lt ha.at_a
  have c6 : w.cell? ⟨a, 6, none⟩ = some (.int .i64 A.last.kind) := hm.cell ha.at_a 6
  have c7 : w.cell? ⟨a, 7, none⟩ = some (.int .i64 A.last.pos) := hm.cell ha.at_a 7
  have c8 : w.cell? ⟨a, 8, none⟩ = some (.int .i64 A.last.old) := hm.cell ha.at_a 8
  have c9 : w.cell? ⟨a, 9, none⟩ = some (.int .i64 A.last.new) := hm.cell ha.at_a 9
  have c10 : w.cell? ⟨a, 10, none⟩ = some (.bool A.last.ok) := hm.cell ha.at_a 10
  go_enter Try.func44, Try.ntmps44
  go_wp2
  refine bodyPost_ret (v := .agg #[.int .i64 A.last.kind, .int .i64 A.last.pos, .int .i64 A.last.old, .int .i64 A.last.new, .bool A.last.ok]) (by simp [results, Try.results44, go_sem]) rfl ⟨rfl, hm.alloc _⟩

theorem peek_calls (a d : Nat) (A : Ar) (i : Int) {w0 w : World} {h : GH} (hm : Mem w0 h w) (ha : IsAr h a d A) :
    Calls Try.prog 39 #[.pointer (some ⟨a, 0, none⟩), .int .i64 i] w fun e w' => e = .returned (.int .i64 (A.rd i)) ∧ w = w' := by
  have c0 : w.cell? ⟨a, 0, none⟩ = some (.slice (some ⟨d, 0, none⟩) A.ws.length A.cap) := hm.cell ha.at_a 0
  by_cases hi : A.inb i
  · obtain ⟨k, rfl⟩ := Int.eq_ofNat_of_zero_le hi.1
    have hk : k < A.ws.length := by have := hi.2; omega
    obtain ⟨x, hx⟩ : ∃ x, A.ws.getD k 0 = x := ⟨_, rfl⟩
    have ck : w.cell? ⟨d, k, none⟩ = some (.int .i64 x) := by rw [hm.cell ha.at_d k, ← hx]; exact encW_get _ hk
    have HX := Lib.hid hx
    clear hi hx
    go_enter Try.func39, Try.ntmps39
    go_wp2_with (go_at_call 72; (with_reducible refine (is_yes a d A _ (by omega) (by omega) hm ha).mono ?_); rintro e w' ⟨rfl, rfl⟩)
    go_returns
    exact ⟨ret_int (by rw [rd_in hk]; exact HX.out.symm), rfl⟩
  · have HI := Lib.hid hi
    clear hi
    go_enter Try.func39, Try.ntmps39
    go_wp2_with (go_at_call 72; (with_reducible refine (is_no a d A _ HI.out hm ha).mono ?_); rintro e w' ⟨rfl, rfl⟩)
    go_returns
    exact ⟨ret_int (by rw [rd_out HI.out]), rfl⟩

theorem poke_calls (a d : Nat) (A : Ar) (i v : Int) {w0 w : World} {h : GH} (hm : Mem w0 h w) (ha : IsAr h a d A) :
    Calls Try.prog 41 #[.pointer (some ⟨a, 0, none⟩), .int .i64 i, .int .i64 v] w fun e w' => e = .returned (.tuple #[]) ∧ Mem w0 (ua h a d (A.wr i v)) w' := by
  have c0 : w.cell? ⟨a, 0, none⟩ = some (.slice (some ⟨d, 0, none⟩) A.ws.length A.cap) := hm.cell ha.at_a 0
  by_cases hi : A.inb i
  · obtain ⟨k, rfl⟩ := Int.eq_ofNat_of_zero_le hi.1
    have hk : k < A.ws.length := by have := hi.2; omega
    obtain ⟨x, hx⟩ : ∃ x, A.ws.getD k 0 = x := ⟨_, rfl⟩
    have ck : w.cell? ⟨d, k, none⟩ = some (.int .i64 x) := by rw [hm.cell ha.at_d k, ← hx]; exact encW_get _ hk
    have fk := hm.free ha.at_d k
    clear hi hx
    have hat : upd h d (.cells (encD (A.wr k v)) 3) a = some (.cells (encA (A.wr k v) d) 78) := by
      rw [upd_other _ _ ha.ne, ha.at_a, wr_in hk]; simp [encA]
    have hd : Mem w0 (upd h d (.cells (encD (A.wr k v)) 3)) (w.setCell ⟨d, k, none⟩ (.int .i64 v)) := (hm.set ha.at_d k _).eqv (by rw [encD, encW_set _ _ hk, wr_in hk]; rfl)
    go_enter Try.func41, Try.ntmps41
    go_wp2_with (go_at_call 72; (with_reducible refine (is_yes a d A _ (by omega) (by omega) hm ha).mono ?_); rintro e w' ⟨rfl, rfl⟩)
    go_end0
    exact ⟨rfl, hd.to (by unfold ua; rw [upd_eq hat])⟩
  · have HI := Lib.hid hi
    clear hi
    go_enter Try.func41, Try.ntmps41
    go_wp2_with (go_at_call 72; (with_reducible refine (is_no a d A _ HI.out hm ha).mono ?_); rintro e w' ⟨rfl, rfl⟩)
    go_end0
    exact ⟨rfl, hm.to (by rw [wr_out HI.out, ua_same ha _ rfl rfl]; exact (upd_eq ha.at_a).symm)⟩

theorem accesses_calls (a d : Nat) (A : Ar) {w0 w : World} {h : GH} (hm : Mem w0 h w) (ha : IsAr h a d A) :
    Calls Try.prog 43 #[.pointer (some ⟨a, 0, none⟩)] w fun e w' => e = .returned (.int .i64 (wrap64 A.n)) ∧ w = w' := by
  have c1 : w.cell? ⟨a, 1, none⟩ = some (.int .i64 (wrap64 A.d0)) := hm.cell ha.at_a 1
  have c2 : w.cell? ⟨a, 2, none⟩ = some (.int .i64 (wrap64 A.d1)) := hm.cell ha.at_a 2
  have c3 : w.cell? ⟨a, 3, none⟩ = some (.int .i64 (wrap64 A.d2)) := hm.cell ha.at_a 3
  have c4 : w.cell? ⟨a, 4, none⟩ = some (.int .i64 (wrap64 A.d3)) := hm.cell ha.at_a 4
  have c5 : w.cell? ⟨a, 5, none⟩ = some (.int .i64 (wrap64 A.d4)) := hm.cell ha.at_a 5
  have i0 : ∀ (w : World) (a b c d e : Value), (Instr.index 76 (.agg #[a, b, c, d, e]) (.int .i64 0)).run Try.prog w = .ok a w := fun _ _ _ _ _ _ => by kernel_rfl
  have i1 : ∀ (w : World) (a b c d e : Value), (Instr.index 76 (.agg #[a, b, c, d, e]) (.int .i64 1)).run Try.prog w = .ok b w := fun _ _ _ _ _ _ => by kernel_rfl
  have i2 : ∀ (w : World) (a b c d e : Value), (Instr.index 76 (.agg #[a, b, c, d, e]) (.int .i64 2)).run Try.prog w = .ok c w := fun _ _ _ _ _ _ => by kernel_rfl
  have i3 : ∀ (w : World) (a b c d e : Value), (Instr.index 76 (.agg #[a, b, c, d, e]) (.int .i64 3)).run Try.prog w = .ok d w := fun _ _ _ _ _ _ => by kernel_rfl
  have i4 : ∀ (w : World) (a b c d e : Value), (Instr.index 76 (.agg #[a, b, c, d, e]) (.int .i64 4)).run Try.prog w = .ok e w := fun _ _ _ _ _ _ => by kernel_rfl
  go_enter Try.func43, Try.ntmps43
  go_wp2
  go_rounds 6
  go_returns
  exact ⟨ret_int (by unfold Ar.n wrap64; omega), rfl⟩

/-! ### A new one. -/
def Ar.fresh (n : Nat) : Ar := { ws := List.replicate n 0, cap := n, tail := [], d0 := 0, d1 := 0, d2 := 0, d3 := 0, d4 := 0, last := Acc.zero }

/-- What a call that makes an arena leaves. -/
def MadeAr (w0 : World) (h : GH) (A : Ar) (e : Ending) (w' : World) : Prop :=
  ∃ a d, e = .returned (.pointer (some ⟨a, 0, none⟩)) ∧ h a = none ∧ h d = none ∧ IsAr (ua h a d A) a d A ∧ Mem w0 (ua h a d A) w'

theorem madeCells_int (n : Nat) : madeCells #[.int .i64 0] n = encW (List.replicate n 0) [] := by
  apply Array.ext_getElem?
  intro i
  simp only [madeCells, encW]
  by_cases h : i < n
  · simp [h, Nat.mod_one]
  · simp [h]

theorem info_int : (Try.prog.info? 3).map (fun i => (i.zero, i.size, i.bytes)) = some (some (.int .i64 0), 1, 8) := by kernel_rfl

set_option maxRecDepth 100000 in
theorem new_at (n : Nat) (h1 : 1 ≤ n) (h2 : n ≤ 20000) (words : Int) (hn : (n : Int) = clamp words 1 20000) {w0 w : World} {h : GH} (hm : Mem w0 h w) :
    Calls Try.prog 29 #[.int .i64 words] w (MadeAr w0 h (Ar.fresh n)) := by
  have hz := hm.below.size
  have key : ∀ (w1 : World), w1 = (w.alloc (.cells (madeCells #[.int .i64 0] n) 3)).alloc (.cells #[.slice (some ⟨w.heap.size, 0, none⟩) n n, .int .i64 0, .int .i64 0, .int .i64 0, .int .i64 0, .int .i64 0, .int .i64 0, .int .i64 0, .int .i64 0, .int .i64 0, .bool false] 78) →
      MadeAr w0 h (Ar.fresh n) (.returned (.pointer (some ⟨w.heap.size + 1, 0, none⟩))) w1 := by
    intro w1 e
    subst e
    have m1 := (hm.keep (madeCells #[.int .i64 0] n) 3).keep #[.slice (some ⟨w.heap.size, 0, none⟩) n n, .int .i64 0, .int .i64 0, .int .i64 0, .int .i64 0, .int .i64 0, .int .i64 0, .int .i64 0, .int .i64 0, .int .i64 0, .bool false] 78
    rw [World.size_alloc] at m1
    have e1 : encA (Ar.fresh n) w.heap.size = #[.slice (some ⟨w.heap.size, 0, none⟩) n n, .int .i64 0, .int .i64 0, .int .i64 0, .int .i64 0, .int .i64 0, .int .i64 0, .int .i64 0, .int .i64 0, .int .i64 0, .bool false] := by
      simp [encA, Ar.fresh, Acc.zero, wrap64]
    have e2 : encD (Ar.fresh n) = madeCells #[.int .i64 0] n := by rw [madeCells_int]; rfl
    refine ⟨w.heap.size + 1, w.heap.size, rfl, hm.fresh (by omega), hm.fresh (by omega), ⟨upd_same _ _ _, ?_, by omega, by simpa [Ar.fresh] using h2, by simpa [Ar.fresh] using h1⟩, ?_⟩
    · unfold ua; rw [upd_other _ _ (by omega)]; exact upd_same _ _ _
    · unfold ua; rw [e1, e2]; exact m1
  have hmk : ∀ w, (Instr.makeSlice 43 (.int .i64 (n : Int)) (.int .i64 (n : Int))).run Try.prog w = .ok (.slice (some ⟨w.heap.size, 0, none⟩) n n) (w.alloc (.cells (madeCells #[.int .i64 0] n) 3)) :=
    fun w => run_make_row' 43 3 (.int .i64 0) 8 Try.underlying43 info_int rfl .i64 .i64 n (by omega) (by omega) w
  have HK := Lib.hid key
  clear key
  have hmk2 : ∀ w, (Instr.makeSlice 43 (.int .i64 (min (max words 1) 20000)) (.int .i64 (min (max words 1) 20000))).run Try.prog w = .ok (.slice (some ⟨w.heap.size, 0, none⟩) n n) (w.alloc (.cells (madeCells #[.int .i64 0] n) 3)) := by
    rw [show min (max words 1) 20000 = (n : Int) from hn.symm]; exact hmk
  clear hn hmk
  go_enter Try.func29, Try.ntmps29
  go_wp2
  go_returns
  exact HK.out _ rfl

theorem new_calls (words : Int) {w0 w : World} {h : GH} (hm : Mem w0 h w) :
    Calls Try.prog 29 #[.int .i64 words] w (MadeAr w0 h (Ar.fresh (clamp words 1 20000).toNat)) := by
  have h0 := @clamp_lo words 1 20000 (by decide)
  have h1 := @clamp_hi words 1 20000
  exact new_at _ (by omega) (by omega) words (by omega) hm
/-! ### A copy. -/
/-- What cloning a row of numbers leaves: a new row. -/
def Cloned (w0 : World) (h : GH) (zs : List Int) (e : Ending) (w' : World) : Prop :=
  ∃ g cap tl, e = .returned (.slice (some ⟨g, 0, none⟩) zs.length cap) ∧ h g = none ∧ Mem w0 (upd h g (.cells (encW zs tl) 3)) w'

set_option maxHeartbeats 2000000 in
set_option maxRecDepth 100000 in
theorem clone_calls (b cap : Nat) (zs : List Int) (tl : List Value) (hz : 1 ≤ zs.length) (hbig : zs.length ≤ 1000000) {w0 w : World} {h : GH} (hm : Mem w0 h w) (hb : h b = some (.cells (encW zs tl) 3)) :
    Calls Try.prog 73 #[.slice (some ⟨b, 0, none⟩) zs.length cap] w (Cloned w0 h zs) := by
  obtain ⟨i0, hi, hz0, hz1, hz2⟩ := info_parts info_int
  have q22 : ∀ (w : World) (a : Option Addr) (n c n' c' : Nat), (binOp .eql 43 (.slice a n c) (.slice none n' c')).run Try.prog w = .ok (.bool a.isNone) w := fun w a n c n' c' => Lib.run_eql_slice_nil w _ _ a n c n' c' Try.underlying43
  have fin : ∀ (v' : Value) (w1 : World), w1.ownsRow w.heap.size 3 1 v' zs.length (zs.map (Value.int .i64)) → (w.alloc (.cells #[] 3)).grownBy w1 (some w.heap.size) → Cloned w0 h zs (.returned v') w1 := by
    intro v' w1 hown hgrow
    obtain ⟨_, h2⟩ := hown
    rcases h2 with ⟨_, h0⟩ | ⟨g, cp, cur, rfl, hg, hh, hn, _, hs, ht⟩
    · omega
    · have m1 := (hm.alloc (.cells #[] 3)).grew hgrow (fun k hk => by
        obtain rfl := Option.some.inj hk
        exact ⟨hm.below.size, hm.fresh (Nat.le_refl _)⟩)
      refine ⟨g, cp, cur.toList.drop zs.length, rfl, hm.fresh hg, ?_⟩
      have e : encW zs (cur.toList.drop zs.length) = cur := by
        unfold encW
        rw [← ht, Nat.mul_one, List.take_append_drop]
      rw [e]
      exact m1.add hh (Nat.le_trans hm.below.size hg)
  have FIN := Lib.hid fin
  have HB := Lib.hid (hm.cell hb)
  clear fin
  go_enter Try.func73, Try.ntmps73
  go_wp2_with (at_builtin; refine wpList_append_own _ rfl _ _ 43 rfl w.heap.size 3 i0 (.int .i64 0) 1 8 Try.underlying43 hi hz0 hz1 hz2 rfl (by decide) _ _ _ rfl (World.ownsRow_made w #[] 0 (Nat.le_refl _) (Nat.zero_le _) rfl) ⟨b, 0, none⟩ zs.length cap (zs.map (Value.int .i64)) rfl ?qc1 ?qc2 ?qc3 ?qc4 ?qc5 ?qc6 ?_)
  case qc1 => simp
  case qc2 =>
    intro j u hj
    have hjn : j < zs.length := by simpa using (List.getElem?_eq_some_iff.1 hj).1
    rw [Addr.add_lit]
    refine Lib.cell?_alloc_some _ ?_
    rw [Nat.zero_add, HB.out j]
    unfold encW
    rw [List.getElem?_toArray, List.getElem?_append_left (by simpa using hjn)]
    exact hj
  case qc3 => intro u hu; obtain ⟨x, _, rfl⟩ := List.mem_map.1 hu; rfl
  case qc4 => unfold maxLen; omega
  case qc5 => omega
  case qc6 => exact ((Below.refl w.heap.size w).alloc (Nat.le_refl _) _).size
  intro v' w1 hown hgrow hnil
  go_wp2
  go_returns
  exact FIN.out v' w1 (by simpa using hown) hgrow

theorem copy_calls (a d : Nat) (A : Ar) {w0 w : World} {h : GH} (hm : Mem w0 h w) (ha : IsAr h a d A) :
    Calls Try.prog 46 #[.pointer (some ⟨a, 0, none⟩)] w fun e w' => ∃ A', A'.ws = A.ws ∧ A'.n = A.n ∧ A'.last = A.last ∧ MadeAr w0 h A' e w' := by
  have la := hm.lt ha.at_a
  have c0 : w.cell? ⟨a, 0, none⟩ = some (.slice (some ⟨d, 0, none⟩) A.ws.length A.cap) := hm.cell ha.at_a 0
  have c1 : w.cell? ⟨a, 1, none⟩ = some (.int .i64 (wrap64 A.d0)) := hm.cell ha.at_a 1
  have c2 : w.cell? ⟨a, 2, none⟩ = some (.int .i64 (wrap64 A.d1)) := hm.cell ha.at_a 2
  have c3 : w.cell? ⟨a, 3, none⟩ = some (.int .i64 (wrap64 A.d2)) := hm.cell ha.at_a 3
  have c4 : w.cell? ⟨a, 4, none⟩ = some (.int .i64 (wrap64 A.d3)) := hm.cell ha.at_a 4
  have c5 : w.cell? ⟨a, 5, none⟩ = some (.int .i64 (wrap64 A.d4)) := hm.cell ha.at_a 5
  have c6 : w.cell? ⟨a, 6, none⟩ = some (.int .i64 A.last.kind) := hm.cell ha.at_a 6
  have c7 : w.cell? ⟨a, 7, none⟩ = some (.int .i64 A.last.pos) := hm.cell ha.at_a 7
  have c8 : w.cell? ⟨a, 8, none⟩ = some (.int .i64 A.last.old) := hm.cell ha.at_a 8
  have c9 : w.cell? ⟨a, 9, none⟩ = some (.int .i64 A.last.new) := hm.cell ha.at_a 9
  have c10 : w.cell? ⟨a, 10, none⟩ = some (.bool A.last.ok) := hm.cell ha.at_a 10
  have m1 : Mem w0 (upd h w.heap.size (.cells (encA A d) 78)) (w.alloc (.cells (#[.slice (some ⟨d, 0, none⟩) A.ws.length A.cap, .int .i64 (wrap64 A.d0), .int .i64 (wrap64 A.d1), .int .i64 (wrap64 A.d2), .int .i64 (wrap64 A.d3), .int .i64 (wrap64 A.d4),
    .int .i64 A.last.kind, .int .i64 A.last.pos, .int .i64 A.last.old, .int .i64 A.last.new, .bool A.last.ok]) 78)) := hm.keep _ _
  have hd1 : upd h w.heap.size (.cells (encA A d) 78) d = some (.cells (encD A) 3) := by
    rw [upd_other _ _ (by have := hm.lt ha.at_d; omega)]; exact ha.at_d
  have hd2 : upd h w.heap.size (.cells (encA A d) 78) d = some (.cells (encW A.ws A.tail) 3) := hd1
  have hlen := ha.len
  have hpos := ha.pos
  go_enter Try.func46, Try.ntmps46
  go_wp2_with fail
  (with_reducible refine (clone_calls d A.cap A.ws A.tail hpos (by omega) m1 hd2).mono ?_)
  rintro e w' ⟨g, cap, tl, rfl, hg, hc⟩
  have hne : w.heap.size ≠ g := fun e => by rw [← e, upd_same] at hg; simp at hg
  have hat := (upd_other (upd h w.heap.size (.cells (encA A d) 78)) (.cells (encW A.ws tl) 3) hne).trans (upd_same _ _ _)
  have k0 : w'.cell? ⟨w.heap.size, 0, none⟩ = some (.slice (some ⟨d, 0, none⟩) A.ws.length A.cap) := hc.cell hat 0
  have f0 := hc.free hat 0
  go_wp2
  go_returns
  refine ⟨{ A with cap := cap, tail := tl }, rfl, rfl, rfl, w.heap.size, g, rfl, hm.fresh (Nat.le_refl _), ?_, ⟨upd_same _ _ _, ?_, hne, hlen, hpos⟩, ?_⟩
  · rw [upd_other _ _ (Ne.symm hne)] at hg; exact hg
  · unfold ua; rw [upd_other _ _ (Ne.symm hne)]; exact upd_same _ _ _
  · refine (hc.set hat 0 _).to ?_
    unfold ua
    rw [upd_comm _ _ _ hne, upd_upd, upd_comm _ _ _ (Ne.symm hne)]
    simp [encA, encD]

end Go.Proofs.Ytceliebbpkgifaa
