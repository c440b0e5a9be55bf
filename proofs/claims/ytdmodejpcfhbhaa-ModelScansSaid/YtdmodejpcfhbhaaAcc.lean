/- Package arena: the four accesses. -/
import Derived.Test.YtdmodejpcfhbhaaArena
namespace Go.Proofs.Ytdmodejpcfhbhaa
open Go.RowKit

theorem load_calls (a d : Nat) (A : Ar) (i : Int) {w0 w : World} {h : GH} (hm : Mem w0 h w) (ha : IsAr h a d A) :
    Calls Try.prog 107 #[.pointer (some ⟨a, 0, none⟩), .int .i64 i] w fun e w' => e = .returned (.int .i64 (A.rd i)) ∧ Mem w0 (ua h a d (A.load i)) w' := by
  have c0 : w.cell? ⟨a, 0, none⟩ = some (.slice (some ⟨d, 0, none⟩) A.ws.length A.cap) := hm.cell ha.at_a 0
  have la := hm.lt ha.at_a
  have ld := hm.lt ha.at_d
  by_cases hi : A.inb i
  · obtain ⟨k, rfl⟩ := Int.eq_ofNat_of_zero_le hi.1
    have hk : k < A.ws.length := by have := hi.2; omega
    obtain ⟨x, hx⟩ : ∃ x, A.ws.getD k 0 = x := ⟨_, rfl⟩
    have ck : w.cell? ⟨d, k, none⟩ = some (.int .i64 x) := by rw [hm.cell ha.at_d k, ← hx]; exact encW_get _ hk
    have fk := hm.free ha.at_d k
    have HI := Lib.hid hi
    have HX := Lib.hid hx
    clear hi hx
    have hd : Mem w0 h (w.setCell ⟨d, k, none⟩ (.int .i64 x)) := (hm.set ha.at_d k _).to (by rw [← HX.out, encD, encW_set _ _ hk, set_getD]; exact upd_eq ha.at_d)
    go_enter Try.func107, Try.ntmps107
    go_wp2_with (first
      | (go_at_call 78; (with_reducible refine (is_yes a d A _ (by omega) (by omega) hm ha).mono ?_); rintro e w' ⟨rfl, rfl⟩)
      | (go_at_call 144; (with_reducible refine (notes_calls a d A ⟨1, k, x, x, false⟩ (.inl rfl) hd ha.at_a).mono ?_); rintro e w' ⟨rfl, hn⟩)
      | go_in)
    go_returns
    exact ⟨ret_int (by rw [rd_in hk]; exact HX.out.symm), hn.to (by rw [ua_same ha _ (by unfold Ar.load; simp) (by unfold Ar.load; simp)]; unfold Ar.load; rw [rd_in hk, HX.out])⟩
  · have HI := Lib.hid hi
    clear hi
    go_enter Try.func107, Try.ntmps107
    go_wp2_with (first
      | (go_at_call 78; (with_reducible refine (is_no a d A _ HI.out hm ha).mono ?_); rintro e w' ⟨rfl, rfl⟩)
      | (go_at_call 144; (with_reducible refine (notes_calls a d A ⟨1, i, 0, 0, false⟩ (.inl rfl) hm ha.at_a).mono ?_); rintro e w' ⟨rfl, hn⟩)
      | go_in)
    go_returns
    exact ⟨ret_int (by rw [rd_out HI.out]), hn.to (by rw [ua_same ha _ (by unfold Ar.load; simp) (by unfold Ar.load; simp)]; unfold Ar.load; rw [rd_out HI.out])⟩

theorem add_calls (a d : Nat) (A : Ar) (i n : Int) {w0 w : World} {h : GH} (hm : Mem w0 h w) (ha : IsAr h a d A) :
    Calls Try.prog 103 #[.pointer (some ⟨a, 0, none⟩), .int .i64 i, .int .i64 n] w fun e w' => e = .returned (.int .i64 (A.rd i)) ∧ Mem w0 (ua h a d (A.add i n)) w' := by
  have c0 : w.cell? ⟨a, 0, none⟩ = some (.slice (some ⟨d, 0, none⟩) A.ws.length A.cap) := hm.cell ha.at_a 0
  have la := hm.lt ha.at_a
  have ld := hm.lt ha.at_d
  by_cases hi : A.inb i
  · obtain ⟨k, rfl⟩ := Int.eq_ofNat_of_zero_le hi.1
    have hk : k < A.ws.length := by have := hi.2; omega
    obtain ⟨x, hx⟩ : ∃ x, A.ws.getD k 0 = x := ⟨_, rfl⟩
    have ck : w.cell? ⟨d, k, none⟩ = some (.int .i64 x) := by rw [hm.cell ha.at_d k, ← hx]; exact encW_get _ hk
    have fk := hm.free ha.at_d k
    have HI := Lib.hid hi
    have HX := Lib.hid hx
    clear hi hx
    have hl : (A.wr k (wrap64 (x + n))).ws.length = A.ws.length := wr_len _ _ _
    have hat : upd h d (.cells (encD (A.wr k (wrap64 (x + n)))) 3) a = some (.cells (encA (A.wr k (wrap64 (x + n))) d) 119) := by
      rw [upd_other _ _ ha.ne, ha.at_a, wr_in hk]; simp [encA]
    have hd : Mem w0 (upd h d (.cells (encD (A.wr k (wrap64 (x + n)))) 3)) (w.setCell ⟨d, k, none⟩ (.int .i64 (wrap64 (x + n)))) := (hm.set ha.at_d k _).eqv (by rw [encD, encW_set _ _ hk, wr_in hk]; rfl)
    clear hl
    go_enter Try.func103, Try.ntmps103
    go_wp2_with (first
      | (go_at_call 78; (with_reducible refine (is_yes a d A _ (by omega) (by omega) (hm.alloc _) ha).mono ?_); rintro e w' ⟨rfl, rfl⟩)
      | (go_at_call 144; (with_reducible refine (notes_calls a d (A.wr k (wrap64 (x + n))) ⟨4, k, x, wrap64 (x + n), false⟩ (.inr (.inr (.inr rfl))) (hd.alloc _) hat).mono ?_); rintro e w' ⟨rfl, hn⟩)
      | go_in)
    go_returns
    exact ⟨ret_int (by rw [rd_in hk]; exact HX.out.symm), hn.acc (by unfold Ar.add; rw [rd_in hk, HX.out, if_pos (inb_nat hk)])⟩
  · have HI := Lib.hid hi
    clear hi
    go_enter Try.func103, Try.ntmps103
    go_wp2_with (first
      | (go_at_call 78; (with_reducible refine (is_no a d A _ HI.out (hm.alloc _) ha).mono ?_); rintro e w' ⟨rfl, rfl⟩)
      | (go_at_call 144; (with_reducible refine (notes_calls a d A ⟨4, i, 0, 0, false⟩ (.inr (.inr (.inr rfl))) (hm.alloc _) ha.at_a).mono ?_); rintro e w' ⟨rfl, hn⟩)
      | go_in)
    go_returns
    exact ⟨ret_int (by rw [rd_out HI.out]), hn.to (by rw [ua_same ha _ (by unfold Ar.add; rw [wr_out HI.out]; simp) (by unfold Ar.add; rw [wr_out HI.out]; simp)]; unfold Ar.add; rw [rd_out HI.out, wr_out HI.out, if_neg HI.out])⟩

theorem swap_calls (a d : Nat) (A : Ar) (i o n : Int) {w0 w : World} {h : GH} (hm : Mem w0 h w) (ha : IsAr h a d A) :
    Calls Try.prog 104 #[.pointer (some ⟨a, 0, none⟩), .int .i64 i, .int .i64 o, .int .i64 n] w fun e w' => e = .returned (.bool (A.swaps i o)) ∧ Mem w0 (ua h a d (A.swap i o n)) w' := by
  have c0 : w.cell? ⟨a, 0, none⟩ = some (.slice (some ⟨d, 0, none⟩) A.ws.length A.cap) := hm.cell ha.at_a 0
  have la := hm.lt ha.at_a
  have ld := hm.lt ha.at_d
  by_cases hi : A.inb i
  · obtain ⟨k, rfl⟩ := Int.eq_ofNat_of_zero_le hi.1
    have hk : k < A.ws.length := by have := hi.2; omega
    obtain ⟨x, hx⟩ : ∃ x, A.ws.getD k 0 = x := ⟨_, rfl⟩
    have ck : w.cell? ⟨d, k, none⟩ = some (.int .i64 x) := by rw [hm.cell ha.at_d k, ← hx]; exact encW_get _ hk
    have fk := hm.free ha.at_d k
    have HI := Lib.hid hi
    have HX := Lib.hid hx
    clear hi hx
    by_cases he : x = o
    · subst he
      have hl : (A.wr k n).ws.length = A.ws.length := wr_len _ _ _
      have hat : upd h d (.cells (encD (A.wr k n)) 3) a = some (.cells (encA (A.wr k n) d) 119) := by
        rw [upd_other _ _ ha.ne, ha.at_a, wr_in hk]; simp [encA]
      have hd : Mem w0 (upd h d (.cells (encD (A.wr k n)) 3)) (w.setCell ⟨d, k, none⟩ (.int .i64 n)) := (hm.set ha.at_d k _).eqv (by rw [encD, encW_set _ _ hk, wr_in hk]; rfl)
      clear hl
      go_enter Try.func104, Try.ntmps104
      go_wp2_with (first
        | (go_at_call 78; (with_reducible refine (is_yes a d A _ (by omega) (by omega) ((hm.alloc _).alloc _) ha).mono ?_); rintro e w' ⟨rfl, rfl⟩)
        | (go_at_call 144; (with_reducible refine (notes_calls a d (A.wr k n) ⟨3, k, x, n, true⟩ (.inr (.inr (.inl rfl))) ((hd.alloc _).alloc _) hat).mono ?_); rintro e w' ⟨rfl, hn⟩)
        | go_in)
      go_returns
      have hs : A.swaps k x = true := decide_eq_true ⟨inb_nat hk, by rw [rd_in hk]; exact HX.out⟩
      exact ⟨ret_bool hs.symm, hn.acc (by unfold Ar.swap; rw [hs, rd_in hk, HX.out]; rfl)⟩
    · have HE := Lib.hid he
      have hne : (x == o) = false := beq_f he
      clear he
      have hd : Mem w0 h (w.setCell ⟨d, k, none⟩ (.int .i64 x)) := (hm.set ha.at_d k _).to (by rw [← HX.out, encD, encW_set _ _ hk, set_getD]; exact upd_eq ha.at_d)
      go_enter Try.func104, Try.ntmps104
      go_wp2_with (first
        | (go_at_call 78; (with_reducible refine (is_yes a d A _ (by omega) (by omega) ((hm.alloc _).alloc _) ha).mono ?_); rintro e w' ⟨rfl, rfl⟩)
        | (go_at_call 144; (with_reducible refine (notes_calls a d A ⟨3, k, x, x, false⟩ (.inr (.inr (.inl rfl))) ((hd.alloc _).alloc _) ha.at_a).mono ?_); rintro e w' ⟨rfl, hn⟩)
        | go_in)
      go_returns
      have hs : A.swaps k o = false := decide_eq_false (fun hq => HE.out (by rw [← HX.out, ← rd_in hk]; exact hq.2))
      exact ⟨ret_bool hs.symm, hn.to (by rw [ua_same ha _ (by unfold Ar.swap; rw [hs]; simp) (by unfold Ar.swap; rw [hs]; simp)]; unfold Ar.swap; rw [hs, rd_in hk, HX.out]; rfl)⟩
  · have HI := Lib.hid hi
    clear hi
    go_enter Try.func104, Try.ntmps104
    go_wp2_with (first
      | (go_at_call 78; (with_reducible refine (is_no a d A _ HI.out ((hm.alloc _).alloc _) ha).mono ?_); rintro e w' ⟨rfl, rfl⟩)
      | (go_at_call 144; (with_reducible refine (notes_calls a d A ⟨3, i, 0, 0, false⟩ (.inr (.inr (.inl rfl))) ((hm.alloc _).alloc _) ha.at_a).mono ?_); rintro e w' ⟨rfl, hn⟩)
      | go_in)
    go_returns
    have hs : A.swaps i o = false := decide_eq_false (fun hq => HI.out hq.1)
    exact ⟨ret_bool hs.symm, hn.to (by rw [ua_same ha _ (by unfold Ar.swap; rw [hs]; simp) (by unfold Ar.swap; rw [hs]; simp)]; unfold Ar.swap; rw [hs, rd_out HI.out]; rfl)⟩

end Go.Proofs.Ytdmodejpcfhbhaa
