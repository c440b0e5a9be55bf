/- Package place: what each statement on it looks at first. -/
import Derived.Test.YtceliebbpkgifaaPlaceMake
import Derived.Test.YtceliebbpkgifaaErrs
namespace Go.Proofs.Ytceliebbpkgifaa
open Go.RowKit Go.Maps

theorem conf_calls (t c m : Int) (w : World) :
    Calls Try.prog 48 #[.int .i64 t, .int .i64 c, .int .i64 m] w fun e w' => e = .returned (encC ⟨t, c, m, 1000⟩) ∧ Below w.heap.size w w' := by
  go_enter Try.func48, Try.ntmps48
  go_wp2
  refine bodyPost_ret (v := encC ⟨t, c, m, 1000⟩) (by simp [results, Try.results48, go_sem, encC]) rfl ⟨rfl, (Below.refl _ _).alloc (Nat.le_refl _) _⟩

theorem is_x (n : Int) {c : Cf} (hn : c.is = n) (hw : c.wf) (w : World) :
    Calls Try.prog 49 #[encC c] w fun e w' => e = .returned (encE n) ∧ Below w.heap.size w w' := by
  have := is_calls_c c hw w
  rwa [hn] at this

theorem is_ok {c : Cf} (hn : c.is = 0) (hw : c.wf) (w : World) :
    Calls Try.prog 49 #[encC c] w fun e w' => e = .returned .nilIface ∧ Below w.heap.size w w' := by
  have := is_calls_c c hw w
  rwa [hn] at this
theorem is_err (n : Int) {c : Cf} (hn : c.is = n) (h0 : n ≠ 0) (hw : c.wf) (w : World) :
    Calls Try.prog 49 #[encC c] w fun e w' => e = .returned (.iface 85 (.int .i64 n)) ∧ Below w.heap.size w w' := by
  have := is_calls_c c hw w
  rw [hn] at this
  unfold encE at this
  rwa [if_neg h0] at this

theorem make_bad (c : Cf) (hw : c.wf) (h0 : c.is ≠ 0) {w0 w : World} {h : GH} (hm : Mem w0 h w) :
    Calls Try.prog 57 #[encC c] w fun e w' => e = .returned (.tuple #[.pointer none, .iface 85 (.int .i64 c.is)]) ∧ Mem w0 h w' := by
  have hIs := is_calls_c c hw
  unfold encE at hIs
  rw [if_neg h0] at hIs
  generalize c.is = n at *
  unfold encC at *
  go_enter Try.func57, Try.ntmps57
  go_wp2_with fail
  (with_reducible refine (hIs _).mono ?_)
  rintro e w1 ⟨rfl, b1⟩
  go_wp2_with fail
  refine bodyPost_ret (v := .tuple #[.pointer none, .iface 85 (.int .i64 n)]) (by simp [results, Try.results57, go_sem]) rfl ⟨rfl, (hm.alloc _).grown b1⟩

set_option maxRecDepth 100000 in
set_option maxHeartbeats 4000000 in
theorem placeKnown {w0 w : World} {h : GH} (hm : Mem w0 h w) :
    Calls Try.prog 47 #[] w fun e w' => e = .returned (.bool true) ∧ Mem w0 h w' := by
  have wf1 : (⟨2, 4, 200, 1000⟩ : Cf).wf := ⟨by decide, by decide, by decide, by decide⟩
  have wf2 : (⟨2, 3, 200, 1000⟩ : Cf).wf := ⟨by decide, by decide, by decide, by decide⟩
  have wf3 : (⟨2, 4, 30, 1000⟩ : Cf).wf := ⟨by decide, by decide, by decide, by decide⟩
  have in1 : (⟨2, 4, 200, 1000⟩ : Cf).inb := ⟨by decide, by decide, by decide, by decide⟩
  have is1 := fun w => is_ok (by decide) wf1 w
  have is2 := fun w => is_err 10 (by decide) (by decide) wf2 w
  have is3 := fun w => is_err 14 (by decide) (by decide) wf3 w
  have mk := fun {w0 w : World} {h : GH} => @make_good _ wf1 (by decide) w0 w h
  have sz := fun w => size_calls _ in1 w
  have hd := fun w => head_calls _ in1 w
  have ft := fun w => first_calls _ in1 w
  have tp := fun w => top_calls _ in1 w
  have hi := fun w => hint_calls _ in1 63 (by decide) (by decide) w
  have r2 : (Cf.arena ⟨2, 4, 200, 1000⟩).rd 2 = 35 := by decide +kernel
  have r9 : (Cf.arena ⟨2, 4, 200, 1000⟩).rd 9 = -1 := by decide +kernel
  have r11 : (Cf.arena ⟨2, 4, 200, 1000⟩).rd 11 = 32 := by decide +kernel
  have rl : ((Cf.arena ⟨2, 4, 200, 1000⟩).ws.length : Int) = 200 := by decide +kernel
  have ra : wrap64 (Cf.arena ⟨2, 4, 200, 1000⟩).n = 0 := by decide +kernel
  generalize Cf.arena ⟨2, 4, 200, 1000⟩ = V at *
  have cf1 := conf_calls 2 4 200
  have cf2 := conf_calls 2 3 200
  have cf3 := conf_calls 2 4 30
  simp only [encC, Cf.size, Cf.head, Cf.first, Cf.top] at *
  go_enter Try.func47, Try.ntmps47
  go_wp2_with fail
  (with_reducible refine (cf1 _).mono ?_)
  rintro e w1 ⟨rfl, b1⟩
  have m1 := (hm.grown b1).keep #[.int .i64 2, .int .i64 4, .int .i64 200, .int .i64 1000] 59
  go_wp2_with fail
  (with_reducible refine (mk m1).mono ?_)
  rintro e w2 ⟨a, d, h2, rfl, fa, fd, m2, v2, k2⟩
  have c2 : h2 w1.heap.size = some (.cells #[.int .i64 2, .int .i64 4, .int .i64 200, .int .i64 1000] 59) := (k2 _ (ne_of_none (upd_same _ _ _) fa) (ne_of_none (upd_same _ _ _) fd)).trans (upd_same _ _ _)
  have mb := hm.grown b1
  have HK : ∀ k o, h k = some o → h2 k = some o := fun k o e => (k2 k (ne_of_none (upd_fresh mb e) fa) (ne_of_none (upd_fresh mb e) fd)).trans (upd_fresh mb e)
  clear m1 b1 hm mk mb cf1 k2 fa fd
  have q20 : w2.cell? ⟨w1.heap.size, 0, none⟩ = some (.int .i64 2) := m2.cell c2 0
  have q21 : w2.cell? ⟨w1.heap.size, 1, none⟩ = some (.int .i64 4) := m2.cell c2 1
  have q22 : w2.cell? ⟨w1.heap.size, 2, none⟩ = some (.int .i64 200) := m2.cell c2 2
  have q23 : w2.cell? ⟨w1.heap.size, 3, none⟩ = some (.int .i64 1000) := m2.cell c2 3
  go_wp2_with fail
  (with_reducible refine (is1 _).mono ?_)
  rintro e w3 ⟨rfl, b3⟩
  have m3 := m2.grown b3
  clear m2 b3 q20 q21 q22 q23
  have q30 : w3.cell? ⟨w1.heap.size, 0, none⟩ = some (.int .i64 2) := m3.cell c2 0
  have q31 : w3.cell? ⟨w1.heap.size, 1, none⟩ = some (.int .i64 4) := m3.cell c2 1
  have q32 : w3.cell? ⟨w1.heap.size, 2, none⟩ = some (.int .i64 200) := m3.cell c2 2
  have q33 : w3.cell? ⟨w1.heap.size, 3, none⟩ = some (.int .i64 1000) := m3.cell c2 3
  go_wp2_with fail
  (with_reducible refine (cf2 _).mono ?_)
  rintro e w4 ⟨rfl, b4⟩
  have m4 := m3.grown b4
  clear m3 b4 q30 q31 q32 q33
  have q40 : w4.cell? ⟨w1.heap.size, 0, none⟩ = some (.int .i64 2) := m4.cell c2 0
  have q41 : w4.cell? ⟨w1.heap.size, 1, none⟩ = some (.int .i64 4) := m4.cell c2 1
  have q42 : w4.cell? ⟨w1.heap.size, 2, none⟩ = some (.int .i64 200) := m4.cell c2 2
  have q43 : w4.cell? ⟨w1.heap.size, 3, none⟩ = some (.int .i64 1000) := m4.cell c2 3
  go_wp2_with fail
  (with_reducible refine (is2 _).mono ?_)
  rintro e w5 ⟨rfl, b5⟩
  have m5 := m4.grown b5
  clear m4 b5 q40 q41 q42 q43
  have q50 : w5.cell? ⟨w1.heap.size, 0, none⟩ = some (.int .i64 2) := m5.cell c2 0
  have q51 : w5.cell? ⟨w1.heap.size, 1, none⟩ = some (.int .i64 4) := m5.cell c2 1
  have q52 : w5.cell? ⟨w1.heap.size, 2, none⟩ = some (.int .i64 200) := m5.cell c2 2
  have q53 : w5.cell? ⟨w1.heap.size, 3, none⟩ = some (.int .i64 1000) := m5.cell c2 3
  go_wp2_with fail
  (with_reducible refine (is_same 10 (.inl rfl) _).mono ?_)
  rintro e w5x ⟨rfl, rfl⟩
  clear q50 q51 q52 q53
  have q50 : w5.cell? ⟨w1.heap.size, 0, none⟩ = some (.int .i64 2) := m5.cell c2 0
  have q51 : w5.cell? ⟨w1.heap.size, 1, none⟩ = some (.int .i64 4) := m5.cell c2 1
  have q52 : w5.cell? ⟨w1.heap.size, 2, none⟩ = some (.int .i64 200) := m5.cell c2 2
  have q53 : w5.cell? ⟨w1.heap.size, 3, none⟩ = some (.int .i64 1000) := m5.cell c2 3
  go_wp2_with fail
  (with_reducible refine (cf3 _).mono ?_)
  rintro e w6 ⟨rfl, b6⟩
  have m6 := m5.grown b6
  clear m5 b6 q50 q51 q52 q53
  have q60 : w6.cell? ⟨w1.heap.size, 0, none⟩ = some (.int .i64 2) := m6.cell c2 0
  have q61 : w6.cell? ⟨w1.heap.size, 1, none⟩ = some (.int .i64 4) := m6.cell c2 1
  have q62 : w6.cell? ⟨w1.heap.size, 2, none⟩ = some (.int .i64 200) := m6.cell c2 2
  have q63 : w6.cell? ⟨w1.heap.size, 3, none⟩ = some (.int .i64 1000) := m6.cell c2 3
  go_wp2_with fail
  (with_reducible refine (is3 _).mono ?_)
  rintro e w7 ⟨rfl, b7⟩
  have m7 := m6.grown b7
  clear m6 b7 q60 q61 q62 q63
  have q70 : w7.cell? ⟨w1.heap.size, 0, none⟩ = some (.int .i64 2) := m7.cell c2 0
  have q71 : w7.cell? ⟨w1.heap.size, 1, none⟩ = some (.int .i64 4) := m7.cell c2 1
  have q72 : w7.cell? ⟨w1.heap.size, 2, none⟩ = some (.int .i64 200) := m7.cell c2 2
  have q73 : w7.cell? ⟨w1.heap.size, 3, none⟩ = some (.int .i64 1000) := m7.cell c2 3
  go_wp2_with fail
  (with_reducible refine (is_same 14 (.inr rfl) _).mono ?_)
  rintro e w7x ⟨rfl, rfl⟩
  clear q70 q71 q72 q73
  have q70 : w7.cell? ⟨w1.heap.size, 0, none⟩ = some (.int .i64 2) := m7.cell c2 0
  have q71 : w7.cell? ⟨w1.heap.size, 1, none⟩ = some (.int .i64 4) := m7.cell c2 1
  have q72 : w7.cell? ⟨w1.heap.size, 2, none⟩ = some (.int .i64 200) := m7.cell c2 2
  have q73 : w7.cell? ⟨w1.heap.size, 3, none⟩ = some (.int .i64 1000) := m7.cell c2 3
  go_wp2_with fail
  (with_reducible refine (sz _).mono ?_)
  rintro e w8 ⟨rfl, b8⟩
  have m8 := m7.grown b8
  clear m7 b8 q70 q71 q72 q73
  have q80 : w8.cell? ⟨w1.heap.size, 0, none⟩ = some (.int .i64 2) := m8.cell c2 0
  have q81 : w8.cell? ⟨w1.heap.size, 1, none⟩ = some (.int .i64 4) := m8.cell c2 1
  have q82 : w8.cell? ⟨w1.heap.size, 2, none⟩ = some (.int .i64 200) := m8.cell c2 2
  have q83 : w8.cell? ⟨w1.heap.size, 3, none⟩ = some (.int .i64 1000) := m8.cell c2 3
  go_wp2_with fail
  (with_reducible refine (psa_calls 1 (by decide) (by decide) _).mono ?_)
  rintro e w8x ⟨rfl, rfl⟩
  clear q80 q81 q82 q83
  have q80 : w8.cell? ⟨w1.heap.size, 0, none⟩ = some (.int .i64 2) := m8.cell c2 0
  have q81 : w8.cell? ⟨w1.heap.size, 1, none⟩ = some (.int .i64 4) := m8.cell c2 1
  have q82 : w8.cell? ⟨w1.heap.size, 2, none⟩ = some (.int .i64 200) := m8.cell c2 2
  have q83 : w8.cell? ⟨w1.heap.size, 3, none⟩ = some (.int .i64 1000) := m8.cell c2 3
  go_wp2_with fail
  (with_reducible refine (hi _).mono ?_)
  rintro e w9 ⟨rfl, b9⟩
  have m9 := m8.grown b9
  clear m8 b9 q80 q81 q82 q83
  have q90 : w9.cell? ⟨w1.heap.size, 0, none⟩ = some (.int .i64 2) := m9.cell c2 0
  have q91 : w9.cell? ⟨w1.heap.size, 1, none⟩ = some (.int .i64 4) := m9.cell c2 1
  have q92 : w9.cell? ⟨w1.heap.size, 2, none⟩ = some (.int .i64 200) := m9.cell c2 2
  have q93 : w9.cell? ⟨w1.heap.size, 3, none⟩ = some (.int .i64 1000) := m9.cell c2 3
  go_wp2_with fail
  (with_reducible refine (hd _).mono ?_)
  rintro e w10 ⟨rfl, b10⟩
  have m10 := m9.grown b10
  clear m9 b10 q90 q91 q92 q93
  have q100 : w10.cell? ⟨w1.heap.size, 0, none⟩ = some (.int .i64 2) := m10.cell c2 0
  have q101 : w10.cell? ⟨w1.heap.size, 1, none⟩ = some (.int .i64 4) := m10.cell c2 1
  have q102 : w10.cell? ⟨w1.heap.size, 2, none⟩ = some (.int .i64 200) := m10.cell c2 2
  have q103 : w10.cell? ⟨w1.heap.size, 3, none⟩ = some (.int .i64 1000) := m10.cell c2 3
  go_wp2_with fail
  (with_reducible refine (ft _).mono ?_)
  rintro e w11 ⟨rfl, b11⟩
  have m11 := m10.grown b11
  clear m10 b11 q100 q101 q102 q103
  have q110 : w11.cell? ⟨w1.heap.size, 0, none⟩ = some (.int .i64 2) := m11.cell c2 0
  have q111 : w11.cell? ⟨w1.heap.size, 1, none⟩ = some (.int .i64 4) := m11.cell c2 1
  have q112 : w11.cell? ⟨w1.heap.size, 2, none⟩ = some (.int .i64 200) := m11.cell c2 2
  have q113 : w11.cell? ⟨w1.heap.size, 3, none⟩ = some (.int .i64 1000) := m11.cell c2 3
  go_wp2_with fail
  (with_reducible refine (tp _).mono ?_)
  rintro e w12 ⟨rfl, b12⟩
  have m12 := m11.grown b12
  clear m11 b12 q110 q111 q112 q113
  have q120 : w12.cell? ⟨w1.heap.size, 0, none⟩ = some (.int .i64 2) := m12.cell c2 0
  have q121 : w12.cell? ⟨w1.heap.size, 1, none⟩ = some (.int .i64 4) := m12.cell c2 1
  have q122 : w12.cell? ⟨w1.heap.size, 2, none⟩ = some (.int .i64 200) := m12.cell c2 2
  have q123 : w12.cell? ⟨w1.heap.size, 3, none⟩ = some (.int .i64 1000) := m12.cell c2 3
  go_wp2_with fail
  (with_reducible refine (state_calls 16 1 (by decide) (by decide) (by decide) (by decide) _).mono ?_)
  rintro e w12x ⟨rfl, rfl⟩
  clear q120 q121 q122 q123
  have q120 : w12.cell? ⟨w1.heap.size, 0, none⟩ = some (.int .i64 2) := m12.cell c2 0
  have q121 : w12.cell? ⟨w1.heap.size, 1, none⟩ = some (.int .i64 4) := m12.cell c2 1
  have q122 : w12.cell? ⟨w1.heap.size, 2, none⟩ = some (.int .i64 200) := m12.cell c2 2
  have q123 : w12.cell? ⟨w1.heap.size, 3, none⟩ = some (.int .i64 1000) := m12.cell c2 3
  go_wp2_with fail
  (with_reducible refine (len_x 200 rl m12 v2).mono ?_)
  rintro e w12x ⟨rfl, rfl⟩
  clear q120 q121 q122 q123
  have q120 : w12.cell? ⟨w1.heap.size, 0, none⟩ = some (.int .i64 2) := m12.cell c2 0
  have q121 : w12.cell? ⟨w1.heap.size, 1, none⟩ = some (.int .i64 4) := m12.cell c2 1
  have q122 : w12.cell? ⟨w1.heap.size, 2, none⟩ = some (.int .i64 200) := m12.cell c2 2
  have q123 : w12.cell? ⟨w1.heap.size, 3, none⟩ = some (.int .i64 1000) := m12.cell c2 3
  go_wp2_with fail
  (with_reducible refine (peek_x 35 r2 m12 v2).mono ?_)
  rintro e w12x ⟨rfl, rfl⟩
  clear q120 q121 q122 q123
  have q120 : w12.cell? ⟨w1.heap.size, 0, none⟩ = some (.int .i64 2) := m12.cell c2 0
  have q121 : w12.cell? ⟨w1.heap.size, 1, none⟩ = some (.int .i64 4) := m12.cell c2 1
  have q122 : w12.cell? ⟨w1.heap.size, 2, none⟩ = some (.int .i64 200) := m12.cell c2 2
  have q123 : w12.cell? ⟨w1.heap.size, 3, none⟩ = some (.int .i64 1000) := m12.cell c2 3
  go_wp2_with fail
  (with_reducible refine (peek_x (-1) r9 m12 v2).mono ?_)
  rintro e w12x ⟨rfl, rfl⟩
  clear q120 q121 q122 q123
  have q120 : w12.cell? ⟨w1.heap.size, 0, none⟩ = some (.int .i64 2) := m12.cell c2 0
  have q121 : w12.cell? ⟨w1.heap.size, 1, none⟩ = some (.int .i64 4) := m12.cell c2 1
  have q122 : w12.cell? ⟨w1.heap.size, 2, none⟩ = some (.int .i64 200) := m12.cell c2 2
  have q123 : w12.cell? ⟨w1.heap.size, 3, none⟩ = some (.int .i64 1000) := m12.cell c2 3
  go_wp2_with fail
  (with_reducible refine (peek_x 32 r11 m12 v2).mono ?_)
  rintro e w12x ⟨rfl, rfl⟩
  clear q120 q121 q122 q123
  have q120 : w12.cell? ⟨w1.heap.size, 0, none⟩ = some (.int .i64 2) := m12.cell c2 0
  have q121 : w12.cell? ⟨w1.heap.size, 1, none⟩ = some (.int .i64 4) := m12.cell c2 1
  have q122 : w12.cell? ⟨w1.heap.size, 2, none⟩ = some (.int .i64 200) := m12.cell c2 2
  have q123 : w12.cell? ⟨w1.heap.size, 3, none⟩ = some (.int .i64 1000) := m12.cell c2 3
  go_wp2_with fail
  (with_reducible refine (accesses_x 0 ra m12 v2).mono ?_)
  rintro e w12x ⟨rfl, rfl⟩
  clear q120 q121 q122 q123
  go_wp2_with fail
  go_returns
  exact ⟨rfl, m12.less HK⟩

end Go.Proofs.Ytceliebbpkgifaa
