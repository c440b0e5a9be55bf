/- The walks of three more statements on arenas alone. -/
import Derived.Test.YtceliebbpkgifaaAren5
namespace Go.Proofs.Ytceliebbpkgifaa
open Go.RowKit

theorem poke_is (V' : Vw) {V : Vw} {w0 w : World} {h : GH} {a d : Nat} {i v : Int} (e : V.wr i v = V') (hm : Mem w0 h w) (hv : IsV h a d V) :
    Calls Try.prog 41 #[.pointer (some ⟨a, 0, none⟩), .int .i64 i, .int .i64 v] w fun e w' => e = .returned (.tuple #[]) ∧ Arp w0 h a d V' w' := by
  have := poke_v a d V i v hm hv; rwa [e] at this
theorem wr_inb (V : Vw) (i j v : Int) : (V.wr i v).inb j ↔ V.inb j := by unfold Vw.inb; simp

set_option maxRecDepth 100000 in
set_option maxHeartbeats 2000000 in
theorem arenaLast_walk (a0 : Int) (a1 : Int) (a2 : Int) (a3 : Int) (a4 : Int) (w0 : (Lit.int .u8 a0).wf = true) (w1 : (Lit.int .i64 a1).wf = true) (w2 : (Lit.int .i64 a2).wf = true) (w3 : (Lit.int .i64 a3).wf = true) (w4 : (Lit.int .u8 a4).wf = true) (w : World) :
    Calls Try.prog 13 #[.int .u8 a0, .int .i64 a1, .int .i64 a2, .int .i64 a3, .int .u8 a4] w fun e w' => e = .returned (.bool true) ∧ Below w.heap.size w w' := by
  have hm := Mem.start w
  obtain ⟨l0, u0⟩ := wf_u8_bounds w0
  obtain ⟨l1, u1⟩ := wf_i64_bounds w1
  obtain ⟨l2, u2⟩ := wf_i64_bounds w2
  obtain ⟨l3, u3⟩ := wf_i64_bounds w3
  obtain ⟨l4, u4⟩ := wf_u8_bounds w4
  clear w0 w1 w2 w3 w4
  clear l1 u1 l2 u2 l3 u3
  obtain ⟨V, hV⟩ : ∃ V, (Vw.fresh 20).wr (a0 % 20) a1 = V := ⟨_, rfl⟩
  have hin0 : (Vw.fresh 20).inb (a0 % 20) := ⟨by omega, by simp [Vw.fresh]; omega⟩
  have hin : Hid (V.inb (a0 % 20)) := by rw [← hV]; exact (wr_inb _ _ _ _).2 hin0
  have hrd : Hid (V.rd (a0 % 20) = a1) := by rw [← hV]; show _ = _; rw [rd_wr _ _ _ _ hin0, if_pos rfl]
  have hn : Hid (V.n = 0) := by rw [← hV]; show _ = _; rw [vwr_n]; rfl
  have HV := Lib.hid hV
  clear hV hin0
  rcases (by omega : a4 % 4 = 0 ∨ a4 % 4 = 1 ∨ a4 % 4 = 2 ∨ a4 % 4 = 3) with hq | hq | hq | hq
  · go_enter Try.func13, Try.ntmps13
    go_wp2_with fail
    (with_reducible refine (arenaKnown hm).mono ?_)
    rintro e w1 ⟨rfl, m1⟩
    clear hm
    go_wp2_with fail
    (with_reducible refine (new_x 20 (by decide) m1).mono ?_)
    rintro e w2 ⟨a, d, h2, rfl, fa, fd, m2, va_2, k2⟩
    clear m1 k2 fa fd
    go_wp2_with fail
    (with_reducible refine (poke_is V HV.out m2 va_2).mono ?_)
    rintro e w3 ⟨rfl, h3, m3, va_3, k3⟩
    clear m2 va_2 k3
    go_wp2_with fail
    have m4 := m3.keep #[.int .i64 1, .int .i64 (a0 % 20), .int .i64 a1, .int .i64 a1, .bool false] 45
    have z4 : h3 w3.heap.size = none := m3.fresh (Nat.le_refl _)
    have b_4 := upd_same h3 w3.heap.size (#[.int .i64 1, .int .i64 (a0 % 20), .int .i64 a1, .int .i64 a1, .bool false], 45)
    have va_4 := va_3.keep (upd_other h3 (#[.int .i64 1, .int .i64 (a0 % 20), .int .i64 a1, .int .i64 a1, .bool false], 45) (va_3.apart z4).1) (upd_other h3 (#[.int .i64 1, .int .i64 (a0 % 20), .int .i64 a1, .int .i64 a1, .bool false], 45) (va_3.apart z4).2)
    generalize hg4 : upd h3 w3.heap.size (#[.int .i64 1, .int .i64 (a0 % 20), .int .i64 a1, .int .i64 a1, .bool false], 45) = h4 at *
    clear m3 z4 va_3 hg4
    go_wp2_with fail
    (with_reducible refine (load_x a1 hrd.out m4 va_4).mono ?_)
    rintro e w5 ⟨rfl, h5, m5, va_5, k5⟩
    have b_5 := va_4.kept k5 b_4 (by decide) (by decide)
    clear m4 va_4 k5 b_4
    go_wp2_with fail
    (with_reducible refine (peek_v a d _ _ m5 va_5).mono ?_)
    rintro e w' ⟨rfl, rfl⟩
    go_wp2_with fail
    (with_reducible refine (poke_v a d _ _ 5 m5 va_5).mono ?_)
    rintro e w6 ⟨rfl, h6, m6, va_6, k6⟩
    have b_6 := va_5.kept k6 b_5 (by decide) (by decide)
    clear m5 va_5 k6 b_5
    go_wp2_with fail
    (with_reducible refine (copy_v a d _ m6 va_6).mono ?_)
    rintro e w7 ⟨e, g, h7, rfl, fe, fg, m7, vb_7, k7⟩
    obtain ⟨a_e, d_e⟩ := va_6.apart fe
    obtain ⟨a_g, d_g⟩ := va_6.apart fg
    have e_a := Ne.symm a_e
    have e_d := Ne.symm d_e
    have g_a := Ne.symm a_g
    have g_d := Ne.symm d_g
    have va_7 := va_6.other k7 a_e a_g d_e d_g
    have b_7 := (k7 _ (ne_of_none b_6 fe) (ne_of_none b_6 fg)).trans b_6
    clear m6 k7 va_6 b_6 fe fg
    go_wp2_with fail
    have q0 : ∀ x : MW w h7, x.w.cell? ⟨w3.heap.size, 0, none⟩ = some (.int .i64 1) := fun x => x.m.cell b_7 0
    have q1 : ∀ x : MW w h7, x.w.cell? ⟨w3.heap.size, 1, none⟩ = some (.int .i64 (a0 % 20)) := fun x => x.m.cell b_7 1
    have q2 : ∀ x : MW w h7, x.w.cell? ⟨w3.heap.size, 2, none⟩ = some (.int .i64 a1) := fun x => x.m.cell b_7 2
    have q3 : ∀ x : MW w h7, x.w.cell? ⟨w3.heap.size, 3, none⟩ = some (.int .i64 (a1)) := fun x => x.m.cell b_7 3
    have q4 : ∀ x : MW w h7, x.w.cell? ⟨w3.heap.size, 4, none⟩ = some (.bool false) := fun x => x.m.cell b_7 4
    have hne : Nonempty (MW w h7) := ⟨⟨_, m7⟩⟩
    refine region_mem (by kernel_rfl) (by kernel_rfl) m7 ?_
    repeat (any_goals (first | go_big_quiet_step ((first | (go_at_call 44; first | exact Calls.in_mem (last_x ⟨1, a0 % 20, a1, a1, false⟩ (by rw [vwr_last]; unfold Vw.load Vw.note; simp only [hrd.out]) (MW.m _) va_7) | exact Calls.in_mem (last_x ⟨1, a0 % 20, a1, a1, false⟩ (by rw [vwr_last]; unfold Vw.load Vw.note; simp only [hrd.out]) (MW.m _) vb_7)) | (go_at_call 43; first | exact Calls.in_mem_same (accesses_x 1 (by rw [vwr_n]; unfold Vw.load Vw.note; simp only [hn.out]; decide +kernel) (MW.m _) va_7) | exact Calls.in_mem_same (accesses_x 1 (by rw [vwr_n]; unfold Vw.load Vw.note; simp only [hn.out]; decide +kernel) (MW.m _) vb_7)))) | quiet_step ((first | (go_at_call 44; first | exact Calls.in_mem (last_x ⟨1, a0 % 20, a1, a1, false⟩ (by rw [vwr_last]; unfold Vw.load Vw.note; simp only [hrd.out]) (MW.m _) va_7) | exact Calls.in_mem (last_x ⟨1, a0 % 20, a1, a1, false⟩ (by rw [vwr_last]; unfold Vw.load Vw.note; simp only [hrd.out]) (MW.m _) vb_7)) | (go_at_call 43; first | exact Calls.in_mem_same (accesses_x 1 (by rw [vwr_n]; unfold Vw.load Vw.note; simp only [hn.out]; decide +kernel) (MW.m _) va_7) | exact Calls.in_mem_same (accesses_x 1 (by rw [vwr_n]; unfold Vw.load Vw.note; simp only [hn.out]; decide +kernel) (MW.m _) vb_7))))))
    refine wpQuiet_nil ?_
    intro w' hw'
    obtain ⟨⟨w', hm'⟩, rfl⟩ := hw'
    go_wp2_with fail
    go_returns
    exact ⟨rfl, hm'.below⟩
  · go_enter Try.func13, Try.ntmps13
    go_wp2_with fail
    (with_reducible refine (arenaKnown hm).mono ?_)
    rintro e w1 ⟨rfl, m1⟩
    clear hm
    go_wp2_with fail
    (with_reducible refine (new_x 20 (by decide) m1).mono ?_)
    rintro e w2 ⟨a, d, h2, rfl, fa, fd, m2, va_2, k2⟩
    clear m1 k2 fa fd
    go_wp2_with fail
    (with_reducible refine (poke_is V HV.out m2 va_2).mono ?_)
    rintro e w3 ⟨rfl, h3, m3, va_3, k3⟩
    clear m2 va_2 k3
    go_wp2_with fail
    have m4 := m3.keep #[.int .i64 2, .int .i64 (a0 % 20), .int .i64 a1, .int .i64 a1, .bool false] 45
    have z4 : h3 w3.heap.size = none := m3.fresh (Nat.le_refl _)
    have b_4 := upd_same h3 w3.heap.size (#[.int .i64 2, .int .i64 (a0 % 20), .int .i64 a1, .int .i64 a1, .bool false], 45)
    have va_4 := va_3.keep (upd_other h3 (#[.int .i64 2, .int .i64 (a0 % 20), .int .i64 a1, .int .i64 a1, .bool false], 45) (va_3.apart z4).1) (upd_other h3 (#[.int .i64 2, .int .i64 (a0 % 20), .int .i64 a1, .int .i64 a1, .bool false], 45) (va_3.apart z4).2)
    generalize hg4 : upd h3 w3.heap.size (#[.int .i64 2, .int .i64 (a0 % 20), .int .i64 a1, .int .i64 a1, .bool false], 45) = h4 at *
    clear m3 z4 va_3 hg4
    go_wp2_with fail
    (with_reducible refine (store_v a d _ _ a2 m4 va_4).mono ?_)
    rintro e w5 ⟨rfl, h5, m5, va_5, k5⟩
    have b_5 := va_4.kept k5 b_4 (by decide) (by decide)
    clear m4 va_4 k5 b_4
    have qb0 : World.cell? (w5) ⟨w3.heap.size, 0, none⟩ = some (.int .i64 2) := m5.cell b_5 0
    have rb0 := m5.free b_5 0
    have qb1 : World.cell? (w5) ⟨w3.heap.size, 1, none⟩ = some (.int .i64 (a0 % 20)) := m5.cell b_5 1
    have rb1 := m5.free b_5 1
    have qb2 : World.cell? (w5) ⟨w3.heap.size, 2, none⟩ = some (.int .i64 a1) := m5.cell b_5 2
    have rb2 := m5.free b_5 2
    have qb3 : World.cell? (w5) ⟨w3.heap.size, 3, none⟩ = some (.int .i64 (a1)) := m5.cell b_5 3
    have rb3 := m5.free b_5 3
    have qb4 : World.cell? (w5) ⟨w3.heap.size, 4, none⟩ = some (.bool false) := m5.cell b_5 4
    have rb4 := m5.free b_5 4
    go_wp2_with fail
    have m6 := (m5.set b_5 3 (.int .i64 (a2))).eqv (c' := #[.int .i64 2, .int .i64 (a0 % 20), .int .i64 a1, .int .i64 (a2), .bool false]) (by simp)
    have b_6 := upd_same h5 (w3.heap.size) (#[.int .i64 2, .int .i64 (a0 % 20), .int .i64 a1, .int .i64 (a2), .bool false], 45)
    have va_6 := va_5.keep (upd_other h5 (#[.int .i64 2, .int .i64 (a0 % 20), .int .i64 a1, .int .i64 (a2), .bool false], 45) (Ne.symm (va_5.ne_ty b_5 (by decide) (by decide)).1)) (upd_other h5 (#[.int .i64 2, .int .i64 (a0 % 20), .int .i64 a1, .int .i64 (a2), .bool false], 45) (Ne.symm (va_5.ne_ty b_5 (by decide) (by decide)).2))
    generalize hg6 : upd h5 (w3.heap.size) (#[.int .i64 2, .int .i64 (a0 % 20), .int .i64 a1, .int .i64 (a2), .bool false], 45) = h6 at *
    clear m5 b_5 va_5 hg6
    clear qb0 qb1 qb2 qb3 qb4 rb0 rb1 rb2 rb3 rb4
    go_wp2_with fail
    (with_reducible refine (peek_v a d _ _ m6 va_6).mono ?_)
    rintro e w' ⟨rfl, rfl⟩
    go_wp2_with fail
    (with_reducible refine (poke_v a d _ _ 5 m6 va_6).mono ?_)
    rintro e w7 ⟨rfl, h7, m7, va_7, k7⟩
    have b_7 := va_6.kept k7 b_6 (by decide) (by decide)
    clear m6 va_6 k7 b_6
    go_wp2_with fail
    (with_reducible refine (copy_v a d _ m7 va_7).mono ?_)
    rintro e w8 ⟨e, g, h8, rfl, fe, fg, m8, vb_8, k8⟩
    obtain ⟨a_e, d_e⟩ := va_7.apart fe
    obtain ⟨a_g, d_g⟩ := va_7.apart fg
    have e_a := Ne.symm a_e
    have e_d := Ne.symm d_e
    have g_a := Ne.symm a_g
    have g_d := Ne.symm d_g
    have va_8 := va_7.other k8 a_e a_g d_e d_g
    have b_8 := (k8 _ (ne_of_none b_7 fe) (ne_of_none b_7 fg)).trans b_7
    clear m7 k8 va_7 b_7 fe fg
    go_wp2_with fail
    have q0 : ∀ x : MW w h8, x.w.cell? ⟨w3.heap.size, 0, none⟩ = some (.int .i64 2) := fun x => x.m.cell b_8 0
    have q1 : ∀ x : MW w h8, x.w.cell? ⟨w3.heap.size, 1, none⟩ = some (.int .i64 (a0 % 20)) := fun x => x.m.cell b_8 1
    have q2 : ∀ x : MW w h8, x.w.cell? ⟨w3.heap.size, 2, none⟩ = some (.int .i64 a1) := fun x => x.m.cell b_8 2
    have q3 : ∀ x : MW w h8, x.w.cell? ⟨w3.heap.size, 3, none⟩ = some (.int .i64 (a2)) := fun x => x.m.cell b_8 3
    have q4 : ∀ x : MW w h8, x.w.cell? ⟨w3.heap.size, 4, none⟩ = some (.bool false) := fun x => x.m.cell b_8 4
    have hne : Nonempty (MW w h8) := ⟨⟨_, m8⟩⟩
    refine region_mem (by kernel_rfl) (by kernel_rfl) m8 ?_
    repeat (any_goals (first | go_big_quiet_step ((first | (go_at_call 44; first | exact Calls.in_mem (last_x ⟨2, a0 % 20, a1, a2, false⟩ (by rw [vwr_last]; unfold Vw.store Vw.note; simp only [hrd.out, if_pos hin.out]) (MW.m _) va_8) | exact Calls.in_mem (last_x ⟨2, a0 % 20, a1, a2, false⟩ (by rw [vwr_last]; unfold Vw.store Vw.note; simp only [hrd.out, if_pos hin.out]) (MW.m _) vb_8)) | (go_at_call 43; first | exact Calls.in_mem_same (accesses_x 1 (by rw [vwr_n]; unfold Vw.store Vw.note; simp only [vwr_n, hn.out]; decide +kernel) (MW.m _) va_8) | exact Calls.in_mem_same (accesses_x 1 (by rw [vwr_n]; unfold Vw.store Vw.note; simp only [vwr_n, hn.out]; decide +kernel) (MW.m _) vb_8)))) | quiet_step ((first | (go_at_call 44; first | exact Calls.in_mem (last_x ⟨2, a0 % 20, a1, a2, false⟩ (by rw [vwr_last]; unfold Vw.store Vw.note; simp only [hrd.out, if_pos hin.out]) (MW.m _) va_8) | exact Calls.in_mem (last_x ⟨2, a0 % 20, a1, a2, false⟩ (by rw [vwr_last]; unfold Vw.store Vw.note; simp only [hrd.out, if_pos hin.out]) (MW.m _) vb_8)) | (go_at_call 43; first | exact Calls.in_mem_same (accesses_x 1 (by rw [vwr_n]; unfold Vw.store Vw.note; simp only [vwr_n, hn.out]; decide +kernel) (MW.m _) va_8) | exact Calls.in_mem_same (accesses_x 1 (by rw [vwr_n]; unfold Vw.store Vw.note; simp only [vwr_n, hn.out]; decide +kernel) (MW.m _) vb_8))))))
    refine wpQuiet_nil ?_
    intro w' hw'
    obtain ⟨⟨w', hm'⟩, rfl⟩ := hw'
    go_wp2_with fail
    go_returns
    exact ⟨rfl, hm'.below⟩
  · rcases Decidable.em (a1 = a2) with he | he
    · subst he
      have hs : Hid (V.swaps (a0 % 20) a1 = true) := decide_eq_true ⟨hin.out, hrd.out⟩
      go_enter Try.func13, Try.ntmps13
      go_wp2_with fail
      (with_reducible refine (arenaKnown hm).mono ?_)
      rintro e w1 ⟨rfl, m1⟩
      clear hm
      go_wp2_with fail
      (with_reducible refine (new_x 20 (by decide) m1).mono ?_)
      rintro e w2 ⟨a, d, h2, rfl, fa, fd, m2, va_2, k2⟩
      clear m1 k2 fa fd
      go_wp2_with fail
      (with_reducible refine (poke_is V HV.out m2 va_2).mono ?_)
      rintro e w3 ⟨rfl, h3, m3, va_3, k3⟩
      clear m2 va_2 k3
      go_wp2_with fail
      have m4 := m3.keep #[.int .i64 3, .int .i64 (a0 % 20), .int .i64 a1, .int .i64 a1, .bool false] 45
      have z4 : h3 w3.heap.size = none := m3.fresh (Nat.le_refl _)
      have b_4 := upd_same h3 w3.heap.size (#[.int .i64 3, .int .i64 (a0 % 20), .int .i64 a1, .int .i64 a1, .bool false], 45)
      have va_4 := va_3.keep (upd_other h3 (#[.int .i64 3, .int .i64 (a0 % 20), .int .i64 a1, .int .i64 a1, .bool false], 45) (va_3.apart z4).1) (upd_other h3 (#[.int .i64 3, .int .i64 (a0 % 20), .int .i64 a1, .int .i64 a1, .bool false], 45) (va_3.apart z4).2)
      generalize hg4 : upd h3 w3.heap.size (#[.int .i64 3, .int .i64 (a0 % 20), .int .i64 a1, .int .i64 a1, .bool false], 45) = h4 at *
      clear m3 z4 va_3 hg4
      go_wp2_with fail
      (with_reducible refine (swap_x true hs.out m4 va_4).mono ?_)
      rintro e w5 ⟨rfl, h5, m5, va_5, k5⟩
      have b_5 := va_4.kept k5 b_4 (by decide) (by decide)
      clear m4 va_4 k5 b_4
      have qb0 : World.cell? (w5) ⟨w3.heap.size, 0, none⟩ = some (.int .i64 3) := m5.cell b_5 0
      have rb0 := m5.free b_5 0
      have qb1 : World.cell? (w5) ⟨w3.heap.size, 1, none⟩ = some (.int .i64 (a0 % 20)) := m5.cell b_5 1
      have rb1 := m5.free b_5 1
      have qb2 : World.cell? (w5) ⟨w3.heap.size, 2, none⟩ = some (.int .i64 a1) := m5.cell b_5 2
      have rb2 := m5.free b_5 2
      have qb3 : World.cell? (w5) ⟨w3.heap.size, 3, none⟩ = some (.int .i64 (a1)) := m5.cell b_5 3
      have rb3 := m5.free b_5 3
      have qb4 : World.cell? (w5) ⟨w3.heap.size, 4, none⟩ = some (.bool false) := m5.cell b_5 4
      have rb4 := m5.free b_5 4
      go_wp2_with fail
      have m6 := (m5.set b_5 4 (.bool true)).eqv (c' := #[.int .i64 3, .int .i64 (a0 % 20), .int .i64 a1, .int .i64 (a1), .bool true]) (by simp)
      have b_6 := upd_same h5 (w3.heap.size) (#[.int .i64 3, .int .i64 (a0 % 20), .int .i64 a1, .int .i64 (a1), .bool true], 45)
      have va_6 := va_5.keep (upd_other h5 (#[.int .i64 3, .int .i64 (a0 % 20), .int .i64 a1, .int .i64 (a1), .bool true], 45) (Ne.symm (va_5.ne_ty b_5 (by decide) (by decide)).1)) (upd_other h5 (#[.int .i64 3, .int .i64 (a0 % 20), .int .i64 a1, .int .i64 (a1), .bool true], 45) (Ne.symm (va_5.ne_ty b_5 (by decide) (by decide)).2))
      generalize hg6 : upd h5 (w3.heap.size) (#[.int .i64 3, .int .i64 (a0 % 20), .int .i64 a1, .int .i64 (a1), .bool true], 45) = h6 at *
      clear m5 b_5 va_5 hg6
      have m7 := (m6.set b_6 3 (.int .i64 a3)).eqv (c' := #[.int .i64 3, .int .i64 (a0 % 20), .int .i64 a1, .int .i64 (a3), .bool true]) (by simp)
      have b_7 := upd_same h6 (w3.heap.size) (#[.int .i64 3, .int .i64 (a0 % 20), .int .i64 a1, .int .i64 (a3), .bool true], 45)
      have va_7 := va_6.keep (upd_other h6 (#[.int .i64 3, .int .i64 (a0 % 20), .int .i64 a1, .int .i64 (a3), .bool true], 45) (Ne.symm (va_6.ne_ty b_6 (by decide) (by decide)).1)) (upd_other h6 (#[.int .i64 3, .int .i64 (a0 % 20), .int .i64 a1, .int .i64 (a3), .bool true], 45) (Ne.symm (va_6.ne_ty b_6 (by decide) (by decide)).2))
      generalize hg7 : upd h6 (w3.heap.size) (#[.int .i64 3, .int .i64 (a0 % 20), .int .i64 a1, .int .i64 (a3), .bool true], 45) = h7 at *
      clear m6 b_6 va_6 hg7
      clear qb0 qb1 qb2 qb3 qb4 rb0 rb1 rb2 rb3 rb4
      go_wp2_with fail
      (with_reducible refine (peek_v a d _ _ m7 va_7).mono ?_)
      rintro e w' ⟨rfl, rfl⟩
      go_wp2_with fail
      (with_reducible refine (poke_v a d _ _ 5 m7 va_7).mono ?_)
      rintro e w8 ⟨rfl, h8, m8, va_8, k8⟩
      have b_8 := va_7.kept k8 b_7 (by decide) (by decide)
      clear m7 va_7 k8 b_7
      go_wp2_with fail
      (with_reducible refine (copy_v a d _ m8 va_8).mono ?_)
      rintro e w9 ⟨e, g, h9, rfl, fe, fg, m9, vb_9, k9⟩
      obtain ⟨a_e, d_e⟩ := va_8.apart fe
      obtain ⟨a_g, d_g⟩ := va_8.apart fg
      have e_a := Ne.symm a_e
      have e_d := Ne.symm d_e
      have g_a := Ne.symm a_g
      have g_d := Ne.symm d_g
      have va_9 := va_8.other k9 a_e a_g d_e d_g
      have b_9 := (k9 _ (ne_of_none b_8 fe) (ne_of_none b_8 fg)).trans b_8
      clear m8 k9 va_8 b_8 fe fg
      go_wp2_with fail
      have q0 : ∀ x : MW w h9, x.w.cell? ⟨w3.heap.size, 0, none⟩ = some (.int .i64 3) := fun x => x.m.cell b_9 0
      have q1 : ∀ x : MW w h9, x.w.cell? ⟨w3.heap.size, 1, none⟩ = some (.int .i64 (a0 % 20)) := fun x => x.m.cell b_9 1
      have q2 : ∀ x : MW w h9, x.w.cell? ⟨w3.heap.size, 2, none⟩ = some (.int .i64 a1) := fun x => x.m.cell b_9 2
      have q3 : ∀ x : MW w h9, x.w.cell? ⟨w3.heap.size, 3, none⟩ = some (.int .i64 (a3)) := fun x => x.m.cell b_9 3
      have q4 : ∀ x : MW w h9, x.w.cell? ⟨w3.heap.size, 4, none⟩ = some (.bool true) := fun x => x.m.cell b_9 4
      have hne : Nonempty (MW w h9) := ⟨⟨_, m9⟩⟩
      refine region_mem (by kernel_rfl) (by kernel_rfl) m9 ?_
      repeat (any_goals (first | go_big_quiet_step ((first | (go_at_call 44; first | exact Calls.in_mem (last_x ⟨3, a0 % 20, a1, a3, true⟩ (by rw [vwr_last]; unfold Vw.swap Vw.note; rw [hs.out]; simp only [hrd.out, if_true]) (MW.m _) va_9) | exact Calls.in_mem (last_x ⟨3, a0 % 20, a1, a3, true⟩ (by rw [vwr_last]; unfold Vw.swap Vw.note; rw [hs.out]; simp only [hrd.out, if_true]) (MW.m _) vb_9)) | (go_at_call 43; first | exact Calls.in_mem_same (accesses_x 1 (by rw [vwr_n]; unfold Vw.swap Vw.note; rw [hs.out]; simp only [if_true, vwr_n, hn.out]; decide +kernel) (MW.m _) va_9) | exact Calls.in_mem_same (accesses_x 1 (by rw [vwr_n]; unfold Vw.swap Vw.note; rw [hs.out]; simp only [if_true, vwr_n, hn.out]; decide +kernel) (MW.m _) vb_9)))) | quiet_step ((first | (go_at_call 44; first | exact Calls.in_mem (last_x ⟨3, a0 % 20, a1, a3, true⟩ (by rw [vwr_last]; unfold Vw.swap Vw.note; rw [hs.out]; simp only [hrd.out, if_true]) (MW.m _) va_9) | exact Calls.in_mem (last_x ⟨3, a0 % 20, a1, a3, true⟩ (by rw [vwr_last]; unfold Vw.swap Vw.note; rw [hs.out]; simp only [hrd.out, if_true]) (MW.m _) vb_9)) | (go_at_call 43; first | exact Calls.in_mem_same (accesses_x 1 (by rw [vwr_n]; unfold Vw.swap Vw.note; rw [hs.out]; simp only [if_true, vwr_n, hn.out]; decide +kernel) (MW.m _) va_9) | exact Calls.in_mem_same (accesses_x 1 (by rw [vwr_n]; unfold Vw.swap Vw.note; rw [hs.out]; simp only [if_true, vwr_n, hn.out]; decide +kernel) (MW.m _) vb_9))))))
      refine wpQuiet_nil ?_
      intro w' hw'
      obtain ⟨⟨w', hm'⟩, rfl⟩ := hw'
      go_wp2_with fail
      go_returns
      exact ⟨rfl, hm'.below⟩
    · have hne : (a1 == a2) = false := beq_f he
      have hs : Hid (V.swaps (a0 % 20) a2 = false) := decide_eq_false (fun q => he (hrd.out.symm.trans q.2))
      clear he
      go_enter Try.func13, Try.ntmps13
      go_wp2_with fail
      (with_reducible refine (arenaKnown hm).mono ?_)
      rintro e w1 ⟨rfl, m1⟩
      clear hm
      go_wp2_with fail
      (with_reducible refine (new_x 20 (by decide) m1).mono ?_)
      rintro e w2 ⟨a, d, h2, rfl, fa, fd, m2, va_2, k2⟩
      clear m1 k2 fa fd
      go_wp2_with fail
      (with_reducible refine (poke_is V HV.out m2 va_2).mono ?_)
      rintro e w3 ⟨rfl, h3, m3, va_3, k3⟩
      clear m2 va_2 k3
      go_wp2_with fail
      have m4 := m3.keep #[.int .i64 3, .int .i64 (a0 % 20), .int .i64 a1, .int .i64 a1, .bool false] 45
      have z4 : h3 w3.heap.size = none := m3.fresh (Nat.le_refl _)
      have b_4 := upd_same h3 w3.heap.size (#[.int .i64 3, .int .i64 (a0 % 20), .int .i64 a1, .int .i64 a1, .bool false], 45)
      have va_4 := va_3.keep (upd_other h3 (#[.int .i64 3, .int .i64 (a0 % 20), .int .i64 a1, .int .i64 a1, .bool false], 45) (va_3.apart z4).1) (upd_other h3 (#[.int .i64 3, .int .i64 (a0 % 20), .int .i64 a1, .int .i64 a1, .bool false], 45) (va_3.apart z4).2)
      generalize hg4 : upd h3 w3.heap.size (#[.int .i64 3, .int .i64 (a0 % 20), .int .i64 a1, .int .i64 a1, .bool false], 45) = h4 at *
      clear m3 z4 va_3 hg4
      go_wp2_with fail
      (with_reducible refine (swap_x false hs.out m4 va_4).mono ?_)
      rintro e w5 ⟨rfl, h5, m5, va_5, k5⟩
      have b_5 := va_4.kept k5 b_4 (by decide) (by decide)
      clear m4 va_4 k5 b_4
      have qb0 : World.cell? (w5) ⟨w3.heap.size, 0, none⟩ = some (.int .i64 3) := m5.cell b_5 0
      have rb0 := m5.free b_5 0
      have qb1 : World.cell? (w5) ⟨w3.heap.size, 1, none⟩ = some (.int .i64 (a0 % 20)) := m5.cell b_5 1
      have rb1 := m5.free b_5 1
      have qb2 : World.cell? (w5) ⟨w3.heap.size, 2, none⟩ = some (.int .i64 a1) := m5.cell b_5 2
      have rb2 := m5.free b_5 2
      have qb3 : World.cell? (w5) ⟨w3.heap.size, 3, none⟩ = some (.int .i64 (a1)) := m5.cell b_5 3
      have rb3 := m5.free b_5 3
      have qb4 : World.cell? (w5) ⟨w3.heap.size, 4, none⟩ = some (.bool false) := m5.cell b_5 4
      have rb4 := m5.free b_5 4
      go_wp2_with fail
      have m6 := (m5.set b_5 4 (.bool false)).eqv (c' := #[.int .i64 3, .int .i64 (a0 % 20), .int .i64 a1, .int .i64 (a1), .bool false]) (by simp)
      have b_6 := upd_same h5 (w3.heap.size) (#[.int .i64 3, .int .i64 (a0 % 20), .int .i64 a1, .int .i64 (a1), .bool false], 45)
      have va_6 := va_5.keep (upd_other h5 (#[.int .i64 3, .int .i64 (a0 % 20), .int .i64 a1, .int .i64 (a1), .bool false], 45) (Ne.symm (va_5.ne_ty b_5 (by decide) (by decide)).1)) (upd_other h5 (#[.int .i64 3, .int .i64 (a0 % 20), .int .i64 a1, .int .i64 (a1), .bool false], 45) (Ne.symm (va_5.ne_ty b_5 (by decide) (by decide)).2))
      generalize hg6 : upd h5 (w3.heap.size) (#[.int .i64 3, .int .i64 (a0 % 20), .int .i64 a1, .int .i64 (a1), .bool false], 45) = h6 at *
      clear m5 b_5 va_5 hg6
      clear qb0 qb1 qb2 qb3 qb4 rb0 rb1 rb2 rb3 rb4
      go_wp2_with fail
      (with_reducible refine (peek_v a d _ _ m6 va_6).mono ?_)
      rintro e w' ⟨rfl, rfl⟩
      go_wp2_with fail
      (with_reducible refine (poke_v a d _ _ 5 m6 va_6).mono ?_)
      rintro e w7 ⟨rfl, h7, m7, va_7, k7⟩
      have b_7 := va_6.kept k7 b_6 (by decide) (by decide)
      clear m6 va_6 k7 b_6
      go_wp2_with fail
      (with_reducible refine (copy_v a d _ m7 va_7).mono ?_)
      rintro e w8 ⟨e, g, h8, rfl, fe, fg, m8, vb_8, k8⟩
      obtain ⟨a_e, d_e⟩ := va_7.apart fe
      obtain ⟨a_g, d_g⟩ := va_7.apart fg
      have e_a := Ne.symm a_e
      have e_d := Ne.symm d_e
      have g_a := Ne.symm a_g
      have g_d := Ne.symm d_g
      have va_8 := va_7.other k8 a_e a_g d_e d_g
      have b_8 := (k8 _ (ne_of_none b_7 fe) (ne_of_none b_7 fg)).trans b_7
      clear m7 k8 va_7 b_7 fe fg
      go_wp2_with fail
      have q0 : ∀ x : MW w h8, x.w.cell? ⟨w3.heap.size, 0, none⟩ = some (.int .i64 3) := fun x => x.m.cell b_8 0
      have q1 : ∀ x : MW w h8, x.w.cell? ⟨w3.heap.size, 1, none⟩ = some (.int .i64 (a0 % 20)) := fun x => x.m.cell b_8 1
      have q2 : ∀ x : MW w h8, x.w.cell? ⟨w3.heap.size, 2, none⟩ = some (.int .i64 a1) := fun x => x.m.cell b_8 2
      have q3 : ∀ x : MW w h8, x.w.cell? ⟨w3.heap.size, 3, none⟩ = some (.int .i64 (a1)) := fun x => x.m.cell b_8 3
      have q4 : ∀ x : MW w h8, x.w.cell? ⟨w3.heap.size, 4, none⟩ = some (.bool false) := fun x => x.m.cell b_8 4
      have hne : Nonempty (MW w h8) := ⟨⟨_, m8⟩⟩
      refine region_mem (by kernel_rfl) (by kernel_rfl) m8 ?_
      repeat (any_goals (first | go_big_quiet_step ((first | (go_at_call 44; first | exact Calls.in_mem (last_x ⟨3, a0 % 20, a1, a1, false⟩ (by rw [vwr_last]; unfold Vw.swap Vw.note; rw [hs.out]; simp [hrd.out]) (MW.m _) va_8) | exact Calls.in_mem (last_x ⟨3, a0 % 20, a1, a1, false⟩ (by rw [vwr_last]; unfold Vw.swap Vw.note; rw [hs.out]; simp [hrd.out]) (MW.m _) vb_8)) | (go_at_call 43; first | exact Calls.in_mem_same (accesses_x 1 (by rw [vwr_n]; unfold Vw.swap Vw.note; rw [hs.out]; simp only [Bool.false_eq_true, if_false, hn.out]; decide +kernel) (MW.m _) va_8) | exact Calls.in_mem_same (accesses_x 1 (by rw [vwr_n]; unfold Vw.swap Vw.note; rw [hs.out]; simp only [Bool.false_eq_true, if_false, hn.out]; decide +kernel) (MW.m _) vb_8)))) | quiet_step ((first | (go_at_call 44; first | exact Calls.in_mem (last_x ⟨3, a0 % 20, a1, a1, false⟩ (by rw [vwr_last]; unfold Vw.swap Vw.note; rw [hs.out]; simp [hrd.out]) (MW.m _) va_8) | exact Calls.in_mem (last_x ⟨3, a0 % 20, a1, a1, false⟩ (by rw [vwr_last]; unfold Vw.swap Vw.note; rw [hs.out]; simp [hrd.out]) (MW.m _) vb_8)) | (go_at_call 43; first | exact Calls.in_mem_same (accesses_x 1 (by rw [vwr_n]; unfold Vw.swap Vw.note; rw [hs.out]; simp only [Bool.false_eq_true, if_false, hn.out]; decide +kernel) (MW.m _) va_8) | exact Calls.in_mem_same (accesses_x 1 (by rw [vwr_n]; unfold Vw.swap Vw.note; rw [hs.out]; simp only [Bool.false_eq_true, if_false, hn.out]; decide +kernel) (MW.m _) vb_8))))))
      refine wpQuiet_nil ?_
      intro w' hw'
      obtain ⟨⟨w', hm'⟩, rfl⟩ := hw'
      go_wp2_with fail
      go_returns
      exact ⟨rfl, hm'.below⟩
  · go_enter Try.func13, Try.ntmps13
    go_wp2_with fail
    (with_reducible refine (arenaKnown hm).mono ?_)
    rintro e w1 ⟨rfl, m1⟩
    clear hm
    go_wp2_with fail
    (with_reducible refine (new_x 20 (by decide) m1).mono ?_)
    rintro e w2 ⟨a, d, h2, rfl, fa, fd, m2, va_2, k2⟩
    clear m1 k2 fa fd
    go_wp2_with fail
    (with_reducible refine (poke_is V HV.out m2 va_2).mono ?_)
    rintro e w3 ⟨rfl, h3, m3, va_3, k3⟩
    clear m2 va_2 k3
    go_wp2_with fail
    have m4 := m3.keep #[.int .i64 4, .int .i64 (a0 % 20), .int .i64 a1, .int .i64 a1, .bool false] 45
    have z4 : h3 w3.heap.size = none := m3.fresh (Nat.le_refl _)
    have b_4 := upd_same h3 w3.heap.size (#[.int .i64 4, .int .i64 (a0 % 20), .int .i64 a1, .int .i64 a1, .bool false], 45)
    have va_4 := va_3.keep (upd_other h3 (#[.int .i64 4, .int .i64 (a0 % 20), .int .i64 a1, .int .i64 a1, .bool false], 45) (va_3.apart z4).1) (upd_other h3 (#[.int .i64 4, .int .i64 (a0 % 20), .int .i64 a1, .int .i64 a1, .bool false], 45) (va_3.apart z4).2)
    generalize hg4 : upd h3 w3.heap.size (#[.int .i64 4, .int .i64 (a0 % 20), .int .i64 a1, .int .i64 a1, .bool false], 45) = h4 at *
    clear m3 z4 va_3 hg4
    go_wp2_with fail
    (with_reducible refine (add_x a1 hrd.out m4 va_4).mono ?_)
    rintro e w5 ⟨rfl, h5, m5, va_5, k5⟩
    have b_5 := va_4.kept k5 b_4 (by decide) (by decide)
    clear m4 va_4 k5 b_4
    have qb0 : World.cell? (w5) ⟨w3.heap.size, 0, none⟩ = some (.int .i64 4) := m5.cell b_5 0
    have rb0 := m5.free b_5 0
    have qb1 : World.cell? (w5) ⟨w3.heap.size, 1, none⟩ = some (.int .i64 (a0 % 20)) := m5.cell b_5 1
    have rb1 := m5.free b_5 1
    have qb2 : World.cell? (w5) ⟨w3.heap.size, 2, none⟩ = some (.int .i64 a1) := m5.cell b_5 2
    have rb2 := m5.free b_5 2
    have qb3 : World.cell? (w5) ⟨w3.heap.size, 3, none⟩ = some (.int .i64 (a1)) := m5.cell b_5 3
    have rb3 := m5.free b_5 3
    have qb4 : World.cell? (w5) ⟨w3.heap.size, 4, none⟩ = some (.bool false) := m5.cell b_5 4
    have rb4 := m5.free b_5 4
    go_wp2_with fail
    have m6 := (m5.set b_5 3 (.int .i64 (wrap64 (a1 + a2)))).eqv (c' := #[.int .i64 4, .int .i64 (a0 % 20), .int .i64 a1, .int .i64 (wrap64 (a1 + a2)), .bool false]) (by simp)
    have b_6 := upd_same h5 (w3.heap.size) (#[.int .i64 4, .int .i64 (a0 % 20), .int .i64 a1, .int .i64 (wrap64 (a1 + a2)), .bool false], 45)
    have va_6 := va_5.keep (upd_other h5 (#[.int .i64 4, .int .i64 (a0 % 20), .int .i64 a1, .int .i64 (wrap64 (a1 + a2)), .bool false], 45) (Ne.symm (va_5.ne_ty b_5 (by decide) (by decide)).1)) (upd_other h5 (#[.int .i64 4, .int .i64 (a0 % 20), .int .i64 a1, .int .i64 (wrap64 (a1 + a2)), .bool false], 45) (Ne.symm (va_5.ne_ty b_5 (by decide) (by decide)).2))
    generalize hg6 : upd h5 (w3.heap.size) (#[.int .i64 4, .int .i64 (a0 % 20), .int .i64 a1, .int .i64 (wrap64 (a1 + a2)), .bool false], 45) = h6 at *
    clear m5 b_5 va_5 hg6
    clear qb0 qb1 qb2 qb3 qb4 rb0 rb1 rb2 rb3 rb4
    go_wp2_with fail
    (with_reducible refine (peek_v a d _ _ m6 va_6).mono ?_)
    rintro e w' ⟨rfl, rfl⟩
    go_wp2_with fail
    (with_reducible refine (poke_v a d _ _ 5 m6 va_6).mono ?_)
    rintro e w7 ⟨rfl, h7, m7, va_7, k7⟩
    have b_7 := va_6.kept k7 b_6 (by decide) (by decide)
    clear m6 va_6 k7 b_6
    go_wp2_with fail
    (with_reducible refine (copy_v a d _ m7 va_7).mono ?_)
    rintro e w8 ⟨e, g, h8, rfl, fe, fg, m8, vb_8, k8⟩
    obtain ⟨a_e, d_e⟩ := va_7.apart fe
    obtain ⟨a_g, d_g⟩ := va_7.apart fg
    have e_a := Ne.symm a_e
    have e_d := Ne.symm d_e
    have g_a := Ne.symm a_g
    have g_d := Ne.symm d_g
    have va_8 := va_7.other k8 a_e a_g d_e d_g
    have b_8 := (k8 _ (ne_of_none b_7 fe) (ne_of_none b_7 fg)).trans b_7
    clear m7 k8 va_7 b_7 fe fg
    go_wp2_with fail
    have q0 : ∀ x : MW w h8, x.w.cell? ⟨w3.heap.size, 0, none⟩ = some (.int .i64 4) := fun x => x.m.cell b_8 0
    have q1 : ∀ x : MW w h8, x.w.cell? ⟨w3.heap.size, 1, none⟩ = some (.int .i64 (a0 % 20)) := fun x => x.m.cell b_8 1
    have q2 : ∀ x : MW w h8, x.w.cell? ⟨w3.heap.size, 2, none⟩ = some (.int .i64 a1) := fun x => x.m.cell b_8 2
    have q3 : ∀ x : MW w h8, x.w.cell? ⟨w3.heap.size, 3, none⟩ = some (.int .i64 (wrap64 (a1 + a2))) := fun x => x.m.cell b_8 3
    have q4 : ∀ x : MW w h8, x.w.cell? ⟨w3.heap.size, 4, none⟩ = some (.bool false) := fun x => x.m.cell b_8 4
    have hne : Nonempty (MW w h8) := ⟨⟨_, m8⟩⟩
    refine region_mem (by kernel_rfl) (by kernel_rfl) m8 ?_
    repeat (any_goals (first | go_big_quiet_step ((first | (go_at_call 44; first | exact Calls.in_mem (last_x ⟨4, a0 % 20, a1, wrap64 (a1 + a2), false⟩ (by rw [vwr_last]; unfold Vw.add Vw.note; simp only [hrd.out, if_pos hin.out]) (MW.m _) va_8) | exact Calls.in_mem (last_x ⟨4, a0 % 20, a1, wrap64 (a1 + a2), false⟩ (by rw [vwr_last]; unfold Vw.add Vw.note; simp only [hrd.out, if_pos hin.out]) (MW.m _) vb_8)) | (go_at_call 43; first | exact Calls.in_mem_same (accesses_x 1 (by rw [vwr_n]; unfold Vw.add Vw.note; simp only [vwr_n, hn.out]; decide +kernel) (MW.m _) va_8) | exact Calls.in_mem_same (accesses_x 1 (by rw [vwr_n]; unfold Vw.add Vw.note; simp only [vwr_n, hn.out]; decide +kernel) (MW.m _) vb_8)))) | quiet_step ((first | (go_at_call 44; first | exact Calls.in_mem (last_x ⟨4, a0 % 20, a1, wrap64 (a1 + a2), false⟩ (by rw [vwr_last]; unfold Vw.add Vw.note; simp only [hrd.out, if_pos hin.out]) (MW.m _) va_8) | exact Calls.in_mem (last_x ⟨4, a0 % 20, a1, wrap64 (a1 + a2), false⟩ (by rw [vwr_last]; unfold Vw.add Vw.note; simp only [hrd.out, if_pos hin.out]) (MW.m _) vb_8)) | (go_at_call 43; first | exact Calls.in_mem_same (accesses_x 1 (by rw [vwr_n]; unfold Vw.add Vw.note; simp only [vwr_n, hn.out]; decide +kernel) (MW.m _) va_8) | exact Calls.in_mem_same (accesses_x 1 (by rw [vwr_n]; unfold Vw.add Vw.note; simp only [vwr_n, hn.out]; decide +kernel) (MW.m _) vb_8))))))
    refine wpQuiet_nil ?_
    intro w' hw'
    obtain ⟨⟨w', hm'⟩, rfl⟩ := hw'
    go_wp2_with fail
    go_returns
    exact ⟨rfl, hm'.below⟩

end Go.Proofs.Ytceliebbpkgifaa
