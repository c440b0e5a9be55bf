/- The walk of ArenaPlays: the program's arena and the document's, side by side. -/
import Derived.Test.YtceliebbpkgifaaAren5
import Derived.Test.YtceliebbpkgifaaRef1
import Derived.Test.YtceliebbpkgifaaRead
import Derived.Deep.RegionHeld3
namespace Go.Proofs.Ytceliebbpkgifaa
open Go.RowKit

theorem vadd_len (V : Vw) (i n : Int) : (V.add i n).ws.length = V.ws.length := by show (V.wr i _).ws.length = _; simp
theorem vstore_len (V : Vw) (i n : Int) : (V.store i n).ws.length = V.ws.length := by show (V.wr i _).ws.length = _; simp
theorem vswap_len (V : Vw) (i o n : Int) : (V.swap i o n).ws.length = V.ws.length := by
  show (if V.swaps i o then V.wr i n else V).ws.length = _
  split <;> simp

set_option maxRecDepth 100000 in
set_option maxHeartbeats 8000000 in
theorem arenaPlays_walk (w : World) (a0 : Int) (a1 : Option Addr) (len1 cap1 : Nat) (z1 : Nat → Nat → Int) (_w0 : (Lit.int .i64 a0).wf = true) (w1 : IsTab 4 w a1 len1 z1) :
    Calls Try.prog 8 #[.int .i64 a0, .slice a1 len1 cap1] w fun e w' => e = .returned (.bool true) ∧ Below w.heap.size w w' := by
  have hm := Mem.start w
  by_cases hbig : 60 < len1
  · have hbig' : (60 : Int) < (len1 : Int) := by omega
    clear w1
    go_enter Try.func8, Try.ntmps8
    go_wp2_with (go_at_call 28; (with_reducible refine (arenaKnown hm).mono ?_); rintro e w' ⟨rfl, hm'⟩)
    go_returns
    exact ⟨rfl, hm'.below⟩
  have hlen : ¬ (60 : Int) < (len1 : Int) := by omega
  by_cases hw : 300 < a0
  · clear w1
    go_enter Try.func8, Try.ntmps8
    go_wp2_with (go_at_call 28; (with_reducible refine (arenaKnown hm).mono ?_); rintro e w' ⟨rfl, hm'⟩)
    go_returns
    exact ⟨rfl, hm'.below⟩
  obtain ⟨nw, hnw⟩ : ∃ nw, (clamp a0 1 20000).toNat = nw := ⟨_, rfl⟩
  have nw2 : nw ≤ 20000 := by have := @clamp_hi a0 1 20000; omega
  have NW := Lib.hid hnw
  have T1 := Lib.hid w1
  clear hnw w1
  go_enter Try.func8, Try.ntmps8
  go_wp2_with fail
  (with_reducible refine (arenaKnown hm).mono ?_)
  rintro e w1 ⟨rfl, m1⟩
  clear hm
  go_wp2_with fail
  (with_reducible refine (new_x nw NW.out m1).mono ?_)
  rintro e w2 ⟨a, d, h2, rfl, fa, fd, m2, va_2, k2⟩
  clear m1 k2 fa fd
  go_wp2_with fail
  (with_reducible refine (rnew_x nw NW.out m2).mono ?_)
  rintro e w3 ⟨r, c, h3, rfl, fr, fc, m3, vr_3, k3⟩
  obtain ⟨a_r, d_r⟩ := va_2.apart fr
  obtain ⟨a_c, d_c⟩ := va_2.apart fc
  have r_a := Ne.symm a_r
  have r_d := Ne.symm d_r
  have c_a := Ne.symm a_c
  have c_d := Ne.symm d_c
  have va_3 := va_2.other k3 a_r a_c d_r d_c
  clear m2 k3 va_2 fr fc
  go_wp2_with fail
  go_loopw [7] (fun i wr => ∃ (j : Nat), j ≤ len1 ∧ i = .int .i64 j ∧ ∃ h' V, Mem w h' wr ∧ IsV h' a d V ∧ IsR h' r c V ∧ Hid (V.ws.length = nw)) (fun i _ => len1 - (intOf i).toNat)
  case atStart => exact ⟨0, by omega, rfl, _, _, m3, va_3, vr_3, by show _ = _; simp [Vw.fresh]⟩
  case round =>
    obtain ⟨j, hj, rfl, hs, V, ms, vs, rs, VL⟩ := hrel
    clear m3 va_3 vr_3
    by_cases hlt : j < len1
    · obtain ⟨b, off, rfl, hc⟩ := T1.out j hlt
      obtain ⟨q0, e0⟩ : ∃ q, z1 j 0 = q := ⟨_, rfl⟩
      obtain ⟨q1, e1⟩ : ∃ q, z1 j 1 = q := ⟨_, rfl⟩
      obtain ⟨q2, e2⟩ : ∃ q, z1 j 2 = q := ⟨_, rfl⟩
      obtain ⟨q3, e3⟩ : ∃ q, z1 j 3 = q := ⟨_, rfl⟩
      have g0 := (hc 0 (by omega)).1
      have g1 := (hc 1 (by omega)).1
      have g2 := (hc 2 (by omega)).1
      have g3 := (hc 3 (by omega)).1
      rw [e0, Nat.add_zero] at g0
      rw [e1] at g1
      rw [e2] at g2
      rw [e3] at g3
      have hb := World.block_lt_of_cell? w _ g0
      have G0 := (ms.below.cell (p := ⟨b, off + j * 4, none⟩) hb).trans g0
      have G1 := (ms.below.cell (p := ⟨b, off + j * 4 + 1, none⟩) hb).trans g1
      have G2 := (ms.below.cell (p := ⟨b, off + j * 4 + 2, none⟩) hb).trans g2
      have G3 := (ms.below.cell (p := ⟨b, off + j * 4 + 3, none⟩) hb).trans g3
      clear hc e0 e1 e2 e3 g0 g1 g2 g3
      by_cases c0 : q0 = 0
      · subst c0
        go_wp2_with fail
        have m101 := ms.keep #[.int .i64 0, .int .i64 q1, .int .i64 q2, .int .i64 q3] 39
        have z101 : hs wr.heap.size = none := ms.fresh (Nat.le_refl _)
        have b_101 := upd_same hs wr.heap.size (#[.int .i64 0, .int .i64 q1, .int .i64 q2, .int .i64 q3], 39)
        have vs_101 := vs.keep (upd_other hs (#[.int .i64 0, .int .i64 q1, .int .i64 q2, .int .i64 q3], 39) (vs.apart z101).1) (upd_other hs (#[.int .i64 0, .int .i64 q1, .int .i64 q2, .int .i64 q3], 39) (vs.apart z101).2)
        have rs_101 := rs.keep (upd_other hs (#[.int .i64 0, .int .i64 q1, .int .i64 q2, .int .i64 q3], 39) (rs.apart z101).1) (upd_other hs (#[.int .i64 0, .int .i64 q1, .int .i64 q2, .int .i64 q3], 39) (rs.apart z101).2)
        generalize hg101 : upd hs wr.heap.size (#[.int .i64 0, .int .i64 q1, .int .i64 q2, .int .i64 q3], 39) = h101 at *
        clear ms z101 vs rs hg101
        go_region_held3 (fun w' => w'.cell? ⟨wr.heap.size, 1, none⟩ = some (.int .i64 q1)) (first | exact (m101.drew).cell b_101 1 | exact mA102.cell bA102 1 | exact mA103.cell bA103 1) (first | (go_at_call 31; refine (load_v a d _ _ (m101.drew) vs_101).mono ?_; rintro e wA102 ⟨rfl, hA102, mA102, vA102, kA102⟩; have rA102 := rs_101.other kA102 r_a r_d c_a c_d; have bA102 := vs_101.kept kA102 b_101 (by decide) (by decide)) | (go_at_call 32; refine (rload_v _ mA102 rA102).mono ?_; rintro e wA103 ⟨rfl, hA103, mA103, rA103, kA103⟩; have vA103 := vA102.other kA103 a_r a_c d_r d_c; have bA103 := rA102.kept kA103 bA102 (by decide) (by decide)))
        clear m101 vs_101 rs_101 b_101 kA102 rA102 vA102 bA102 mA102 kA103
        generalize hV2 : V.load q1 = V2 at *
        have VL2 : Hid (V2.ws.length = nw) := by rw [← hV2]; show _ = _; exact VL.out
        clear hV2
        obtain ⟨cap2, tl2, hx⟩ := rA103
        have rz : IsR hA103 r c V2 := ⟨cap2, tl2, hx⟩
        have N0 : ∀ x : MW w hA103, x.w.cell? ⟨r, 0, none⟩ = some (.slice (some ⟨c, 0, none⟩) V2.ws.length cap2) := fun x => x.m.cell hx.at_r 0
        have N1 : ∀ x : MW w hA103, x.w.cell? ⟨r, 1, none⟩ = some (.int .i64 (wrap64 V2.n)) := fun x => x.m.cell hx.at_r 1
        have N2 : ∀ x : MW w hA103, x.w.cell? ⟨r, 2, none⟩ = some (.int .i64 V2.last.kind) := fun x => x.m.cell hx.at_r 2
        have N3 : ∀ x : MW w hA103, x.w.cell? ⟨r, 3, none⟩ = some (.int .i64 V2.last.pos) := fun x => x.m.cell hx.at_r 3
        have N4 : ∀ x : MW w hA103, x.w.cell? ⟨r, 4, none⟩ = some (.int .i64 V2.last.old) := fun x => x.m.cell hx.at_r 4
        have N5 : ∀ x : MW w hA103, x.w.cell? ⟨r, 5, none⟩ = some (.int .i64 V2.last.new) := fun x => x.m.cell hx.at_r 5
        have N6 : ∀ x : MW w hA103, x.w.cell? ⟨r, 6, none⟩ = some (.bool V2.last.ok) := fun x => x.m.cell hx.at_r 6
        have hne : Nonempty (MW w hA103) := ⟨⟨_, mA103⟩⟩
        go_wp2_with fail
        refine region_mem (by kernel_rfl) (by kernel_rfl) mA103 ?_
        repeat (any_goals (first | go_big_quiet_step ((first | (go_at_call 43; exact Calls.in_mem_same (accesses_v a d _ (MW.m _) vA103)) | (go_at_call 44; exact Calls.in_mem (last_v a d _ (MW.m _) vA103)) | (go_at_call 45; exact Calls.in_mem_same (len_v a d _ (MW.m _) vA103)))) | quiet_step ((first | (go_at_call 43; exact Calls.in_mem_same (accesses_v a d _ (MW.m _) vA103)) | (go_at_call 44; exact Calls.in_mem (last_v a d _ (MW.m _) vA103)) | (go_at_call 45; exact Calls.in_mem_same (len_v a d _ (MW.m _) vA103))))))
        refine wpQuiet_nil ?_
        intro w' hw'
        obtain ⟨⟨wz, mz⟩, rfl⟩ := hw'
        go_wp2_with fail
        go_loopw [9] (fun i wr => ∃ (k : Nat), k ≤ nw ∧ i = .int .i64 k ∧ Mem w hA103 wr) (fun i _ => nw - (intOf i).toNat)
        case atStart => exact ⟨0, by omega, rfl, mz⟩
        case round =>
          obtain ⟨k, hk, rfl, mk⟩ := hrel
          clear mz
          have L1 : (V2.ws.length : Int) ≤ nw := by have := VL2.out; omega
          have L2 : (nw : Int) ≤ V2.ws.length := by have := VL2.out; omega
          have Q0 : World.cell? (_) ⟨r, 0, none⟩ = some (.slice (some ⟨c, 0, none⟩) V2.ws.length cap2) := mk.cell hx.at_r 0
          by_cases hlt2 : k < nw
          · have Qk : ∀ x : MW w hA103, x.w.cell? ⟨c, k, none⟩ = some (.int .i64 (V2.rd k)) := fun x => (x.m.cell hx.at_c k).trans (by
              have hk2 : k < V2.ws.length := by omega
              show (encW _ _)[k]? = _
              rw [encW_get _ hk2]
              unfold Vw.rd
              rw [if_pos ⟨by omega, by omega⟩]; simp)
            go_wp2_with fail
            refine region_mem (by kernel_rfl) (by kernel_rfl) mk ?_
            repeat (any_goals (first | go_big_quiet_step (((go_at_call 39; exact Calls.in_mem_same (peek_v a d _ _ (MW.m _) vA103)))) | quiet_step (((go_at_call 39; exact Calls.in_mem_same (peek_v a d _ _ (MW.m _) vA103))))))
            refine wpQuiet_nil ?_
            intro w' hw'
            obtain ⟨⟨wz, mz⟩, rfl⟩ := hw'
            go_wp2
            go_roundw
            case rel => exact ⟨k + 1, by omega, by go_num, mz⟩
            case measure => simp [intOf]; omega
          · go_wp2
            go_roundw
            case rel => exact ⟨j + 1, by omega, by go_num, _, V2, mk, vA103, rz, VL2⟩
            case measure => simp [intOf]; omega
      · have n0 : (q0 == 0) = false := beq_f c0
        by_cases c1 : q0 = 1
        · subst c1
          go_wp2_with fail
          have m101 := ms.keep #[.int .i64 1, .int .i64 q1, .int .i64 q2, .int .i64 q3] 39
          have z101 : hs wr.heap.size = none := ms.fresh (Nat.le_refl _)
          have b_101 := upd_same hs wr.heap.size (#[.int .i64 1, .int .i64 q1, .int .i64 q2, .int .i64 q3], 39)
          have vs_101 := vs.keep (upd_other hs (#[.int .i64 1, .int .i64 q1, .int .i64 q2, .int .i64 q3], 39) (vs.apart z101).1) (upd_other hs (#[.int .i64 1, .int .i64 q1, .int .i64 q2, .int .i64 q3], 39) (vs.apart z101).2)
          have rs_101 := rs.keep (upd_other hs (#[.int .i64 1, .int .i64 q1, .int .i64 q2, .int .i64 q3], 39) (rs.apart z101).1) (upd_other hs (#[.int .i64 1, .int .i64 q1, .int .i64 q2, .int .i64 q3], 39) (rs.apart z101).2)
          generalize hg101 : upd hs wr.heap.size (#[.int .i64 1, .int .i64 q1, .int .i64 q2, .int .i64 q3], 39) = h101 at *
          clear ms z101 vs rs hg101
          go_wp2_with fail
          (with_reducible refine (store_v a d _ q1 q2 m101 vs_101).mono ?_)
          rintro e wA102 ⟨rfl, hA102, mA102, vA102, kA102⟩
          have rA102 := rs_101.other kA102 r_a r_d c_a c_d
          have bA102 := vs_101.kept kA102 b_101 (by decide) (by decide)
          clear m101 vs_101 rs_101 b_101 kA102
          have Z1 : wA102.cell? ⟨wr.heap.size, 1, none⟩ = some (.int .i64 q1) := mA102.cell bA102 1
          have Z2 : wA102.cell? ⟨wr.heap.size, 2, none⟩ = some (.int .i64 q2) := mA102.cell bA102 2
          go_wp2_with fail
          (with_reducible refine (rstore_v q1 q2 mA102 rA102).mono ?_)
          rintro e wB102 ⟨rfl, hB102, mB102, rB102, kB102⟩
          have vB102 := vA102.other kB102 a_r a_c d_r d_c
          clear Z1 Z2 mA102 rA102 vA102 bA102 kB102
          generalize hV2 : V.store q1 q2 = V2 at *
          have VL2 : Hid (V2.ws.length = nw) := by rw [← hV2]; show _ = _; rw [vstore_len]; exact VL.out
          clear hV2
          obtain ⟨cap2, tl2, hx⟩ := rB102
          have rz : IsR hB102 r c V2 := ⟨cap2, tl2, hx⟩
          have N0 : ∀ x : MW w hB102, x.w.cell? ⟨r, 0, none⟩ = some (.slice (some ⟨c, 0, none⟩) V2.ws.length cap2) := fun x => x.m.cell hx.at_r 0
          have N1 : ∀ x : MW w hB102, x.w.cell? ⟨r, 1, none⟩ = some (.int .i64 (wrap64 V2.n)) := fun x => x.m.cell hx.at_r 1
          have N2 : ∀ x : MW w hB102, x.w.cell? ⟨r, 2, none⟩ = some (.int .i64 V2.last.kind) := fun x => x.m.cell hx.at_r 2
          have N3 : ∀ x : MW w hB102, x.w.cell? ⟨r, 3, none⟩ = some (.int .i64 V2.last.pos) := fun x => x.m.cell hx.at_r 3
          have N4 : ∀ x : MW w hB102, x.w.cell? ⟨r, 4, none⟩ = some (.int .i64 V2.last.old) := fun x => x.m.cell hx.at_r 4
          have N5 : ∀ x : MW w hB102, x.w.cell? ⟨r, 5, none⟩ = some (.int .i64 V2.last.new) := fun x => x.m.cell hx.at_r 5
          have N6 : ∀ x : MW w hB102, x.w.cell? ⟨r, 6, none⟩ = some (.bool V2.last.ok) := fun x => x.m.cell hx.at_r 6
          have hne : Nonempty (MW w hB102) := ⟨⟨_, mB102⟩⟩
          go_wp2_with fail
          refine region_mem (by kernel_rfl) (by kernel_rfl) mB102 ?_
          repeat (any_goals (first | go_big_quiet_step ((first | (go_at_call 43; exact Calls.in_mem_same (accesses_v a d _ (MW.m _) vB102)) | (go_at_call 44; exact Calls.in_mem (last_v a d _ (MW.m _) vB102)) | (go_at_call 45; exact Calls.in_mem_same (len_v a d _ (MW.m _) vB102)))) | quiet_step ((first | (go_at_call 43; exact Calls.in_mem_same (accesses_v a d _ (MW.m _) vB102)) | (go_at_call 44; exact Calls.in_mem (last_v a d _ (MW.m _) vB102)) | (go_at_call 45; exact Calls.in_mem_same (len_v a d _ (MW.m _) vB102))))))
          refine wpQuiet_nil ?_
          intro w' hw'
          obtain ⟨⟨wz, mz⟩, rfl⟩ := hw'
          go_wp2_with fail
          go_loopw [9] (fun i wr => ∃ (k : Nat), k ≤ nw ∧ i = .int .i64 k ∧ Mem w hB102 wr) (fun i _ => nw - (intOf i).toNat)
          case atStart => exact ⟨0, by omega, rfl, mz⟩
          case round =>
            obtain ⟨k, hk, rfl, mk⟩ := hrel
            clear mz
            have L1 : (V2.ws.length : Int) ≤ nw := by have := VL2.out; omega
            have L2 : (nw : Int) ≤ V2.ws.length := by have := VL2.out; omega
            have Q0 : World.cell? (_) ⟨r, 0, none⟩ = some (.slice (some ⟨c, 0, none⟩) V2.ws.length cap2) := mk.cell hx.at_r 0
            by_cases hlt2 : k < nw
            · have Qk : ∀ x : MW w hB102, x.w.cell? ⟨c, k, none⟩ = some (.int .i64 (V2.rd k)) := fun x => (x.m.cell hx.at_c k).trans (by
                have hk2 : k < V2.ws.length := by omega
                show (encW _ _)[k]? = _
                rw [encW_get _ hk2]
                unfold Vw.rd
                rw [if_pos ⟨by omega, by omega⟩]; simp)
              go_wp2_with fail
              refine region_mem (by kernel_rfl) (by kernel_rfl) mk ?_
              repeat (any_goals (first | go_big_quiet_step (((go_at_call 39; exact Calls.in_mem_same (peek_v a d _ _ (MW.m _) vB102)))) | quiet_step (((go_at_call 39; exact Calls.in_mem_same (peek_v a d _ _ (MW.m _) vB102))))))
              refine wpQuiet_nil ?_
              intro w' hw'
              obtain ⟨⟨wz, mz⟩, rfl⟩ := hw'
              go_wp2
              go_roundw
              case rel => exact ⟨k + 1, by omega, by go_num, mz⟩
              case measure => simp [intOf]; omega
            · go_wp2
              go_roundw
              case rel => exact ⟨j + 1, by omega, by go_num, _, V2, mk, vB102, rz, VL2⟩
              case measure => simp [intOf]; omega
        · have n1 : (q0 == 1) = false := beq_f c1
          by_cases c2 : q0 = 2
          · subst c2
            go_wp2_with fail
            have m101 := ms.keep #[.int .i64 2, .int .i64 q1, .int .i64 q2, .int .i64 q3] 39
            have z101 : hs wr.heap.size = none := ms.fresh (Nat.le_refl _)
            have b_101 := upd_same hs wr.heap.size (#[.int .i64 2, .int .i64 q1, .int .i64 q2, .int .i64 q3], 39)
            have vs_101 := vs.keep (upd_other hs (#[.int .i64 2, .int .i64 q1, .int .i64 q2, .int .i64 q3], 39) (vs.apart z101).1) (upd_other hs (#[.int .i64 2, .int .i64 q1, .int .i64 q2, .int .i64 q3], 39) (vs.apart z101).2)
            have rs_101 := rs.keep (upd_other hs (#[.int .i64 2, .int .i64 q1, .int .i64 q2, .int .i64 q3], 39) (rs.apart z101).1) (upd_other hs (#[.int .i64 2, .int .i64 q1, .int .i64 q2, .int .i64 q3], 39) (rs.apart z101).2)
            generalize hg101 : upd hs wr.heap.size (#[.int .i64 2, .int .i64 q1, .int .i64 q2, .int .i64 q3], 39) = h101 at *
            clear ms z101 vs rs hg101
            go_region_held3 (fun w' => w'.cell? ⟨wr.heap.size, 1, none⟩ = some (.int .i64 q1) ∧ w'.cell? ⟨wr.heap.size, 2, none⟩ = some (.int .i64 q2) ∧ w'.cell? ⟨wr.heap.size, 3, none⟩ = some (.int .i64 q3)) (first | exact ⟨(m101.drew).cell b_101 1, (m101.drew).cell b_101 2, (m101.drew).cell b_101 3⟩ | exact ⟨mA102.cell bA102 1, mA102.cell bA102 2, mA102.cell bA102 3⟩ | exact ⟨mA103.cell bA103 1, mA103.cell bA103 2, mA103.cell bA103 3⟩) (first | (go_at_call 35; refine (swap_v a d _ _ _ _ (m101.drew) vs_101).mono ?_; rintro e wA102 ⟨rfl, hA102, mA102, vA102, kA102⟩; have rA102 := rs_101.other kA102 r_a r_d c_a c_d; have bA102 := vs_101.kept kA102 b_101 (by decide) (by decide)) | (go_at_call 36; refine (rswap_v _ _ _ mA102 rA102).mono ?_; rintro e wA103 ⟨rfl, hA103, mA103, rA103, kA103⟩; have vA103 := vA102.other kA103 a_r a_c d_r d_c; have bA103 := rA102.kept kA103 bA102 (by decide) (by decide)))
            clear m101 vs_101 rs_101 b_101 kA102 rA102 vA102 bA102 mA102 kA103
            generalize hV2 : V.swap q1 q2 q3 = V2 at *
            have VL2 : Hid (V2.ws.length = nw) := by rw [← hV2]; show _ = _; rw [vswap_len]; exact VL.out
            clear hV2
            obtain ⟨cap2, tl2, hx⟩ := rA103
            have rz : IsR hA103 r c V2 := ⟨cap2, tl2, hx⟩
            have N0 : ∀ x : MW w hA103, x.w.cell? ⟨r, 0, none⟩ = some (.slice (some ⟨c, 0, none⟩) V2.ws.length cap2) := fun x => x.m.cell hx.at_r 0
            have N1 : ∀ x : MW w hA103, x.w.cell? ⟨r, 1, none⟩ = some (.int .i64 (wrap64 V2.n)) := fun x => x.m.cell hx.at_r 1
            have N2 : ∀ x : MW w hA103, x.w.cell? ⟨r, 2, none⟩ = some (.int .i64 V2.last.kind) := fun x => x.m.cell hx.at_r 2
            have N3 : ∀ x : MW w hA103, x.w.cell? ⟨r, 3, none⟩ = some (.int .i64 V2.last.pos) := fun x => x.m.cell hx.at_r 3
            have N4 : ∀ x : MW w hA103, x.w.cell? ⟨r, 4, none⟩ = some (.int .i64 V2.last.old) := fun x => x.m.cell hx.at_r 4
            have N5 : ∀ x : MW w hA103, x.w.cell? ⟨r, 5, none⟩ = some (.int .i64 V2.last.new) := fun x => x.m.cell hx.at_r 5
            have N6 : ∀ x : MW w hA103, x.w.cell? ⟨r, 6, none⟩ = some (.bool V2.last.ok) := fun x => x.m.cell hx.at_r 6
            have hne : Nonempty (MW w hA103) := ⟨⟨_, mA103⟩⟩
            go_wp2_with fail
            refine region_mem (by kernel_rfl) (by kernel_rfl) mA103 ?_
            repeat (any_goals (first | go_big_quiet_step ((first | (go_at_call 43; exact Calls.in_mem_same (accesses_v a d _ (MW.m _) vA103)) | (go_at_call 44; exact Calls.in_mem (last_v a d _ (MW.m _) vA103)) | (go_at_call 45; exact Calls.in_mem_same (len_v a d _ (MW.m _) vA103)))) | quiet_step ((first | (go_at_call 43; exact Calls.in_mem_same (accesses_v a d _ (MW.m _) vA103)) | (go_at_call 44; exact Calls.in_mem (last_v a d _ (MW.m _) vA103)) | (go_at_call 45; exact Calls.in_mem_same (len_v a d _ (MW.m _) vA103))))))
            refine wpQuiet_nil ?_
            intro w' hw'
            obtain ⟨⟨wz, mz⟩, rfl⟩ := hw'
            go_wp2_with fail
            go_loopw [9] (fun i wr => ∃ (k : Nat), k ≤ nw ∧ i = .int .i64 k ∧ Mem w hA103 wr) (fun i _ => nw - (intOf i).toNat)
            case atStart => exact ⟨0, by omega, rfl, mz⟩
            case round =>
              obtain ⟨k, hk, rfl, mk⟩ := hrel
              clear mz
              have L1 : (V2.ws.length : Int) ≤ nw := by have := VL2.out; omega
              have L2 : (nw : Int) ≤ V2.ws.length := by have := VL2.out; omega
              have Q0 : World.cell? (_) ⟨r, 0, none⟩ = some (.slice (some ⟨c, 0, none⟩) V2.ws.length cap2) := mk.cell hx.at_r 0
              by_cases hlt2 : k < nw
              · have Qk : ∀ x : MW w hA103, x.w.cell? ⟨c, k, none⟩ = some (.int .i64 (V2.rd k)) := fun x => (x.m.cell hx.at_c k).trans (by
                  have hk2 : k < V2.ws.length := by omega
                  show (encW _ _)[k]? = _
                  rw [encW_get _ hk2]
                  unfold Vw.rd
                  rw [if_pos ⟨by omega, by omega⟩]; simp)
                go_wp2_with fail
                refine region_mem (by kernel_rfl) (by kernel_rfl) mk ?_
                repeat (any_goals (first | go_big_quiet_step (((go_at_call 39; exact Calls.in_mem_same (peek_v a d _ _ (MW.m _) vA103)))) | quiet_step (((go_at_call 39; exact Calls.in_mem_same (peek_v a d _ _ (MW.m _) vA103))))))
                refine wpQuiet_nil ?_
                intro w' hw'
                obtain ⟨⟨wz, mz⟩, rfl⟩ := hw'
                go_wp2
                go_roundw
                case rel => exact ⟨k + 1, by omega, by go_num, mz⟩
                case measure => simp [intOf]; omega
              · go_wp2
                go_roundw
                case rel => exact ⟨j + 1, by omega, by go_num, _, V2, mk, vA103, rz, VL2⟩
                case measure => simp [intOf]; omega
          · have n2 : (q0 == 2) = false := beq_f c2
            by_cases c3 : q0 = 3
            · subst c3
              go_wp2_with fail
              have m101 := ms.keep #[.int .i64 3, .int .i64 q1, .int .i64 q2, .int .i64 q3] 39
              have z101 : hs wr.heap.size = none := ms.fresh (Nat.le_refl _)
              have b_101 := upd_same hs wr.heap.size (#[.int .i64 3, .int .i64 q1, .int .i64 q2, .int .i64 q3], 39)
              have vs_101 := vs.keep (upd_other hs (#[.int .i64 3, .int .i64 q1, .int .i64 q2, .int .i64 q3], 39) (vs.apart z101).1) (upd_other hs (#[.int .i64 3, .int .i64 q1, .int .i64 q2, .int .i64 q3], 39) (vs.apart z101).2)
              have rs_101 := rs.keep (upd_other hs (#[.int .i64 3, .int .i64 q1, .int .i64 q2, .int .i64 q3], 39) (rs.apart z101).1) (upd_other hs (#[.int .i64 3, .int .i64 q1, .int .i64 q2, .int .i64 q3], 39) (rs.apart z101).2)
              generalize hg101 : upd hs wr.heap.size (#[.int .i64 3, .int .i64 q1, .int .i64 q2, .int .i64 q3], 39) = h101 at *
              clear ms z101 vs rs hg101
              go_region_held3 (fun w' => w'.cell? ⟨wr.heap.size, 1, none⟩ = some (.int .i64 q1) ∧ w'.cell? ⟨wr.heap.size, 2, none⟩ = some (.int .i64 q2)) (first | exact ⟨(m101.drew).cell b_101 1, (m101.drew).cell b_101 2⟩ | exact ⟨mA102.cell bA102 1, mA102.cell bA102 2⟩ | exact ⟨mA103.cell bA103 1, mA103.cell bA103 2⟩) (first | (go_at_call 37; refine (add_v a d _ _ _ (m101.drew) vs_101).mono ?_; rintro e wA102 ⟨rfl, hA102, mA102, vA102, kA102⟩; have rA102 := rs_101.other kA102 r_a r_d c_a c_d; have bA102 := vs_101.kept kA102 b_101 (by decide) (by decide)) | (go_at_call 38; refine (radd_v _ _ mA102 rA102).mono ?_; rintro e wA103 ⟨rfl, hA103, mA103, rA103, kA103⟩; have vA103 := vA102.other kA103 a_r a_c d_r d_c; have bA103 := rA102.kept kA103 bA102 (by decide) (by decide)))
              clear m101 vs_101 rs_101 b_101 kA102 rA102 vA102 bA102 mA102 kA103
              generalize hV2 : V.add q1 q2 = V2 at *
              have VL2 : Hid (V2.ws.length = nw) := by rw [← hV2]; show _ = _; rw [vadd_len]; exact VL.out
              clear hV2
              obtain ⟨cap2, tl2, hx⟩ := rA103
              have rz : IsR hA103 r c V2 := ⟨cap2, tl2, hx⟩
              have N0 : ∀ x : MW w hA103, x.w.cell? ⟨r, 0, none⟩ = some (.slice (some ⟨c, 0, none⟩) V2.ws.length cap2) := fun x => x.m.cell hx.at_r 0
              have N1 : ∀ x : MW w hA103, x.w.cell? ⟨r, 1, none⟩ = some (.int .i64 (wrap64 V2.n)) := fun x => x.m.cell hx.at_r 1
              have N2 : ∀ x : MW w hA103, x.w.cell? ⟨r, 2, none⟩ = some (.int .i64 V2.last.kind) := fun x => x.m.cell hx.at_r 2
              have N3 : ∀ x : MW w hA103, x.w.cell? ⟨r, 3, none⟩ = some (.int .i64 V2.last.pos) := fun x => x.m.cell hx.at_r 3
              have N4 : ∀ x : MW w hA103, x.w.cell? ⟨r, 4, none⟩ = some (.int .i64 V2.last.old) := fun x => x.m.cell hx.at_r 4
              have N5 : ∀ x : MW w hA103, x.w.cell? ⟨r, 5, none⟩ = some (.int .i64 V2.last.new) := fun x => x.m.cell hx.at_r 5
              have N6 : ∀ x : MW w hA103, x.w.cell? ⟨r, 6, none⟩ = some (.bool V2.last.ok) := fun x => x.m.cell hx.at_r 6
              have hne : Nonempty (MW w hA103) := ⟨⟨_, mA103⟩⟩
              go_wp2_with fail
              refine region_mem (by kernel_rfl) (by kernel_rfl) mA103 ?_
              repeat (any_goals (first | go_big_quiet_step ((first | (go_at_call 43; exact Calls.in_mem_same (accesses_v a d _ (MW.m _) vA103)) | (go_at_call 44; exact Calls.in_mem (last_v a d _ (MW.m _) vA103)) | (go_at_call 45; exact Calls.in_mem_same (len_v a d _ (MW.m _) vA103)))) | quiet_step ((first | (go_at_call 43; exact Calls.in_mem_same (accesses_v a d _ (MW.m _) vA103)) | (go_at_call 44; exact Calls.in_mem (last_v a d _ (MW.m _) vA103)) | (go_at_call 45; exact Calls.in_mem_same (len_v a d _ (MW.m _) vA103))))))
              refine wpQuiet_nil ?_
              intro w' hw'
              obtain ⟨⟨wz, mz⟩, rfl⟩ := hw'
              go_wp2_with fail
              go_loopw [9] (fun i wr => ∃ (k : Nat), k ≤ nw ∧ i = .int .i64 k ∧ Mem w hA103 wr) (fun i _ => nw - (intOf i).toNat)
              case atStart => exact ⟨0, by omega, rfl, mz⟩
              case round =>
                obtain ⟨k, hk, rfl, mk⟩ := hrel
                clear mz
                have L1 : (V2.ws.length : Int) ≤ nw := by have := VL2.out; omega
                have L2 : (nw : Int) ≤ V2.ws.length := by have := VL2.out; omega
                have Q0 : World.cell? (_) ⟨r, 0, none⟩ = some (.slice (some ⟨c, 0, none⟩) V2.ws.length cap2) := mk.cell hx.at_r 0
                by_cases hlt2 : k < nw
                · have Qk : ∀ x : MW w hA103, x.w.cell? ⟨c, k, none⟩ = some (.int .i64 (V2.rd k)) := fun x => (x.m.cell hx.at_c k).trans (by
                    have hk2 : k < V2.ws.length := by omega
                    show (encW _ _)[k]? = _
                    rw [encW_get _ hk2]
                    unfold Vw.rd
                    rw [if_pos ⟨by omega, by omega⟩]; simp)
                  go_wp2_with fail
                  refine region_mem (by kernel_rfl) (by kernel_rfl) mk ?_
                  repeat (any_goals (first | go_big_quiet_step (((go_at_call 39; exact Calls.in_mem_same (peek_v a d _ _ (MW.m _) vA103)))) | quiet_step (((go_at_call 39; exact Calls.in_mem_same (peek_v a d _ _ (MW.m _) vA103))))))
                  refine wpQuiet_nil ?_
                  intro w' hw'
                  obtain ⟨⟨wz, mz⟩, rfl⟩ := hw'
                  go_wp2
                  go_roundw
                  case rel => exact ⟨k + 1, by omega, by go_num, mz⟩
                  case measure => simp [intOf]; omega
                · go_wp2
                  go_roundw
                  case rel => exact ⟨j + 1, by omega, by go_num, _, V2, mk, vA103, rz, VL2⟩
                  case measure => simp [intOf]; omega
            · have n3 : (q0 == 3) = false := beq_f c3
              by_cases c4 : q0 = 4
              · subst c4
                go_wp2_with fail
                have m101 := ms.keep #[.int .i64 4, .int .i64 q1, .int .i64 q2, .int .i64 q3] 39
                have z101 : hs wr.heap.size = none := ms.fresh (Nat.le_refl _)
                have b_101 := upd_same hs wr.heap.size (#[.int .i64 4, .int .i64 q1, .int .i64 q2, .int .i64 q3], 39)
                have vs_101 := vs.keep (upd_other hs (#[.int .i64 4, .int .i64 q1, .int .i64 q2, .int .i64 q3], 39) (vs.apart z101).1) (upd_other hs (#[.int .i64 4, .int .i64 q1, .int .i64 q2, .int .i64 q3], 39) (vs.apart z101).2)
                have rs_101 := rs.keep (upd_other hs (#[.int .i64 4, .int .i64 q1, .int .i64 q2, .int .i64 q3], 39) (rs.apart z101).1) (upd_other hs (#[.int .i64 4, .int .i64 q1, .int .i64 q2, .int .i64 q3], 39) (rs.apart z101).2)
                generalize hg101 : upd hs wr.heap.size (#[.int .i64 4, .int .i64 q1, .int .i64 q2, .int .i64 q3], 39) = h101 at *
                clear ms z101 vs rs hg101
                have P1 : ∀ x : MW w h101, x.w.cell? ⟨wr.heap.size, 1, none⟩ = some (.int .i64 q1) := fun x => x.m.cell b_101 1
                have hne : Nonempty (MW w h101) := ⟨⟨_, m101⟩⟩
                go_wp2_with fail
                refine region_mem (by kernel_rfl) (by kernel_rfl) m101 ?_
                repeat (any_goals (first | go_big_quiet_step ((first | (go_at_call 39; exact Calls.in_mem_same (peek_v a d _ _ (MW.m _) vs_101)) | (go_at_call 40; exact Calls.in_mem_same (rpeek_v _ (MW.m _) rs_101)))) | quiet_step ((first | (go_at_call 39; exact Calls.in_mem_same (peek_v a d _ _ (MW.m _) vs_101)) | (go_at_call 40; exact Calls.in_mem_same (rpeek_v _ (MW.m _) rs_101))))))
                refine wpQuiet_nil ?_
                intro w' hw'
                obtain ⟨⟨wy, my⟩, rfl⟩ := hw'
                clear m101 P1 hne
                obtain ⟨V1, hV1⟩ : ∃ V1, V1 = V := ⟨_, rfl⟩
                rw [← hV1] at vs_101 rs_101 VL
                clear hV1
                generalize hV2 : V1 = V2 at *
                have VL2 : Hid (V2.ws.length = nw) := by rw [← hV2]; show _ = _; rw [hV2]; exact VL.out
                clear hV2
                obtain ⟨cap2, tl2, hx⟩ := rs_101
                have rz : IsR h101 r c V2 := ⟨cap2, tl2, hx⟩
                have N0 : ∀ x : MW w h101, x.w.cell? ⟨r, 0, none⟩ = some (.slice (some ⟨c, 0, none⟩) V2.ws.length cap2) := fun x => x.m.cell hx.at_r 0
                have N1 : ∀ x : MW w h101, x.w.cell? ⟨r, 1, none⟩ = some (.int .i64 (wrap64 V2.n)) := fun x => x.m.cell hx.at_r 1
                have N2 : ∀ x : MW w h101, x.w.cell? ⟨r, 2, none⟩ = some (.int .i64 V2.last.kind) := fun x => x.m.cell hx.at_r 2
                have N3 : ∀ x : MW w h101, x.w.cell? ⟨r, 3, none⟩ = some (.int .i64 V2.last.pos) := fun x => x.m.cell hx.at_r 3
                have N4 : ∀ x : MW w h101, x.w.cell? ⟨r, 4, none⟩ = some (.int .i64 V2.last.old) := fun x => x.m.cell hx.at_r 4
                have N5 : ∀ x : MW w h101, x.w.cell? ⟨r, 5, none⟩ = some (.int .i64 V2.last.new) := fun x => x.m.cell hx.at_r 5
                have N6 : ∀ x : MW w h101, x.w.cell? ⟨r, 6, none⟩ = some (.bool V2.last.ok) := fun x => x.m.cell hx.at_r 6
                have hne : Nonempty (MW w h101) := ⟨⟨_, my⟩⟩
                go_wp2_with fail
                refine region_mem (by kernel_rfl) (by kernel_rfl) my ?_
                repeat (any_goals (first | go_big_quiet_step ((first | (go_at_call 43; exact Calls.in_mem_same (accesses_v a d _ (MW.m _) vs_101)) | (go_at_call 44; exact Calls.in_mem (last_v a d _ (MW.m _) vs_101)) | (go_at_call 45; exact Calls.in_mem_same (len_v a d _ (MW.m _) vs_101)))) | quiet_step ((first | (go_at_call 43; exact Calls.in_mem_same (accesses_v a d _ (MW.m _) vs_101)) | (go_at_call 44; exact Calls.in_mem (last_v a d _ (MW.m _) vs_101)) | (go_at_call 45; exact Calls.in_mem_same (len_v a d _ (MW.m _) vs_101))))))
                refine wpQuiet_nil ?_
                intro w' hw'
                obtain ⟨⟨wz, mz⟩, rfl⟩ := hw'
                go_wp2_with fail
                go_loopw [9] (fun i wr => ∃ (k : Nat), k ≤ nw ∧ i = .int .i64 k ∧ Mem w h101 wr) (fun i _ => nw - (intOf i).toNat)
                case atStart => exact ⟨0, by omega, rfl, mz⟩
                case round =>
                  obtain ⟨k, hk, rfl, mk⟩ := hrel
                  clear mz
                  have L1 : (V2.ws.length : Int) ≤ nw := by have := VL2.out; omega
                  have L2 : (nw : Int) ≤ V2.ws.length := by have := VL2.out; omega
                  have Q0 : World.cell? (_) ⟨r, 0, none⟩ = some (.slice (some ⟨c, 0, none⟩) V2.ws.length cap2) := mk.cell hx.at_r 0
                  by_cases hlt2 : k < nw
                  · have Qk : ∀ x : MW w h101, x.w.cell? ⟨c, k, none⟩ = some (.int .i64 (V2.rd k)) := fun x => (x.m.cell hx.at_c k).trans (by
                      have hk2 : k < V2.ws.length := by omega
                      show (encW _ _)[k]? = _
                      rw [encW_get _ hk2]
                      unfold Vw.rd
                      rw [if_pos ⟨by omega, by omega⟩]; simp)
                    go_wp2_with fail
                    refine region_mem (by kernel_rfl) (by kernel_rfl) mk ?_
                    repeat (any_goals (first | go_big_quiet_step (((go_at_call 39; exact Calls.in_mem_same (peek_v a d _ _ (MW.m _) vs_101)))) | quiet_step (((go_at_call 39; exact Calls.in_mem_same (peek_v a d _ _ (MW.m _) vs_101))))))
                    refine wpQuiet_nil ?_
                    intro w' hw'
                    obtain ⟨⟨wz, mz⟩, rfl⟩ := hw'
                    go_wp2
                    go_roundw
                    case rel => exact ⟨k + 1, by omega, by go_num, mz⟩
                    case measure => simp [intOf]; omega
                  · go_wp2
                    go_roundw
                    case rel => exact ⟨j + 1, by omega, by go_num, _, V2, mk, vs_101, rz, VL2⟩
                    case measure => simp [intOf]; omega
              · have n4 : (q0 == 4) = false := beq_f c4
                clear c0 c1 c2 c3 c4
                go_wp2_with fail
                have m101 := ms.keep #[.int .i64 q0, .int .i64 q1, .int .i64 q2, .int .i64 q3] 39
                have z101 : hs wr.heap.size = none := ms.fresh (Nat.le_refl _)
                have b_101 := upd_same hs wr.heap.size (#[.int .i64 q0, .int .i64 q1, .int .i64 q2, .int .i64 q3], 39)
                have vs_101 := vs.keep (upd_other hs (#[.int .i64 q0, .int .i64 q1, .int .i64 q2, .int .i64 q3], 39) (vs.apart z101).1) (upd_other hs (#[.int .i64 q0, .int .i64 q1, .int .i64 q2, .int .i64 q3], 39) (vs.apart z101).2)
                have rs_101 := rs.keep (upd_other hs (#[.int .i64 q0, .int .i64 q1, .int .i64 q2, .int .i64 q3], 39) (rs.apart z101).1) (upd_other hs (#[.int .i64 q0, .int .i64 q1, .int .i64 q2, .int .i64 q3], 39) (rs.apart z101).2)
                generalize hg101 : upd hs wr.heap.size (#[.int .i64 q0, .int .i64 q1, .int .i64 q2, .int .i64 q3], 39) = h101 at *
                clear ms z101 vs rs hg101
                go_wp2_with fail
                (with_reducible refine (poke_v a d _ q1 q2 m101 vs_101).mono ?_)
                rintro e wA102 ⟨rfl, hA102, mA102, vA102, kA102⟩
                have rA102 := rs_101.other kA102 r_a r_d c_a c_d
                have bA102 := vs_101.kept kA102 b_101 (by decide) (by decide)
                clear m101 vs_101 rs_101 b_101 kA102
                have Z1 : wA102.cell? ⟨wr.heap.size, 1, none⟩ = some (.int .i64 q1) := mA102.cell bA102 1
                have Z2 : wA102.cell? ⟨wr.heap.size, 2, none⟩ = some (.int .i64 q2) := mA102.cell bA102 2
                go_wp2_with fail
                (with_reducible refine (rpoke_v q1 q2 mA102 rA102).mono ?_)
                rintro e wB102 ⟨rfl, hB102, mB102, rB102, kB102⟩
                have vB102 := vA102.other kB102 a_r a_c d_r d_c
                clear Z1 Z2 mA102 rA102 vA102 bA102 kB102
                generalize hV2 : V.wr q1 q2 = V2 at *
                have VL2 : Hid (V2.ws.length = nw) := by rw [← hV2]; show _ = _; rw [vwr_len]; exact VL.out
                clear hV2
                obtain ⟨cap2, tl2, hx⟩ := rB102
                have rz : IsR hB102 r c V2 := ⟨cap2, tl2, hx⟩
                have N0 : ∀ x : MW w hB102, x.w.cell? ⟨r, 0, none⟩ = some (.slice (some ⟨c, 0, none⟩) V2.ws.length cap2) := fun x => x.m.cell hx.at_r 0
                have N1 : ∀ x : MW w hB102, x.w.cell? ⟨r, 1, none⟩ = some (.int .i64 (wrap64 V2.n)) := fun x => x.m.cell hx.at_r 1
                have N2 : ∀ x : MW w hB102, x.w.cell? ⟨r, 2, none⟩ = some (.int .i64 V2.last.kind) := fun x => x.m.cell hx.at_r 2
                have N3 : ∀ x : MW w hB102, x.w.cell? ⟨r, 3, none⟩ = some (.int .i64 V2.last.pos) := fun x => x.m.cell hx.at_r 3
                have N4 : ∀ x : MW w hB102, x.w.cell? ⟨r, 4, none⟩ = some (.int .i64 V2.last.old) := fun x => x.m.cell hx.at_r 4
                have N5 : ∀ x : MW w hB102, x.w.cell? ⟨r, 5, none⟩ = some (.int .i64 V2.last.new) := fun x => x.m.cell hx.at_r 5
                have N6 : ∀ x : MW w hB102, x.w.cell? ⟨r, 6, none⟩ = some (.bool V2.last.ok) := fun x => x.m.cell hx.at_r 6
                have hne : Nonempty (MW w hB102) := ⟨⟨_, mB102⟩⟩
                go_wp2_with fail
                refine region_mem (by kernel_rfl) (by kernel_rfl) mB102 ?_
                repeat (any_goals (first | go_big_quiet_step ((first | (go_at_call 43; exact Calls.in_mem_same (accesses_v a d _ (MW.m _) vB102)) | (go_at_call 44; exact Calls.in_mem (last_v a d _ (MW.m _) vB102)) | (go_at_call 45; exact Calls.in_mem_same (len_v a d _ (MW.m _) vB102)))) | quiet_step ((first | (go_at_call 43; exact Calls.in_mem_same (accesses_v a d _ (MW.m _) vB102)) | (go_at_call 44; exact Calls.in_mem (last_v a d _ (MW.m _) vB102)) | (go_at_call 45; exact Calls.in_mem_same (len_v a d _ (MW.m _) vB102))))))
                refine wpQuiet_nil ?_
                intro w' hw'
                obtain ⟨⟨wz, mz⟩, rfl⟩ := hw'
                go_wp2_with fail
                go_loopw [9] (fun i wr => ∃ (k : Nat), k ≤ nw ∧ i = .int .i64 k ∧ Mem w hB102 wr) (fun i _ => nw - (intOf i).toNat)
                case atStart => exact ⟨0, by omega, rfl, mz⟩
                case round =>
                  obtain ⟨k, hk, rfl, mk⟩ := hrel
                  clear mz
                  have L1 : (V2.ws.length : Int) ≤ nw := by have := VL2.out; omega
                  have L2 : (nw : Int) ≤ V2.ws.length := by have := VL2.out; omega
                  have Q0 : World.cell? (_) ⟨r, 0, none⟩ = some (.slice (some ⟨c, 0, none⟩) V2.ws.length cap2) := mk.cell hx.at_r 0
                  by_cases hlt2 : k < nw
                  · have Qk : ∀ x : MW w hB102, x.w.cell? ⟨c, k, none⟩ = some (.int .i64 (V2.rd k)) := fun x => (x.m.cell hx.at_c k).trans (by
                      have hk2 : k < V2.ws.length := by omega
                      show (encW _ _)[k]? = _
                      rw [encW_get _ hk2]
                      unfold Vw.rd
                      rw [if_pos ⟨by omega, by omega⟩]; simp)
                    go_wp2_with fail
                    refine region_mem (by kernel_rfl) (by kernel_rfl) mk ?_
                    repeat (any_goals (first | go_big_quiet_step (((go_at_call 39; exact Calls.in_mem_same (peek_v a d _ _ (MW.m _) vB102)))) | quiet_step (((go_at_call 39; exact Calls.in_mem_same (peek_v a d _ _ (MW.m _) vB102))))))
                    refine wpQuiet_nil ?_
                    intro w' hw'
                    obtain ⟨⟨wz, mz⟩, rfl⟩ := hw'
                    go_wp2
                    go_roundw
                    case rel => exact ⟨k + 1, by omega, by go_num, mz⟩
                    case measure => simp [intOf]; omega
                  · go_wp2
                    go_roundw
                    case rel => exact ⟨j + 1, by omega, by go_num, _, V2, mk, vB102, rz, VL2⟩
                    case measure => simp [intOf]; omega
    · go_wp2_with fail
      go_returns
      exact ⟨rfl, ms.below⟩

end Go.Proofs.Ytceliebbpkgifaa
