/- The walk of PlaceWords. -/
import Derived.Test.YtceliebbpkgifaaPlaceKnown
import Derived.BigQuiet
namespace Go.Proofs.Ytceliebbpkgifaa
open Go.RowKit Go.Maps

theorem at_calls (x : Int) (w : World) :
    Calls Try.prog 58 #[.int .i64 (2 * x)] w fun e w' => e = .returned (.int .i64 x) ∧ w = w' := by
  have e : 2 * x / 2 = x := by omega
  go_enter Try.func58, Try.ntmps58
  go_wp2
  go_returns
  exact ⟨ret_int (by omega), rfl⟩

theorem Cf.arena_rd (c : Cf) {i : Int} (h0 : 0 ≤ i) (h1 : i < c.words) : c.arena.rd i = c.lies i := by
  unfold Vw.rd
  obtain ⟨k, rfl⟩ := Int.eq_ofNat_of_zero_le h0
  have hk : k < c.words.toNat := by omega
  rw [if_pos ⟨by omega, by unfold Cf.arena; simp; omega⟩]
  unfold Cf.arena
  simp [hk]
theorem Cf.arena_len (c : Cf) : c.arena.ws.length = c.words.toNat := by unfold Cf.arena; simp

set_option maxRecDepth 100000 in
set_option maxHeartbeats 8000000 in
theorem placeWords_walk (a0 a1 : Int) (a2 : Bool) (w0 : (Lit.int .u8 a0).wf = true) (w1 : (Lit.int .u8 a1).wf = true) (w : World) :
    Calls Try.prog 15 #[.int .u8 a0, .int .u8 a1, .bool a2] w fun e w' => e = .returned (.bool true) ∧ Below w.heap.size w w' := by
  have hm := Mem.start w
  obtain ⟨l0, u0⟩ := wf_u8_bounds w0
  obtain ⟨l1, u1⟩ := wf_u8_bounds w1
  have d0 : 0 ≤ a0 % 8 := by omega
  have d1 : a0 % 8 ≤ 7 := by omega
  have d2 : 0 ≤ a1 % (16 - (a0 % 8 + 1) - 1) := Int.emod_nonneg _ (by omega)
  have d3 : a1 % (16 - (a0 % 8 + 1) - 1) < 16 - (a0 % 8 + 1) - 1 := Int.emod_lt_of_pos _ (by omega)
  go_enter Try.func15, Try.ntmps15
  go_wp2_with fail
  (with_reducible refine (placeKnown hm).mono ?_)
  rintro e w1 ⟨rfl, m1⟩
  clear hm
  go_wp2_with fail
  (with_reducible refine (conf_calls _ _ _ _).mono ?_)
  rintro e w2 ⟨rfl, b2⟩
  have hC0 : a0 % 8 + 1 + 2 ≤ a0 % 8 + 1 + 2 + a1 % (16 - (a0 % 8 + 1) - 1) := by omega
  have hC1 : a0 % 8 + 1 + 2 + a1 % (16 - (a0 % 8 + 1) - 1) ≤ 16 := by omega
  have hN0 : 1 ≤ a0 % 8 + 1 := by omega
  have hN1 : a0 % 8 + 1 ≤ 8 := by omega
  generalize a0 % 8 + 1 + 2 + a1 % (16 - (a0 % 8 + 1) - 1) = C at *
  generalize a0 % 8 + 1 = N at *
  have m2 := (m1.grown b2).keep #[.int .i64 N, .int .i64 C, .int .i64 500, .int .i64 1000] 59
  have in0 : (⟨N, C, 500, 1000⟩ : Cf).inb := ⟨hN0, hN1, by show 1 ≤ C; omega, hC1⟩
  have hT : 25 ≤ (⟨N, C, 500, 1000⟩ : Cf).top ∧ (⟨N, C, 500, 1000⟩ : Cf).top ≤ 80 := by unfold Cf.top Cf.first Cf.head Cf.size; simp only; omega
  have tp := fun w => top_calls _ in0 w
  have ht0 : ∀ a b : Int, (⟨N, C, a, b⟩ : Cf).top = (⟨N, C, 500, 1000⟩ : Cf).top := fun _ _ => rfl
  have hF : ∀ a b : Int, (⟨N, C, a, b⟩ : Cf).first = N + 14 := fun _ _ => by unfold Cf.first Cf.head; simp only; omega
  have hH : ∀ a b : Int, (⟨N, C, a, b⟩ : Cf).head = N + 7 := fun _ _ => by unfold Cf.head; simp only; omega
  have hTT : (⟨N, C, 500, 1000⟩ : Cf).top = N + 21 + 3 * C := by unfold Cf.top Cf.first Cf.head Cf.size; simp only; omega
  have HTT := Lib.hid hTT
  clear hTT
  generalize (⟨N, C, 500, 1000⟩ : Cf).top = T at *
  have his : ∀ a : Int, 1 ≤ a → a ≤ 20000 → (⟨N, C, a, 1000⟩ : Cf).is = if T > a then 14 else 0 := fun a h1 h2 => by
    have hb : ¬ (⟨N, C, a, 1000⟩ : Cf).bad := by
      unfold Cf.bad
      have e1 := Cf.fails_yes (c := ⟨N, C, a, 1000⟩) (k := 0) ⟨hN0, hN1⟩
      have e2 := Cf.fails_yes (c := ⟨N, C, a, 1000⟩) (k := 1) ⟨by show N ≤ C; omega, hC1⟩
      have e3 := Cf.fails_yes (c := ⟨N, C, a, 1000⟩) (k := 2) ⟨by show (1 : Int) ≤ 1000; decide, by show (1000 : Int) ≤ 1048576; decide⟩
      have e4 := Cf.fails_yes (c := ⟨N, C, a, 1000⟩) (k := 3) ⟨h1, h2⟩
      have e5 : (⟨N, C, a, 1000⟩ : Cf).fails 4 = 0 := e4.trans (e3.trans (e2.trans (e1.trans rfl)))
      rw [e5]
      show ¬ ((0 : Int) < 0 ∨ C - 2 < N)
      omega
    unfold Cf.is
    rw [if_neg hb, ht0]
  have hwf : ∀ a : Int, 1 ≤ a → a ≤ 20000 → (⟨N, C, a, 1000⟩ : Cf).wf := fun a h1 h2 => ⟨wf_i64_of (by show _ ≤ N; omega) (by show N ≤ _; omega), wf_i64_of (by show _ ≤ C; omega) (by show C ≤ _; omega), wf_i64_of (by show _ ≤ a; omega) (by show a ≤ _; omega), by show (Lit.int .i64 1000).wf = true; decide⟩
  obtain ⟨hT0, hT1⟩ := hT
  have hlt := m2.lt (upd_same _ _ _)
  have hg0 := his T (by omega) (by omega)
  rw [if_neg (by omega)] at hg0
  have hg1 := his (T - 1) (by omega) (by omega)
  rw [if_pos (by omega)] at hg1
  have mkb := fun {wa : World} {h : GH} => @make_bad ⟨N, C, T - 1, 1000⟩ (hwf (T - 1) (by omega) (by omega)) (by rw [hg1]; decide) w wa h
  rw [hg1] at mkb
  have mk := fun {wa : World} {h : GH} => @make_good ⟨N, C, T, 1000⟩ (hwf T (by omega) (by omega)) hg0 w wa h
  have inT : (⟨N, C, T, 1000⟩ : Cf).inb := ⟨hN0, hN1, by show 1 ≤ C; omega, hC1⟩
  have hd := fun w => head_calls _ inT w
  have ft := fun w => first_calls _ inT w
  rw [hH] at hd
  rw [hF] at ft
  have hlies : ∀ i : Int, (⟨N, C, T, 1000⟩ : Cf).lies i = if i = 2 then T else if i = N + 7 then -1 else if i = N + 9 then 2 * (N + 14) else 0 := fun i => by
    unfold Cf.lies
    rw [ht0, hF, hH, show N + 7 + 2 = N + 9 from by omega]
  have hV : ∀ i : Int, 0 ≤ i → i < T → (Cf.arena ⟨N, C, T, 1000⟩).rd i = if i = 2 then T else if i = N + 7 then -1 else if i = N + 9 then 2 * (N + 14) else 0 := fun i h1 h2 => by
    rw [Cf.arena_rd _ h1 h2, hlies]
  have hVl : ((Cf.arena ⟨N, C, T, 1000⟩).ws.length : Int) = T := by rw [Cf.arena_len]; show (T.toNat : Int) = T; omega
  generalize Cf.arena ⟨N, C, T, 1000⟩ = V at *
  have hTT := HTT.out
  have r2 : V.rd 2 = T := by rw [hV 2 (by decide) (by omega), if_pos rfl]
  have r9 : V.rd (N + 7 + 2) = 2 * (N + 14) := by rw [hV _ (by omega) (by omega), if_neg (by omega), if_neg (by omega), if_pos (by omega)]
  have HV := Lib.hid hV
  clear hTT hV hlies hg0 hg1 ht0 hF hH inT
  clear his hwf HTT in0 b2 m1 w0 w1 d0 d1 d2 d3 l0 u0 l1 u1
  simp only [encC] at *
  have q0 : (w2.alloc (.cells #[.int .i64 N, .int .i64 C, .int .i64 500, .int .i64 1000] 59)).cell? ⟨w2.heap.size, 0, none⟩ = some (.int .i64 N) := m2.cell (upd_same _ _ _) 0
  have q1 : (w2.alloc (.cells #[.int .i64 N, .int .i64 C, .int .i64 500, .int .i64 1000] 59)).cell? ⟨w2.heap.size, 1, none⟩ = some (.int .i64 C) := m2.cell (upd_same _ _ _) 1
  have q2 : (w2.alloc (.cells #[.int .i64 N, .int .i64 C, .int .i64 500, .int .i64 1000] 59)).cell? ⟨w2.heap.size, 2, none⟩ = some (.int .i64 500) := m2.cell (upd_same _ _ _) 2
  have q3 : (w2.alloc (.cells #[.int .i64 N, .int .i64 C, .int .i64 500, .int .i64 1000] 59)).cell? ⟨w2.heap.size, 3, none⟩ = some (.int .i64 1000) := m2.cell (upd_same _ _ _) 3
  go_wp2_with fail
  (with_reducible refine (tp _).mono ?_)
  rintro e w3 ⟨rfl, b3⟩
  have m3 := m2.grown b3
  have c3 := (upd_same none0 w2.heap.size (.cells #[.int .i64 N, .int .i64 C, .int .i64 500, .int .i64 1000] 59))
  clear m2 b3 q0 q1 q2 q3
  have q0 : w3.cell? ⟨w2.heap.size, 0, none⟩ = some (.int .i64 N) := m3.cell c3 0
  have q1 : w3.cell? ⟨w2.heap.size, 1, none⟩ = some (.int .i64 C) := m3.cell c3 1
  have q2 : w3.cell? ⟨w2.heap.size, 2, none⟩ = some (.int .i64 500) := m3.cell c3 2
  have q3 : w3.cell? ⟨w2.heap.size, 3, none⟩ = some (.int .i64 1000) := m3.cell c3 3
  have fz := m3.free c3 2
  have m4 : Mem w (upd none0 w2.heap.size (.cells #[.int .i64 N, .int .i64 C, .int .i64 T, .int .i64 1000] 59)) (w3.setCell ⟨w2.heap.size, 2, none⟩ (.int .i64 T)) := (m3.set2 2 (.int .i64 T)).to (by simp)
  cases a2
  · go_wp2_with fail
    (with_reducible refine (mk m4).mono ?_)
    rintro e w5 ⟨a, d, h5, rfl, fa, fd, m5, v5, k5⟩
    have c4 : h5 w2.heap.size = some (.cells #[.int .i64 N, .int .i64 C, .int .i64 T, .int .i64 1000] 59) := (k5 _ (ne_of_none (upd_same _ _ _) fa) (ne_of_none (upd_same _ _ _) fd)).trans (upd_same _ _ _)
    have Q0 : ∀ x : MW w h5, x.w.cell? ⟨w2.heap.size, 0, none⟩ = some (.int .i64 N) := fun x => x.m.cell c4 0
    have Q1 : ∀ x : MW w h5, x.w.cell? ⟨w2.heap.size, 1, none⟩ = some (.int .i64 C) := fun x => x.m.cell c4 1
    have Q2 : ∀ x : MW w h5, x.w.cell? ⟨w2.heap.size, 2, none⟩ = some (.int .i64 T) := fun x => x.m.cell c4 2
    have Q3 : ∀ x : MW w h5, x.w.cell? ⟨w2.heap.size, 3, none⟩ = some (.int .i64 1000) := fun x => x.m.cell c4 3
    have Qne : Nonempty (MW w h5) := ⟨⟨_, m5⟩⟩
    clear mkb mk m4 k5 fa fd m3 c3 q0 q1 q2 q3 fz tp
    go_wp2_with fail
    refine region_mem (by kernel_rfl) (by kernel_rfl) m5 ?_
    repeat (any_goals (first | go_big_quiet_step ((first | (go_at_call 45; exact Calls.in_mem_same (len_x T hVl (MW.m _) v5)) | (go_at_call 39; first | exact Calls.in_mem_same (peek_x T r2 (MW.m _) v5) | exact Calls.in_mem_same (peek_x (2 * (N + 14)) r9 (MW.m _) v5)) | (go_at_call 52; exact in_mem_grown (hd _)) | (go_at_call 53; exact in_mem_grown (ft _)) | (go_at_call 58; exact Calls.in_mem_same (at_calls (N + 14) _)))) | quiet_step ((first | (go_at_call 45; exact Calls.in_mem_same (len_x T hVl (MW.m _) v5)) | (go_at_call 39; first | exact Calls.in_mem_same (peek_x T r2 (MW.m _) v5) | exact Calls.in_mem_same (peek_x (2 * (N + 14)) r9 (MW.m _) v5)) | (go_at_call 52; exact in_mem_grown (hd _)) | (go_at_call 53; exact in_mem_grown (ft _)) | (go_at_call 58; exact Calls.in_mem_same (at_calls (N + 14) _))))))
    refine wpQuiet_nil ?_
    intro w' hw'
    obtain ⟨⟨w', hm'⟩, rfl⟩ := hw'
    clear m5
    go_wp2_with fail
    go_loopw [11] (fun i wr => ∃ k : Nat, k ≤ T ∧ i = .int .i64 k ∧ Mem w h5 wr) (fun i _ => T.toNat - (intOf i).toNat)
    case atStart => exact ⟨0, by omega, rfl, hm'⟩
    case round =>
      obtain ⟨k, hk, rfl, mr⟩ := hrel
      clear hm'
      by_cases hlt : k < T
      · have hv := HV.out k (by omega) hlt
        have t0 : (T != 0) = true := bne_t (by omega)
        have t1 : (2 * (N + 14) != 0) = true := bne_t (by omega)
        by_cases e2 : (k : Int) = 2
        · have hr : V.rd k = T := by rw [hv, if_pos e2]
          have g2 : ((k : Int) != 2) = false := bne_f e2
          clear hv e2
          go_wp2_with fail
          (with_reducible refine (len_x T hVl mr v5).mono ?_)
          rintro e w6 ⟨rfl, rfl⟩
          go_wp2_with fail
          (with_reducible refine (peek_x (T) hr mr v5).mono ?_)
          rintro e w6 ⟨rfl, rfl⟩
          go_wp2_with fail
          go_roundw
          case rel => exact ⟨k + 1, by omega, by go_num, mr⟩
          case measure => simp [intOf]; omega
        · have g2 : ((k : Int) != 2) = true := bne_t e2
          by_cases e7 : (k : Int) = N + 7
          · have hr : V.rd k = -1 := by rw [hv, if_neg e2, if_pos e7]
            have g7 : ((k : Int) != N + 7) = false := bne_f e7
            clear hv e2 e7
            go_wp2_with fail
            (with_reducible refine (len_x T hVl mr v5).mono ?_)
            rintro e w6 ⟨rfl, rfl⟩
            go_wp2_with fail
            (with_reducible refine (peek_x (-1) hr mr v5).mono ?_)
            rintro e w6 ⟨rfl, rfl⟩
            have q0 : wr.cell? ⟨w2.heap.size, 0, none⟩ = some (.int .i64 N) := mr.cell c4 0
            have q1 : wr.cell? ⟨w2.heap.size, 1, none⟩ = some (.int .i64 C) := mr.cell c4 1
            have q2 : wr.cell? ⟨w2.heap.size, 2, none⟩ = some (.int .i64 T) := mr.cell c4 2
            have q3 : wr.cell? ⟨w2.heap.size, 3, none⟩ = some (.int .i64 1000) := mr.cell c4 3
            go_wp2_with fail
            (with_reducible refine (hd _).mono ?_)
            rintro e w7 ⟨rfl, b7⟩
            have m7 := mr.grown b7
            clear q0 q1 q2 q3 b7
            go_wp2_with fail
            go_roundw
            case rel => exact ⟨k + 1, by omega, by go_num, m7⟩
            case measure => simp [intOf]; omega
          · have g7 : ((k : Int) != N + 7) = true := bne_t e7
            by_cases e9 : (k : Int) = N + 9
            · have hr : V.rd k = 2 * (N + 14) := by rw [hv, if_neg e2, if_neg e7, if_pos e9]
              have g9 : ((k : Int) != N + 7 + 2) = false := bne_f (by omega)
              clear hv e2 e7 e9
              go_wp2_with fail
              (with_reducible refine (len_x T hVl mr v5).mono ?_)
              rintro e w6 ⟨rfl, rfl⟩
              go_wp2_with fail
              (with_reducible refine (peek_x (2 * (N + 14)) hr mr v5).mono ?_)
              rintro e w6 ⟨rfl, rfl⟩
              have q0 : wr.cell? ⟨w2.heap.size, 0, none⟩ = some (.int .i64 N) := mr.cell c4 0
              have q1 : wr.cell? ⟨w2.heap.size, 1, none⟩ = some (.int .i64 C) := mr.cell c4 1
              have q2 : wr.cell? ⟨w2.heap.size, 2, none⟩ = some (.int .i64 T) := mr.cell c4 2
              have q3 : wr.cell? ⟨w2.heap.size, 3, none⟩ = some (.int .i64 1000) := mr.cell c4 3
              go_wp2_with fail
              (with_reducible refine (hd _).mono ?_)
              rintro e w7 ⟨rfl, b7⟩
              have m7 := mr.grown b7
              clear q0 q1 q2 q3 b7
              have q0 : w7.cell? ⟨w2.heap.size, 0, none⟩ = some (.int .i64 N) := m7.cell c4 0
              have q1 : w7.cell? ⟨w2.heap.size, 1, none⟩ = some (.int .i64 C) := m7.cell c4 1
              have q2 : w7.cell? ⟨w2.heap.size, 2, none⟩ = some (.int .i64 T) := m7.cell c4 2
              have q3 : w7.cell? ⟨w2.heap.size, 3, none⟩ = some (.int .i64 1000) := m7.cell c4 3
              go_wp2_with fail
              (with_reducible refine (hd _).mono ?_)
              rintro e w8 ⟨rfl, b8⟩
              have m8 := m7.grown b8
              clear q0 q1 q2 q3 b8
              go_wp2_with fail
              go_roundw
              case rel => exact ⟨k + 1, by omega, by go_num, m8⟩
              case measure => simp [intOf]; omega
            · have hr : V.rd k = 0 := by rw [hv, if_neg e2, if_neg e7, if_neg e9]
              clear hv e2 e7 e9 g2 g7
              go_wp2_with fail
              (with_reducible refine (len_x T hVl mr v5).mono ?_)
              rintro e w6 ⟨rfl, rfl⟩
              go_wp2_with fail
              (with_reducible refine (peek_x (0) hr mr v5).mono ?_)
              rintro e w6 ⟨rfl, rfl⟩
              go_wp2_with fail
              go_roundw
              case rel => exact ⟨k + 1, by omega, by go_num, mr⟩
              case measure => simp [intOf]; omega
      · have hge : T ≤ k := by omega
        clear HV
        go_wp2_with fail
        (with_reducible refine (len_x T hVl mr v5).mono ?_)
        rintro e w6 ⟨rfl, rfl⟩
        go_wp2_with fail
        refine region_mem (by kernel_rfl) (by kernel_rfl) mr ?_
        repeat (any_goals (first | go_big_quiet_step ((first | (go_at_call 45; exact Calls.in_mem_same (len_x T hVl (MW.m _) v5)) | (go_at_call 39; first | exact Calls.in_mem_same (peek_x T r2 (MW.m _) v5) | exact Calls.in_mem_same (peek_x (2 * (N + 14)) r9 (MW.m _) v5)) | (go_at_call 52; exact in_mem_grown (hd _)) | (go_at_call 53; exact in_mem_grown (ft _)) | (go_at_call 58; exact Calls.in_mem_same (at_calls (N + 14) _)))) | quiet_step ((first | (go_at_call 45; exact Calls.in_mem_same (len_x T hVl (MW.m _) v5)) | (go_at_call 39; first | exact Calls.in_mem_same (peek_x T r2 (MW.m _) v5) | exact Calls.in_mem_same (peek_x (2 * (N + 14)) r9 (MW.m _) v5)) | (go_at_call 52; exact in_mem_grown (hd _)) | (go_at_call 53; exact in_mem_grown (ft _)) | (go_at_call 58; exact Calls.in_mem_same (at_calls (N + 14) _))))))
        refine wpQuiet_nil ?_
        intro w' hw'
        obtain ⟨⟨w', hm'⟩, rfl⟩ := hw'
        go_wp2_with fail
        go_returns
        exact ⟨rfl, hm'.below⟩
  · have m5 : Mem w (upd none0 w2.heap.size (.cells #[.int .i64 N, .int .i64 C, .int .i64 (T - 1), .int .i64 1000] 59)) _ := (m4.set2 2 (.int .i64 (T - 1))).to (by simp)
    go_wp2_with fail
    (with_reducible refine (mkb m5).mono ?_)
    rintro e w5 ⟨rfl, m6⟩
    go_wp2_with fail
    go_returns
    exact ⟨rfl, m6.below⟩

end Go.Proofs.Ytceliebbpkgifaa
