/- ModelDeletes: the walk. -/
import Derived.Test.YtdmodejpcfhbhaaMplA
namespace Go.Proofs.Ytdmodejpcfhbhaa
open Go.RowKit
variable {W : World}

theorem noneF_set (k : Int) (v : Option Int) : setF (setF noneF k v) k none = noneF := by
  funext x; unfold setF noneF; split <;> rfl
theorem noneF_del (k : Int) : setF noneF k none = noneF := by
  funext x; unfold setF noneF; split <;> rfl
theorem range_none (lo hi : Int) : rangeP noneF lo hi = [] := by
  unfold rangeP
  have : keysF 64 (Mc.ints noneF).has = [] := by
    rw [List.eq_nil_iff_forall_not_mem]
    intro x hx
    have := (keysF_mem.1 hx).2.2
    cases this
  rw [this]; rfl
def MD.I (other n : Int) (kk : Int) (val : Int) (N : Nat) (k : Nat) (vs : List Value) (H : HX) : Prop :=
  ∃ (i : Nat) (f g : Int → Option Int), k + i = N ∧ ((i = 0 ∧ f = setF noneF kk (some val)) ∨ (0 < i ∧ f = noneF ∧ g kk = some (1 + (i : Int)))) ∧
    vs = [.int .u16 other, .int .u8 n, .int .i64 kk, .pointer (some ⟨0, 0, none⟩), .int .i64 i] ∧ H = [some (true, .ext (.modl f g))]
def MD.Q (other n : Int) (kk : Int) (m : Nat) (e : Exit) (vs : List Value) (H : HX) : Prop :=
  ∃ (f g : Int → Option Int), e = .exit 0 ∧ (∀ x, f x = none) ∧ g kk = some (1 + ((m + 1 : Nat) : Int)) ∧
    vs = [.int .u16 other, .int .u8 n, .int .i64 kk, .pointer (some ⟨0, 0, none⟩)] ∧ H = [some (true, .ext (.modl f g))]
attribute [local irreducible] keysF rangeP rangeG allG pairsOf eqRows isOpB setF setG2 maxF fndF SWP FWP OWP
set_option maxRecDepth 100000 in
set_option maxHeartbeats 8000000 in
theorem md_round (val other n : Int) (hn0 : 0 ≤ n) (m kn : Nat) (hm : n % 4 = (m : Int)) (hm4 : m < 4) (hk64 : kn < 64) (k : Nat) (vs : List Value) (H : HX) (hI : MD.I other n kn val (m + 1) k vs H) :
    SWP Try.prog (means W) 0 (loopB Try.f4 0) (slT Try.f4.ntmps [2, 3, 9, 10, 11] vs) H (roundK 0 Try.f4.ntmps [2, 3, 9, 10, 11] (MD.I other n kn val (m + 1)) k (Left 0 Try.f4.ntmps [2, 3, 9, 10] (MD.Q other n kn m))) := by
  have e2 : IntKind.i64.wrap (n.tmod 4) = (m : Int) := by rw [tmodI hn0, wrapI (by omega) (by omega)]; exact hm
  have hop2 : isOpB 2 (kn : Int) 0 0 = true := by simp [isOpB, isKeyB]; omega
  obtain ⟨i, f, g, hki, hI, rfl, rfl⟩ := hI
  refine SWP.code envP5_ok 40 200 ?_
  by_cases hi : i < m + 1
  · have f1 : decide ((i : Int) < IntKind.i64.wrap (IntKind.i64.wrap (n.tmod 4) + 1)) = true := by rw [e2, wrapI (by omega) (by omega)]; exact decide_eq_true (by omega)
    have gw1 : ((i + 1 : Nat) : Int) = IntKind.i64.wrap ((i : Int) + 1) := by rw [wrapI (by omega) (by omega)]; rfl
    have gw2 : IntKind.i64.wrap (2 + (i : Int)) = 1 + ((i + 1 : Nat) : Int) := by rw [wrapI (by omega) (by omega)]; omega
    repeat ((conv => whnf); first | (refine brT ?_ ?_; · (first | exact f1 | exact hop2 | (simp; done))) | (refine brF ?_ ?_; · (first | exact f1 | exact hop2 | (simp; done))))

    conv => whnf
    refine ⟨k - 1, by omega, [0], rfl, rfl, _, rfl, i + 1, setF f kn none, setF g kn (some (IntKind.i64.wrap (2 + (i : Int)))), by omega, .inr ⟨by omega, ?_, ?_⟩, by rw [gw1] <;> rfl, rfl⟩
    · rcases hI with ⟨_, rfl⟩ | ⟨_, rfl, _⟩
      · exact noneF_set _ _
      · exact noneF_del _
    · rw [gw2]; unfold setF; rw [if_pos rfl]
  · obtain rfl : i = m + 1 := by omega
    rcases hI with ⟨h, _⟩ | ⟨_, rfl, hg⟩
    · omega
    have f1 : decide (((m + 1 : Nat) : Int) < IntKind.i64.wrap (IntKind.i64.wrap (n.tmod 4) + 1)) = false := by rw [e2, wrapI (by omega) (by omega)]; exact decide_eq_false (by omega)
    repeat ((conv => whnf); first | (refine brT ?_ ?_; · (exact f1)) | (refine brF ?_ ?_; · (exact f1)))

    conv => whnf
    exact ⟨[0], rfl, rfl, _, rfl, _, _, rfl, fun _ => rfl, hg, rfl, rfl⟩
set_option maxRecDepth 100000 in
set_option maxHeartbeats 8000000 in
theorem modelDeletes_fwp (key val other n : Int) (hk0 : 0 ≤ key) (hv0 : 0 ≤ val) (hv1 : val ≤ 65535) (ho0 : 0 ≤ other) (ho1 : other ≤ 65535) (hn0 : 0 ≤ n) : FWP Try.prog (means W) 4 [.int .u8 key, .int .u16 val, .int .u16 other, .int .u8 n] [] fun a _ => a = .bool true := by
  obtain ⟨m, hm⟩ := Int.eq_ofNat_of_zero_le (Int.emod_nonneg n (show (4 : Int) ≠ 0 by decide))
  have hm4 : m < 4 := by omega
  obtain ⟨kn, hkn⟩ := Int.eq_ofNat_of_zero_le (Int.emod_nonneg key (show (64 : Int) ≠ 0 by decide))
  have hk64 : kn < 64 := by omega
  have e1 : IntKind.i64.wrap (key.tmod 64) = (kn : Int) := by rw [tmodI hk0, wrapI (by omega) (by omega)]; exact hkn
  have e2 : IntKind.i64.wrap (n.tmod 4) = (m : Int) := by rw [tmodI hn0, wrapI (by omega) (by omega)]; exact hm
  have ev : IntKind.i64.wrap val = val := wrapI (by omega) (by omega)
  have eo : IntKind.i64.wrap other = other := wrapI (by omega) (by omega)
  have hop1 : isOpB 1 (IntKind.i64.wrap (key.tmod 64)) (IntKind.i64.wrap val) 0 = true := by rw [e1, ev]; simp [isOpB, isKeyB]; omega
  have hop2 : isOpB 2 (kn : Int) 0 0 = true := by simp [isOpB, isKeyB]; omega
  have hop3 : isOpB 3 (kn : Int) 0 0 = true := by simp [isOpB, isKeyB]; omega
  have hop4 : isOpB 4 (kn : Int) 0 (kn : Int) = true := by simp [isOpB, isKeyB]; omega
  have hop5 : isOpB 1 (kn : Int) (IntKind.i64.wrap other) 0 = true := by rw [eo]; simp [isOpB, isKeyB]; omega
  have hw : (Lit.int .i64 (kn : Int)).wf = true := key_wf (by omega)
  refine FWP.body envP5_ok 40 Try.func4 rfl (by exact Nat.le_of_ble_eq_true rfl) ?_
  repeat ((conv => whnf); first | (refine brT ?_ ?_; · (first | exact hop1 | (simp; done))) | (refine brF ?_ ?_; · (first | exact hop1 | (simp; done))))

  conv => whnf
  refine SWP.cutS Try.f4.ntmps [2, 3, 9, 10] (MD.Q other n kn m) (SWP.loopS Try.f4.ntmps [2, 3, 9, 10, 11] (MD.I other n kn val (m + 1)) (N := m + 1) [2] rfl rfl rfl ?_ fun k vs H hI => md_round val other n hn0 m kn hm hm4 hk64 k vs H hI) ?_
  · refine ⟨0, setF noneF kn (some val), setF noneF kn (some 1), rfl, .inl ⟨rfl, rfl⟩, ?_, ?_⟩
    · rw [← e1]; rfl
    · rw [← e1]
      conv => rhs; rw [← ev]
      rfl
  rintro e vs H ⟨f, g, rfl, hf, hg, rfl, rfl⟩
  clear hk64 hkn
  revert hop3 hop4 hop5 hw hg
  clear hop1 hop2 e1
  generalize (kn : Int) = kk
  intro hop3 hop4 hop5 hw hg
  have r1 : (rangeP f kk kk).isEmpty = true := by rw [show f = noneF from funext hf, range_none]; rfl
  have q1 : (f kk).isSome = false := by rw [hf]; rfl
  have q2 : (!(f kk).isSome) = true := by rw [hf]; rfl
  have q3 : ((f kk).getD 0 == 0) = true := by rw [hf]; rfl
  have s1 : (setF f kk (some (IntKind.i64.wrap other)) kk) = some (IntKind.i64.wrap other) := by unfold setF; rw [if_pos rfl]
  have s2 : (setF g kk (some 60) kk) = some 60 := by unfold setF; rw [if_pos rfl]
  have w1 : ((g kk).getD (-1) == IntKind.i64.wrap (2 + IntKind.i64.wrap (n.tmod 4))) = true := by
    rw [hg, e2, wrapI (by omega) (by omega)]
    simp; omega
  have z1 : ((setF f kk (some (IntKind.i64.wrap other)) kk)).isSome = true := by rw [s1]; rfl
  have z2 : (((setF f kk (some (IntKind.i64.wrap other)) kk)).getD 0 == IntKind.i64.wrap other) = true := by rw [s1]; simp
  have z3 : (((setF g kk (some 60) kk)).getD (-1) == 60) = true := by rw [s2]; rfl
  repeat ((conv => whnf); first | (refine brT ?_ ?_; · (first | exact hop3 | exact hop4 | exact hop5 | exact hw | exact r1 | exact q1 | exact q2 | exact q3 | exact w1 | exact z1 | exact z2 | exact z3 | (simp; done))) | (refine brF ?_ ?_; · (first | exact hop3 | exact hop4 | exact hop5 | exact hw | exact r1 | exact q1 | exact q2 | exact q3 | exact w1 | exact z1 | exact z2 | exact z3 | (simp; done))))

  conv => whnf
  exact congrArg Value.bool z3
theorem modelDeletes_walk (a0 a1 a2 a3 : Int) (w0 : (Lit.int .u8 a0).wf = true) (w1 : (Lit.int .u16 a1).wf = true) (w2 : (Lit.int .u16 a2).wf = true) (w3 : (Lit.int .u8 a3).wf = true) (w : World) :
    Calls Try.prog 4 #[.int .u8 a0, .int .u16 a1, .int .u16 a2, .int .u8 a3] w fun e w' => e = .returned (.bool true) ∧ Below w.heap.size w w' :=
  law_walk (n := 1) rfl w (modelDeletes_fwp a0 a1 a2 a3 (wf_u8_bounds w0).1 (wf_u16_bounds w1).1 (wf_u16_bounds w1).2 (wf_u16_bounds w2).1 (wf_u16_bounds w2).2 (wf_u8_bounds w3).1)
end Go.Proofs.Ytdmodejpcfhbhaa
