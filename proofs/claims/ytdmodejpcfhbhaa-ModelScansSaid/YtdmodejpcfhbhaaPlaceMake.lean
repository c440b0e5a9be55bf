/- Package place: the arena with one chunk. -/
import Derived.Test.YtdmodejpcfhbhaaPlaceIs
import Derived.Test.YtdmodejpcfhbhaaRegion
namespace Go.Proofs.Ytdmodejpcfhbhaa
open Go.RowKit Go.Maps

/-- Which of the three entries a map has. -/
structure Holds (c : Cf) (x y z : Bool) (D : DataW Nat) : Prop where
  tidy : Tidy D
  one : ∀ d, D.atKey (.int .i64 2) d = if x = true then .lit (.int .i64 c.top) else d
  two : ∀ d, D.atKey (.int .i64 c.head) d = if y = true then .lit (.int .i64 (-1)) else d
  three : ∀ d, D.atKey (.int .i64 (c.head + 2)) d = if z = true then .lit (.int .i64 (2 * c.first)) else d
  rest : ∀ kl, kl ≠ .int .i64 2 → kl ≠ .int .i64 c.head → kl ≠ .int .i64 (c.head + 2) → ∀ d, D.atKey kl d = d

theorem Holds.made (c : Cf) : Holds c false false false (.map []) := ⟨tidy_empty, fun _ => rfl, fun _ => rfl, fun _ => rfl, fun _ _ _ _ _ => rfl⟩

theorem lit_ne {a b : Int} (h : a ≠ b) : Lit.int .i64 a ≠ Lit.int .i64 b := fun e => by cases e; exact h rfl

section
variable {c : Cf} {x y z : Bool} {D : DataW Nat}
theorem Cf.inb.k1 (hc : c.inb) : (2 : Int) ≠ c.head := by have := hc.t0; unfold Cf.head; omega
theorem Cf.inb.k2 (hc : c.inb) : (2 : Int) ≠ c.head + 2 := by have := hc.t0; unfold Cf.head; omega
theorem Cf.k3 (c : Cf) : c.head ≠ c.head + 2 := by omega
theorem Holds.put1 (hc : c.inb) (h : Holds c x y z D) : Holds c true y z (D.put (.int .i64 2) (.lit (.int .i64 c.top))) :=
  ⟨h.tidy.put (by trivial) _, fun _ => atKey_put_same h.tidy.isMap (by trivial) _ _, fun d => (atKey_put_other (lit_ne hc.k1.symm) _ d).trans (h.two d), fun d => (atKey_put_other (lit_ne hc.k2.symm) _ d).trans (h.three d), fun kl a b e d => (atKey_put_other a _ d).trans (h.rest kl a b e d)⟩
theorem Holds.put2 (hc : c.inb) (h : Holds c x y z D) : Holds c x true z (D.put (.int .i64 c.head) (.lit (.int .i64 (-1)))) :=
  ⟨h.tidy.put (by trivial) _, fun d => (atKey_put_other (lit_ne hc.k1) _ d).trans (h.one d), fun _ => atKey_put_same h.tidy.isMap (by trivial) _ _, fun d => (atKey_put_other (lit_ne c.k3.symm) _ d).trans (h.three d), fun kl a b e d => (atKey_put_other b _ d).trans (h.rest kl a b e d)⟩
theorem Holds.put3 (hc : c.inb) (h : Holds c x y z D) : Holds c x y true (D.put (.int .i64 (c.head + 2)) (.lit (.int .i64 (2 * c.first)))) :=
  ⟨h.tidy.put (by trivial) _, fun d => (atKey_put_other (lit_ne hc.k2) _ d).trans (h.one d), fun d => (atKey_put_other (lit_ne c.k3) _ d).trans (h.two d), fun _ => atKey_put_same h.tidy.isMap (by trivial) _ _, fun kl a b e d => (atKey_put_other e _ d).trans (h.rest kl a b e d)⟩

/-- What lies at a place of the new arena. -/
def Cf.lies (c : Cf) (i : Int) : Int := if i = 2 then c.top else if i = c.head then -1 else if i = c.head + 2 then 2 * c.first else 0
theorem Holds.key {i : Int} (h : Holds c true true true D) (hi : Maps.has D (.int .i64 i) = true) : i = 2 ∨ i = c.head ∨ i = c.head + 2 := by
  rcases Decidable.em (i = 2 ∨ i = c.head ∨ i = c.head + 2) with q | q
  · exact q
  · have : Maps.has D (.int .i64 i) = false := has_false_of_atKey (h.rest _ (lit_ne (fun e => q (.inl e))) (lit_ne (fun e => q (.inr (.inl e)))) (lit_ne (fun e => q (.inr (.inr e)))))
    rw [this] at hi; cases hi
theorem Holds.at (hc : c.inb) {i v : Int} (h : Holds c true true true D) (hat : ∀ d, D.atKey (.int .i64 i) d = .lit (.int .i64 v)) : v = c.lies i := by
  have k1 := hc.k1
  have k2 := hc.k2
  have k3 := c.k3
  unfold Cf.lies
  rcases h.key (has_true_of_atKey hat) with rfl | rfl | rfl
  · have := (hat .nil).symm.trans (h.one _); cases this; rfl
  · have := (hat .nil).symm.trans (h.two _); cases this; rw [if_neg k1.symm, if_pos rfl]
  · have := (hat .nil).symm.trans (h.three _); cases this; rw [if_neg k2.symm, if_neg k3.symm, if_pos rfl]
theorem Holds.not {i : Int} (h : Holds c true true true D) (hi : Maps.has D (.int .i64 i) = false) : c.lies i = 0 := by
  unfold Cf.lies
  by_cases h1 : i = 2
  · subst h1; rw [has_true_of_atKey (fun z => (h.one z).trans (if_pos rfl))] at hi; cases hi
  · by_cases h2 : i = c.head
    · subst h2; rw [has_true_of_atKey (fun z => (h.two z).trans (if_pos rfl))] at hi; cases hi
    · by_cases h3 : i = c.head + 2
      · subst h3; rw [has_true_of_atKey (fun z => (h.three z).trans (if_pos rfl))] at hi; cases hi
      · rw [if_neg h1, if_neg h2, if_neg h3]
end

/-- The new arena. -/
def Cf.arena (c : Cf) : Vw := ⟨(List.range c.words.toNat).map (fun i : Nat => c.lies i), 0, Acc.zero⟩
theorem Cf.arena_of {c : Cf} {V : Vw} (hl : V.ws.length = c.words.toNat) (hn : V.n = 0) (hz : V.last = Acc.zero) (hr : ∀ i, V.rd i = c.lies i) : V = c.arena := by
  obtain ⟨ws, n, last⟩ := V
  simp only at hl hn hz
  subst hn hz
  unfold Cf.arena
  congr 1
  apply List.ext_getElem
  · simp [hl]
  · intro i h1 h2
    have := hr i
    unfold Vw.rd at this
    rw [if_pos ⟨by omega, by simpa using h1⟩] at this
    simpa [h1] using this

/-- What a call that makes an arena, or fails, leaves. -/
def MadeE (w0 : World) (h : GH) (V : Vw) (e : Ending) (w' : World) : Prop :=
  ∃ a d h', e = .returned (.tuple #[.pointer (some ⟨a, 0, none⟩), .nilIface]) ∧ h a = none ∧ h d = none ∧ Mem w0 h' w' ∧ IsV h' a d V ∧ ∀ k, k ≠ a → k ≠ d → h' k = h k

/-- What the region's operations keep. -/
def Kept (h h' : GH) : Prop := ∀ k o, h k = some o → h' k = some o
theorem Kept.refl (h : GH) : Kept h h := fun _ _ e => e
theorem Kept.upd {h h' : GH} {k : Nat} {o : Obj} (hk : Kept h h') (hn : h k = none) : Kept h (upd h' k o) := fun j x hj => by
  rw [upd_other _ _ (ne_of_none hj hn)]; exact hk j x hj
theorem kept_none {h h' : GH} {k : Nat} (hk : Kept h h') (hn : h' k = none) : h k = none := by
  cases e : h k with
  | none => rfl
  | some x => rw [hk k x e] at hn; cases hn

theorem upd_none {h : GH} {k j : Nat} {o : Obj} (e : upd h k o j = none) : h j = none := by
  by_cases q : j = k
  · subst q; rw [upd_same] at e; cases e
  · rwa [upd_other _ _ q] at e
theorem upd_fresh {w0 w : World} {h : GH} (m : Mem w0 h w) {k : Nat} {o o' : Obj} (e : h k = some o) : upd h w.heap.size o' k = some o := by
  have := m.lt e
  rw [upd_other _ _ (by omega)]; exact e
theorem IsV.rg_apart {H : Type} {h : GH} {a d b r n cnt : Nat} {V : Vw} {P : Program} {k : TypeId} {R : Value → Option (DataW H × List MemPlace)} {D : DataW H} {left : Lit → Bool} (hv : IsV h a d V) (hi : IsRg h P k R b r n D left cnt) : (r ≠ a ∧ r ≠ d) ∧ b ≠ a ∧ b ≠ d := by
  obtain ⟨x, hx⟩ := hv.some_a
  obtain ⟨y, hy⟩ := hv.some_d
  exact ⟨⟨(hi.ne hx).2, (hi.ne hy).2⟩, (hi.ne hx).1, (hi.ne hy).1⟩
theorem same_int (a b : Int) : (Lit.int .i64 a).sameKey (.int .i64 b) = decide (a = b) := by simp [Lit.sameKey]

set_option maxRecDepth 100000 in
set_option maxHeartbeats 4000000 in
theorem make_good (c : Cf) (hw : c.wf) (h0 : c.is = 0) {w0 w : World} {h : GH} (hm : Mem w0 h w) :
    Calls Try.prog 32 #[encC c] w (MadeE w0 h c.arena) := by
  have hmm := @run_makeMap Try.prog
  have hg : ¬ c.bad := fun q => by unfold Cf.is at h0; rw [if_pos q] at h0; cases h0
  have hi := Cf.inb_of hg
  obtain ⟨_, _, _, ⟨g4, g5⟩, _⟩ := Cf.good_of hg
  have hIs := is_calls_c c hw
  rw [h0] at hIs
  unfold encE at hIs
  rw [if_pos rfl] at hIs
  have hn : (clamp c.words 1 20000).toNat = c.words.toNat := by unfold clamp; omega
  have Ht := fun w => top_calls c hi w
  have Hh := fun w => head_calls c hi w
  have Hf := fun w => first_calls c hi w
  have hb : 8 ≤ c.head ∧ c.head ≤ 15 := by have := hi.t0; have := hi.t1; unfold Cf.head; omega
  have hb2 : 15 ≤ c.first ∧ c.first ≤ 22 := by unfold Cf.first; omega
  have hb3 : 25 ≤ c.top ∧ c.top ≤ 77 := by have := hi.c0; have := hi.c1; unfold Cf.top Cf.size; omega
  have htw : c.top ≤ c.words := by unfold Cf.is at h0; rw [if_neg hg] at h0; rcases Decidable.em (c.top > c.words) with q | q
                                   · rw [if_pos q] at h0; cases h0
                                   · omega
  obtain ⟨hb0, hb1⟩ := hb
  obtain ⟨hb4, hb5⟩ := hb2
  obtain ⟨hb6, hb7⟩ := hb3
  have e6 : IntKind.i64.wrap c.head = c.head := by rw [IntKind.wrap_i64]; omega
  have e10 : IntKind.i64.wrap (c.head + 2) = c.head + 2 := by rw [IntKind.wrap_i64]; omega
  have e13 : IntKind.i64.wrap (2 * c.first) = 2 * c.first := by rw [IntKind.wrap_i64]; omega
  unfold encC at *
  go_enter Try.func32, Try.ntmps32
  go_wp2_with fail
  (with_reducible refine (hIs _).mono ?_)
  rintro e w1 ⟨rfl, b1⟩
  have m1 := (hm.keep #[.int .i64 c.threads, .int .i64 c.cap, .int .i64 c.words, .int .i64 c.versions] 29).grown b1
  have c2 : w1.cell? ⟨w.heap.size, 2, none⟩ = some (.int .i64 c.words) := m1.cell (upd_same _ _ _) 2
  go_wp2_with fail
  (with_reducible refine (new_x _ hn m1).mono ?_)
  rintro e w2 ⟨a, d, h2, rfl, fa, fd, m2, v2, k2⟩
  have hcf : h2 w.heap.size = some (.cells #[.int .i64 c.threads, .int .i64 c.cap, .int .i64 c.words, .int .i64 c.versions] 29) := (k2 _ (ne_of_none (upd_same _ _ _) fa) (ne_of_none (upd_same _ _ _) fd)).trans (upd_same _ _ _)
  have FA := upd_none fa
  have FD := upd_none fd
  have HK : ∀ k o, h k = some o → h2 k = some o := fun k o e => (k2 k (ne_of_none (upd_fresh hm e) fa) (ne_of_none (upd_fresh hm e) fd)).trans (upd_fresh hm e)
  have KA : ∀ {hx : GH}, Kept h2 hx → hx a = h2 a := fun q => by obtain ⟨x, hx⟩ := v2.some_a; rw [hx]; exact q _ _ hx
  have KD : ∀ {hx : GH}, Kept h2 hx → hx d = h2 d := fun q => by obtain ⟨x, hx⟩ := v2.some_d; rw [hx]; exact q _ _ hx
  clear c2 hIs b1 m1 k2 fa fd
  go_wp2_with fail
  have hbn : ∀ (n : Nat) (x y z : Bool), n ≤ x.toNat + y.toNat + z.toNat → n < maxLen := fun n x y z h => by
    have h1 : ∀ b : Bool, b.toNat ≤ 1 := fun b => by cases b <;> decide
    have := h1 x; have := h1 y; have := h1 z; unfold maxLen; omega
  refine region_inv (by kernel_rfl) (by kernel_rfl) (fun l s wx => ∃ (b0 b1 b2 b3 b4 b5 b6 b7 b8 b9 b10 b11 b12 b13 b14 b15 b16 : Bool) (v16 v17 v18 v19 v20 v21 v22 v23 v24 v25 v26 v27 v28 v29 : Value) (hx : GH), l = #[b0, b1, b2, b3, b4, b5, b6, b7, b8, b9, b10, b11, b12, b13, b14, b15, b16] ∧ s = ⟨#[.agg #[.int .i64 c.threads, .int .i64 c.cap, .int .i64 c.words, .int .i64 c.versions], .pointer (some ⟨w.heap.size, 0, none⟩), .pointer none, .nilIface, .nilIface, .pointer (some ⟨a, 0, none⟩), undef, undef, .agg #[.int .i64 c.threads, .int .i64 c.cap, .int .i64 c.words, .int .i64 c.versions], .nilIface, .nilIface, .bool false, undef, .pointer (some ⟨w.heap.size, 2, none⟩), .int .i64 c.words, .pointer (some ⟨a, 0, none⟩), v16, v17, v18, v19, v20, v21, v22, v23, v24, v25, v26, v27, v28, v29, undef, undef, undef, undef, undef, undef, undef, undef, undef, undef], []⟩ ∧ Mem w0 hx wx ∧ Kept h2 hx ∧ (b0 = false → b3 = false ∧ b7 = false ∧ b14 = false) ∧
      (b0 = true → ∃ b n D, v16 = .map (some b) ∧ IsM hx Try.prog 3 (plainElem Try.prog 3) b n D ∧ h2 b = none ∧ n ≤ b3.toNat + b7.toNat + b14.toNat ∧ Holds c b3 b7 b14 D) ∧
      (b1 = true → v17 = .agg #[.int .i64 c.threads, .int .i64 c.cap, .int .i64 c.words, .int .i64 c.versions]) ∧
      (b2 = true → v18 = .int .i64 c.top) ∧
      (b4 = true → v19 = .agg #[.int .i64 c.threads, .int .i64 c.cap, .int .i64 c.words, .int .i64 c.versions]) ∧
      (b5 = true → v20 = .int .i64 c.head) ∧
      (b6 = true → v21 = .int .i64 c.head) ∧
      (b8 = true → v22 = .agg #[.int .i64 c.threads, .int .i64 c.cap, .int .i64 c.words, .int .i64 c.versions]) ∧
      (b9 = true → v23 = .int .i64 c.head) ∧
      (b10 = true → v24 = .int .i64 (c.head + 2)) ∧
      (b11 = true → v25 = .agg #[.int .i64 c.threads, .int .i64 c.cap, .int .i64 c.words, .int .i64 c.versions]) ∧
      (b12 = true → v26 = .int .i64 c.first) ∧
      (b13 = true → v27 = .int .i64 (2 * c.first)) ∧
      (b15 = true → v28 = v16 ∧ b0 = true ∧ b3 = true ∧ b7 = true ∧ b14 = true) ∧
      (b16 = true → b15 = true ∧ ∃ b r n D, v29 = .pointer (some ⟨r, 0, none⟩) ∧ h2 b = none ∧ h2 r = none ∧ IsRg hx Try.prog 3 (plainElem Try.prog 3) b r n D (Maps.has D) (Maps.size D) ∧ Holds c true true true D)) ?h0 ?hsz ?hend ?hstep
  case h0 =>
    exact ⟨false, false, false, false, false, false, false, false, false, false, false, false, false, false, false, false, false, undef, undef, undef, undef, undef, undef, undef, undef, undef, undef, undef, undef, undef, undef, h2, rfl, rfl, m2.drew, Kept.refl _, fun _ => ⟨rfl, rfl, rfl⟩, fun q => absurd q (by decide), fun q => absurd q (by decide), fun q => absurd q (by decide), fun q => absurd q (by decide), fun q => absurd q (by decide), fun q => absurd q (by decide), fun q => absurd q (by decide), fun q => absurd q (by decide), fun q => absurd q (by decide), fun q => absurd q (by decide), fun q => absurd q (by decide), fun q => absurd q (by decide), fun q => absurd q (by decide), fun q => absurd q (by decide)⟩
  case hsz =>
    rintro l s wx ⟨b0, b1, b2, b3, b4, b5, b6, b7, b8, b9, b10, b11, b12, b13, b14, b15, b16, v16, v17, v18, v19, v20, v21, v22, v23, v24, v25, v26, v27, v28, v29, hx, rfl, rfl, mx, kx, g0, f0, f1, f2, f4, f5, f6, f8, f9, f10, f11, f12, f13, f15, f16⟩
    rfl
  case hstep =>
    rintro i o ho l s wx ⟨b0, b1, b2, b3, b4, b5, b6, b7, b8, b9, b10, b11, b12, b13, b14, b15, b16, v16, v17, v18, v19, v20, v21, v22, v23, v24, v25, v26, v27, v28, v29, hx, rfl, rfl, mx, kx, g0, f0, f1, f2, f4, f5, f6, f8, f9, f10, f11, f12, f13, f15, f16⟩ hun hd K hK
    have cx := kx _ _ hcf
    have q0 : wx.cell? ⟨w.heap.size, 0, none⟩ = some (.int .i64 c.threads) := mx.cell cx 0
    have q1 : wx.cell? ⟨w.heap.size, 1, none⟩ = some (.int .i64 c.cap) := mx.cell cx 1
    have q2 : wx.cell? ⟨w.heap.size, 2, none⟩ = some (.int .i64 c.words) := mx.cell cx 2
    have q3 : wx.cell? ⟨w.heap.size, 3, none⟩ = some (.int .i64 c.versions) := mx.cell cx 3
    have hi17 : i < 17 := (Array.getElem?_eq_some_iff.1 ho).1
    rcases (by omega : i = 0 ∨ i = 1 ∨ i = 2 ∨ i = 3 ∨ i = 4 ∨ i = 5 ∨ i = 6 ∨ i = 7 ∨ i = 8 ∨ i = 9 ∨ i = 10 ∨ i = 11 ∨ i = 12 ∨ i = 13 ∨ i = 14 ∨ i = 15 ∨ i = 16) with rfl | rfl | rfl | rfl | rfl | rfl | rfl | rfl | rfl | rfl | rfl | rfl | rfl | rfl | rfl | rfl | rfl
    · cases ho
      obtain rfl : b0 = false := hun
      obtain ⟨rfl, rfl, rfl⟩ := g0 rfl
      rw [if_pos (by rfl)]
      go_simp
      have hfr := kept_none kx (mx.fresh (Nat.le_refl _))
      exact hK _ _ ⟨true, b1, b2, false, b4, b5, b6, false, b8, b9, b10, b11, b12, b13, false, b15, b16, _, v17, v18, v19, v20, v21, v22, v23, v24, v25, v26, v27, v28, v29, _, rfl, rfl, (mx.keepO _), (kx.upd hfr), (fun q => nomatch q), fun _ => ⟨_, 0, _, rfl, IsM.made _ _ _ _ _, hfr, Nat.zero_le _, Holds.made c⟩, f1, f2, f4, f5, f6, f8, f9, f10, f11, f12, f13, (fun q => nomatch (f15 q).2.1), (fun q => nomatch (f15 (f16 q).1).2.1)⟩
    · cases ho
      rw [if_pos (by rfl)]
      go_simp
      exact hK _ _ ⟨b0, true, b2, b3, b4, b5, b6, b7, b8, b9, b10, b11, b12, b13, b14, b15, b16, v16, _, v18, v19, v20, v21, v22, v23, v24, v25, v26, v27, v28, v29, hx, rfl, rfl, mx, kx, g0, f0, fun _ => rfl, f2, f4, f5, f6, f8, f9, f10, f11, f12, f13, f15, f16⟩
    · cases ho
      obtain rfl : b1 = true := hd ⟨1, .data⟩ (by simp) rfl
      obtain rfl := f1 rfl
      rw [if_pos (by rfl)]
      go_simp
      (with_reducible refine (Ht _).mono ?_)
      rintro e wy ⟨rfl, by'⟩
      exact hK _ _ ⟨b0, true, true, b3, b4, b5, b6, b7, b8, b9, b10, b11, b12, b13, b14, b15, b16, v16, _, _, v19, v20, v21, v22, v23, v24, v25, v26, v27, v28, v29, hx, rfl, rfl, (mx.grown by'), kx, g0, f0, f1, fun _ => rfl, f4, f5, f6, f8, f9, f10, f11, f12, f13, f15, f16⟩
    · cases ho
      obtain rfl : b0 = true := hd ⟨0, .data⟩ (by simp) rfl
      obtain rfl : b2 = true := hd ⟨2, .data⟩ (by simp) rfl
      obtain rfl := f2 rfl
      obtain rfl : b3 = false := hun
      obtain ⟨b, n, D, rfl, iM, hb2, hnn, hD⟩ := f0 rfl
      obtain ⟨wy, hrun, own1, grow1⟩ := (iM.owns mx).update lawI Try.underlying106 (hbn _ _ _ _ hnn) (keyOf_int_mk Try.underlying3 (a := 2) (by decide)) (plainElem_int Try.underlying3 (a := c.top) (wf_i64_of (by omega) (by omega)))
      obtain ⟨o', mo, io⟩ := iM.turned mx grow1 own1
      rw [if_pos (by rfl)]
      go_simp
      exact hK _ _ ⟨true, b1, true, true, b4, b5, b6, b7, b8, b9, b10, b11, b12, b13, b14, b15, b16, _, v17, _, v19, v20, v21, v22, v23, v24, v25, v26, v27, v28, v29, _, rfl, rfl, mo, (kx.upd hb2), (fun q => nomatch q), fun _ => ⟨b, n + 1, _, rfl, io, hb2, by simp only [Bool.toNat_true, Bool.toNat_false] at hnn ⊢; omega, hD.put1 hi⟩, f1, f2, f4, f5, f6, f8, f9, f10, f11, f12, f13, (fun q => nomatch (f15 q).2.2.1), (fun q => nomatch (f15 (f16 q).1).2.2.1)⟩
    · cases ho
      rw [if_pos (by rfl)]
      go_simp
      exact hK _ _ ⟨b0, b1, b2, b3, true, b5, b6, b7, b8, b9, b10, b11, b12, b13, b14, b15, b16, v16, v17, v18, _, v20, v21, v22, v23, v24, v25, v26, v27, v28, v29, hx, rfl, rfl, mx, kx, g0, f0, f1, f2, fun _ => rfl, f5, f6, f8, f9, f10, f11, f12, f13, f15, f16⟩
    · cases ho
      obtain rfl : b4 = true := hd ⟨4, .data⟩ (by simp) rfl
      obtain rfl := f4 rfl
      rw [if_pos (by rfl)]
      go_simp
      (with_reducible refine (Hh _).mono ?_)
      rintro e wy ⟨rfl, by'⟩
      exact hK _ _ ⟨b0, b1, b2, b3, true, true, b6, b7, b8, b9, b10, b11, b12, b13, b14, b15, b16, v16, v17, v18, _, _, v21, v22, v23, v24, v25, v26, v27, v28, v29, hx, rfl, rfl, (mx.grown by'), kx, g0, f0, f1, f2, f4, fun _ => rfl, f6, f8, f9, f10, f11, f12, f13, f15, f16⟩
    · cases ho
      obtain rfl : b5 = true := hd ⟨5, .data⟩ (by simp) rfl
      obtain rfl := f5 rfl
      rw [if_pos (by rfl)]
      go_simp
      exact hK _ _ ⟨b0, b1, b2, b3, b4, true, true, b7, b8, b9, b10, b11, b12, b13, b14, b15, b16, v16, v17, v18, v19, _, _, v22, v23, v24, v25, v26, v27, v28, v29, hx, rfl, rfl, mx, kx, g0, f0, f1, f2, f4, f5, fun _ => rfl, f8, f9, f10, f11, f12, f13, f15, f16⟩
    · cases ho
      obtain rfl : b0 = true := hd ⟨0, .data⟩ (by simp) rfl
      obtain rfl : b6 = true := hd ⟨6, .data⟩ (by simp) rfl
      obtain rfl := f6 rfl
      obtain rfl : b7 = false := hun
      obtain ⟨b, n, D, rfl, iM, hb2, hnn, hD⟩ := f0 rfl
      obtain ⟨wy, hrun, own1, grow1⟩ := (iM.owns mx).update lawI Try.underlying106 (hbn _ _ _ _ hnn) (keyOf_int_mk Try.underlying3 (a := c.head) (wf_i64_of (by omega) (by omega))) (plainElem_int Try.underlying3 (a := (-1)) (by decide))
      obtain ⟨o', mo, io⟩ := iM.turned mx grow1 own1
      rw [if_pos (by rfl)]
      go_simp
      exact hK _ _ ⟨true, b1, b2, b3, b4, b5, true, true, b8, b9, b10, b11, b12, b13, b14, b15, b16, _, v17, v18, v19, v20, _, v22, v23, v24, v25, v26, v27, v28, v29, _, rfl, rfl, mo, (kx.upd hb2), (fun q => nomatch q), fun _ => ⟨b, n + 1, _, rfl, io, hb2, by simp only [Bool.toNat_true, Bool.toNat_false] at hnn ⊢; omega, hD.put2 hi⟩, f1, f2, f4, f5, f6, f8, f9, f10, f11, f12, f13, (fun q => nomatch (f15 q).2.2.2.1), (fun q => nomatch (f15 (f16 q).1).2.2.2.1)⟩
    · cases ho
      rw [if_pos (by rfl)]
      go_simp
      exact hK _ _ ⟨b0, b1, b2, b3, b4, b5, b6, b7, true, b9, b10, b11, b12, b13, b14, b15, b16, v16, v17, v18, v19, v20, v21, _, v23, v24, v25, v26, v27, v28, v29, hx, rfl, rfl, mx, kx, g0, f0, f1, f2, f4, f5, f6, fun _ => rfl, f9, f10, f11, f12, f13, f15, f16⟩
    · cases ho
      obtain rfl : b8 = true := hd ⟨8, .data⟩ (by simp) rfl
      obtain rfl := f8 rfl
      rw [if_pos (by rfl)]
      go_simp
      (with_reducible refine (Hh _).mono ?_)
      rintro e wy ⟨rfl, by'⟩
      exact hK _ _ ⟨b0, b1, b2, b3, b4, b5, b6, b7, true, true, b10, b11, b12, b13, b14, b15, b16, v16, v17, v18, v19, v20, v21, _, _, v24, v25, v26, v27, v28, v29, hx, rfl, rfl, (mx.grown by'), kx, g0, f0, f1, f2, f4, f5, f6, f8, fun _ => rfl, f10, f11, f12, f13, f15, f16⟩
    · cases ho
      obtain rfl : b9 = true := hd ⟨9, .data⟩ (by simp) rfl
      obtain rfl := f9 rfl
      rw [if_pos (by rfl)]
      go_simp
      exact hK _ _ ⟨b0, b1, b2, b3, b4, b5, b6, b7, b8, true, true, b11, b12, b13, b14, b15, b16, v16, v17, v18, v19, v20, v21, v22, _, _, v25, v26, v27, v28, v29, hx, rfl, rfl, mx, kx, g0, f0, f1, f2, f4, f5, f6, f8, f9, fun _ => rfl, f11, f12, f13, f15, f16⟩
    · cases ho
      rw [if_pos (by rfl)]
      go_simp
      exact hK _ _ ⟨b0, b1, b2, b3, b4, b5, b6, b7, b8, b9, b10, true, b12, b13, b14, b15, b16, v16, v17, v18, v19, v20, v21, v22, v23, v24, _, v26, v27, v28, v29, hx, rfl, rfl, mx, kx, g0, f0, f1, f2, f4, f5, f6, f8, f9, f10, fun _ => rfl, f12, f13, f15, f16⟩
    · cases ho
      obtain rfl : b11 = true := hd ⟨11, .data⟩ (by simp) rfl
      obtain rfl := f11 rfl
      rw [if_pos (by rfl)]
      go_simp
      (with_reducible refine (Hf _).mono ?_)
      rintro e wy ⟨rfl, by'⟩
      exact hK _ _ ⟨b0, b1, b2, b3, b4, b5, b6, b7, b8, b9, b10, true, true, b13, b14, b15, b16, v16, v17, v18, v19, v20, v21, v22, v23, v24, _, _, v27, v28, v29, hx, rfl, rfl, (mx.grown by'), kx, g0, f0, f1, f2, f4, f5, f6, f8, f9, f10, f11, fun _ => rfl, f13, f15, f16⟩
    · cases ho
      obtain rfl : b12 = true := hd ⟨12, .data⟩ (by simp) rfl
      obtain rfl := f12 rfl
      rw [if_pos (by rfl)]
      go_simp
      exact hK _ _ ⟨b0, b1, b2, b3, b4, b5, b6, b7, b8, b9, b10, b11, true, true, b14, b15, b16, v16, v17, v18, v19, v20, v21, v22, v23, v24, v25, _, _, v28, v29, hx, rfl, rfl, mx, kx, g0, f0, f1, f2, f4, f5, f6, f8, f9, f10, f11, f12, fun _ => rfl, f15, f16⟩
    · cases ho
      obtain rfl : b0 = true := hd ⟨0, .data⟩ (by simp) rfl
      obtain rfl : b10 = true := hd ⟨10, .data⟩ (by simp) rfl
      obtain rfl : b13 = true := hd ⟨13, .data⟩ (by simp) rfl
      obtain rfl := f10 rfl
      obtain rfl := f13 rfl
      obtain rfl : b14 = false := hun
      obtain ⟨b, n, D, rfl, iM, hb2, hnn, hD⟩ := f0 rfl
      obtain ⟨wy, hrun, own1, grow1⟩ := (iM.owns mx).update lawI Try.underlying106 (hbn _ _ _ _ hnn) (keyOf_int_mk Try.underlying3 (a := (c.head + 2)) (wf_i64_of (by omega) (by omega))) (plainElem_int Try.underlying3 (a := (2 * c.first)) (wf_i64_of (by omega) (by omega)))
      obtain ⟨o', mo, io⟩ := iM.turned mx grow1 own1
      rw [if_pos (by rfl)]
      go_simp
      exact hK _ _ ⟨true, b1, b2, b3, b4, b5, b6, b7, b8, b9, true, b11, b12, true, true, b15, b16, _, v17, v18, v19, v20, v21, v22, v23, _, v25, v26, _, v28, v29, _, rfl, rfl, mo, (kx.upd hb2), (fun q => nomatch q), fun _ => ⟨b, n + 1, _, rfl, io, hb2, by simp only [Bool.toNat_true, Bool.toNat_false] at hnn ⊢; omega, hD.put3 hi⟩, f1, f2, f4, f5, f6, f8, f9, f10, f11, f12, f13, (fun q => nomatch (f15 q).2.2.2.2), (fun q => nomatch (f15 (f16 q).1).2.2.2.2)⟩
    · cases ho
      obtain rfl : b0 = true := hd ⟨0, .data⟩ (by simp) rfl
      obtain rfl : b1 = true := hd ⟨1, .data⟩ (by simp) rfl
      obtain rfl : b2 = true := hd ⟨2, .data⟩ (by simp) rfl
      obtain rfl : b3 = true := hd ⟨3, .data⟩ (by simp) rfl
      obtain rfl : b4 = true := hd ⟨4, .data⟩ (by simp) rfl
      obtain rfl : b5 = true := hd ⟨5, .data⟩ (by simp) rfl
      obtain rfl : b6 = true := hd ⟨6, .data⟩ (by simp) rfl
      obtain rfl : b7 = true := hd ⟨7, .data⟩ (by simp) rfl
      obtain rfl : b8 = true := hd ⟨8, .data⟩ (by simp) rfl
      obtain rfl : b9 = true := hd ⟨9, .data⟩ (by simp) rfl
      obtain rfl : b10 = true := hd ⟨10, .data⟩ (by simp) rfl
      obtain rfl : b11 = true := hd ⟨11, .data⟩ (by simp) rfl
      obtain rfl : b12 = true := hd ⟨12, .data⟩ (by simp) rfl
      obtain rfl : b13 = true := hd ⟨13, .data⟩ (by simp) rfl
      obtain rfl : b14 = true := hd ⟨14, .data⟩ (by simp) rfl
      obtain rfl := f1 rfl
      obtain rfl := f2 rfl
      obtain rfl := f4 rfl
      obtain rfl := f5 rfl
      obtain rfl := f6 rfl
      obtain rfl := f8 rfl
      obtain rfl := f9 rfl
      obtain rfl := f10 rfl
      obtain rfl := f11 rfl
      obtain rfl := f12 rfl
      obtain rfl := f13 rfl
      rw [if_pos (by rfl)]
      go_simp
      exact hK _ _ ⟨true, true, true, true, true, true, true, true, true, true, true, true, true, true, true, true, b16, v16, _, _, _, _, _, _, _, _, _, _, _, v16, v29, hx, rfl, rfl, mx, kx, g0, f0, f1, f2, f4, f5, f6, f8, f9, f10, f11, f12, f13, fun _ => ⟨rfl, rfl, rfl, rfl, rfl⟩, fun q => ⟨rfl, (f16 q).2⟩⟩
    · cases ho
      obtain rfl : b15 = true := hd ⟨15, .data⟩ (by simp) rfl
      obtain ⟨rfl, rfl, rfl, rfl, rfl⟩ := f15 rfl
      obtain ⟨b, n, D, rfl, iM, hb2, hnn, hD⟩ := f0 rfl
      obtain ⟨wy, hrun, rg1, grow1, _⟩ := (iM.owns mx).range lawI Try.underlying106
      obtain ⟨o', mo, io, im⟩ := IsRg.start iM mx grow1 rg1
      have hr2 := kept_none kx (mx.fresh (Nat.le_refl _))
      rw [if_pos (by rfl)]
      go_simp
      exact hK _ _ ⟨true, b1, b2, true, b4, b5, b6, true, b8, b9, b10, b11, b12, b13, true, true, true, _, v17, v18, v19, v20, v21, v22, v23, v24, v25, v26, v27, _, _, _, rfl, rfl, mo, (kx.upd hr2), (fun q => nomatch q), fun _ => ⟨b, n, D, rfl, im, hb2, hnn, hD⟩, f1, f2, f4, f5, f6, f8, f9, f10, f11, f12, f13, fun _ => ⟨rfl, rfl, rfl, rfl, rfl⟩, fun _ => ⟨rfl, b, _, n, D, rfl, hb2, hr2, io, hD⟩⟩
  case hend =>
    rintro l s wx ⟨b0, b1, b2, b3, b4, b5, b6, b7, b8, b9, b10, b11, b12, b13, b14, b15, b16, v16, v17, v18, v19, v20, v21, v22, v23, v24, v25, v26, v27, v28, v29, hx, rfl, rfl, mx, kx, g0, f0, f1, f2, f4, f5, f6, f8, f9, f10, f11, f12, f13, f15, f16⟩ hall
    obtain rfl : b16 = true := hall 16 (by decide)
    obtain ⟨_, b, r, n, D, rfl, hb2, hr2, iR, hD⟩ := f16 rfl
    have ISV : IsV hx a d (Vw.fresh c.words.toNat) := (v2.keep (KA kx) (KD kx))
    clear g0 f0 f1 f2 f4 f5 f6 f8 f9 f10 f11 f12 f13 f15 f16 hall KA KD
    go_wp2_with fail
    go_loopw [30] (fun _ wr => ∃ (left : Lit → Bool) (cnt : Nat) (hy : GH) (V : Vw), Mem w0 hy wr ∧ IsRg hy Try.prog 3 (plainElem Try.prog 3) b r n D left cnt ∧ IsV hy a d V ∧ (∀ k o, k ≠ a → k ≠ d → h2 k = some o → hy k = some o) ∧ V.n = 0 ∧ V.last = Acc.zero ∧ V.ws.length = c.words.toNat ∧ ∀ i, V.rd i = if left (.int .i64 i) = true then 0 else c.lies i)
      (fun _ wr => wr.rangeLeft b r)
    case atStart =>
      refine ⟨_, _, hx, _, mx, iR, ISV, fun k o _ _ e => kx k o e, rfl, rfl, List.length_replicate, fun i => ?_⟩
      rw [fresh_rd]
      cases e : Maps.has D (.int .i64 i) with
      | true => rw [if_pos rfl]
      | false => rw [if_neg (by decide), hD.not e]
    case round =>
      obtain ⟨left, cnt, hy, V, my, iy, vy, ky, vn, vl, vws, vrd⟩ := hrel
      clear mx iR
      have hrg := iy.ranges my
      go_wp2_with (first
        | (at_next; refine wpList_next_ranges_ii _ rfl _ rfl 3 3 .i64 .i64 lawI Try.underlying3 Try.underlying3 b r n _ _ _ rfl hrg ?_ ?_)
        | go_in)
      · intro _ hl0
        have hV : V = c.arena := Cf.arena_of vws vn vl (fun i => by rw [vrd, hl0, if_neg (by decide)])
        subst hV
        go_wp2_with fail
        refine bodyPost_ret (v := .tuple #[.pointer (some ⟨a, 0, none⟩), .nilIface]) (by simp [results, Try.results32, go_sem]) rfl ?_
        refine ⟨a, d, fun k => if k = a ∨ k = d then hy k else h k, rfl, FA, FD, my.less ?_, vy.keep (if_pos (.inl rfl)) (if_pos (.inr rfl)), fun k n1 n2 => if_neg (fun q => q.elim n1 n2)⟩
        intro k o hk
        by_cases q : k = a ∨ k = d
        · rw [if_pos q] at hk; exact hk
        · rw [if_neg q] at hk
          exact ky k o (fun e => q (.inl e)) (fun e => q (.inr e)) (HK k o hk)
      · intro x cv w1 cnt1 hwx hwc hlx hat hrg1 hlt hg1 hs1 hen
        have hval := hD.at hi hat
        subst hval
        have hin : V.inb x := by
          have := hi.t0; have hx0 := hD.key (has_true_of_atKey hat)
          unfold Vw.inb; rw [vws]
          rcases hx0 with rfl | rfl | rfl <;> omega
        obtain ⟨o', mo, io⟩ := iy.turned my hg1 hrg1
        obtain ⟨⟨vn1, vn2⟩, vn3, vn4⟩ := vy.rg_apart iy
        have vo := vy.keep (upd_other hy o' (Ne.symm vn1)) (upd_other hy o' (Ne.symm vn2))
        go_wp2_with fail
        (with_reducible refine (poke_v a d V x _ mo vo).mono ?_)
        rintro e w3 ⟨rfl, h3, m3, v3, k3⟩
        have ik := io.keep (k3 _ vn3 vn4) (k3 _ vn1 vn2)
        go_wp2_with fail
        go_roundw
        case rel =>
          refine ⟨_, cnt1, h3, _, m3, ik, v3, fun k o n1 n2 e => (k3 k n1 n2).trans ?_, (vwr_n _ _ _).trans vn, (vwr_last _ _ _).trans vl, (vwr_len _ _ _).trans vws, fun i => ?_⟩
          · rw [upd_other _ _ (ne_of_none e hr2)]; exact ky k o n1 n2 e
          · rw [rd_wr _ _ _ _ hin, vrd, same_int]
            by_cases e : x = i
            · subst e; rw [if_pos rfl, decide_eq_true rfl]; simp
            · rw [if_neg e, decide_eq_false (Ne.symm e)]; simp
        case measure => rw [(ik.ranges m3).left_eq, hrg.left_eq]; exact hlt
end Go.Proofs.Ytdmodejpcfhbhaa
