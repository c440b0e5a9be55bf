/- Operations on rows: as they are told, and as they go. -/
import Derived.Test.YtdmodejpcfhbhaaSxX
import Derived.Laws.MakeOwn
import Derived.Great.BuildSlice
namespace Go.Proofs.Ytdmodejpcfhbhaa
open Go.RowKit

section
variable {P : Program} {W : World} {w0 w : World} {L : Nat → Prop} {ρ : Ren} {H : HX} {h : GH}
/-- What a row's cells hold, as memory is. -/
def Lies (w : World) (k : Nat) (lo n : Nat) (c : Rw) : Prop := ∀ j, lo ≤ j → j < n → w.cell? ⟨k, j, none⟩ = some (c.get j)
theorem old_lies (hn : Now (means W) w0 L ρ H h w) {i lo n : Nat} {p : Bool} {c : Rw} (hi : nth H i = some (p, .ext (.old lo n c))) : Lies w (ρ.k i) lo n c := by
  obtain ⟨he, hc⟩ := hn.sat.obj i p _ hi
  have hW : w0 = W := hn.org
  subst hW
  intro j h0 hj
  have := hn.mem.cell_old (k := ρ.k i) (hc j h0 hj).1
  rw [show w.cell? ⟨ρ.k i, j, none⟩ = w0.cell? ⟨ρ.k i, j, none⟩ from by unfold World.cell?; simp only [this]]
  exact (hc j h0 hj).2
theorem row_lies (hn : Now (means W) w0 L ρ H h w) {i s n : Nat} {p : Bool} {T : TypeId} {c : Rw} (hi : nth H i = some (p, .ext (.row T s n c))) : Lies w (ρ.k i) 0 (n * s) c := by
  obtain ⟨he, cur, h1, h2, h3, h4, h5⟩ := hn.sat.obj i p _ hi
  intro j _ hj
  show w.cell? ⟨(ρ.b i).1, j, none⟩ = _
  rw [hn.mem.cell h1]; exact h5 j hj
theorem fix_lies (hn : Now (means W) w0 L ρ H h w) {i n : Nat} {p : Bool} {c : Rw} (hi : nth H i = some (p, .ext (.fix n c))) : Lies w (ρ.k i) 0 n c := by
  obtain ⟨he, cur, T, h1, h2, h3⟩ := hn.sat.obj i p _ hi
  intro j _ hj
  show w.cell? ⟨(ρ.b i).1, j, none⟩ = _
  rw [hn.mem.cell h1]; exact h3 j hj
theorem cellsG_rel (c : Rw) : ∀ (n off : Nat) {L : Nat → Prop} {r : Nat → Nat × Nat}, VRL L r (cellsG c off n) (cellsG c off n)
  | 0, _, _, _ => .nil
  | n + 1, off, _, _ => .cons (.plain (c.plain off)) (cellsG_rel c n (off + 1))
theorem liesL_run {k lo n : Nat} {c : Rw} (hl : Lies w k lo n c) (off : Nat) (h0 : lo ≤ off) : ∀ (z i : Nat) (acc : List Value), off + i + z ≤ n →
    (loadCellsFrom ⟨k, off, none⟩ i z ⟨acc⟩).run P w = .ok ⟨acc ++ cellsG c (off + i) z⟩ w
  | 0, i, acc, _ => by simp [loadCellsFrom, go_sem, cellsG]
  | z + 1, i, acc, h => by
    have hcell : w.cell? (Addr.add ⟨k, off, none⟩ i) = some (c.get (off + i)) := by rw [Addr.add_lit]; exact hl _ (by omega) (by omega)
    have ih := liesL_run hl off h0 z (i + 1) (acc ++ [c.get (off + i)]) (by omega)
    show (Sem.load .plain (Addr.add ⟨k, off, none⟩ i) fun v => loadCellsFrom ⟨k, off, none⟩ (i + 1) z (Array.push ⟨acc⟩ v)).run P w = _
    rw [ld_run hcell, List.push_toArray, ih]
    simp [cellsG, Nat.add_assoc]
theorem read_run {k lo n : Nat} {c : Rw} (hl : Lies w k lo n c) {T : TypeId} {off : Nat} {v : Value} {H' : HX} (ht : (tRead P T off lo n c H).out = some (v, H')) :
    H' = H ∧ (Instr.loadAt T (.pointer (some ⟨k, off, none⟩))).run P w = .ok v w ∧ VR L ρ.b v v := by
  unfold tRead at ht
  split at ht
  · rename_i ha
    split at ht
    · rename_i z hz
      simp only [DT.out] at ht
      split at ht <;> try (cases ht; done)
      rename_i hd
      cases ht
      obtain ⟨j, hj, rfl⟩ := Option.map_eq_some_iff.1 hz
      obtain ⟨hlo, hle⟩ := of_decide_eq_true hd
      refine ⟨rfl, ?_, .agg (cellsG_rel c _ _)⟩
      have := liesL_run (P := P) hl off hlo j.size 0 [] (by omega)
      simp [Instr.loadAt, Instr.sureAddr, loadVar, go_sem, agg_run ha, siz_run hj, loadCells, this]
    · cases ht
  · rename_i ha
    simp only [DT.out] at ht
    split at ht <;> try (cases ht; done)
    rename_i hd
    cases ht
    refine ⟨rfl, ?_, .plain (c.plain off)⟩
    show (loadVar T ⟨k, off, none⟩).run P w = _
    unfold loadVar
    rw [bnd_run (agg_run ha w)]
    exact ld_run (hl off (of_decide_eq_true hd).1 (of_decide_eq_true hd).2)
  · cases ht

theorem tLoad_sound {o : Oper} {T : TypeId} {x : Operand} (ho : o.op = .load T x) {i off : Nat} {v : Value} {H' : HX} (ht : (tLoad P T i off H).out = some (v, H')) :
    OWP P (means W) o [.pointer (some ⟨i, off, none⟩)] H fun a b => a = v ∧ b = H' := by
  have key : H' = H ∧ ∀ (w0 w : World) (L : Nat → Prop) (h : GH) (ρ : Ren), Now (means W) w0 L ρ H h w → (Instr.loadAt T (.pointer (some ⟨(ρ.b i).1, off, none⟩))).run P w = .ok v w ∧ VR L ρ.b v v := by
    unfold tLoad at ht
    have tr : ∀ {lo n : Nat} {c : Rw}, (tRead P T off lo n c H).out = some (v, H') → H' = H := fun ht => by
      unfold tRead at ht
      (repeat' (split at ht)) <;> simp only [DT.out] at ht <;> (repeat' (split at ht)) <;> first | (cases ht; rfl) | cases ht
    split at ht
    · rename_i p lo n c hi
      exact ⟨tr ht, fun w0 w L h ρ hn => (read_run (P := P) (L := L) (ρ := ρ) (old_lies hn hi) ht).2⟩
    · rename_i p U s n c hi
      exact ⟨tr ht, fun w0 w L h ρ hn => (read_run (P := P) (L := L) (ρ := ρ) (row_lies hn hi) ht).2⟩
    · rename_i p n c hi
      exact ⟨tr ht, fun w0 w L h ρ hn => (read_run (P := P) (L := L) (ρ := ρ) (fix_lies hn hi) ht).2⟩
    · cases ht
  obtain ⟨rfl, key⟩ := key
  refine OWP.look fun w0 w L h ρ ev hn hv => ?_
  obtain ⟨h1, h2⟩ := key w0 w L h ρ hn
  refine ⟨v, ?_, h2⟩
  rw [show opndsL o.op = [x] from by rw [ho]; rfl] at hv
  cases hv with
  | cons h0 _ =>
    unfold execOp
    simp only [ho]
    rw [h0.ptr_eq.2]
    exact val_run h1

/-! ### store -/
theorem lay_get : ∀ {vs : List Value} {c c' : Rw} {off : Nat}, c.lay off vs = some c' → vs.all Go.Proofs.Ytdmodejpcfhbhaa.plain = true ∧ vs.all Go.Proofs.Ytdmodejpcfhbhaa.one = true ∧ (∀ j, c'.get j = if off ≤ j ∧ j < off + vs.length then vs.getD (j - off) undef else c.get j)
  | [], c, c', off, h => by
    have : c = c' := by cases c <;> simpa [Rw.lay] using h
    subst this
    exact ⟨rfl, rfl, fun j => by rw [if_neg (by simp only [List.length_nil]; omega)]⟩
  | v :: vs, c, c', off, h => by
    have key : ∀ {d : Rw}, (∀ j, d.get j = if j = off then v else c.get j) → plain v = true → Go.Proofs.Ytdmodejpcfhbhaa.one v = true → d.lay (off + 1) vs = some c' → _ := fun {d} hd hp ho hl => by
      obtain ⟨h1, h3, h2⟩ := lay_get hl
      refine (⟨by simp [hp, h1], by simp [ho, h3], fun j => ?_⟩ : (v :: vs).all Go.Proofs.Ytdmodejpcfhbhaa.plain = true ∧ (v :: vs).all Go.Proofs.Ytdmodejpcfhbhaa.one = true ∧ (∀ j, c'.get j = if off ≤ j ∧ j < off + (v :: vs).length then (v :: vs).getD (j - off) undef else c.get j))
      rw [h2 j, hd j]
      simp only [List.length_cons]
      by_cases q : off + 1 ≤ j ∧ j < off + 1 + vs.length
      · rw [if_pos q, if_pos (by omega), show j - off = (j - (off + 1)) + 1 from by omega]; rfl
      · rw [if_neg q]
        by_cases q2 : j = off
        · rw [if_pos q2, if_pos (by omega), q2]; simp
        · rw [if_neg q2, if_neg (by omega)]
    cases c with
    | ints k f =>
      cases v <;> simp only [Rw.lay] at h <;> try (cases h; done)
      rename_i l x
      split at h <;> try (cases h; done)
      rename_i hk
      obtain rfl := of_decide_eq_true hk
      exact key (fun j => by simp only [Rw.get]; split <;> rfl) rfl rfl h
    | bools f =>
      cases v <;> simp only [Rw.lay] at h <;> try (cases h; done)
      exact key (fun j => by simp only [Rw.get]; split <;> rfl) rfl rfl h
theorem setAt_get : ∀ (vs cs : List Value) (o j : Nat), o + vs.length ≤ cs.length → (setAt cs o vs)[j]? = if o ≤ j ∧ j < o + vs.length then vs[j - o]? else cs[j]?
  | [], cs, o, j, _ => by simp [setAt]; omega
  | v :: vs, cs, o, j, h => by
    simp only [List.length_cons] at h
    simp only [setAt]
    rw [setAt_get vs (cs.set o v) (o + 1) j (by simp; omega)]
    simp only [List.length_cons]
    by_cases q : o + 1 ≤ j ∧ j < o + 1 + vs.length
    · rw [if_pos q, if_pos (by omega), show j - o = (j - (o + 1)) + 1 from by omega]; rfl
    · rw [if_neg q, List.getElem?_set]
      by_cases q2 : j = o
      · subst q2; rw [if_pos rfl, if_pos (by omega), if_pos (by omega)]; simp
      · rw [if_neg (fun z => q2 z.symm), if_neg (by omega)]
theorem tStore_sound {o : Oper} {T : TypeId} {x y : Operand} (ho : o.op = .store T x y) {i off : Nat} {u v : Value} {H' : HX} (ht : (tStore P T i off u H).out = some (v, H')) :
    OWP P (means W) o [.pointer (some ⟨i, off, none⟩), u] H fun a b => a = v ∧ b = H' := by
  unfold tStore at ht
  split at ht <;> try (cases ht; done)
  · rename_i U s n c hi
    split at ht <;> try (cases ht; done)
    rename_i z c' hz hl
    simp only [DT.out] at ht
    split at ht <;> try (cases ht; done)
    rename_i hd
    cases ht
    obtain ⟨d1, d2⟩ := of_decide_eq_true hd
    obtain ⟨l1, l2, l3⟩ := lay_get hl
    refine OWP.skp fun w0 w L h ρ ev hn hv => ?_
    rw [show opndsL o.op = [x, y] from by rw [ho]; rfl] at hv
    cases hv with
    | cons h0 hv => cases hv with
      | cons h1 _ =>
        have hu : cellsL (ev y) = cellsL u := by
          have := h1.cells
          exact this.plain_eq l1
        obtain ⟨he, cur, g1, g2, g3, g4, g5⟩ := hn.sat.obj i true _ hi
        obtain ⟨cur⟩ := cur
        have hroom : off + z ≤ cur.length := by simp at g2; rw [g2]; exact Nat.le_trans d2 (Nat.mul_le_mul_right s g3)
        obtain ⟨w', s1, s2⟩ := st_run (P := P) (T := T) (off := off) hz hn.mem g1 (v := ev y) (by rw [hu]; exact d1) hroom (by rw [hu]; exact l2)
        have hbl : ρ.blocks i = [ρ.k i] := he
        obtain ⟨t1, t2⟩ := hn.turn hi (o' := .ext (.row U s n c')) s2 (by
          refine ⟨he, ⟨setAt cur off (cellsL (ev y))⟩, upd_same _ _ _, ?_, g3, g4, fun j hj => ?_⟩
          · simp only [List.size_toArray, setAt_len]; simpa using g2
          · simp only [List.getElem?_toArray]
            rw [setAt_get _ _ _ _ (by rw [hu, d1]; exact hroom), hu, l3 j]
            by_cases q : off ≤ j ∧ j < off + (cellsL u).length
            · rw [if_pos q, if_pos q, List.getD_eq_getElem?_getD, List.getElem?_eq_getElem (by omega)]; rfl
            · rw [if_neg q, if_neg q]
              have := g5 j hj
              simpa using this) (fun k hk => by
          rw [hbl] at hk
          exact upd_other _ _ (fun q => hk (by simp [q]; rfl)))
        refine ⟨ρ, _, w', ?_, by rw [put_len]; exact t1.lu, t2⟩
        unfold execOp
        simp only [ho]
        show (do Instr.storeAt T (ev x) (ev y); pure .skip : Sem Next).run P w = _
        rw [h0.ptr_eq.2, bnd_run s1]; rfl
  · rename_i n c hi
    split at ht <;> try (cases ht; done)
    rename_i z c' hz hl
    simp only [DT.out] at ht
    split at ht <;> try (cases ht; done)
    rename_i hd
    cases ht
    obtain ⟨d1, d2⟩ := of_decide_eq_true hd
    obtain ⟨l1, l2, l3⟩ := lay_get hl
    refine OWP.skp fun w0 w L h ρ ev hn hv => ?_
    rw [show opndsL o.op = [x, y] from by rw [ho]; rfl] at hv
    cases hv with
    | cons h0 hv => cases hv with
      | cons h1 _ =>
        have hu : cellsL (ev y) = cellsL u := by
          have := h1.cells
          exact this.plain_eq l1
        obtain ⟨he, cur, U, g1, g2, g5⟩ := hn.sat.obj i true _ hi
        obtain ⟨cur⟩ := cur
        have hroom : off + z ≤ cur.length := by simp at g2; rw [g2]; exact d2
        obtain ⟨w', s1, s2⟩ := st_run (P := P) (T := T) (off := off) hz hn.mem g1 (v := ev y) (by rw [hu]; exact d1) hroom (by rw [hu]; exact l2)
        have hbl : ρ.blocks i = [ρ.k i] := he
        obtain ⟨t1, t2⟩ := hn.turn hi (o' := .ext (.fix n c')) s2 (by
          refine ⟨he, ⟨setAt cur off (cellsL (ev y))⟩, U, upd_same _ _ _, ?_, fun j hj => ?_⟩
          · simp only [List.size_toArray, setAt_len]; simpa using g2
          · simp only [List.getElem?_toArray]
            rw [setAt_get _ _ _ _ (by rw [hu, d1]; exact hroom), hu, l3 j]
            by_cases q : off ≤ j ∧ j < off + (cellsL u).length
            · rw [if_pos q, if_pos q, List.getD_eq_getElem?_getD, List.getElem?_eq_getElem (by omega)]; rfl
            · rw [if_neg q, if_neg q]
              have := g5 j hj
              simpa using this) (fun k hk => by
          rw [hbl] at hk
          exact upd_other _ _ (fun q => hk (by simp [q]; rfl)))
        refine ⟨ρ, _, w', ?_, by rw [put_len]; exact t1.lu, t2⟩
        unfold execOp
        simp only [ho]
        show (do Instr.storeAt T (ev x) (ev y); pure .skip : Sem Next).run P w = _
        rw [h0.ptr_eq.2, bnd_run s1]; rfl

/-! ### append, make, cuts -/
theorem VR.row_pos {L : Nat → Prop} {r : Nat → Nat × Nat} {i o k l c : Nat} {v' : Value} (h : VR L r (.slice (some ⟨i, o, some k⟩) l c) v') (hl : 0 < l) : L i ∧ v' = .slice (some ⟨(r i).1, o, none⟩) l ((r i).2 - k) := by
  cases h with
  | plain h => simp [Go.Proofs.Ytdmodejpcfhbhaa.plain] at h
  | row h => exact ⟨h, rfl⟩
  | emp => omega
theorem elemP_spec {T e : TypeId} {s b : Nat} (h : elemP P T = some (e, s, b)) : P.underlying T = some (.slice e) ∧ ∃ i zs z, P.info? e = some i ∧ i.size = s ∧ i.bytes = b ∧ 0 < s ∧ b ≤ 1000 ∧ zeroC P e = some zs ∧ i.zero = some z ∧ z.cells = ⟨zs⟩ ∧ zs.length = s := by
  unfold elemP at h
  split at h <;> try (cases h; done)
  rename_i e' hu
  split at h <;> try (cases h; done)
  rename_i i zs hi hz
  split at h <;> try (cases h; done)
  rename_i hd
  cases h
  obtain ⟨d1, d2, d3⟩ := of_decide_eq_true hd
  refine ⟨hu, i, zs, ?_⟩
  unfold zeroC at hz
  rw [hi] at hz
  simp only at hz
  split at hz <;> try (cases hz; done)
  rename_i z hz0
  split at hz <;> try (cases hz; done)
  rename_i ha
  cases hz
  exact ⟨z, hi, rfl, rfl, d2, d3, by unfold zeroC; rw [hi]; simp only [hz0, ha], hz0, rfl, d1⟩
theorem intsL_spec : ∀ {l : List Value} {xs : List Int}, intsL l = some xs → l = xs.map (.int .i64)
  | [], xs, h => by simp only [intsL, Option.some.injEq] at h; subst h; rfl
  | v :: l, xs, h => by
    unfold intsL at h
    split at h <;> try (cases h; done)
    · rename_i e; cases e
    · rename_i x l' e
      cases e
      split at h <;> try (cases h; done)
      rename_i r hr
      cases h
      rw [intsL_spec hr]; rfl
theorem VRL.ints {r : Nat → Nat × Nat} : ∀ {xs : List Int} {l' : List Value}, VRL L r (xs.map (.int .i64)) l' → l' = xs.map (.int .i64)
  | [], _, h => by cases h; rfl
  | x :: xs, _, h => by cases h with
    | cons h0 h => rw [h0.int_eq, h.ints]; rfl
/-- Whence it is taken. -/
theorem from_lies (hn : Now (means W) w0 L ρ H h w) {j o n : Nat} {c : Rw} (ht : tFrom H j o = some (c, n)) (hb : tFromB H j o = true) : ∀ q, o + q < n → w.cell? ⟨ρ.k j, o + q, none⟩ = some (c.get q) := by
  unfold tFrom at ht
  split at ht
  · rename_i p cs T hj
    split at ht <;> try (cases ht; done)
    rename_i xs hxs
    cases ht
    obtain rfl := intsL_spec hxs
    obtain ⟨_, cs', h1, h2⟩ := hn.sat.obj j p _ hj
    obtain rfl := h2.ints
    intro q hq
    rw [hn.mem.cell h1]
    simp only [List.length_map] at hq
    simp only [List.getElem?_toArray, Rw.get]
    rw [List.getElem?_map, List.getD_eq_getElem?_getD, List.getElem?_eq_getElem hq]; rfl
  · rename_i p lo m d hj
    intro q hq
    have hlo : lo ≤ o := by
      unfold tFromB at hb
      rw [hj] at hb
      exact of_decide_eq_true hb
    split at ht <;> cases ht <;> exact old_lies hn hj _ (by omega) hq
  · rename_i p T s m d hj
    intro q hq
    split at ht <;> cases ht <;> exact row_lies hn hj _ (Nat.zero_le _) hq
  · cases ht

/-- To which it is appended. -/
theorem dest_sound (hn : Now (means W) w0 L ρ H h w) {e : TypeId} {s n : Nat} {c : Rw} {G : HX} {v v' : Value} (ht : tDest H e s v = some (n, c, G, true)) (hv : VR L ρ.b v v') :
    ∃ xs, w.ownsRow w0.heap.size e s v' n xs ∧ (∀ k, v'.ownBlock = some k → ∃ i u, nth H i = some (true, u) ∧ nth G i = none ∧ k ∈ ρ.blocks i) ∧ G.length = H.length ∧ (∀ j p u, nth G j = some (p, u) → nth H j = some (p, u)) ∧
      (∀ i u, nth H i = some (true, u) → nth G i = none → ∃ k, v'.ownBlock = some k ∧ ρ.blocks i = [k]) ∧ xs.length = n * s ∧ (v = .slice none 0 0 ∧ n = 0 ∨ xs = cellsG c 0 (n * s)) := by
  unfold tDest at ht
  split at ht
  · cases ht
    obtain rfl := hv.plain_eq rfl
    exact ⟨[], ⟨by simp, .inl ⟨rfl, rfl⟩⟩, (fun k hk => by simp [Value.ownBlock] at hk), rfl, (fun _ _ _ q => q), (fun i u q1 q2 => by rw [q1] at q2; cases q2), by simp, .inl ⟨rfl, rfl⟩⟩
  · rename_i i m
    split at ht <;> try (cases ht; done)
    rename_i U s' n' d hi
    simp only [Option.some.injEq, Prod.mk.injEq, decide_eq_true_eq] at ht
    obtain ⟨rfl, rfl, rfl, rfl, rfl, e0⟩ := ht
    subst e0
    obtain ⟨hl, rfl⟩ := hv.row_eq
    obtain ⟨he, cur, h1, h2, h3, h4, h5⟩ := hn.sat.obj i true _ hi
    have hg : ∀ (z off : Nat), off + z ≤ m * s' → (cur.toList.drop off).take z = cellsG d off z := by
      intro z
      induction z with
      | zero => intro off _; simp [cellsG]
      | succ z ih =>
        intro off hq
        have hc := h5 off (by omega)
        obtain ⟨hlt, hc⟩ := Array.getElem?_eq_some_iff.1 hc
        rw [List.drop_eq_getElem_cons (by simpa using hlt), List.take_succ_cons, ih (off + 1) (by omega)]
        simp only [cellsG]
        congr 1
    refine ⟨cellsG d 0 (m * s'), ⟨?_, .inr ⟨(ρ.b i).1, (ρ.b i).2, cur, by simp, hn.mem.own _ _ h1, hn.mem.blk _ _ h1, h3, h4, h2, ?_⟩⟩, fun k hk => ?_, put_len _ _ _, fun j p u q => ?_, fun j u q1 q2 => ?_, ?_, .inr rfl⟩
    · rw [← hg _ 0 (by omega)]; simp; rw [h2]; exact Nat.min_eq_left (Nat.mul_le_mul_right _ h3)
    · have := hg (m * s') 0 (by omega); simpa using this
    · simp [Value.ownBlock] at hk
      subst hk
      exact ⟨i, _, hi, by rw [nth_put, if_pos ⟨rfl, nth_lt hi⟩], by show _ ∈ ρ.e i; rw [he]; simp⟩
    · rw [nth_put] at q; split at q
      · cases q
      · exact q
    · rw [nth_put] at q2
      split at q2
      · rename_i z; obtain ⟨rfl, _⟩ := z
        exact ⟨(ρ.b i).1, by simp [Value.ownBlock], he⟩
      · rw [q1] at q2; cases q2
    · rw [← hg _ 0 (by omega)]; simp; rw [h2]; exact Nat.min_eq_left (Nat.mul_le_mul_right _ h3)
  · rename_i i m cp
    split at ht <;> try (cases ht; done)
    rename_i cs U hi
    split at ht <;> try (cases ht; done)
    rename_i xs hxs
    simp only [Option.some.injEq, Prod.mk.injEq, decide_eq_true_eq] at ht
    obtain ⟨rfl, rfl, rfl, rfl, d2, rfl, d3⟩ := ht
    obtain ⟨hl, rfl⟩ := hv.slice_eq
    obtain rfl := intsL_spec hxs
    obtain ⟨he, cs', h1, h2⟩ := hn.sat.obj i true _ hi
    obtain rfl := h2.ints
    simp only [List.length_map] at d2
    have hg : ∀ (m off : Nat), off + m ≤ xs.length → ((xs.map (Value.int .i64)).drop off).take m = cellsG (.ints .i64 fun q => xs.getD q 0) off m := by
      intro m
      induction m with
      | zero => intro off _; simp [cellsG]
      | succ m ih =>
        intro off hq
        rw [List.drop_eq_getElem_cons (by simp; omega), List.take_succ_cons, ih (off + 1) (by omega)]
        simp only [cellsG, Rw.get]
        congr 1
        rw [List.getElem_map, List.getD_eq_getElem?_getD, List.getElem?_eq_getElem (by omega)]; rfl
    refine ⟨cellsG (.ints .i64 fun q => xs.getD q 0) 0 (cp * s), ⟨?_, .inr ⟨ρ.k i, cp, ⟨xs.map (.int .i64)⟩, rfl, hn.mem.own _ _ h1, hn.mem.blk _ _ h1, Nat.le_refl _, by unfold maxLen; omega, by simpa using d2, ?_⟩⟩, fun k hk => ?_, put_len _ _ _, fun j p u q => ?_, fun j u q1 q2 => ?_, ?_, .inr rfl⟩
    · rw [← hg _ 0 (by omega)]; simp; omega
    · have := hg (cp * s) 0 (by omega); simpa using this
    · simp [Value.ownBlock] at hk
      subst hk
      exact ⟨i, _, hi, by rw [nth_put, if_pos ⟨rfl, nth_lt hi⟩], by show _ ∈ ρ.e i; rw [he]; exact List.mem_singleton.2 rfl⟩
    · rw [nth_put] at q; split at q
      · cases q
      · exact q
    · rw [nth_put] at q2
      split at q2
      · rename_i z; obtain ⟨rfl, _⟩ := z
        exact ⟨ρ.k i, by simp [Value.ownBlock, Ren.k], he⟩
      · rw [q1] at q2; cases q2
    · rw [← hg _ 0 (by omega)]; simp; omega
  · cases ht

theorem app_get {n : Nat} {c d c' : Rw} (h : c.app n d = some c') : ∀ j, c'.get j = if j < n then c.get j else d.get (j - n) := by
  intro j
  cases c <;> cases d <;> simp only [Rw.app] at h <;> try (cases h; done)
  · split at h <;> try (cases h; done)
    rename_i hk
    obtain rfl := of_decide_eq_true hk
    cases h
    simp only [Rw.get]; split <;> rfl
  · cases h
    simp only [Rw.get]; split <;> rfl
theorem cellsG_get (c : Rw) : ∀ (n off j : Nat), (cellsG c off n)[j]? = if j < n then some (c.get (off + j)) else none
  | 0, off, j => by simp [cellsG]
  | n + 1, off, 0 => by simp [cellsG]
  | n + 1, off, j + 1 => by
    simp only [cellsG, List.getElem?_cons_succ]
    rw [cellsG_get c n (off + 1) j]
    by_cases q : j < n
    · rw [if_pos q, if_pos (by omega), show off + 1 + j = off + (j + 1) from by omega]
    · rw [if_neg q, if_neg (by omega)]
theorem cellsG_len (c : Rw) : ∀ (n off : Nat), (cellsG c off n).length = n
  | 0, _ => rfl
  | n + 1, off => by simp [cellsG, cellsG_len c n]
theorem cellsG_mem {c : Rw} {n off : Nat} {v : Value} (h : v ∈ cellsG c off n) : ∃ j, v = c.get j := by
  induction n generalizing off with
  | zero => simp [cellsG] at h
  | succ n ih =>
    simp only [cellsG, List.mem_cons] at h
    rcases h with h | h
    · exact ⟨off, h⟩
    · exact ih h
theorem tSame_sound {o : Oper} {x y : Operand} {T : TypeId} (ho : o.op = .call { callee := .builtin .append, args := #[x, y], argTypes := #[T, T] }) {u u2 v : Value} {H' : HX} (hu2 : ∀ {L : Nat → Prop} {r : Nat → Nat × Nat} {v' : Value}, VR L r u2 v' → ∃ a c, v' = .slice a 0 c) (ht : (tSame P T u H).out = some (v, H')) :
    OWP P (means W) o [u, u2] H fun a b => a = v ∧ b = H' := by
  have hops : opndsL o.op = [x, y] := by rw [ho]; rfl
  unfold tSame at ht
  split at ht <;> try (cases ht; done)
  rename_i e s b hel
  split at ht <;> try (cases ht; done)
  rename_i n c G ok hd
  simp only [DT.out] at ht
  split at ht <;> try (cases ht; done)
  cases ht
  obtain ⟨hu, i, zs, z, hi, rfl, rfl, _⟩ := elemP_spec hel
  refine OWP.look fun w0 w L h ρ ev hn hv => ?_
  rw [hops] at hv
  cases hv with
  | cons h0 hv => cases hv with
    | cons h1 _ =>
      obtain ⟨a2, c2, e2⟩ := hu2 h1
      obtain ⟨xs, ⟨_, hown⟩, _⟩ := dest_sound hn hd h0
      obtain ⟨a, l, c, hev, hlc⟩ : ∃ a l c, ev x = .slice a l c ∧ l ≤ c := by
        rcases hown with ⟨q, _⟩ | ⟨g, cap, cur, q, _, _, hle, _⟩
        · exact ⟨_, _, _, q, Nat.le_refl _⟩
        · exact ⟨_, _, _, q, hle⟩
      refine ⟨ev x, ?_, h0⟩
      have hrun : (Builtin.append_ #[T, T] o.type #[ev x, ev y]).run P w = .ok (ev x) w := by
        rw [hev, e2]
        unfold Builtin.append_
        simp only [List.getElem?_toArray, List.getElem?_cons_zero, List.getElem?_cons_succ, Sem.run_bind, und_run hu, siz_run hi, Result.andThen_ok, Sem.run_pure, Bool.false_eq_true, if_false, Builtin.lenOf, Bool.not_false, if_true, Nat.add_zero, hlc, Builtin.firstCells]
        cases a2 with
        | none => cases a with
          | none => rfl
          | some a => rfl
        | some a2 =>
          have h0 : (0 * i.size) = 0 := Nat.zero_mul _
          simp only [h0, loadCells, loadCellsFrom]
          cases a with
          | none => rfl
          | some a => rfl
      unfold execOp
      simp only [ho, resolve, invoke, builtin, Sem.run_bind, Sem.run_pure, Result.andThen_ok, List.map_toArray, List.map_cons, List.map_nil, hrun]
theorem tAppend0_sound {o : Oper} {x y : Operand} {T : TypeId} (ho : o.op = .call { callee := .builtin .append, args := #[x, y], argTypes := #[T, T] }) {u u2 v : Value} {H' : HX} (ht : (tAppend0 P T u u2 H).out = some (v, H')) :
    OWP P (means W) o [u, u2] H fun a b => a = v ∧ b = H' := by
  have hops : opndsL o.op = [x, y] := by rw [ho]; rfl
  unfold tAppend0 at ht
  split at ht
  · exact tSame_sound ho (fun h => by rw [h.plain_eq rfl]; exact ⟨_, _, rfl⟩) ht
  · exact tSame_sound ho (fun h => by obtain ⟨a, c, e⟩ := h.slice_some; exact ⟨_, _, e⟩) ht
  · rename_i j off sp m cp _
    unfold tMain at ht
    split at ht <;> try (cases ht; done)
    rename_i e s b hel
    split at ht <;> try (cases ht; done)
    rename_i n c G ok hd
    split at ht <;> try (cases ht; done)
    rename_i d r hf
    split at ht <;> try (cases ht; done)
    rename_i c' hc'
    simp only [DT.out] at ht
    split at ht <;> try (cases ht; done)
    rename_i hfb
    split at ht <;> try (cases ht; done)
    rename_i hok
    cases ht
    rw [Bool.and_eq_true, decide_eq_true_eq] at hok
    obtain ⟨rfl, k1, k2, k3⟩ := hok
    obtain ⟨hu, i, zs, z, hi, rfl, rfl, hs0, hb0, _, hz, hzc, hzl⟩ := elemP_spec hel
    refine OWP.of fun w0 w L h ρ ev hn hv => ?_
    rw [hops] at hv
    cases hv with
    | cons h0 hv => cases hv with
      | cons h1 _ =>
        obtain ⟨xs, hown, o1, o2, o3, o4, o5, o6⟩ := dest_sound hn hd h0
        obtain ⟨cp', hy, hLj⟩ : ∃ cp', ev y = .slice (some ⟨ρ.k j, off, none⟩) m cp' ∧ L j := by
          cases sp with
          | none => obtain ⟨hl, e⟩ := h1.slice_eq; exact ⟨_, e, hl⟩
          | some q =>
            obtain ⟨hl, e⟩ := h1.row_pos k1
            exact ⟨_, e, hl⟩
        have hfl := from_lies hn hf hfb
        obtain ⟨g, cap, w', hr, h2, h3, h4, h5⟩ := run_append_lies (P := P) w T o.type w0.heap.size e i z i.size i.bytes hu hi hz rfl rfl (by rw [hzc]; exact hzl) hs0 (ev x) n xs hown ⟨ρ.k j, off, none⟩ m cp' (cellsG d 0 (m * i.size)) (by rw [cellsG_len])
          (fun q u hq => by
            rw [cellsG_get] at hq
            split at hq <;> try (cases hq; done)
            rename_i hlt
            cases hq
            rw [Addr.add_lit, Nat.zero_add]
            exact hfl q (by omega)) (fun u hu' => by obtain ⟨q, rfl⟩ := cellsG_mem hu'; cases d <;> rfl) k1 (by unfold maxLen; omega) (by
            have : (n + m) * i.bytes ≤ 1000000 * 1000 := Nat.mul_le_mul k3 hb0
            omega) hn.mem.below.size _ rfl
        have hget : ∀ q, q < (n + m) * i.size → (xs ++ cellsG d 0 (m * i.size))[q]? = some (c'.get q) := by
          intro q hq
          rw [Nat.add_mul] at hq
          have hq2 : ¬ q < n * i.size → q - n * i.size < m * i.size := fun _ => by omega
          rcases o6 with ⟨rfl, rfl⟩ | rfl
          · simp only [Option.some.injEq] at hc'
            subst hc'
            simp only [Nat.zero_mul] at o5 hq
            obtain rfl := List.length_eq_zero_iff.1 o5
            rw [List.nil_append, cellsG_get, if_pos (by omega), Nat.zero_add]
          · have hca : (c.app (n * i.size) d = some c') ∨ (n = 0 ∧ d = c') := by
              split at hc'
              · right
                simp only [Option.some.injEq] at hc'
                refine ⟨?_, hc'⟩
                unfold tDest at hd
                split at hd
                · cases hd; rfl
                · rename_i hh; cases hh
                · rename_i hh; cases hh
                · cases hd
              · exact .inl hc'
            rcases hca with hca | ⟨rfl, rfl⟩
            · rw [app_get hca q]
              by_cases qn : q < n * i.size
              · rw [if_pos qn, List.getElem?_append_left (by rw [cellsG_len]; exact qn), cellsG_get, if_pos qn, Nat.zero_add]
              · rw [if_neg qn, List.getElem?_append_right (by rw [cellsG_len]; omega), cellsG_len, cellsG_get, if_pos (hq2 qn), Nat.zero_add]
            · simp only [Nat.zero_mul, cellsG, List.nil_append] at *
              rw [cellsG_get, if_pos (by omega), Nat.zero_add]
        obtain ⟨_, hown'⟩ := h2
        rcases hown' with ⟨q, _⟩ | ⟨g', cap', cur, q, hbase, hblk, hle, hmax, hsz, htake⟩
        · cases q
        cases q
        let h' : GH := fun k => if k = g then some (.cells cur e) else if (ev x).ownBlock = some k then w'.heap[k]? else h k
        have hown1 : ∀ k, (ev x).ownBlock = some k → k < w.heap.size ∧ w0.heap.size ≤ k := fun k hk => by
          obtain ⟨i', u, q1, _, q3⟩ := o1 k hk
          obtain ⟨ob, hob⟩ := (hn.sat.obj i' true u q1).here k q3
          exact ⟨hn.mem.lt hob, hn.mem.own k ob hob⟩
        have hm' : Mem w0 h' w' := by
          refine ⟨hn.mem.below.grown h3 hn.mem.below.size (fun k hk => (hown1 k hk).2), fun k ob hk => ?_, fun k ob hk => ?_⟩
          · simp only [h'] at hk
            split at hk
            · rename_i q; rw [q]; exact hbase
            · split at hk
              · rename_i q; exact (hown1 k q).2
              · exact hn.mem.own k ob hk
          · simp only [h'] at hk
            split at hk
            · rename_i q; cases hk; rw [q]; exact hblk
            · split at hk
              · exact hk
              · rename_i q
                rw [h3.block k (hn.mem.lt hk) (fun z => q z.symm)]; exact hn.mem.blk k ob hk
        have hgn : (ev x).ownBlock = some g ∨ h g = none := h4.imp id fun q => hn.mem.fresh (by omega)
        obtain ⟨ρ', n1, n2, n3⟩ := hn.swap (G := G) o3 o2 (b := (g, cap)) (es := [g]) (x := .row e i.size (n + m) c') hm'
          ⟨rfl, cur, by simp [h'], hsz, hle, hmax, fun q hq => by
            have := hget q hq
            rw [← htake, List.getElem?_take_of_lt hq] at this
            simpa using this⟩
          (fun k hk => by
            simp only [List.mem_singleton] at hk
            subst hk
            rcases hgn with q | q
            · exact .inr (o1 k q)
            · exact .inl q)
          (fun k hk hno => by
            simp only [List.mem_singleton] at hk
            simp only [h']
            rw [if_neg hk, if_neg]
            intro q
            obtain ⟨i', u, q1, q2, q3⟩ := o1 k q
            exact hno i' u q1 q2 q3)
          (fun k ob hk => by
            simp only [h']
            split
            · exact ⟨_, rfl⟩
            · split
              · rename_i q
                have : k < w'.heap.size := Nat.lt_of_lt_of_le (hown1 k q).1 h3.size
                exact ⟨_, Array.getElem?_eq_getElem this⟩
              · exact ⟨ob, hk⟩)
        have hlen : (G ++ [some (true, AObj.ext (Ext.row e i.size (n + m) c'))]).length = H.length + 1 := by rw [List.length_append, o2]; rfl
        refine ⟨.slice (some ⟨g, 0, none⟩) (n + m) cap, ρ', h', w', ?_, by rw [hlen]; exact n1, n2, ?_⟩
        · unfold execOp
          simp only [ho, resolve, invoke, builtin, Sem.run_bind, Sem.run_pure, Result.andThen_ok, List.map_toArray, List.map_cons, List.map_nil, hy, hr]
        · have := VR.row (L := LU L H.length (H.length + 1)) (ρ := ρ'.b) (i := H.length) (o := 0) (k := 0) (l := n + m) (.inr ⟨Nat.le_refl _, by omega⟩)
          rw [n3] at this
          rw [hlen]
          exact this
  · cases ht

theorem zeroRw_spec {zs : List Value} {d : Rw} (h : zeroRw zs = some d) : ∀ j (hj : j < zs.length), zs[j] = d.get j ∧ ∀ q, d.get q = d.get j := by
  unfold zeroRw at h
  split at h
  · cases h
    intro j hj
    have : j = 0 := by simpa using hj
    subst this
    exact ⟨rfl, fun _ => rfl⟩
  · cases h
    intro j hj
    have : j = 0 := by simpa using hj
    subst this
    exact ⟨rfl, fun _ => rfl⟩
  · split at h <;> try (cases h; done)
    rename_i ha
    cases h
    intro j hj
    rw [List.all_eq_true] at ha
    have := ha zs[j] (List.getElem_mem hj)
    split at this
    · rename_i q; exact ⟨q, fun _ => rfl⟩
    · cases this
theorem tAppend_sound {o : Oper} {x y : Operand} {T : TypeId} (ho : o.op = .call { callee := .builtin .append, args := #[x, y], argTypes := #[T, T] }) {u u2 v : Value} {H' : HX} (ht : (tAppend P T u u2 H).out = some (v, H')) :
    OWP P (means W) o [u, u2] H fun a b => a = v ∧ b = H' := by
  unfold tAppend at ht
  split at ht
  · rename_i a m c
    obtain ⟨j, off, sp⟩ := a
    cases sp with
    | none => exact tAppend0_sound ho (by rw [tAppend0_main]; exact ht)
    | some q => exact tAppend0_sound ho ht
  · exact tAppend0_sound ho ht
theorem rep_len (zs : List Value) : ∀ n, (rep zs n).length = n * zs.length
  | 0 => by simp [rep]
  | n + 1 => by simp [rep, rep_len zs n, Nat.succ_mul]; omega
theorem rep_get (zs : List Value) (h0 : 0 < zs.length) : ∀ (n q : Nat), q < n * zs.length → (rep zs n)[q]? = zs[q % zs.length]?
  | 0, q, h => by simp at h
  | n + 1, q, h => by
    simp only [rep]
    by_cases hq : q < zs.length
    · rw [List.getElem?_append_left hq, Nat.mod_eq_of_lt hq]
    · rw [List.getElem?_append_right (by omega), rep_get zs h0 n (q - zs.length) (by rw [Nat.succ_mul] at h; omega)]
      congr 1
      exact (Nat.mod_eq_sub_mod (by omega)).symm
theorem rep_rel {L : Nat → Prop} {r : Nat → Nat × Nat} {zs : List Value} (h : VRL L r zs zs) : ∀ n, VRL L r (rep zs n) (rep zs n)
  | 0 => .nil
  | n + 1 => h.app (rep_rel h n)
theorem tMake_sound {o : Oper} {T : TypeId} {x y : Operand} (ho : o.op = .makeSlice T x y) {k1 k2 : IntKind} {n c : Int} {v : Value} {H' : HX} (ht : (tMake P T n c H).out = some (v, H')) :
    OWP P (means W) o [.int k1 n, .int k2 c] H fun a b => a = v ∧ b = H' := by
  unfold tMake at ht
  split at ht <;> try (cases ht; done)
  rename_i e s b hel
  split at ht <;> try (cases ht; done)
  rename_i zs hzs
  split at ht
  case h_2 hno =>
    simp only [DT.out] at ht
    split at ht <;> try (cases ht; done)
    rename_i hk
    cases ht
    obtain ⟨h0, rfl, h1, h2⟩ := of_decide_eq_true hk
    obtain ⟨hu, i, zs', z, hi, rfl, rfl, hs0, hb0, hz', hz, hzc, hzl⟩ := elemP_spec hel
    rw [hzs] at hz'
    obtain rfl := Option.some.inj hz'
    obtain ⟨m, rfl⟩ := Int.eq_ofNat_of_zero_le h0
    simp only [Int.toNat_natCast] at h2 ⊢
    refine OWP.of fun w0 w L h ρ ev hn hv => ?_
    rw [show opndsL o.op = [x, y] from by rw [ho]; rfl] at hv
    cases hv with
    | cons e1 hv => cases hv with
      | cons e2 _ =>
        have e1 := e1.int_eq
        have e2 := e2.int_eq
        have hw : IntKind.i64.wrap (m : Int) = m := by rw [IntKind.wrap_i64]; omega
        have hzz : VRL L ρ.b zs zs := by obtain ⟨z, _, _, z3⟩ := zer_run hzs w; exact scals_rel z3
        have hcells : madeCells z.cells (m * i.size) = ⟨rep zs m⟩ := by
          apply Array.ext'
          apply List.ext_getElem?
          intro q
          unfold madeCells
          rw [hzc]
          simp only [Array.toList_map, Array.toList_range, List.getElem?_map, List.size_toArray, hzl]
          by_cases hq : q < m * i.size
          · rw [List.getElem?_range hq, rep_get zs (by omega) m q (by rw [hzl]; exact hq), hzl]
            have hm : q % i.size < zs.length := by rw [hzl]; exact Nat.mod_lt _ hs0
            simp [hm]
          · rw [List.getElem?_eq_none (by simp; omega), List.getElem?_eq_none (by rw [rep_len, hzl]; omega)]; rfl
        have hb1 : i.bytes * m ≤ 1000 * 10000 := Nat.mul_le_mul hb0 (by omega)
        have hrun := run_make (P := P) w T e i z hu hi hz k1 k2 m m (by omega) (Int.le_refl _) (by rw [← Int.natCast_mul]; omega) (by omega)
        simp only [Int.toNat_natCast] at hrun
        rw [hcells] at hrun
        obtain ⟨ρ', h', n1, n2, n3⟩ := hn.alloc (rep zs m) (rep zs m) e (rep_rel hzz m)
        refine ⟨.slice (some ⟨w.heap.size, 0, none⟩) m m, ρ', h', _, ?_, by simpa using n1, n2, ?_⟩
        · unfold execOp
          simp only [ho]
          rw [e1, e2]
          exact val_run hrun
        · rw [← n3]
          exact .slice (.inr ⟨Nat.le_refl _, by simp⟩)
  rename_i d hd
  simp only [DT.out] at ht
  split at ht <;> try (cases ht; done)
  rename_i hk
  cases ht
  obtain ⟨h0, rfl, h1⟩ := of_decide_eq_true hk
  obtain ⟨hu, i, zs', z, hi, rfl, rfl, hs0, hb0, hz', hz, hzc, hzl⟩ := elemP_spec hel
  rw [hzs] at hz'
  obtain rfl := Option.some.inj hz'
  obtain ⟨m, rfl⟩ := Int.eq_ofNat_of_zero_le h0
  refine OWP.of fun w0 w L h ρ ev hn hv => ?_
  rw [show opndsL o.op = [x, y] from by rw [ho]; rfl] at hv
  cases hv with
  | cons e1 hv => cases hv with
    | cons e2 _ =>
      have e1 := e1.int_eq
      have e2 := e2.int_eq
      have hw : IntKind.i64.wrap (m : Int) = m := by rw [IntKind.wrap_i64]; omega
      have hcur : ∀ q, q < m * i.size → (madeCells z.cells (m * i.size))[q]? = some (d.get q) := fun q hq => by
        unfold madeCells
        have hm : q % zs.length < zs.length := Nat.mod_lt _ (by omega)
        obtain ⟨g1, g2⟩ := zeroRw_spec hd _ hm
        simp [hzc, hq, hm, g1, g2 q]
      have hb1 : i.bytes * m ≤ 1000 * 1000000 := Nat.mul_le_mul hb0 (by omega)
      have hrun := run_make (P := P) w T e i z hu hi hz k1 k2 m m (by omega) (Int.le_refl _) (by rw [← Int.natCast_mul]; omega) (by omega)
      simp only [Int.toNat_natCast] at hrun
      have hfr := hn.mem.fresh (Nat.le_refl w.heap.size)
      have hm' := hn.mem.keepO (.cells (madeCells z.cells (m * i.size)) e)
      obtain ⟨ρ', n1, n2, n3⟩ := hn.made (b := (w.heap.size, m)) (es := [w.heap.size]) (x := .row e i.size m d) hm'
        ⟨rfl, _, upd_same _ _ _, size_madeCells _ _, Nat.le_refl _, by unfold maxLen; omega, hcur⟩
        (fun k hk => by simp only [List.mem_singleton] at hk; rw [hk]; exact hfr) (fun k hk => upd_other _ _ (by simpa using hk))
      refine ⟨.slice (some ⟨w.heap.size, 0, none⟩) m m, ρ', _, _, ?_, by simpa using n1, n2, ?_⟩
      · unfold execOp
        simp only [ho]
        rw [e1, e2]
        exact val_run hrun
      · have := VR.row (L := LU L H.length (H.length + 1)) (ρ := ρ'.b) (i := H.length) (o := 0) (k := 0) (l := m) (.inr ⟨Nat.le_refl _, by omega⟩)
        rw [n3] at this
        simpa using this

theorem bounds_run {w : World} {isS : Bool} {n c : Nat} {lo hi : Option Value} {a b : Nat} (ha : (match lo with | none => a = 0 | some v => v = .int .i64 (a : Int))) (hb : (match hi with | none => b = n | some v => v = .int .i64 (b : Int))) (h1 : a ≤ b) (h2 : b ≤ c) :
    (Instr.sliceBounds isS n c lo hi none).run P w = .ok (a, b, c) w := by
  have hbd : ∀ (x y : Nat) (cd : BoundsCode), x ≤ y → (Instr.sliceBound (.int .i64 (x : Int)) y cd).run P w = .ok x w := fun x y cd hxy => by
    unfold Instr.sliceBound
    rw [bnd_run (show (asIntOf (.int .i64 (x : Int))).run P w = .ok (.i64, (x : Int)) w from rfl)]
    simp only
    rw [if_pos ⟨by omega, by omega⟩]; rfl
  have h1' := fun cd => hbd a b cd h1
  have h2' := fun cd => hbd b c cd h2
  unfold Instr.sliceBounds
  cases hi with
  | none =>
    simp only at hb
    subst hb
    cases lo with
    | none => simp only at ha; subst ha; simp only [Sem.run_bind, Sem.run_pure, Result.andThen_ok]
    | some v => simp only at ha; subst ha; simp only [Sem.run_bind, Sem.run_pure, Result.andThen_ok, Option.isSome_none, Bool.false_eq_true, if_false, h1']
  | some v =>
    simp only at hb
    subst hb
    cases lo with
    | none => simp only at ha; subst ha; simp only [Sem.run_bind, Sem.run_pure, Result.andThen_ok, h2']
    | some v => simp only at ha; subst ha; simp only [Sem.run_bind, Sem.run_pure, Result.andThen_ok, Option.isSome_none, Bool.false_eq_true, if_false, h1', h2']

theorem tSlice_sound {o : Oper} {T : TypeId} {xo : Operand} {lo hi : Option Operand} (ho : o.op = .slice T xo lo hi none) {x : Value} {lv hv : Option Value} (hl : lv.isSome = lo.isSome) (hh : hv.isSome = hi.isSome) {v : Value} {H' : HX} (ht : (tSlice P T x lv hv H).out = some (v, H')) :
    OWP P (means W) o (x :: (lv.toList ++ hv.toList)) H fun a b => a = v ∧ b = H' := by
  -- what stands at the operands
  have hops : ∀ {L : Nat → Prop} {r : Nat → Nat × Nat} {ev : Operand → Value}, VRL L r (x :: (lv.toList ++ hv.toList)) ((opndsL o.op).map ev) → VR L r x (ev xo) ∧ (∀ z, lv = some (.int .i64 z) → lo.map ev = some (.int .i64 z)) ∧ (∀ z, hv = some (.int .i64 z) → hi.map ev = some (.int .i64 z)) ∧ (lv = none → lo.map ev = none) ∧ (hv = none → hi.map ev = none) := by
    intro L r ev h
    rw [ho] at h
    cases lo <;> cases hi <;> cases lv <;> cases hv <;> simp only [Option.isSome_none, Option.isSome_some, Bool.false_eq_true, Bool.true_eq_false] at hl hh <;> simp only [opndsL, opt1, List.append_nil, List.nil_append, List.singleton_append, List.map_cons, List.map_nil, Option.toList_none, Option.toList_some] at h
    · cases h with
      | cons h0 _ => exact ⟨h0, by simp, by simp, by simp, by simp⟩
    · cases h with
      | cons h0 h => cases h with
        | cons h1 _ => exact ⟨h0, by simp, fun z e => by cases e; simp [h1.int_eq], by simp, by simp⟩
    · cases h with
      | cons h0 h => cases h with
        | cons h1 _ => exact ⟨h0, fun z e => by cases e; simp [h1.int_eq], by simp, by simp, by simp⟩
    · cases h with
      | cons h0 h => cases h with
        | cons h1 h => cases h with
          | cons h2 _ => exact ⟨h0, fun z e => by cases e; simp [h1.int_eq], fun z e => by cases e; simp [h2.int_eq], by simp, by simp⟩
  have hex : ∀ {ev : Operand → Value} {w : World} {u : Value}, (Instr.sliceAt T (ev xo) (lo.map ev) (hi.map ev) none).run P w = .ok u w → (execOp ev o).run P w = .ok (.value u) w := fun h => by
    unfold execOp; simp only [ho]; exact val_run h
  unfold tSlice at ht
  split at ht
  · rename_i i off
    split at ht <;> try (cases ht; done)
    rename_i n el hu
    split at ht <;> try (cases ht; done)
    rename_i I hI
    cases ht
    refine OWP.look fun w0 w L h ρ ev hn hvs => ?_
    obtain ⟨q0, _, _, q3, q4⟩ := hops hvs
    obtain ⟨hL, e⟩ := q0.ptr_eq
    refine ⟨.slice (some ⟨(ρ.b i).1, off, none⟩) n n, hex ?_, .slice hL⟩
    rw [q3 rfl, q4 rfl, e]
    unfold Instr.sliceAt
    rw [bnd_run (und_run hu w)]
    simp only
    rw [bnd_run (show (Instr.sureAddr (.pointer (some ⟨(ρ.b i).1, off, none⟩))).run P w = .ok ⟨(ρ.b i).1, off, none⟩ w from rfl)]
    rw [bnd_run (bounds_run (a := 0) (b := n) (lo := none) (hi := none) rfl rfl (Nat.zero_le _) (Nat.le_refl _))]
    simp only
    rw [bnd_run (siz_run hI w)]
    simp [go_sem, Addr.add]
  · rename_i i off k n
    split at ht <;> try (cases ht; done)
    rename_i p U s' n' c e s b hi' hel
    obtain ⟨hu, i', zs, z, hI, rfl, rfl, _⟩ := elemP_spec hel
    -- the bounds
    have main : ∀ (a b : Nat), a ≤ b → b ≤ n → k + n ≤ n' → (a = 0 ∨ a < n) → ∀ {w0 w : World} {L : Nat → Prop} {h : GH} {ρ : Ren} {ev : Operand → Value}, Now (means W) w0 L ρ H h w → VR L ρ.b (.slice (some ⟨i, off, some k⟩) n 0) (ev xo) →
        (match lo.map ev with | none => a = 0 | some v => v = .int .i64 (a : Int)) → (match hi.map ev with | none => b = n | some v => v = .int .i64 (b : Int)) → ∃ v', (execOp ev o).run P w = .ok (.value v') w ∧ VR L ρ.b (.slice (some ⟨i, off + a * i'.size, some (k + a)⟩) (b - a) 0) v' := by
      intro a b hab hbn hkn ha w0 w L h ρ ev hn hv h1 h2
      obtain ⟨hL, e⟩ := hv.row_eq
      obtain ⟨_, cur, g1, g2, g3, g4, _⟩ := hn.sat.obj i p _ hi'
      have hcap : n ≤ (ρ.b i).2 - k := by omega
      refine ⟨.slice (some ⟨(ρ.b i).1, off + a * i'.size, none⟩) (b - a) ((ρ.b i).2 - (k + a)), hex ?_, .row hL⟩
      unfold Instr.sliceAt
      rw [bnd_run (und_run hu w)]
      simp only
      unfold Instr.slice
      rw [bnd_run (und_run hu w), e]
      simp only
      rw [bnd_run (bounds_run h1 h2 hab (by omega))]
      simp only
      rw [bnd_run (siz_run hI w)]
      show Result.ok (Value.slice (if (ρ.b i).2 - k = a then _ else _) (b - a) ((ρ.b i).2 - k - a)) w = _
      rw [show (ρ.b i).2 - k - a = (ρ.b i).2 - (k + a) from by omega]
      congr 2
      rcases ha with rfl | ha
      · simp [Addr.add]
      · rw [if_neg (by omega)]
        simp [Addr.add_lit]
    split at ht <;> simp only [DT.out] at ht <;> (try (cases ht; done)) <;> split at ht <;> (try (cases ht; done)) <;> cases ht
    · rename_i b hd
      obtain ⟨d1, d2, d3⟩ := of_decide_eq_true hd
      obtain ⟨b, rfl⟩ := Int.eq_ofNat_of_zero_le d1
      refine OWP.look fun w0 w L h ρ ev hn hvs => ?_
      obtain ⟨q0, _, q2, q3, _⟩ := hops hvs
      have := main 0 b (Nat.zero_le _) (by omega) d3 (.inl rfl) hn q0 (by rw [q3 rfl]) (by rw [q2 _ rfl])
      simpa using this
    · rename_i a hd
      obtain ⟨d1, d2, d3⟩ := of_decide_eq_true hd
      obtain ⟨a, rfl⟩ := Int.eq_ofNat_of_zero_le d1
      refine OWP.look fun w0 w L h ρ ev hn hvs => ?_
      obtain ⟨q0, q1, _, _, q4⟩ := hops hvs
      exact main a n (by omega) (Nat.le_refl _) d3 (.inr (by omega)) hn q0 (by rw [q1 _ rfl]) (by rw [q4 rfl])
    · rename_i a b hd
      obtain ⟨d1, d2, d3, d4, d5⟩ := of_decide_eq_true hd
      obtain ⟨a, rfl⟩ := Int.eq_ofNat_of_zero_le d1
      obtain ⟨b, rfl⟩ := Int.eq_ofNat_of_zero_le (Int.le_trans d1 d2)
      refine OWP.look fun w0 w L h ρ ev hn hvs => ?_
      obtain ⟨q0, q1, q2, _, _⟩ := hops hvs
      exact main a b (by omega) (by omega) d5 (.inr (by omega)) hn q0 (by rw [q1 _ rfl]) (by rw [q2 _ rfl])
  · cases ht
theorem pairUp_rel {L : Nat → Prop} {r : Nat → Nat × Nat} {ev : Operand → Value} : ∀ {l : List (Nat × Operand)} {vs : List Value} {ps : List (Nat × Value)}, pairUp l vs = some ps → VRL L r vs ((ptsL l).map ev) → PR L r ps (l.map fun (i, x) => (i, ev x))
  | [], [], ps, h, _ => by simp only [pairUp, Option.some.injEq] at h; subst h; exact .nil
  | (i, x) :: l, v :: vs, ps, h, hv => by
    simp only [pairUp] at h
    split at h <;> try (cases h; done)
    rename_i q hq
    cases h
    simp only [ptsL, List.map_cons] at hv
    cases hv with
    | cons h0 h1 => exact .cons h0 (pairUp_rel hq h1)
  | [], _ :: _, _, h, _ => by simp [pairUp] at h
  | _ :: _, [], _, h, _ => by simp [pairUp] at h
theorem tBuild_sound {o : Oper} {T : TypeId} {n : Nat} {parts : Array (Nat × Operand)} (ho : o.op = .buildSlice T n parts) {vs : List Value} {v : Value} {H' : HX} (ht : (tBuild P T n parts.toList vs H).out = some (v, H')) :
    OWP P (means W) o vs H fun a b => a = v ∧ b = H' := by
  unfold tBuild at ht
  split at ht <;> try (cases ht; done)
  rename_i e s b hel
  split at ht <;> try (cases ht; done)
  rename_i zs ps hzs hps
  split at ht <;> try (cases ht; done)
  rename_i cs hcs
  simp only [DT.out] at ht
  split at ht <;> try (cases ht; done)
  rename_i hk
  cases ht
  obtain ⟨h0, h1⟩ := of_decide_eq_true hk
  obtain ⟨hu, i, zs', z, hi, rfl, rfl, hs0, hb0, hz', hz, hzc, hzl⟩ := elemP_spec hel
  rw [hzs] at hz'
  obtain rfl := Option.some.inj hz'
  refine OWP.of fun w0 w L h ρ ev hn hv => ?_
  rw [show opndsL o.op = ptsL parts.toList from by rw [ho]; rfl] at hv
  have hp := pairUp_rel hps hv
  have hzz : VRL L ρ.b zs zs := by obtain ⟨z, _, _, z3⟩ := zer_run hzs w; exact scals_rel z3
  obtain ⟨r', hr, hrel⟩ := fill_rel hp (rep_rel hzz n) hcs
  have hcells : (Array.range (n * i.size)).map (z.cells[· % z.cells.size]!) = ⟨rep zs n⟩ := by
    apply Array.ext'
    apply List.ext_getElem?
    intro q
    rw [hzc]
    simp only [Array.toList_map, Array.toList_range, List.getElem?_map, List.size_toArray, hzl]
    by_cases hq : q < n * i.size
    · rw [List.getElem?_range hq, rep_get zs (by omega) n q (by rw [hzl]; exact hq), hzl]
      have hm : q % i.size < zs.length := by rw [hzl]; exact Nat.mod_lt _ hs0
      simp [hm]
    · rw [List.getElem?_eq_none (by simp; omega), List.getElem?_eq_none (by rw [rep_len, hzl]; omega)]; rfl
  have hrun := run_buildSlice (P := P) w T e n (parts.map fun (i, x) => (i, ev x)) ⟨r'⟩ i z hu hi hz (by omega) (by have := Nat.mul_pos h0 hs0; omega) (by rw [hcells, Array.toList_map]; exact hr)
  obtain ⟨ρ', h', n1, n2, n3⟩ := hn.alloc cs r' e hrel
  refine ⟨.slice (some ⟨w.heap.size, 0, none⟩) n n, ρ', h', _, ?_, by simpa using n1, n2, ?_⟩
  · unfold execOp
    simp only [ho]
    exact val_run hrun
  · rw [← n3]
    exact .slice (.inr ⟨Nat.le_refl _, by simp⟩)
theorem idxL_spec {e : TypeId} {s : Nat} {cs : List Value} {n : Int} {v : Value} {H' : HX} : ∀ (z i : Nat), (idxL P e s cs H n z i).out = some (v, H') → H' = H ∧ ∃ j, i ≤ j ∧ j < i + z ∧ n = (j : Int) ∧ rd P e cs (j * s) = some v
  | 0, _, h => by cases h
  | z + 1, i, h => by
    unfold idxL at h
    simp only [DT.out] at h
    split at h
    · rename_i hc
      split at h <;> try (cases h; done)
      rename_i v' hv
      cases h
      exact ⟨rfl, i, by omega, by omega, of_decide_eq_true hc, hv⟩
    · obtain ⟨h1, j, h2, h3, h4, h5⟩ := idxL_spec z (i + 1) h
      exact ⟨h1, j, by omega, by omega, h4, h5⟩
theorem tIndex_sound {o : Oper} {T : TypeId} {x ix : Operand} (ho : o.op = .index T x ix) {k : IntKind} {cs : List Value} {n : Int} {v : Value} {H' : HX} (ht : (tIndex P T cs n H).out = some (v, H')) :
    OWP P (means W) o [.agg ⟨cs⟩, .int k n] H fun a b => a = v ∧ b = H' := by
  unfold tIndex at ht
  split at ht <;> try (cases ht; done)
  rename_i m e hu
  split at ht <;> try (cases ht; done)
  rename_i s hs
  obtain ⟨rfl, j, _, h2, rfl, h4⟩ := idxL_spec _ _ ht
  obtain ⟨q, hq, rfl⟩ := Option.map_eq_some_iff.1 hs
  refine OWP.look fun w0 w L h ρ ev hn hv => ?_
  rw [show opndsL o.op = [x, ix] from by rw [ho]; rfl] at hv
  cases hv with
  | cons h0 hv =>
    cases hv with
    | cons h1 _ =>
      obtain ⟨cs', e1, hcs⟩ := h0.agg_eq
      have e2 := h1.int_eq
      obtain ⟨v', r1, r2⟩ := part_run h4 hcs w
      refine ⟨v', ?_, r2⟩
      unfold execOp
      simp only [ho]
      rw [e1, e2]
      refine val_run (w1 := w) ?_
      have hj : (0 : Int) ≤ (j : Int) ∧ (j : Int) < (m : Int) := ⟨by omega, by omega⟩
      simp only [Instr.index, asIntOf, Sem.run_bind, Sem.run_pure, Result.andThen_ok, und_run hu w, hj, and_self, if_true, siz_run hq w, Int.toNat_natCast]
      exact r1
theorem tMakeMap_sound {o : Oper} {T : TypeId} (ho : o.op = .makeMap T none) : OWP P (means W) o [] H fun a b => a = .map (some H.length) ∧ b = H ++ [some (true, .ext (.mp [] 0))] := by
  refine OWP.of fun w0 w L h ρ ev hn hv => ?_
  have hfr := hn.mem.fresh (Nat.le_refl w.heap.size)
  obtain ⟨ρ', n1, n2, n3⟩ := hn.made (b := (w.heap.size, 0)) (es := [w.heap.size]) (x := .mp [] 0) (hn.mem.keepO (.map #[] 0)) ⟨rfl, upd_same _ _ _⟩
    (fun k hk => by simp only [List.mem_singleton] at hk; rw [hk]; exact hfr) (fun k hk => upd_other _ _ (by simpa using hk))
  refine ⟨.map (some w.heap.size), ρ', _, _, ?_, by simpa using n1, n2, ?_⟩
  · unfold execOp
    simp only [ho]
    exact val_run rfl
  · have := VR.map (L := LU L H.length (H.length + 1)) (ρ := ρ'.b) (i := H.length) (.inr ⟨Nat.le_refl _, by omega⟩)
    rw [n3] at this
    simpa using this
theorem lkV_rel {L : Nat → Prop} {r : Nat → Nat × Nat} {y : Value} (hy : scal 3 y = true) (c b : Bool) : VR L r (lkV c y b) (lkV c y b) := by
  cases c
  · exact scal_refl 3 hy
  · exact .tuple (.cons (scal_refl 3 hy) (.cons (.plain rfl) .nil))
theorem look_main {o : Oper} {T : TypeId} {m ix : Operand} {c : Bool} (ho : o.op = .lookup T m ix c) {i clock : Nat} {p : Bool} {es : List MapEntry} (hi : nth H i = some (p, .ext (.mp es clock))) {k y : Value} {q : Bool} (hpk : scal 3 k = true) (hy : scal 3 y = true)
    (hrun : ∀ (w : World) b, w.heap[b]? = some (.map ⟨es⟩ clock) → (Instr.lookup T (.map (some b)) k c).run P w = .ok (lkV c y q) w) : OWP P (means W) o [.map (some i), k] H fun a b => a = lkV c y q ∧ b = H := by
  refine OWP.look fun w0 w L h ρ ev hn hvs => ?_
  rw [show opndsL o.op = [m, ix] from by rw [ho]; rfl] at hvs
  cases hvs with
  | cons e1 hvs => cases hvs with
    | cons e2 _ =>
      obtain ⟨hl, e1⟩ := e1.map_eq
      have e2 := scal_eq 3 hpk e2
      obtain ⟨he, hb⟩ := hn.sat.obj i p _ hi
      refine ⟨_, ?_, lkV_rel hy c q⟩
      unfold execOp
      simp only [ho]
      rw [e1, e2]
      exact val_run (hrun w _ (hn.mem.blk _ _ hb))
theorem tLookup_sound {o : Oper} {T : TypeId} {m ix : Operand} {c : Bool} (ho : o.op = .lookup T m ix c) {i : Nat} {k v : Value} {H' : HX} (ht : (tLookup P T i k c H).out = some (v, H')) :
    OWP P (means W) o [.map (some i), k] H fun a b => a = v ∧ b = H' := by
  unfold tLookup at ht
  split at ht <;> try (cases ht; done)
  rename_i p es clock kt et hi hu
  split at ht <;> try (cases ht; done)
  rename_i r z hpk hck hfk hz
  have und : ∀ w : World, (underlying T).run P w = .ok (.map kt et) w := fun w => und_run hu w
  cases r with
  | some q =>
    obtain ⟨q, x⟩ := q
    simp only at ht
    cases hx : scal 3 x with
    | false => rw [hx] at ht; cases ht
    | true =>
      rw [hx] at ht
      simp only [DT.out, Option.some.injEq, Prod.mk.injEq] at ht
      obtain ⟨rfl, rfl⟩ := ht
      refine look_main ho hi hpk hx fun w b hb => ?_
      simp only [Instr.lookup, Sem.run_bind, und w, Result.andThen_ok, run_getObj_map w b ⟨es⟩ clock hb, Sem.run_pure, semP_run hck w, semP_run hfk w]
      cases c <;> rfl
  | none =>
    simp only at ht
    cases hx : scal 3 z with
    | false => rw [hx] at ht; cases ht
    | true =>
      rw [hx] at ht
      simp only [DT.out, Option.some.injEq, Prod.mk.injEq] at ht
      obtain ⟨rfl, rfl⟩ := ht
      refine look_main ho hi hpk hx fun w b hb => ?_
      simp only [Instr.lookup, Sem.run_bind, und w, Result.andThen_ok, run_getObj_map w b ⟨es⟩ clock hb, Sem.run_pure, semP_run hck w, semP_run hfk w, semP_run hz w]
      cases c <;> rfl
theorem tUpdate_sound {o : Oper} {T : TypeId} {m x y : Operand} (ho : o.op = .mapUpdate T m x y) {i : Nat} {k u v : Value} {H' : HX} (ht : (tUpdate P T i k u H).out = some (v, H')) :
    OWP P (means W) o [.map (some i), k, u] H fun a b => a = v ∧ b = H' := by
  unfold tUpdate at ht
  split at ht <;> try (cases ht; done)
  rename_i es clock kt et hi hu
  split at ht <;> try (cases ht; done)
  rename_i hpk hpu hck hfk
  simp only [DT.out, Option.some.injEq, Prod.mk.injEq] at ht
  obtain ⟨rfl, rfl⟩ := ht
  refine OWP.skp fun w0 w L h ρ ev hn hvs => ?_
  rw [show opndsL o.op = [m, x, y] from by rw [ho]; rfl] at hvs
  cases hvs with
  | cons e1 hvs => cases hvs with
    | cons e2 hvs => cases hvs with
      | cons e3 _ =>
        obtain ⟨hl, e1⟩ := e1.map_eq
        have e2 := scal_eq 3 hpk e2
        have e3 := scal_eq 3 hpu e3
        obtain ⟨he, hb⟩ := hn.sat.obj i true _ hi
        have hbw := hn.mem.blk _ _ hb
        have hrun : (Instr.mapUpdate T (.map (some (ρ.b i).1)) k u).run P w = .ok () { w with heap := w.heap.setIfInBounds (ρ.b i).1 (.map (⟨es⟩ ++ #[⟨k, u, clock⟩]) (clock + 1)) } := by
          simp only [Instr.mapUpdate, Sem.run_bind, und_run hu w, Result.andThen_ok, run_getObj_map w (ρ.b i).1 ⟨es⟩ clock hbw, semP_run hck w, semP_run hfk w]
          simp [setObj, Sem.run, hbw]
        have hlt : (ρ.b i).1 < w.heap.size := (Array.getElem?_eq_some_iff.1 hbw).1
        have hm := hn.mem.turned (o' := .map (⟨es⟩ ++ #[⟨k, u, clock⟩]) (clock + 1)) (w' := { w with heap := w.heap.setIfInBounds (ρ.b i).1 (.map (⟨es⟩ ++ #[⟨k, u, clock⟩]) (clock + 1)) }) hb
          ⟨rfl, rfl, rfl, by simp, fun j hj hne => by
            have hne' : (ρ.b i).1 ≠ j := fun e => hne (by rw [e])
            simp [hne']⟩ (by simp [hlt])
        obtain ⟨n1, n2⟩ := hn.turn (o' := .ext (.mp (es ++ [⟨k, u, clock⟩]) (clock + 1))) hi hm ⟨he, by rw [upd_same]; simp⟩ (fun j hj => upd_other _ _ (fun e => hj (by rw [show ρ.blocks i = ρ.e i from rfl, he, e]; simp)))
        refine ⟨ρ, _, { w with heap := w.heap.setIfInBounds (ρ.b i).1 (.map (⟨es⟩ ++ #[⟨k, u, clock⟩]) (clock + 1)) }, ?_, by simpa using n1.lu, n2⟩
        unfold execOp
        simp only [ho]
        rw [e1, e2, e3]
        show (do Instr.mapUpdate T (.map (some (ρ.b i).1)) k u; pure .skip : Sem Next).run P w = _
        rw [bnd_run hrun]; rfl
theorem tNewMap_any {o : Oper} {T : TypeId} (ho : o.op = .makeMap T none) (x : Ext) (hx : ∀ (k : Nat) (h : GH), h k = some (.map #[] 0) → (means W).sat x (k, 0) [k] h) : OWP P (means W) o [] H fun a b => a = .map (some H.length) ∧ b = H ++ [some (true, .ext x)] := by
  refine OWP.of fun w0 w L h ρ ev hn hv => ?_
  have hfr := hn.mem.fresh (Nat.le_refl w.heap.size)
  obtain ⟨ρ', n1, n2, n3⟩ := hn.made (b := (w.heap.size, 0)) (es := [w.heap.size]) (x := x) (hn.mem.keepO (.map #[] 0)) (hx _ _ (upd_same _ _ _))
    (fun k hk => by simp only [List.mem_singleton] at hk; rw [hk]; exact hfr) (fun k hk => upd_other _ _ (by simpa using hk))
  refine ⟨.map (some w.heap.size), ρ', _, _, ?_, by simpa using n1, n2, ?_⟩
  · unfold execOp
    simp only [ho]
    exact val_run rfl
  · have := VR.map (L := LU L H.length (H.length + 1)) (ρ := ρ'.b) (i := H.length) (.inr ⟨Nat.le_refl _, by omega⟩)
    rw [n3] at this
    simpa using this
theorem im_empty (c : Mc) (hc : ∀ a, c.get a = none) (k : Nat) (h : GH) (hk : h k = some (.map #[] 0)) : (means W).sat (.im c Tk.new) (k, 0) [k] h :=
  ⟨rfl, #[], 0, hk, ⟨rfl, by simp, MapKept.stamped_empty 0, by simp, fun a v e => by rw [hc a] at e; cases e⟩⟩
theorem tNewMap_sound {o : Oper} {T : TypeId} (ho : o.op = .makeMap T none) {v : Value} {H' : HX} (ht : (tNewMap P T H).out = some (v, H')) : OWP P (means W) o [] H fun a b => a = v ∧ b = H' := by
  unfold tNewMap at ht
  have mpk : ∀ (k : Nat) (h : GH), h k = some (.map #[] 0) → (means W).sat (.mp [] 0) (k, 0) [k] h := fun k h hk => ⟨rfl, hk⟩
  split at ht
  · split at ht <;> cases ht
    · exact tNewMap_any ho _ (im_empty _ fun _ => rfl)
    · exact tNewMap_any ho _ (im_empty _ fun _ => rfl)
    · exact tNewMap_any ho _ (im_empty _ fun _ => rfl)
    · exact tNewMap_any ho _ mpk
  · cases ht
    exact tNewMap_any ho _ mpk
theorem getD_scal {c : Mc} {a : Int} {z : Value} (hz : scal 3 z = true) : scal 3 ((c.get a).getD z) = true := by
  cases q : c.get a with
  | none => exact hz
  | some y => exact Mc.scal q
theorem tLookI_sound {o : Oper} {T : TypeId} {m ix : Operand} {c : Bool} (ho : o.op = .lookup T m ix c) {i : Nat} {p : Bool} {mc : Mc} {τ : Tk} (hi : nth H i = some (p, .ext (.im mc τ))) {a : Int} {v : Value} {H' : HX} (ht : (tLookI P T mc a c H).out = some (v, H')) :
    OWP P (means W) o [.map (some i), .int .i64 a] H fun x b => x = v ∧ b = H' := by
  have main : ∀ {kt et : TypeId} {z : Value}, P.underlying T = some (.map kt et) → P.underlying kt = some (.int .i64) → semP P (zeroValue et) = some z → (Lit.int .i64 a).wf = true → scal 3 ((mc.get a).getD z) = true →
      OWP P (means W) o [.map (some i), .int .i64 a] H fun x b => x = lkV c ((mc.get a).getD z) (mc.get a).isSome ∧ b = H := by
    intro kt et z hu hk hz hw hs
    refine OWP.look fun w0 w L h ρ ev hn hvs => ?_
    rw [show opndsL o.op = [m, ix] from by rw [ho]; rfl] at hvs
    cases hvs with
    | cons e1 hvs => cases hvs with
      | cons e2 _ =>
        obtain ⟨hl, e1⟩ := e1.map_eq
        have e2 := e2.int_eq
        obtain ⟨he, es, clock, hb, hm⟩ := hn.sat.obj i p _ hi
        refine ⟨_, ?_, lkV_rel hs c _⟩
        unfold execOp
        simp only [ho]
        rw [e1, e2]
        refine val_run (w1 := w) ((hm.look mc.room_le hu hk (semP_run hz w) (hn.mem.blk _ _ hb) hw c).trans ?_)
        cases c <;> rfl
  unfold tLookI at ht
  split at ht <;> try (cases ht; done)
  rename_i kt et hu
  split at ht <;> try (cases ht; done)
  all_goals
    rename_i f hk hz
    simp only [DT.out] at ht
    split at ht <;> try (cases ht; done)
    rename_i hw
    cases ht
    have := main hu hk hz hw (getD_scal rfl)
    first
      | (rw [show (Mc.get (.ints f) a).isSome = (f a).isSome from Mc.has_eq _ _, show (Mc.get (.ints f) a).getD (.int .i64 0) = .int .i64 ((f a).getD 0) from by show ((f a).map _).getD _ = _; cases f a <;> rfl] at this; exact this)
      | (rw [show (Mc.get (.bools f) a).isSome = (f a).isSome from Mc.has_eq _ _, show (Mc.get (.bools f) a).getD (.bool false) = .bool ((f a).getD false) from by show ((f a).map _).getD _ = _; cases f a <;> rfl] at this; exact this)
      | (rw [show (Mc.get (.trip f) a).isSome = (f a).isSome from Mc.has_eq _ _, show (Mc.get (.trip f) a).getD (.agg ⟨[.int .i64 0, .int .i64 0, .int .i64 0]⟩) = tripV ((f a).getD (0, 0, 0)) from by show ((f a).map _).getD _ = _; cases f a <;> rfl] at this; exact this)
theorem setG_set {c c' : Mc} {a : Int} {v : Value} (h : c.set a v = some c') : c'.get = setG c.get a (some v) ∧ c'.room = c.room := by
  unfold Mc.set at h
  split at h <;> cases h <;> refine ⟨?_, rfl⟩ <;> funext x <;> simp only [Mc.get, setG] <;> split <;> rfl
theorem setG_del (c : Mc) (a : Int) : (c.del a).get = setG c.get a none ∧ (c.del a).room = c.room := by
  cases c <;> refine ⟨?_, rfl⟩ <;> funext x <;> simp only [Mc.get, Mc.del, setG] <;> split <;> rfl
theorem set_scal {c c' : Mc} {a : Int} {v : Value} (h : c.set a v = some c') : scal 3 v = true := by
  unfold Mc.set at h
  split at h <;> cases h <;> rfl
theorem im_turn {w0 w : World} {L : Nat → Prop} {ρ : Ren} {h : GH} {i : Nat} {mc mc' : Mc} {τ τ' : Tk} (hn : Now (means W) w0 L ρ H h w) (hi : nth H i = some (true, .ext (.im mc τ))) {es es' : Array MapEntry} {clock clock' : Nat} (hb : h (ρ.b i).1 = some (.map es clock)) (he : ρ.e i = [(ρ.b i).1])
    (hm' : MapOk mc'.room mc'.get τ' es' clock') : ∃ h', Now (means W) w0 (LU L H.length (put H i (some (true, .ext (.im mc' τ')))).length) ρ (put H i (some (true, .ext (.im mc' τ')))) h' { w with heap := w.heap.setIfInBounds (ρ.b i).1 (.map es' clock') } ∧ Tr ρ H h ρ (put H i (some (true, .ext (.im mc' τ')))) h' := by
  have hbw := hn.mem.blk _ _ hb
  have hlt : (ρ.b i).1 < w.heap.size := (Array.getElem?_eq_some_iff.1 hbw).1
  have hm := hn.mem.turned (o' := .map es' clock') (w' := { w with heap := w.heap.setIfInBounds (ρ.b i).1 (.map es' clock') }) hb
    ⟨rfl, rfl, rfl, by simp, fun j hj hne => by
      have hne' : (ρ.b i).1 ≠ j := fun e => hne (by rw [e])
      simp [hne']⟩ (by simp [hlt])
  obtain ⟨n1, n2⟩ := hn.turn (o' := .ext (.im mc' τ')) hi hm ⟨he, es', clock', upd_same _ _ _, hm'⟩ (fun j hj => upd_other _ _ (fun e => hj (by rw [show ρ.blocks i = ρ.e i from rfl, he, e]; simp)))
  exact ⟨_, by rw [put_len]; exact n1.lu, n2⟩
theorem tUpdI_sound {o : Oper} {T : TypeId} {m x y : Operand} (ho : o.op = .mapUpdate T m x y) {i : Nat} {mc : Mc} {τ : Tk} (hi : nth H i = some (true, .ext (.im mc τ))) {a : Int} {u v : Value} {H' : HX} (ht : (tUpdI P T i mc τ a u H).out = some (v, H')) :
    OWP P (means W) o [.map (some i), .int .i64 a, u] H fun x b => x = v ∧ b = H' := by
  unfold tUpdI at ht
  split at ht <;> try (cases ht; done)
  rename_i kt et mc' hu hset
  split at ht <;> try (cases ht; done)
  rename_i hk
  simp only [DT.out] at ht
  split at ht <;> try (cases ht; done)
  rename_i hd
  cases ht
  obtain ⟨a0, a1⟩ := of_decide_eq_true hd
  refine OWP.skp fun w0 w L h ρ ev hn hvs => ?_
  rw [show opndsL o.op = [m, x, y] from by rw [ho]; rfl] at hvs
  cases hvs with
  | cons e1 hvs => cases hvs with
    | cons e2 hvs => cases hvs with
      | cons e3 _ =>
        obtain ⟨hl, e1⟩ := e1.map_eq
        have e2 := e2.int_eq
        have e3 := scal_eq 3 (set_scal hset) e3
        obtain ⟨he, es, clock, hb, hm⟩ := hn.sat.obj i true _ hi
        obtain ⟨es', clock', hrun, hm'⟩ := hm.store mc.room_le hu hk (hn.mem.blk _ _ hb) a0 a1 u
        obtain ⟨s1, s2⟩ := setG_set hset
        rw [← s1, ← s2, mc.has_eq] at hm'
        obtain ⟨h', n1, n2⟩ := im_turn hn hi hb he hm'
        refine ⟨ρ, h', _, ?_, n1, n2⟩
        unfold execOp
        simp only [ho]
        rw [e1, e2, e3]
        show (do Instr.mapUpdate T (.map (some (ρ.b i).1)) (.int .i64 a) u; pure .skip : Sem Next).run P w = _
        rw [bnd_run hrun]; rfl
theorem tDelI_sound {o : Oper} {T kt' : TypeId} {x y : Operand} (ho : o.op = .call { callee := .builtin .delete, args := #[x, y], argTypes := #[T, kt'] }) {i : Nat} {a : Int} {v : Value} {H' : HX} (ht : (tDelI P T kt' i a H).out = some (v, H')) :
    OWP P (means W) o [.map (some i), .int .i64 a] H fun x b => x = v ∧ b = H' := by
  unfold tDelI at ht
  split at ht <;> try (cases ht; done)
  rename_i mc τ kt et hi hu
  split at ht <;> try (cases ht; done)
  rename_i hk hkk
  obtain rfl := of_decide_eq_true hkk
  simp only [DT.out] at ht
  split at ht <;> try (cases ht; done)
  rename_i hw
  cases ht
  refine OWP.of fun w0 w L h ρ ev hn hvs => ?_
  rw [show opndsL o.op = [x, y] from by rw [ho]; rfl] at hvs
  cases hvs with
  | cons e1 hvs => cases hvs with
    | cons e2 _ =>
      obtain ⟨hl, e1⟩ := e1.map_eq
      have e2 := e2.int_eq
      obtain ⟨he, es, clock, hb, hm⟩ := hn.sat.obj i true _ hi
      obtain ⟨es', hrun, hm'⟩ := hm.drop (ty := o.type) mc.room_le hu hk (hn.mem.blk _ _ hb) hw
      obtain ⟨s1, s2⟩ := setG_del mc a
      rw [← s1, ← s2] at hm'
      obtain ⟨h', n1, n2⟩ := im_turn hn hi hb he hm'
      refine ⟨.tuple #[], ρ, h', _, ?_, n1, n2, .plain rfl⟩
      unfold execOp
      simp only [ho, resolve, invoke, builtin, Sem.run_bind, Sem.run_pure, Result.andThen_ok, List.map_toArray, List.map_cons, List.map_nil, e1, e2, hrun]
theorem tEntry_sound {o : Oper} {T : TypeId} {m x : Operand} (ho : o.op = .mapEntry T m x) {i : Nat} {a : Int} {v : Value} {H' : HX} (ht : (tEntry P T i a H).out = some (v, H')) :
    OWP P (means W) o [.map (some i), .int .i64 a] H fun x b => x = v ∧ b = H' := by
  unfold tEntry at ht
  split at ht <;> try (cases ht; done)
  rename_i f τ kt et hi hu
  split at ht <;> try (cases ht; done)
  rename_i hk hz
  simp only [DT.out] at ht
  split at ht <;> try (cases ht; done)
  rename_i hd
  cases ht
  obtain ⟨a0, a1⟩ := of_decide_eq_true hd
  refine OWP.of fun w0 w L h ρ ev hn hvs => ?_
  rw [show opndsL o.op = [m, x] from by rw [ho]; rfl] at hvs
  cases hvs with
  | cons e1 hvs => cases hvs with
    | cons e2 _ =>
      obtain ⟨hl, e1⟩ := e1.map_eq
      have e2 := e2.int_eq
      obtain ⟨he, es, clock, hb, hm⟩ := hn.sat.obj i true _ hi
      obtain ⟨es', clock', hrun, hm'⟩ := hm.entry (Mc.room_le _) hu hk (semP_run hz w) (hn.mem.blk _ _ hb) a0 a1
      have g2 : ((Mc.ints f).get a).isSome = (f a).isSome := Mc.has_eq _ _
      have g3 : ((Mc.ints f).get a).getD (.int .i64 0) = .int .i64 ((f a).getD 0) := by show ((f a).map _).getD _ = _; cases f a <;> rfl
      rw [g2, g3] at hrun hm'
      have g4 : (Mc.ints fun x => if x = a then some ((f a).getD 0) else f x).get = setG (Mc.ints f).get a (some (.int .i64 ((f a).getD 0))) := by
        funext x; simp only [Mc.get, setG]; split <;> rfl
      rw [← g4] at hm'
      obtain ⟨h', n1, n2⟩ := im_turn (mc' := .ints fun x => if x = a then some ((f a).getD 0) else f x) hn hi hb he hm'
      refine ⟨_, ρ, h', _, ?_, n1, n2, .tuple (.cons (.plain rfl) (.cons (.plain rfl) .nil))⟩
      unfold execOp
      simp only [ho]
      rw [e1, e2]
      exact val_run hrun
theorem tEntrySt_sound {o : Oper} {T : TypeId} {m x z : Operand} (ho : o.op = .entryStore T m x z) {i : Nat} {s : Int} {u v : Value} {H' : HX} (ht : (tEntrySt i s u H).out = some (v, H')) :
    OWP P (means W) o [.map (some i), .int .i64 s, u] H fun x b => x = v ∧ b = H' := by
  unfold tEntrySt at ht
  split at ht <;> try (cases ht; done)
  rename_i f τ y hi
  simp only [DT.out] at ht
  split at ht <;> try (cases ht; done)
  rename_i hd
  cases ht
  simp only [Bool.and_eq_true, decide_eq_true_eq] at hd
  obtain ⟨⟨rfl, hs⟩, a0, a1⟩ := hd
  refine OWP.skp fun w0 w L h ρ ev hn hvs => ?_
  rw [show opndsL o.op = [m, x, z] from by rw [ho]; rfl] at hvs
  cases hvs with
  | cons e1 hvs => cases hvs with
    | cons e2 hvs => cases hvs with
      | cons e3 _ =>
        obtain ⟨hl, e1⟩ := e1.map_eq
        have e2 := e2.int_eq
        have e3 := e3.int_eq
        obtain ⟨he, es, clock, hb, hm⟩ := hn.sat.obj i true _ hi
        obtain ⟨es', hrun, hm'⟩ := hm.entryStore (P := P) (T := T) (hn.mem.blk _ _ hb) (a := τ.pend) (by rw [Mc.has_eq]; exact hs) a0 a1 (.int .i64 y)
        have g4 : (Mc.ints fun x => if x = τ.pend then some y else f x).get = setG (Mc.ints f).get τ.pend (some (.int .i64 y)) := by
          funext x; simp only [Mc.get, setG]; split <;> rfl
        rw [← g4] at hm'
        obtain ⟨h', n1, n2⟩ := im_turn (mc' := .ints fun x => if x = τ.pend then some y else f x) hn hi hb he hm'
        refine ⟨ρ, h', _, ?_, n1, n2⟩
        unfold execOp
        simp only [ho]
        rw [e1, e2, e3]
        show (do Instr.entryStore T (.map (some (ρ.b i).1)) (.int .i64 _) (.int .i64 y); pure .skip : Sem Next).run P w = _
        exact bnd_run hrun
theorem tLook1_sound {o : Oper} {T : TypeId} {m ix : Operand} {c : Bool} (ho : o.op = .lookup T m ix c) {i : Nat} {k v : Value} {H' : HX} (ht : (tLook1 P T i k c H).out = some (v, H')) :
    OWP P (means W) o [.map (some i), k] H fun a b => a = v ∧ b = H' := by
  unfold tLook1 at ht
  split at ht
  · rename_i hi
    split at ht <;> try (cases ht; done)
    exact tLookI_sound ho hi ht
  · exact tLookup_sound ho ht
theorem tUpd1_sound {o : Oper} {T : TypeId} {m x y : Operand} (ho : o.op = .mapUpdate T m x y) {i : Nat} {k u v : Value} {H' : HX} (ht : (tUpd1 P T i k u H).out = some (v, H')) :
    OWP P (means W) o [.map (some i), k, u] H fun a b => a = v ∧ b = H' := by
  unfold tUpd1 at ht
  split at ht
  · rename_i hi
    split at ht <;> try (cases ht; done)
    exact tUpdI_sound ho hi ht
  · exact tUpdate_sound ho ht
theorem tellOps_sound : TellSound P (means W) (tellOps P) := by
  intro o vs H v H' ht
  unfold tellOps at ht
  obtain ⟨dst, op, type, pos, after, guard⟩ := o
  split at ht
  · rename_i T x i off ho
    exact tLoad_sound ho ht
  · rename_i T x y i off u ho
    exact tStore_sound ho ht
  · rename_i xs ts u x ho
    split at ht <;> try (cases ht; done)
    rename_i a b T U h1 h2
    split at ht <;> try (cases ht; done)
    rename_i hT
    obtain rfl := of_decide_eq_true hT
    exact tAppend_sound (by rw [ho]; congr 2 <;> exact Array.ext' (by assumption)) ht
  · rename_i T x y k1 n k2 c ho
    exact tMake_sound ho ht
  · rename_i xs ts i a ho
    split at ht <;> try (cases ht; done)
    rename_i p q T kt h1 h2
    exact tDelI_sound (by rw [ho]; congr 2 <;> exact Array.ext' (by assumption)) ht
  · rename_i T ho
    exact tNewMap_sound ho ht
  · rename_i T m x i a ho
    exact tEntry_sound ho ht
  · rename_i T m x y i s u ho
    exact tEntrySt_sound ho ht
  · rename_i T m x y i k u ho
    exact tUpd1_sound ho ht
  · rename_i T m x c i k ho
    exact tLook1_sound ho ht
  · rename_i T x ix cs k n ho
    exact tIndex_sound ho ht
  · rename_i T n parts vs ho
    exact tBuild_sound ho ht
  · rename_i T xo lo hi x l ho
    split at ht <;> try (cases ht; done)
    · exact tSlice_sound ho rfl rfl ht
    · exact tSlice_sound ho rfl rfl ht
    · exact tSlice_sound ho rfl rfl ht
    · exact tSlice_sound ho rfl rfl ht
  · cases ht
end
end Go.Proofs.Ytdmodejpcfhbhaa
