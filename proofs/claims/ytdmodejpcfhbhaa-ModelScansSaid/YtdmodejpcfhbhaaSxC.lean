/- One operation, as it was reckoned, and as it goes. No program is named here. -/
import Derived.Test.YtdmodejpcfhbhaaSxB
namespace Go.Proofs.Ytdmodejpcfhbhaa
open Go.RowKit

section
variable {P : Program} {o : Oper} {a : Act} {w w' : World} {next : Act → World → Prop} {Q : Exit → Act → World → Prop} {v : Value}
theorem wp_val (h : (execOp a.eval o).run P w = .ok (.value v) w') (hn : next (a.put o.dst v) w') : o.wp P a w next Q := by
  unfold Oper.wp; rw [h]; exact hn
theorem wp_skp (h : (execOp a.eval o).run P w = .ok .skip w') (hn : next (a.put o.dst undef) w') : o.wp P a w next Q := by
  unfold Oper.wp; rw [h]; exact hn
theorem wp_ent {f : FuncId} {xs : Array Value} (h : (execOp a.eval o).run P w = .ok (.enter f xs) w) (hn : Calls P f xs w fun e w' => ∃ v, e = .returned v ∧ next (a.put o.dst v) w') : o.wp P a w next Q := by
  unfold Oper.wp; rw [h]
  exact hn.mono fun e w' ⟨v, he, hv⟩ => by subst he; exact hv

theorem VRL.plain_eq {L : Nat → Prop} {ρ : Nat → Nat × Nat} : ∀ {l l' : List Value}, VRL L ρ l l' → l.all Go.Proofs.Ytdmodejpcfhbhaa.plain = true → l' = l
  | [], _, h, _ => by cases h; rfl
  | a :: l, _, h, hp => by cases h with
    | cons h0 h => simp only [List.all_cons, Bool.and_eq_true] at hp; rw [h0.plain_eq hp.1, h.plain_eq hp.2]
theorem arr_map {α β : Type} (f : α → β) (xs : Array α) : xs.map f = ⟨xs.toList.map f⟩ := Array.ext' (by rw [Array.toList_map])
theorem bnd_run {α β : Type} {s : Sem α} {f : α → Sem β} {x : α} {w1 : World} (h : s.run P w = .ok x w1) : (s >>= f).run P w = (f x).run P w1 := by
  rw [Sem.run_bind, h]; rfl
theorem map_run {α β : Type} {s : Sem α} {f : α → β} {x : α} {w1 : World} (h : s.run P w = .ok x w1) : (f <$> s).run P w = .ok (f x) w1 := by
  rw [show (f <$> s) = (s >>= fun x => pure (f x)) from rfl, bnd_run h]; rfl
theorem ld_run {β : Type} {ad : Addr} {k : Value → Sem β} (h : w.cell? ad = some v) : (Sem.load .plain ad k).run P w = (k v).run P w := by
  simp only [Sem.run, h]
theorem und_run {t : TypeId} {d : TypeDesc} (h : P.underlying t = some d) (w : World) : (underlying t).run P w = .ok d w := by
  show (match P.underlying t with | some d => pure d | none => stuck "no such type" : Sem TypeDesc).run P w = _
  rw [h]; rfl
theorem inf_run {t : TypeId} {i : TypeInfo} (h : P.info? t = some i) (w : World) : (typeInfo t).run P w = .ok i w := by
  show (match P.info? t with | some d => pure d | none => stuck "no such type" : Sem TypeInfo).run P w = _
  rw [h]; rfl
theorem siz_run {t : TypeId} {i : TypeInfo} (h : P.info? t = some i) (w : World) : (sizeOf t).run P w = .ok i.size w := by
  unfold sizeOf; simp [go_sem, inf_run h]
theorem field_run {s : TypeId} {f d : Nat} (h : fieldOff P s f = some d) (b off : Nat) (w : World) :
    (Instr.fieldAt s (.pointer (some ⟨b, off, none⟩)) f).run P w = .ok (.pointer (some ⟨b, off + d, none⟩)) w := by
  unfold fieldOff at h
  split at h <;> try (cases h; done)
  rename_i fs hu
  split at h <;> try (cases h; done)
  rename_i fd hfd
  split at h <;> try (cases h; done)
  rename_i i hi
  split at h <;> try (cases h; done)
  rename_i n hn
  obtain rfl := Option.some.inj h
  simp [Instr.fieldAt, Instr.sureAddr, fieldPlace, go_sem, und_run hu, hfd, siz_run hi, hn, Addr.add]

theorem zero_run {T : TypeId} {cs : List Value} (h : zeroC P T = some cs) (w : World) :
    (Instr.alloc T true (.tuple #[])).run P w = .ok (.pointer (some ⟨w.heap.size, 0, none⟩)) (w.alloc (.cells ⟨cs⟩ T)) := by
  unfold zeroC at h
  split at h <;> try (cases h; done)
  rename_i i hi
  split at h <;> try (cases h; done)
  rename_i v hv
  split at h <;> try (cases h; done)
  obtain rfl := Option.some.inj h
  simp [Instr.alloc, zeroValue, go_sem, inf_run hi, hv, newVar, newRow]
theorem box_run {T : TypeId} (v : Value) (w : World) :
    (Instr.box T v).run P w = .ok (.pointer (some ⟨w.heap.size, 0, none⟩)) (w.alloc (.cells ⟨cellsL v⟩ T)) := by
  show ((fun a => Value.pointer (some a)) <$> (newRow T v.cells)).run P w = _
  rw [cellsL_eq]
  simp [newRow, go_sem]
theorem idx_run {T : TypeId} {x ix v : Value} (h : idx P T x ix = some (true, v)) {L : Nat → Prop} {ρ : Nat → Nat × Nat} {x' : Value} (hx : VR L ρ x x') (w : World) :
    ∃ v', (Instr.indexAt T x' ix).run P w = .ok v' w ∧ VR L ρ v v' := by
  unfold idx at h
  split at h <;> try (cases h; done)
  rename_i k n
  split at h <;> try (cases h; done)
  · rename_i len e i o hu
    split at h <;> try (cases h; done)
    rename_i s hs
    simp only [Option.some.injEq, Prod.mk.injEq, decide_eq_true_eq] at h
    obtain ⟨⟨h0, h1⟩, rfl⟩ := h
    obtain ⟨hl, rfl⟩ := hx.ptr_eq
    obtain ⟨j, hj, rfl⟩ := Option.map_eq_some_iff.1 hs
    refine ⟨_, ?_, .ptr hl⟩
    simp [Instr.indexAt, asIntOf, Instr.sureAddr, go_sem, und_run hu, siz_run hj, h0, h1, Addr.add]
  · rename_i e i o len c hu
    split at h <;> try (cases h; done)
    rename_i s hs
    simp only [Option.some.injEq, Prod.mk.injEq, decide_eq_true_eq] at h
    obtain ⟨⟨h0, h1⟩, rfl⟩ := h
    obtain ⟨hl, rfl⟩ := hx.slice_eq
    obtain ⟨j, hj, rfl⟩ := Option.map_eq_some_iff.1 hs
    refine ⟨_, ?_, .ptr hl⟩
    simp [Instr.indexAt, asIntOf, Instr.sureAddr, go_sem, und_run hu, siz_run hj, h0, h1, Addr.add]
  · rename_i e i o k len hu
    split at h <;> try (cases h; done)
    rename_i s hs
    simp only [Option.some.injEq, Prod.mk.injEq, decide_eq_true_eq] at h
    obtain ⟨⟨h0, h1⟩, rfl⟩ := h
    obtain ⟨hl, rfl⟩ := hx.row_eq
    obtain ⟨j, hj, rfl⟩ := Option.map_eq_some_iff.1 hs
    refine ⟨_, ?_, .ptr hl⟩
    simp [Instr.indexAt, asIntOf, Instr.sureAddr, go_sem, und_run hu, siz_run hj, h0, h1, Addr.add]

theorem agg_run {T : TypeId} {b : Bool} (h : aggB P T = some b) (w : World) : (isAgg T).run P w = .ok b w := by
  unfold aggB at h
  unfold isAgg
  split at h
  · rename_i q; cases h; rw [bnd_run (und_run q _)]; rfl
  · rename_i q; cases h; rw [bnd_run (und_run q _)]; rfl
  · rename_i d n1 n2 q; cases h; rw [bnd_run (und_run q _)]; cases d <;> first | rfl | (exfalso; simp_all; done)
  · cases h

theorem loads_run {b : Nat} {cs : List Value} {w : World} (hc : ∀ o, w.cell? ⟨b, o, none⟩ = cs[o]?) (off : Nat) : ∀ (n i : Nat) (acc : List Value), off + i + n ≤ cs.length →
    (loadCellsFrom ⟨b, off, none⟩ i n ⟨acc⟩).run P w = .ok ⟨acc ++ (cs.drop (off + i)).take n⟩ w
  | 0, i, acc, _ => by simp [loadCellsFrom, go_sem]
  | n + 1, i, acc, h => by
    have hlt : off + i < cs.length := by omega
    have hcell : w.cell? (Addr.add ⟨b, off, none⟩ i) = some cs[off + i] := by rw [Addr.add_lit, hc]; simp [hlt]
    have ih := loads_run hc off n (i + 1) (acc ++ [cs[off + i]]) (by omega)
    show (Sem.load .plain (Addr.add ⟨b, off, none⟩ i) fun v => loadCellsFrom ⟨b, off, none⟩ (i + 1) n (Array.push ⟨acc⟩ v)).run P w = _
    rw [ld_run hcell, List.push_toArray, ih, List.drop_eq_getElem_cons hlt, List.take_succ_cons, show off + (i + 1) = off + i + 1 from rfl]
    simp
theorem rd_run {T : TypeId} {b off : Nat} {cs cs' : List Value} {v : Value} {L : Nat → Prop} {ρ : Nat → Nat × Nat} (hr : rd P T cs off = some v) (hv : VRL L ρ cs cs') {w : World} (hc : ∀ o, w.cell? ⟨b, o, none⟩ = cs'[o]?) :
    ∃ v', (Instr.loadAt T (.pointer (some ⟨b, off, none⟩))).run P w = .ok v' w ∧ VR L ρ v v' := by
  unfold rd at hr
  split at hr <;> try (cases hr; done)
  · rename_i ha
    split at hr <;> try (cases hr; done)
    rename_i n hn
    split at hr <;> try (cases hr; done)
    rename_i hd
    obtain rfl := Option.some.inj hr
    obtain ⟨j, hj, rfl⟩ := Option.map_eq_some_iff.1 hn
    have hle := of_decide_eq_true hd
    refine ⟨.agg ⟨(cs'.drop off).take j.size⟩, ?_, .agg ((hv.drop off).take _)⟩
    have := loads_run (P := P) hc off j.size 0 [] (by rw [hv.len]; omega)
    simp [Instr.loadAt, Instr.sureAddr, loadVar, go_sem, agg_run ha, siz_run hj, loadCells, this]
  · rename_i ha
    obtain ⟨v', h1, h2⟩ := hv.get hr
    refine ⟨v', ?_, h2⟩
    have hcell : w.cell? ⟨b, off, none⟩ = some v' := by rw [hc, h1]
    show (loadVar T ⟨b, off, none⟩).run P w = _
    unfold loadVar
    rw [bnd_run (agg_run ha w)]
    exact ld_run hcell

theorem stores_run {w0 : World} {T : TypeId} {b off : Nat} : ∀ (vs : List Value) (i : Nat) (cs : List Value) {h : GH} {w : World}, Mem w0 h w → h b = some (.cells ⟨cs⟩ T) → off + i + vs.length ≤ cs.length → vs.all one = true →
    ∃ w', (storeCells ⟨b, off, none⟩ vs i).run P w = .ok () w' ∧ Mem w0 (upd h b (.cells ⟨setAt cs (off + i) vs⟩ T)) w'
  | [], i, cs, h, w, m, hb, _, _ => ⟨w, by simp [storeCells, go_sem], m.to (by rw [show setAt cs (off + i) [] = cs from rfl]; exact (upd_eq hb).symm)⟩
  | v :: vs, i, cs, h, w, m, hb, hl, ho => by
    simp only [List.length_cons] at hl
    simp only [List.all_cons, Bool.and_eq_true] at ho
    have hlt : off + i < cs.length := by omega
    have hcell : w.cell? (Addr.add ⟨b, off, none⟩ i) = some cs[off + i] := by rw [Addr.add_lit, m.cell hb]; simp [hlt]
    have hfz : w.frozen? (Addr.add ⟨b, off, none⟩ i) = false := by rw [Addr.add_lit, m.free hb]
    have m' : Mem w0 (upd h b (.cells ⟨cs.set (off + i) v⟩ T)) (w.setCell ⟨b, off + i, none⟩ v) := (m.set hb (off + i) v).eqv (by simp)
    obtain ⟨w', h1, h2⟩ := stores_run (off := off) vs (i + 1) (cs.set (off + i) v) m' (upd_same _ _ _) (by simp; omega) ho.2
    refine ⟨w', ?_, h2.to (by rw [upd_upd]; rfl)⟩
    rw [← h1]
    have hst : ∀ k : Sem Unit, (Sem.store .plain (Addr.add ⟨b, off, none⟩ i) v k).run P w = k.run P (w.setCell ⟨b, off + i, none⟩ v) := by
      intro k
      have := ho.1
      cases v <;> first | (simp only [Sem.run, hcell, hfz]; simp [Addr.add_lit]; done) | (simp [one] at this; done)
    show (Sem.store .plain (Addr.add ⟨b, off, none⟩ i) v (storeCells ⟨b, off, none⟩ vs (i + 1))).run P w = _
    exact hst _
theorem st_run {w0 : World} {T U : TypeId} {b off : Nat} {cs : List Value} {h : GH} {w : World} {v : Value} {n : Nat} (hn : sizeP P T = some n) (m : Mem w0 h w) (hb : h b = some (.cells ⟨cs⟩ U)) (hl : (cellsL v).length = n) (ho : off + n ≤ cs.length) (h1 : (cellsL v).all one = true) :
    ∃ w', (Instr.storeAt T (.pointer (some ⟨b, off, none⟩)) v).run P w = .ok () w' ∧ Mem w0 (upd h b (.cells ⟨setAt cs off (cellsL v)⟩ U)) w' := by
  obtain ⟨j, hj, rfl⟩ := Option.map_eq_some_iff.1 hn
  obtain ⟨w', h2, h3⟩ := stores_run (P := P) (off := off) (cellsL v) 0 cs m hb (by omega) h1
  refine ⟨w', ?_, h3⟩
  have e : v.cells.size = j.size := by rw [cellsL_eq]; exact hl
  have e2 : v.cells.toList = cellsL v := by rw [cellsL_eq]
  show (storeVar T ⟨b, off, none⟩ v).run P w = _
  unfold storeVar
  rw [bnd_run (siz_run hj w)]
  simp only [e, e2, ne_eq, not_true_eq_false, if_false]
  exact h2

theorem setAt_rel {L : Nat → Prop} {ρ : Nat → Nat × Nat} : ∀ {vs vs' cs cs' : List Value} (o : Nat), VRL L ρ vs vs' → VRL L ρ cs cs' → VRL L ρ (setAt cs o vs) (setAt cs' o vs')
  | _, _, _, _, _, .nil, h => h
  | _, _, _, _, o, .cons h0 h, hc => setAt_rel (o + 1) h (hc.set o h0)
theorem setAt_fold : ∀ (l : List Value) (k off : Nat) (cs : List Value), (l.zipIdx k).foldl (fun (c : Array Value) (p : Value × Nat) => c.setIfInBounds (off + p.2) p.1) ⟨cs⟩ = ⟨setAt cs (off + k) l⟩
  | [], _, _, _ => rfl
  | v :: l, k, off, cs => by
    rw [List.zipIdx_cons, List.foldl_cons, show (⟨cs⟩ : Array Value).setIfInBounds (off + k) v = ⟨cs.set (off + k) v⟩ from by simp, setAt_fold l (k + 1) off]
    rfl

inductive PR (L : Nat → Prop) (ρ : Nat → Nat × Nat) : List (Nat × Value) → List (Nat × Value) → Prop
  | nil : PR L ρ [] []
  | cons {i : Nat} {v v' : Value} {l l' : List (Nat × Value)} : VR L ρ v v' → PR L ρ l l' → PR L ρ ((i, v) :: l) ((i, v') :: l')
theorem fill_rel {L : Nat → Prop} {ρ : Nat → Nat × Nat} {place : Nat → Option (Nat × Nat)} : ∀ {ps ps' : List (Nat × Value)} {cs cs' r : List Value}, PR L ρ ps ps' → VRL L ρ cs cs' → fillL place cs ps = some r →
    ∃ r', Instr.fill place ⟨cs'⟩ ps' = some ⟨r'⟩ ∧ VRL L ρ r r'
  | _, _, _, _, _, .nil, hc, h => by simp only [fillL, Option.some.injEq] at h; subst h; exact ⟨_, rfl, hc⟩
  | _, _, cs, cs', r, .cons (i := i) (v := v) (v' := v') (l := l) (l' := l') h0 hp, hc, h => by
    simp only [fillL] at h
    cases e : place i with
    | none => rw [e] at h; cases h
    | some q =>
      obtain ⟨off, size⟩ := q
      rw [e] at h
      simp only at h
      split at h <;> try (cases h; done)
      rename_i hd
      obtain ⟨d1, d2⟩ := of_decide_eq_true hd
      obtain ⟨r', h1, h2⟩ := fill_rel hp (setAt_rel off h0.cells hc) h
      refine ⟨r', ?_, h2⟩
      have l1 := h0.cells.len
      have l2 := hc.len
      have e2 : v'.cells.size = size := by rw [cellsL_eq]; simp; omega
      unfold Instr.fill
      rw [e]
      simp only
      rw [if_neg (by
        rw [cellsL_eq]; simp only [List.size_toArray, Bool.or_eq_true, decide_eq_true_eq, not_or]; omega)]
      rw [← h1, cellsL_eq]
      congr 1
      have := setAt_fold (cellsL v') 0 off cs'
      simp only [Nat.add_zero] at this
      rw [← this]
      simp

theorem places_run {w : World} : ∀ {l : List Field} {ps : List (Nat × Nat)}, placesP P l = some ps → (l.mapM fun (f : Field) => do pure (f.offset, ← sizeOf f.type)).run P w = .ok ps w
  | [], ps, h => by simp only [placesP, Option.some.injEq] at h; subst h; simp [go_sem]
  | f :: l, ps, h => by
    simp only [placesP] at h
    split at h <;> try (cases h; done)
    rename_i s hs
    split at h <;> try (cases h; done)
    rename_i r hr
    obtain rfl := Option.some.inj h
    obtain ⟨j, hj, rfl⟩ := Option.map_eq_some_iff.1 hs
    have ih := places_run (w := w) hr
    simp at ih
    simp [List.mapM_cons, go_sem, siz_run hj, ih]

theorem zer_run {T : TypeId} {zs : List Value} (h : zeroC P T = some zs) (w : World) : ∃ z, (zeroValue T).run P w = .ok z w ∧ z.cells = ⟨zs⟩ ∧ zs.all (scal 1) = true := by
  unfold zeroC at h
  split at h <;> try (cases h; done)
  rename_i i hi
  split at h <;> try (cases h; done)
  rename_i v hv
  split at h <;> try (cases h; done)
  rename_i hz
  obtain rfl := Option.some.inj h
  refine ⟨v, ?_, rfl, hz⟩
  unfold zeroValue
  rw [bnd_run (inf_run hi w), hv]; rfl
theorem scals_rel {L : Nat → Prop} {ρ : Nat → Nat × Nat} {n : Nat} : ∀ {l : List Value}, l.all (scal n) = true → VRL L ρ l l
  | [], _ => .nil
  | v :: l, h => by simp only [List.all_cons, Bool.and_eq_true] at h; exact .cons (scal_refl n h.1) (scals_rel h.2)

theorem build_run {L : Nat → Prop} {ρ : Nat → Nat × Nat} {T : TypeId} {ps ps' : List (Nat × Value)} {cs : List Value} (h : buildA P T ps = some cs) (hp : PR L ρ ps ps') (w : World) :
    ∃ cs', (Instr.build T ⟨ps'⟩).run P w = .ok (.agg ⟨cs'⟩) w ∧ VRL L ρ cs cs' := by
  unfold buildA at h
  split at h <;> try (cases h; done)
  rename_i zs hz
  obtain ⟨z, z1, z2, z3⟩ := zer_run hz w
  split at h <;> try (cases h; done)
  · rename_i fs hu
    split at h <;> try (cases h; done)
    rename_i pl hpl
    obtain ⟨cs', f1, f2⟩ := fill_rel hp (scals_rel z3) h
    refine ⟨cs', ?_, f2⟩
    have hq := places_run (P := P) (w := w) hpl
    have hq2 : (fs.mapM fun (f : Field) => do pure (f.offset, ← sizeOf f.type)).run P w = .ok ⟨pl⟩ w := by
      rw [Array.mapM_eq_mapM_toList]
      exact map_run hq
    unfold Instr.build
    rw [bnd_run z1, bnd_run (und_run hu w)]
    simp only
    rw [bnd_run hq2, z2]
    simp only [List.getElem?_toArray]
    rw [f1]
    rfl
  · rename_i n e hu
    split at h <;> try (cases h; done)
    rename_i s hs
    obtain ⟨j, hj, rfl⟩ := Option.map_eq_some_iff.1 hs
    obtain ⟨cs', f1, f2⟩ := fill_rel hp (scals_rel z3) h
    refine ⟨cs', ?_, f2⟩
    unfold Instr.build
    rw [bnd_run z1, bnd_run (und_run hu w)]
    simp only
    rw [bnd_run (siz_run hj w), z2]
    rw [f1]
    rfl
theorem parts_rel {L : Nat → Prop} {ρ : Nat → Nat × Nat} {t : Gt} (ht : TR L ρ t a.tmps) : ∀ {l : List (Nat × Operand)} {r : List (Nat × Value)}, partsA t l = some r → PR L ρ r (l.map fun (i, x) => (i, a.eval x))
  | [], r, h => by simp only [partsA, Option.some.injEq] at h; subst h; exact .nil
  | (i, x) :: l, r, h => by
    simp only [partsA] at h
    split at h <;> try (cases h; done)
    rename_i v hv
    split at h <;> try (cases h; done)
    rename_i q hq
    obtain rfl := Option.some.inj h
    exact .cons (aev_sound hv ht) (parts_rel ht hq)
theorem mkif_run {T : TypeId} (h : isIface P T = false) (v : Value) (w : World) : (Instr.makeInterface T v).run P w = .ok (.iface T v) w := by
  unfold isIface at h
  split at h <;> try (cases h; done)
  rename_i d hd hn
  unfold Instr.makeInterface
  rw [bnd_run (und_run hn w)]
  cases d <;> first | rfl | (exfalso; exact hd _ rfl)

theorem part_run {L : Nat → Prop} {ρ : Nat → Nat × Nat} {T : TypeId} {off : Nat} {cs cs' : List Value} {v : Value} (hr : rd P T cs off = some v) (hv : VRL L ρ cs cs') (w : World) :
    ∃ v', (part T ⟨cs'⟩ off).run P w = .ok v' w ∧ VR L ρ v v' := by
  unfold rd at hr
  split at hr <;> try (cases hr; done)
  · rename_i ha
    split at hr <;> try (cases hr; done)
    rename_i n hn
    split at hr <;> try (cases hr; done)
    obtain rfl := Option.some.inj hr
    obtain ⟨j, hj, rfl⟩ := Option.map_eq_some_iff.1 hn
    refine ⟨.agg ⟨(cs'.drop off).take j.size⟩, ?_, .agg ((hv.drop off).take _)⟩
    unfold part
    rw [bnd_run (agg_run ha w)]
    simp only [if_true]
    rw [bnd_run (siz_run hj w)]
    simp [go_sem, List.extract_eq_take_drop]
  · rename_i ha
    obtain ⟨v', h1, h2⟩ := hv.get hr
    refine ⟨v', ?_, h2⟩
    unfold part
    rw [bnd_run (agg_run ha w)]
    simp [go_sem, h1]

theorem aevs_scal {L : Nat → Prop} {ρ : Nat → Nat × Nat} {t : Gt} (ht : TR L ρ t a.tmps) : ∀ {l : List Operand}, allScal t l = true → ∀ x ∈ l, (aev t x).getD undef = a.eval x := by
  intro l h x hx
  unfold allScal at h
  split at h
  · rename_i vs hvs
    have key : ∀ (l : List Operand) (vs : List Value), aevs t l = some vs → vs.all (scal 3) = true → ∀ x ∈ l, ∃ v, aev t x = some v ∧ scal 3 v = true := by
      intro l
      induction l with
      | nil => intro _ _ _ x hx; cases hx
      | cons y l ih =>
        intro vs h1 h2 x hx
        simp only [aevs] at h1
        split at h1 <;> try (cases h1; done)
        rename_i v hv
        split at h1 <;> try (cases h1; done)
        rename_i r hr
        obtain rfl := Option.some.inj h1
        simp only [List.all_cons, Bool.and_eq_true] at h2
        cases hx with
        | head => exact ⟨v, hv, h2.1⟩
        | tail _ hx => exact ih r hr h2.2 x hx
    obtain ⟨v, hv, hsc⟩ := key l vs hvs h x hx
    rw [hv]
    exact (scal_eq 3 hsc (aev_sound hv ht)).symm
  · cases h
end

section
variable {X : Type} {P : Program} {I : Means X} {call : CallT X}
theorem Now.lu {w0 w : World} {L : Nat → Prop} {ρ : Ren} {H : AH X} {h : GH} {m : Nat} (hn : Now I w0 L ρ H h w) : Now I w0 (LU L m m) ρ H h w :=
  ⟨hn.mem, ⟨fun i p o e => (hn.sat.obj i p o e).mono (fun x hx => ⟨.inl hx, rfl⟩) rfl rfl fun _ _ => rfl, fun i p o e => .inl (hn.sat.live i p o e), hn.sat.apart⟩, fun x hx => by rcases hx with hx | hx; exact hn.lt x hx; omega, hn.org⟩
theorem Now.alloc {w0 w : World} {L : Nat → Prop} {ρ : Ren} {H : AH X} {h : GH} (hn : Now I w0 L ρ H h w) (cs cs' : List Value) (T : TypeId) (hv : VRL L ρ.b cs cs') :
    ∃ ρ' h', Now I w0 (LU L H.length (H.length + 1)) ρ' (H ++ [some (true, .cells cs T)]) h' (w.alloc (.cells ⟨cs'⟩ T)) ∧ Tr ρ H h ρ' (H ++ [some (true, .cells cs T)]) h' ∧ ρ'.k H.length = w.heap.size := by
  obtain ⟨m, s, hL, org⟩ := hn
  have hfr := m.fresh (Nat.le_refl w.heap.size)
  let ρ' : Ren := ⟨fun i => if i = H.length then (w.heap.size, 0) else ρ.b i, fun i => if i = H.length then [w.heap.size] else ρ.e i⟩
  have hb : ∀ i, i < H.length → ρ'.b i = ρ.b i := fun i hi => if_neg (by omega)
  have he : ∀ i, i < H.length → ρ'.e i = ρ.e i := fun i hi => if_neg (by omega)
  have hbl : ∀ i, i < H.length → ρ'.blocks i = ρ.blocks i := fun i hi => by unfold Ren.blocks; rw [he i hi]
  have hnew : ρ'.blocks H.length = [w.heap.size] := by unfold Ren.blocks; simp [ρ']
  have hnth : ∀ i p o, nth (H ++ [some (true, AObj.cells cs T)]) i = some (p, o) → (i < H.length ∧ nth H i = some (p, o)) ∨ (i = H.length ∧ p = true ∧ o = .cells cs T) := by
    intro i p o e
    rw [nth_append] at e
    by_cases q : i < H.length
    · rw [if_pos q] at e; exact .inl ⟨q, e⟩
    · rw [if_neg q] at e
      have := nth_lt e
      simp at this
      have e0 : i = H.length := by omega
      subst e0
      simp [nth] at e
      exact .inr ⟨rfl, e.1, e.2.symm⟩
  have hne : ∀ k, (∃ o, h k = some o) → k ≠ w.heap.size := fun k ⟨o, ho⟩ e => by rw [e, hfr] at ho; cases ho
  refine ⟨ρ', upd h w.heap.size (.cells ⟨cs'⟩ T), ⟨m.keepO _, ?_, fun x hx => ?_, org⟩, ?_, by simp [ρ', Ren.k]⟩
  · refine ⟨fun i p o e => ?_, fun i p o e => ?_, fun i j p o q u e1 e2 hij x h1 h2 => ?_⟩
    · rcases hnth i p o e with ⟨hi, e⟩ | ⟨rfl, rfl, rfl⟩
      · refine OSat.mono (fun x hx => ⟨.inl hx, hb x (hL x hx)⟩) (hb i hi) (he i hi) (fun k hk => ?_) (s.obj i p o e)
        exact upd_other _ _ (hne k ((s.obj i p o e).here k hk))
      · exact ⟨by simp [ρ', Ren.k], cs', by simp only [ρ', Ren.k, if_true]; exact upd_same _ _ _, hv.mono fun x hx => ⟨.inl hx, hb x (hL x hx)⟩⟩
    · rcases hnth i p o e with ⟨hi, e⟩ | ⟨rfl, rfl, rfl⟩
      · exact .inl (s.live i p o e)
      · exact .inr ⟨Nat.le_refl _, by omega⟩
    · rcases hnth i p o e1 with ⟨hi, e1⟩ | ⟨rfl, rfl, rfl⟩ <;> rcases hnth j q u e2 with ⟨hj, e2⟩ | ⟨rfl, rfl, rfl⟩
      · rw [hbl i hi] at h1; rw [hbl j hj] at h2; exact s.apart i j p o q u e1 e2 hij x h1 h2
      · rw [hbl i hi] at h1; rw [hnew] at h2; simp at h2; exact hne x ((s.obj i p o e1).here x h1) h2
      · rw [hbl j hj] at h2; rw [hnew] at h1; simp at h1; exact hne x ((s.obj j q u e2).here x h2) h1
      · exact hij rfl
  · rcases hx with hx | hx
    · have := hL x hx; simp; omega
    · simp; omega
  · refine ⟨by simp, hb, fun i p o' hi e => ?_, fun i hi _ => he i hi, fun i p o e x hx => ?_, fun x o e _ => ?_, fun x o e => ?_⟩
    · rcases hnth i p o' e with ⟨_, e⟩ | ⟨rfl, _⟩
      · exact ⟨_, e⟩
      · omega
    · rcases hnth i p o e with ⟨hi, e⟩ | ⟨rfl, rfl, rfl⟩
      · rw [hbl i hi] at hx; exact .inl ⟨i, p, o, e, hx, .inr rfl⟩
      · rw [hnew] at hx; simp at hx; subst hx; exact .inr hfr
    · rw [upd_other _ _ (hne x ⟨o, e⟩)]; exact e
    · exact ⟨o, by rw [upd_other _ _ (hne x ⟨o, e⟩)]; exact e⟩

/-- One object of cells has turned. -/
theorem Now.set {w0 w w' : World} {L : Nat → Prop} {ρ : Ren} {H : AH X} {h : GH} (hn : Now I w0 L ρ H h w) {i : Nat} {cs ds ds' : List Value} {T : TypeId} (hi : nth H i = some (true, .cells cs T)) (hv : VRL L ρ.b ds ds') (m' : Mem w0 (upd h (ρ.k i) (.cells ⟨ds'⟩ T)) w') :
    Now I w0 L ρ (put H i (some (true, .cells ds T))) (upd h (ρ.k i) (.cells ⟨ds'⟩ T)) w' ∧ Tr ρ H h ρ (put H i (some (true, .cells ds T))) (upd h (ρ.k i) (.cells ⟨ds'⟩ T)) := by
  obtain ⟨m, s, hL, org⟩ := hn
  have hlt := nth_lt hi
  obtain ⟨he, cs', hb, _⟩ := s.obj i _ _ hi
  have hbl : ρ.blocks i = [ρ.k i] := he
  have hnth : ∀ j p o, nth (put H i (some (true, AObj.cells ds T))) j = some (p, o) → (j ≠ i ∧ nth H j = some (p, o)) ∨ (j = i ∧ p = true ∧ o = .cells ds T) := by
    intro j p o e
    rw [nth_put] at e
    by_cases q : i = j ∧ i < H.length
    · rw [if_pos q] at e; simp at e; exact .inr ⟨q.1.symm, e.1, e.2.symm⟩
    · rw [if_neg q] at e; exact .inl ⟨fun e2 => q ⟨e2.symm, hlt⟩, e⟩
  have hne : ∀ j p o, j ≠ i → nth H j = some (p, o) → ∀ k, k ∈ ρ.blocks j → k ≠ ρ.k i := fun j p o hj e k hk q =>
    s.apart j i p o _ _ e hi hj k hk (by rw [hbl, q]; simp)
  refine ⟨⟨m', ⟨fun j p o e => ?_, fun j p o e => ?_, fun j k p o q u e1 e2 hjk x h1 h2 => ?_⟩, fun x hx => by simpa using hL x hx, org⟩, by simp, fun _ _ => rfl, fun j p o' hj e => ?_, fun _ _ _ => rfl, fun j p o e x hx => ?_, fun x o e hx => ?_, fun x o e => ?_⟩
  · rcases hnth j p o e with ⟨hj, e⟩ | ⟨rfl, rfl, rfl⟩
    · exact OSat.mono (fun x hx => ⟨hx, rfl⟩) rfl rfl (fun k hk => upd_other _ _ (hne j p o hj e k hk)) (s.obj j p o e)
    · exact ⟨he, ds', upd_same _ _ _, hv⟩
  · rcases hnth j p o e with ⟨hj, e⟩ | ⟨rfl, rfl, rfl⟩
    · exact s.live j p o e
    · exact s.live _ _ _ hi
  · have g : ∀ j p o, nth (put H i (some (true, AObj.cells ds T))) j = some (p, o) → ∃ p' o', nth H j = some (p', o') := fun j p o e => by
      rcases hnth j p o e with ⟨_, e⟩ | ⟨rfl, rfl, rfl⟩
      · exact ⟨_, _, e⟩
      · exact ⟨_, _, hi⟩
    obtain ⟨_, _, g1⟩ := g j p o e1
    obtain ⟨_, _, g2⟩ := g k q u e2
    exact s.apart j k _ _ _ _ g1 g2 hjk x h1 h2
  · rcases hnth j p o' e with ⟨_, e⟩ | ⟨rfl, rfl, rfl⟩
    · exact ⟨_, e⟩
    · exact ⟨_, hi⟩
  · left
    rcases hnth j p o e with ⟨_, e⟩ | ⟨rfl, rfl, rfl⟩
    · exact ⟨j, p, o, e, hx, .inr rfl⟩
    · exact ⟨_, true, _, hi, hx, .inl rfl⟩
  · rw [upd_other _ _ (fun q => hx i _ hi (by rw [hbl, q]; simp))]; exact e
  · by_cases q : x = ρ.k i
    · rw [q]; exact ⟨_, upd_same _ _ _⟩
    · exact ⟨o, by rw [upd_other _ _ q]; exact e⟩

theorem scal_wp {w0 w : World} {L : Nat → Prop} {ρ : Ren} {H : AH X} {h : GH} {o : Oper} {t : Gt} {a : Act} {K : Value → AH X → Prop} (hk : scalOp P o t H K) (hn : Now I w0 L ρ H h w) (ht : TR L ρ.b t a.tmps)
    {next : Act → World → Prop} {Q : Exit → Act → World → Prop}
    (hK : ∀ v v' H' ρ' h' w', K v H' → Now I w0 (LU L H.length H'.length) ρ' H' h' w' → Tr ρ H h ρ' H' h' → VR (LU L H.length H'.length) ρ'.b v v' → next (a.put o.dst v') w') : o.wp P a w next Q := by
  unfold scalOp at hk
  split at hk
  · exact hk.elim
  rename_i hsel
  split at hk
  · exact hk.elim
  · rename_i hs
    have hc : execOp (fun x => (aev t x).getD undef) o = execOp a.eval o := execOp_congr o hsel fun x hx => aevs_scal ht hs x (by rw [opndsL_eq]; simpa using hx)
    split at hk
    · rename_i r hr
      split at hk
      · rename_i hsr
        exact wp_val (by rw [← hc]; exact semP_run hr w) (hK r r H ρ h w hk hn.lu (Tr.refl _ _ _) (scal_refl 3 hsr))
      · exact hk.elim
    · rename_i hr
      exact wp_skp (by rw [← hc]; exact semP_run hr w) (hK undef undef H ρ h w hk hn.lu (Tr.refl _ _ _) (.plain rfl))
    · exact hk.elim


theorem VR.ptr_some {L : Nat → Prop} {ρ : Nat → Nat × Nat} {ad : Addr} {v' : Value} (h : VR L ρ (.pointer (some ad)) v') : ∃ a', v' = .pointer (some a') := by
  cases h with
  | plain h => simp [Go.Proofs.Ytdmodejpcfhbhaa.plain] at h
  | ptr h => exact ⟨_, rfl⟩
theorem VR.slice_some {L : Nat → Prop} {ρ : Nat → Nat × Nat} {ad : Addr} {l c : Nat} {v' : Value} (h : VR L ρ (.slice (some ad) l c) v') : ∃ a' c', v' = .slice (some a') l c' := by
  cases h with
  | plain h => simp [Go.Proofs.Ytdmodejpcfhbhaa.plain] at h
  | slice h => exact ⟨_, _, rfl⟩
  | row h => exact ⟨_, _, rfl⟩
  | emp => exact ⟨_, _, rfl⟩
theorem VR.map_some {L : Nat → Prop} {ρ : Nat → Nat × Nat} {r : Nat} {v' : Value} (h : VR L ρ (.map (some r)) v') : ∃ a', v' = .map (some a') := by
  cases h with
  | plain h => simp [Go.Proofs.Ytdmodejpcfhbhaa.plain] at h
  | map h => exact ⟨_, rfl⟩
theorem eql_run {T : TypeId} {u v : Value} {b : Bool} {w : World} (xo yo : Operand) (hg : ∀ op, eqGuard op T xo yo u v = pure ())
    (hb : binOp .eql T u v = (do pure (.bool (← Op.equal T u v))) ∧ binOp .neq T u v = (do pure (.bool (!(← Op.equal T u v))))) (he : (Op.equal T u v).run P w = .ok b w) :
    (do eqGuard .eql T xo yo u v; binOp .eql T u v : Sem Value).run P w = .ok (.bool b) w ∧ (do eqGuard .neq T xo yo u v; binOp .neq T u v : Sem Value).run P w = .ok (.bool (!b)) w := by
  rw [hg, hg, hb.1, hb.2]
  constructor
  · show (do pure (.bool (← Op.equal T u v)) : Sem Value).run P w = _
    rw [bnd_run he]; rfl
  · show (do pure (.bool (!(← Op.equal T u v))) : Sem Value).run P w = _
    rw [bnd_run he]; rfl
theorem nil_run {T : TypeId} {u v u' v' : Value} {L : Nat → Prop} {ρ : Nat → Nat × Nat} {x : Unit} (h : nilCmp P T u v = some x) (hu : VR L ρ u u') (hv : VR L ρ v v') (xo yo : Operand) (w : World) :
    (do eqGuard .eql T xo yo u' v'; binOp .eql T u' v' : Sem Value).run P w = .ok (.bool false) w ∧ (do eqGuard .neq T xo yo u' v'; binOp .neq T u' v' : Sem Value).run P w = .ok (.bool true) w := by
  unfold nilCmp at h
  split at h <;> try (cases h; done)
  · rename_i hT
    obtain ⟨_, rfl⟩ := hu.ptr_some
    obtain rfl := hv.plain_eq rfl
    exact eql_run xo yo (fun op => by cases op <;> rfl) ⟨rfl, rfl⟩ (by unfold Op.equal Op.maxDepth Op.equalIn; rw [bnd_run (und_run hT w)]; rfl)
  · rename_i hT
    obtain rfl := hu.plain_eq rfl
    obtain ⟨_, rfl⟩ := hv.ptr_some
    exact eql_run xo yo (fun op => by cases op <;> rfl) ⟨rfl, rfl⟩ (by unfold Op.equal Op.maxDepth Op.equalIn; rw [bnd_run (und_run hT w)]; rfl)
  · rename_i hT
    obtain ⟨_, rfl, _⟩ := hu.iface_eq
    obtain rfl := hv.plain_eq rfl
    exact eql_run xo yo (fun op => by cases op <;> rfl) ⟨rfl, rfl⟩ (by unfold Op.equal Op.maxDepth Op.equalIn; rw [bnd_run (und_run hT w)]; rfl)
  · rename_i hT
    obtain rfl := hu.plain_eq rfl
    obtain ⟨_, rfl, _⟩ := hv.iface_eq
    exact eql_run xo yo (fun op => by cases op <;> rfl) ⟨rfl, rfl⟩ (by unfold Op.equal Op.maxDepth Op.equalIn; rw [bnd_run (und_run hT w)]; rfl)
  · rename_i hT
    obtain ⟨_, _, rfl⟩ := hu.slice_some
    obtain rfl := hv.plain_eq rfl
    exact eql_run xo yo (fun op => by cases op <;> rfl) ⟨rfl, rfl⟩ (by unfold Op.equal Op.maxDepth Op.equalIn; rw [bnd_run (und_run hT w)]; rfl)
  · rename_i hT
    obtain rfl := hu.plain_eq rfl
    obtain ⟨_, _, rfl⟩ := hv.slice_some
    exact eql_run xo yo (fun op => by cases op <;> rfl) ⟨rfl, rfl⟩ (by unfold Op.equal Op.maxDepth Op.equalIn; rw [bnd_run (und_run hT w)]; rfl)
  · rename_i hT
    obtain ⟨_, rfl⟩ := hu.map_some
    obtain rfl := hv.plain_eq rfl
    exact eql_run xo yo (fun op => by cases op <;> rfl) ⟨rfl, rfl⟩ (by unfold Op.equal Op.maxDepth Op.equalIn; rw [bnd_run (und_run hT w)]; rfl)
  · rename_i hT
    obtain rfl := hu.plain_eq rfl
    obtain ⟨_, rfl⟩ := hv.map_some
    exact eql_run xo yo (fun op => by cases op <;> rfl) ⟨rfl, rfl⟩ (by unfold Op.equal Op.maxDepth Op.equalIn; rw [bnd_run (und_run hT w)]; rfl)
  · rename_i hT
    obtain ⟨_, _, rfl, _⟩ := VR.func_eq hu
    obtain rfl := hv.plain_eq rfl
    exact eql_run xo yo (fun op => by cases op <;> rfl) ⟨rfl, rfl⟩ (by unfold Op.equal Op.maxDepth Op.equalIn; rw [bnd_run (und_run hT w)]; rfl)
  · rename_i hT
    obtain rfl := hu.plain_eq rfl
    obtain ⟨_, _, rfl, _⟩ := VR.func_eq hv
    exact eql_run xo yo (fun op => by cases op <;> rfl) ⟨rfl, rfl⟩ (by unfold Op.equal Op.maxDepth Op.equalIn; rw [bnd_run (und_run hT w)]; rfl)

theorem eqF_run {xs ys : List Value} {n : Nat} (hx : xs.all (scal n) = true) (hy : ys.all (scal n) = true) (d : Nat) (w : World) : ∀ (fs : List Field) (r : Bool), eqF P xs ys fs = some r → (Op.eqFields (d + 1) ⟨xs⟩ ⟨ys⟩ fs).run P w = .ok r w
  | [], r, h => by
    cases h; rfl
  | f :: fs, r, h => by
    unfold eqF at h
    split at h
    · rename_i k a l b hn hu h1 h2
      split at h <;> try (cases h; done)
      rename_i r' hk hr
      cases h
      obtain rfl := of_decide_eq_true hk
      obtain ⟨v1, p1, q1⟩ := part_run (L := fun _ => True) (ρ := fun _ => (0, 0)) h1 (scals_rel hx) w
      obtain ⟨v2, p2, q2⟩ := part_run (L := fun _ => True) (ρ := fun _ => (0, 0)) h2 (scals_rel hy) w
      obtain rfl := q1.plain_eq rfl
      obtain rfl := q2.plain_eq rfl
      have ih := eqF_run hx hy d w fs r' hr
      have e := run_equalIn_int w d f.type k _ a b hu
      simp only [Op.eqFields, of_decide_eq_false hn, ne_eq, not_false_eq_true, if_true]
      rw [bnd_run p1, bnd_run p2, bnd_run e]
      cases hab : (a == b)
      · rfl
      · simpa using ih
    · rename_i a b hn hu h1 h2
      split at h <;> try (cases h; done)
      rename_i r' hr
      cases h
      obtain ⟨v1, p1, q1⟩ := part_run (L := fun _ => True) (ρ := fun _ => (0, 0)) h1 (scals_rel hx) w
      obtain ⟨v2, p2, q2⟩ := part_run (L := fun _ => True) (ρ := fun _ => (0, 0)) h2 (scals_rel hy) w
      obtain rfl := q1.plain_eq rfl
      obtain rfl := q2.plain_eq rfl
      have ih := eqF_run hx hy d w fs r' hr
      have e := run_equalIn_bool' w d f.type a b hu
      simp only [Op.eqFields, of_decide_eq_false hn, ne_eq, not_false_eq_true, if_true]
      rw [bnd_run p1, bnd_run p2, bnd_run e]
      cases hab : (a == b)
      · rfl
      · simpa using ih
    · cases h
theorem eqF_guard {xs ys : List Value} {n : Nat} : ∀ {fs : List Field} {r : Bool}, eqF P xs ys fs = some r → ∀ f ∈ fs, P.eqGuardType (n + 1) f.type = false
  | [], _, _, _, hf => by simp at hf
  | g :: fs, r, h, f, hf => by
    unfold eqF at h
    split at h
    · rename_i hu _ _
      split at h <;> try (cases h; done)
      rename_i hr
      rcases List.mem_cons.1 hf with rfl | hf
      · unfold Program.eqGuardType; rw [hu]
      · exact eqF_guard hr f hf
    · rename_i hu _ _
      split at h <;> try (cases h; done)
      rename_i hr
      rcases List.mem_cons.1 hf with rfl | hf
      · unfold Program.eqGuardType; rw [hu]
      · exact eqF_guard hr f hf
    · cases h
theorem aggEq_run {op : BinOp} {T : TypeId} {u v : Value} {b : Bool} {n : Nat} (hu : scal n u = true) (hv : scal n v = true) (h : aggEq P op T u v = some b) (xo yo : Operand) (w : World) :
    (do eqGuard op T xo yo u v; binOp op T u v : Sem Value).run P w = .ok (.bool b) w := by
  unfold aggEq at h
  split at h <;> try (cases h; done)
  rename_i xs ys
  split at h <;> try (cases h; done)
  rename_i fs hT hs0
  have hs := apart_held hs0
  split at h <;> try (cases h; done)
  rename_i r hr
  have hg : P.eqGuardType P.depth T = false := by
    rw [show P.depth = (2 * (P.types.size + Made.depth)) + 1 + 1 from rfl]
    unfold Program.eqGuardType
    rw [hT]
    obtain ⟨fs⟩ := fs
    simp only [List.any_toArray, List.any_eq_false, Bool.and_eq_true, not_and, Bool.not_eq_true]
    exact fun f hf _ => eqF_guard hr f hf
  have hf : P.fieldsOf T = fs := by unfold Program.fieldsOf; rw [hT]
  obtain ⟨n, rfl⟩ : ∃ m, n = m + 1 := by
    cases n with
    | zero => simp [scal, plain] at hu
    | succ m => exact ⟨m, rfl⟩
  have e : (Op.equalIn 10000 T (.agg ⟨xs⟩) (.agg ⟨ys⟩)).run P w = .ok r w := by
    rw [show (10000 : Nat) = 9998 + 1 + 1 from rfl, run_equalIn_struct w (9998 + 1) T ⟨xs⟩ ⟨ys⟩ (by rw [hf]; exact hT) hs, hf]
    exact eqF_run (n := n) (by simpa [scal] using hu) (by simpa [scal] using hv) 9998 w _ r hr
  have g := fun op => run_eqGuard_agg (P := P) w op T xo yo ⟨xs⟩ ⟨ys⟩ hg
  split at h <;> cases h
  · rw [bnd_run (g _), run_eql_struct, e]; rfl
  · rw [bnd_run (g _), run_neq_struct, e]; rfl

theorem binSp_run {op : BinOp} {T : TypeId} {u v r : Value} {n : Nat} (hu : scal n u = true) (hv : scal n v = true) (h : binSp P op T u v = some (true, r)) (xo yo : Operand) (w : World) :
    (do eqGuard op T xo yo u v; binOp op T u v : Sem Value).run P w = .ok r w ∧ plain r = true := by
  unfold binSp at h
  split at h
  · rename_i k a l b
    split at h <;> try (cases h; done)
    rename_i hk
    simp only [Option.some.injEq, Prod.mk.injEq, Bool.not_eq_true', decide_eq_false_iff_not] at h
    obtain ⟨hb, rfl⟩ := h
    obtain rfl := of_decide_eq_true hk
    refine ⟨?_, rfl⟩
    show (binOp .rem T (.int k a) (.int k b)).run P w = _
    simp [binOp, Op.intDiv, hb]
  · split at h <;> try (cases h; done)
    rename_i b hb
    cases h
    exact ⟨aggEq_run hu hv hb xo yo w, rfl⟩

theorem oev_sound (hc : CallSound P I call) {w0 w : World} {L : Nat → Prop} {ρ : Ren} {H : AH X} {h : GH} {o : Oper} {t : Gt} {a : Act} {K : Value → AH X → Prop} (hk : oev P call o t H K) (hn : Now I w0 L ρ H h w) (ht : TR L ρ.b t a.tmps)
    {next : Act → World → Prop} {Q : Exit → Act → World → Prop}
    (hK : ∀ v v' H' ρ' h' w', K v H' → Now I w0 (LU L H.length H'.length) ρ' H' h' w' → Tr ρ H h ρ' H' h' → VR (LU L H.length H'.length) ρ'.b v v' → next (a.put o.dst v') w') : o.wp P a w next Q := by
  have same : ∀ {v v' : Value}, (execOp a.eval o).run P w = .ok (.value v') w → VR L ρ.b v v' → K v H → o.wp P a w next Q := fun hr hv hk => wp_val hr (hK _ _ H ρ h w hk hn.lu (Tr.refl _ _ _) (hv.mono fun x hx => ⟨.inl hx, rfl⟩))
  have dflt := fun hk => scal_wp (P := P) (Q := Q) (o := o) hk hn ht hK
  have hvs : ∀ {s : Sem Value} {v : Value} {w1 : World}, s.run P w = .ok v w1 → (do pure (.value (← s)) : Sem Next).run P w = .ok (.value v) w1 := fun e => by rw [bnd_run e]; rfl
  obtain ⟨dst, op, type, pos, after, guard⟩ := o
  unfold oev at hk
  cases op <;> simp only at hk <;> try exact dflt hk
  case move x =>
    split at hk
    · rename_i v hv; exact same rfl (aev_sound hv ht) hk
    · exact hk.elim
  case assign x =>
    split at hk
    · rename_i v hv; exact same rfl (aev_sound hv ht) hk
    · exact hk.elim
  case pick c x y =>
    split at hk <;> try exact hk.elim
    rename_i b hb
    have eb := (aev_sound hb ht).bool_eq
    have hr : ∀ u : Value, (if b = true then a.eval x else a.eval y) = u → (do pure (.value (if ← asBool (a.eval c) then a.eval x else a.eval y)) : Sem Next).run P w = .ok (.value u) w := fun u hu => by
      rw [bnd_run (show (asBool (a.eval c)).run P w = .ok b w by rw [eb]; rfl), hu]; rfl
    split at hk <;> split at hk <;> try exact hk.elim
    · rename_i v hv
      exact same (hr _ rfl) (by simpa using aev_sound hv ht) hk
    · rename_i v hv
      exact same (hr _ rfl) (by simpa using aev_sound hv ht) hk
  case nilCheck x =>
    split at hk
    · rename_i ad hv
      obtain ⟨a', e⟩ := (aev_sound hv ht).ptr_some
      exact same (by unfold execOp; simp only [e]; rfl) (by rw [← e]; exact aev_sound hv ht) hk
    · rename_i T v hv
      obtain ⟨u, e, _⟩ := (aev_sound hv ht).iface_eq
      exact same (by unfold execOp; simp only [e]; rfl) (by rw [← e]; exact aev_sound hv ht) hk
    · rename_i f b c hv
      obtain ⟨f', c', e, _⟩ := VR.func_eq (aev_sound hv ht)
      exact same (by unfold execOp; simp only [e]; rfl) (by rw [← e]; exact aev_sound hv ht) hk
    · exact hk.elim
  case fieldAddr s x f =>
    split at hk <;> try exact hk.elim
    rename_i i off hv
    split at hk <;> try exact hk.elim
    rename_i d hd
    rw [forceN_eq] at hk
    obtain ⟨hl, e⟩ := (aev_sound hv ht).ptr_eq
    exact same (by show (do pure (.value (← Instr.fieldAt s (a.eval x) f)) : Sem Next).run P w = _; rw [e]; exact hvs (field_run hd _ _ w)) (.ptr hl) hk
  case indexAddr T x ix =>
    split at hk <;> try exact hk.elim
    rename_i vx vi hx hi
    split at hk <;> try exact hk.elim
    rename_i ok v hok
    split at hk <;> try exact hk.elim
    have hvi := aev_sound hi ht
    have hpi : vi = a.eval ix := by
      have : ∃ k n, vi = .int k n := by unfold idx at hok; split at hok <;> first | exact ⟨_, _, rfl⟩ | (cases hok; done)
      obtain ⟨k, n, rfl⟩ := this
      exact hvi.int_eq.symm
    obtain ⟨v', h1, h2⟩ := idx_run hok (aev_sound hx ht) w
    exact same (by show (do pure (.value (← Instr.indexAt T (a.eval x) (a.eval ix))) : Sem Next).run P w = _; rw [← hpi]; exact hvs h1) h2 hk
  case alloc T =>
    split at hk <;> try exact hk.elim
    rename_i cs hcs
    simp only [forceL, forceLw_eq (forceV_eq 4), forceN_eq, spine_eq] at hk
    have hz : VRL L ρ.b cs cs := by obtain ⟨z, _, _, z3⟩ := zer_run hcs w; exact scals_rel z3
    obtain ⟨ρ', h', n1, n2, n3⟩ := hn.alloc cs cs T hz
    refine wp_val (hvs (zero_run hcs w)) (hK _ _ _ ρ' h' _ hk (by simpa using n1) n2 ?_)
    rw [← n3]
    exact .ptr (.inr ⟨Nat.le_refl _, by simp⟩)
  case box T x =>
    split at hk <;> try exact hk.elim
    rename_i v hv
    simp only [forceL, forceLw_eq (forceV_eq 4), forceN_eq, spine_eq] at hk
    obtain ⟨ρ', h', n1, n2, n3⟩ := hn.alloc (cellsL v) (cellsL (a.eval x)) T (aev_sound hv ht).cells
    refine wp_val (hvs (box_run (a.eval x) w)) (hK _ _ _ ρ' h' _ hk (by simpa using n1) n2 ?_)
    rw [← n3]
    exact .ptr (.inr ⟨Nat.le_refl _, by simp⟩)
  case load T x =>
    split at hk <;> try exact hk.elim
    rename_i i off hv
    split at hk <;> try exact hk.elim
    rename_i p cs U hi
    split at hk <;> try exact hk.elim
    rename_i v hr
    obtain ⟨hl, e⟩ := (aev_sound hv ht).ptr_eq
    obtain ⟨_, cs', hb, hcs⟩ := hn.sat.obj i _ _ hi
    obtain ⟨v', h1, h2⟩ := rd_run hr hcs (b := ρ.k i) (w := w) (fun o => (hn.mem.cell hb o).trans (by simp))
    exact same (by show (do pure (.value (← Instr.loadAt T (a.eval x))) : Sem Next).run P w = _; rw [e]; exact hvs h1) h2 hk
  case store T x y =>
    split at hk <;> try exact hk.elim
    rename_i i off v hv hy
    split at hk <;> try exact hk.elim
    rename_i cs U hi
    split at hk <;> try exact hk.elim
    rename_i n hnn
    split at hk <;> try exact hk.elim
    rename_i hd
    simp only [forceL, forceLw_eq (forceV_eq 4), spine_eq] at hk
    rw [Bool.and_eq_true, decide_eq_true_eq] at hd
    obtain ⟨⟨d1, d2⟩, d3⟩ := hd
    obtain ⟨hl, e⟩ := (aev_sound hv ht).ptr_eq
    obtain ⟨_, cs', hb, hcs⟩ := hn.sat.obj i _ _ hi
    have hvy := (aev_sound hy ht).cells
    have hone : ∀ {l l' : List Value}, l.all one = true → VRL L ρ.b l l' → l'.all one = true := by
      intro l
      induction l with
      | nil => intro l' _ h; cases h; rfl
      | cons x l ih => intro l' h1 h; cases h with
        | cons h0 h => simp only [List.all_cons, Bool.and_eq_true] at h1 ⊢; exact ⟨h0.one h1.1, ih h1.2 h⟩
    obtain ⟨w', s1, s2⟩ := st_run (P := P) (off := off) hnn hn.mem hb (v := a.eval y) (by rw [hvy.len]; exact d1) (by rw [hcs.len]; exact d2) (hone d3 hvy)
    obtain ⟨g1, g2⟩ := hn.set hi (setAt_rel off hvy hcs) s2
    exact wp_skp (by show (do Instr.storeAt T (a.eval x) (a.eval y); pure .skip : Sem Next).run P w = _; rw [e, bnd_run (show (Instr.storeAt T (.pointer (some ⟨(ρ.b i).1, off, none⟩)) (a.eval y)).run P w = _ from s1)]; rfl) (hK _ _ _ ρ _ _ hk (by rw [put_len]; exact g1.lu) g2 (.plain rfl))
  case makeFunc fn fs cs =>
    cases fn <;> simp only at hk <;> try exact dflt hk
    rename_i f
    split at hk <;> try exact hk.elim
    rename_i q r hq hr
    refine same (v' := .func (.func f) (fs.map a.eval) (cs.map a.eval)) rfl ?_ hk
    have g1 := aevs_sound hq ht
    have g2 := aevs_sound hr ht
    rw [arr_map, arr_map]
    exact .func g1 g2
  case build T parts =>
    split at hk <;> try exact hk.elim
    rename_i ps hps
    split at hk <;> try exact hk.elim
    rename_i cs hcs
    obtain ⟨cs', b1, b2⟩ := build_run hcs (parts_rel ht hps) w
    refine same ?_ (.agg b2) hk
    refine hvs ?_
    rw [← b1, arr_map]
  case makeInterface T x =>
    split at hk <;> try exact hk.elim
    rename_i v hv hi
    exact same (hvs (mkif_run hi _ w)) (.iface (aev_sound hv ht)) hk
  case field T x f =>
    split at hk <;> try exact hk.elim
    rename_i cs d fs hv hd hu
    split at hk <;> try exact hk.elim
    rename_i fd hfd
    split at hk <;> try exact hk.elim
    rename_i v hr
    obtain ⟨cs', e, hcs⟩ := (aev_sound hv ht).agg_eq
    obtain ⟨v', p1, p2⟩ := part_run hr hcs w
    have hd2 : d = fd.offset := by
      unfold fieldOff at hd
      rw [hu] at hd
      simp only [hfd] at hd
      split at hd <;> try (cases hd; done)
      split at hd <;> try (cases hd; done)
      exact (Option.some.inj hd).symm
    refine same (hvs (v := v') ?_) p2 hk
    unfold Instr.field
    rw [bnd_run (und_run hu w)]
    simp only [hfd]
    rw [bnd_run (show (asAgg (a.eval x)).run P w = .ok ⟨cs'⟩ w by rw [e]; rfl), ← hd2]
    exact p1
  case extract x i =>
    split at hk <;> try exact hk.elim
    rename_i vs hv
    split at hk <;> try exact hk.elim
    rename_i v hi
    obtain ⟨vs', e, hvs'⟩ := (aev_sound hv ht).tuple_eq
    obtain ⟨v', g1, g2⟩ := hvs'.get hi
    refine same (hvs (v := v') ?_) g2 hk
    rw [e]
    show (match (⟨vs'⟩ : Array Value)[i]? with | some v => pure v | none => stuck _ : Sem Value).run P w = _
    rw [show (⟨vs'⟩ : Array Value)[i]? = some v' by simpa using g1]
    rfl
  case binOp op T x y yt =>
    split at hk <;> try exact hk.elim
    rename_i u v hu hv
    split at hk
    · rename_i hs
      split at hk
      · rename_i c b hb
        split at hk <;> try exact hk.elim
        simp only [Bool.and_eq_true] at hs
        have e1 := scal_eq 3 hs.1 (aev_sound hu ht)
        have e2 := scal_eq 3 hs.2 (aev_sound hv ht)
        obtain ⟨g, gp⟩ := binSp_run hs.1 hs.2 hb x y w
        refine same (hvs (v := b) ?_) (.plain gp) hk
        rw [← e1, ← e2] at g
        exact g
      · exact dflt hk
    · split at hk <;> try exact hk.elim
      rename_i q hq
      obtain ⟨n1, n2⟩ := nil_run hq (aev_sound hu ht) (aev_sound hv ht) x y w
      split at hk <;> try exact hk.elim
      · exact same (hvs n1) (.plain rfl) hk
      · exact same (hvs n2) (.plain rfl) hk
  case call c =>
    obtain ⟨callee, args, argTypes⟩ := c
    simp only at hk
    cases callee <;> (try simp only at hk)
    case value f =>
      split at hk <;> try exact hk.elim
      rename_i g fs cs xs hf hx
      obtain ⟨fs', cs', e, r1, r2⟩ := VR.func_eq (aev_sound hf ht)
      have rx := aevs_sound hx ht
      obtain ⟨c1, c2⟩ := hc _ _ _ _ hk
      refine wp_ent (f := g) (xs := ⟨fs' ++ args.toList.map a.eval ++ cs'⟩) ?_ ?_
      · show (do let d ← resolve a.eval { callee := .value f, args := args, argTypes := argTypes } type; invoke d.target d.args : Sem Next).run P w = _
        have hr : (resolve a.eval { callee := .value f, args := args, argTypes := argTypes } type).run P w = .ok { target := .fn (.func g) ⟨cs'⟩, args := ⟨fs'⟩ ++ args.map a.eval } w := by
          unfold resolve; simp only [e]; rfl
        rw [bnd_run hr]
        show (callFunc g ((⟨fs'⟩ ++ args.map a.eval) ++ ⟨cs'⟩)).run P w = _
        rw [show ((⟨fs'⟩ : Array Value) ++ args.map a.eval) ++ ⟨cs'⟩ = ⟨fs' ++ args.toList.map a.eval ++ cs'⟩ from by apply Array.ext'; simp]
        exact c1 _ _
      · refine (c2 w0 w L h ρ _ hn ((r1.app rx).app r2)).mono ?_
        rintro e w' ⟨v, v', H', ρ', h', rfl, q1, q2, q3, q4⟩
        exact ⟨v', rfl, hK v v' H' ρ' h' w' q1 q2 q3 q4⟩
    case invoke r m => exact hk.elim
    case builtin b =>
      cases b <;> (try simp only at hk) <;> try exact dflt hk
      case max =>
        split at hk <;> try exact hk.elim
        rename_i k x l y hx
        split at hk <;> try exact hk.elim
        rename_i hkl
        obtain rfl := of_decide_eq_true hkl
        have rx := aevs_sound hx ht
        have ea := arr_map a.eval args
        rw [rx.plain_eq rfl] at ea
        refine same (v' := .int k (if y > x then y else x)) ?_ (.plain rfl) hk
        show (do pure (.value (← Builtin.max_ argTypes type (args.map a.eval))) : Sem Next).run P w = _
        rw [ea]
        rfl
      case min =>
        split at hk <;> try exact hk.elim
        rename_i k x l y hx
        split at hk <;> try exact hk.elim
        rename_i hkl
        obtain rfl := of_decide_eq_true hkl
        have rx := aevs_sound hx ht
        have ea := arr_map a.eval args
        rw [rx.plain_eq rfl] at ea
        refine same (v' := .int k (if y < x then y else x)) ?_ (.plain rfl) hk
        show (do pure (.value (← Builtin.min_ argTypes type (args.map a.eval))) : Sem Next).run P w = _
        rw [ea]
        rfl
      split at hk
      · rename_i T ad n cp hT hx
        split at hk <;> try exact hk.elim
        rename_i el hu
        have rx := aevs_sound hx ht
        obtain ⟨v', hg, hv'⟩ := rx.get (j := 0) rfl
        obtain ⟨a', c', rfl⟩ := hv'.slice_some
        refine same (v' := .int .i64 n) ?_ (.plain rfl) hk
        have ea : args.map a.eval = ⟨args.toList.map a.eval⟩ := arr_map _ _
        have hl := rx.len
        show (do pure (.value (← Builtin.len_ argTypes type (args.map a.eval))) : Sem Next).run P w = _
        refine hvs ?_
        unfold Builtin.len_
        have e1 : argTypes[0]? = some T := by have : argTypes = ⟨[T]⟩ := by apply Array.ext'; exact hT
                                              rw [this]; rfl
        have e2 : (args.map a.eval)[0]? = some (.slice (some a') n c') := by rw [ea]; simpa using hg
        simp only [e1, e2]
        rw [bnd_run (und_run hu w)]
        rfl
      · rename_i T n cp hT hx
        split at hk <;> try exact hk.elim
        rename_i hu
        have rx := aevs_sound hx ht
        obtain ⟨v', hg, hv'⟩ := rx.get (j := 0) rfl
        obtain rfl := hv'.plain_eq rfl
        refine same (v' := .int .i64 n) ?_ (.plain rfl) hk
        have ea : args.map a.eval = ⟨args.toList.map a.eval⟩ := arr_map _ _
        have hl := rx.len
        show (do pure (.value (← Builtin.len_ argTypes type (args.map a.eval))) : Sem Next).run P w = _
        refine hvs ?_
        unfold Builtin.len_
        have e1 : argTypes[0]? = some T := by have : argTypes = ⟨[T]⟩ := by apply Array.ext'; exact hT
                                              rw [this]; rfl
        have e2 : (args.map a.eval)[0]? = some (.slice none n cp) := by rw [ea]; simpa using hg
        simp only [e1, e2]
        rw [bnd_run (und_run hu w)]
        rfl
      · rename_i T s hT hx
        split at hk <;> try exact hk.elim
        rename_i hu
        have rx := aevs_sound hx ht
        obtain ⟨v', hg, hv'⟩ := rx.get (j := 0) rfl
        obtain rfl := hv'.plain_eq rfl
        refine same (v' := .int .i64 s.size) ?_ (.plain rfl) hk
        have ea : args.map a.eval = ⟨args.toList.map a.eval⟩ := arr_map _ _
        have hl := rx.len
        show (do pure (.value (← Builtin.len_ argTypes type (args.map a.eval))) : Sem Next).run P w = _
        refine hvs ?_
        unfold Builtin.len_
        have e1 : argTypes[0]? = some T := by have : argTypes = ⟨[T]⟩ := by apply Array.ext'; exact hT
                                              rw [this]; rfl
        have e2 : (args.map a.eval)[0]? = some (.string s) := by rw [ea]; simpa using hg
        simp only [e1, e2]
        rw [bnd_run (und_run hu w)]
        rfl
      · exact dflt hk
end

theorem oevT_sound {X : Type} {P : Program} {I : Means X} {call : CallT X} {tl : TellT X} {opn : OpnT X} (hc : CallSound P I call) (htl : TellSound P I tl) (hop : OpnSound P I opn) {w0 w : World} {L : Nat → Prop} {ρ : Ren} {H : AH X} {h : GH} {o : Oper} {t : Gt} {a : Act} {K : Value → AH X → Prop} (hk : oevT tl opn P call o t H K) (hn : Now I w0 L ρ H h w) (ht : TR L ρ.b t a.tmps)
    {next : Act → World → Prop} {Q : Exit → Act → World → Prop}
    (hK : ∀ v v' H' ρ' h' w', K v H' → Now I w0 (LU L H.length H'.length) ρ' H' h' w' → Tr ρ H h ρ' H' h' → VR (LU L H.length H'.length) ρ'.b v v' → next (a.put o.dst v') w') : o.wp P a w next Q := by
  unfold oevT at hk
  split at hk
  · split at hk
    · rename_i vs hvs
      have hv := aevs_sound hvs ht
      rcases (DT.runE_iff _).1 hk with ⟨v, H', ho, hk⟩ | ⟨_, hk⟩
      · exact htl o vs H v H' ho w0 w L h ρ a hn hv fun v1 v' H1 ρ' h' w' q => by obtain ⟨rfl, rfl⟩ := q; exact hK _ v' _ ρ' h' w' hk
      · split at hk
        · exact oev_sound hc hk hn ht hK
        · exact hop o vs H K hk w0 w L h ρ a hn hv hK
    · exact hk.elim
  · exact oev_sound hc hk hn ht hK
end Go.Proofs.Ytdmodejpcfhbhaa
