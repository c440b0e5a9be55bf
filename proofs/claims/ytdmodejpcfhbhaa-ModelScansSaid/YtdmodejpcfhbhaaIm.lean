/- Maps whose keys are whole numbers, told by a function: what one operation makes of the entries. No program is named here. -/
import Derived.Test.YtdmodejpcfhbhaaMaps
import Derived.Lib.SlKeysI
import Derived.Laws.Externs
namespace Go.Proofs.Ytdmodejpcfhbhaa
open Go.RowKit Go.Maps Go.MapKept

/-- Which stamp each key's entry bears, the next one's, and whose entry was looked up last. -/
structure Tk where
  st : Int → Nat
  clock : Nat
  pend : Int
/-- Entries es tell g, whose keys lie in 0..room-1. -/
structure MapOk (room : Nat) (g : Int → Option Value) (τ : Tk) (es : Array MapEntry) (clock : Nat) : Prop where
  clk : clock = τ.clock
  born : ∀ x ∈ es.toList, ∀ a, x.key = .int .i64 a → x.born = τ.st a
  st : Stamped es clock
  mem : ∀ x ∈ es.toList, ∃ a, x.key = .int .i64 a ∧ 0 ≤ a ∧ a < (room : Int) ∧ g a = some x.val
  has : ∀ a v, g a = some v → ∃ x ∈ es.toList, x.key = .int .i64 a

section
variable {room : Nat} {g : Int → Option Value} {τ : Tk} {es : Array MapEntry} {clock : Nat}
def keyI (x : MapEntry) : Int := match x.key with | .int _ a => a | _ => 0
theorem MapOk.keys (m : MapOk room g τ es clock) : ∀ x ∈ es.toList, x.key = .int .i64 (keyI x) := fun x hx => by
  obtain ⟨a, ha, _⟩ := m.mem x hx
  unfold keyI; rw [ha]
theorem MapOk.nodup (m : MapOk room g τ es clock) : (es.toList.map keyI).Nodup := by
  have := ((stamped_iff es clock).1 m.st).2.2
  refine List.pairwise_map.2 (this.imp_of_mem fun {x y} hx hy hne e => hne ?_)
  rw [m.keys x hx, m.keys y hy, e]
theorem nodup_le : ∀ (n : Nat) (l : List Int), l.Nodup → (∀ x ∈ l, 0 ≤ x ∧ x < (n : Int)) → l.length ≤ n := by
  intro n l hn hb
  have h1 : (l.map Int.toNat).Nodup := List.pairwise_map.2 (hn.imp_of_mem fun {a b} ha hb' hne e => hne (by have := hb a ha; have := hb b hb'; omega))
  have h2 : (l.map Int.toNat) ⊆ List.range n := fun x hx => by
    obtain ⟨y, hy, rfl⟩ := List.mem_map.1 hx
    have := hb y hy
    exact List.mem_range.2 (by omega)
  have h3 : (l.map Int.toNat).Perm ((List.range n).filter fun k => decide (k ∈ l.map Int.toNat)) := by
    refine (List.perm_ext_iff_of_nodup h1 (List.Pairwise.filter _ List.nodup_range)).2 fun x => ?_
    rw [List.mem_filter, decide_eq_true_eq]
    exact ⟨fun h => ⟨h2 h, h⟩, fun h => h.2⟩
  have h4 := List.length_filter_le (fun k => decide (k ∈ l.map Int.toNat)) (List.range n)
  rw [← h3.length_eq, List.length_map, List.length_range] at h4
  exact h4
theorem MapOk.size (m : MapOk room g τ es clock) : es.size ≤ room := by
  have := nodup_le room (es.toList.map keyI) m.nodup (fun x hx => by
    obtain ⟨y, hy, rfl⟩ := List.mem_map.1 hx
    obtain ⟨a, ha, h0, h1, _⟩ := m.mem y hy
    unfold keyI; rw [ha]; exact ⟨h0, h1⟩)
  simpa using this
theorem MapOk.inj (m : MapOk room g τ es clock) {x y : MapEntry} (hx : x ∈ es.toList) (hy : y ∈ es.toList) (h : x.key = y.key) : x = y := by
  obtain ⟨i, hi, rfl⟩ := List.getElem_of_mem hx
  obtain ⟨j, hj, rfl⟩ := List.getElem_of_mem hy
  have hp := ((stamped_iff es clock).1 m.st).2.2
  rw [List.pairwise_iff_getElem] at hp
  rcases Nat.lt_trichotomy i j with q | q | q
  · exact absurd h (hp i j hi hj q)
  · subst q; rfl
  · exact absurd h.symm (hp j i hj hi q)
def Tk.new : Tk := ⟨fun _ => 0, 0, 0⟩
theorem mapOk_empty (room : Nat) : MapOk room (fun _ => none) Tk.new #[] 0 := ⟨rfl, by simp, stamped_empty 0, by simp, fun a v h => by cases h⟩

/-- Behind a store. -/
def Tk.put (τ : Tk) (a : Int) (there : Bool) : Tk := ⟨fun x => if x = a then (if there then τ.st a else τ.clock) else τ.st x, if there then τ.clock else τ.clock + 1, a⟩
def setG (g : Int → Option Value) (a : Int) (v : Option Value) : Int → Option Value := fun x => if x = a then v else g x
variable {P : Program} {kt et T : TypeId}
theorem int_key (hk : P.underlying kt = some (.int .i64)) {a : Int} (h : (Lit.int .i64 a).wf = true) : keyOf P kt (.int .i64 a) = some (.int .i64 a) := keyOf_int_mk hk h
theorem wf_room {a : Int} (hr : room ≤ 1000000) (h0 : 0 ≤ a) (h1 : a < (room : Int)) : (Lit.int .i64 a).wf = true := by
  have e1 : IntKind.i64.min = -9223372036854775808 := by decide
  have e2 : IntKind.i64.max = 9223372036854775807 := by decide
  simp [Lit.wf, e1, e2]; omega
theorem MapOk.keyed (m : MapOk room g τ es clock) (hr : room ≤ 1000000) (hk : P.underlying kt = some (.int .i64)) : ∀ e ∈ es.toList, ∃ l, keyOf P kt e.key = some l := fun e he => by
  obtain ⟨a, ha, h0, h1, _⟩ := m.mem e he
  rw [ha]; exact ⟨_, int_key hk (wf_room hr h0 h1)⟩
/-- 'm[k]', 'v, ok := m[k]'. -/
theorem MapOk.look (m : MapOk room g τ es clock) (hr : room ≤ 1000000) (ht : P.underlying T = some (.map kt et)) (hk : P.underlying kt = some (.int .i64)) {z : Value} {w : World} (hz : (zeroValue et).run P w = .ok z w) {b : Nat} (hb : w.heap[b]? = some (.map es clock)) {a : Int} (hw : (Lit.int .i64 a).wf = true) (c : Bool) :
    (Instr.lookup T (.map (some b)) (.int .i64 a) c).run P w = .ok (if c then .tuple #[(g a).getD z, .bool (g a).isSome] else (g a).getD z) w := by
  have K := int_keyed hk
  rcases K.find w (int_key hk hw) es.toList (m.keyed hr hk) with ⟨h1, h2⟩ | ⟨j, e0, h1, h2, h3⟩
  · have hg : g a = none := by
      cases q : g a with
      | none => rfl
      | some v => obtain ⟨x, hx, e⟩ := m.has a v q; exact absurd e (h2 x hx)
    simp [Instr.lookup, run_underlying ht, MapKept.run_getObj_map hb, K.check w _ (int_key hk hw), h1, hz, Result.andThen, hg]
  · have hm0 : e0 ∈ es.toList := List.mem_of_getElem? h2
    obtain ⟨a', ha, _, _, hg⟩ := m.mem e0 hm0
    rw [h3] at ha
    cases ha
    simp [Instr.lookup, run_underlying ht, MapKept.run_getObj_map hb, K.check w _ (int_key hk hw), h1, Result.andThen, hg]
/-- 'm[k] = v'. -/
theorem MapOk.store (m : MapOk room g τ es clock) (hr : room ≤ 1000000) (ht : P.underlying T = some (.map kt et)) (hk : P.underlying kt = some (.int .i64)) {w : World} {b : Nat} (hb : w.heap[b]? = some (.map es clock)) {a : Int} (h0 : 0 ≤ a) (h1 : a < (room : Int)) (v : Value) :
    ∃ es' clock', (Instr.mapUpdate T (.map (some b)) (.int .i64 a) v).run P w = .ok () { w with heap := w.heap.setIfInBounds b (.map es' clock') } ∧ MapOk room (setG g a (some v)) (τ.put a (g a).isSome) es' clock' := by
  have K := int_keyed hk
  have hkey := int_key (P := P) hk (wf_room hr h0 h1)
  rcases K.find w hkey es.toList (m.keyed hr hk) with ⟨f1, f2⟩ | ⟨j, e0, f1, f2, f3⟩
  · have hg : g a = none := by
      cases q : g a with
      | none => rfl
      | some v => obtain ⟨x, hx, e⟩ := m.has a v q; exact absurd e (f2 x hx)
    refine ⟨es.push ⟨.int .i64 a, v, clock⟩, clock + 1, ?_, by rw [m.clk, hg]; rfl, fun x hx c hc => ?_, stamped_push m.st f2, fun x hx => ?_, fun c u hc => ?_⟩
    · simp [Instr.mapUpdate, run_underlying ht, MapKept.run_getObj_map hb, K.check w false hkey, f1, MapKept.run_setObj_map _ hb, Result.andThen]
    · simp only [Array.toList_push, List.mem_append, List.mem_singleton] at hx
      rcases hx with hx | rfl
      · have : c ≠ a := fun q => f2 x hx (by rw [hc, q])
        show x.born = if c = a then _ else _
        rw [if_neg this]; exact m.born x hx c hc
      · cases hc
        show clock = if a = a then _ else _
        rw [if_pos rfl, hg, m.clk]; rfl
    · simp only [Array.toList_push, List.mem_append, List.mem_singleton] at hx
      rcases hx with hx | rfl
      · obtain ⟨c, hc, c0, c1, hg⟩ := m.mem x hx
        refine ⟨c, hc, c0, c1, ?_⟩
        unfold setG
        rw [if_neg (fun q => f2 x hx (by rw [hc, q]))]; exact hg
      · exact ⟨a, rfl, h0, h1, by unfold setG; rw [if_pos rfl]⟩
    · simp only [Array.toList_push, List.mem_append, List.mem_singleton]
      unfold setG at hc
      by_cases q : c = a
      · exact ⟨_, .inr rfl, by rw [q]⟩
      · rw [if_neg q] at hc
        obtain ⟨x, hx, e⟩ := m.has c u hc
        exact ⟨x, .inl hx, e⟩
  · have hj : es[j]? = some e0 := by simpa using f2
    have hjl : j < es.toList.length := (List.getElem?_eq_some_iff.1 f2).1
    have hkeyf : ∀ e', es[j]? = some e' → ({ e' with key := Value.int .i64 a, val := v } : MapEntry).key = e'.key := fun e' he' => by rw [hj] at he'; cases he'; exact f3.symm
    have hlist : (es.modify j (fun e' => { e' with key := .int .i64 a, val := v })).toList = es.toList.set j { e0 with key := .int .i64 a, val := v } := by rw [Array.toList_modify, ChangeMaps.modify_eq_set _ _ _ _ f2]
    have hm0 : e0 ∈ es.toList := List.mem_of_getElem? f2
    obtain ⟨a0, ha0, _, _, hg00⟩ := m.mem e0 hm0
    have hg0 : (g a) = some e0.val := by rw [f3] at ha0; cases ha0; exact hg00
    refine ⟨es.modify j (fun e' => { e' with key := .int .i64 a, val := v }), clock, ?_, by rw [m.clk, hg0]; rfl, fun x hx c hc => ?_, stamped_modify m.st _ _ (fun _ _ => rfl) (fun e' _ he' => hkeyf e' he'), fun x hx => ?_, fun c u hc => ?_⟩
    · simp [Instr.mapUpdate, run_underlying ht, MapKept.run_getObj_map hb, K.check w false hkey, f1, hj, f3, K.stays w hkey, MapKept.run_setObj_map _ hb, Result.andThen]
    · rw [hlist] at hx
      obtain ⟨i, hi, ex⟩ := List.getElem_of_mem hx
      rw [List.getElem_set] at ex
      split at ex
      · rw [← ex] at hc ⊢
        cases hc
        show e0.born = if a = a then _ else _
        rw [if_pos rfl, hg0]; exact m.born e0 hm0 a f3
      · rename_i hne
        have hi' : i < es.toList.length := by simpa using hi
        have hxm : x ∈ es.toList := ex ▸ List.getElem_mem hi'
        have : x.born = τ.st c := m.born x hxm c hc
        show x.born = if c = a then _ else _
        split
        · rename_i q; rw [hg0, this, q]; rfl
        · exact this
    · rw [hlist] at hx
      obtain ⟨i, hi, ex⟩ := List.getElem_of_mem hx
      rw [List.getElem_set] at ex
      split at ex
      · rw [← ex]; exact ⟨a, rfl, h0, h1, by unfold setG; rw [if_pos rfl]⟩
      · rename_i hne
        have hi' : i < es.toList.length := by simpa using hi
        have hxm : x ∈ es.toList := ex ▸ List.getElem_mem hi'
        obtain ⟨c, hc, c0, c1, hg⟩ := m.mem x hxm
        refine ⟨c, hc, c0, c1, ?_⟩
        unfold setG
        rw [if_neg (fun q => ?_)]; exact hg
        have he : x = e0 := m.inj hxm hm0 (by rw [hc, f3, q])
        have hp := ((stamped_iff es clock).1 m.st).2.2
        rw [List.pairwise_iff_getElem] at hp
        have e0j : es.toList[j] = e0 := (List.getElem?_eq_some_iff.1 f2).2
        rcases Nat.lt_trichotomy i j with z | z | z
        · exact hp i j hi' hjl z (by rw [ex, e0j, he])
        · exact hne z.symm
        · exact hp j i hjl hi' z (by rw [ex, e0j, he])
    · rw [hlist]
      unfold setG at hc
      by_cases q : c = a
      · exact ⟨_, List.mem_iff_getElem.2 ⟨j, by simpa using hjl, by simp; rfl⟩, by rw [q]⟩
      · rw [if_neg q] at hc
        obtain ⟨x, hx, e⟩ := m.has c u hc
        obtain ⟨i, hi, ex⟩ := List.getElem_of_mem hx
        refine ⟨x, List.mem_iff_getElem.2 ⟨i, by simpa using hi, ?_⟩, e⟩
        rw [List.getElem_set, if_neg, ex]
        rintro rfl
        have e0j : es.toList[j] = e0 := (List.getElem?_eq_some_iff.1 f2).2
        rw [e0j] at ex
        rw [← ex, f3] at e
        cases e; exact q rfl
/-- 'm[k] op= ..': the entry is looked up, and made where it isn't there. -/
theorem MapOk.entry (m : MapOk room g τ es clock) (hr : room ≤ 1000000) (ht : P.underlying T = some (.map kt et)) (hk : P.underlying kt = some (.int .i64)) {z : Value} {w : World} (hz : (zeroValue et).run P w = .ok z w) {b : Nat} (hb : w.heap[b]? = some (.map es clock)) {a : Int} (h0 : 0 ≤ a) (h1 : a < (room : Int)) :
    ∃ es' clock', (Instr.mapEntry T (.map (some b)) (.int .i64 a)).run P w = .ok (.tuple #[(g a).getD z, .int .i64 (if (g a).isSome then τ.st a else τ.clock : Nat)]) { w with heap := w.heap.setIfInBounds b (.map es' clock') } ∧ MapOk room (setG g a (some ((g a).getD z))) (τ.put a (g a).isSome) es' clock' := by
  have K := int_keyed hk
  have hkey := int_key (P := P) hk (wf_room hr h0 h1)
  obtain ⟨es', clock', hrun, hm⟩ := m.store hr ht hk hb h0 h1 ((g a).getD z)
  refine ⟨es', clock', ?_, hm⟩
  rcases K.find w hkey es.toList (m.keyed hr hk) with ⟨f1, f2⟩ | ⟨j, e0, f1, f2, f3⟩
  · have hg : g a = none := by
      cases q : g a with
      | none => rfl
      | some v => obtain ⟨x, hx, e⟩ := m.has a v q; exact absurd e (f2 x hx)
    rw [hg] at hrun ⊢
    simp [Instr.mapUpdate, run_underlying ht, MapKept.run_getObj_map hb, K.check w false hkey, f1, MapKept.run_setObj_map _ hb, Result.andThen] at hrun
    simp [Instr.mapEntry, run_underlying ht, MapKept.run_getObj_map hb, K.check w false hkey, f1, hz, MapKept.run_setObj_map _ hb, Result.andThen, goInt, ← m.clk, hrun]
  · have hm0 : e0 ∈ es.toList := List.mem_of_getElem? f2
    obtain ⟨a', ha, _, _, hg⟩ := m.mem e0 hm0
    rw [f3] at ha
    cases ha
    have hj : es[j]? = some e0 := by simpa using f2
    have hbo := m.born e0 hm0 a f3
    have hmod : es.modify j (fun e' => { e' with key := Value.int .i64 a, val := e0.val }) = es.modify j (fun e' => { e' with key := Value.int .i64 a }) := by
      apply Array.ext_getElem?
      intro i
      rw [Array.getElem?_modify, Array.getElem?_modify]
      split
      · rename_i q; subst q; rw [hj]; rfl
      · rfl
    rw [hg] at hrun ⊢
    simp [Instr.mapUpdate, run_underlying ht, MapKept.run_getObj_map hb, K.check w false hkey, f1, hj, f3, K.stays w hkey, MapKept.run_setObj_map _ hb, Result.andThen, hmod] at hrun
    simp [Instr.mapEntry, run_underlying ht, MapKept.run_getObj_map hb, K.check w false hkey, f1, hj, f3, K.stays w hkey, MapKept.run_setObj_map _ hb, Result.andThen, hrun, goInt, hbo]
/-- The value of an entry that was looked up. -/
theorem MapOk.entryStore (m : MapOk room g τ es clock) {w : World} {b : Nat} (hb : w.heap[b]? = some (.map es clock)) {a : Int} (hs : (g a).isSome = true) (h0 : 0 ≤ a) (h1 : a < (room : Int)) (v : Value) :
    ∃ es', (Instr.entryStore T (.map (some b)) (.int .i64 (τ.st a : Nat)) v).run P w = .ok () { w with heap := w.heap.setIfInBounds b (.map es' clock) } ∧ MapOk room (setG g a (some v)) τ es' clock := by
  obtain ⟨v0, hv0⟩ := Option.isSome_iff_exists.1 hs
  obtain ⟨e0, hm0, he0⟩ := m.has a v0 hv0
  have hb0 := m.born e0 hm0 a he0
  obtain ⟨i, hi⟩ : ∃ i, es.findIdx? (fun e => (e.born : Int) == ((τ.st a : Nat) : Int)) = some i := by
    cases q : es.findIdx? (fun e => (e.born : Int) == ((τ.st a : Nat) : Int)) with
    | some i => exact ⟨i, rfl⟩
    | none =>
      rw [Array.findIdx?_eq_none_iff] at q
      have := q e0 (by simpa using hm0)
      simp [hb0] at this
  have hi2 := Array.findIdx?_eq_some_iff_getElem.1 hi
  obtain ⟨hlt, hbi, _⟩ := hi2
  have hmi : es[i] ∈ es.toList := by simp
  have e1 : es[i] = e0 := by
    have hnb := ((stamped_iff es clock).1 m.st).2.1
    have hbb : es[i].born = e0.born := by simp at hbi; omega
    obtain ⟨k, hk, rfl⟩ := List.getElem_of_mem hm0
    have hk' : k < es.size := by simpa using hk
    have : i = k := by
      have hp : (es.toList.map (·.born)).Pairwise (fun x y => x ≠ y) := hnb
      rw [List.pairwise_iff_getElem] at hp
      rcases Nat.lt_trichotomy i k with q | q | q
      · exact absurd (by rw [List.getElem_map, List.getElem_map]; simpa using hbb) (hp i k (by simpa using hlt) (by simpa using hk') q)
      · exact q
      · exact absurd (by rw [List.getElem_map, List.getElem_map]; simpa using hbb.symm) (hp k i (by simpa using hk') (by simpa using hlt) q)
    subst this
    simp
  have hj : es[i]? = some e0 := by rw [Array.getElem?_eq_getElem hlt, e1]
  have hjl : es.toList[i]? = some e0 := by simpa using hj
  have hlist : (es.modify i (fun e' => { e' with val := v })).toList = es.toList.set i { e0 with val := v } := by rw [Array.toList_modify, ChangeMaps.modify_eq_set _ _ _ _ hjl]
  have hlt' : i < es.toList.length := (List.getElem?_eq_some_iff.1 hjl).1
  refine ⟨es.modify i (fun e' => { e' with val := v }), ?_, m.clk, fun x hx c hc => ?_, stamped_modify m.st _ _ (fun _ _ => rfl) (fun _ _ _ => rfl), fun x hx => ?_, fun c u hc => ?_⟩
  · simp [Instr.entryStore, MapKept.run_getObj_map hb, asInt, asIntOf, hi, MapKept.run_setObj_map _ hb, Result.andThen]
  · rw [hlist] at hx
    rcases List.mem_or_eq_of_mem_set hx with hx | rfl
    · exact m.born x hx c hc
    · exact m.born e0 hm0 c hc
  · rw [hlist] at hx
    obtain ⟨k, hk, ex⟩ := List.getElem_of_mem hx
    rw [List.getElem_set] at ex
    split at ex
    · rw [← ex]
      obtain ⟨c, hc, c0, c1, _⟩ := m.mem e0 hm0
      rw [he0] at hc
      cases hc
      exact ⟨a, he0, h0, h1, by unfold setG; rw [if_pos rfl]⟩
    · rename_i hne
      have hk' : k < es.toList.length := by simpa using hk
      have hxm : x ∈ es.toList := ex ▸ List.getElem_mem hk'
      obtain ⟨c, hc, c0, c1, hg⟩ := m.mem x hxm
      refine ⟨c, hc, c0, c1, ?_⟩
      unfold setG
      rw [if_neg (fun q => ?_)]; exact hg
      have he : x = e0 := m.inj hxm hm0 (by rw [hc, he0, q])
      have hp := ((stamped_iff es clock).1 m.st).2.2
      rw [List.pairwise_iff_getElem] at hp
      have e0j : es.toList[i] = e0 := (List.getElem?_eq_some_iff.1 hjl).2
      rcases Nat.lt_trichotomy k i with z | z | z
      · exact hp k i hk' hlt' z (by rw [ex, e0j, he])
      · exact hne z.symm
      · exact hp i k hlt' hk' z (by rw [ex, e0j, he])
  · rw [hlist]
    unfold setG at hc
    by_cases q : c = a
    · exact ⟨_, List.mem_iff_getElem.2 ⟨i, by simpa using hlt', by simp; rfl⟩, by rw [q]; exact he0⟩
    · rw [if_neg q] at hc
      obtain ⟨x, hx, e⟩ := m.has c u hc
      obtain ⟨k, hk, ex⟩ := List.getElem_of_mem hx
      refine ⟨x, List.mem_iff_getElem.2 ⟨k, by simpa using hk, ?_⟩, e⟩
      rw [List.getElem_set, if_neg, ex]
      rintro rfl
      have e0j : es.toList[i] = e0 := (List.getElem?_eq_some_iff.1 hjl).2
      rw [e0j] at ex
      rw [← ex, he0] at e
      cases e; exact q rfl
/-- 'delete(m, k)'. -/
theorem MapOk.drop {ty : TypeId} (m : MapOk room g τ es clock) (hr : room ≤ 1000000) (ht : P.underlying T = some (.map kt et)) (hk : P.underlying kt = some (.int .i64)) {w : World} {b : Nat} (hb : w.heap[b]? = some (.map es clock)) {a : Int} (hw : (Lit.int .i64 a).wf = true) :
    ∃ es', (Builtin.delete_ #[T, kt] ty #[.map (some b), .int .i64 a]).run P w = .ok (.tuple #[]) { w with heap := w.heap.setIfInBounds b (.map es' clock) } ∧ MapOk room (setG g a none) τ es' clock := by
  have K := int_keyed hk
  have hkey := int_key (P := P) hk hw
  rcases K.find w hkey es.toList (m.keyed hr hk) with ⟨f1, f2⟩ | ⟨j, e0, f1, f2, f3⟩
  · refine ⟨es, ?_, m.clk, m.born, m.st, fun x hx => ?_, fun c u hc => ?_⟩
    · simp [Builtin.delete_, run_underlying ht, MapKept.run_getObj_map hb, K.check w _ hkey, f1, MapKept.run_setObj_map _ hb, Result.andThen]
    · obtain ⟨c, hc, c0, c1, hg⟩ := m.mem x hx
      refine ⟨c, hc, c0, c1, ?_⟩
      unfold setG
      rw [if_neg (fun q => f2 x hx (by rw [hc, q]))]; exact hg
    · unfold setG at hc
      by_cases q : c = a
      · rw [if_pos q] at hc; cases hc
      · rw [if_neg q] at hc; exact m.has c u hc
  · have hjl : j < es.toList.length := (List.getElem?_eq_some_iff.1 f2).1
    have hjs : j < es.size := by simpa using hjl
    have hsub : (es.eraseIdxIfInBounds j).toList = es.toList.eraseIdx j := by
      unfold Array.eraseIdxIfInBounds
      rw [dif_pos hjs]
      simp
    have hm0 : e0 ∈ es.toList := List.mem_of_getElem? f2
    have e0j : es.toList[j] = e0 := (List.getElem?_eq_some_iff.1 f2).2
    have hp := ((stamped_iff es clock).1 m.st).2.2
    rw [List.pairwise_iff_getElem] at hp
    refine ⟨es.eraseIdxIfInBounds j, ?_, m.clk, fun x hx c hc => ?_, stamped_erase m.st j, fun x hx => ?_, fun c u hc => ?_⟩
    rotate_left
    · rw [hsub] at hx
      exact m.born x ((List.eraseIdx_sublist _ _).subset hx) c hc
    rotate_right
    · simp [Builtin.delete_, run_underlying ht, MapKept.run_getObj_map hb, K.check w _ hkey, f1, MapKept.run_setObj_map _ hb, Result.andThen]
    · rw [hsub] at hx
      obtain ⟨i, hne, hi⟩ := List.mem_eraseIdx_iff_getElem?.1 hx
      have hxm := List.mem_of_getElem? hi
      obtain ⟨hi', ex⟩ := List.getElem?_eq_some_iff.1 hi
      obtain ⟨c, hc, c0, c1, hg⟩ := m.mem x hxm
      refine ⟨c, hc, c0, c1, ?_⟩
      unfold setG
      rw [if_neg (fun q => ?_)]; exact hg
      have he : x = e0 := m.inj hxm hm0 (by rw [hc, f3, q])
      rcases Nat.lt_trichotomy i j with z | z | z
      · exact hp i j hi' hjl z (by rw [ex, e0j, he])
      · exact hne z
      · exact hp j i hjl hi' z (by rw [ex, e0j, he])
    · unfold setG at hc
      by_cases q : c = a
      · rw [if_pos q] at hc; cases hc
      · rw [if_neg q] at hc
        obtain ⟨x, hx, e⟩ := m.has c u hc
        obtain ⟨i, hi, ex⟩ := List.getElem_of_mem hx
        refine ⟨x, ?_, e⟩
        rw [hsub]
        refine List.mem_eraseIdx_iff_getElem?.2 ⟨i, ?_, by rw [List.getElem?_eq_getElem hi, ex]⟩
        rintro rfl
        rw [e0j] at ex
        rw [← ex, f3] at e
        cases e; exact q rfl

/-! ### The keys, sorted -/
/-- How an element reads: as itself. -/
def tokR (v : Value) : Option (DataW Value × List MemPlace) := some (.held v, [])
theorem MapOk.fit (m : MapOk room g τ es clock) (hr : room ≤ 1000000) (hk : P.underlying kt = some (.int .i64)) : WideElems.Fit P kt tokR es clock :=
  ⟨by have := m.size; unfold maxLen; omega, m.st, fun x hx => by
    obtain ⟨l, hl⟩ := m.keyed (P := P) hr hk x hx
    exact ⟨(l, .held x.val), by simp [WideElems.rd, hl, tokR]⟩⟩
theorem MapOk.owns (m : MapOk room g τ es clock) (hr : room ≤ 1000000) (hk : P.underlying kt = some (.int .i64)) {w : World} {b : Nat} (hb : w.heap[b]? = some (.map es clock)) :
    w.ownsMap P kt tokR b es.size (.map ((es.toList.map (WideElems.rg P kt tokR)).foldr DataW.insert [])) := ⟨es, clock, hb, m.fit hr hk, Nat.le_refl _, rfl⟩
/-- The keys from 0 up, as whole numbers. -/
def keysF (room : Nat) (g : Int → Bool) : List Int := ((List.range room).filter fun (k : Nat) => g (k : Int)).map fun (k : Nat) => (k : Int)
theorem keysF_mem {room : Nat} {g : Int → Bool} {x : Int} : x ∈ keysF room g ↔ 0 ≤ x ∧ x < (room : Int) ∧ g x = true := by
  unfold keysF
  rw [List.mem_map]
  constructor
  · rintro ⟨k, hk, rfl⟩
    obtain ⟨h1, h2⟩ := List.mem_filter.1 hk
    have := List.mem_range.1 h1
    exact ⟨by omega, by omega, h2⟩
  · rintro ⟨h0, h1, h2⟩
    obtain ⟨k, rfl⟩ := Int.eq_ofNat_of_zero_le h0
    exact ⟨k, List.mem_filter.2 ⟨List.mem_range.2 (by omega), h2⟩, rfl⟩
theorem keysF_sorted (room : Nat) (g : Int → Bool) : (keysF room g).Pairwise (fun a b => a < b) := by
  unfold keysF
  refine List.pairwise_map.2 ((List.Pairwise.filter _ List.pairwise_lt_range).imp fun {a b} h => by omega)
theorem MapOk.sorted (m : MapOk room g τ es clock) (hr : room ≤ 1000000) (hk : P.underlying kt = some (.int .i64)) {ss : List Int} (hp : ss.Perm (intKeys (.map ((es.toList.map (WideElems.rg P kt tokR)).foldr DataW.insert []) : DataW Value))) :
    ss.mergeSort (fun x y => decide (x ≤ y)) = keysF room (fun a => (g a).isSome) := by
  have F := m.fit (P := P) hr hk
  have h1 : (intKeys (.map ((es.toList.map (WideElems.rg P kt tokR)).foldr DataW.insert []) : DataW Value)).Perm (es.toList.map keyI) := by
    show (((es.toList.map (WideElems.rg P kt tokR)).foldr DataW.insert []).map fun p => intOf p.1).Perm _
    refine ((WideShapes.sorted_perm _).map _).trans ?_
    rw [List.map_map]
    refine List.Perm.of_eq (List.map_congr_left fun x hx => ?_)
    obtain ⟨y, hy⟩ := F.reads x hx
    have hkey := WideElems.rd_key hy
    have e := m.keys x hx
    rw [e] at hkey
    obtain ⟨a, ha, a0, a1, _⟩ := m.mem x hx
    rw [ha] at e
    cases e
    rw [← show keyI x = keyI x from rfl] at hkey
    simp only [Function.comp, WideElems.rg_of hy]
    have hw : (Lit.int .i64 (keyI x)).wf = true := wf_room hr a0 a1
    rw [int_key hk hw] at hkey
    rw [← Option.some.inj hkey]; rfl
  have h2 : ss.Perm (keysF room fun a => (g a).isSome) := by
    refine (hp.trans h1).trans ((List.perm_ext_iff_of_nodup m.nodup ((keysF_sorted _ _).imp fun h => by omega)).2 fun x => ?_)
    rw [keysF_mem, List.mem_map]
    constructor
    · rintro ⟨y, hy, rfl⟩
      obtain ⟨a, ha, h0, h1, hg⟩ := m.mem y hy
      have : keyI y = a := by unfold keyI; rw [ha]
      rw [this, hg]; exact ⟨h0, h1, rfl⟩
    · rintro ⟨h0, h1, h2⟩
      obtain ⟨v, hv⟩ := Option.isSome_iff_exists.1 h2
      obtain ⟨y, hy, e⟩ := m.has x v hv
      exact ⟨y, hy, by unfold keyI; rw [e]⟩
  have tr : ∀ a b c : Int, decide (a ≤ b) = true → decide (b ≤ c) = true → decide (a ≤ c) = true := fun a b c h1 h2 => by simp only [decide_eq_true_eq] at *; omega
  have to : ∀ a b : Int, (decide (a ≤ b) || decide (b ≤ a)) = true := fun a b => by simp only [Bool.or_eq_true, decide_eq_true_eq]; omega
  refine List.Perm.eq_of_pairwise (le := fun a b => decide (a ≤ b) = true) (fun a b _ _ h1 h2 => ?_) (List.pairwise_mergeSort tr to ss) ((keysF_sorted _ _).imp fun h => by simp only [decide_eq_true_eq]; omega) ((List.mergeSort_perm ss _).trans h2)
  simp only [decide_eq_true_eq] at h1 h2
  omega
end
end Go.Proofs.Ytdmodejpcfhbhaa
