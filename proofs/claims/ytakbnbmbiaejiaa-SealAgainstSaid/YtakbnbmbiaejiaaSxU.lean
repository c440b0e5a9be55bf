/- Arenas at places that are numbers: words written out, accesses told by tests. -/
import Derived.Test.YtakbnbmbiaejiaaSxT
namespace Go.Proofs.Ytakbnbmbiaejiaa
open Go.RowKit
variable {W : World}

def getK {β : Type} : List Int → Nat → (Int → β) → β
  | [], _, K => K 0
  | x :: _, 0, K => K x
  | _ :: l, n + 1, K => getK l n K
theorem getK_eq {β : Type} (l : List Int) (n : Nat) (K : Int → β) : getK l n K = K (l.getD n 0) := by
  induction l generalizing n with
  | nil => rfl
  | cons x l ih => cases n with
    | zero => rfl
    | succ n => simp only [getK, ih]; rfl
def setK {β : Type} : List Int → Nat → Int → (List Int → β) → β
  | [], _, _, K => K []
  | _ :: l, 0, v, K => K (v :: l)
  | x :: l, n + 1, v, K => setK l n v fun l => K (x :: l)
theorem setK_eq {β : Type} (l : List Int) (n : Nat) (v : Int) (K : List Int → β) : setK l n v K = K (l.set n v) := by
  induction l generalizing n K with
  | nil => rfl
  | cons x l ih => cases n with
    | zero => rfl
    | succ n => simp only [setK, ih]; rfl
/-- The word that lies there, if the place is there. -/
def rdK {β : Type} (V : Vw) (i : Int) (K : Option Int → β) : β :=
  match Int.decLe 0 i, Nat.blt i.toNat V.ws.length with
  | .isTrue _, true => getK V.ws i.toNat fun r => K (some r)
  | _, _ => K none
theorem rdK_eq {β : Type} (V : Vw) (i : Int) (K : Option Int → β) : rdK V i K = K (if V.inb i then some (V.rd i) else none) := by
  unfold rdK
  split
  · rename_i h0 _ h1
    have h1 : i.toNat < V.ws.length := by simpa [Nat.blt_eq] using h1
    have hi : V.inb i := ⟨h0, by omega⟩
    rw [getK_eq, if_pos hi]
    unfold Vw.rd
    rw [if_pos hi]
  · rename_i hn
    rw [if_neg]
    rintro ⟨h0, h1⟩
    exact hn h0 (by cases e : Int.decLe 0 i with | isTrue _ => rfl | isFalse q => exact absurd h0 q) (by simp [Nat.blt_eq]; omega)
def loadD (V : Vw) (i : Int) (K : Int → Vw → DT Ext) : DT Ext :=
  forceI i fun i => rdK V i fun r => match r, V with
    | some r, ⟨ws, n, _⟩ => forceI (n + 1) fun n => K r ⟨ws, n, ⟨1, i, r, r, false⟩⟩
    | none, ⟨ws, n, _⟩ => forceI (n + 1) fun n => K 0 ⟨ws, n, ⟨1, i, 0, 0, false⟩⟩
def storeD (V : Vw) (i v : Int) (K : Vw → DT Ext) : DT Ext :=
  forceI i fun i => rdK V i fun r => match r, V with
    | some r, ⟨ws, n, _⟩ => setK ws i.toNat v fun ws => forceI (n + 1) fun n => K ⟨ws, n, ⟨2, i, r, v, false⟩⟩
    | none, ⟨ws, n, _⟩ => forceI (n + 1) fun n => K ⟨ws, n, ⟨2, i, 0, 0, false⟩⟩
def swapD (V : Vw) (i o v : Int) (K : Bool → Vw → DT Ext) : DT Ext :=
  forceI i fun i => rdK V i fun r => match r, V with
    | some r, ⟨ws, n, _⟩ => forceI (n + 1) fun n => .ite (decide (r = o)) (setK ws i.toNat v fun ws => K true ⟨ws, n, ⟨3, i, r, v, true⟩⟩) (K false ⟨ws, n, ⟨3, i, r, r, false⟩⟩)
    | none, ⟨ws, n, _⟩ => forceI (n + 1) fun n => K false ⟨ws, n, ⟨3, i, 0, 0, false⟩⟩
def addD (V : Vw) (i v : Int) (K : Int → Vw → DT Ext) : DT Ext :=
  forceI i fun i => rdK V i fun r => match r, V with
    | some r, ⟨ws, n, _⟩ => setK ws i.toNat (wrap64 (r + v)) fun ws => forceI (n + 1) fun n => K r ⟨ws, n, ⟨4, i, r, wrap64 (r + v), false⟩⟩
    | none, ⟨ws, n, _⟩ => forceI (n + 1) fun n => K 0 ⟨ws, n, ⟨4, i, 0, 0, false⟩⟩
def pokeD (V : Vw) (i v : Int) (K : Vw → DT Ext) : DT Ext :=
  forceI i fun i => rdK V i fun r => match r, V with
    | some _, ⟨ws, n, a⟩ => setK ws i.toNat v fun ws => K ⟨ws, n, a⟩
    | none, V => K V
def peekD (V : Vw) (i : Int) (K : Int → DT Ext) : DT Ext :=
  forceI i fun i => rdK V i fun r => match r with
    | some r => K r
    | none => K 0
section
variable (V : Vw) (i v o : Int)
theorem rd_out0 {V : Vw} {i : Int} (h : ¬ V.inb i) : V.rd i = 0 := if_neg h
theorem loadD_out (K : Int → Vw → DT Ext) : (loadD V i K).out = (K (V.rd i) (V.load i)).out := by
  unfold loadD
  rw [forceI_eq, rdK_eq]
  obtain ⟨ws, n, a⟩ := V
  by_cases h : Vw.inb ⟨ws, n, a⟩ i
  · simp only [if_pos h, forceI_eq]; rfl
  · simp only [if_neg h, forceI_eq, Vw.load, Vw.note, rd_out0 h]
theorem storeD_out (K : Vw → DT Ext) : (storeD V i v K).out = (K (V.store i v)).out := by
  unfold storeD
  rw [forceI_eq, rdK_eq]
  obtain ⟨ws, n, a⟩ := V
  by_cases h : Vw.inb ⟨ws, n, a⟩ i
  · simp only [if_pos h, forceI_eq, setK_eq, Vw.store, Vw.wr, Vw.note]
  · simp only [if_neg h, forceI_eq, Vw.store, Vw.wr, Vw.note, rd_out0 h]
theorem addD_out (K : Int → Vw → DT Ext) : (addD V i v K).out = (K (V.rd i) (V.add i v)).out := by
  unfold addD
  rw [forceI_eq, rdK_eq]
  obtain ⟨ws, n, a⟩ := V
  by_cases h : Vw.inb ⟨ws, n, a⟩ i
  · simp only [if_pos h, forceI_eq, setK_eq, Vw.add, Vw.wr, Vw.note]
  · simp only [if_neg h, forceI_eq, Vw.add, Vw.wr, Vw.note, rd_out0 h]
theorem swapD_out (K : Bool → Vw → DT Ext) : (swapD V i o v K).out = (K (V.swaps i o) (V.swap i o v)).out := by
  unfold swapD
  rw [forceI_eq, rdK_eq]
  obtain ⟨ws, n, a⟩ := V
  by_cases h : Vw.inb ⟨ws, n, a⟩ i
  · simp only [if_pos h, forceI_eq, setK_eq, DT.out]
    by_cases q : Vw.rd ⟨ws, n, a⟩ i = o
    · have hs : Vw.swaps ⟨ws, n, a⟩ i o = true := decide_eq_true ⟨h, q⟩
      simp only [decide_eq_true q, hs, Vw.swap, Vw.wr, Vw.note, if_pos h, if_true]
    · have hs : Vw.swaps ⟨ws, n, a⟩ i o = false := decide_eq_false (fun z => q z.2)
      simp only [decide_eq_false q, hs, Vw.swap, Vw.note, Bool.false_eq_true, if_false]
  · have hs : Vw.swaps ⟨ws, n, a⟩ i o = false := decide_eq_false (fun z => h z.1)
    simp only [if_neg h, forceI_eq, hs, Vw.swap, Vw.note, rd_out0 h, Bool.false_eq_true, if_false]
theorem pokeD_out (K : Vw → DT Ext) : (pokeD V i v K).out = (K (V.wr i v)).out := by
  unfold pokeD
  rw [forceI_eq, rdK_eq]
  obtain ⟨ws, n, a⟩ := V
  by_cases h : Vw.inb ⟨ws, n, a⟩ i
  · simp only [if_pos h, setK_eq, Vw.wr]
  · simp only [if_neg h, Vw.wr]
theorem peekD_out (K : Int → DT Ext) : (peekD V i K).out = (K (V.rd i)).out := by
  unfold peekD
  rw [forceI_eq, rdK_eq]
  by_cases h : V.inb i
  · simp only [if_pos h]
  · simp only [if_neg h, rd_out0 h]
end

/-- The arena at a number. -/
def onE (i : Nat) (H : HX) (k : Vw → (Value → Vw → DT Ext) → DT Ext) : DT Ext :=
  match nth H i with
  | some (true, .ext (.arena V)) => k V fun v U => .ret v (put H i (some (true, .ext (.arena U))))
  | _ => .no
def eLoad : DetD
  | [.pointer (some ⟨i, 0, none⟩), .int .i64 x], H => onE i H fun V K => loadD V x fun r U => K (.int .i64 r) U
  | _, _ => .no
def eStore : DetD
  | [.pointer (some ⟨i, 0, none⟩), .int .i64 x, .int .i64 v], H => onE i H fun V K => storeD V x v fun U => K undef U
  | _, _ => .no
def eAdd : DetD
  | [.pointer (some ⟨i, 0, none⟩), .int .i64 x, .int .i64 v], H => onE i H fun V K => addD V x v fun r U => K (.int .i64 r) U
  | _, _ => .no
def eSwap : DetD
  | [.pointer (some ⟨i, 0, none⟩), .int .i64 x, .int .i64 o, .int .i64 v], H => onE i H fun V K => swapD V x o v fun b U => K (.bool b) U
  | _, _ => .no
def ePoke : DetD
  | [.pointer (some ⟨i, 0, none⟩), .int .i64 x, .int .i64 v], H => onE i H fun V K => pokeD V x v fun U => K undef U
  | _, _ => .no
def ePeek : DetD
  | [.pointer (some ⟨i, 0, none⟩), .int .i64 x], H => (match nth H i with
    | some (_, .ext (.arena V)) => peekD V x fun r => .ret (.int .i64 r) H
    | _ => .no)
  | _, _ => .no
/-- Made with its words written out. -/
def eMake : DetD := fun args H => (dMake args H).sp
def onlyE (f : FuncId) (a : FuncId) (s : DetD) (k : Option DetD) : Option DetD := match Nat.beq f a with
  | true => some s
  | false => k
/-- Arenas written out. -/
def Env.ex (E : Env Ext) : Env Ext := { E with det := fun f => match f with
  | 76 => some eLoad
  | 75 => some eStore
  | 80 => some eAdd
  | 20 => some eSwap
  | 17 => some ePoke
  | 22 => some ePeek
  | 15 => some eMake
  | _ => E.det f }
theorem onE_out {i : Nat} {H : HX} {k : Vw → (Value → Vw → DT Ext) → DT Ext} {k' : Vw → Value × Vw} (hk : ∀ V K, (k V K).out = (K (k' V).1 (k' V).2).out) : (onE i H k).out = onA i H k' := by
  unfold onE onA
  split
  · rename_i V hV
    rw [hk]
    simp only [hV]
    cases k' V
    rfl
  · rename_i hn
    split
    · rename_i V hV; exact absurd hV (hn V)
    · rfl
theorem eLoad_out (args : List Value) (H : HX) : (eLoad args H).out = dLoad args H := by
  unfold eLoad dLoad
  split
  · exact onE_out fun V K => loadD_out ..
  · rename_i h; split
    · exact absurd rfl (h _ _)
    · rfl
theorem eStore_out (args : List Value) (H : HX) : (eStore args H).out = dStore args H := by
  unfold eStore dStore
  split
  · exact onE_out fun V K => storeD_out ..
  · rename_i h; split
    · exact absurd rfl (h _ _ _)
    · rfl
theorem eAdd_out (args : List Value) (H : HX) : (eAdd args H).out = dAdd args H := by
  unfold eAdd dAdd
  split
  · exact onE_out fun V K => addD_out ..
  · rename_i h; split
    · exact absurd rfl (h _ _ _)
    · rfl
theorem eSwap_out (args : List Value) (H : HX) : (eSwap args H).out = dSwap args H := by
  unfold eSwap dSwap
  split
  · exact onE_out fun V K => swapD_out ..
  · rename_i h; split
    · exact absurd rfl (h _ _ _ _)
    · rfl
theorem ePoke_out (args : List Value) (H : HX) : (ePoke args H).out = dPoke args H := by
  unfold ePoke dPoke
  split
  · exact onE_out fun V K => pokeD_out ..
  · rename_i h; split
    · exact absurd rfl (h _ _ _)
    · rfl
theorem ePeek_out (args : List Value) (H : HX) : (ePeek args H).out = dPeek args H := by
  unfold ePeek dPeek lookA
  split
  · split
    · rename_i hV; rw [peekD_out]; simp only [hV]; rfl
    · rename_i hn; simp only; rfl
  · rename_i h; split
    · exact absurd rfl (h _ _)
    · rfl
theorem Env.Ok.ex {E : Env Ext} (hE : E.Ok Try.prog (means W)) : E.ex.Ok Try.prog (means W) := by
  refine ⟨hE.mixed, hE.inl, fun f s h args H v H' q => ?_, hE.op⟩
  unfold Env.ex at h
  simp only at h
  split at h
  · cases h; exact ok_Load (by rw [← eLoad_out]; exact q)
  · cases h; exact ok_Store (by rw [← eStore_out]; exact q)
  · cases h; exact ok_Add (by rw [← eAdd_out]; exact q)
  · cases h; exact ok_Swap (by rw [← eSwap_out]; exact q)
  · cases h; exact ok_Poke (by rw [← ePoke_out]; exact q)
  · cases h; exact ok_Peek (by rw [← ePeek_out]; exact q)
  · cases h; exact ok_Make (by unfold eMake at q; rw [sp_out] at q; exact q)
  · exact hE.det f s h args H v H' q
end Go.Proofs.Ytakbnbmbiaejiaa
