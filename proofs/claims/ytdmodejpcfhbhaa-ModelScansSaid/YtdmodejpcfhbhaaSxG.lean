/- Regions that draw their order: as they were reckoned, and as they go. No program is named here. -/
import Derived.Test.YtdmodejpcfhbhaaSxF
namespace Go.Proofs.Ytdmodejpcfhbhaa
open Go.RowKit

theorem ver_none {S : Nat → Bool} {W : Nat → Nat → Bool} (h : ∀ k, S k = false) (n c : Nat) : ver S W n c = 0 := by
  induction n with
  | zero => rfl
  | succ n ih => simp only [ver]; rw [if_neg (fun q => by rw [h] at q; cases q.1)]; exact ih

theorem regD_sound {X : Type} {tl : TellT X} {P : Program} {I : Means X} {call : CallT X} {eff : FuncId → List Nat} (hc : CallSound P I call) (htl : TellSound P I tl) (hd : CallDet call) (hmm : P.follows .mixedOrders = true) {id : Nat} {ops : List Oper} (hdr : drawOk ops = true)
    {w0 w : World} {L : Nat → Prop} {ρ : Ren} {H : AH X} {h : GH} {t : Sl} {a : Act} {K : Sl → AH X → Prop} (hk : regD tl P call eff ops ops [] t H K) (hn : Now I w0 L ρ H h w) (ht : TRs L ρ.b t a.tmps) (hdf : a.defers = []) {Q : Exit → Act → World → Prop}
    (hQ : ∀ a' w', After I w0 L ρ H h K a' w' → Q .normal a' w') : (Code.region id ops.toArray true).wp P Q a w := by
  obtain ⟨T, M, wn, F, R, G, tr, e1, e2, hcf, hK⟩ := regD_tra hd hk
  subst e1 e2
  simp only [List.reverse_nil, List.nil_append] at hcf
  unfold drawOk at hdr
  rw [Bool.and_eq_true] at hdr
  obtain ⟨hbw0, hsl⟩ := hdr
  have hbw := bwd_back hbw0
  refine region_inv hmm hbw (fun l a w => l.size = ops.length ∧ (∀ k o, ops[k]? = some o → l.getD k false = true → ∀ e ∈ o.after, Region.binds .any e = true → l.getD e.on false = true) ∧ ∃ ρ' h', Core I ops T M wn F w0 L ρ h (fun k => l.getD k false) ρ' h' a w) ?h0 ?hsz ?hend ?hstep
  case hsz => rintro l a w ⟨h1, _⟩; simpa using h1
  case h0 =>
    have hz : ∀ k, (Array.replicate ops.toArray.size false).getD k false = false := fun k => by
      simp [Array.getD]
    refine ⟨by simp, (fun k o _ h2 => by rw [hz] at h2; cases h2), ρ, h, ?_⟩
    have vh : ∀ c, vH ops M wn F (fun k => (Array.replicate ops.toArray.size false).getD k false) c = 0 := fun c => ver_none hz _ _
    have vt : ∀ c, vT ops (fun k => (Array.replicate ops.toArray.size false).getD k false) c = 0 := fun c => ver_none hz _ _
    refine ⟨hn.mem.drew, fun i p o e => ?_, fun i j p o q u e1 e2 => ?_, ht.1, fun d v e => ?_, hdf, fun _ _ => rfl, fun i p o _ e => ?_, fun _ _ _ => rfl, fun i p o e x hx => ?_, fun _ _ e _ => e, fun _ _ e => ⟨_, e⟩⟩
    · rw [vh] at e ⊢
      exact ⟨(hn.sat.obj i p o e).mono (fun x hx => ⟨⟨hn.lt x hx, .inl hx⟩, rfl⟩) rfl rfl fun _ _ => rfl, .inl (hn.sat.live i p o e)⟩
    · rw [vh] at e1 e2; exact hn.sat.apart i j p o q u e1 e2
    · rw [vt] at e ⊢
      obtain ⟨v', h1, h2⟩ := ht.2 d v e
      exact ⟨v', h1, h2.mono fun x hx => ⟨⟨hn.lt x hx, .inl hx⟩, rfl⟩⟩
    · rw [vh] at e; exact ⟨o, e⟩
    · rw [vh] at e; exact .inl ⟨i, p, o, e, hx, .inr rfl⟩
  case hend =>
    rintro l a' w' ⟨hsz, hcl, ρ', h', co⟩ hall
    have hS : ∀ k, k < ops.length → l.getD k false = true := fun k hk => hall k (by simpa using hk)
    have vh : ∀ c, vH ops M wn F (fun k => l.getD k false) c = ver allB (WH M wn F) ops.length c := fun c => ver_all fun k hk _ => hS k hk
    have vt : ∀ c, vT ops (fun k => l.getD k false) c = ver allB (WT ops) ops.length c := fun c => ver_all fun k hk _ => hS k hk
    have ch : ∀ c, nth (M ops.length) c = nth (M (vH ops M wn F (fun k => l.getD k false) c)) c := fun c => by
      rw [vh]; exact ver_canon (f := fun k c => nth (M k) c) fun k hk hw => tr.keepH hk hw
    have ct : ∀ d, gs (T ops.length) d = gs (T (vT ops (fun k => l.getD k false) d)) d := fun d => by
      rw [vt]; exact ver_canon (f := fun k => gs (T k)) fun k hk hw => tr.keepT hk hw
    have hlv : ∀ x, Lv ops M L (fun k => l.getD k false) x → LU L (M 0).length (M ops.length).length x := by
      rintro x (hx | ⟨k, h1, _, h2, h3⟩)
      · exact .inl hx
      · right
        have := tr.monos (Nat.zero_le k) (by omega)
        have := tr.monos (show k + 1 ≤ ops.length from h1) (Nat.le_refl _)
        omega
    have hm := tr.monos (Nat.zero_le ops.length) (Nat.le_refl _)
    refine hQ a' w' ⟨T ops.length, M ops.length, ρ', h', hK, ⟨co.mem, ⟨fun i p o e => ?_, fun i p o e => ?_, fun i j p o q u e1 e2 => ?_⟩, fun x hx => ?_, hn.org⟩, ⟨hm, fun i hi => co.b1 i hi, fun i p o hi e => ?_, fun i hi hr => co.b3 i hi hr, fun i p o e => ?_, co.b5, co.b6⟩, ⟨?_, fun d v e => ?_⟩, co.df⟩
    · rw [ch] at e
      exact (co.hp i p o e).1.mono (fun x hx => ⟨hlv x hx.2, rfl⟩) rfl rfl fun _ _ => rfl
    · rw [ch] at e; exact hlv i (co.hp i p o e).2
    · rw [ch] at e1 e2; exact co.ap i j p o q u e1 e2
    · rcases hx with hx | hx
      · have := hn.lt x hx; omega
      · omega
    · rw [ch] at e; exact co.b2 i p o hi e
    · rw [ch] at e; exact co.b4 i p o e
    · rw [tr.lenT (Nat.le_refl _)]; exact co.ts
    · rw [ct] at e
      obtain ⟨v', h1, h2⟩ := co.tm d v e
      exact ⟨v', h1, h2.mono fun x hx => ⟨hlv x hx.2, rfl⟩⟩
  case hstep =>
    rintro j o ho l a' w' ⟨hsz, hcl, ρ', h', co⟩ hun hdeps N hN
    have ho' : ops[j]? = some o := by simpa using ho
    have hj : j < ops.length := (List.getElem?_eq_some_iff.1 ho').1
    have hjl : j < l.size := by omega
    have hSj : l.getD j false = false := by simpa [Array.getD, hjl] using hun
    have hS' : ∀ k, (l.setIfInBounds j true).getD k false = if k = j then true else l.getD k false := fun k => by
      by_cases q : k = j
      · subst q; rw [if_pos rfl]; simp [Array.getD, hjl]
      · rw [if_neg q]; simp [Array.getD_eq_getD_getElem?, Array.getElem?_setIfInBounds_ne (Ne.symm q)]
    have hfa : ∀ k, k < ops.length → ((List.range ops.length).map (footAll M wn F))[k]? = some (footAll M wn F k) := fun k hk => by simp [hk]
    -- what stands ahead of one that is done, or may be done, is done
    have cl1 : ∀ k o', ops[k]? = some o' → l.getD k false = true → ∀ m i, (befs [] ops)[k]? = some m → m.testBit i = true → l.getD i false = true := fun k o' hk hSk =>
      befs_closed (S := fun k => l.getD k false) hbw hcl k o' hk (hcl k o' hk hSk)
    have cl2 : ∀ m i, (befs [] ops)[j]? = some m → m.testBit i = true → l.getD i false = true :=
      befs_closed (S := fun k => l.getD k false) hbw hcl j o ho' hdeps
    have confLt : ∀ i k, i < k → k < ops.length → conf (footAll M wn F i) (footAll M wn F k) = true → ∃ m : Nat, (befs [] ops)[k]? = some m ∧ m.testBit i = true := fun i k hik hk hcc => by
      obtain ⟨m, h1, _, h2⟩ := pairs_spec hcf k _ (hfa k hk)
      exact ⟨m, h1, by simpa using h2 i _ hik (hfa i (by omega)) hcc⟩
    have slotLt : ∀ i k x y, i < k → ops[i]? = some x → ops[k]? = some y → ovS (slots ops x) (slots ops y) = true → ∃ m : Nat, (befs [] ops)[k]? = some m ∧ m.testBit i = true := fun i k x y hik hx hy hcc => by
      obtain ⟨m, h1, _, h2⟩ := pairs_spec hsl k _ (by rw [List.getElem?_map, hy]; rfl)
      exact ⟨m, h1, by simpa using h2 i _ hik (by rw [List.getElem?_map, hx]; rfl) hcc⟩
    have hWH : ∀ k c, WH M wn F k c = true → look (footAll M wn F k) c = some true := fun k c e => by simpa [WH] using e
    have hWT : ∀ k d, WT ops k d = true → ∃ x, ops[k]? = some x ∧ x.dst = some d := fun k d e => by
      unfold WT at e
      cases hx : ops[k]? with
      | none => rw [hx] at e; simp at e
      | some x => rw [hx] at e; exact ⟨x, rfl, by simpa using e⟩
    have behindH : ∀ c b, look (footAll M wn F j) c = some b → ∀ k, j < k → k < ops.length → l.getD k false = true → WH M wn F k c = false := fun c b hb k hjk hk hSk => by
      cases e : WH M wn F k c with
      | false => rfl
      | true =>
        obtain ⟨m, h1, h2⟩ := confLt j k hjk hk (conf_of hb (hWH k c e) (.inr rfl))
        have := cl1 k ops[k] (by simp) hSk m j h1 h2
        rw [hSj] at this; cases this
    have behindT : ∀ d, (d ∈ o.looksAt ops.toArray ∨ o.dst = some d) → ∀ k, j < k → k < ops.length → l.getD k false = true → WT ops k d = false := fun d hd k hjk hk hSk => by
      cases e : WT ops k d with
      | false => rfl
      | true =>
        obtain ⟨x, hx, hxd⟩ := hWT k d e
        obtain ⟨m, h1, h2⟩ := slotLt j k o x hjk ho' hx (ovS_of (by
          rcases hd with hd | hd
          · exact .inr ⟨hxd, hd⟩
          · exact .inl ⟨hd, .inr hxd⟩))
        have := cl1 k x hx hSk m j h1 h2
        rw [hSj] at this; cases this
    refine Core.step (S := fun k => l.getD k false) (S' := fun k => (l.setIfInBounds j true).getD k false) hc htl hn.org tr hn.lt ho' hSj hS' (fun c hne => ?_) (fun d hd => ?_) (fun c hw k hjk hk hSk => behindH c true (hWH j c hw) k hjk hk hSk) (fun d hw k hjk hk hSk => ?_) co (fun ρ'' h'' a'' w'' co' => hN a'' w'' ⟨by simpa using hsz, fun k o' hk hSk e he hb => ?_, ρ'', h'', co'⟩)
    · cases hb : look (footAll M wn F j) c with
      | none => exact absurd hb hne
      | some b =>
        refine ver_agree (by omega) (fun k hjk hk hSk => ?_) (fun k hk hw => ?_)
        · rcases Nat.lt_or_eq_of_le hjk with q | q
          · exact behindH c b hb k q hk hSk
          · subst q; rw [hSj] at hSk; cases hSk
        · obtain ⟨m, h1, h2⟩ := confLt k j hk hj (conf_of (hWH k c hw) hb (.inl rfl))
          exact cl2 m k h1 h2
    · refine ver_agree (by omega) (fun k hjk hk hSk => ?_) (fun k hk hw => ?_)
      · rcases Nat.lt_or_eq_of_le hjk with q | q
        · exact behindT d (.inl hd) k q hk hSk
        · subst q; rw [hSj] at hSk; cases hSk
      · obtain ⟨x, hx, hxd⟩ := hWT k d hw
        obtain ⟨m, h1, h2⟩ := slotLt k j x o hk hx ho' (ovS_of (.inl ⟨hxd, .inl hd⟩))
        exact cl2 m k h1 h2
    · obtain ⟨x, hx, hxd⟩ := hWT j d hw
      rw [ho'] at hx
      cases hx
      exact behindT d (.inr hxd) k hjk hk hSk
    · rw [hS'] at hSk ⊢
      by_cases q : e.on = j
      · rw [if_pos q]
      · rw [if_neg q]
        by_cases r : k = j
        · subst r
          rw [ho'] at hk; cases hk
          exact hdeps e he hb
        · rw [if_neg r] at hSk
          exact hcl k o' hk hSk e he hb
end Go.Proofs.Ytdmodejpcfhbhaa
