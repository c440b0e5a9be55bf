/- The library's functions at maps and slices of whole numbers, told. -/
import Derived.Test.YtdmodejpcfhbhaaSxT
import Derived.Shelf.SlIterI.Keys
import Derived.Shelf.SlIterI.Sorted
import Derived.Shelf.SlIterI.Collect
import Derived.Shelf.SortM.Plain
import Derived.Shelf.SortM.SortNone
import Derived.Shelf.SlMaps.Clone
import Derived.Shelf.SlicesG.CompactI
namespace Go.Proofs.Ytdmodejpcfhbhaa
open Go.RowKit Go.Maps Go.Sort
variable {W : World}

def lyKeysA_ren : Go.Shelf.Ren := ⟨fun | 7 => 72 | 10 => 100 | n => n, fun | 23 => 106 | 26 => 3 | 3 => 3 | 28 => 111 | 0 => 0 | 27 => 110 | 33 => 102 | 4 => 4 | n => n, fun | n => n⟩
theorem lyKeysA : Go.Proofs.SlLaysZI.n7 Try.prog lyKeysA_ren := {
  mixed := by kernel_rfl,
  f7 := ⟨Try.f72.name, by decide, Try.func72.trans (congrArg some (by kernel_rfl))⟩,
  f10 := ⟨Try.f100.name, by decide, Try.func100.trans (congrArg some (by kernel_rfl))⟩,
  t0 := Try.underlying0,
  a0 := Try.isAgg0,
  z0 := Try.sizeOf0,
  v0 := Try.zeroValue0,
  t4 := Try.underlying4,
  a4 := Try.isAgg4,
  z4 := Try.sizeOf4,
  v4 := Try.zeroValue4,
  t23 := Try.underlying106,
  a23 := Try.isAgg106,
  z23 := Try.sizeOf106,
  v23 := Try.zeroValue106,
  t26 := Try.underlying3,
  a26 := Try.isAgg3,
  z26 := Try.sizeOf3,
  v26 := Try.zeroValue3,
  t27 := Try.underlying110,
  a27 := Try.isAgg110,
  z27 := Try.sizeOf110,
  v27 := Try.zeroValue110,
  t28 := Try.underlying111,
  a28 := Try.isAgg111,
  z28 := Try.sizeOf111,
  v28 := Try.zeroValue111,
  t33 := Try.underlying102,
  a33 := Try.isAgg102,
  z33 := Try.sizeOf102,
  v33 := Try.zeroValue102 }
def lyKeysB_ren : Go.Shelf.Ren := ⟨fun | 7 => 90 | 10 => 119 | n => n, fun | 23 => 147 | 26 => 3 | 3 => 146 | 28 => 111 | 0 => 0 | 27 => 110 | 33 => 102 | 4 => 4 | n => n, fun | n => n⟩
theorem lyKeysB : Go.Proofs.SlLaysZI.n7 Try.prog lyKeysB_ren := {
  mixed := by kernel_rfl,
  f7 := ⟨Try.f90.name, by decide, Try.func90.trans (congrArg some (by kernel_rfl))⟩,
  f10 := ⟨Try.f119.name, by decide, Try.func119.trans (congrArg some (by kernel_rfl))⟩,
  t0 := Try.underlying0,
  a0 := Try.isAgg0,
  z0 := Try.sizeOf0,
  v0 := Try.zeroValue0,
  t4 := Try.underlying4,
  a4 := Try.isAgg4,
  z4 := Try.sizeOf4,
  v4 := Try.zeroValue4,
  t23 := Try.underlying147,
  a23 := Try.isAgg147,
  z23 := Try.sizeOf147,
  v23 := Try.zeroValue147,
  t26 := Try.underlying3,
  a26 := Try.isAgg3,
  z26 := Try.sizeOf3,
  v26 := Try.zeroValue3,
  t27 := Try.underlying110,
  a27 := Try.isAgg110,
  z27 := Try.sizeOf110,
  v27 := Try.zeroValue110,
  t28 := Try.underlying111,
  a28 := Try.isAgg111,
  z28 := Try.sizeOf111,
  v28 := Try.zeroValue111,
  t33 := Try.underlying102,
  a33 := Try.isAgg102,
  z33 := Try.sizeOf102,
  v33 := Try.zeroValue102 }
def lySorted_ren : Go.Shelf.Ren := ⟨fun | 6 => 71 | 8 => 99 | 9 => 81 | 11 => 121 | 13 => 113 | 12 => 112 | 23 => 138 | 24 => 139 | 14 => 129 | 15 => 130 | 16 => 131 | 17 => 132 | 18 => 133 | 19 => 134 | 20 => 135 | 21 => 136 | 22 => 137 | 25 => 145 | 26 => 146 | 27 => 147 | 28 => 148 | 29 => 149 | 30 => 150 | 31 => 152 | n => n, fun | 26 => 3 | 28 => 111 | 24 => 23 | 0 => 0 | 3 => 3 | 37 => 121 | 48 => 186 | 50 => 196 | 4 => 4 | 40 => 189 | 39 => 188 | 45 => 45 | 5 => 5 | 9 => 9 | 51 => 208 | 55 => 200 | 57 => 213 | 58 => 95 | 33 => 102 | n => n, fun | n => n⟩
theorem lySorted : Go.Proofs.SlLaysZI.n6 Try.prog lySorted_ren := {
  mixed := by kernel_rfl,
  f6 := ⟨Try.f71.name, by decide, Try.func71.trans (congrArg some (by kernel_rfl))⟩,
  f8 := ⟨Try.f99.name, by decide, Try.func99.trans (congrArg some (by kernel_rfl))⟩,
  f11 := ⟨Try.f121.name, by decide, Try.func121.trans (congrArg some (by kernel_rfl))⟩,
  t0 := Try.underlying0,
  a0 := Try.isAgg0,
  z0 := Try.sizeOf0,
  v0 := Try.zeroValue0,
  t24 := Try.underlying23,
  a24 := Try.isAgg23,
  z24 := Try.sizeOf23,
  v24 := Try.zeroValue23,
  t26 := Try.underlying3,
  a26 := Try.isAgg3,
  z26 := Try.sizeOf3,
  v26 := Try.zeroValue3,
  t28 := Try.underlying111,
  a28 := Try.isAgg111,
  z28 := Try.sizeOf111,
  v28 := Try.zeroValue111,
  i26 := by kernel_rfl }
def lySort_ren : Go.Shelf.Ren := ⟨fun | 5 => 81 | 8 => 113 | 7 => 112 | 19 => 138 | 20 => 139 | 10 => 129 | 11 => 130 | 12 => 131 | 13 => 132 | 14 => 133 | 15 => 134 | 16 => 135 | 17 => 136 | 18 => 137 | 30 => 145 | 31 => 146 | 32 => 147 | 33 => 148 | 34 => 149 | 35 => 150 | 40 => 152 | n => n, fun | 23 => 23 | 25 => 3 | 3 => 3 | 32 => 121 | 22 => 23 | 0 => 0 | 44 => 186 | 46 => 196 | 4 => 4 | 36 => 189 | 35 => 188 | 41 => 45 | 5 => 5 | 9 => 9 | 53 => 208 | 57 => 200 | 63 => 213 | 64 => 95 | n => n, fun | n => n⟩
theorem lySort : Go.Proofs.SlLaysM.n5 Try.prog lySort_ren := {
  mixed := by kernel_rfl,
  f5 := ⟨Try.f81.name, by decide, Try.func81.trans (congrArg some (by kernel_rfl))⟩,
  f7 := ⟨Try.f112.name, by decide, Try.func112.trans (congrArg some (by kernel_rfl))⟩,
  f8 := Try.func113.trans (congrArg some (by kernel_rfl)),
  f10 := ⟨Try.f129.name, by decide, Try.func129.trans (congrArg some (by kernel_rfl))⟩,
  f11 := ⟨Try.f130.name, by decide, Try.func130.trans (congrArg some (by kernel_rfl))⟩,
  f12 := ⟨Try.f131.name, by decide, Try.func131.trans (congrArg some (by kernel_rfl))⟩,
  f13 := ⟨Try.f132.name, by decide, Try.func132.trans (congrArg some (by kernel_rfl))⟩,
  f14 := ⟨Try.f133.name, by decide, Try.func133.trans (congrArg some (by kernel_rfl))⟩,
  f15 := ⟨Try.f134.name, by decide, Try.func134.trans (congrArg some (by kernel_rfl))⟩,
  f16 := ⟨Try.f135.name, by decide, Try.func135.trans (congrArg some (by kernel_rfl))⟩,
  f17 := ⟨Try.f136.name, by decide, Try.func136.trans (congrArg some (by kernel_rfl))⟩,
  f18 := ⟨Try.f137.name, by decide, Try.func137.trans (congrArg some (by kernel_rfl))⟩,
  f19 := Try.func138.trans (congrArg some (by kernel_rfl)),
  f20 := Try.func139.trans (congrArg some (by kernel_rfl)),
  f30 := ⟨Try.f145.name, by decide, Try.func145.trans (congrArg some (by kernel_rfl))⟩,
  f31 := Try.func146.trans (congrArg some (by kernel_rfl)),
  f32 := Try.func147.trans (congrArg some (by kernel_rfl)),
  f33 := ⟨Try.f148.name, by decide, Try.func148.trans (congrArg some (by kernel_rfl))⟩,
  f34 := ⟨Try.f149.name, by decide, Try.func149.trans (congrArg some (by kernel_rfl))⟩,
  f35 := ⟨Try.f150.name, by decide, Try.func150.trans (congrArg some (by kernel_rfl))⟩,
  f40 := ⟨Try.f152.name, by decide, Try.func152.trans (congrArg some (by kernel_rfl))⟩,
  t0 := Try.underlying0,
  a0 := Try.isAgg0,
  z0 := Try.sizeOf0,
  v0 := Try.zeroValue0,
  t3 := Try.underlying3,
  a3 := Try.isAgg3,
  z3 := Try.sizeOf3,
  v3 := Try.zeroValue3,
  t4 := Try.underlying4,
  a4 := Try.isAgg4,
  z4 := Try.sizeOf4,
  v4 := Try.zeroValue4,
  t5 := Try.underlying5,
  a5 := Try.isAgg5,
  z5 := Try.sizeOf5,
  v5 := Try.zeroValue5,
  t9 := Try.underlying9,
  a9 := Try.isAgg9,
  z9 := Try.sizeOf9,
  v9 := Try.zeroValue9,
  t22 := Try.underlying23,
  a22 := Try.isAgg23,
  z22 := Try.sizeOf23,
  v22 := Try.zeroValue23,
  t23 := Try.underlying23,
  a23 := Try.isAgg23,
  z23 := Try.sizeOf23,
  v23 := Try.zeroValue23,
  t25 := Try.underlying3,
  a25 := Try.isAgg3,
  z25 := Try.sizeOf3,
  v25 := Try.zeroValue3,
  t32 := Try.underlying121,
  a32 := Try.isAgg121,
  z32 := Try.sizeOf121,
  v32 := Try.zeroValue121,
  t35 := Try.underlying188,
  a35 := Try.isAgg188,
  z35 := Try.sizeOf188,
  v35 := Try.zeroValue188,
  t36 := Try.underlying189,
  a36 := Try.isAgg189,
  z36 := Try.sizeOf189,
  v36 := Try.zeroValue189,
  t41 := Try.underlying45,
  a41 := Try.isAgg45,
  z41 := Try.sizeOf45,
  v41 := Try.zeroValue45,
  t44 := Try.underlying186,
  a44 := Try.isAgg186,
  z44 := Try.sizeOf186,
  v44 := Try.zeroValue186,
  t46 := Try.underlying196,
  a46 := Try.isAgg196,
  z46 := Try.sizeOf196,
  v46 := Try.zeroValue196,
  t53 := Try.underlying208,
  a53 := Try.isAgg208,
  z53 := Try.sizeOf208,
  v53 := Try.zeroValue208,
  t57 := Try.underlying200,
  a57 := Try.isAgg200,
  z57 := Try.sizeOf200,
  v57 := Try.zeroValue200,
  t63 := Try.underlying213,
  a63 := Try.isAgg213,
  z63 := Try.sizeOf213,
  v63 := Try.zeroValue213,
  t64 := Try.underlying95,
  a64 := Try.isAgg95,
  z64 := Try.sizeOf95,
  v64 := Try.zeroValue95 }
def lyClone_ren : Go.Shelf.Ren := ⟨fun | 5 => 74 | 7 => 101 | n => n, fun | 23 => 106 | 25 => 3 | 3 => 3 | 4 => 4 | 20 => 20 | n => n, fun | n => n⟩
theorem lyClone : Go.Proofs.SlLaysW.n5 Try.prog lyClone_ren := {
  mixed := by kernel_rfl,
  f5 := ⟨Try.f74.name, by decide, Try.func74.trans (congrArg some (by kernel_rfl))⟩,
  f7 := Try.func101.trans (congrArg some (by kernel_rfl)),
  t4 := Try.underlying4,
  a4 := Try.isAgg4,
  z4 := Try.sizeOf4,
  v4 := Try.zeroValue4,
  t20 := Try.underlying20,
  a20 := Try.isAgg20,
  z20 := Try.sizeOf20,
  v20 := Try.zeroValue20,
  t23 := Try.underlying106,
  a23 := Try.isAgg106,
  z23 := Try.sizeOf106,
  v23 := Try.zeroValue106 }
def lyCompact_ren : Go.Shelf.Ren := ⟨fun | 43 => 82 | n => n, fun | 22 => 23 | 23 => 3 | 3 => 3 | 4 => 4 | 0 => 0 | n => n, fun | n => n⟩
theorem lyCompact : Go.Proofs.SlLaysN.n43 Try.prog lyCompact_ren := {
  mixed := by kernel_rfl,
  f43 := ⟨Try.f82.name, by decide, Try.func82.trans (congrArg some (by kernel_rfl))⟩,
  t0 := Try.underlying0,
  a0 := Try.isAgg0,
  z0 := Try.sizeOf0,
  v0 := Try.zeroValue0,
  t3 := Try.underlying3,
  a3 := Try.isAgg3,
  z3 := Try.sizeOf3,
  v3 := Try.zeroValue3,
  t4 := Try.underlying4,
  a4 := Try.isAgg4,
  z4 := Try.sizeOf4,
  v4 := Try.zeroValue4,
  t22 := Try.underlying23,
  a22 := Try.isAgg23,
  z22 := Try.sizeOf23,
  v22 := Try.zeroValue23,
  t23 := Try.underlying3,
  a23 := Try.isAgg3,
  z23 := Try.sizeOf3,
  v23 := Try.zeroValue3,
  i23 := by kernel_rfl }

abbrev intT : TypeId := 3
theorem hk3 : Try.prog.underlying intT = some (.int .i64) := Try.underlying3
theorem sortsIn (m : Nat) : AnyZI.SortsIn Try.prog lySorted_ren Fence.wide m :=
  ⟨fun blk off cap ss W hH hblk hsz => callsIn_wide.2 (AnyM.slices_Sort_int lySort blk off cap ss W hH hblk hsz), fun p cap W => callsIn_wide.2 (AnyM.slices_Sort_int_none lySort p cap W)⟩

/-- maps.Keys: a function over a new block that holds the map. -/
def dKeysOf (g : FuncId) (T : TypeId) : DetT
  | [.map (some i)], H => some (.func (.func g) ⟨[]⟩ ⟨[.pointer (some ⟨H.length, 0, none⟩)]⟩, H ++ [some (true, .cells [.map (some i)] T)])
  | _, _ => none
theorem keysOf_fwp {f g : FuncId} {T : TypeId} (hgo : ∀ xs w, (callFunc f xs).run Try.prog w = .ok (.enter f xs) w) (hc : ∀ (mb : Option Nat) (w : World), Calls Try.prog f #[.map mb] w fun e w' => e = .returned (.func (.func g) #[] #[.pointer (some ⟨w.heap.size, 0, none⟩)]) ∧ w' = w.alloc (.cells #[.map mb] T))
    {args : List Value} {H H' : HX} {v : Value} (h : dKeysOf g T args H = some (v, H')) : FWP Try.prog (means W) f args H fun a b => a = v ∧ b = H' := by
  unfold dKeysOf at h
  split at h <;> try (cases h; done)
  rename_i i
  cases h
  refine ⟨hgo, fun w0 w L h ρ args' hn ha => ?_⟩
  cases ha with
  | cons h0 h1 =>
    cases h1
    obtain ⟨hl, rfl⟩ := h0.map_eq
    refine (hc (some (ρ.b i).1) w).mono fun e w' ⟨he, hw⟩ => ?_
    subst hw
    obtain ⟨ρ', h', n1, n2, n3⟩ := hn.alloc [.map (some i)] [.map (some (ρ.b i).1)] T (.cons (.map hl) .nil)
    refine ⟨_, _, _, ρ', h', he, ⟨rfl, rfl⟩, by simpa using n1, n2, .func .nil (.cons ?_ .nil)⟩
    rw [← n3]
    exact .ptr (.inr ⟨Nat.le_refl _, by simp⟩)
theorem ok_keysA {args : List Value} {H H' : HX} {v : Value} (h : dKeysOf 100 106 args H = some (v, H')) : FWP Try.prog (means W) 72 args H fun a b => a = v ∧ b = H' :=
  keysOf_fwp (callFunc_go Try.func72 rfl (by kernel_rfl)) (fun mb w => (callsIn_wide (n := 5)).1 (AnyZI.keys_in lyKeysA Fence.wide 5 trivial rfl mb w)) h
theorem ok_keysB {args : List Value} {H H' : HX} {v : Value} (h : dKeysOf 119 147 args H = some (v, H')) : FWP Try.prog (means W) 90 args H fun a b => a = v ∧ b = H' :=
  keysOf_fwp (callFunc_go Try.func90 rfl (by kernel_rfl)) (fun mb w => (callsIn_wide (n := 5)).1 (AnyZI.keys_in lyKeysB Fence.wide 5 trivial rfl mb w)) h

/-- slices.Sorted of what maps.Keys gave. -/
def sortedRet (c : Mc) (H : HX) : DT Ext :=
  .ite (keysF c.room c.has).isEmpty (.ret (.slice none 0 0) H)
    (.ret (.slice (some ⟨H.length, 0, some 0⟩) (keysF c.room c.has).length 0) (H ++ [some (true, .ext (.row intT 1 (keysF c.room c.has).length (.ints .i64 fun q => (keysF c.room c.has).getD q 0)))]))
def dSorted : DetD
  | [.func (.func g) ⟨[]⟩ ⟨[.pointer (some ⟨j, 0, none⟩)]⟩], H => (match nth H j with
    | some (_, .cells [.map (some i)] _) => (match nth H i with
      | some (_, .ext (.im c _)) => (match Nat.beq g 100 || Nat.beq g 119 with
        | true => sortedRet c H
        | false => .no)
      | _ => .no)
    | _ => .no)
  | _, _ => .no
theorem keysF_len (room : Nat) (g : Int → Bool) : (keysF room g).length ≤ room := by
  unfold keysF
  rw [List.length_map]
  exact Nat.le_trans (List.length_filter_le _ _) (by simp)
theorem sizeD (es : Array MapEntry) : Maps.size (.map ((es.toList.map (WideElems.rg Try.prog intT tokR)).foldr DataW.insert []) : DataW Value) = es.size := by
  show ((es.toList.map (WideElems.rg Try.prog intT tokR)).foldr DataW.insert []).length = _
  rw [(WideShapes.sorted_perm _).length_eq]; simp
theorem sorted_fwp {g : FuncId} {H : HX} {i j : Nat} {p q : Bool} {T : TypeId} {c : Mc} {τ : Tk} (hj : nth H j = some (p, .cells [.map (some i)] T)) (hi : nth H i = some (q, .ext (.im c τ))) (hent : ∀ args w, (callFunc g args).run Try.prog w = .ok (.enter g args) w)
    (hg : ∀ (Bm b nn : Nat) (D0 : DataW Value) (w : World), Bm < w.heap.size → w.cell? ⟨Bm, 0, none⟩ = some (.map (some b)) → w.ownsMap Try.prog intT tokR b nn D0 → SeqGives Fence.wide 2 Try.prog g #[.pointer (some ⟨Bm, 0, none⟩)] encZ (fun ss => ss.Perm (intKeys D0)) (Maps.size D0) w)
    {v : Value} {H' : HX} (h : (sortedRet c H).out = some (v, H')) : FWP Try.prog (means W) 71 [.func (.func g) ⟨[]⟩ ⟨[.pointer (some ⟨j, 0, none⟩)]⟩] H fun a b => a = v ∧ b = H' := by
  refine ⟨callFunc_go Try.func71 rfl (by kernel_rfl), fun w0 w L hh ρ args' hn ha => ?_⟩
  cases ha with
  | cons h0 h1 =>
    cases h1
    obtain ⟨f', c', rfl, hf, hc⟩ := h0.func_eq
    cases hf
    cases hc with
    | cons hp hc =>
      cases hc
      obtain ⟨hl, rfl⟩ := hp.ptr_eq
      obtain ⟨hje, cs', hb1, hb2⟩ := hn.sat.obj j p _ hj
      cases hb2 with
      | cons hm0 hb2 =>
        cases hb2
        obtain ⟨hli, rfl⟩ := hm0.map_eq
        obtain ⟨hie, es, clock, hb, hm⟩ := hn.sat.obj i q _ hi
        have hown := hm.owns c.room_le hk3 (hn.mem.blk _ _ hb)
        have hseq := hg (ρ.b j).1 (ρ.b i).1 es.size _ w (hn.mem.lt hb1) ((hn.mem.cell hb1 0).trans rfl) hown
        have hsz : es.size ≤ 1000000 := Nat.le_trans hm.size c.room_le
        have cS := AnyZI.sorted_in lySorted Fence.wide 5 trivial trivial trivial trivial rfl (by omega) (sortsIn _) (enters_of Try.func81 (by kernel_rfl) rfl) g #[.pointer (some ⟨(ρ.b j).1, 0, none⟩)] trivial hent _ _ (by rw [sizeD]; unfold maxLen; omega) (by rw [sizeD]; omega) w hseq
        refine ((callsIn_wide (n := 5)).1 cS).mono fun e w' => ?_
        rintro ⟨u, ss, rfl, hperm, hrow, hnil, hbel⟩
        have hsort := hm.sorted (P := Try.prog) c.room_le hk3 hperm
        have hfun : (fun a => (c.get a).isSome) = c.has := funext c.has_eq
        rw [hfun] at hsort
        have hlen : ss.length = (keysF c.room c.has).length := by rw [← hsort, List.length_mergeSort]
        unfold sortedRet at h
        simp only [DT.out] at h
        have hm' : Mem w0 hh w' := hn.mem.grown hbel
        split at h
        · rename_i hemp
          cases h
          have : ss = [] := List.eq_nil_of_length_eq_zero (by rw [hlen]; simpa using hemp)
          have hu := hnil.2 this
          subst hu
          exact ⟨_, _, H, ρ, hh, rfl, ⟨rfl, rfl⟩, (hn.grow hm').lu, Tr.refl _ _ _, .plain rfl⟩
        · rename_i hemp
          cases h
          rw [hsort, hlen] at hrow
          rcases hrow.2 with ⟨rfl, hz⟩ | ⟨gb, cap, cur, rfl, hbase, hgb, r1, r2, r3, r4⟩
          · have hz' : (keysF c.room c.has).length = 0 := hz
            rw [List.length_eq_zero_iff.1 hz'] at hemp
            cases hemp
          · have hnone : hh gb = none := hn.mem.fresh hbase
            have hm2 : Mem w0 (upd hh gb (.cells cur intT)) w' := hm'.addO hgb (Nat.le_trans hn.mem.below.size hbase)
            obtain ⟨ρ', n1, n2, n3⟩ := hn.made (b := (gb, cap)) (es := [gb]) (x := .row intT 1 (keysF c.room c.has).length (.ints .i64 fun q => (keysF c.room c.has).getD q 0)) hm2
              ⟨rfl, cur, upd_same _ _ _, r3, r1, r2, fun k hk => by
                rw [Nat.mul_one] at hk
                have e1 : (cur.toList.take (keysF c.room c.has).length)[k]? = ((keysF c.room c.has).map encZ)[k]? := by
                  have := r4
                  simp only [Nat.mul_one] at this
                  rw [this]
                rw [List.getElem?_take_of_lt hk, Array.getElem?_toList] at e1
                rw [e1, List.getElem?_map, List.getElem?_eq_getElem hk]
                simp only [Option.map_some, Rw.get]
                rw [List.getD_eq_getElem?_getD, List.getElem?_eq_getElem hk]; rfl⟩
              (fun k hk => by simp only [List.mem_singleton] at hk; rw [hk]; exact hnone) (fun k hk => upd_other _ _ (by simpa using hk))
            refine ⟨_, _, _, ρ', _, rfl, ⟨rfl, rfl⟩, by simpa using n1, n2, ?_⟩
            have := VR.row (L := LU L H.length (H.length + 1)) (ρ := ρ'.b) (i := H.length) (o := 0) (k := 0) (l := (keysF c.room c.has).length) (.inr ⟨Nat.le_refl _, by omega⟩)
            rw [n3] at this
            simpa using this
theorem ok_Sorted {args : List Value} {H H' : HX} {v : Value} (h : (dSorted args H).out = some (v, H')) : FWP Try.prog (means W) 71 args H fun a b => a = v ∧ b = H' := by
  unfold dSorted at h
  split at h <;> try (cases h; done)
  split at h <;> try (cases h; done)
  rename_i hj
  split at h <;> try (cases h; done)
  rename_i hi
  split at h <;> try (cases h; done)
  rename_i hb
  rw [Bool.or_eq_true] at hb
  rcases hb with hb | hb
  · rw [Nat.eq_of_beq_eq_true hb] at *
    exact sorted_fwp hj hi (enters_of Try.func100 (by kernel_rfl) rfl) (fun Bm b nn D0 w h1 h2 h3 => AnyZI.keys_gives (ρ := lyKeysA_ren) { lyKeysA with } Fence.wide _ trivial rfl (by omega) Bm b nn D0 w h1 h2 h3) h
  · rw [Nat.eq_of_beq_eq_true hb] at *
    exact sorted_fwp hj hi (enters_of Try.func119 (by kernel_rfl) rfl) (fun Bm b nn D0 w h1 h2 h3 => AnyZI.keys_gives (ρ := lyKeysB_ren) { lyKeysB with } Fence.wide _ trivial rfl (by omega) Bm b nn D0 w h1 h2 h3) h

/-- maps.Clone. -/
def dClone : DetT
  | [.map (some i)], H => (match nth H i with
    | some (_, .ext (.im c τ)) => some (.map (some H.length), H ++ [some (true, .ext (.im c τ))])
    | _ => none)
  | _, _ => none
theorem ok_Clone {args : List Value} {H H' : HX} {v : Value} (h : dClone args H = some (v, H')) : FWP Try.prog (means W) 74 args H fun a b => a = v ∧ b = H' := by
  unfold dClone at h
  split at h <;> try (cases h; done)
  rename_i i
  split at h <;> try (cases h; done)
  rename_i p c τ hi
  cases h
  refine ⟨callFunc_go Try.func74 rfl (by kernel_rfl), fun w0 w L hh ρ args' hn ha => ?_⟩
  cases ha with
  | cons h0 h1 =>
    cases h1
    obtain ⟨hl, rfl⟩ := h0.map_eq
    obtain ⟨hie, es, clock, hb, hm⟩ := hn.sat.obj i p _ hi
    refine (AnyW.maps_Clone lyClone (ρ.b i).1 es clock w (hn.mem.blk _ _ hb)).mono fun e w' ⟨he, hw⟩ => ?_
    subst hw
    have hfr := hn.mem.fresh (Nat.le_refl w.heap.size)
    obtain ⟨ρ', n1, n2, n3⟩ := hn.made (b := (w.heap.size, 0)) (es := [w.heap.size]) (x := .im c τ) (hn.mem.keepO (.map es clock)) ⟨rfl, es, clock, upd_same _ _ _, hm⟩
      (fun k hk => by simp only [List.mem_singleton] at hk; rw [hk]; exact hfr) (fun k hk => upd_other _ _ (by simpa using hk))
    refine ⟨_, _, _, ρ', _, he, ⟨rfl, rfl⟩, by simpa using n1, n2, ?_⟩
    have := VR.map (L := LU L H.length (H.length + 1)) (ρ := ρ'.b) (i := H.length) (.inr ⟨Nat.le_refl _, by omega⟩)
    rw [n3] at this
    simpa using this
end Go.Proofs.Ytdmodejpcfhbhaa
