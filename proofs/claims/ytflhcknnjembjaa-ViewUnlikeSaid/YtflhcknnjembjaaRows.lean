/-
  No cell of these rows narrows 'for every input' (looked for: loops, veiled, ifaces, maps, wideKeys, modest, calm, conditions, laid).
  DERIVED. THE GIVEN ROWS OF THIS SEAT. 11 by the template 'for every input the law returns true; each argument reads behind the call as it read before'; 0 by the template 'total and deterministic' (their statements: YtflhcknnjembjaaTotals.lean).
  GIVEN WITH THE SEED: the statements are not yours to turn. If you find one false, say at which input.
  Laid BY PROGRAM, IN A SANDBOX (cutbox-rows.mjs): the forced cells as the released guide's own fill.sh prints them over the translation 2385afba25845a63… (all of the seat's roots in one cut). By AI agents, Wed Nov 11 2026. No macro, syntax, notation, axiom, sorry.
-/
import Derived.Test.YtflhcknnjembjaaChecked
import GoSem.Claim
import GoSem.ClaimJoined
import GoSem.ClaimMapViews
import Derived.JoinedTies
import Derived.KernelRfl
namespace Go.Proofs.Ytflhcknnjembjaa
/- THE CELL 'sum', in the pinned program and in every row, IS THE sha256 OF THE DUMP (.gsa) THAT YtflhcknnjembjaaProg.lean LOADS. Nothing in Lean hashes anything: it is a label: what it is worth is what the hold of that sum in a sandbox is worth. -/
noncomputable def Try.pinned : Pinned := { name := "ytflhcknnjembjaa", sum := "2385afba25845a63a0826ab1cf4e834cdd54f7007844190c7855f062730f5097", checked := Try.checked }
namespace Rows
def none {H : Type} : Left H := { results := [], args := [] }

/-- 'armillarylaw20.SpliceRow': WHATEVER THE INPUT: true; the input reads as it did. -/
def spliceRowSpec : ChangeSpec := { name := "spliceRow", fn := fun _ => fun
  | [d1, d2, d3, d4] => { results := [.lit (.bool true)], args := [d1, d2, d3, d4] }
  | _ => none }
def spliceRowRow : OpenClaim := { program := "ytflhcknnjembjaa", sum := "2385afba25845a63a0826ab1cf4e834cdd54f7007844190c7855f062730f5097", func := "armillary/armillarylaw20.SpliceRow", spec := "spliceRow", unfollowed := true, recurses := true, apart := false }
def SpliceRowSaid : Prop := spliceRowRow.holds Try.pinned (OpenSpec.ofChange spliceRowSpec)

/-- ITS FALSE NEIGHBOUR: 'it returns false'. Refute it at one input. -/
def spliceRowWrong : ChangeSpec := { name := "spliceRow", fn := fun _ => fun
  | [d1, d2, d3, d4] => { results := [.lit (.bool false)], args := [d1, d2, d3, d4] }
  | _ => none }
def SpliceRowWrongFalsely : Prop := spliceRowRow.holds Try.pinned (OpenSpec.ofChange spliceRowWrong)

/-- 'armillarylaw20.SpliceLate': WHATEVER THE INPUT: true; the input reads as it did. -/
def spliceLateSpec : ChangeSpec := { name := "spliceLate", fn := fun _ => fun
  | [d1, d2, d3] => { results := [.lit (.bool true)], args := [d1, d2, d3] }
  | _ => none }
def spliceLateRow : OpenClaim := { program := "ytflhcknnjembjaa", sum := "2385afba25845a63a0826ab1cf4e834cdd54f7007844190c7855f062730f5097", func := "armillary/armillarylaw20.SpliceLate", spec := "spliceLate", unfollowed := true, recurses := true, apart := false }
def SpliceLateSaid : Prop := spliceLateRow.holds Try.pinned (OpenSpec.ofChange spliceLateSpec)

/-- ITS FALSE NEIGHBOUR: 'it returns false'. Refute it at one input. -/
def spliceLateWrong : ChangeSpec := { name := "spliceLate", fn := fun _ => fun
  | [d1, d2, d3] => { results := [.lit (.bool false)], args := [d1, d2, d3] }
  | _ => none }
def SpliceLateWrongFalsely : Prop := spliceLateRow.holds Try.pinned (OpenSpec.ofChange spliceLateWrong)

/-- 'armillarylaw16.LeadTwo': WHATEVER THE INPUT: true; the input reads as it did. -/
def leadTwoSpec : ChangeSpec := { name := "leadTwo", fn := fun _ => fun
  | [d1, d2, d3, d4] => { results := [.lit (.bool true)], args := [d1, d2, d3, d4] }
  | _ => none }
def leadTwoRow : OpenClaim := { program := "ytflhcknnjembjaa", sum := "2385afba25845a63a0826ab1cf4e834cdd54f7007844190c7855f062730f5097", func := "armillary/armillarylaw16.LeadTwo", spec := "leadTwo", unfollowed := true, recurses := true, apart := false }
def LeadTwoSaid : Prop := leadTwoRow.holds Try.pinned (OpenSpec.ofChange leadTwoSpec)

/-- ITS FALSE NEIGHBOUR: 'it returns false'. Refute it at one input. -/
def leadTwoWrong : ChangeSpec := { name := "leadTwo", fn := fun _ => fun
  | [d1, d2, d3, d4] => { results := [.lit (.bool false)], args := [d1, d2, d3, d4] }
  | _ => none }
def LeadTwoWrongFalsely : Prop := leadTwoRow.holds Try.pinned (OpenSpec.ofChange leadTwoWrong)

/-- 'armillarylaw6.ViewItems': WHATEVER THE INPUT: true; the input reads as it did. -/
def viewItemsSpec : ChangeSpec := { name := "viewItems", fn := fun _ => fun
  | [d1, d2] => { results := [.lit (.bool true)], args := [d1, d2] }
  | _ => none }
def viewItemsRow : OpenClaim := { program := "ytflhcknnjembjaa", sum := "2385afba25845a63a0826ab1cf4e834cdd54f7007844190c7855f062730f5097", func := "armillary/armillarylaw6.ViewItems", spec := "viewItems", inPlace := ["internal/reflectlite.TypeOf"], unfollowed := true, recurses := true, apart := false }
def ViewItemsSaid : Prop := viewItemsRow.holds Try.pinned (OpenSpec.ofChange viewItemsSpec)

/-- ITS FALSE NEIGHBOUR: 'it returns false'. Refute it at one input. -/
def viewItemsWrong : ChangeSpec := { name := "viewItems", fn := fun _ => fun
  | [d1, d2] => { results := [.lit (.bool false)], args := [d1, d2] }
  | _ => none }
def ViewItemsWrongFalsely : Prop := viewItemsRow.holds Try.pinned (OpenSpec.ofChange viewItemsWrong)

/-- 'armillarylaw6.ViewUnlike': WHATEVER THE INPUT: true; the input reads as it did. -/
def viewUnlikeSpec : ChangeSpec := { name := "viewUnlike", fn := fun _ => fun
  | [d1, d2, d3] => { results := [.lit (.bool true)], args := [d1, d2, d3] }
  | _ => none }
def viewUnlikeRow : OpenClaim := { program := "ytflhcknnjembjaa", sum := "2385afba25845a63a0826ab1cf4e834cdd54f7007844190c7855f062730f5097", func := "armillary/armillarylaw6.ViewUnlike", spec := "viewUnlike", inPlace := ["internal/reflectlite.TypeOf"], unfollowed := true, recurses := true, apart := false }
def ViewUnlikeSaid : Prop := viewUnlikeRow.holds Try.pinned (OpenSpec.ofChange viewUnlikeSpec)

/-- ITS FALSE NEIGHBOUR: 'it returns false'. Refute it at one input. -/
def viewUnlikeWrong : ChangeSpec := { name := "viewUnlike", fn := fun _ => fun
  | [d1, d2, d3] => { results := [.lit (.bool false)], args := [d1, d2, d3] }
  | _ => none }
def ViewUnlikeWrongFalsely : Prop := viewUnlikeRow.holds Try.pinned (OpenSpec.ofChange viewUnlikeWrong)

/-- 'armillarylaw5.ModelDeletes': WHATEVER THE INPUT: true; the input reads as it did. -/
def modelDeletesSpec : ChangeSpec := { name := "modelDeletes", fn := fun _ => fun
  | [d1, d2, d3, d4] => { results := [.lit (.bool true)], args := [d1, d2, d3, d4] }
  | _ => none }
def modelDeletesRow : OpenClaim := { program := "ytflhcknnjembjaa", sum := "2385afba25845a63a0826ab1cf4e834cdd54f7007844190c7855f062730f5097", func := "armillary/armillarylaw5.ModelDeletes", spec := "modelDeletes", unfollowed := true, recurses := true, apart := false }
def ModelDeletesSaid : Prop := modelDeletesRow.holds Try.pinned (OpenSpec.ofChange modelDeletesSpec)

/-- ITS FALSE NEIGHBOUR: 'it returns false'. Refute it at one input. -/
def modelDeletesWrong : ChangeSpec := { name := "modelDeletes", fn := fun _ => fun
  | [d1, d2, d3, d4] => { results := [.lit (.bool false)], args := [d1, d2, d3, d4] }
  | _ => none }
def ModelDeletesWrongFalsely : Prop := modelDeletesRow.holds Try.pinned (OpenSpec.ofChange modelDeletesWrong)

/-- 'armillarylaw18.NeedAll': WHATEVER THE INPUT: true; the input reads as it did. -/
def needAllSpec : ChangeSpec := { name := "needAll", fn := fun _ => fun
  | [d1, d2, d3] => { results := [.lit (.bool true)], args := [d1, d2, d3] }
  | _ => none }
def needAllRow : OpenClaim := { program := "ytflhcknnjembjaa", sum := "2385afba25845a63a0826ab1cf4e834cdd54f7007844190c7855f062730f5097", func := "armillary/armillarylaw18.NeedAll", spec := "needAll", unfollowed := true, recurses := true, apart := false }
def NeedAllSaid : Prop := needAllRow.holds Try.pinned (OpenSpec.ofChange needAllSpec)

/-- ITS FALSE NEIGHBOUR: 'it returns false'. Refute it at one input. -/
def needAllWrong : ChangeSpec := { name := "needAll", fn := fun _ => fun
  | [d1, d2, d3] => { results := [.lit (.bool false)], args := [d1, d2, d3] }
  | _ => none }
def NeedAllWrongFalsely : Prop := needAllRow.holds Try.pinned (OpenSpec.ofChange needAllWrong)

/-- 'armillarylaw18.NeedAgain': WHATEVER THE INPUT: true; the input reads as it did. -/
def needAgainSpec : ChangeSpec := { name := "needAgain", fn := fun _ => fun
  | [d1, d2, d3] => { results := [.lit (.bool true)], args := [d1, d2, d3] }
  | _ => none }
def needAgainRow : OpenClaim := { program := "ytflhcknnjembjaa", sum := "2385afba25845a63a0826ab1cf4e834cdd54f7007844190c7855f062730f5097", func := "armillary/armillarylaw18.NeedAgain", spec := "needAgain", unfollowed := true, recurses := true, apart := false }
def NeedAgainSaid : Prop := needAgainRow.holds Try.pinned (OpenSpec.ofChange needAgainSpec)

/-- ITS FALSE NEIGHBOUR: 'it returns false'. Refute it at one input. -/
def needAgainWrong : ChangeSpec := { name := "needAgain", fn := fun _ => fun
  | [d1, d2, d3] => { results := [.lit (.bool false)], args := [d1, d2, d3] }
  | _ => none }
def NeedAgainWrongFalsely : Prop := needAgainRow.holds Try.pinned (OpenSpec.ofChange needAgainWrong)

/-- 'armillarylaw25.LegalTurns': WHATEVER THE INPUT: true; the input reads as it did. -/
def legalTurnsSpec : ChangeSpec := { name := "legalTurns", fn := fun _ => fun
  | [d1, d2, d3, d4, d5] => { results := [.lit (.bool true)], args := [d1, d2, d3, d4, d5] }
  | _ => none }
def legalTurnsRow : OpenClaim := { program := "ytflhcknnjembjaa", sum := "2385afba25845a63a0826ab1cf4e834cdd54f7007844190c7855f062730f5097", func := "armillary/armillarylaw25.LegalTurns", spec := "legalTurns", unfollowed := true, recurses := true, apart := false }
def LegalTurnsSaid : Prop := legalTurnsRow.holds Try.pinned (OpenSpec.ofChange legalTurnsSpec)

/-- ITS FALSE NEIGHBOUR: 'it returns false'. Refute it at one input. -/
def legalTurnsWrong : ChangeSpec := { name := "legalTurns", fn := fun _ => fun
  | [d1, d2, d3, d4, d5] => { results := [.lit (.bool false)], args := [d1, d2, d3, d4, d5] }
  | _ => none }
def LegalTurnsWrongFalsely : Prop := legalTurnsRow.holds Try.pinned (OpenSpec.ofChange legalTurnsWrong)

/-- 'armillarylaw25.LegalOpen': WHATEVER THE INPUT: true; the input reads as it did. -/
def legalOpenSpec : ChangeSpec := { name := "legalOpen", fn := fun _ => fun
  | [d1, d2, d3, d4, d5] => { results := [.lit (.bool true)], args := [d1, d2, d3, d4, d5] }
  | _ => none }
def legalOpenRow : OpenClaim := { program := "ytflhcknnjembjaa", sum := "2385afba25845a63a0826ab1cf4e834cdd54f7007844190c7855f062730f5097", func := "armillary/armillarylaw25.LegalOpen", spec := "legalOpen", unfollowed := true, recurses := true, apart := false }
def LegalOpenSaid : Prop := legalOpenRow.holds Try.pinned (OpenSpec.ofChange legalOpenSpec)

/-- ITS FALSE NEIGHBOUR: 'it returns false'. Refute it at one input. -/
def legalOpenWrong : ChangeSpec := { name := "legalOpen", fn := fun _ => fun
  | [d1, d2, d3, d4, d5] => { results := [.lit (.bool false)], args := [d1, d2, d3, d4, d5] }
  | _ => none }
def LegalOpenWrongFalsely : Prop := legalOpenRow.holds Try.pinned (OpenSpec.ofChange legalOpenWrong)

/-- 'armillarylaw7.ChainSpoilt': WHATEVER THE INPUT: true; the input reads as it did. -/
def chainSpoiltSpec : ChangeSpec := { name := "chainSpoilt", fn := fun _ => fun
  | [d1, d2, d3] => { results := [.lit (.bool true)], args := [d1, d2, d3] }
  | _ => none }
def chainSpoiltRow : OpenClaim := { program := "ytflhcknnjembjaa", sum := "2385afba25845a63a0826ab1cf4e834cdd54f7007844190c7855f062730f5097", func := "armillary/armillarylaw7.ChainSpoilt", spec := "chainSpoilt", unfollowed := true, recurses := true, apart := false }
def ChainSpoiltSaid : Prop := chainSpoiltRow.holds Try.pinned (OpenSpec.ofChange chainSpoiltSpec)

/-- ITS FALSE NEIGHBOUR: 'it returns false'. Refute it at one input. -/
def chainSpoiltWrong : ChangeSpec := { name := "chainSpoilt", fn := fun _ => fun
  | [d1, d2, d3] => { results := [.lit (.bool false)], args := [d1, d2, d3] }
  | _ => none }
def ChainSpoiltWrongFalsely : Prop := chainSpoiltRow.holds Try.pinned (OpenSpec.ofChange chainSpoiltWrong)

/- THE SECOND FORM. 'bulk': how many values and letters a reading holds, each counted each time it is reached (what is shared counts as often as it is met; a slice's spare places count too). A statement '..UptoSaid' is the law's where the arguments, and the package variables that the reading takes, are together of bulk at most 1048576: NARROWER than '..Said'. Prove '..Said' where nothing that the law and all that it calls make is longer than what came in: it says more and counts as full. Else prove '..UptoSaid'. A law counts once. -/
mutual
def uptoBulk {H : Type} : DataW H → Nat
  | .lit (.string bytes) => bytes.length + 1
  | .lit _ => 1
  | .nil => 1
  | .ptr d => uptoBulk d + 1
  | .slice elems spare => uptoBulkAll elems + uptoBulkAll spare + 1
  | .agg parts => uptoBulkAll parts + 1
  | .iface _ d => uptoBulk d + 1
  | .map entries => uptoBulkEntries entries + 1
  | .held _ => 1
def uptoBulkAll {H : Type} : List (DataW H) → Nat
  | [] => 0
  | d :: r => uptoBulk d + uptoBulkAll r
def uptoBulkEntries {H : Type} : List (Lit × DataW H) → Nat
  | [] => 0
  | x :: r => uptoBulkEntry x + uptoBulkEntries r
def uptoBulkEntry {H : Type} : Lit × DataW H → Nat
  | (.string bytes, d) => bytes.length + uptoBulk d + 1
  | (_, d) => uptoBulk d + 1
 end
def uptoSmall : (H : Type) → List (DataW H) → Bool := fun _ ds => decide (uptoBulkAll ds ≤ 1048576)
def OpenSpec.upto (s : _root_.Go.ChangeSpec) : _root_.Go.OpenSpec := { _root_.Go.OpenSpec.ofChange s with cond := some uptoSmall }

/-- 'armillarylaw20.SpliceRow', WHERE WHAT IT READS IS OF BULK AT MOST 1048576: true; the input reads as it did. -/
def spliceRowUptoRow : OpenClaim := { program := "ytflhcknnjembjaa", sum := "2385afba25845a63a0826ab1cf4e834cdd54f7007844190c7855f062730f5097", func := "armillary/armillarylaw20.SpliceRow", spec := "spliceRow", unfollowed := true, recurses := true, apart := false, narrowed := true }
def SpliceRowUptoSaid : Prop := spliceRowUptoRow.holds Try.pinned (OpenSpec.upto spliceRowSpec)

/-- 'armillarylaw20.SpliceLate', WHERE WHAT IT READS IS OF BULK AT MOST 1048576: true; the input reads as it did. -/
def spliceLateUptoRow : OpenClaim := { program := "ytflhcknnjembjaa", sum := "2385afba25845a63a0826ab1cf4e834cdd54f7007844190c7855f062730f5097", func := "armillary/armillarylaw20.SpliceLate", spec := "spliceLate", unfollowed := true, recurses := true, apart := false, narrowed := true }
def SpliceLateUptoSaid : Prop := spliceLateUptoRow.holds Try.pinned (OpenSpec.upto spliceLateSpec)

/-- 'armillarylaw16.LeadTwo', WHERE WHAT IT READS IS OF BULK AT MOST 1048576: true; the input reads as it did. -/
def leadTwoUptoRow : OpenClaim := { program := "ytflhcknnjembjaa", sum := "2385afba25845a63a0826ab1cf4e834cdd54f7007844190c7855f062730f5097", func := "armillary/armillarylaw16.LeadTwo", spec := "leadTwo", unfollowed := true, recurses := true, apart := false, narrowed := true }
def LeadTwoUptoSaid : Prop := leadTwoUptoRow.holds Try.pinned (OpenSpec.upto leadTwoSpec)

/-- 'armillarylaw6.ViewItems', WHERE WHAT IT READS IS OF BULK AT MOST 1048576: true; the input reads as it did. -/
def viewItemsUptoRow : OpenClaim := { program := "ytflhcknnjembjaa", sum := "2385afba25845a63a0826ab1cf4e834cdd54f7007844190c7855f062730f5097", func := "armillary/armillarylaw6.ViewItems", spec := "viewItems", inPlace := ["internal/reflectlite.TypeOf"], unfollowed := true, recurses := true, apart := false, narrowed := true }
def ViewItemsUptoSaid : Prop := viewItemsUptoRow.holds Try.pinned (OpenSpec.upto viewItemsSpec)

/-- 'armillarylaw6.ViewUnlike', WHERE WHAT IT READS IS OF BULK AT MOST 1048576: true; the input reads as it did. -/
def viewUnlikeUptoRow : OpenClaim := { program := "ytflhcknnjembjaa", sum := "2385afba25845a63a0826ab1cf4e834cdd54f7007844190c7855f062730f5097", func := "armillary/armillarylaw6.ViewUnlike", spec := "viewUnlike", inPlace := ["internal/reflectlite.TypeOf"], unfollowed := true, recurses := true, apart := false, narrowed := true }
def ViewUnlikeUptoSaid : Prop := viewUnlikeUptoRow.holds Try.pinned (OpenSpec.upto viewUnlikeSpec)

/-- 'armillarylaw5.ModelDeletes', WHERE WHAT IT READS IS OF BULK AT MOST 1048576: true; the input reads as it did. -/
def modelDeletesUptoRow : OpenClaim := { program := "ytflhcknnjembjaa", sum := "2385afba25845a63a0826ab1cf4e834cdd54f7007844190c7855f062730f5097", func := "armillary/armillarylaw5.ModelDeletes", spec := "modelDeletes", unfollowed := true, recurses := true, apart := false, narrowed := true }
def ModelDeletesUptoSaid : Prop := modelDeletesUptoRow.holds Try.pinned (OpenSpec.upto modelDeletesSpec)

/-- 'armillarylaw18.NeedAll', WHERE WHAT IT READS IS OF BULK AT MOST 1048576: true; the input reads as it did. -/
def needAllUptoRow : OpenClaim := { program := "ytflhcknnjembjaa", sum := "2385afba25845a63a0826ab1cf4e834cdd54f7007844190c7855f062730f5097", func := "armillary/armillarylaw18.NeedAll", spec := "needAll", unfollowed := true, recurses := true, apart := false, narrowed := true }
def NeedAllUptoSaid : Prop := needAllUptoRow.holds Try.pinned (OpenSpec.upto needAllSpec)

/-- 'armillarylaw18.NeedAgain', WHERE WHAT IT READS IS OF BULK AT MOST 1048576: true; the input reads as it did. -/
def needAgainUptoRow : OpenClaim := { program := "ytflhcknnjembjaa", sum := "2385afba25845a63a0826ab1cf4e834cdd54f7007844190c7855f062730f5097", func := "armillary/armillarylaw18.NeedAgain", spec := "needAgain", unfollowed := true, recurses := true, apart := false, narrowed := true }
def NeedAgainUptoSaid : Prop := needAgainUptoRow.holds Try.pinned (OpenSpec.upto needAgainSpec)

/-- 'armillarylaw25.LegalTurns', WHERE WHAT IT READS IS OF BULK AT MOST 1048576: true; the input reads as it did. -/
def legalTurnsUptoRow : OpenClaim := { program := "ytflhcknnjembjaa", sum := "2385afba25845a63a0826ab1cf4e834cdd54f7007844190c7855f062730f5097", func := "armillary/armillarylaw25.LegalTurns", spec := "legalTurns", unfollowed := true, recurses := true, apart := false, narrowed := true }
def LegalTurnsUptoSaid : Prop := legalTurnsUptoRow.holds Try.pinned (OpenSpec.upto legalTurnsSpec)

/-- 'armillarylaw25.LegalOpen', WHERE WHAT IT READS IS OF BULK AT MOST 1048576: true; the input reads as it did. -/
def legalOpenUptoRow : OpenClaim := { program := "ytflhcknnjembjaa", sum := "2385afba25845a63a0826ab1cf4e834cdd54f7007844190c7855f062730f5097", func := "armillary/armillarylaw25.LegalOpen", spec := "legalOpen", unfollowed := true, recurses := true, apart := false, narrowed := true }
def LegalOpenUptoSaid : Prop := legalOpenUptoRow.holds Try.pinned (OpenSpec.upto legalOpenSpec)

/-- 'armillarylaw7.ChainSpoilt', WHERE WHAT IT READS IS OF BULK AT MOST 1048576: true; the input reads as it did. -/
def chainSpoiltUptoRow : OpenClaim := { program := "ytflhcknnjembjaa", sum := "2385afba25845a63a0826ab1cf4e834cdd54f7007844190c7855f062730f5097", func := "armillary/armillarylaw7.ChainSpoilt", spec := "chainSpoilt", unfollowed := true, recurses := true, apart := false, narrowed := true }
def ChainSpoiltUptoSaid : Prop := chainSpoiltUptoRow.holds Try.pinned (OpenSpec.upto chainSpoiltSpec)

end Rows
end Go.Proofs.Ytflhcknnjembjaa
