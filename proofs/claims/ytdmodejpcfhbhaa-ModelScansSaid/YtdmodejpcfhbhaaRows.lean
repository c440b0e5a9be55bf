/-
  No cell of these rows narrows 'for every input' (looked for: loops, veiled, ifaces, maps, wideKeys, modest, calm, conditions, laid).
  DERIVED. THE GIVEN ROWS OF THIS SEAT. 12 by the template 'for every input the law returns true; each argument reads behind the call as it read before'; 0 by the template 'total and deterministic' (their statements: YtdmodejpcfhbhaaTotals.lean).
  GIVEN WITH THE SEED: the statements are not yours to turn. If you find one false, say at which input.
  Laid BY PROGRAM, IN A SANDBOX (cutbox-rows.mjs): the forced cells as the released guide's own fill.sh prints them over the translation 659d864785f1ef39… (all of the seat's roots in one cut). By AI agents, Wed Nov 11 2026. No macro, syntax, notation, axiom, sorry.
-/
import Derived.Test.YtdmodejpcfhbhaaChecked
import GoSem.Claim
import GoSem.ClaimJoined
import GoSem.ClaimMapViews
import Derived.JoinedTies
import Derived.KernelRfl
namespace Go.Proofs.Ytdmodejpcfhbhaa
/- THE CELL 'sum', in the pinned program and in every row, IS THE sha256 OF THE DUMP (.gsa) THAT YtdmodejpcfhbhaaProg.lean LOADS. Nothing in Lean hashes anything: it is a label: what it is worth is what the hold of that sum in a sandbox is worth. -/
noncomputable def Try.pinned : Pinned := { name := "ytdmodejpcfhbhaa", sum := "659d864785f1ef394d6edee40c7d3663e0d660712604d0e026f6dadf26b9c613", checked := Try.checked }
namespace Rows
def none {H : Type} : Left H := { results := [], args := [] }

/-- 'armillarylaw4.OpScripts': WHATEVER THE INPUT: true; the input reads as it did. -/
def opScriptsSpec : ChangeSpec := { name := "opScripts", fn := fun _ => fun
  | [d1, d2, d3, d4] => { results := [.lit (.bool true)], args := [d1, d2, d3, d4] }
  | _ => none }
def opScriptsRow : OpenClaim := { program := "ytdmodejpcfhbhaa", sum := "659d864785f1ef394d6edee40c7d3663e0d660712604d0e026f6dadf26b9c613", func := "armillary/armillarylaw4.OpScripts", spec := "opScripts", inPlace := ["internal/reflectlite.TypeOf"], unfollowed := true, recurses := true, plainKeys := false, apart := false }
def OpScriptsSaid : Prop := opScriptsRow.holds Try.pinned (OpenSpec.ofChange opScriptsSpec)

/-- ITS FALSE NEIGHBOUR: 'it returns false'. Refute it at one input. -/
def opScriptsWrong : ChangeSpec := { name := "opScripts", fn := fun _ => fun
  | [d1, d2, d3, d4] => { results := [.lit (.bool false)], args := [d1, d2, d3, d4] }
  | _ => none }
def OpScriptsWrongFalsely : Prop := opScriptsRow.holds Try.pinned (OpenSpec.ofChange opScriptsWrong)

/-- 'armillarylaw5.ModelDeletes': WHATEVER THE INPUT: true; the input reads as it did. -/
def modelDeletesSpec : ChangeSpec := { name := "modelDeletes", fn := fun _ => fun
  | [d1, d2, d3, d4] => { results := [.lit (.bool true)], args := [d1, d2, d3, d4] }
  | _ => none }
def modelDeletesRow : OpenClaim := { program := "ytdmodejpcfhbhaa", sum := "659d864785f1ef394d6edee40c7d3663e0d660712604d0e026f6dadf26b9c613", func := "armillary/armillarylaw5.ModelDeletes", spec := "modelDeletes", unfollowed := true, recurses := true, plainKeys := false, apart := false }
def ModelDeletesSaid : Prop := modelDeletesRow.holds Try.pinned (OpenSpec.ofChange modelDeletesSpec)

/-- ITS FALSE NEIGHBOUR: 'it returns false'. Refute it at one input. -/
def modelDeletesWrong : ChangeSpec := { name := "modelDeletes", fn := fun _ => fun
  | [d1, d2, d3, d4] => { results := [.lit (.bool false)], args := [d1, d2, d3, d4] }
  | _ => none }
def ModelDeletesWrongFalsely : Prop := modelDeletesRow.holds Try.pinned (OpenSpec.ofChange modelDeletesWrong)

/-- 'armillarylaw5.ModelPlays': WHATEVER THE INPUT: true; the input reads as it did. -/
def modelPlaysSpec : ChangeSpec := { name := "modelPlays", fn := fun _ => fun
  | [d] => { results := [.lit (.bool true)], args := [d] }
  | _ => none }
def modelPlaysRow : OpenClaim := { program := "ytdmodejpcfhbhaa", sum := "659d864785f1ef394d6edee40c7d3663e0d660712604d0e026f6dadf26b9c613", func := "armillary/armillarylaw5.ModelPlays", spec := "modelPlays", unfollowed := true, recurses := true, plainKeys := false, apart := false }
def ModelPlaysSaid : Prop := modelPlaysRow.holds Try.pinned (OpenSpec.ofChange modelPlaysSpec)

/-- ITS FALSE NEIGHBOUR: 'it returns false'. Refute it at one input. -/
def modelPlaysWrong : ChangeSpec := { name := "modelPlays", fn := fun _ => fun
  | [d] => { results := [.lit (.bool false)], args := [d] }
  | _ => none }
def ModelPlaysWrongFalsely : Prop := modelPlaysRow.holds Try.pinned (OpenSpec.ofChange modelPlaysWrong)

/-- 'armillarylaw5.ModelScans': WHATEVER THE INPUT: true; the input reads as it did. -/
def modelScansSpec : ChangeSpec := { name := "modelScans", fn := fun _ => fun
  | [d1, d2, d3, d4] => { results := [.lit (.bool true)], args := [d1, d2, d3, d4] }
  | _ => none }
def modelScansRow : OpenClaim := { program := "ytdmodejpcfhbhaa", sum := "659d864785f1ef394d6edee40c7d3663e0d660712604d0e026f6dadf26b9c613", func := "armillary/armillarylaw5.ModelScans", spec := "modelScans", unfollowed := true, recurses := true, plainKeys := false, apart := false }
def ModelScansSaid : Prop := modelScansRow.holds Try.pinned (OpenSpec.ofChange modelScansSpec)

/-- ITS FALSE NEIGHBOUR: 'it returns false'. Refute it at one input. -/
def modelScansWrong : ChangeSpec := { name := "modelScans", fn := fun _ => fun
  | [d1, d2, d3, d4] => { results := [.lit (.bool false)], args := [d1, d2, d3, d4] }
  | _ => none }
def ModelScansWrongFalsely : Prop := modelScansRow.holds Try.pinned (OpenSpec.ofChange modelScansWrong)

/-- 'armillarylaw5.ModelLast': WHATEVER THE INPUT: true; the input reads as it did. -/
def modelLastSpec : ChangeSpec := { name := "modelLast", fn := fun _ => fun
  | [d1, d2, d3] => { results := [.lit (.bool true)], args := [d1, d2, d3] }
  | _ => none }
def modelLastRow : OpenClaim := { program := "ytdmodejpcfhbhaa", sum := "659d864785f1ef394d6edee40c7d3663e0d660712604d0e026f6dadf26b9c613", func := "armillary/armillarylaw5.ModelLast", spec := "modelLast", inPlace := ["maps.clone"], unfollowed := true, recurses := true, plainKeys := false, apart := false }
def ModelLastSaid : Prop := modelLastRow.holds Try.pinned (OpenSpec.ofChange modelLastSpec)

/-- ITS FALSE NEIGHBOUR: 'it returns false'. Refute it at one input. -/
def modelLastWrong : ChangeSpec := { name := "modelLast", fn := fun _ => fun
  | [d1, d2, d3] => { results := [.lit (.bool false)], args := [d1, d2, d3] }
  | _ => none }
def ModelLastWrongFalsely : Prop := modelLastRow.holds Try.pinned (OpenSpec.ofChange modelLastWrong)

/-- 'armillarylaw5.ModelCopies': WHATEVER THE INPUT: true; the input reads as it did. -/
def modelCopiesSpec : ChangeSpec := { name := "modelCopies", fn := fun _ => fun
  | [d1, d2] => { results := [.lit (.bool true)], args := [d1, d2] }
  | _ => none }
def modelCopiesRow : OpenClaim := { program := "ytdmodejpcfhbhaa", sum := "659d864785f1ef394d6edee40c7d3663e0d660712604d0e026f6dadf26b9c613", func := "armillary/armillarylaw5.ModelCopies", spec := "modelCopies", inPlace := ["maps.clone"], unfollowed := true, recurses := true, plainKeys := false, apart := false }
def ModelCopiesSaid : Prop := modelCopiesRow.holds Try.pinned (OpenSpec.ofChange modelCopiesSpec)

/-- ITS FALSE NEIGHBOUR: 'it returns false'. Refute it at one input. -/
def modelCopiesWrong : ChangeSpec := { name := "modelCopies", fn := fun _ => fun
  | [d1, d2] => { results := [.lit (.bool false)], args := [d1, d2] }
  | _ => none }
def ModelCopiesWrongFalsely : Prop := modelCopiesRow.holds Try.pinned (OpenSpec.ofChange modelCopiesWrong)

/-- 'armillarylaw18.NeedAll': WHATEVER THE INPUT: true; the input reads as it did. -/
def needAllSpec : ChangeSpec := { name := "needAll", fn := fun _ => fun
  | [d1, d2, d3] => { results := [.lit (.bool true)], args := [d1, d2, d3] }
  | _ => none }
def needAllRow : OpenClaim := { program := "ytdmodejpcfhbhaa", sum := "659d864785f1ef394d6edee40c7d3663e0d660712604d0e026f6dadf26b9c613", func := "armillary/armillarylaw18.NeedAll", spec := "needAll", unfollowed := true, recurses := true, plainKeys := false, apart := false }
def NeedAllSaid : Prop := needAllRow.holds Try.pinned (OpenSpec.ofChange needAllSpec)

/-- ITS FALSE NEIGHBOUR: 'it returns false'. Refute it at one input. -/
def needAllWrong : ChangeSpec := { name := "needAll", fn := fun _ => fun
  | [d1, d2, d3] => { results := [.lit (.bool false)], args := [d1, d2, d3] }
  | _ => none }
def NeedAllWrongFalsely : Prop := needAllRow.holds Try.pinned (OpenSpec.ofChange needAllWrong)

/-- 'armillarylaw18.NeedAgain': WHATEVER THE INPUT: true; the input reads as it did. -/
def needAgainSpec : ChangeSpec := { name := "needAgain", fn := fun _ => fun
  | [d1, d2, d3] => { results := [.lit (.bool true)], args := [d1, d2, d3] }
  | _ => none }
def needAgainRow : OpenClaim := { program := "ytdmodejpcfhbhaa", sum := "659d864785f1ef394d6edee40c7d3663e0d660712604d0e026f6dadf26b9c613", func := "armillary/armillarylaw18.NeedAgain", spec := "needAgain", unfollowed := true, recurses := true, plainKeys := false, apart := false }
def NeedAgainSaid : Prop := needAgainRow.holds Try.pinned (OpenSpec.ofChange needAgainSpec)

/-- ITS FALSE NEIGHBOUR: 'it returns false'. Refute it at one input. -/
def needAgainWrong : ChangeSpec := { name := "needAgain", fn := fun _ => fun
  | [d1, d2, d3] => { results := [.lit (.bool false)], args := [d1, d2, d3] }
  | _ => none }
def NeedAgainWrongFalsely : Prop := needAgainRow.holds Try.pinned (OpenSpec.ofChange needAgainWrong)

/-- 'armillarylaw25.LegalTurns': WHATEVER THE INPUT: true; the input reads as it did. -/
def legalTurnsSpec : ChangeSpec := { name := "legalTurns", fn := fun _ => fun
  | [d1, d2, d3, d4, d5] => { results := [.lit (.bool true)], args := [d1, d2, d3, d4, d5] }
  | _ => none }
def legalTurnsRow : OpenClaim := { program := "ytdmodejpcfhbhaa", sum := "659d864785f1ef394d6edee40c7d3663e0d660712604d0e026f6dadf26b9c613", func := "armillary/armillarylaw25.LegalTurns", spec := "legalTurns", unfollowed := true, recurses := true, plainKeys := false, apart := false }
def LegalTurnsSaid : Prop := legalTurnsRow.holds Try.pinned (OpenSpec.ofChange legalTurnsSpec)

/-- ITS FALSE NEIGHBOUR: 'it returns false'. Refute it at one input. -/
def legalTurnsWrong : ChangeSpec := { name := "legalTurns", fn := fun _ => fun
  | [d1, d2, d3, d4, d5] => { results := [.lit (.bool false)], args := [d1, d2, d3, d4, d5] }
  | _ => none }
def LegalTurnsWrongFalsely : Prop := legalTurnsRow.holds Try.pinned (OpenSpec.ofChange legalTurnsWrong)

/-- 'armillarylaw25.LegalOpen': WHATEVER THE INPUT: true; the input reads as it did. -/
def legalOpenSpec : ChangeSpec := { name := "legalOpen", fn := fun _ => fun
  | [d1, d2, d3, d4, d5] => { results := [.lit (.bool true)], args := [d1, d2, d3, d4, d5] }
  | _ => none }
def legalOpenRow : OpenClaim := { program := "ytdmodejpcfhbhaa", sum := "659d864785f1ef394d6edee40c7d3663e0d660712604d0e026f6dadf26b9c613", func := "armillary/armillarylaw25.LegalOpen", spec := "legalOpen", unfollowed := true, recurses := true, plainKeys := false, apart := false }
def LegalOpenSaid : Prop := legalOpenRow.holds Try.pinned (OpenSpec.ofChange legalOpenSpec)

/-- ITS FALSE NEIGHBOUR: 'it returns false'. Refute it at one input. -/
def legalOpenWrong : ChangeSpec := { name := "legalOpen", fn := fun _ => fun
  | [d1, d2, d3, d4, d5] => { results := [.lit (.bool false)], args := [d1, d2, d3, d4, d5] }
  | _ => none }
def LegalOpenWrongFalsely : Prop := legalOpenRow.holds Try.pinned (OpenSpec.ofChange legalOpenWrong)

/-- 'armillarylaw25.LegalRow': WHATEVER THE INPUT: true; the input reads as it did. -/
def legalRowSpec : ChangeSpec := { name := "legalRow", fn := fun _ => fun
  | [d1, d2, d3] => { results := [.lit (.bool true)], args := [d1, d2, d3] }
  | _ => none }
def legalRowRow : OpenClaim := { program := "ytdmodejpcfhbhaa", sum := "659d864785f1ef394d6edee40c7d3663e0d660712604d0e026f6dadf26b9c613", func := "armillary/armillarylaw25.LegalRow", spec := "legalRow", unfollowed := true, recurses := true, plainKeys := false, apart := false }
def LegalRowSaid : Prop := legalRowRow.holds Try.pinned (OpenSpec.ofChange legalRowSpec)

/-- ITS FALSE NEIGHBOUR: 'it returns false'. Refute it at one input. -/
def legalRowWrong : ChangeSpec := { name := "legalRow", fn := fun _ => fun
  | [d1, d2, d3] => { results := [.lit (.bool false)], args := [d1, d2, d3] }
  | _ => none }
def LegalRowWrongFalsely : Prop := legalRowRow.holds Try.pinned (OpenSpec.ofChange legalRowWrong)

/-- 'armillarylaw7.ChainSpoilt': WHATEVER THE INPUT: true; the input reads as it did. -/
def chainSpoiltSpec : ChangeSpec := { name := "chainSpoilt", fn := fun _ => fun
  | [d1, d2, d3] => { results := [.lit (.bool true)], args := [d1, d2, d3] }
  | _ => none }
def chainSpoiltRow : OpenClaim := { program := "ytdmodejpcfhbhaa", sum := "659d864785f1ef394d6edee40c7d3663e0d660712604d0e026f6dadf26b9c613", func := "armillary/armillarylaw7.ChainSpoilt", spec := "chainSpoilt", unfollowed := true, recurses := true, plainKeys := false, apart := false }
def ChainSpoiltSaid : Prop := chainSpoiltRow.holds Try.pinned (OpenSpec.ofChange chainSpoiltSpec)

/-- ITS FALSE NEIGHBOUR: 'it returns false'. Refute it at one input. -/
def chainSpoiltWrong : ChangeSpec := { name := "chainSpoilt", fn := fun _ => fun
  | [d1, d2, d3] => { results := [.lit (.bool false)], args := [d1, d2, d3] }
  | _ => none }
def ChainSpoiltWrongFalsely : Prop := chainSpoiltRow.holds Try.pinned (OpenSpec.ofChange chainSpoiltWrong)

/- THE SECOND FORM. 'bulk': how many values and letters a reading holds, each counted each time it is reached (what is shared counts as often as it is met; a slice's spare places count too). A statement '..UptoSaid' is the law's where the arguments, and the package variables that the reading takes, are together of bulk at most 1048576: NARROWER than '..Said'. Prove '..Said' where nothing that the law and all that it calls make is longer than what came in: it says more and counts as full. Else prove '..UptoSaid'. A law counts once. -/
mutual
def uptoBulk {H : Type} : DataW H → Nat
  | .lit (.string bytes) => bytes.length + 1
  | .lit _ => 1
  | .nil => 1
  | .ptr d => uptoBulk d + 1
  | .slice elems spare => uptoBulkAll elems + uptoBulkAll spare + 1
  | .agg parts => uptoBulkAll parts + 1
  | .iface _ d => uptoBulk d + 1
  | .map entries => uptoBulkEntries entries + 1
  | .held _ => 1
def uptoBulkAll {H : Type} : List (DataW H) → Nat
  | [] => 0
  | d :: r => uptoBulk d + uptoBulkAll r
def uptoBulkEntries {H : Type} : List (Lit × DataW H) → Nat
  | [] => 0
  | x :: r => uptoBulkEntry x + uptoBulkEntries r
def uptoBulkEntry {H : Type} : Lit × DataW H → Nat
  | (.string bytes, d) => bytes.length + uptoBulk d + 1
  | (_, d) => uptoBulk d + 1
 end
def uptoSmall : (H : Type) → List (DataW H) → Bool := fun _ ds => decide (uptoBulkAll ds ≤ 1048576)
def OpenSpec.upto (s : _root_.Go.ChangeSpec) : _root_.Go.OpenSpec := { _root_.Go.OpenSpec.ofChange s with cond := some uptoSmall }

/-- 'armillarylaw4.OpScripts', WHERE WHAT IT READS IS OF BULK AT MOST 1048576: true; the input reads as it did. -/
def opScriptsUptoRow : OpenClaim := { program := "ytdmodejpcfhbhaa", sum := "659d864785f1ef394d6edee40c7d3663e0d660712604d0e026f6dadf26b9c613", func := "armillary/armillarylaw4.OpScripts", spec := "opScripts", inPlace := ["internal/reflectlite.TypeOf"], unfollowed := true, recurses := true, plainKeys := false, apart := false, narrowed := true }
def OpScriptsUptoSaid : Prop := opScriptsUptoRow.holds Try.pinned (OpenSpec.upto opScriptsSpec)

/-- 'armillarylaw5.ModelDeletes', WHERE WHAT IT READS IS OF BULK AT MOST 1048576: true; the input reads as it did. -/
def modelDeletesUptoRow : OpenClaim := { program := "ytdmodejpcfhbhaa", sum := "659d864785f1ef394d6edee40c7d3663e0d660712604d0e026f6dadf26b9c613", func := "armillary/armillarylaw5.ModelDeletes", spec := "modelDeletes", unfollowed := true, recurses := true, plainKeys := false, apart := false, narrowed := true }
def ModelDeletesUptoSaid : Prop := modelDeletesUptoRow.holds Try.pinned (OpenSpec.upto modelDeletesSpec)

/-- 'armillarylaw5.ModelPlays', WHERE WHAT IT READS IS OF BULK AT MOST 1048576: true; the input reads as it did. -/
def modelPlaysUptoRow : OpenClaim := { program := "ytdmodejpcfhbhaa", sum := "659d864785f1ef394d6edee40c7d3663e0d660712604d0e026f6dadf26b9c613", func := "armillary/armillarylaw5.ModelPlays", spec := "modelPlays", unfollowed := true, recurses := true, plainKeys := false, apart := false, narrowed := true }
def ModelPlaysUptoSaid : Prop := modelPlaysUptoRow.holds Try.pinned (OpenSpec.upto modelPlaysSpec)

/-- 'armillarylaw5.ModelScans', WHERE WHAT IT READS IS OF BULK AT MOST 1048576: true; the input reads as it did. -/
def modelScansUptoRow : OpenClaim := { program := "ytdmodejpcfhbhaa", sum := "659d864785f1ef394d6edee40c7d3663e0d660712604d0e026f6dadf26b9c613", func := "armillary/armillarylaw5.ModelScans", spec := "modelScans", unfollowed := true, recurses := true, plainKeys := false, apart := false, narrowed := true }
def ModelScansUptoSaid : Prop := modelScansUptoRow.holds Try.pinned (OpenSpec.upto modelScansSpec)

/-- 'armillarylaw5.ModelLast', WHERE WHAT IT READS IS OF BULK AT MOST 1048576: true; the input reads as it did. -/
def modelLastUptoRow : OpenClaim := { program := "ytdmodejpcfhbhaa", sum := "659d864785f1ef394d6edee40c7d3663e0d660712604d0e026f6dadf26b9c613", func := "armillary/armillarylaw5.ModelLast", spec := "modelLast", inPlace := ["maps.clone"], unfollowed := true, recurses := true, plainKeys := false, apart := false, narrowed := true }
def ModelLastUptoSaid : Prop := modelLastUptoRow.holds Try.pinned (OpenSpec.upto modelLastSpec)

/-- 'armillarylaw5.ModelCopies', WHERE WHAT IT READS IS OF BULK AT MOST 1048576: true; the input reads as it did. -/
def modelCopiesUptoRow : OpenClaim := { program := "ytdmodejpcfhbhaa", sum := "659d864785f1ef394d6edee40c7d3663e0d660712604d0e026f6dadf26b9c613", func := "armillary/armillarylaw5.ModelCopies", spec := "modelCopies", inPlace := ["maps.clone"], unfollowed := true, recurses := true, plainKeys := false, apart := false, narrowed := true }
def ModelCopiesUptoSaid : Prop := modelCopiesUptoRow.holds Try.pinned (OpenSpec.upto modelCopiesSpec)

/-- 'armillarylaw18.NeedAll', WHERE WHAT IT READS IS OF BULK AT MOST 1048576: true; the input reads as it did. -/
def needAllUptoRow : OpenClaim := { program := "ytdmodejpcfhbhaa", sum := "659d864785f1ef394d6edee40c7d3663e0d660712604d0e026f6dadf26b9c613", func := "armillary/armillarylaw18.NeedAll", spec := "needAll", unfollowed := true, recurses := true, plainKeys := false, apart := false, narrowed := true }
def NeedAllUptoSaid : Prop := needAllUptoRow.holds Try.pinned (OpenSpec.upto needAllSpec)

/-- 'armillarylaw18.NeedAgain', WHERE WHAT IT READS IS OF BULK AT MOST 1048576: true; the input reads as it did. -/
def needAgainUptoRow : OpenClaim := { program := "ytdmodejpcfhbhaa", sum := "659d864785f1ef394d6edee40c7d3663e0d660712604d0e026f6dadf26b9c613", func := "armillary/armillarylaw18.NeedAgain", spec := "needAgain", unfollowed := true, recurses := true, plainKeys := false, apart := false, narrowed := true }
def NeedAgainUptoSaid : Prop := needAgainUptoRow.holds Try.pinned (OpenSpec.upto needAgainSpec)

/-- 'armillarylaw25.LegalTurns', WHERE WHAT IT READS IS OF BULK AT MOST 1048576: true; the input reads as it did. -/
def legalTurnsUptoRow : OpenClaim := { program := "ytdmodejpcfhbhaa", sum := "659d864785f1ef394d6edee40c7d3663e0d660712604d0e026f6dadf26b9c613", func := "armillary/armillarylaw25.LegalTurns", spec := "legalTurns", unfollowed := true, recurses := true, plainKeys := false, apart := false, narrowed := true }
def LegalTurnsUptoSaid : Prop := legalTurnsUptoRow.holds Try.pinned (OpenSpec.upto legalTurnsSpec)

/-- 'armillarylaw25.LegalOpen', WHERE WHAT IT READS IS OF BULK AT MOST 1048576: true; the input reads as it did. -/
def legalOpenUptoRow : OpenClaim := { program := "ytdmodejpcfhbhaa", sum := "659d864785f1ef394d6edee40c7d3663e0d660712604d0e026f6dadf26b9c613", func := "armillary/armillarylaw25.LegalOpen", spec := "legalOpen", unfollowed := true, recurses := true, plainKeys := false, apart := false, narrowed := true }
def LegalOpenUptoSaid : Prop := legalOpenUptoRow.holds Try.pinned (OpenSpec.upto legalOpenSpec)

/-- 'armillarylaw25.LegalRow', WHERE WHAT IT READS IS OF BULK AT MOST 1048576: true; the input reads as it did. -/
def legalRowUptoRow : OpenClaim := { program := "ytdmodejpcfhbhaa", sum := "659d864785f1ef394d6edee40c7d3663e0d660712604d0e026f6dadf26b9c613", func := "armillary/armillarylaw25.LegalRow", spec := "legalRow", unfollowed := true, recurses := true, plainKeys := false, apart := false, narrowed := true }
def LegalRowUptoSaid : Prop := legalRowUptoRow.holds Try.pinned (OpenSpec.upto legalRowSpec)

/-- 'armillarylaw7.ChainSpoilt', WHERE WHAT IT READS IS OF BULK AT MOST 1048576: true; the input reads as it did. -/
def chainSpoiltUptoRow : OpenClaim := { program := "ytdmodejpcfhbhaa", sum := "659d864785f1ef394d6edee40c7d3663e0d660712604d0e026f6dadf26b9c613", func := "armillary/armillarylaw7.ChainSpoilt", spec := "chainSpoilt", unfollowed := true, recurses := true, plainKeys := false, apart := false, narrowed := true }
def ChainSpoiltUptoSaid : Prop := chainSpoiltUptoRow.holds Try.pinned (OpenSpec.upto chainSpoiltSpec)

end Rows
end Go.Proofs.Ytdmodejpcfhbhaa
