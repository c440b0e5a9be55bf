/-
  No cell of these rows narrows 'for every input' (looked for: loops, veiled, ifaces, maps, wideKeys, modest, calm, conditions, laid).
  DERIVED. THE GIVEN ROWS OF THIS SEAT. 10 by the template 'for every input the law returns true; each argument reads behind the call as it read before'; 0 by the template 'total and deterministic' (their statements: YtakbnbmbiaejiaaTotals.lean).
  GIVEN WITH THE SEED: the statements are not yours to turn. If you find one false, say at which input.
  Laid BY PROGRAM, IN A SANDBOX (cutbox-rows.mjs): the forced cells as the released guide's own fill.sh prints them over the translation 25585e1e8a52d386… (all of the seat's roots in one cut). By AI agents, Wed Nov 11 2026. No macro, syntax, notation, axiom, sorry.
-/
import Derived.Test.YtakbnbmbiaejiaaChecked
import GoSem.Claim
import GoSem.ClaimJoined
import GoSem.ClaimMapViews
import Derived.JoinedTies
import Derived.KernelRfl
namespace Go.Proofs.Ytakbnbmbiaejiaa
/- THE CELL 'sum', in the pinned program and in every row, IS THE sha256 OF THE DUMP (.gsa) THAT YtakbnbmbiaejiaaProg.lean LOADS. Nothing in Lean hashes anything: it is a label: what it is worth is what the hold of that sum in a sandbox is worth. -/
noncomputable def Try.pinned : Pinned := { name := "ytakbnbmbiaejiaa", sum := "25585e1e8a52d386a64fecbac72997c5025208b09f8537fc99625c954b4de460", checked := Try.checked }
namespace Rows
def none {H : Type} : Left H := { results := [], args := [] }

/-- 'armillarylaw17.SealAgainst': WHATEVER THE INPUT: true; the input reads as it did. -/
def sealAgainstSpec : ChangeSpec := { name := "sealAgainst", fn := fun _ => fun
  | [d1, d2, d3, d4] => { results := [.lit (.bool true)], args := [d1, d2, d3, d4] }
  | _ => none }
def sealAgainstRow : OpenClaim := { program := "ytakbnbmbiaejiaa", sum := "25585e1e8a52d386a64fecbac72997c5025208b09f8537fc99625c954b4de460", func := "armillary/armillarylaw17.SealAgainst", spec := "sealAgainst", unfollowed := true, recurses := true, plainKeys := false, apart := false }
def SealAgainstSaid : Prop := sealAgainstRow.holds Try.pinned (OpenSpec.ofChange sealAgainstSpec)

/-- ITS FALSE NEIGHBOUR: 'it returns false'. Refute it at one input. -/
def sealAgainstWrong : ChangeSpec := { name := "sealAgainst", fn := fun _ => fun
  | [d1, d2, d3, d4] => { results := [.lit (.bool false)], args := [d1, d2, d3, d4] }
  | _ => none }
def SealAgainstWrongFalsely : Prop := sealAgainstRow.holds Try.pinned (OpenSpec.ofChange sealAgainstWrong)

/-- 'armillarylaw15.CellDies': WHATEVER THE INPUT: true; the input reads as it did. -/
def cellDiesSpec : ChangeSpec := { name := "cellDies", fn := fun _ => fun
  | [d1, d2, d3] => { results := [.lit (.bool true)], args := [d1, d2, d3] }
  | _ => none }
def cellDiesRow : OpenClaim := { program := "ytakbnbmbiaejiaa", sum := "25585e1e8a52d386a64fecbac72997c5025208b09f8537fc99625c954b4de460", func := "armillary/armillarylaw15.CellDies", spec := "cellDies", unfollowed := true, recurses := true, plainKeys := false, apart := false }
def CellDiesSaid : Prop := cellDiesRow.holds Try.pinned (OpenSpec.ofChange cellDiesSpec)

/-- ITS FALSE NEIGHBOUR: 'it returns false'. Refute it at one input. -/
def cellDiesWrong : ChangeSpec := { name := "cellDies", fn := fun _ => fun
  | [d1, d2, d3] => { results := [.lit (.bool false)], args := [d1, d2, d3] }
  | _ => none }
def CellDiesWrongFalsely : Prop := cellDiesRow.holds Try.pinned (OpenSpec.ofChange cellDiesWrong)

/-- 'armillarylaw15.CellFull': WHATEVER THE INPUT: true; the input reads as it did. -/
def cellFullSpec : ChangeSpec := { name := "cellFull", fn := fun _ => fun
  | [d1, d2] => { results := [.lit (.bool true)], args := [d1, d2] }
  | _ => none }
def cellFullRow : OpenClaim := { program := "ytakbnbmbiaejiaa", sum := "25585e1e8a52d386a64fecbac72997c5025208b09f8537fc99625c954b4de460", func := "armillary/armillarylaw15.CellFull", spec := "cellFull", unfollowed := true, recurses := true, plainKeys := false, apart := false }
def CellFullSaid : Prop := cellFullRow.holds Try.pinned (OpenSpec.ofChange cellFullSpec)

/-- ITS FALSE NEIGHBOUR: 'it returns false'. Refute it at one input. -/
def cellFullWrong : ChangeSpec := { name := "cellFull", fn := fun _ => fun
  | [d1, d2] => { results := [.lit (.bool false)], args := [d1, d2] }
  | _ => none }
def CellFullWrongFalsely : Prop := cellFullRow.holds Try.pinned (OpenSpec.ofChange cellFullWrong)

/-- 'armillarylaw15.CellApart': WHATEVER THE INPUT: true; the input reads as it did. -/
def cellApartSpec : ChangeSpec := { name := "cellApart", fn := fun _ => fun
  | [d1, d2, d3] => { results := [.lit (.bool true)], args := [d1, d2, d3] }
  | _ => none }
def cellApartRow : OpenClaim := { program := "ytakbnbmbiaejiaa", sum := "25585e1e8a52d386a64fecbac72997c5025208b09f8537fc99625c954b4de460", func := "armillary/armillarylaw15.CellApart", spec := "cellApart", unfollowed := true, recurses := true, plainKeys := false, apart := false }
def CellApartSaid : Prop := cellApartRow.holds Try.pinned (OpenSpec.ofChange cellApartSpec)

/-- ITS FALSE NEIGHBOUR: 'it returns false'. Refute it at one input. -/
def cellApartWrong : ChangeSpec := { name := "cellApart", fn := fun _ => fun
  | [d1, d2, d3] => { results := [.lit (.bool false)], args := [d1, d2, d3] }
  | _ => none }
def CellApartWrongFalsely : Prop := cellApartRow.holds Try.pinned (OpenSpec.ofChange cellApartWrong)

/-- 'armillarylaw4.OpNumbers': WHATEVER THE INPUT: true; the input reads as it did. -/
def opNumbersSpec : ChangeSpec := { name := "opNumbers", fn := fun _ => fun
  | [d1, d2, d3, d4] => { results := [.lit (.bool true)], args := [d1, d2, d3, d4] }
  | _ => none }
def opNumbersRow : OpenClaim := { program := "ytakbnbmbiaejiaa", sum := "25585e1e8a52d386a64fecbac72997c5025208b09f8537fc99625c954b4de460", func := "armillary/armillarylaw4.OpNumbers", spec := "opNumbers", inPlace := ["internal/reflectlite.TypeOf"], unfollowed := true, recurses := true, plainKeys := false, apart := false }
def OpNumbersSaid : Prop := opNumbersRow.holds Try.pinned (OpenSpec.ofChange opNumbersSpec)

/-- ITS FALSE NEIGHBOUR: 'it returns false'. Refute it at one input. -/
def opNumbersWrong : ChangeSpec := { name := "opNumbers", fn := fun _ => fun
  | [d1, d2, d3, d4] => { results := [.lit (.bool false)], args := [d1, d2, d3, d4] }
  | _ => none }
def OpNumbersWrongFalsely : Prop := opNumbersRow.holds Try.pinned (OpenSpec.ofChange opNumbersWrong)

/-- 'armillarylaw4.OpLimits': WHATEVER THE INPUT: true; the input reads as it did. -/
def opLimitsSpec : ChangeSpec := { name := "opLimits", fn := fun _ => fun
  | [d1, d2] => { results := [.lit (.bool true)], args := [d1, d2] }
  | _ => none }
def opLimitsRow : OpenClaim := { program := "ytakbnbmbiaejiaa", sum := "25585e1e8a52d386a64fecbac72997c5025208b09f8537fc99625c954b4de460", func := "armillary/armillarylaw4.OpLimits", spec := "opLimits", inPlace := ["internal/reflectlite.TypeOf"], unfollowed := true, recurses := true, plainKeys := false, apart := false }
def OpLimitsSaid : Prop := opLimitsRow.holds Try.pinned (OpenSpec.ofChange opLimitsSpec)

/-- ITS FALSE NEIGHBOUR: 'it returns false'. Refute it at one input. -/
def opLimitsWrong : ChangeSpec := { name := "opLimits", fn := fun _ => fun
  | [d1, d2] => { results := [.lit (.bool false)], args := [d1, d2] }
  | _ => none }
def OpLimitsWrongFalsely : Prop := opLimitsRow.holds Try.pinned (OpenSpec.ofChange opLimitsWrong)

/-- 'armillarylaw4.OpFields': WHATEVER THE INPUT: true; the input reads as it did. -/
def opFieldsSpec : ChangeSpec := { name := "opFields", fn := fun _ => fun
  | [d1, d2, d3, d4, d5] => { results := [.lit (.bool true)], args := [d1, d2, d3, d4, d5] }
  | _ => none }
def opFieldsRow : OpenClaim := { program := "ytakbnbmbiaejiaa", sum := "25585e1e8a52d386a64fecbac72997c5025208b09f8537fc99625c954b4de460", func := "armillary/armillarylaw4.OpFields", spec := "opFields", inPlace := ["internal/reflectlite.TypeOf"], unfollowed := true, recurses := true, plainKeys := false, apart := false }
def OpFieldsSaid : Prop := opFieldsRow.holds Try.pinned (OpenSpec.ofChange opFieldsSpec)

/-- ITS FALSE NEIGHBOUR: 'it returns false'. Refute it at one input. -/
def opFieldsWrong : ChangeSpec := { name := "opFields", fn := fun _ => fun
  | [d1, d2, d3, d4, d5] => { results := [.lit (.bool false)], args := [d1, d2, d3, d4, d5] }
  | _ => none }
def OpFieldsWrongFalsely : Prop := opFieldsRow.holds Try.pinned (OpenSpec.ofChange opFieldsWrong)

/-- 'armillarylaw4.OpScripts': WHATEVER THE INPUT: true; the input reads as it did. -/
def opScriptsSpec : ChangeSpec := { name := "opScripts", fn := fun _ => fun
  | [d1, d2, d3, d4] => { results := [.lit (.bool true)], args := [d1, d2, d3, d4] }
  | _ => none }
def opScriptsRow : OpenClaim := { program := "ytakbnbmbiaejiaa", sum := "25585e1e8a52d386a64fecbac72997c5025208b09f8537fc99625c954b4de460", func := "armillary/armillarylaw4.OpScripts", spec := "opScripts", inPlace := ["internal/reflectlite.TypeOf"], unfollowed := true, recurses := true, plainKeys := false, apart := false }
def OpScriptsSaid : Prop := opScriptsRow.holds Try.pinned (OpenSpec.ofChange opScriptsSpec)

/-- ITS FALSE NEIGHBOUR: 'it returns false'. Refute it at one input. -/
def opScriptsWrong : ChangeSpec := { name := "opScripts", fn := fun _ => fun
  | [d1, d2, d3, d4] => { results := [.lit (.bool false)], args := [d1, d2, d3, d4] }
  | _ => none }
def OpScriptsWrongFalsely : Prop := opScriptsRow.holds Try.pinned (OpenSpec.ofChange opScriptsWrong)

/-- 'armillarylaw13.ClaimRises': WHATEVER THE INPUT: true; the input reads as it did. -/
def claimRisesSpec : ChangeSpec := { name := "claimRises", fn := fun _ => fun
  | [d1, d2] => { results := [.lit (.bool true)], args := [d1, d2] }
  | _ => none }
def claimRisesRow : OpenClaim := { program := "ytakbnbmbiaejiaa", sum := "25585e1e8a52d386a64fecbac72997c5025208b09f8537fc99625c954b4de460", func := "armillary/armillarylaw13.ClaimRises", spec := "claimRises", inPlace := ["internal/reflectlite.TypeOf"], unfollowed := true, recurses := true, plainKeys := false, apart := false }
def ClaimRisesSaid : Prop := claimRisesRow.holds Try.pinned (OpenSpec.ofChange claimRisesSpec)

/-- ITS FALSE NEIGHBOUR: 'it returns false'. Refute it at one input. -/
def claimRisesWrong : ChangeSpec := { name := "claimRises", fn := fun _ => fun
  | [d1, d2] => { results := [.lit (.bool false)], args := [d1, d2] }
  | _ => none }
def ClaimRisesWrongFalsely : Prop := claimRisesRow.holds Try.pinned (OpenSpec.ofChange claimRisesWrong)

/-- 'armillarylaw13.ClaimEnds': WHATEVER THE INPUT: true; the input reads as it did. -/
def claimEndsSpec : ChangeSpec := { name := "claimEnds", fn := fun _ => fun
  | [d1, d2] => { results := [.lit (.bool true)], args := [d1, d2] }
  | _ => none }
def claimEndsRow : OpenClaim := { program := "ytakbnbmbiaejiaa", sum := "25585e1e8a52d386a64fecbac72997c5025208b09f8537fc99625c954b4de460", func := "armillary/armillarylaw13.ClaimEnds", spec := "claimEnds", inPlace := ["internal/reflectlite.TypeOf"], unfollowed := true, recurses := true, plainKeys := false, apart := false }
def ClaimEndsSaid : Prop := claimEndsRow.holds Try.pinned (OpenSpec.ofChange claimEndsSpec)

/-- ITS FALSE NEIGHBOUR: 'it returns false'. Refute it at one input. -/
def claimEndsWrong : ChangeSpec := { name := "claimEnds", fn := fun _ => fun
  | [d1, d2] => { results := [.lit (.bool false)], args := [d1, d2] }
  | _ => none }
def ClaimEndsWrongFalsely : Prop := claimEndsRow.holds Try.pinned (OpenSpec.ofChange claimEndsWrong)

/- THE SECOND FORM. 'bulk': how many values and letters a reading holds, each counted each time it is reached (what is shared counts as often as it is met; a slice's spare places count too). A statement '..UptoSaid' is the law's where the arguments, and the package variables that the reading takes, are together of bulk at most 1048576: NARROWER than '..Said'. Prove '..Said' where nothing that the law and all that it calls make is longer than what came in: it says more and counts as full. Else prove '..UptoSaid'. A law counts once. -/
mutual
def uptoBulk {H : Type} : DataW H → Nat
  | .lit (.string bytes) => bytes.length + 1
  | .lit _ => 1
  | .nil => 1
  | .ptr d => uptoBulk d + 1
  | .slice elems spare => uptoBulkAll elems + uptoBulkAll spare + 1
  | .agg parts => uptoBulkAll parts + 1
  | .iface _ d => uptoBulk d + 1
  | .map entries => uptoBulkEntries entries + 1
  | .held _ => 1
def uptoBulkAll {H : Type} : List (DataW H) → Nat
  | [] => 0
  | d :: r => uptoBulk d + uptoBulkAll r
def uptoBulkEntries {H : Type} : List (Lit × DataW H) → Nat
  | [] => 0
  | x :: r => uptoBulkEntry x + uptoBulkEntries r
def uptoBulkEntry {H : Type} : Lit × DataW H → Nat
  | (.string bytes, d) => bytes.length + uptoBulk d + 1
  | (_, d) => uptoBulk d + 1
 end
def uptoSmall : (H : Type) → List (DataW H) → Bool := fun _ ds => decide (uptoBulkAll ds ≤ 1048576)
def OpenSpec.upto (s : _root_.Go.ChangeSpec) : _root_.Go.OpenSpec := { _root_.Go.OpenSpec.ofChange s with cond := some uptoSmall }

/-- 'armillarylaw17.SealAgainst', WHERE WHAT IT READS IS OF BULK AT MOST 1048576: true; the input reads as it did. -/
def sealAgainstUptoRow : OpenClaim := { program := "ytakbnbmbiaejiaa", sum := "25585e1e8a52d386a64fecbac72997c5025208b09f8537fc99625c954b4de460", func := "armillary/armillarylaw17.SealAgainst", spec := "sealAgainst", unfollowed := true, recurses := true, plainKeys := false, apart := false, narrowed := true }
def SealAgainstUptoSaid : Prop := sealAgainstUptoRow.holds Try.pinned (OpenSpec.upto sealAgainstSpec)

/-- 'armillarylaw15.CellDies', WHERE WHAT IT READS IS OF BULK AT MOST 1048576: true; the input reads as it did. -/
def cellDiesUptoRow : OpenClaim := { program := "ytakbnbmbiaejiaa", sum := "25585e1e8a52d386a64fecbac72997c5025208b09f8537fc99625c954b4de460", func := "armillary/armillarylaw15.CellDies", spec := "cellDies", unfollowed := true, recurses := true, plainKeys := false, apart := false, narrowed := true }
def CellDiesUptoSaid : Prop := cellDiesUptoRow.holds Try.pinned (OpenSpec.upto cellDiesSpec)

/-- 'armillarylaw15.CellFull', WHERE WHAT IT READS IS OF BULK AT MOST 1048576: true; the input reads as it did. -/
def cellFullUptoRow : OpenClaim := { program := "ytakbnbmbiaejiaa", sum := "25585e1e8a52d386a64fecbac72997c5025208b09f8537fc99625c954b4de460", func := "armillary/armillarylaw15.CellFull", spec := "cellFull", unfollowed := true, recurses := true, plainKeys := false, apart := false, narrowed := true }
def CellFullUptoSaid : Prop := cellFullUptoRow.holds Try.pinned (OpenSpec.upto cellFullSpec)

/-- 'armillarylaw15.CellApart', WHERE WHAT IT READS IS OF BULK AT MOST 1048576: true; the input reads as it did. -/
def cellApartUptoRow : OpenClaim := { program := "ytakbnbmbiaejiaa", sum := "25585e1e8a52d386a64fecbac72997c5025208b09f8537fc99625c954b4de460", func := "armillary/armillarylaw15.CellApart", spec := "cellApart", unfollowed := true, recurses := true, plainKeys := false, apart := false, narrowed := true }
def CellApartUptoSaid : Prop := cellApartUptoRow.holds Try.pinned (OpenSpec.upto cellApartSpec)

/-- 'armillarylaw4.OpNumbers', WHERE WHAT IT READS IS OF BULK AT MOST 1048576: true; the input reads as it did. -/
def opNumbersUptoRow : OpenClaim := { program := "ytakbnbmbiaejiaa", sum := "25585e1e8a52d386a64fecbac72997c5025208b09f8537fc99625c954b4de460", func := "armillary/armillarylaw4.OpNumbers", spec := "opNumbers", inPlace := ["internal/reflectlite.TypeOf"], unfollowed := true, recurses := true, plainKeys := false, apart := false, narrowed := true }
def OpNumbersUptoSaid : Prop := opNumbersUptoRow.holds Try.pinned (OpenSpec.upto opNumbersSpec)

/-- 'armillarylaw4.OpLimits', WHERE WHAT IT READS IS OF BULK AT MOST 1048576: true; the input reads as it did. -/
def opLimitsUptoRow : OpenClaim := { program := "ytakbnbmbiaejiaa", sum := "25585e1e8a52d386a64fecbac72997c5025208b09f8537fc99625c954b4de460", func := "armillary/armillarylaw4.OpLimits", spec := "opLimits", inPlace := ["internal/reflectlite.TypeOf"], unfollowed := true, recurses := true, plainKeys := false, apart := false, narrowed := true }
def OpLimitsUptoSaid : Prop := opLimitsUptoRow.holds Try.pinned (OpenSpec.upto opLimitsSpec)

/-- 'armillarylaw4.OpFields', WHERE WHAT IT READS IS OF BULK AT MOST 1048576: true; the input reads as it did. -/
def opFieldsUptoRow : OpenClaim := { program := "ytakbnbmbiaejiaa", sum := "25585e1e8a52d386a64fecbac72997c5025208b09f8537fc99625c954b4de460", func := "armillary/armillarylaw4.OpFields", spec := "opFields", inPlace := ["internal/reflectlite.TypeOf"], unfollowed := true, recurses := true, plainKeys := false, apart := false, narrowed := true }
def OpFieldsUptoSaid : Prop := opFieldsUptoRow.holds Try.pinned (OpenSpec.upto opFieldsSpec)

/-- 'armillarylaw4.OpScripts', WHERE WHAT IT READS IS OF BULK AT MOST 1048576: true; the input reads as it did. -/
def opScriptsUptoRow : OpenClaim := { program := "ytakbnbmbiaejiaa", sum := "25585e1e8a52d386a64fecbac72997c5025208b09f8537fc99625c954b4de460", func := "armillary/armillarylaw4.OpScripts", spec := "opScripts", inPlace := ["internal/reflectlite.TypeOf"], unfollowed := true, recurses := true, plainKeys := false, apart := false, narrowed := true }
def OpScriptsUptoSaid : Prop := opScriptsUptoRow.holds Try.pinned (OpenSpec.upto opScriptsSpec)

/-- 'armillarylaw13.ClaimRises', WHERE WHAT IT READS IS OF BULK AT MOST 1048576: true; the input reads as it did. -/
def claimRisesUptoRow : OpenClaim := { program := "ytakbnbmbiaejiaa", sum := "25585e1e8a52d386a64fecbac72997c5025208b09f8537fc99625c954b4de460", func := "armillary/armillarylaw13.ClaimRises", spec := "claimRises", inPlace := ["internal/reflectlite.TypeOf"], unfollowed := true, recurses := true, plainKeys := false, apart := false, narrowed := true }
def ClaimRisesUptoSaid : Prop := claimRisesUptoRow.holds Try.pinned (OpenSpec.upto claimRisesSpec)

/-- 'armillarylaw13.ClaimEnds', WHERE WHAT IT READS IS OF BULK AT MOST 1048576: true; the input reads as it did. -/
def claimEndsUptoRow : OpenClaim := { program := "ytakbnbmbiaejiaa", sum := "25585e1e8a52d386a64fecbac72997c5025208b09f8537fc99625c954b4de460", func := "armillary/armillarylaw13.ClaimEnds", spec := "claimEnds", inPlace := ["internal/reflectlite.TypeOf"], unfollowed := true, recurses := true, plainKeys := false, apart := false, narrowed := true }
def ClaimEndsUptoSaid : Prop := claimEndsUptoRow.holds Try.pinned (OpenSpec.upto claimEndsSpec)

end Rows
end Go.Proofs.Ytakbnbmbiaejiaa
