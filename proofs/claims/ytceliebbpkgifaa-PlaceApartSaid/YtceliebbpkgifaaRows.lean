/-
  No cell of these rows narrows 'for every input' (looked for: loops, veiled, ifaces, maps, wideKeys, modest, calm, conditions, laid).
  DERIVED. THE GIVEN ROWS OF THIS SEAT. 13 by the template 'for every input the law returns true; each argument reads behind the call as it read before'; 0 by the template 'total and deterministic' (their statements: YtceliebbpkgifaaTotals.lean).
  GIVEN WITH THE SEED: the statements are not yours to turn. If you find one false, say at which input.
  Laid BY PROGRAM, IN A SANDBOX (cutbox-rows.mjs): the forced cells as the released guide's own fill.sh prints them over the translation 7ea1e334ebe988f4… (all of the seat's roots in one cut). By AI agents, Wed Nov 11 2026. No macro, syntax, notation, axiom, sorry.
-/
import Derived.Test.YtceliebbpkgifaaChecked
import GoSem.Claim
import GoSem.ClaimJoined
import GoSem.ClaimMapViews
import Derived.JoinedTies
import Derived.KernelRfl
namespace Go.Proofs.Ytceliebbpkgifaa
/- THE CELL 'sum', in the pinned program and in every row, IS THE sha256 OF THE DUMP (.gsa) THAT YtceliebbpkgifaaProg.lean LOADS. Nothing in Lean hashes anything: it is a label: what it is worth is what the hold of that sum in a sandbox is worth. -/
noncomputable def Try.pinned : Pinned := { name := "ytceliebbpkgifaa", sum := "7ea1e334ebe988f41939ec67ba28e3a595fd45a47c8c694704fed25920d6b9fc", checked := Try.checked }
namespace Rows
def none {H : Type} : Left H := { results := [], args := [] }

/-- 'armillarylaw1.WordBack': WHATEVER THE INPUT: true; the input reads as it did. -/
def wordBackSpec : ChangeSpec := { name := "wordBack", fn := fun _ => fun
  | [d1, d2, d3, d4, d5, d6, d7] => { results := [.lit (.bool true)], args := [d1, d2, d3, d4, d5, d6, d7] }
  | _ => none }
def wordBackRow : OpenClaim := { program := "ytceliebbpkgifaa", sum := "7ea1e334ebe988f41939ec67ba28e3a595fd45a47c8c694704fed25920d6b9fc", func := "armillary/armillarylaw1.WordBack", spec := "wordBack", apart := false }
def WordBackSaid : Prop := wordBackRow.holds Try.pinned (OpenSpec.ofChange wordBackSpec)

/-- ITS FALSE NEIGHBOUR: 'it returns false'. Refute it at one input. -/
def wordBackWrong : ChangeSpec := { name := "wordBack", fn := fun _ => fun
  | [d1, d2, d3, d4, d5, d6, d7] => { results := [.lit (.bool false)], args := [d1, d2, d3, d4, d5, d6, d7] }
  | _ => none }
def WordBackWrongFalsely : Prop := wordBackRow.holds Try.pinned (OpenSpec.ofChange wordBackWrong)

/-- 'armillarylaw1.WordMarks': WHATEVER THE INPUT: true; the input reads as it did. -/
def wordMarksSpec : ChangeSpec := { name := "wordMarks", fn := fun _ => fun
  | [d] => { results := [.lit (.bool true)], args := [d] }
  | _ => none }
def wordMarksRow : OpenClaim := { program := "ytceliebbpkgifaa", sum := "7ea1e334ebe988f41939ec67ba28e3a595fd45a47c8c694704fed25920d6b9fc", func := "armillary/armillarylaw1.WordMarks", spec := "wordMarks", apart := false }
def WordMarksSaid : Prop := wordMarksRow.holds Try.pinned (OpenSpec.ofChange wordMarksSpec)

/-- ITS FALSE NEIGHBOUR: 'it returns false'. Refute it at one input. -/
def wordMarksWrong : ChangeSpec := { name := "wordMarks", fn := fun _ => fun
  | [d] => { results := [.lit (.bool false)], args := [d] }
  | _ => none }
def WordMarksWrongFalsely : Prop := wordMarksRow.holds Try.pinned (OpenSpec.ofChange wordMarksWrong)

/-- 'armillarylaw1.WordStates': WHATEVER THE INPUT: true; the input reads as it did. -/
def wordStatesSpec : ChangeSpec := { name := "wordStates", fn := fun _ => fun
  | [d1, d2] => { results := [.lit (.bool true)], args := [d1, d2] }
  | _ => none }
def wordStatesRow : OpenClaim := { program := "ytceliebbpkgifaa", sum := "7ea1e334ebe988f41939ec67ba28e3a595fd45a47c8c694704fed25920d6b9fc", func := "armillary/armillarylaw1.WordStates", spec := "wordStates", apart := false }
def WordStatesSaid : Prop := wordStatesRow.holds Try.pinned (OpenSpec.ofChange wordStatesSpec)

/-- ITS FALSE NEIGHBOUR: 'it returns false'. Refute it at one input. -/
def wordStatesWrong : ChangeSpec := { name := "wordStates", fn := fun _ => fun
  | [d1, d2] => { results := [.lit (.bool false)], args := [d1, d2] }
  | _ => none }
def WordStatesWrongFalsely : Prop := wordStatesRow.holds Try.pinned (OpenSpec.ofChange wordStatesWrong)

/-- 'armillarylaw1.WordClaims': WHATEVER THE INPUT: true; the input reads as it did. -/
def wordClaimsSpec : ChangeSpec := { name := "wordClaims", fn := fun _ => fun
  | [d1, d2, d3] => { results := [.lit (.bool true)], args := [d1, d2, d3] }
  | _ => none }
def wordClaimsRow : OpenClaim := { program := "ytceliebbpkgifaa", sum := "7ea1e334ebe988f41939ec67ba28e3a595fd45a47c8c694704fed25920d6b9fc", func := "armillary/armillarylaw1.WordClaims", spec := "wordClaims", apart := false }
def WordClaimsSaid : Prop := wordClaimsRow.holds Try.pinned (OpenSpec.ofChange wordClaimsSpec)

/-- ITS FALSE NEIGHBOUR: 'it returns false'. Refute it at one input. -/
def wordClaimsWrong : ChangeSpec := { name := "wordClaims", fn := fun _ => fun
  | [d1, d2, d3] => { results := [.lit (.bool false)], args := [d1, d2, d3] }
  | _ => none }
def WordClaimsWrongFalsely : Prop := wordClaimsRow.holds Try.pinned (OpenSpec.ofChange wordClaimsWrong)

/-- 'armillarylaw1.WordDatas': WHATEVER THE INPUT: true; the input reads as it did. -/
def wordDatasSpec : ChangeSpec := { name := "wordDatas", fn := fun _ => fun
  | [d1, d2, d3, d4] => { results := [.lit (.bool true)], args := [d1, d2, d3, d4] }
  | _ => none }
def wordDatasRow : OpenClaim := { program := "ytceliebbpkgifaa", sum := "7ea1e334ebe988f41939ec67ba28e3a595fd45a47c8c694704fed25920d6b9fc", func := "armillary/armillarylaw1.WordDatas", spec := "wordDatas", apart := false }
def WordDatasSaid : Prop := wordDatasRow.holds Try.pinned (OpenSpec.ofChange wordDatasSpec)

/-- ITS FALSE NEIGHBOUR: 'it returns false'. Refute it at one input. -/
def wordDatasWrong : ChangeSpec := { name := "wordDatas", fn := fun _ => fun
  | [d1, d2, d3, d4] => { results := [.lit (.bool false)], args := [d1, d2, d3, d4] }
  | _ => none }
def WordDatasWrongFalsely : Prop := wordDatasRow.holds Try.pinned (OpenSpec.ofChange wordDatasWrong)

/-- 'armillarylaw2.ArenaPlays': WHATEVER THE INPUT: true; the input reads as it did. -/
def arenaPlaysSpec : ChangeSpec := { name := "arenaPlays", fn := fun _ => fun
  | [d1, d2] => { results := [.lit (.bool true)], args := [d1, d2] }
  | _ => none }
def arenaPlaysRow : OpenClaim := { program := "ytceliebbpkgifaa", sum := "7ea1e334ebe988f41939ec67ba28e3a595fd45a47c8c694704fed25920d6b9fc", func := "armillary/armillarylaw2.ArenaPlays", spec := "arenaPlays", unfollowed := true, recurses := true, apart := false }
def ArenaPlaysSaid : Prop := arenaPlaysRow.holds Try.pinned (OpenSpec.ofChange arenaPlaysSpec)

/-- ITS FALSE NEIGHBOUR: 'it returns false'. Refute it at one input. -/
def arenaPlaysWrong : ChangeSpec := { name := "arenaPlays", fn := fun _ => fun
  | [d1, d2] => { results := [.lit (.bool false)], args := [d1, d2] }
  | _ => none }
def ArenaPlaysWrongFalsely : Prop := arenaPlaysRow.holds Try.pinned (OpenSpec.ofChange arenaPlaysWrong)

/-- 'armillarylaw2.ArenaApart': WHATEVER THE INPUT: true; the input reads as it did. -/
def arenaApartSpec : ChangeSpec := { name := "arenaApart", fn := fun _ => fun
  | [d1, d2, d3, d4] => { results := [.lit (.bool true)], args := [d1, d2, d3, d4] }
  | _ => none }
def arenaApartRow : OpenClaim := { program := "ytceliebbpkgifaa", sum := "7ea1e334ebe988f41939ec67ba28e3a595fd45a47c8c694704fed25920d6b9fc", func := "armillary/armillarylaw2.ArenaApart", spec := "arenaApart", unfollowed := true, recurses := true, apart := false }
def ArenaApartSaid : Prop := arenaApartRow.holds Try.pinned (OpenSpec.ofChange arenaApartSpec)

/-- ITS FALSE NEIGHBOUR: 'it returns false'. Refute it at one input. -/
def arenaApartWrong : ChangeSpec := { name := "arenaApart", fn := fun _ => fun
  | [d1, d2, d3, d4] => { results := [.lit (.bool false)], args := [d1, d2, d3, d4] }
  | _ => none }
def ArenaApartWrongFalsely : Prop := arenaApartRow.holds Try.pinned (OpenSpec.ofChange arenaApartWrong)

/-- 'armillarylaw2.ArenaSwaps': WHATEVER THE INPUT: true; the input reads as it did. -/
def arenaSwapsSpec : ChangeSpec := { name := "arenaSwaps", fn := fun _ => fun
  | [d1, d2, d3] => { results := [.lit (.bool true)], args := [d1, d2, d3] }
  | _ => none }
def arenaSwapsRow : OpenClaim := { program := "ytceliebbpkgifaa", sum := "7ea1e334ebe988f41939ec67ba28e3a595fd45a47c8c694704fed25920d6b9fc", func := "armillary/armillarylaw2.ArenaSwaps", spec := "arenaSwaps", unfollowed := true, recurses := true, apart := false }
def ArenaSwapsSaid : Prop := arenaSwapsRow.holds Try.pinned (OpenSpec.ofChange arenaSwapsSpec)

/-- ITS FALSE NEIGHBOUR: 'it returns false'. Refute it at one input. -/
def arenaSwapsWrong : ChangeSpec := { name := "arenaSwaps", fn := fun _ => fun
  | [d1, d2, d3] => { results := [.lit (.bool false)], args := [d1, d2, d3] }
  | _ => none }
def ArenaSwapsWrongFalsely : Prop := arenaSwapsRow.holds Try.pinned (OpenSpec.ofChange arenaSwapsWrong)

/-- 'armillarylaw2.ArenaPlaces': WHATEVER THE INPUT: true; the input reads as it did. -/
def arenaPlacesSpec : ChangeSpec := { name := "arenaPlaces", fn := fun _ => fun
  | [d1, d2, d3] => { results := [.lit (.bool true)], args := [d1, d2, d3] }
  | _ => none }
def arenaPlacesRow : OpenClaim := { program := "ytceliebbpkgifaa", sum := "7ea1e334ebe988f41939ec67ba28e3a595fd45a47c8c694704fed25920d6b9fc", func := "armillary/armillarylaw2.ArenaPlaces", spec := "arenaPlaces", unfollowed := true, recurses := true, apart := false }
def ArenaPlacesSaid : Prop := arenaPlacesRow.holds Try.pinned (OpenSpec.ofChange arenaPlacesSpec)

/-- ITS FALSE NEIGHBOUR: 'it returns false'. Refute it at one input. -/
def arenaPlacesWrong : ChangeSpec := { name := "arenaPlaces", fn := fun _ => fun
  | [d1, d2, d3] => { results := [.lit (.bool false)], args := [d1, d2, d3] }
  | _ => none }
def ArenaPlacesWrongFalsely : Prop := arenaPlacesRow.holds Try.pinned (OpenSpec.ofChange arenaPlacesWrong)

/-- 'armillarylaw2.ArenaSizes': WHATEVER THE INPUT: true; the input reads as it did. -/
def arenaSizesSpec : ChangeSpec := { name := "arenaSizes", fn := fun _ => fun
  | [d] => { results := [.lit (.bool true)], args := [d] }
  | _ => none }
def arenaSizesRow : OpenClaim := { program := "ytceliebbpkgifaa", sum := "7ea1e334ebe988f41939ec67ba28e3a595fd45a47c8c694704fed25920d6b9fc", func := "armillary/armillarylaw2.ArenaSizes", spec := "arenaSizes", unfollowed := true, recurses := true, apart := false }
def ArenaSizesSaid : Prop := arenaSizesRow.holds Try.pinned (OpenSpec.ofChange arenaSizesSpec)

/-- ITS FALSE NEIGHBOUR: 'it returns false'. Refute it at one input. -/
def arenaSizesWrong : ChangeSpec := { name := "arenaSizes", fn := fun _ => fun
  | [d] => { results := [.lit (.bool false)], args := [d] }
  | _ => none }
def ArenaSizesWrongFalsely : Prop := arenaSizesRow.holds Try.pinned (OpenSpec.ofChange arenaSizesWrong)

/-- 'armillarylaw2.ArenaLast': WHATEVER THE INPUT: true; the input reads as it did. -/
def arenaLastSpec : ChangeSpec := { name := "arenaLast", fn := fun _ => fun
  | [d1, d2, d3, d4, d5] => { results := [.lit (.bool true)], args := [d1, d2, d3, d4, d5] }
  | _ => none }
def arenaLastRow : OpenClaim := { program := "ytceliebbpkgifaa", sum := "7ea1e334ebe988f41939ec67ba28e3a595fd45a47c8c694704fed25920d6b9fc", func := "armillary/armillarylaw2.ArenaLast", spec := "arenaLast", unfollowed := true, recurses := true, apart := false }
def ArenaLastSaid : Prop := arenaLastRow.holds Try.pinned (OpenSpec.ofChange arenaLastSpec)

/-- ITS FALSE NEIGHBOUR: 'it returns false'. Refute it at one input. -/
def arenaLastWrong : ChangeSpec := { name := "arenaLast", fn := fun _ => fun
  | [d1, d2, d3, d4, d5] => { results := [.lit (.bool false)], args := [d1, d2, d3, d4, d5] }
  | _ => none }
def ArenaLastWrongFalsely : Prop := arenaLastRow.holds Try.pinned (OpenSpec.ofChange arenaLastWrong)

/-- 'armillarylaw3.PlaceApart': WHATEVER THE INPUT: true; the input reads as it did. -/
def placeApartSpec : ChangeSpec := { name := "placeApart", fn := fun _ => fun
  | [d1, d2] => { results := [.lit (.bool true)], args := [d1, d2] }
  | _ => none }
def placeApartRow : OpenClaim := { program := "ytceliebbpkgifaa", sum := "7ea1e334ebe988f41939ec67ba28e3a595fd45a47c8c694704fed25920d6b9fc", func := "armillary/armillarylaw3.PlaceApart", spec := "placeApart", inPlace := ["internal/reflectlite.TypeOf"], unfollowed := true, recurses := true, apart := false }
def PlaceApartSaid : Prop := placeApartRow.holds Try.pinned (OpenSpec.ofChange placeApartSpec)

/-- ITS FALSE NEIGHBOUR: 'it returns false'. Refute it at one input. -/
def placeApartWrong : ChangeSpec := { name := "placeApart", fn := fun _ => fun
  | [d1, d2] => { results := [.lit (.bool false)], args := [d1, d2] }
  | _ => none }
def PlaceApartWrongFalsely : Prop := placeApartRow.holds Try.pinned (OpenSpec.ofChange placeApartWrong)

/-- 'armillarylaw3.PlaceWords': WHATEVER THE INPUT: true; the input reads as it did. -/
def placeWordsSpec : ChangeSpec := { name := "placeWords", fn := fun _ => fun
  | [d1, d2, d3] => { results := [.lit (.bool true)], args := [d1, d2, d3] }
  | _ => none }
def placeWordsRow : OpenClaim := { program := "ytceliebbpkgifaa", sum := "7ea1e334ebe988f41939ec67ba28e3a595fd45a47c8c694704fed25920d6b9fc", func := "armillary/armillarylaw3.PlaceWords", spec := "placeWords", inPlace := ["internal/reflectlite.TypeOf"], unfollowed := true, recurses := true, apart := false }
def PlaceWordsSaid : Prop := placeWordsRow.holds Try.pinned (OpenSpec.ofChange placeWordsSpec)

/-- ITS FALSE NEIGHBOUR: 'it returns false'. Refute it at one input. -/
def placeWordsWrong : ChangeSpec := { name := "placeWords", fn := fun _ => fun
  | [d1, d2, d3] => { results := [.lit (.bool false)], args := [d1, d2, d3] }
  | _ => none }
def PlaceWordsWrongFalsely : Prop := placeWordsRow.holds Try.pinned (OpenSpec.ofChange placeWordsWrong)

/- THE SECOND FORM. 'bulk': how many values and letters a reading holds, each counted each time it is reached (what is shared counts as often as it is met; a slice's spare places count too). A statement '..UptoSaid' is the law's where the arguments, and the package variables that the reading takes, are together of bulk at most 1048576: NARROWER than '..Said'. Prove '..Said' where nothing that the law and all that it calls make is longer than what came in: it says more and counts as full. Else prove '..UptoSaid'. A law counts once. -/
mutual
def uptoBulk {H : Type} : DataW H → Nat
  | .lit (.string bytes) => bytes.length + 1
  | .lit _ => 1
  | .nil => 1
  | .ptr d => uptoBulk d + 1
  | .slice elems spare => uptoBulkAll elems + uptoBulkAll spare + 1
  | .agg parts => uptoBulkAll parts + 1
  | .iface _ d => uptoBulk d + 1
  | .map entries => uptoBulkEntries entries + 1
  | .held _ => 1
def uptoBulkAll {H : Type} : List (DataW H) → Nat
  | [] => 0
  | d :: r => uptoBulk d + uptoBulkAll r
def uptoBulkEntries {H : Type} : List (Lit × DataW H) → Nat
  | [] => 0
  | x :: r => uptoBulkEntry x + uptoBulkEntries r
def uptoBulkEntry {H : Type} : Lit × DataW H → Nat
  | (.string bytes, d) => bytes.length + uptoBulk d + 1
  | (_, d) => uptoBulk d + 1
 end
def uptoSmall : (H : Type) → List (DataW H) → Bool := fun _ ds => decide (uptoBulkAll ds ≤ 1048576)
def OpenSpec.upto (s : _root_.Go.ChangeSpec) : _root_.Go.OpenSpec := { _root_.Go.OpenSpec.ofChange s with cond := some uptoSmall }

/-- 'armillarylaw1.WordBack', WHERE WHAT IT READS IS OF BULK AT MOST 1048576: true; the input reads as it did. -/
def wordBackUptoRow : OpenClaim := { program := "ytceliebbpkgifaa", sum := "7ea1e334ebe988f41939ec67ba28e3a595fd45a47c8c694704fed25920d6b9fc", func := "armillary/armillarylaw1.WordBack", spec := "wordBack", apart := false, narrowed := true }
def WordBackUptoSaid : Prop := wordBackUptoRow.holds Try.pinned (OpenSpec.upto wordBackSpec)

/-- 'armillarylaw1.WordMarks', WHERE WHAT IT READS IS OF BULK AT MOST 1048576: true; the input reads as it did. -/
def wordMarksUptoRow : OpenClaim := { program := "ytceliebbpkgifaa", sum := "7ea1e334ebe988f41939ec67ba28e3a595fd45a47c8c694704fed25920d6b9fc", func := "armillary/armillarylaw1.WordMarks", spec := "wordMarks", apart := false, narrowed := true }
def WordMarksUptoSaid : Prop := wordMarksUptoRow.holds Try.pinned (OpenSpec.upto wordMarksSpec)

/-- 'armillarylaw1.WordStates', WHERE WHAT IT READS IS OF BULK AT MOST 1048576: true; the input reads as it did. -/
def wordStatesUptoRow : OpenClaim := { program := "ytceliebbpkgifaa", sum := "7ea1e334ebe988f41939ec67ba28e3a595fd45a47c8c694704fed25920d6b9fc", func := "armillary/armillarylaw1.WordStates", spec := "wordStates", apart := false, narrowed := true }
def WordStatesUptoSaid : Prop := wordStatesUptoRow.holds Try.pinned (OpenSpec.upto wordStatesSpec)

/-- 'armillarylaw1.WordClaims', WHERE WHAT IT READS IS OF BULK AT MOST 1048576: true; the input reads as it did. -/
def wordClaimsUptoRow : OpenClaim := { program := "ytceliebbpkgifaa", sum := "7ea1e334ebe988f41939ec67ba28e3a595fd45a47c8c694704fed25920d6b9fc", func := "armillary/armillarylaw1.WordClaims", spec := "wordClaims", apart := false, narrowed := true }
def WordClaimsUptoSaid : Prop := wordClaimsUptoRow.holds Try.pinned (OpenSpec.upto wordClaimsSpec)

/-- 'armillarylaw1.WordDatas', WHERE WHAT IT READS IS OF BULK AT MOST 1048576: true; the input reads as it did. -/
def wordDatasUptoRow : OpenClaim := { program := "ytceliebbpkgifaa", sum := "7ea1e334ebe988f41939ec67ba28e3a595fd45a47c8c694704fed25920d6b9fc", func := "armillary/armillarylaw1.WordDatas", spec := "wordDatas", apart := false, narrowed := true }
def WordDatasUptoSaid : Prop := wordDatasUptoRow.holds Try.pinned (OpenSpec.upto wordDatasSpec)

/-- 'armillarylaw2.ArenaPlays', WHERE WHAT IT READS IS OF BULK AT MOST 1048576: true; the input reads as it did. -/
def arenaPlaysUptoRow : OpenClaim := { program := "ytceliebbpkgifaa", sum := "7ea1e334ebe988f41939ec67ba28e3a595fd45a47c8c694704fed25920d6b9fc", func := "armillary/armillarylaw2.ArenaPlays", spec := "arenaPlays", unfollowed := true, recurses := true, apart := false, narrowed := true }
def ArenaPlaysUptoSaid : Prop := arenaPlaysUptoRow.holds Try.pinned (OpenSpec.upto arenaPlaysSpec)

/-- 'armillarylaw2.ArenaApart', WHERE WHAT IT READS IS OF BULK AT MOST 1048576: true; the input reads as it did. -/
def arenaApartUptoRow : OpenClaim := { program := "ytceliebbpkgifaa", sum := "7ea1e334ebe988f41939ec67ba28e3a595fd45a47c8c694704fed25920d6b9fc", func := "armillary/armillarylaw2.ArenaApart", spec := "arenaApart", unfollowed := true, recurses := true, apart := false, narrowed := true }
def ArenaApartUptoSaid : Prop := arenaApartUptoRow.holds Try.pinned (OpenSpec.upto arenaApartSpec)

/-- 'armillarylaw2.ArenaSwaps', WHERE WHAT IT READS IS OF BULK AT MOST 1048576: true; the input reads as it did. -/
def arenaSwapsUptoRow : OpenClaim := { program := "ytceliebbpkgifaa", sum := "7ea1e334ebe988f41939ec67ba28e3a595fd45a47c8c694704fed25920d6b9fc", func := "armillary/armillarylaw2.ArenaSwaps", spec := "arenaSwaps", unfollowed := true, recurses := true, apart := false, narrowed := true }
def ArenaSwapsUptoSaid : Prop := arenaSwapsUptoRow.holds Try.pinned (OpenSpec.upto arenaSwapsSpec)

/-- 'armillarylaw2.ArenaPlaces', WHERE WHAT IT READS IS OF BULK AT MOST 1048576: true; the input reads as it did. -/
def arenaPlacesUptoRow : OpenClaim := { program := "ytceliebbpkgifaa", sum := "7ea1e334ebe988f41939ec67ba28e3a595fd45a47c8c694704fed25920d6b9fc", func := "armillary/armillarylaw2.ArenaPlaces", spec := "arenaPlaces", unfollowed := true, recurses := true, apart := false, narrowed := true }
def ArenaPlacesUptoSaid : Prop := arenaPlacesUptoRow.holds Try.pinned (OpenSpec.upto arenaPlacesSpec)

/-- 'armillarylaw2.ArenaSizes', WHERE WHAT IT READS IS OF BULK AT MOST 1048576: true; the input reads as it did. -/
def arenaSizesUptoRow : OpenClaim := { program := "ytceliebbpkgifaa", sum := "7ea1e334ebe988f41939ec67ba28e3a595fd45a47c8c694704fed25920d6b9fc", func := "armillary/armillarylaw2.ArenaSizes", spec := "arenaSizes", unfollowed := true, recurses := true, apart := false, narrowed := true }
def ArenaSizesUptoSaid : Prop := arenaSizesUptoRow.holds Try.pinned (OpenSpec.upto arenaSizesSpec)

/-- 'armillarylaw2.ArenaLast', WHERE WHAT IT READS IS OF BULK AT MOST 1048576: true; the input reads as it did. -/
def arenaLastUptoRow : OpenClaim := { program := "ytceliebbpkgifaa", sum := "7ea1e334ebe988f41939ec67ba28e3a595fd45a47c8c694704fed25920d6b9fc", func := "armillary/armillarylaw2.ArenaLast", spec := "arenaLast", unfollowed := true, recurses := true, apart := false, narrowed := true }
def ArenaLastUptoSaid : Prop := arenaLastUptoRow.holds Try.pinned (OpenSpec.upto arenaLastSpec)

/-- 'armillarylaw3.PlaceApart', WHERE WHAT IT READS IS OF BULK AT MOST 1048576: true; the input reads as it did. -/
def placeApartUptoRow : OpenClaim := { program := "ytceliebbpkgifaa", sum := "7ea1e334ebe988f41939ec67ba28e3a595fd45a47c8c694704fed25920d6b9fc", func := "armillary/armillarylaw3.PlaceApart", spec := "placeApart", inPlace := ["internal/reflectlite.TypeOf"], unfollowed := true, recurses := true, apart := false, narrowed := true }
def PlaceApartUptoSaid : Prop := placeApartUptoRow.holds Try.pinned (OpenSpec.upto placeApartSpec)

/-- 'armillarylaw3.PlaceWords', WHERE WHAT IT READS IS OF BULK AT MOST 1048576: true; the input reads as it did. -/
def placeWordsUptoRow : OpenClaim := { program := "ytceliebbpkgifaa", sum := "7ea1e334ebe988f41939ec67ba28e3a595fd45a47c8c694704fed25920d6b9fc", func := "armillary/armillarylaw3.PlaceWords", spec := "placeWords", inPlace := ["internal/reflectlite.TypeOf"], unfollowed := true, recurses := true, apart := false, narrowed := true }
def PlaceWordsUptoSaid : Prop := placeWordsUptoRow.holds Try.pinned (OpenSpec.upto placeWordsSpec)

end Rows
end Go.Proofs.Ytceliebbpkgifaa
