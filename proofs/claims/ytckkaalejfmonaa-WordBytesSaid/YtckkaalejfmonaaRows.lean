/-
  No cell of these rows narrows 'for every input' (looked for: loops, veiled, ifaces, maps, wideKeys, modest, calm, conditions, laid).
  DERIVED. THE GIVEN ROWS OF THIS SEAT. 7 by the template 'for every input the law returns true; each argument reads behind the call as it read before'; 0 by the template 'total and deterministic' (their statements: YtckkaalejfmonaaTotals.lean).
  GIVEN WITH THE SEED: the statements are not yours to turn. If you find one false, say at which input.
  Laid BY PROGRAM, IN A SANDBOX (cutbox-rows.mjs): the forced cells as the released guide's own fill.sh prints them over the translation 5523d10e974a04b8… (all of the seat's roots in one cut). By AI agents, Wed Nov 11 2026. No macro, syntax, notation, axiom, sorry.
-/
import Derived.Test.YtckkaalejfmonaaChecked
import GoSem.Claim
import GoSem.ClaimJoined
import GoSem.ClaimMapViews
import Derived.JoinedTies
import Derived.KernelRfl
namespace Go.Proofs.Ytckkaalejfmonaa
/- THE CELL 'sum', in the pinned program and in every row, IS THE sha256 OF THE DUMP (.gsa) THAT YtckkaalejfmonaaProg.lean LOADS. Nothing in Lean hashes anything: it is a label: what it is worth is what the hold of that sum in a sandbox is worth. -/
noncomputable def Try.pinned : Pinned := { name := "ytckkaalejfmonaa", sum := "5523d10e974a04b82f3a26cd06f38ec50201a997015c056c98d34a95686bda01", checked := Try.checked }
namespace Rows
def none {H : Type} : Left H := { results := [], args := [] }

/-- 'pharoslaw01.WordDivides': WHATEVER THE INPUT: true; the input reads as it did. -/
def wordDividesSpec : ChangeSpec := { name := "wordDivides", fn := fun _ => fun
  | [d1, d2, d3] => { results := [.lit (.bool true)], args := [d1, d2, d3] }
  | _ => none }
def wordDividesRow : OpenClaim := { program := "ytckkaalejfmonaa", sum := "5523d10e974a04b82f3a26cd06f38ec50201a997015c056c98d34a95686bda01", func := "pharos/pharoslaw01.WordDivides", spec := "wordDivides", inPlace := ["math/bits.Add64", "math/bits.Sub64"], named := ["math/bits.divideError", "math/bits.overflowError"], apart := false }
def WordDividesSaid : Prop := wordDividesRow.holds Try.pinned (OpenSpec.ofChange wordDividesSpec)

/-- ITS FALSE NEIGHBOUR: 'it returns false'. Refute it at one input. -/
def wordDividesWrong : ChangeSpec := { name := "wordDivides", fn := fun _ => fun
  | [d1, d2, d3] => { results := [.lit (.bool false)], args := [d1, d2, d3] }
  | _ => none }
def WordDividesWrongFalsely : Prop := wordDividesRow.holds Try.pinned (OpenSpec.ofChange wordDividesWrong)

/-- 'pharoslaw01.WordRoots': WHATEVER THE INPUT: true; the input reads as it did. -/
def wordRootsSpec : ChangeSpec := { name := "wordRoots", fn := fun _ => fun
  | [d] => { results := [.lit (.bool true)], args := [d] }
  | _ => none }
def wordRootsRow : OpenClaim := { program := "ytckkaalejfmonaa", sum := "5523d10e974a04b82f3a26cd06f38ec50201a997015c056c98d34a95686bda01", func := "pharos/pharoslaw01.WordRoots", spec := "wordRoots", inPlace := ["math/bits.Add64", "math/bits.Sub64"], named := ["math/bits.divideError", "math/bits.overflowError"], apart := false }
def WordRootsSaid : Prop := wordRootsRow.holds Try.pinned (OpenSpec.ofChange wordRootsSpec)

/-- ITS FALSE NEIGHBOUR: 'it returns false'. Refute it at one input. -/
def wordRootsWrong : ChangeSpec := { name := "wordRoots", fn := fun _ => fun
  | [d] => { results := [.lit (.bool false)], args := [d] }
  | _ => none }
def WordRootsWrongFalsely : Prop := wordRootsRow.holds Try.pinned (OpenSpec.ofChange wordRootsWrong)

/-- 'pharoslaw01.WordSums': WHATEVER THE INPUT: true; the input reads as it did. -/
def wordSumsSpec : ChangeSpec := { name := "wordSums", fn := fun _ => fun
  | [d1, d2] => { results := [.lit (.bool true)], args := [d1, d2] }
  | _ => none }
def wordSumsRow : OpenClaim := { program := "ytckkaalejfmonaa", sum := "5523d10e974a04b82f3a26cd06f38ec50201a997015c056c98d34a95686bda01", func := "pharos/pharoslaw01.WordSums", spec := "wordSums", inPlace := ["math/bits.Add64", "math/bits.Sub64"], named := ["math/bits.divideError", "math/bits.overflowError"], apart := false }
def WordSumsSaid : Prop := wordSumsRow.holds Try.pinned (OpenSpec.ofChange wordSumsSpec)

/-- ITS FALSE NEIGHBOUR: 'it returns false'. Refute it at one input. -/
def wordSumsWrong : ChangeSpec := { name := "wordSums", fn := fun _ => fun
  | [d1, d2] => { results := [.lit (.bool false)], args := [d1, d2] }
  | _ => none }
def WordSumsWrongFalsely : Prop := wordSumsRow.holds Try.pinned (OpenSpec.ofChange wordSumsWrong)

/-- 'pharoslaw01.WordBack': WHATEVER THE INPUT: true; the input reads as it did. -/
def wordBackSpec : ChangeSpec := { name := "wordBack", fn := fun _ => fun
  | [d1, d2] => { results := [.lit (.bool true)], args := [d1, d2] }
  | _ => none }
def wordBackRow : OpenClaim := { program := "ytckkaalejfmonaa", sum := "5523d10e974a04b82f3a26cd06f38ec50201a997015c056c98d34a95686bda01", func := "pharos/pharoslaw01.WordBack", spec := "wordBack", inPlace := ["math/bits.Add64", "math/bits.Sub64"], named := ["math/bits.divideError", "math/bits.overflowError"], apart := false }
def WordBackSaid : Prop := wordBackRow.holds Try.pinned (OpenSpec.ofChange wordBackSpec)

/-- ITS FALSE NEIGHBOUR: 'it returns false'. Refute it at one input. -/
def wordBackWrong : ChangeSpec := { name := "wordBack", fn := fun _ => fun
  | [d1, d2] => { results := [.lit (.bool false)], args := [d1, d2] }
  | _ => none }
def WordBackWrongFalsely : Prop := wordBackRow.holds Try.pinned (OpenSpec.ofChange wordBackWrong)

/-- 'pharoslaw01.WordBytes': WHATEVER THE INPUT: true; the input reads as it did. -/
def wordBytesSpec : ChangeSpec := { name := "wordBytes", fn := fun _ => fun
  | [d1, d2] => { results := [.lit (.bool true)], args := [d1, d2] }
  | _ => none }
def wordBytesRow : OpenClaim := { program := "ytckkaalejfmonaa", sum := "5523d10e974a04b82f3a26cd06f38ec50201a997015c056c98d34a95686bda01", func := "pharos/pharoslaw01.WordBytes", spec := "wordBytes", inPlace := ["math/bits.Add64", "math/bits.Sub64"], named := ["math/bits.divideError", "math/bits.overflowError"], apart := false }
def WordBytesSaid : Prop := wordBytesRow.holds Try.pinned (OpenSpec.ofChange wordBytesSpec)

/-- ITS FALSE NEIGHBOUR: 'it returns false'. Refute it at one input. -/
def wordBytesWrong : ChangeSpec := { name := "wordBytes", fn := fun _ => fun
  | [d1, d2] => { results := [.lit (.bool false)], args := [d1, d2] }
  | _ => none }
def WordBytesWrongFalsely : Prop := wordBytesRow.holds Try.pinned (OpenSpec.ofChange wordBytesWrong)

/-- 'pharoslaw01.WordPairs': WHATEVER THE INPUT: true; the input reads as it did. -/
def wordPairsSpec : ChangeSpec := { name := "wordPairs", fn := fun _ => fun
  | [d1, d2, d3, d4] => { results := [.lit (.bool true)], args := [d1, d2, d3, d4] }
  | _ => none }
def wordPairsRow : OpenClaim := { program := "ytckkaalejfmonaa", sum := "5523d10e974a04b82f3a26cd06f38ec50201a997015c056c98d34a95686bda01", func := "pharos/pharoslaw01.WordPairs", spec := "wordPairs", inPlace := ["math/bits.Add64", "math/bits.Sub64", "math.archTrunc", "math.Float64bits", "math.Float64frombits"], named := ["math/bits.divideError", "math/bits.overflowError"], apart := false }
def WordPairsSaid : Prop := wordPairsRow.holds Try.pinned (OpenSpec.ofChange wordPairsSpec)

/-- ITS FALSE NEIGHBOUR: 'it returns false'. Refute it at one input. -/
def wordPairsWrong : ChangeSpec := { name := "wordPairs", fn := fun _ => fun
  | [d1, d2, d3, d4] => { results := [.lit (.bool false)], args := [d1, d2, d3, d4] }
  | _ => none }
def WordPairsWrongFalsely : Prop := wordPairsRow.holds Try.pinned (OpenSpec.ofChange wordPairsWrong)

/-- 'pharoslaw01.WordWhole': WHATEVER THE INPUT: true; the input reads as it did. -/
def wordWholeSpec : ChangeSpec := { name := "wordWhole", fn := fun _ => fun
  | [d1, d2] => { results := [.lit (.bool true)], args := [d1, d2] }
  | _ => none }
def wordWholeRow : OpenClaim := { program := "ytckkaalejfmonaa", sum := "5523d10e974a04b82f3a26cd06f38ec50201a997015c056c98d34a95686bda01", func := "pharos/pharoslaw01.WordWhole", spec := "wordWhole", inPlace := ["math/bits.Add64", "math/bits.Sub64", "math.archTrunc", "math.Float64bits", "math.Float64frombits"], named := ["math/bits.divideError", "math/bits.overflowError"], apart := false }
def WordWholeSaid : Prop := wordWholeRow.holds Try.pinned (OpenSpec.ofChange wordWholeSpec)

/-- ITS FALSE NEIGHBOUR: 'it returns false'. Refute it at one input. -/
def wordWholeWrong : ChangeSpec := { name := "wordWhole", fn := fun _ => fun
  | [d1, d2] => { results := [.lit (.bool false)], args := [d1, d2] }
  | _ => none }
def WordWholeWrongFalsely : Prop := wordWholeRow.holds Try.pinned (OpenSpec.ofChange wordWholeWrong)

/- THE SECOND FORM. 'bulk': how many values and letters a reading holds, each counted each time it is reached (what is shared counts as often as it is met; a slice's spare places count too). A statement '..UptoSaid' is the law's where the arguments, and the package variables that the reading takes, are together of bulk at most 1048576: NARROWER than '..Said'. Prove '..Said' where nothing that the law and all that it calls make is longer than what came in: it says more and counts as full. Else prove '..UptoSaid'. A law counts once. -/
mutual
def uptoBulk {H : Type} : DataW H → Nat
  | .lit (.string bytes) => bytes.length + 1
  | .lit _ => 1
  | .nil => 1
  | .ptr d => uptoBulk d + 1
  | .slice elems spare => uptoBulkAll elems + uptoBulkAll spare + 1
  | .agg parts => uptoBulkAll parts + 1
  | .iface _ d => uptoBulk d + 1
  | .map entries => uptoBulkEntries entries + 1
  | .held _ => 1
def uptoBulkAll {H : Type} : List (DataW H) → Nat
  | [] => 0
  | d :: r => uptoBulk d + uptoBulkAll r
def uptoBulkEntries {H : Type} : List (Lit × DataW H) → Nat
  | [] => 0
  | x :: r => uptoBulkEntry x + uptoBulkEntries r
def uptoBulkEntry {H : Type} : Lit × DataW H → Nat
  | (.string bytes, d) => bytes.length + uptoBulk d + 1
  | (_, d) => uptoBulk d + 1
 end
def uptoSmall : (H : Type) → List (DataW H) → Bool := fun _ ds => decide (uptoBulkAll ds ≤ 1048576)
def OpenSpec.upto (s : _root_.Go.ChangeSpec) : _root_.Go.OpenSpec := { _root_.Go.OpenSpec.ofChange s with cond := some uptoSmall }

/-- 'pharoslaw01.WordDivides', WHERE WHAT IT READS IS OF BULK AT MOST 1048576: true; the input reads as it did. -/
def wordDividesUptoRow : OpenClaim := { program := "ytckkaalejfmonaa", sum := "5523d10e974a04b82f3a26cd06f38ec50201a997015c056c98d34a95686bda01", func := "pharos/pharoslaw01.WordDivides", spec := "wordDivides", inPlace := ["math/bits.Add64", "math/bits.Sub64"], named := ["math/bits.divideError", "math/bits.overflowError"], apart := false, narrowed := true }
def WordDividesUptoSaid : Prop := wordDividesUptoRow.holds Try.pinned (OpenSpec.upto wordDividesSpec)

/-- 'pharoslaw01.WordRoots', WHERE WHAT IT READS IS OF BULK AT MOST 1048576: true; the input reads as it did. -/
def wordRootsUptoRow : OpenClaim := { program := "ytckkaalejfmonaa", sum := "5523d10e974a04b82f3a26cd06f38ec50201a997015c056c98d34a95686bda01", func := "pharos/pharoslaw01.WordRoots", spec := "wordRoots", inPlace := ["math/bits.Add64", "math/bits.Sub64"], named := ["math/bits.divideError", "math/bits.overflowError"], apart := false, narrowed := true }
def WordRootsUptoSaid : Prop := wordRootsUptoRow.holds Try.pinned (OpenSpec.upto wordRootsSpec)

/-- 'pharoslaw01.WordSums', WHERE WHAT IT READS IS OF BULK AT MOST 1048576: true; the input reads as it did. -/
def wordSumsUptoRow : OpenClaim := { program := "ytckkaalejfmonaa", sum := "5523d10e974a04b82f3a26cd06f38ec50201a997015c056c98d34a95686bda01", func := "pharos/pharoslaw01.WordSums", spec := "wordSums", inPlace := ["math/bits.Add64", "math/bits.Sub64"], named := ["math/bits.divideError", "math/bits.overflowError"], apart := false, narrowed := true }
def WordSumsUptoSaid : Prop := wordSumsUptoRow.holds Try.pinned (OpenSpec.upto wordSumsSpec)

/-- 'pharoslaw01.WordBack', WHERE WHAT IT READS IS OF BULK AT MOST 1048576: true; the input reads as it did. -/
def wordBackUptoRow : OpenClaim := { program := "ytckkaalejfmonaa", sum := "5523d10e974a04b82f3a26cd06f38ec50201a997015c056c98d34a95686bda01", func := "pharos/pharoslaw01.WordBack", spec := "wordBack", inPlace := ["math/bits.Add64", "math/bits.Sub64"], named := ["math/bits.divideError", "math/bits.overflowError"], apart := false, narrowed := true }
def WordBackUptoSaid : Prop := wordBackUptoRow.holds Try.pinned (OpenSpec.upto wordBackSpec)

/-- 'pharoslaw01.WordBytes', WHERE WHAT IT READS IS OF BULK AT MOST 1048576: true; the input reads as it did. -/
def wordBytesUptoRow : OpenClaim := { program := "ytckkaalejfmonaa", sum := "5523d10e974a04b82f3a26cd06f38ec50201a997015c056c98d34a95686bda01", func := "pharos/pharoslaw01.WordBytes", spec := "wordBytes", inPlace := ["math/bits.Add64", "math/bits.Sub64"], named := ["math/bits.divideError", "math/bits.overflowError"], apart := false, narrowed := true }
def WordBytesUptoSaid : Prop := wordBytesUptoRow.holds Try.pinned (OpenSpec.upto wordBytesSpec)

/-- 'pharoslaw01.WordPairs', WHERE WHAT IT READS IS OF BULK AT MOST 1048576: true; the input reads as it did. -/
def wordPairsUptoRow : OpenClaim := { program := "ytckkaalejfmonaa", sum := "5523d10e974a04b82f3a26cd06f38ec50201a997015c056c98d34a95686bda01", func := "pharos/pharoslaw01.WordPairs", spec := "wordPairs", inPlace := ["math/bits.Add64", "math/bits.Sub64", "math.archTrunc", "math.Float64bits", "math.Float64frombits"], named := ["math/bits.divideError", "math/bits.overflowError"], apart := false, narrowed := true }
def WordPairsUptoSaid : Prop := wordPairsUptoRow.holds Try.pinned (OpenSpec.upto wordPairsSpec)

/-- 'pharoslaw01.WordWhole', WHERE WHAT IT READS IS OF BULK AT MOST 1048576: true; the input reads as it did. -/
def wordWholeUptoRow : OpenClaim := { program := "ytckkaalejfmonaa", sum := "5523d10e974a04b82f3a26cd06f38ec50201a997015c056c98d34a95686bda01", func := "pharos/pharoslaw01.WordWhole", spec := "wordWhole", inPlace := ["math/bits.Add64", "math/bits.Sub64", "math.archTrunc", "math.Float64bits", "math.Float64frombits"], named := ["math/bits.divideError", "math/bits.overflowError"], apart := false, narrowed := true }
def WordWholeUptoSaid : Prop := wordWholeUptoRow.holds Try.pinned (OpenSpec.upto wordWholeSpec)

end Rows
end Go.Proofs.Ytckkaalejfmonaa
