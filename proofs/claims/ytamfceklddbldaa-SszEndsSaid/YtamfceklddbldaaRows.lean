/-
  No cell of these rows narrows 'for every input' (looked for: loops, veiled, ifaces, maps, wideKeys, modest, calm, conditions, laid).
  DERIVED. THE GIVEN ROWS OF THIS SEAT. 7 by the template 'for every input the law returns true; each argument reads behind the call as it read before'; 0 by the template 'total and deterministic' (their statements: YtamfceklddbldaaTotals.lean).
  GIVEN WITH THE SEED: the statements are not yours to turn. If you find one false, say at which input.
  Laid BY PROGRAM, IN A SANDBOX (cutbox-rows.mjs): the forced cells as the released guide's own fill.sh prints them over the translation a00079a81a3e798a… (all of the seat's roots in one cut). By AI agents, Wed Nov 11 2026. No macro, syntax, notation, axiom, sorry.
-/
import Derived.Test.YtamfceklddbldaaChecked
import GoSem.Claim
import GoSem.ClaimJoined
import GoSem.ClaimMapViews
import Derived.JoinedTies
import Derived.KernelRfl
namespace Go.Proofs.Ytamfceklddbldaa
/- THE CELL 'sum', in the pinned program and in every row, IS THE sha256 OF THE DUMP (.gsa) THAT YtamfceklddbldaaProg.lean LOADS. Nothing in Lean hashes anything: it is a label: what it is worth is what the hold of that sum in a sandbox is worth. -/
noncomputable def Try.pinned : Pinned := { name := "ytamfceklddbldaa", sum := "a00079a81a3e798ad7cfb0b971ef1196ab79e94436e544e32e75438642c01f4c", checked := Try.checked }
namespace Rows
def none {H : Type} : Left H := { results := [], args := [] }

/-- 'pharoslaw03.SszBools': WHATEVER THE INPUT: true; the input reads as it did. -/
def sszBoolsSpec : ChangeSpec := { name := "sszBools", fn := fun _ => fun
  | [d] => { results := [.lit (.bool true)], args := [d] }
  | _ => none }
def sszBoolsRow : OpenClaim := { program := "ytamfceklddbldaa", sum := "a00079a81a3e798ad7cfb0b971ef1196ab79e94436e544e32e75438642c01f4c", func := "pharos/pharoslaw03.SszBools", spec := "sszBools", apart := false }
def SszBoolsSaid : Prop := sszBoolsRow.holds Try.pinned (OpenSpec.ofChange sszBoolsSpec)

/-- ITS FALSE NEIGHBOUR: 'it returns false'. Refute it at one input. -/
def sszBoolsWrong : ChangeSpec := { name := "sszBools", fn := fun _ => fun
  | [d] => { results := [.lit (.bool false)], args := [d] }
  | _ => none }
def SszBoolsWrongFalsely : Prop := sszBoolsRow.holds Try.pinned (OpenSpec.ofChange sszBoolsWrong)

/-- 'pharoslaw03.SszMany': WHATEVER THE INPUT: true; the input reads as it did. -/
def sszManySpec : ChangeSpec := { name := "sszMany", fn := fun _ => fun
  | [d1, d2] => { results := [.lit (.bool true)], args := [d1, d2] }
  | _ => none }
def sszManyRow : OpenClaim := { program := "ytamfceklddbldaa", sum := "a00079a81a3e798ad7cfb0b971ef1196ab79e94436e544e32e75438642c01f4c", func := "pharos/pharoslaw03.SszMany", spec := "sszMany", apart := false }
def SszManySaid : Prop := sszManyRow.holds Try.pinned (OpenSpec.ofChange sszManySpec)

/-- ITS FALSE NEIGHBOUR: 'it returns false'. Refute it at one input. -/
def sszManyWrong : ChangeSpec := { name := "sszMany", fn := fun _ => fun
  | [d1, d2] => { results := [.lit (.bool false)], args := [d1, d2] }
  | _ => none }
def SszManyWrongFalsely : Prop := sszManyRow.holds Try.pinned (OpenSpec.ofChange sszManyWrong)

/-- 'pharoslaw03.SszCuts': WHATEVER THE INPUT: true; the input reads as it did. -/
def sszCutsSpec : ChangeSpec := { name := "sszCuts", fn := fun _ => fun
  | [d1, d2] => { results := [.lit (.bool true)], args := [d1, d2] }
  | _ => none }
def sszCutsRow : OpenClaim := { program := "ytamfceklddbldaa", sum := "a00079a81a3e798ad7cfb0b971ef1196ab79e94436e544e32e75438642c01f4c", func := "pharos/pharoslaw03.SszCuts", spec := "sszCuts", apart := false }
def SszCutsSaid : Prop := sszCutsRow.holds Try.pinned (OpenSpec.ofChange sszCutsSpec)

/-- ITS FALSE NEIGHBOUR: 'it returns false'. Refute it at one input. -/
def sszCutsWrong : ChangeSpec := { name := "sszCuts", fn := fun _ => fun
  | [d1, d2] => { results := [.lit (.bool false)], args := [d1, d2] }
  | _ => none }
def SszCutsWrongFalsely : Prop := sszCutsRow.holds Try.pinned (OpenSpec.ofChange sszCutsWrong)

/-- 'pharoslaw03.SszLays': WHATEVER THE INPUT: true; the input reads as it did. -/
def sszLaysSpec : ChangeSpec := { name := "sszLays", fn := fun _ => fun
  | [d1, d2] => { results := [.lit (.bool true)], args := [d1, d2] }
  | _ => none }
def sszLaysRow : OpenClaim := { program := "ytamfceklddbldaa", sum := "a00079a81a3e798ad7cfb0b971ef1196ab79e94436e544e32e75438642c01f4c", func := "pharos/pharoslaw03.SszLays", spec := "sszLays", apart := false }
def SszLaysSaid : Prop := sszLaysRow.holds Try.pinned (OpenSpec.ofChange sszLaysSpec)

/-- ITS FALSE NEIGHBOUR: 'it returns false'. Refute it at one input. -/
def sszLaysWrong : ChangeSpec := { name := "sszLays", fn := fun _ => fun
  | [d1, d2] => { results := [.lit (.bool false)], args := [d1, d2] }
  | _ => none }
def SszLaysWrongFalsely : Prop := sszLaysRow.holds Try.pinned (OpenSpec.ofChange sszLaysWrong)

/-- 'pharoslaw03.SszEnds': WHATEVER THE INPUT: true; the input reads as it did. -/
def sszEndsSpec : ChangeSpec := { name := "sszEnds", fn := fun _ => fun
  | [d1, d2, d3, d4] => { results := [.lit (.bool true)], args := [d1, d2, d3, d4] }
  | _ => none }
def sszEndsRow : OpenClaim := { program := "ytamfceklddbldaa", sum := "a00079a81a3e798ad7cfb0b971ef1196ab79e94436e544e32e75438642c01f4c", func := "pharos/pharoslaw03.SszEnds", spec := "sszEnds", apart := false }
def SszEndsSaid : Prop := sszEndsRow.holds Try.pinned (OpenSpec.ofChange sszEndsSpec)

/-- ITS FALSE NEIGHBOUR: 'it returns false'. Refute it at one input. -/
def sszEndsWrong : ChangeSpec := { name := "sszEnds", fn := fun _ => fun
  | [d1, d2, d3, d4] => { results := [.lit (.bool false)], args := [d1, d2, d3, d4] }
  | _ => none }
def SszEndsWrongFalsely : Prop := sszEndsRow.holds Try.pinned (OpenSpec.ofChange sszEndsWrong)

/-- 'pharoslaw03.SszNests': WHATEVER THE INPUT: true; the input reads as it did. -/
def sszNestsSpec : ChangeSpec := { name := "sszNests", fn := fun _ => fun
  | [d1, d2, d3] => { results := [.lit (.bool true)], args := [d1, d2, d3] }
  | _ => none }
def sszNestsRow : OpenClaim := { program := "ytamfceklddbldaa", sum := "a00079a81a3e798ad7cfb0b971ef1196ab79e94436e544e32e75438642c01f4c", func := "pharos/pharoslaw03.SszNests", spec := "sszNests", apart := false }
def SszNestsSaid : Prop := sszNestsRow.holds Try.pinned (OpenSpec.ofChange sszNestsSpec)

/-- ITS FALSE NEIGHBOUR: 'it returns false'. Refute it at one input. -/
def sszNestsWrong : ChangeSpec := { name := "sszNests", fn := fun _ => fun
  | [d1, d2, d3] => { results := [.lit (.bool false)], args := [d1, d2, d3] }
  | _ => none }
def SszNestsWrongFalsely : Prop := sszNestsRow.holds Try.pinned (OpenSpec.ofChange sszNestsWrong)

/-- 'pharoslaw03.SszLists': WHATEVER THE INPUT: true; the input reads as it did. -/
def sszListsSpec : ChangeSpec := { name := "sszLists", fn := fun _ => fun
  | [d1, d2, d3] => { results := [.lit (.bool true)], args := [d1, d2, d3] }
  | _ => none }
def sszListsRow : OpenClaim := { program := "ytamfceklddbldaa", sum := "a00079a81a3e798ad7cfb0b971ef1196ab79e94436e544e32e75438642c01f4c", func := "pharos/pharoslaw03.SszLists", spec := "sszLists", unfollowed := true, recurses := true, apart := false }
def SszListsSaid : Prop := sszListsRow.holds Try.pinned (OpenSpec.ofChange sszListsSpec)

/-- ITS FALSE NEIGHBOUR: 'it returns false'. Refute it at one input. -/
def sszListsWrong : ChangeSpec := { name := "sszLists", fn := fun _ => fun
  | [d1, d2, d3] => { results := [.lit (.bool false)], args := [d1, d2, d3] }
  | _ => none }
def SszListsWrongFalsely : Prop := sszListsRow.holds Try.pinned (OpenSpec.ofChange sszListsWrong)

/- THE SECOND FORM. 'bulk': how many values and letters a reading holds, each counted each time it is reached (what is shared counts as often as it is met; a slice's spare places count too). A statement '..UptoSaid' is the law's where the arguments, and the package variables that the reading takes, are together of bulk at most 1048576: NARROWER than '..Said'. Prove '..Said' where nothing that the law and all that it calls make is longer than what came in: it says more and counts as full. Else prove '..UptoSaid'. A law counts once. -/
mutual
def uptoBulk {H : Type} : DataW H → Nat
  | .lit (.string bytes) => bytes.length + 1
  | .lit _ => 1
  | .nil => 1
  | .ptr d => uptoBulk d + 1
  | .slice elems spare => uptoBulkAll elems + uptoBulkAll spare + 1
  | .agg parts => uptoBulkAll parts + 1
  | .iface _ d => uptoBulk d + 1
  | .map entries => uptoBulkEntries entries + 1
  | .held _ => 1
def uptoBulkAll {H : Type} : List (DataW H) → Nat
  | [] => 0
  | d :: r => uptoBulk d + uptoBulkAll r
def uptoBulkEntries {H : Type} : List (Lit × DataW H) → Nat
  | [] => 0
  | x :: r => uptoBulkEntry x + uptoBulkEntries r
def uptoBulkEntry {H : Type} : Lit × DataW H → Nat
  | (.string bytes, d) => bytes.length + uptoBulk d + 1
  | (_, d) => uptoBulk d + 1
 end
def uptoSmall : (H : Type) → List (DataW H) → Bool := fun _ ds => decide (uptoBulkAll ds ≤ 1048576)
def OpenSpec.upto (s : _root_.Go.ChangeSpec) : _root_.Go.OpenSpec := { _root_.Go.OpenSpec.ofChange s with cond := some uptoSmall }

/-- 'pharoslaw03.SszBools', WHERE WHAT IT READS IS OF BULK AT MOST 1048576: true; the input reads as it did. -/
def sszBoolsUptoRow : OpenClaim := { program := "ytamfceklddbldaa", sum := "a00079a81a3e798ad7cfb0b971ef1196ab79e94436e544e32e75438642c01f4c", func := "pharos/pharoslaw03.SszBools", spec := "sszBools", apart := false, narrowed := true }
def SszBoolsUptoSaid : Prop := sszBoolsUptoRow.holds Try.pinned (OpenSpec.upto sszBoolsSpec)

/-- 'pharoslaw03.SszMany', WHERE WHAT IT READS IS OF BULK AT MOST 1048576: true; the input reads as it did. -/
def sszManyUptoRow : OpenClaim := { program := "ytamfceklddbldaa", sum := "a00079a81a3e798ad7cfb0b971ef1196ab79e94436e544e32e75438642c01f4c", func := "pharos/pharoslaw03.SszMany", spec := "sszMany", apart := false, narrowed := true }
def SszManyUptoSaid : Prop := sszManyUptoRow.holds Try.pinned (OpenSpec.upto sszManySpec)

/-- 'pharoslaw03.SszCuts', WHERE WHAT IT READS IS OF BULK AT MOST 1048576: true; the input reads as it did. -/
def sszCutsUptoRow : OpenClaim := { program := "ytamfceklddbldaa", sum := "a00079a81a3e798ad7cfb0b971ef1196ab79e94436e544e32e75438642c01f4c", func := "pharos/pharoslaw03.SszCuts", spec := "sszCuts", apart := false, narrowed := true }
def SszCutsUptoSaid : Prop := sszCutsUptoRow.holds Try.pinned (OpenSpec.upto sszCutsSpec)

/-- 'pharoslaw03.SszLays', WHERE WHAT IT READS IS OF BULK AT MOST 1048576: true; the input reads as it did. -/
def sszLaysUptoRow : OpenClaim := { program := "ytamfceklddbldaa", sum := "a00079a81a3e798ad7cfb0b971ef1196ab79e94436e544e32e75438642c01f4c", func := "pharos/pharoslaw03.SszLays", spec := "sszLays", apart := false, narrowed := true }
def SszLaysUptoSaid : Prop := sszLaysUptoRow.holds Try.pinned (OpenSpec.upto sszLaysSpec)

/-- 'pharoslaw03.SszEnds', WHERE WHAT IT READS IS OF BULK AT MOST 1048576: true; the input reads as it did. -/
def sszEndsUptoRow : OpenClaim := { program := "ytamfceklddbldaa", sum := "a00079a81a3e798ad7cfb0b971ef1196ab79e94436e544e32e75438642c01f4c", func := "pharos/pharoslaw03.SszEnds", spec := "sszEnds", apart := false, narrowed := true }
def SszEndsUptoSaid : Prop := sszEndsUptoRow.holds Try.pinned (OpenSpec.upto sszEndsSpec)

/-- 'pharoslaw03.SszNests', WHERE WHAT IT READS IS OF BULK AT MOST 1048576: true; the input reads as it did. -/
def sszNestsUptoRow : OpenClaim := { program := "ytamfceklddbldaa", sum := "a00079a81a3e798ad7cfb0b971ef1196ab79e94436e544e32e75438642c01f4c", func := "pharos/pharoslaw03.SszNests", spec := "sszNests", apart := false, narrowed := true }
def SszNestsUptoSaid : Prop := sszNestsUptoRow.holds Try.pinned (OpenSpec.upto sszNestsSpec)

/-- 'pharoslaw03.SszLists', WHERE WHAT IT READS IS OF BULK AT MOST 1048576: true; the input reads as it did. -/
def sszListsUptoRow : OpenClaim := { program := "ytamfceklddbldaa", sum := "a00079a81a3e798ad7cfb0b971ef1196ab79e94436e544e32e75438642c01f4c", func := "pharos/pharoslaw03.SszLists", spec := "sszLists", unfollowed := true, recurses := true, apart := false, narrowed := true }
def SszListsUptoSaid : Prop := sszListsUptoRow.holds Try.pinned (OpenSpec.upto sszListsSpec)

end Rows
end Go.Proofs.Ytamfceklddbldaa
