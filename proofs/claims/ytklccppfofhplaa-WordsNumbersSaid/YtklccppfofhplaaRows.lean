/-
  No cell of these rows narrows 'for every input' (looked for: loops, veiled, ifaces, maps, wideKeys, modest, calm, conditions, laid).
  DERIVED. THE GIVEN ROWS OF THIS SEAT. 12 by the template 'for every input the law returns true; each argument reads behind the call as it read before'; 0 by the template 'total and deterministic' (their statements: YtklccppfofhplaaTotals.lean).
  GIVEN WITH THE SEED: the statements are not yours to turn. If you find one false, say at which input.
  Laid BY PROGRAM, IN A SANDBOX (cutbox-rows.mjs): the forced cells as the released guide's own fill.sh prints them over the translation a15f28521d92bb41… (all of the seat's roots in one cut). By AI agents, Wed Nov 11 2026. No macro, syntax, notation, axiom, sorry.
-/
import Derived.Test.YtklccppfofhplaaChecked
import GoSem.Claim
import GoSem.ClaimJoined
import GoSem.ClaimMapViews
import Derived.JoinedTies
import Derived.KernelRfl
namespace Go.Proofs.Ytklccppfofhplaa
/- THE CELL 'sum', in the pinned program and in every row, IS THE sha256 OF THE DUMP (.gsa) THAT YtklccppfofhplaaProg.lean LOADS. Nothing in Lean hashes anything: it is a label: what it is worth is what the hold of that sum in a sandbox is worth. -/
noncomputable def Try.pinned : Pinned := { name := "ytklccppfofhplaa", sum := "a15f28521d92bb416c508e38adb65f06893c5d0aa9d7418c13bc9b5824e1ae1c", checked := Try.checked }
namespace Rows
def none {H : Type} : Left H := { results := [], args := [] }

/-- 'steadinglaw02.WordsBytes': WHATEVER THE INPUT: true; the input reads as it did. -/
def wordsBytesSpec : ChangeSpec := { name := "wordsBytes", fn := fun _ => fun
  | [d1, d2, d3, d4] => { results := [.lit (.bool true)], args := [d1, d2, d3, d4] }
  | _ => none }
def wordsBytesRow : OpenClaim := { program := "ytklccppfofhplaa", sum := "a15f28521d92bb416c508e38adb65f06893c5d0aa9d7418c13bc9b5824e1ae1c", func := "steading/steadinglaw02.WordsBytes", spec := "wordsBytes", apart := false }
def WordsBytesSaid : Prop := wordsBytesRow.holds Try.pinned (OpenSpec.ofChange wordsBytesSpec)

/-- ITS FALSE NEIGHBOUR: 'it returns false'. Refute it at one input. -/
def wordsBytesWrong : ChangeSpec := { name := "wordsBytes", fn := fun _ => fun
  | [d1, d2, d3, d4] => { results := [.lit (.bool false)], args := [d1, d2, d3, d4] }
  | _ => none }
def WordsBytesWrongFalsely : Prop := wordsBytesRow.holds Try.pinned (OpenSpec.ofChange wordsBytesWrong)

/-- 'steadinglaw02.WordsNumbers': WHATEVER THE INPUT: true; the input reads as it did. -/
def wordsNumbersSpec : ChangeSpec := { name := "wordsNumbers", fn := fun _ => fun
  | [d1, d2, d3] => { results := [.lit (.bool true)], args := [d1, d2, d3] }
  | _ => none }
def wordsNumbersRow : OpenClaim := { program := "ytklccppfofhplaa", sum := "a15f28521d92bb416c508e38adb65f06893c5d0aa9d7418c13bc9b5824e1ae1c", func := "steading/steadinglaw02.WordsNumbers", spec := "wordsNumbers", apart := false }
def WordsNumbersSaid : Prop := wordsNumbersRow.holds Try.pinned (OpenSpec.ofChange wordsNumbersSpec)

/-- ITS FALSE NEIGHBOUR: 'it returns false'. Refute it at one input. -/
def wordsNumbersWrong : ChangeSpec := { name := "wordsNumbers", fn := fun _ => fun
  | [d1, d2, d3] => { results := [.lit (.bool false)], args := [d1, d2, d3] }
  | _ => none }
def WordsNumbersWrongFalsely : Prop := wordsNumbersRow.holds Try.pinned (OpenSpec.ofChange wordsNumbersWrong)

/-- 'steadinglaw02.WordsBack': WHATEVER THE INPUT: true; the input reads as it did. -/
def wordsBackSpec : ChangeSpec := { name := "wordsBack", fn := fun _ => fun
  | [d1, d2, d3, d4] => { results := [.lit (.bool true)], args := [d1, d2, d3, d4] }
  | _ => none }
def wordsBackRow : OpenClaim := { program := "ytklccppfofhplaa", sum := "a15f28521d92bb416c508e38adb65f06893c5d0aa9d7418c13bc9b5824e1ae1c", func := "steading/steadinglaw02.WordsBack", spec := "wordsBack", apart := false }
def WordsBackSaid : Prop := wordsBackRow.holds Try.pinned (OpenSpec.ofChange wordsBackSpec)

/-- ITS FALSE NEIGHBOUR: 'it returns false'. Refute it at one input. -/
def wordsBackWrong : ChangeSpec := { name := "wordsBack", fn := fun _ => fun
  | [d1, d2, d3, d4] => { results := [.lit (.bool false)], args := [d1, d2, d3, d4] }
  | _ => none }
def WordsBackWrongFalsely : Prop := wordsBackRow.holds Try.pinned (OpenSpec.ofChange wordsBackWrong)

/-- 'steadinglaw02.WordsSigns': WHATEVER THE INPUT: true; the input reads as it did. -/
def wordsSignsSpec : ChangeSpec := { name := "wordsSigns", fn := fun _ => fun
  | [d1, d2] => { results := [.lit (.bool true)], args := [d1, d2] }
  | _ => none }
def wordsSignsRow : OpenClaim := { program := "ytklccppfofhplaa", sum := "a15f28521d92bb416c508e38adb65f06893c5d0aa9d7418c13bc9b5824e1ae1c", func := "steading/steadinglaw02.WordsSigns", spec := "wordsSigns", apart := false }
def WordsSignsSaid : Prop := wordsSignsRow.holds Try.pinned (OpenSpec.ofChange wordsSignsSpec)

/-- ITS FALSE NEIGHBOUR: 'it returns false'. Refute it at one input. -/
def wordsSignsWrong : ChangeSpec := { name := "wordsSigns", fn := fun _ => fun
  | [d1, d2] => { results := [.lit (.bool false)], args := [d1, d2] }
  | _ => none }
def WordsSignsWrongFalsely : Prop := wordsSignsRow.holds Try.pinned (OpenSpec.ofChange wordsSignsWrong)

/-- 'steadinglaw02.WordsJoin': WHATEVER THE INPUT: true; the input reads as it did. -/
def wordsJoinSpec : ChangeSpec := { name := "wordsJoin", fn := fun _ => fun
  | [d1, d2] => { results := [.lit (.bool true)], args := [d1, d2] }
  | _ => none }
def wordsJoinRow : OpenClaim := { program := "ytklccppfofhplaa", sum := "a15f28521d92bb416c508e38adb65f06893c5d0aa9d7418c13bc9b5824e1ae1c", func := "steading/steadinglaw02.WordsJoin", spec := "wordsJoin", apart := false }
def WordsJoinSaid : Prop := wordsJoinRow.holds Try.pinned (OpenSpec.ofChange wordsJoinSpec)

/-- ITS FALSE NEIGHBOUR: 'it returns false'. Refute it at one input. -/
def wordsJoinWrong : ChangeSpec := { name := "wordsJoin", fn := fun _ => fun
  | [d1, d2] => { results := [.lit (.bool false)], args := [d1, d2] }
  | _ => none }
def WordsJoinWrongFalsely : Prop := wordsJoinRow.holds Try.pinned (OpenSpec.ofChange wordsJoinWrong)

/-- 'steadinglaw02.WordsHalves': WHATEVER THE INPUT: true; the input reads as it did. -/
def wordsHalvesSpec : ChangeSpec := { name := "wordsHalves", fn := fun _ => fun
  | [d1, d2, d3, d4] => { results := [.lit (.bool true)], args := [d1, d2, d3, d4] }
  | _ => none }
def wordsHalvesRow : OpenClaim := { program := "ytklccppfofhplaa", sum := "a15f28521d92bb416c508e38adb65f06893c5d0aa9d7418c13bc9b5824e1ae1c", func := "steading/steadinglaw02.WordsHalves", spec := "wordsHalves", apart := false }
def WordsHalvesSaid : Prop := wordsHalvesRow.holds Try.pinned (OpenSpec.ofChange wordsHalvesSpec)

/-- ITS FALSE NEIGHBOUR: 'it returns false'. Refute it at one input. -/
def wordsHalvesWrong : ChangeSpec := { name := "wordsHalves", fn := fun _ => fun
  | [d1, d2, d3, d4] => { results := [.lit (.bool false)], args := [d1, d2, d3, d4] }
  | _ => none }
def WordsHalvesWrongFalsely : Prop := wordsHalvesRow.holds Try.pinned (OpenSpec.ofChange wordsHalvesWrong)

/-- 'steadinglaw07.ClassesPages': WHATEVER THE INPUT: true; the input reads as it did. -/
def classesPagesSpec : ChangeSpec := { name := "classesPages", fn := fun _ => fun
  | [d1, d2] => { results := [.lit (.bool true)], args := [d1, d2] }
  | _ => none }
def classesPagesRow : OpenClaim := { program := "ytklccppfofhplaa", sum := "a15f28521d92bb416c508e38adb65f06893c5d0aa9d7418c13bc9b5824e1ae1c", func := "steading/steadinglaw07.ClassesPages", spec := "classesPages", apart := false }
def ClassesPagesSaid : Prop := classesPagesRow.holds Try.pinned (OpenSpec.ofChange classesPagesSpec)

/-- ITS FALSE NEIGHBOUR: 'it returns false'. Refute it at one input. -/
def classesPagesWrong : ChangeSpec := { name := "classesPages", fn := fun _ => fun
  | [d1, d2] => { results := [.lit (.bool false)], args := [d1, d2] }
  | _ => none }
def ClassesPagesWrongFalsely : Prop := classesPagesRow.holds Try.pinned (OpenSpec.ofChange classesPagesWrong)

/-- 'steadinglaw07.ClassesChunk': WHATEVER THE INPUT: true; the input reads as it did. -/
def classesChunkSpec : ChangeSpec := { name := "classesChunk", fn := fun _ => fun
  | [d1, d2] => { results := [.lit (.bool true)], args := [d1, d2] }
  | _ => none }
def classesChunkRow : OpenClaim := { program := "ytklccppfofhplaa", sum := "a15f28521d92bb416c508e38adb65f06893c5d0aa9d7418c13bc9b5824e1ae1c", func := "steading/steadinglaw07.ClassesChunk", spec := "classesChunk", apart := false }
def ClassesChunkSaid : Prop := classesChunkRow.holds Try.pinned (OpenSpec.ofChange classesChunkSpec)

/-- ITS FALSE NEIGHBOUR: 'it returns false'. Refute it at one input. -/
def classesChunkWrong : ChangeSpec := { name := "classesChunk", fn := fun _ => fun
  | [d1, d2] => { results := [.lit (.bool false)], args := [d1, d2] }
  | _ => none }
def ClassesChunkWrongFalsely : Prop := classesChunkRow.holds Try.pinned (OpenSpec.ofChange classesChunkWrong)

/-- 'steadinglaw07.ClassesHold': WHATEVER THE INPUT: true; the input reads as it did. -/
def classesHoldSpec : ChangeSpec := { name := "classesHold", fn := fun _ => fun
  | [d1, d2] => { results := [.lit (.bool true)], args := [d1, d2] }
  | _ => none }
def classesHoldRow : OpenClaim := { program := "ytklccppfofhplaa", sum := "a15f28521d92bb416c508e38adb65f06893c5d0aa9d7418c13bc9b5824e1ae1c", func := "steading/steadinglaw07.ClassesHold", spec := "classesHold", apart := false }
def ClassesHoldSaid : Prop := classesHoldRow.holds Try.pinned (OpenSpec.ofChange classesHoldSpec)

/-- ITS FALSE NEIGHBOUR: 'it returns false'. Refute it at one input. -/
def classesHoldWrong : ChangeSpec := { name := "classesHold", fn := fun _ => fun
  | [d1, d2] => { results := [.lit (.bool false)], args := [d1, d2] }
  | _ => none }
def ClassesHoldWrongFalsely : Prop := classesHoldRow.holds Try.pinned (OpenSpec.ofChange classesHoldWrong)

/-- 'steadinglaw07.ClassesRise': WHATEVER THE INPUT: true; the input reads as it did. -/
def classesRiseSpec : ChangeSpec := { name := "classesRise", fn := fun _ => fun
  | [d1, d2, d3, d4] => { results := [.lit (.bool true)], args := [d1, d2, d3, d4] }
  | _ => none }
def classesRiseRow : OpenClaim := { program := "ytklccppfofhplaa", sum := "a15f28521d92bb416c508e38adb65f06893c5d0aa9d7418c13bc9b5824e1ae1c", func := "steading/steadinglaw07.ClassesRise", spec := "classesRise", apart := false }
def ClassesRiseSaid : Prop := classesRiseRow.holds Try.pinned (OpenSpec.ofChange classesRiseSpec)

/-- ITS FALSE NEIGHBOUR: 'it returns false'. Refute it at one input. -/
def classesRiseWrong : ChangeSpec := { name := "classesRise", fn := fun _ => fun
  | [d1, d2, d3, d4] => { results := [.lit (.bool false)], args := [d1, d2, d3, d4] }
  | _ => none }
def ClassesRiseWrongFalsely : Prop := classesRiseRow.holds Try.pinned (OpenSpec.ofChange classesRiseWrong)

/-- 'steadinglaw07.ClassesLeast': WHATEVER THE INPUT: true; the input reads as it did. -/
def classesLeastSpec : ChangeSpec := { name := "classesLeast", fn := fun _ => fun
  | [d] => { results := [.lit (.bool true)], args := [d] }
  | _ => none }
def classesLeastRow : OpenClaim := { program := "ytklccppfofhplaa", sum := "a15f28521d92bb416c508e38adb65f06893c5d0aa9d7418c13bc9b5824e1ae1c", func := "steading/steadinglaw07.ClassesLeast", spec := "classesLeast", apart := false }
def ClassesLeastSaid : Prop := classesLeastRow.holds Try.pinned (OpenSpec.ofChange classesLeastSpec)

/-- ITS FALSE NEIGHBOUR: 'it returns false'. Refute it at one input. -/
def classesLeastWrong : ChangeSpec := { name := "classesLeast", fn := fun _ => fun
  | [d] => { results := [.lit (.bool false)], args := [d] }
  | _ => none }
def ClassesLeastWrongFalsely : Prop := classesLeastRow.holds Try.pinned (OpenSpec.ofChange classesLeastWrong)

/-- 'steadinglaw07.ClassesExact': WHATEVER THE INPUT: true; the input reads as it did. -/
def classesExactSpec : ChangeSpec := { name := "classesExact", fn := fun _ => fun
  | [d1, d2] => { results := [.lit (.bool true)], args := [d1, d2] }
  | _ => none }
def classesExactRow : OpenClaim := { program := "ytklccppfofhplaa", sum := "a15f28521d92bb416c508e38adb65f06893c5d0aa9d7418c13bc9b5824e1ae1c", func := "steading/steadinglaw07.ClassesExact", spec := "classesExact", apart := false }
def ClassesExactSaid : Prop := classesExactRow.holds Try.pinned (OpenSpec.ofChange classesExactSpec)

/-- ITS FALSE NEIGHBOUR: 'it returns false'. Refute it at one input. -/
def classesExactWrong : ChangeSpec := { name := "classesExact", fn := fun _ => fun
  | [d1, d2] => { results := [.lit (.bool false)], args := [d1, d2] }
  | _ => none }
def ClassesExactWrongFalsely : Prop := classesExactRow.holds Try.pinned (OpenSpec.ofChange classesExactWrong)

/- THE SECOND FORM. 'bulk': how many values and letters a reading holds, each counted each time it is reached (what is shared counts as often as it is met; a slice's spare places count too). A statement '..UptoSaid' is the law's where the arguments, and the package variables that the reading takes, are together of bulk at most 1048576: NARROWER than '..Said'. Prove '..Said' where nothing that the law and all that it calls make is longer than what came in: it says more and counts as full. Else prove '..UptoSaid'. A law counts once. -/
mutual
def uptoBulk {H : Type} : DataW H → Nat
  | .lit (.string bytes) => bytes.length + 1
  | .lit _ => 1
  | .nil => 1
  | .ptr d => uptoBulk d + 1
  | .slice elems spare => uptoBulkAll elems + uptoBulkAll spare + 1
  | .agg parts => uptoBulkAll parts + 1
  | .iface _ d => uptoBulk d + 1
  | .map entries => uptoBulkEntries entries + 1
  | .held _ => 1
def uptoBulkAll {H : Type} : List (DataW H) → Nat
  | [] => 0
  | d :: r => uptoBulk d + uptoBulkAll r
def uptoBulkEntries {H : Type} : List (Lit × DataW H) → Nat
  | [] => 0
  | x :: r => uptoBulkEntry x + uptoBulkEntries r
def uptoBulkEntry {H : Type} : Lit × DataW H → Nat
  | (.string bytes, d) => bytes.length + uptoBulk d + 1
  | (_, d) => uptoBulk d + 1
 end
def uptoSmall : (H : Type) → List (DataW H) → Bool := fun _ ds => decide (uptoBulkAll ds ≤ 1048576)
def OpenSpec.upto (s : _root_.Go.ChangeSpec) : _root_.Go.OpenSpec := { _root_.Go.OpenSpec.ofChange s with cond := some uptoSmall }

/-- 'steadinglaw02.WordsBytes', WHERE WHAT IT READS IS OF BULK AT MOST 1048576: true; the input reads as it did. -/
def wordsBytesUptoRow : OpenClaim := { program := "ytklccppfofhplaa", sum := "a15f28521d92bb416c508e38adb65f06893c5d0aa9d7418c13bc9b5824e1ae1c", func := "steading/steadinglaw02.WordsBytes", spec := "wordsBytes", apart := false, narrowed := true }
def WordsBytesUptoSaid : Prop := wordsBytesUptoRow.holds Try.pinned (OpenSpec.upto wordsBytesSpec)

/-- 'steadinglaw02.WordsNumbers', WHERE WHAT IT READS IS OF BULK AT MOST 1048576: true; the input reads as it did. -/
def wordsNumbersUptoRow : OpenClaim := { program := "ytklccppfofhplaa", sum := "a15f28521d92bb416c508e38adb65f06893c5d0aa9d7418c13bc9b5824e1ae1c", func := "steading/steadinglaw02.WordsNumbers", spec := "wordsNumbers", apart := false, narrowed := true }
def WordsNumbersUptoSaid : Prop := wordsNumbersUptoRow.holds Try.pinned (OpenSpec.upto wordsNumbersSpec)

/-- 'steadinglaw02.WordsBack', WHERE WHAT IT READS IS OF BULK AT MOST 1048576: true; the input reads as it did. -/
def wordsBackUptoRow : OpenClaim := { program := "ytklccppfofhplaa", sum := "a15f28521d92bb416c508e38adb65f06893c5d0aa9d7418c13bc9b5824e1ae1c", func := "steading/steadinglaw02.WordsBack", spec := "wordsBack", apart := false, narrowed := true }
def WordsBackUptoSaid : Prop := wordsBackUptoRow.holds Try.pinned (OpenSpec.upto wordsBackSpec)

/-- 'steadinglaw02.WordsSigns', WHERE WHAT IT READS IS OF BULK AT MOST 1048576: true; the input reads as it did. -/
def wordsSignsUptoRow : OpenClaim := { program := "ytklccppfofhplaa", sum := "a15f28521d92bb416c508e38adb65f06893c5d0aa9d7418c13bc9b5824e1ae1c", func := "steading/steadinglaw02.WordsSigns", spec := "wordsSigns", apart := false, narrowed := true }
def WordsSignsUptoSaid : Prop := wordsSignsUptoRow.holds Try.pinned (OpenSpec.upto wordsSignsSpec)

/-- 'steadinglaw02.WordsJoin', WHERE WHAT IT READS IS OF BULK AT MOST 1048576: true; the input reads as it did. -/
def wordsJoinUptoRow : OpenClaim := { program := "ytklccppfofhplaa", sum := "a15f28521d92bb416c508e38adb65f06893c5d0aa9d7418c13bc9b5824e1ae1c", func := "steading/steadinglaw02.WordsJoin", spec := "wordsJoin", apart := false, narrowed := true }
def WordsJoinUptoSaid : Prop := wordsJoinUptoRow.holds Try.pinned (OpenSpec.upto wordsJoinSpec)

/-- 'steadinglaw02.WordsHalves', WHERE WHAT IT READS IS OF BULK AT MOST 1048576: true; the input reads as it did. -/
def wordsHalvesUptoRow : OpenClaim := { program := "ytklccppfofhplaa", sum := "a15f28521d92bb416c508e38adb65f06893c5d0aa9d7418c13bc9b5824e1ae1c", func := "steading/steadinglaw02.WordsHalves", spec := "wordsHalves", apart := false, narrowed := true }
def WordsHalvesUptoSaid : Prop := wordsHalvesUptoRow.holds Try.pinned (OpenSpec.upto wordsHalvesSpec)

/-- 'steadinglaw07.ClassesPages', WHERE WHAT IT READS IS OF BULK AT MOST 1048576: true; the input reads as it did. -/
def classesPagesUptoRow : OpenClaim := { program := "ytklccppfofhplaa", sum := "a15f28521d92bb416c508e38adb65f06893c5d0aa9d7418c13bc9b5824e1ae1c", func := "steading/steadinglaw07.ClassesPages", spec := "classesPages", apart := false, narrowed := true }
def ClassesPagesUptoSaid : Prop := classesPagesUptoRow.holds Try.pinned (OpenSpec.upto classesPagesSpec)

/-- 'steadinglaw07.ClassesChunk', WHERE WHAT IT READS IS OF BULK AT MOST 1048576: true; the input reads as it did. -/
def classesChunkUptoRow : OpenClaim := { program := "ytklccppfofhplaa", sum := "a15f28521d92bb416c508e38adb65f06893c5d0aa9d7418c13bc9b5824e1ae1c", func := "steading/steadinglaw07.ClassesChunk", spec := "classesChunk", apart := false, narrowed := true }
def ClassesChunkUptoSaid : Prop := classesChunkUptoRow.holds Try.pinned (OpenSpec.upto classesChunkSpec)

/-- 'steadinglaw07.ClassesHold', WHERE WHAT IT READS IS OF BULK AT MOST 1048576: true; the input reads as it did. -/
def classesHoldUptoRow : OpenClaim := { program := "ytklccppfofhplaa", sum := "a15f28521d92bb416c508e38adb65f06893c5d0aa9d7418c13bc9b5824e1ae1c", func := "steading/steadinglaw07.ClassesHold", spec := "classesHold", apart := false, narrowed := true }
def ClassesHoldUptoSaid : Prop := classesHoldUptoRow.holds Try.pinned (OpenSpec.upto classesHoldSpec)

/-- 'steadinglaw07.ClassesRise', WHERE WHAT IT READS IS OF BULK AT MOST 1048576: true; the input reads as it did. -/
def classesRiseUptoRow : OpenClaim := { program := "ytklccppfofhplaa", sum := "a15f28521d92bb416c508e38adb65f06893c5d0aa9d7418c13bc9b5824e1ae1c", func := "steading/steadinglaw07.ClassesRise", spec := "classesRise", apart := false, narrowed := true }
def ClassesRiseUptoSaid : Prop := classesRiseUptoRow.holds Try.pinned (OpenSpec.upto classesRiseSpec)

/-- 'steadinglaw07.ClassesLeast', WHERE WHAT IT READS IS OF BULK AT MOST 1048576: true; the input reads as it did. -/
def classesLeastUptoRow : OpenClaim := { program := "ytklccppfofhplaa", sum := "a15f28521d92bb416c508e38adb65f06893c5d0aa9d7418c13bc9b5824e1ae1c", func := "steading/steadinglaw07.ClassesLeast", spec := "classesLeast", apart := false, narrowed := true }
def ClassesLeastUptoSaid : Prop := classesLeastUptoRow.holds Try.pinned (OpenSpec.upto classesLeastSpec)

/-- 'steadinglaw07.ClassesExact', WHERE WHAT IT READS IS OF BULK AT MOST 1048576: true; the input reads as it did. -/
def classesExactUptoRow : OpenClaim := { program := "ytklccppfofhplaa", sum := "a15f28521d92bb416c508e38adb65f06893c5d0aa9d7418c13bc9b5824e1ae1c", func := "steading/steadinglaw07.ClassesExact", spec := "classesExact", apart := false, narrowed := true }
def ClassesExactUptoSaid : Prop := classesExactUptoRow.holds Try.pinned (OpenSpec.upto classesExactSpec)

end Rows
end Go.Proofs.Ytklccppfofhplaa
