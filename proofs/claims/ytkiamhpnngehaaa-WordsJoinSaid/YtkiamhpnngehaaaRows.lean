/-
  No cell of these rows narrows 'for every input' (looked for: loops, veiled, ifaces, maps, wideKeys, modest, calm, conditions, laid).
  DERIVED. THE GIVEN ROWS OF THIS SEAT. 8 by the template 'for every input the law returns true; each argument reads behind the call as it read before'; 0 by the template 'total and deterministic' (their statements: YtkiamhpnngehaaaTotals.lean).
  GIVEN WITH THE SEED: the statements are not yours to turn. If you find one false, say at which input.
  Laid BY PROGRAM, IN A SANDBOX (cutbox-rows.mjs): the forced cells as the released guide's own fill.sh prints them over the translation cae0060dcf2e7c4a… (all of the seat's roots in one cut). By AI agents, Wed Nov 11 2026. No macro, syntax, notation, axiom, sorry.
-/
import Derived.Test.YtkiamhpnngehaaaChecked
import GoSem.Claim
import GoSem.ClaimJoined
import GoSem.ClaimMapViews
import Derived.JoinedTies
import Derived.KernelRfl
namespace Go.Proofs.Ytkiamhpnngehaaa
/- THE CELL 'sum', in the pinned program and in every row, IS THE sha256 OF THE DUMP (.gsa) THAT YtkiamhpnngehaaaProg.lean LOADS. Nothing in Lean hashes anything: it is a label: what it is worth is what the hold of that sum in a sandbox is worth. -/
noncomputable def Try.pinned : Pinned := { name := "ytkiamhpnngehaaa", sum := "cae0060dcf2e7c4a597c6eef951b0bd65da6512eef2d5fa988cf086ce50c97d7", checked := Try.checked }
namespace Rows
def none {H : Type} : Left H := { results := [], args := [] }

/-- 'steadinglaw02.WordsBytes': WHATEVER THE INPUT: true; the input reads as it did. -/
def wordsBytesSpec : ChangeSpec := { name := "wordsBytes", fn := fun _ => fun
  | [d1, d2, d3, d4] => { results := [.lit (.bool true)], args := [d1, d2, d3, d4] }
  | _ => none }
def wordsBytesRow : OpenClaim := { program := "ytkiamhpnngehaaa", sum := "cae0060dcf2e7c4a597c6eef951b0bd65da6512eef2d5fa988cf086ce50c97d7", func := "steading/steadinglaw02.WordsBytes", spec := "wordsBytes", plainKeys := false, apart := false }
def WordsBytesSaid : Prop := wordsBytesRow.holds Try.pinned (OpenSpec.ofChange wordsBytesSpec)

/-- ITS FALSE NEIGHBOUR: 'it returns false'. Refute it at one input. -/
def wordsBytesWrong : ChangeSpec := { name := "wordsBytes", fn := fun _ => fun
  | [d1, d2, d3, d4] => { results := [.lit (.bool false)], args := [d1, d2, d3, d4] }
  | _ => none }
def WordsBytesWrongFalsely : Prop := wordsBytesRow.holds Try.pinned (OpenSpec.ofChange wordsBytesWrong)

/-- 'steadinglaw02.WordsBack': WHATEVER THE INPUT: true; the input reads as it did. -/
def wordsBackSpec : ChangeSpec := { name := "wordsBack", fn := fun _ => fun
  | [d1, d2, d3, d4] => { results := [.lit (.bool true)], args := [d1, d2, d3, d4] }
  | _ => none }
def wordsBackRow : OpenClaim := { program := "ytkiamhpnngehaaa", sum := "cae0060dcf2e7c4a597c6eef951b0bd65da6512eef2d5fa988cf086ce50c97d7", func := "steading/steadinglaw02.WordsBack", spec := "wordsBack", plainKeys := false, apart := false }
def WordsBackSaid : Prop := wordsBackRow.holds Try.pinned (OpenSpec.ofChange wordsBackSpec)

/-- ITS FALSE NEIGHBOUR: 'it returns false'. Refute it at one input. -/
def wordsBackWrong : ChangeSpec := { name := "wordsBack", fn := fun _ => fun
  | [d1, d2, d3, d4] => { results := [.lit (.bool false)], args := [d1, d2, d3, d4] }
  | _ => none }
def WordsBackWrongFalsely : Prop := wordsBackRow.holds Try.pinned (OpenSpec.ofChange wordsBackWrong)

/-- 'steadinglaw02.WordsSigns': WHATEVER THE INPUT: true; the input reads as it did. -/
def wordsSignsSpec : ChangeSpec := { name := "wordsSigns", fn := fun _ => fun
  | [d1, d2] => { results := [.lit (.bool true)], args := [d1, d2] }
  | _ => none }
def wordsSignsRow : OpenClaim := { program := "ytkiamhpnngehaaa", sum := "cae0060dcf2e7c4a597c6eef951b0bd65da6512eef2d5fa988cf086ce50c97d7", func := "steading/steadinglaw02.WordsSigns", spec := "wordsSigns", plainKeys := false, apart := false }
def WordsSignsSaid : Prop := wordsSignsRow.holds Try.pinned (OpenSpec.ofChange wordsSignsSpec)

/-- ITS FALSE NEIGHBOUR: 'it returns false'. Refute it at one input. -/
def wordsSignsWrong : ChangeSpec := { name := "wordsSigns", fn := fun _ => fun
  | [d1, d2] => { results := [.lit (.bool false)], args := [d1, d2] }
  | _ => none }
def WordsSignsWrongFalsely : Prop := wordsSignsRow.holds Try.pinned (OpenSpec.ofChange wordsSignsWrong)

/-- 'steadinglaw02.WordsJoin': WHATEVER THE INPUT: true; the input reads as it did. -/
def wordsJoinSpec : ChangeSpec := { name := "wordsJoin", fn := fun _ => fun
  | [d1, d2] => { results := [.lit (.bool true)], args := [d1, d2] }
  | _ => none }
def wordsJoinRow : OpenClaim := { program := "ytkiamhpnngehaaa", sum := "cae0060dcf2e7c4a597c6eef951b0bd65da6512eef2d5fa988cf086ce50c97d7", func := "steading/steadinglaw02.WordsJoin", spec := "wordsJoin", plainKeys := false, apart := false }
def WordsJoinSaid : Prop := wordsJoinRow.holds Try.pinned (OpenSpec.ofChange wordsJoinSpec)

/-- ITS FALSE NEIGHBOUR: 'it returns false'. Refute it at one input. -/
def wordsJoinWrong : ChangeSpec := { name := "wordsJoin", fn := fun _ => fun
  | [d1, d2] => { results := [.lit (.bool false)], args := [d1, d2] }
  | _ => none }
def WordsJoinWrongFalsely : Prop := wordsJoinRow.holds Try.pinned (OpenSpec.ofChange wordsJoinWrong)

/-- 'steadinglaw02.WordsHalves': WHATEVER THE INPUT: true; the input reads as it did. -/
def wordsHalvesSpec : ChangeSpec := { name := "wordsHalves", fn := fun _ => fun
  | [d1, d2, d3, d4] => { results := [.lit (.bool true)], args := [d1, d2, d3, d4] }
  | _ => none }
def wordsHalvesRow : OpenClaim := { program := "ytkiamhpnngehaaa", sum := "cae0060dcf2e7c4a597c6eef951b0bd65da6512eef2d5fa988cf086ce50c97d7", func := "steading/steadinglaw02.WordsHalves", spec := "wordsHalves", plainKeys := false, apart := false }
def WordsHalvesSaid : Prop := wordsHalvesRow.holds Try.pinned (OpenSpec.ofChange wordsHalvesSpec)

/-- ITS FALSE NEIGHBOUR: 'it returns false'. Refute it at one input. -/
def wordsHalvesWrong : ChangeSpec := { name := "wordsHalves", fn := fun _ => fun
  | [d1, d2, d3, d4] => { results := [.lit (.bool false)], args := [d1, d2, d3, d4] }
  | _ => none }
def WordsHalvesWrongFalsely : Prop := wordsHalvesRow.holds Try.pinned (OpenSpec.ofChange wordsHalvesWrong)

/-- 'steadinglaw07.ClassesRise': WHATEVER THE INPUT: true; the input reads as it did. -/
def classesRiseSpec : ChangeSpec := { name := "classesRise", fn := fun _ => fun
  | [d1, d2, d3, d4] => { results := [.lit (.bool true)], args := [d1, d2, d3, d4] }
  | _ => none }
def classesRiseRow : OpenClaim := { program := "ytkiamhpnngehaaa", sum := "cae0060dcf2e7c4a597c6eef951b0bd65da6512eef2d5fa988cf086ce50c97d7", func := "steading/steadinglaw07.ClassesRise", spec := "classesRise", plainKeys := false, apart := false }
def ClassesRiseSaid : Prop := classesRiseRow.holds Try.pinned (OpenSpec.ofChange classesRiseSpec)

/-- ITS FALSE NEIGHBOUR: 'it returns false'. Refute it at one input. -/
def classesRiseWrong : ChangeSpec := { name := "classesRise", fn := fun _ => fun
  | [d1, d2, d3, d4] => { results := [.lit (.bool false)], args := [d1, d2, d3, d4] }
  | _ => none }
def ClassesRiseWrongFalsely : Prop := classesRiseRow.holds Try.pinned (OpenSpec.ofChange classesRiseWrong)

/-- 'steadinglaw09.CachePlays': WHATEVER THE INPUT: true; the input reads as it did. -/
def cachePlaysSpec : ChangeSpec := { name := "cachePlays", fn := fun _ => fun
  | [d] => { results := [.lit (.bool true)], args := [d] }
  | _ => none }
def cachePlaysRow : OpenClaim := { program := "ytkiamhpnngehaaa", sum := "cae0060dcf2e7c4a597c6eef951b0bd65da6512eef2d5fa988cf086ce50c97d7", func := "steading/steadinglaw09.CachePlays", spec := "cachePlays", plainKeys := false, apart := false }
def CachePlaysSaid : Prop := cachePlaysRow.holds Try.pinned (OpenSpec.ofChange cachePlaysSpec)

/-- ITS FALSE NEIGHBOUR: 'it returns false'. Refute it at one input. -/
def cachePlaysWrong : ChangeSpec := { name := "cachePlays", fn := fun _ => fun
  | [d] => { results := [.lit (.bool false)], args := [d] }
  | _ => none }
def CachePlaysWrongFalsely : Prop := cachePlaysRow.holds Try.pinned (OpenSpec.ofChange cachePlaysWrong)

/-- 'steadinglaw03.SpacePlays': WHATEVER THE INPUT: true; the input reads as it did. -/
def spacePlaysSpec : ChangeSpec := { name := "spacePlays", fn := fun _ => fun
  | [d1, d2] => { results := [.lit (.bool true)], args := [d1, d2] }
  | _ => none }
def spacePlaysRow : OpenClaim := { program := "ytkiamhpnngehaaa", sum := "cae0060dcf2e7c4a597c6eef951b0bd65da6512eef2d5fa988cf086ce50c97d7", func := "steading/steadinglaw03.SpacePlays", spec := "spacePlays", unfollowed := true, recurses := true, plainKeys := false, apart := false }
def SpacePlaysSaid : Prop := spacePlaysRow.holds Try.pinned (OpenSpec.ofChange spacePlaysSpec)

/-- ITS FALSE NEIGHBOUR: 'it returns false'. Refute it at one input. -/
def spacePlaysWrong : ChangeSpec := { name := "spacePlays", fn := fun _ => fun
  | [d1, d2] => { results := [.lit (.bool false)], args := [d1, d2] }
  | _ => none }
def SpacePlaysWrongFalsely : Prop := spacePlaysRow.holds Try.pinned (OpenSpec.ofChange spacePlaysWrong)

/- THE SECOND FORM. 'bulk': how many values and letters a reading holds, each counted each time it is reached (what is shared counts as often as it is met; a slice's spare places count too). A statement '..UptoSaid' is the law's where the arguments, and the package variables that the reading takes, are together of bulk at most 1048576: NARROWER than '..Said'. Prove '..Said' where nothing that the law and all that it calls make is longer than what came in: it says more and counts as full. Else prove '..UptoSaid'. A law counts once. -/
mutual
def uptoBulk {H : Type} : DataW H → Nat
  | .lit (.string bytes) => bytes.length + 1
  | .lit _ => 1
  | .nil => 1
  | .ptr d => uptoBulk d + 1
  | .slice elems spare => uptoBulkAll elems + uptoBulkAll spare + 1
  | .agg parts => uptoBulkAll parts + 1
  | .iface _ d => uptoBulk d + 1
  | .map entries => uptoBulkEntries entries + 1
  | .held _ => 1
def uptoBulkAll {H : Type} : List (DataW H) → Nat
  | [] => 0
  | d :: r => uptoBulk d + uptoBulkAll r
def uptoBulkEntries {H : Type} : List (Lit × DataW H) → Nat
  | [] => 0
  | x :: r => uptoBulkEntry x + uptoBulkEntries r
def uptoBulkEntry {H : Type} : Lit × DataW H → Nat
  | (.string bytes, d) => bytes.length + uptoBulk d + 1
  | (_, d) => uptoBulk d + 1
 end
def uptoSmall : (H : Type) → List (DataW H) → Bool := fun _ ds => decide (uptoBulkAll ds ≤ 1048576)
def OpenSpec.upto (s : _root_.Go.ChangeSpec) : _root_.Go.OpenSpec := { _root_.Go.OpenSpec.ofChange s with cond := some uptoSmall }

/-- 'steadinglaw02.WordsBytes', WHERE WHAT IT READS IS OF BULK AT MOST 1048576: true; the input reads as it did. -/
def wordsBytesUptoRow : OpenClaim := { program := "ytkiamhpnngehaaa", sum := "cae0060dcf2e7c4a597c6eef951b0bd65da6512eef2d5fa988cf086ce50c97d7", func := "steading/steadinglaw02.WordsBytes", spec := "wordsBytes", plainKeys := false, apart := false, narrowed := true }
def WordsBytesUptoSaid : Prop := wordsBytesUptoRow.holds Try.pinned (OpenSpec.upto wordsBytesSpec)

/-- 'steadinglaw02.WordsBack', WHERE WHAT IT READS IS OF BULK AT MOST 1048576: true; the input reads as it did. -/
def wordsBackUptoRow : OpenClaim := { program := "ytkiamhpnngehaaa", sum := "cae0060dcf2e7c4a597c6eef951b0bd65da6512eef2d5fa988cf086ce50c97d7", func := "steading/steadinglaw02.WordsBack", spec := "wordsBack", plainKeys := false, apart := false, narrowed := true }
def WordsBackUptoSaid : Prop := wordsBackUptoRow.holds Try.pinned (OpenSpec.upto wordsBackSpec)

/-- 'steadinglaw02.WordsSigns', WHERE WHAT IT READS IS OF BULK AT MOST 1048576: true; the input reads as it did. -/
def wordsSignsUptoRow : OpenClaim := { program := "ytkiamhpnngehaaa", sum := "cae0060dcf2e7c4a597c6eef951b0bd65da6512eef2d5fa988cf086ce50c97d7", func := "steading/steadinglaw02.WordsSigns", spec := "wordsSigns", plainKeys := false, apart := false, narrowed := true }
def WordsSignsUptoSaid : Prop := wordsSignsUptoRow.holds Try.pinned (OpenSpec.upto wordsSignsSpec)

/-- 'steadinglaw02.WordsJoin', WHERE WHAT IT READS IS OF BULK AT MOST 1048576: true; the input reads as it did. -/
def wordsJoinUptoRow : OpenClaim := { program := "ytkiamhpnngehaaa", sum := "cae0060dcf2e7c4a597c6eef951b0bd65da6512eef2d5fa988cf086ce50c97d7", func := "steading/steadinglaw02.WordsJoin", spec := "wordsJoin", plainKeys := false, apart := false, narrowed := true }
def WordsJoinUptoSaid : Prop := wordsJoinUptoRow.holds Try.pinned (OpenSpec.upto wordsJoinSpec)

/-- 'steadinglaw02.WordsHalves', WHERE WHAT IT READS IS OF BULK AT MOST 1048576: true; the input reads as it did. -/
def wordsHalvesUptoRow : OpenClaim := { program := "ytkiamhpnngehaaa", sum := "cae0060dcf2e7c4a597c6eef951b0bd65da6512eef2d5fa988cf086ce50c97d7", func := "steading/steadinglaw02.WordsHalves", spec := "wordsHalves", plainKeys := false, apart := false, narrowed := true }
def WordsHalvesUptoSaid : Prop := wordsHalvesUptoRow.holds Try.pinned (OpenSpec.upto wordsHalvesSpec)

/-- 'steadinglaw07.ClassesRise', WHERE WHAT IT READS IS OF BULK AT MOST 1048576: true; the input reads as it did. -/
def classesRiseUptoRow : OpenClaim := { program := "ytkiamhpnngehaaa", sum := "cae0060dcf2e7c4a597c6eef951b0bd65da6512eef2d5fa988cf086ce50c97d7", func := "steading/steadinglaw07.ClassesRise", spec := "classesRise", plainKeys := false, apart := false, narrowed := true }
def ClassesRiseUptoSaid : Prop := classesRiseUptoRow.holds Try.pinned (OpenSpec.upto classesRiseSpec)

/-- 'steadinglaw09.CachePlays', WHERE WHAT IT READS IS OF BULK AT MOST 1048576: true; the input reads as it did. -/
def cachePlaysUptoRow : OpenClaim := { program := "ytkiamhpnngehaaa", sum := "cae0060dcf2e7c4a597c6eef951b0bd65da6512eef2d5fa988cf086ce50c97d7", func := "steading/steadinglaw09.CachePlays", spec := "cachePlays", plainKeys := false, apart := false, narrowed := true }
def CachePlaysUptoSaid : Prop := cachePlaysUptoRow.holds Try.pinned (OpenSpec.upto cachePlaysSpec)

/-- 'steadinglaw03.SpacePlays', WHERE WHAT IT READS IS OF BULK AT MOST 1048576: true; the input reads as it did. -/
def spacePlaysUptoRow : OpenClaim := { program := "ytkiamhpnngehaaa", sum := "cae0060dcf2e7c4a597c6eef951b0bd65da6512eef2d5fa988cf086ce50c97d7", func := "steading/steadinglaw03.SpacePlays", spec := "spacePlays", unfollowed := true, recurses := true, plainKeys := false, apart := false, narrowed := true }
def SpacePlaysUptoSaid : Prop := spacePlaysUptoRow.holds Try.pinned (OpenSpec.upto spacePlaysSpec)

end Rows
end Go.Proofs.Ytkiamhpnngehaaa
