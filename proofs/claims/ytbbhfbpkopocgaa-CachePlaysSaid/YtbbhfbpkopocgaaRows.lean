/-
  No cell of these rows narrows 'for every input' (looked for: loops, veiled, ifaces, maps, wideKeys, modest, calm, conditions, laid).
  DERIVED. THE GIVEN ROWS OF THIS SEAT. 12 by the template 'for every input the law returns true; each argument reads behind the call as it read before'; 0 by the template 'total and deterministic' (their statements: YtbbhfbpkopocgaaTotals.lean).
  GIVEN WITH THE SEED: the statements are not yours to turn. If you find one false, say at which input.
  Laid BY PROGRAM, IN A SANDBOX (cutbox-rows.mjs): the forced cells as the released guide's own fill.sh prints them over the translation d08d35ab8331b1b2… (all of the seat's roots in one cut). By AI agents, Wed Nov 11 2026. No macro, syntax, notation, axiom, sorry.
-/
import Derived.Test.YtbbhfbpkopocgaaChecked
import GoSem.Claim
import GoSem.ClaimJoined
import GoSem.ClaimMapViews
import Derived.JoinedTies
import Derived.KernelRfl
namespace Go.Proofs.Ytbbhfbpkopocgaa
/- THE CELL 'sum', in the pinned program and in every row, IS THE sha256 OF THE DUMP (.gsa) THAT YtbbhfbpkopocgaaProg.lean LOADS. Nothing in Lean hashes anything: it is a label: what it is worth is what the hold of that sum in a sandbox is worth. -/
noncomputable def Try.pinned : Pinned := { name := "ytbbhfbpkopocgaa", sum := "d08d35ab8331b1b254775a8791bff5e92bdc33b6f860973aa80cb78852ee10d7", checked := Try.checked }
namespace Rows
def none {H : Type} : Left H := { results := [], args := [] }

/-- 'steadinglaw09.CacheLast': WHATEVER THE INPUT: true; the input reads as it did. -/
def cacheLastSpec : ChangeSpec := { name := "cacheLast", fn := fun _ => fun
  | [d1, d2, d3] => { results := [.lit (.bool true)], args := [d1, d2, d3] }
  | _ => none }
def cacheLastRow : OpenClaim := { program := "ytbbhfbpkopocgaa", sum := "d08d35ab8331b1b254775a8791bff5e92bdc33b6f860973aa80cb78852ee10d7", func := "steading/steadinglaw09.CacheLast", spec := "cacheLast", plainKeys := false, apart := false }
def CacheLastSaid : Prop := cacheLastRow.holds Try.pinned (OpenSpec.ofChange cacheLastSpec)

/-- ITS FALSE NEIGHBOUR: 'it returns false'. Refute it at one input. -/
def cacheLastWrong : ChangeSpec := { name := "cacheLast", fn := fun _ => fun
  | [d1, d2, d3] => { results := [.lit (.bool false)], args := [d1, d2, d3] }
  | _ => none }
def CacheLastWrongFalsely : Prop := cacheLastRow.holds Try.pinned (OpenSpec.ofChange cacheLastWrong)

/-- 'steadinglaw09.CacheFills': WHATEVER THE INPUT: true; the input reads as it did. -/
def cacheFillsSpec : ChangeSpec := { name := "cacheFills", fn := fun _ => fun
  | [d1, d2] => { results := [.lit (.bool true)], args := [d1, d2] }
  | _ => none }
def cacheFillsRow : OpenClaim := { program := "ytbbhfbpkopocgaa", sum := "d08d35ab8331b1b254775a8791bff5e92bdc33b6f860973aa80cb78852ee10d7", func := "steading/steadinglaw09.CacheFills", spec := "cacheFills", plainKeys := false, apart := false }
def CacheFillsSaid : Prop := cacheFillsRow.holds Try.pinned (OpenSpec.ofChange cacheFillsSpec)

/-- ITS FALSE NEIGHBOUR: 'it returns false'. Refute it at one input. -/
def cacheFillsWrong : ChangeSpec := { name := "cacheFills", fn := fun _ => fun
  | [d1, d2] => { results := [.lit (.bool false)], args := [d1, d2] }
  | _ => none }
def CacheFillsWrongFalsely : Prop := cacheFillsRow.holds Try.pinned (OpenSpec.ofChange cacheFillsWrong)

/-- 'steadinglaw09.CacheTurns': WHATEVER THE INPUT: true; the input reads as it did. -/
def cacheTurnsSpec : ChangeSpec := { name := "cacheTurns", fn := fun _ => fun
  | [d1, d2] => { results := [.lit (.bool true)], args := [d1, d2] }
  | _ => none }
def cacheTurnsRow : OpenClaim := { program := "ytbbhfbpkopocgaa", sum := "d08d35ab8331b1b254775a8791bff5e92bdc33b6f860973aa80cb78852ee10d7", func := "steading/steadinglaw09.CacheTurns", spec := "cacheTurns", plainKeys := false, apart := false }
def CacheTurnsSaid : Prop := cacheTurnsRow.holds Try.pinned (OpenSpec.ofChange cacheTurnsSpec)

/-- ITS FALSE NEIGHBOUR: 'it returns false'. Refute it at one input. -/
def cacheTurnsWrong : ChangeSpec := { name := "cacheTurns", fn := fun _ => fun
  | [d1, d2] => { results := [.lit (.bool false)], args := [d1, d2] }
  | _ => none }
def CacheTurnsWrongFalsely : Prop := cacheTurnsRow.holds Try.pinned (OpenSpec.ofChange cacheTurnsWrong)

/-- 'steadinglaw09.CachePlays': WHATEVER THE INPUT: true; the input reads as it did. -/
def cachePlaysSpec : ChangeSpec := { name := "cachePlays", fn := fun _ => fun
  | [d] => { results := [.lit (.bool true)], args := [d] }
  | _ => none }
def cachePlaysRow : OpenClaim := { program := "ytbbhfbpkopocgaa", sum := "d08d35ab8331b1b254775a8791bff5e92bdc33b6f860973aa80cb78852ee10d7", func := "steading/steadinglaw09.CachePlays", spec := "cachePlays", plainKeys := false, apart := false }
def CachePlaysSaid : Prop := cachePlaysRow.holds Try.pinned (OpenSpec.ofChange cachePlaysSpec)

/-- ITS FALSE NEIGHBOUR: 'it returns false'. Refute it at one input. -/
def cachePlaysWrong : ChangeSpec := { name := "cachePlays", fn := fun _ => fun
  | [d] => { results := [.lit (.bool false)], args := [d] }
  | _ => none }
def CachePlaysWrongFalsely : Prop := cachePlaysRow.holds Try.pinned (OpenSpec.ofChange cachePlaysWrong)

/-- 'steadinglaw09.CacheSums': WHATEVER THE INPUT: true; the input reads as it did. -/
def cacheSumsSpec : ChangeSpec := { name := "cacheSums", fn := fun _ => fun
  | [d] => { results := [.lit (.bool true)], args := [d] }
  | _ => none }
def cacheSumsRow : OpenClaim := { program := "ytbbhfbpkopocgaa", sum := "d08d35ab8331b1b254775a8791bff5e92bdc33b6f860973aa80cb78852ee10d7", func := "steading/steadinglaw09.CacheSums", spec := "cacheSums", plainKeys := false, apart := false }
def CacheSumsSaid : Prop := cacheSumsRow.holds Try.pinned (OpenSpec.ofChange cacheSumsSpec)

/-- ITS FALSE NEIGHBOUR: 'it returns false'. Refute it at one input. -/
def cacheSumsWrong : ChangeSpec := { name := "cacheSums", fn := fun _ => fun
  | [d] => { results := [.lit (.bool false)], args := [d] }
  | _ => none }
def CacheSumsWrongFalsely : Prop := cacheSumsRow.holds Try.pinned (OpenSpec.ofChange cacheSumsWrong)

/-- 'steadinglaw03.SpaceBack': WHATEVER THE INPUT: true; the input reads as it did. -/
def spaceBackSpec : ChangeSpec := { name := "spaceBack", fn := fun _ => fun
  | [d1, d2, d3, d4, d5] => { results := [.lit (.bool true)], args := [d1, d2, d3, d4, d5] }
  | _ => none }
def spaceBackRow : OpenClaim := { program := "ytbbhfbpkopocgaa", sum := "d08d35ab8331b1b254775a8791bff5e92bdc33b6f860973aa80cb78852ee10d7", func := "steading/steadinglaw03.SpaceBack", spec := "spaceBack", unfollowed := true, recurses := true, plainKeys := false, apart := false }
def SpaceBackSaid : Prop := spaceBackRow.holds Try.pinned (OpenSpec.ofChange spaceBackSpec)

/-- ITS FALSE NEIGHBOUR: 'it returns false'. Refute it at one input. -/
def spaceBackWrong : ChangeSpec := { name := "spaceBack", fn := fun _ => fun
  | [d1, d2, d3, d4, d5] => { results := [.lit (.bool false)], args := [d1, d2, d3, d4, d5] }
  | _ => none }
def SpaceBackWrongFalsely : Prop := spaceBackRow.holds Try.pinned (OpenSpec.ofChange spaceBackWrong)

/-- 'steadinglaw03.SpaceMoves': WHATEVER THE INPUT: true; the input reads as it did. -/
def spaceMovesSpec : ChangeSpec := { name := "spaceMoves", fn := fun _ => fun
  | [d1, d2, d3, d4, d5] => { results := [.lit (.bool true)], args := [d1, d2, d3, d4, d5] }
  | _ => none }
def spaceMovesRow : OpenClaim := { program := "ytbbhfbpkopocgaa", sum := "d08d35ab8331b1b254775a8791bff5e92bdc33b6f860973aa80cb78852ee10d7", func := "steading/steadinglaw03.SpaceMoves", spec := "spaceMoves", unfollowed := true, recurses := true, plainKeys := false, apart := false }
def SpaceMovesSaid : Prop := spaceMovesRow.holds Try.pinned (OpenSpec.ofChange spaceMovesSpec)

/-- ITS FALSE NEIGHBOUR: 'it returns false'. Refute it at one input. -/
def spaceMovesWrong : ChangeSpec := { name := "spaceMoves", fn := fun _ => fun
  | [d1, d2, d3, d4, d5] => { results := [.lit (.bool false)], args := [d1, d2, d3, d4, d5] }
  | _ => none }
def SpaceMovesWrongFalsely : Prop := spaceMovesRow.holds Try.pinned (OpenSpec.ofChange spaceMovesWrong)

/-- 'steadinglaw03.SpaceZero': WHATEVER THE INPUT: true; the input reads as it did. -/
def spaceZeroSpec : ChangeSpec := { name := "spaceZero", fn := fun _ => fun
  | [d1, d2, d3, d4] => { results := [.lit (.bool true)], args := [d1, d2, d3, d4] }
  | _ => none }
def spaceZeroRow : OpenClaim := { program := "ytbbhfbpkopocgaa", sum := "d08d35ab8331b1b254775a8791bff5e92bdc33b6f860973aa80cb78852ee10d7", func := "steading/steadinglaw03.SpaceZero", spec := "spaceZero", unfollowed := true, recurses := true, plainKeys := false, apart := false }
def SpaceZeroSaid : Prop := spaceZeroRow.holds Try.pinned (OpenSpec.ofChange spaceZeroSpec)

/-- ITS FALSE NEIGHBOUR: 'it returns false'. Refute it at one input. -/
def spaceZeroWrong : ChangeSpec := { name := "spaceZero", fn := fun _ => fun
  | [d1, d2, d3, d4] => { results := [.lit (.bool false)], args := [d1, d2, d3, d4] }
  | _ => none }
def SpaceZeroWrongFalsely : Prop := spaceZeroRow.holds Try.pinned (OpenSpec.ofChange spaceZeroWrong)

/-- 'steadinglaw03.SpaceTicks': WHATEVER THE INPUT: true; the input reads as it did. -/
def spaceTicksSpec : ChangeSpec := { name := "spaceTicks", fn := fun _ => fun
  | [d1, d2, d3] => { results := [.lit (.bool true)], args := [d1, d2, d3] }
  | _ => none }
def spaceTicksRow : OpenClaim := { program := "ytbbhfbpkopocgaa", sum := "d08d35ab8331b1b254775a8791bff5e92bdc33b6f860973aa80cb78852ee10d7", func := "steading/steadinglaw03.SpaceTicks", spec := "spaceTicks", unfollowed := true, recurses := true, plainKeys := false, apart := false }
def SpaceTicksSaid : Prop := spaceTicksRow.holds Try.pinned (OpenSpec.ofChange spaceTicksSpec)

/-- ITS FALSE NEIGHBOUR: 'it returns false'. Refute it at one input. -/
def spaceTicksWrong : ChangeSpec := { name := "spaceTicks", fn := fun _ => fun
  | [d1, d2, d3] => { results := [.lit (.bool false)], args := [d1, d2, d3] }
  | _ => none }
def SpaceTicksWrongFalsely : Prop := spaceTicksRow.holds Try.pinned (OpenSpec.ofChange spaceTicksWrong)

/-- 'steadinglaw03.SpacePlays': WHATEVER THE INPUT: true; the input reads as it did. -/
def spacePlaysSpec : ChangeSpec := { name := "spacePlays", fn := fun _ => fun
  | [d1, d2] => { results := [.lit (.bool true)], args := [d1, d2] }
  | _ => none }
def spacePlaysRow : OpenClaim := { program := "ytbbhfbpkopocgaa", sum := "d08d35ab8331b1b254775a8791bff5e92bdc33b6f860973aa80cb78852ee10d7", func := "steading/steadinglaw03.SpacePlays", spec := "spacePlays", unfollowed := true, recurses := true, plainKeys := false, apart := false }
def SpacePlaysSaid : Prop := spacePlaysRow.holds Try.pinned (OpenSpec.ofChange spacePlaysSpec)

/-- ITS FALSE NEIGHBOUR: 'it returns false'. Refute it at one input. -/
def spacePlaysWrong : ChangeSpec := { name := "spacePlays", fn := fun _ => fun
  | [d1, d2] => { results := [.lit (.bool false)], args := [d1, d2] }
  | _ => none }
def SpacePlaysWrongFalsely : Prop := spacePlaysRow.holds Try.pinned (OpenSpec.ofChange spacePlaysWrong)

/-- 'steadinglaw03.SpaceApart': WHATEVER THE INPUT: true; the input reads as it did. -/
def spaceApartSpec : ChangeSpec := { name := "spaceApart", fn := fun _ => fun
  | [d1, d2, d3, d4] => { results := [.lit (.bool true)], args := [d1, d2, d3, d4] }
  | _ => none }
def spaceApartRow : OpenClaim := { program := "ytbbhfbpkopocgaa", sum := "d08d35ab8331b1b254775a8791bff5e92bdc33b6f860973aa80cb78852ee10d7", func := "steading/steadinglaw03.SpaceApart", spec := "spaceApart", unfollowed := true, recurses := true, plainKeys := false, apart := false }
def SpaceApartSaid : Prop := spaceApartRow.holds Try.pinned (OpenSpec.ofChange spaceApartSpec)

/-- ITS FALSE NEIGHBOUR: 'it returns false'. Refute it at one input. -/
def spaceApartWrong : ChangeSpec := { name := "spaceApart", fn := fun _ => fun
  | [d1, d2, d3, d4] => { results := [.lit (.bool false)], args := [d1, d2, d3, d4] }
  | _ => none }
def SpaceApartWrongFalsely : Prop := spaceApartRow.holds Try.pinned (OpenSpec.ofChange spaceApartWrong)

/-- 'steadinglaw03.SpaceParts': WHATEVER THE INPUT: true; the input reads as it did. -/
def spacePartsSpec : ChangeSpec := { name := "spaceParts", fn := fun _ => fun
  | [d1, d2, d3, d4, d5] => { results := [.lit (.bool true)], args := [d1, d2, d3, d4, d5] }
  | _ => none }
def spacePartsRow : OpenClaim := { program := "ytbbhfbpkopocgaa", sum := "d08d35ab8331b1b254775a8791bff5e92bdc33b6f860973aa80cb78852ee10d7", func := "steading/steadinglaw03.SpaceParts", spec := "spaceParts", unfollowed := true, recurses := true, plainKeys := false, apart := false }
def SpacePartsSaid : Prop := spacePartsRow.holds Try.pinned (OpenSpec.ofChange spacePartsSpec)

/-- ITS FALSE NEIGHBOUR: 'it returns false'. Refute it at one input. -/
def spacePartsWrong : ChangeSpec := { name := "spaceParts", fn := fun _ => fun
  | [d1, d2, d3, d4, d5] => { results := [.lit (.bool false)], args := [d1, d2, d3, d4, d5] }
  | _ => none }
def SpacePartsWrongFalsely : Prop := spacePartsRow.holds Try.pinned (OpenSpec.ofChange spacePartsWrong)

/- THE SECOND FORM. 'bulk': how many values and letters a reading holds, each counted each time it is reached (what is shared counts as often as it is met; a slice's spare places count too). A statement '..UptoSaid' is the law's where the arguments, and the package variables that the reading takes, are together of bulk at most 1048576: NARROWER than '..Said'. Prove '..Said' where nothing that the law and all that it calls make is longer than what came in: it says more and counts as full. Else prove '..UptoSaid'. A law counts once. -/
mutual
def uptoBulk {H : Type} : DataW H → Nat
  | .lit (.string bytes) => bytes.length + 1
  | .lit _ => 1
  | .nil => 1
  | .ptr d => uptoBulk d + 1
  | .slice elems spare => uptoBulkAll elems + uptoBulkAll spare + 1
  | .agg parts => uptoBulkAll parts + 1
  | .iface _ d => uptoBulk d + 1
  | .map entries => uptoBulkEntries entries + 1
  | .held _ => 1
def uptoBulkAll {H : Type} : List (DataW H) → Nat
  | [] => 0
  | d :: r => uptoBulk d + uptoBulkAll r
def uptoBulkEntries {H : Type} : List (Lit × DataW H) → Nat
  | [] => 0
  | x :: r => uptoBulkEntry x + uptoBulkEntries r
def uptoBulkEntry {H : Type} : Lit × DataW H → Nat
  | (.string bytes, d) => bytes.length + uptoBulk d + 1
  | (_, d) => uptoBulk d + 1
 end
def uptoSmall : (H : Type) → List (DataW H) → Bool := fun _ ds => decide (uptoBulkAll ds ≤ 1048576)
def OpenSpec.upto (s : _root_.Go.ChangeSpec) : _root_.Go.OpenSpec := { _root_.Go.OpenSpec.ofChange s with cond := some uptoSmall }

/-- 'steadinglaw09.CacheLast', WHERE WHAT IT READS IS OF BULK AT MOST 1048576: true; the input reads as it did. -/
def cacheLastUptoRow : OpenClaim := { program := "ytbbhfbpkopocgaa", sum := "d08d35ab8331b1b254775a8791bff5e92bdc33b6f860973aa80cb78852ee10d7", func := "steading/steadinglaw09.CacheLast", spec := "cacheLast", plainKeys := false, apart := false, narrowed := true }
def CacheLastUptoSaid : Prop := cacheLastUptoRow.holds Try.pinned (OpenSpec.upto cacheLastSpec)

/-- 'steadinglaw09.CacheFills', WHERE WHAT IT READS IS OF BULK AT MOST 1048576: true; the input reads as it did. -/
def cacheFillsUptoRow : OpenClaim := { program := "ytbbhfbpkopocgaa", sum := "d08d35ab8331b1b254775a8791bff5e92bdc33b6f860973aa80cb78852ee10d7", func := "steading/steadinglaw09.CacheFills", spec := "cacheFills", plainKeys := false, apart := false, narrowed := true }
def CacheFillsUptoSaid : Prop := cacheFillsUptoRow.holds Try.pinned (OpenSpec.upto cacheFillsSpec)

/-- 'steadinglaw09.CacheTurns', WHERE WHAT IT READS IS OF BULK AT MOST 1048576: true; the input reads as it did. -/
def cacheTurnsUptoRow : OpenClaim := { program := "ytbbhfbpkopocgaa", sum := "d08d35ab8331b1b254775a8791bff5e92bdc33b6f860973aa80cb78852ee10d7", func := "steading/steadinglaw09.CacheTurns", spec := "cacheTurns", plainKeys := false, apart := false, narrowed := true }
def CacheTurnsUptoSaid : Prop := cacheTurnsUptoRow.holds Try.pinned (OpenSpec.upto cacheTurnsSpec)

/-- 'steadinglaw09.CachePlays', WHERE WHAT IT READS IS OF BULK AT MOST 1048576: true; the input reads as it did. -/
def cachePlaysUptoRow : OpenClaim := { program := "ytbbhfbpkopocgaa", sum := "d08d35ab8331b1b254775a8791bff5e92bdc33b6f860973aa80cb78852ee10d7", func := "steading/steadinglaw09.CachePlays", spec := "cachePlays", plainKeys := false, apart := false, narrowed := true }
def CachePlaysUptoSaid : Prop := cachePlaysUptoRow.holds Try.pinned (OpenSpec.upto cachePlaysSpec)

/-- 'steadinglaw09.CacheSums', WHERE WHAT IT READS IS OF BULK AT MOST 1048576: true; the input reads as it did. -/
def cacheSumsUptoRow : OpenClaim := { program := "ytbbhfbpkopocgaa", sum := "d08d35ab8331b1b254775a8791bff5e92bdc33b6f860973aa80cb78852ee10d7", func := "steading/steadinglaw09.CacheSums", spec := "cacheSums", plainKeys := false, apart := false, narrowed := true }
def CacheSumsUptoSaid : Prop := cacheSumsUptoRow.holds Try.pinned (OpenSpec.upto cacheSumsSpec)

/-- 'steadinglaw03.SpaceBack', WHERE WHAT IT READS IS OF BULK AT MOST 1048576: true; the input reads as it did. -/
def spaceBackUptoRow : OpenClaim := { program := "ytbbhfbpkopocgaa", sum := "d08d35ab8331b1b254775a8791bff5e92bdc33b6f860973aa80cb78852ee10d7", func := "steading/steadinglaw03.SpaceBack", spec := "spaceBack", unfollowed := true, recurses := true, plainKeys := false, apart := false, narrowed := true }
def SpaceBackUptoSaid : Prop := spaceBackUptoRow.holds Try.pinned (OpenSpec.upto spaceBackSpec)

/-- 'steadinglaw03.SpaceMoves', WHERE WHAT IT READS IS OF BULK AT MOST 1048576: true; the input reads as it did. -/
def spaceMovesUptoRow : OpenClaim := { program := "ytbbhfbpkopocgaa", sum := "d08d35ab8331b1b254775a8791bff5e92bdc33b6f860973aa80cb78852ee10d7", func := "steading/steadinglaw03.SpaceMoves", spec := "spaceMoves", unfollowed := true, recurses := true, plainKeys := false, apart := false, narrowed := true }
def SpaceMovesUptoSaid : Prop := spaceMovesUptoRow.holds Try.pinned (OpenSpec.upto spaceMovesSpec)

/-- 'steadinglaw03.SpaceZero', WHERE WHAT IT READS IS OF BULK AT MOST 1048576: true; the input reads as it did. -/
def spaceZeroUptoRow : OpenClaim := { program := "ytbbhfbpkopocgaa", sum := "d08d35ab8331b1b254775a8791bff5e92bdc33b6f860973aa80cb78852ee10d7", func := "steading/steadinglaw03.SpaceZero", spec := "spaceZero", unfollowed := true, recurses := true, plainKeys := false, apart := false, narrowed := true }
def SpaceZeroUptoSaid : Prop := spaceZeroUptoRow.holds Try.pinned (OpenSpec.upto spaceZeroSpec)

/-- 'steadinglaw03.SpaceTicks', WHERE WHAT IT READS IS OF BULK AT MOST 1048576: true; the input reads as it did. -/
def spaceTicksUptoRow : OpenClaim := { program := "ytbbhfbpkopocgaa", sum := "d08d35ab8331b1b254775a8791bff5e92bdc33b6f860973aa80cb78852ee10d7", func := "steading/steadinglaw03.SpaceTicks", spec := "spaceTicks", unfollowed := true, recurses := true, plainKeys := false, apart := false, narrowed := true }
def SpaceTicksUptoSaid : Prop := spaceTicksUptoRow.holds Try.pinned (OpenSpec.upto spaceTicksSpec)

/-- 'steadinglaw03.SpacePlays', WHERE WHAT IT READS IS OF BULK AT MOST 1048576: true; the input reads as it did. -/
def spacePlaysUptoRow : OpenClaim := { program := "ytbbhfbpkopocgaa", sum := "d08d35ab8331b1b254775a8791bff5e92bdc33b6f860973aa80cb78852ee10d7", func := "steading/steadinglaw03.SpacePlays", spec := "spacePlays", unfollowed := true, recurses := true, plainKeys := false, apart := false, narrowed := true }
def SpacePlaysUptoSaid : Prop := spacePlaysUptoRow.holds Try.pinned (OpenSpec.upto spacePlaysSpec)

/-- 'steadinglaw03.SpaceApart', WHERE WHAT IT READS IS OF BULK AT MOST 1048576: true; the input reads as it did. -/
def spaceApartUptoRow : OpenClaim := { program := "ytbbhfbpkopocgaa", sum := "d08d35ab8331b1b254775a8791bff5e92bdc33b6f860973aa80cb78852ee10d7", func := "steading/steadinglaw03.SpaceApart", spec := "spaceApart", unfollowed := true, recurses := true, plainKeys := false, apart := false, narrowed := true }
def SpaceApartUptoSaid : Prop := spaceApartUptoRow.holds Try.pinned (OpenSpec.upto spaceApartSpec)

/-- 'steadinglaw03.SpaceParts', WHERE WHAT IT READS IS OF BULK AT MOST 1048576: true; the input reads as it did. -/
def spacePartsUptoRow : OpenClaim := { program := "ytbbhfbpkopocgaa", sum := "d08d35ab8331b1b254775a8791bff5e92bdc33b6f860973aa80cb78852ee10d7", func := "steading/steadinglaw03.SpaceParts", spec := "spaceParts", unfollowed := true, recurses := true, plainKeys := false, apart := false, narrowed := true }
def SpacePartsUptoSaid : Prop := spacePartsUptoRow.holds Try.pinned (OpenSpec.upto spacePartsSpec)

end Rows
end Go.Proofs.Ytbbhfbpkopocgaa
