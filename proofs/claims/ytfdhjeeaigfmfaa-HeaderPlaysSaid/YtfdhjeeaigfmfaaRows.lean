/-
  No cell of these rows narrows 'for every input' (looked for: loops, veiled, ifaces, maps, wideKeys, modest, calm, conditions, laid).
  DERIVED. THE GIVEN ROWS OF THIS SEAT. 12 by the template 'for every input the law returns true; each argument reads behind the call as it read before'; 0 by the template 'total and deterministic' (their statements: YtfdhjeeaigfmfaaTotals.lean).
  GIVEN WITH THE SEED: the statements are not yours to turn. If you find one false, say at which input.
  Laid BY PROGRAM, IN A SANDBOX (cutbox-rows.mjs): the forced cells as the released guide's own fill.sh prints them over the translation deddbeba9d89bac8… (all of the seat's roots in one cut). By AI agents, Wed Nov 11 2026. No macro, syntax, notation, axiom, sorry.
-/
import Derived.Test.YtfdhjeeaigfmfaaChecked
import GoSem.Claim
import GoSem.ClaimJoined
import GoSem.ClaimMapViews
import Derived.JoinedTies
import Derived.KernelRfl
namespace Go.Proofs.Ytfdhjeeaigfmfaa
/- THE CELL 'sum', in the pinned program and in every row, IS THE sha256 OF THE DUMP (.gsa) THAT YtfdhjeeaigfmfaaProg.lean LOADS. Nothing in Lean hashes anything: it is a label: what it is worth is what the hold of that sum in a sandbox is worth. -/
noncomputable def Try.pinned : Pinned := { name := "ytfdhjeeaigfmfaa", sum := "deddbeba9d89bac8f0f9e94516b910cf2f1476b032ee57db91ae573cae7e6b70", checked := Try.checked }
namespace Rows
def none {H : Type} : Left H := { results := [], args := [] }

/-- 'steadinglaw03.SpacePlays': WHATEVER THE INPUT: true; the input reads as it did. -/
def spacePlaysSpec : ChangeSpec := { name := "spacePlays", fn := fun _ => fun
  | [d1, d2] => { results := [.lit (.bool true)], args := [d1, d2] }
  | _ => none }
def spacePlaysRow : OpenClaim := { program := "ytfdhjeeaigfmfaa", sum := "deddbeba9d89bac8f0f9e94516b910cf2f1476b032ee57db91ae573cae7e6b70", func := "steading/steadinglaw03.SpacePlays", spec := "spacePlays", unfollowed := true, recurses := true, plainKeys := false, apart := false }
def SpacePlaysSaid : Prop := spacePlaysRow.holds Try.pinned (OpenSpec.ofChange spacePlaysSpec)

/-- ITS FALSE NEIGHBOUR: 'it returns false'. Refute it at one input. -/
def spacePlaysWrong : ChangeSpec := { name := "spacePlays", fn := fun _ => fun
  | [d1, d2] => { results := [.lit (.bool false)], args := [d1, d2] }
  | _ => none }
def SpacePlaysWrongFalsely : Prop := spacePlaysRow.holds Try.pinned (OpenSpec.ofChange spacePlaysWrong)

/-- 'steadinglaw04.CellsBack': WHATEVER THE INPUT: true; the input reads as it did. -/
def cellsBackSpec : ChangeSpec := { name := "cellsBack", fn := fun _ => fun
  | [d1, d2, d3] => { results := [.lit (.bool true)], args := [d1, d2, d3] }
  | _ => none }
def cellsBackRow : OpenClaim := { program := "ytfdhjeeaigfmfaa", sum := "deddbeba9d89bac8f0f9e94516b910cf2f1476b032ee57db91ae573cae7e6b70", func := "steading/steadinglaw04.CellsBack", spec := "cellsBack", unfollowed := true, recurses := true, plainKeys := false, apart := false }
def CellsBackSaid : Prop := cellsBackRow.holds Try.pinned (OpenSpec.ofChange cellsBackSpec)

/-- ITS FALSE NEIGHBOUR: 'it returns false'. Refute it at one input. -/
def cellsBackWrong : ChangeSpec := { name := "cellsBack", fn := fun _ => fun
  | [d1, d2, d3] => { results := [.lit (.bool false)], args := [d1, d2, d3] }
  | _ => none }
def CellsBackWrongFalsely : Prop := cellsBackRow.holds Try.pinned (OpenSpec.ofChange cellsBackWrong)

/-- 'steadinglaw04.CellsSums': WHATEVER THE INPUT: true; the input reads as it did. -/
def cellsSumsSpec : ChangeSpec := { name := "cellsSums", fn := fun _ => fun
  | [d1, d2, d3] => { results := [.lit (.bool true)], args := [d1, d2, d3] }
  | _ => none }
def cellsSumsRow : OpenClaim := { program := "ytfdhjeeaigfmfaa", sum := "deddbeba9d89bac8f0f9e94516b910cf2f1476b032ee57db91ae573cae7e6b70", func := "steading/steadinglaw04.CellsSums", spec := "cellsSums", unfollowed := true, recurses := true, plainKeys := false, apart := false }
def CellsSumsSaid : Prop := cellsSumsRow.holds Try.pinned (OpenSpec.ofChange cellsSumsSpec)

/-- ITS FALSE NEIGHBOUR: 'it returns false'. Refute it at one input. -/
def cellsSumsWrong : ChangeSpec := { name := "cellsSums", fn := fun _ => fun
  | [d1, d2, d3] => { results := [.lit (.bool false)], args := [d1, d2, d3] }
  | _ => none }
def CellsSumsWrongFalsely : Prop := cellsSumsRow.holds Try.pinned (OpenSpec.ofChange cellsSumsWrong)

/-- 'steadinglaw04.CellsBytes': WHATEVER THE INPUT: true; the input reads as it did. -/
def cellsBytesSpec : ChangeSpec := { name := "cellsBytes", fn := fun _ => fun
  | [d1, d2, d3, d4] => { results := [.lit (.bool true)], args := [d1, d2, d3, d4] }
  | _ => none }
def cellsBytesRow : OpenClaim := { program := "ytfdhjeeaigfmfaa", sum := "deddbeba9d89bac8f0f9e94516b910cf2f1476b032ee57db91ae573cae7e6b70", func := "steading/steadinglaw04.CellsBytes", spec := "cellsBytes", unfollowed := true, recurses := true, plainKeys := false, apart := false }
def CellsBytesSaid : Prop := cellsBytesRow.holds Try.pinned (OpenSpec.ofChange cellsBytesSpec)

/-- ITS FALSE NEIGHBOUR: 'it returns false'. Refute it at one input. -/
def cellsBytesWrong : ChangeSpec := { name := "cellsBytes", fn := fun _ => fun
  | [d1, d2, d3, d4] => { results := [.lit (.bool false)], args := [d1, d2, d3, d4] }
  | _ => none }
def CellsBytesWrongFalsely : Prop := cellsBytesRow.holds Try.pinned (OpenSpec.ofChange cellsBytesWrong)

/-- 'steadinglaw04.CellsPlays': WHATEVER THE INPUT: true; the input reads as it did. -/
def cellsPlaysSpec : ChangeSpec := { name := "cellsPlays", fn := fun _ => fun
  | [d1, d2] => { results := [.lit (.bool true)], args := [d1, d2] }
  | _ => none }
def cellsPlaysRow : OpenClaim := { program := "ytfdhjeeaigfmfaa", sum := "deddbeba9d89bac8f0f9e94516b910cf2f1476b032ee57db91ae573cae7e6b70", func := "steading/steadinglaw04.CellsPlays", spec := "cellsPlays", unfollowed := true, recurses := true, plainKeys := false, apart := false }
def CellsPlaysSaid : Prop := cellsPlaysRow.holds Try.pinned (OpenSpec.ofChange cellsPlaysSpec)

/-- ITS FALSE NEIGHBOUR: 'it returns false'. Refute it at one input. -/
def cellsPlaysWrong : ChangeSpec := { name := "cellsPlays", fn := fun _ => fun
  | [d1, d2] => { results := [.lit (.bool false)], args := [d1, d2] }
  | _ => none }
def CellsPlaysWrongFalsely : Prop := cellsPlaysRow.holds Try.pinned (OpenSpec.ofChange cellsPlaysWrong)

/-- 'steadinglaw04.CellsFills': WHATEVER THE INPUT: true; the input reads as it did. -/
def cellsFillsSpec : ChangeSpec := { name := "cellsFills", fn := fun _ => fun
  | [d1, d2, d3, d4] => { results := [.lit (.bool true)], args := [d1, d2, d3, d4] }
  | _ => none }
def cellsFillsRow : OpenClaim := { program := "ytfdhjeeaigfmfaa", sum := "deddbeba9d89bac8f0f9e94516b910cf2f1476b032ee57db91ae573cae7e6b70", func := "steading/steadinglaw04.CellsFills", spec := "cellsFills", unfollowed := true, recurses := true, plainKeys := false, apart := false }
def CellsFillsSaid : Prop := cellsFillsRow.holds Try.pinned (OpenSpec.ofChange cellsFillsSpec)

/-- ITS FALSE NEIGHBOUR: 'it returns false'. Refute it at one input. -/
def cellsFillsWrong : ChangeSpec := { name := "cellsFills", fn := fun _ => fun
  | [d1, d2, d3, d4] => { results := [.lit (.bool false)], args := [d1, d2, d3, d4] }
  | _ => none }
def CellsFillsWrongFalsely : Prop := cellsFillsRow.holds Try.pinned (OpenSpec.ofChange cellsFillsWrong)

/-- 'steadinglaw04.CellsOrder': WHATEVER THE INPUT: true; the input reads as it did. -/
def cellsOrderSpec : ChangeSpec := { name := "cellsOrder", fn := fun _ => fun
  | [d1, d2, d3, d4, d5] => { results := [.lit (.bool true)], args := [d1, d2, d3, d4, d5] }
  | _ => none }
def cellsOrderRow : OpenClaim := { program := "ytfdhjeeaigfmfaa", sum := "deddbeba9d89bac8f0f9e94516b910cf2f1476b032ee57db91ae573cae7e6b70", func := "steading/steadinglaw04.CellsOrder", spec := "cellsOrder", unfollowed := true, recurses := true, plainKeys := false, apart := false }
def CellsOrderSaid : Prop := cellsOrderRow.holds Try.pinned (OpenSpec.ofChange cellsOrderSpec)

/-- ITS FALSE NEIGHBOUR: 'it returns false'. Refute it at one input. -/
def cellsOrderWrong : ChangeSpec := { name := "cellsOrder", fn := fun _ => fun
  | [d1, d2, d3, d4, d5] => { results := [.lit (.bool false)], args := [d1, d2, d3, d4, d5] }
  | _ => none }
def CellsOrderWrongFalsely : Prop := cellsOrderRow.holds Try.pinned (OpenSpec.ofChange cellsOrderWrong)

/-- 'steadinglaw08.HeaderPlays': WHATEVER THE INPUT: true; the input reads as it did. -/
def headerPlaysSpec : ChangeSpec := { name := "headerPlays", fn := fun _ => fun
  | [d1, d2] => { results := [.lit (.bool true)], args := [d1, d2] }
  | _ => none }
def headerPlaysRow : OpenClaim := { program := "ytfdhjeeaigfmfaa", sum := "deddbeba9d89bac8f0f9e94516b910cf2f1476b032ee57db91ae573cae7e6b70", func := "steading/steadinglaw08.HeaderPlays", spec := "headerPlays", unfollowed := true, recurses := true, plainKeys := false, apart := false }
def HeaderPlaysSaid : Prop := headerPlaysRow.holds Try.pinned (OpenSpec.ofChange headerPlaysSpec)

/-- ITS FALSE NEIGHBOUR: 'it returns false'. Refute it at one input. -/
def headerPlaysWrong : ChangeSpec := { name := "headerPlays", fn := fun _ => fun
  | [d1, d2] => { results := [.lit (.bool false)], args := [d1, d2] }
  | _ => none }
def HeaderPlaysWrongFalsely : Prop := headerPlaysRow.holds Try.pinned (OpenSpec.ofChange headerPlaysWrong)

/-- 'steadinglaw08.HeaderBack': WHATEVER THE INPUT: true; the input reads as it did. -/
def headerBackSpec : ChangeSpec := { name := "headerBack", fn := fun _ => fun
  | [d1, d2, d3] => { results := [.lit (.bool true)], args := [d1, d2, d3] }
  | _ => none }
def headerBackRow : OpenClaim := { program := "ytfdhjeeaigfmfaa", sum := "deddbeba9d89bac8f0f9e94516b910cf2f1476b032ee57db91ae573cae7e6b70", func := "steading/steadinglaw08.HeaderBack", spec := "headerBack", unfollowed := true, recurses := true, plainKeys := false, apart := false }
def HeaderBackSaid : Prop := headerBackRow.holds Try.pinned (OpenSpec.ofChange headerBackSpec)

/-- ITS FALSE NEIGHBOUR: 'it returns false'. Refute it at one input. -/
def headerBackWrong : ChangeSpec := { name := "headerBack", fn := fun _ => fun
  | [d1, d2, d3] => { results := [.lit (.bool false)], args := [d1, d2, d3] }
  | _ => none }
def HeaderBackWrongFalsely : Prop := headerBackRow.holds Try.pinned (OpenSpec.ofChange headerBackWrong)

/-- 'steadinglaw08.HeaderInside': WHATEVER THE INPUT: true; the input reads as it did. -/
def headerInsideSpec : ChangeSpec := { name := "headerInside", fn := fun _ => fun
  | [d1, d2, d3, d4] => { results := [.lit (.bool true)], args := [d1, d2, d3, d4] }
  | _ => none }
def headerInsideRow : OpenClaim := { program := "ytfdhjeeaigfmfaa", sum := "deddbeba9d89bac8f0f9e94516b910cf2f1476b032ee57db91ae573cae7e6b70", func := "steading/steadinglaw08.HeaderInside", spec := "headerInside", unfollowed := true, recurses := true, plainKeys := false, apart := false }
def HeaderInsideSaid : Prop := headerInsideRow.holds Try.pinned (OpenSpec.ofChange headerInsideSpec)

/-- ITS FALSE NEIGHBOUR: 'it returns false'. Refute it at one input. -/
def headerInsideWrong : ChangeSpec := { name := "headerInside", fn := fun _ => fun
  | [d1, d2, d3, d4] => { results := [.lit (.bool false)], args := [d1, d2, d3, d4] }
  | _ => none }
def HeaderInsideWrongFalsely : Prop := headerInsideRow.holds Try.pinned (OpenSpec.ofChange headerInsideWrong)

/-- 'steadinglaw08.HeaderMagic': WHATEVER THE INPUT: true; the input reads as it did. -/
def headerMagicSpec : ChangeSpec := { name := "headerMagic", fn := fun _ => fun
  | [d1, d2, d3] => { results := [.lit (.bool true)], args := [d1, d2, d3] }
  | _ => none }
def headerMagicRow : OpenClaim := { program := "ytfdhjeeaigfmfaa", sum := "deddbeba9d89bac8f0f9e94516b910cf2f1476b032ee57db91ae573cae7e6b70", func := "steading/steadinglaw08.HeaderMagic", spec := "headerMagic", unfollowed := true, recurses := true, plainKeys := false, apart := false }
def HeaderMagicSaid : Prop := headerMagicRow.holds Try.pinned (OpenSpec.ofChange headerMagicSpec)

/-- ITS FALSE NEIGHBOUR: 'it returns false'. Refute it at one input. -/
def headerMagicWrong : ChangeSpec := { name := "headerMagic", fn := fun _ => fun
  | [d1, d2, d3] => { results := [.lit (.bool false)], args := [d1, d2, d3] }
  | _ => none }
def HeaderMagicWrongFalsely : Prop := headerMagicRow.holds Try.pinned (OpenSpec.ofChange headerMagicWrong)

/-- 'steadinglaw08.HeaderLinks': WHATEVER THE INPUT: true; the input reads as it did. -/
def headerLinksSpec : ChangeSpec := { name := "headerLinks", fn := fun _ => fun
  | [d1, d2] => { results := [.lit (.bool true)], args := [d1, d2] }
  | _ => none }
def headerLinksRow : OpenClaim := { program := "ytfdhjeeaigfmfaa", sum := "deddbeba9d89bac8f0f9e94516b910cf2f1476b032ee57db91ae573cae7e6b70", func := "steading/steadinglaw08.HeaderLinks", spec := "headerLinks", unfollowed := true, recurses := true, plainKeys := false, apart := false }
def HeaderLinksSaid : Prop := headerLinksRow.holds Try.pinned (OpenSpec.ofChange headerLinksSpec)

/-- ITS FALSE NEIGHBOUR: 'it returns false'. Refute it at one input. -/
def headerLinksWrong : ChangeSpec := { name := "headerLinks", fn := fun _ => fun
  | [d1, d2] => { results := [.lit (.bool false)], args := [d1, d2] }
  | _ => none }
def HeaderLinksWrongFalsely : Prop := headerLinksRow.holds Try.pinned (OpenSpec.ofChange headerLinksWrong)

/- THE SECOND FORM. 'bulk': how many values and letters a reading holds, each counted each time it is reached (what is shared counts as often as it is met; a slice's spare places count too). A statement '..UptoSaid' is the law's where the arguments, and the package variables that the reading takes, are together of bulk at most 1048576: NARROWER than '..Said'. Prove '..Said' where nothing that the law and all that it calls make is longer than what came in: it says more and counts as full. Else prove '..UptoSaid'. A law counts once. -/
mutual
def uptoBulk {H : Type} : DataW H → Nat
  | .lit (.string bytes) => bytes.length + 1
  | .lit _ => 1
  | .nil => 1
  | .ptr d => uptoBulk d + 1
  | .slice elems spare => uptoBulkAll elems + uptoBulkAll spare + 1
  | .agg parts => uptoBulkAll parts + 1
  | .iface _ d => uptoBulk d + 1
  | .map entries => uptoBulkEntries entries + 1
  | .held _ => 1
def uptoBulkAll {H : Type} : List (DataW H) → Nat
  | [] => 0
  | d :: r => uptoBulk d + uptoBulkAll r
def uptoBulkEntries {H : Type} : List (Lit × DataW H) → Nat
  | [] => 0
  | x :: r => uptoBulkEntry x + uptoBulkEntries r
def uptoBulkEntry {H : Type} : Lit × DataW H → Nat
  | (.string bytes, d) => bytes.length + uptoBulk d + 1
  | (_, d) => uptoBulk d + 1
 end
def uptoSmall : (H : Type) → List (DataW H) → Bool := fun _ ds => decide (uptoBulkAll ds ≤ 1048576)
def OpenSpec.upto (s : _root_.Go.ChangeSpec) : _root_.Go.OpenSpec := { _root_.Go.OpenSpec.ofChange s with cond := some uptoSmall }

/-- 'steadinglaw03.SpacePlays', WHERE WHAT IT READS IS OF BULK AT MOST 1048576: true; the input reads as it did. -/
def spacePlaysUptoRow : OpenClaim := { program := "ytfdhjeeaigfmfaa", sum := "deddbeba9d89bac8f0f9e94516b910cf2f1476b032ee57db91ae573cae7e6b70", func := "steading/steadinglaw03.SpacePlays", spec := "spacePlays", unfollowed := true, recurses := true, plainKeys := false, apart := false, narrowed := true }
def SpacePlaysUptoSaid : Prop := spacePlaysUptoRow.holds Try.pinned (OpenSpec.upto spacePlaysSpec)

/-- 'steadinglaw04.CellsBack', WHERE WHAT IT READS IS OF BULK AT MOST 1048576: true; the input reads as it did. -/
def cellsBackUptoRow : OpenClaim := { program := "ytfdhjeeaigfmfaa", sum := "deddbeba9d89bac8f0f9e94516b910cf2f1476b032ee57db91ae573cae7e6b70", func := "steading/steadinglaw04.CellsBack", spec := "cellsBack", unfollowed := true, recurses := true, plainKeys := false, apart := false, narrowed := true }
def CellsBackUptoSaid : Prop := cellsBackUptoRow.holds Try.pinned (OpenSpec.upto cellsBackSpec)

/-- 'steadinglaw04.CellsSums', WHERE WHAT IT READS IS OF BULK AT MOST 1048576: true; the input reads as it did. -/
def cellsSumsUptoRow : OpenClaim := { program := "ytfdhjeeaigfmfaa", sum := "deddbeba9d89bac8f0f9e94516b910cf2f1476b032ee57db91ae573cae7e6b70", func := "steading/steadinglaw04.CellsSums", spec := "cellsSums", unfollowed := true, recurses := true, plainKeys := false, apart := false, narrowed := true }
def CellsSumsUptoSaid : Prop := cellsSumsUptoRow.holds Try.pinned (OpenSpec.upto cellsSumsSpec)

/-- 'steadinglaw04.CellsBytes', WHERE WHAT IT READS IS OF BULK AT MOST 1048576: true; the input reads as it did. -/
def cellsBytesUptoRow : OpenClaim := { program := "ytfdhjeeaigfmfaa", sum := "deddbeba9d89bac8f0f9e94516b910cf2f1476b032ee57db91ae573cae7e6b70", func := "steading/steadinglaw04.CellsBytes", spec := "cellsBytes", unfollowed := true, recurses := true, plainKeys := false, apart := false, narrowed := true }
def CellsBytesUptoSaid : Prop := cellsBytesUptoRow.holds Try.pinned (OpenSpec.upto cellsBytesSpec)

/-- 'steadinglaw04.CellsPlays', WHERE WHAT IT READS IS OF BULK AT MOST 1048576: true; the input reads as it did. -/
def cellsPlaysUptoRow : OpenClaim := { program := "ytfdhjeeaigfmfaa", sum := "deddbeba9d89bac8f0f9e94516b910cf2f1476b032ee57db91ae573cae7e6b70", func := "steading/steadinglaw04.CellsPlays", spec := "cellsPlays", unfollowed := true, recurses := true, plainKeys := false, apart := false, narrowed := true }
def CellsPlaysUptoSaid : Prop := cellsPlaysUptoRow.holds Try.pinned (OpenSpec.upto cellsPlaysSpec)

/-- 'steadinglaw04.CellsFills', WHERE WHAT IT READS IS OF BULK AT MOST 1048576: true; the input reads as it did. -/
def cellsFillsUptoRow : OpenClaim := { program := "ytfdhjeeaigfmfaa", sum := "deddbeba9d89bac8f0f9e94516b910cf2f1476b032ee57db91ae573cae7e6b70", func := "steading/steadinglaw04.CellsFills", spec := "cellsFills", unfollowed := true, recurses := true, plainKeys := false, apart := false, narrowed := true }
def CellsFillsUptoSaid : Prop := cellsFillsUptoRow.holds Try.pinned (OpenSpec.upto cellsFillsSpec)

/-- 'steadinglaw04.CellsOrder', WHERE WHAT IT READS IS OF BULK AT MOST 1048576: true; the input reads as it did. -/
def cellsOrderUptoRow : OpenClaim := { program := "ytfdhjeeaigfmfaa", sum := "deddbeba9d89bac8f0f9e94516b910cf2f1476b032ee57db91ae573cae7e6b70", func := "steading/steadinglaw04.CellsOrder", spec := "cellsOrder", unfollowed := true, recurses := true, plainKeys := false, apart := false, narrowed := true }
def CellsOrderUptoSaid : Prop := cellsOrderUptoRow.holds Try.pinned (OpenSpec.upto cellsOrderSpec)

/-- 'steadinglaw08.HeaderPlays', WHERE WHAT IT READS IS OF BULK AT MOST 1048576: true; the input reads as it did. -/
def headerPlaysUptoRow : OpenClaim := { program := "ytfdhjeeaigfmfaa", sum := "deddbeba9d89bac8f0f9e94516b910cf2f1476b032ee57db91ae573cae7e6b70", func := "steading/steadinglaw08.HeaderPlays", spec := "headerPlays", unfollowed := true, recurses := true, plainKeys := false, apart := false, narrowed := true }
def HeaderPlaysUptoSaid : Prop := headerPlaysUptoRow.holds Try.pinned (OpenSpec.upto headerPlaysSpec)

/-- 'steadinglaw08.HeaderBack', WHERE WHAT IT READS IS OF BULK AT MOST 1048576: true; the input reads as it did. -/
def headerBackUptoRow : OpenClaim := { program := "ytfdhjeeaigfmfaa", sum := "deddbeba9d89bac8f0f9e94516b910cf2f1476b032ee57db91ae573cae7e6b70", func := "steading/steadinglaw08.HeaderBack", spec := "headerBack", unfollowed := true, recurses := true, plainKeys := false, apart := false, narrowed := true }
def HeaderBackUptoSaid : Prop := headerBackUptoRow.holds Try.pinned (OpenSpec.upto headerBackSpec)

/-- 'steadinglaw08.HeaderInside', WHERE WHAT IT READS IS OF BULK AT MOST 1048576: true; the input reads as it did. -/
def headerInsideUptoRow : OpenClaim := { program := "ytfdhjeeaigfmfaa", sum := "deddbeba9d89bac8f0f9e94516b910cf2f1476b032ee57db91ae573cae7e6b70", func := "steading/steadinglaw08.HeaderInside", spec := "headerInside", unfollowed := true, recurses := true, plainKeys := false, apart := false, narrowed := true }
def HeaderInsideUptoSaid : Prop := headerInsideUptoRow.holds Try.pinned (OpenSpec.upto headerInsideSpec)

/-- 'steadinglaw08.HeaderMagic', WHERE WHAT IT READS IS OF BULK AT MOST 1048576: true; the input reads as it did. -/
def headerMagicUptoRow : OpenClaim := { program := "ytfdhjeeaigfmfaa", sum := "deddbeba9d89bac8f0f9e94516b910cf2f1476b032ee57db91ae573cae7e6b70", func := "steading/steadinglaw08.HeaderMagic", spec := "headerMagic", unfollowed := true, recurses := true, plainKeys := false, apart := false, narrowed := true }
def HeaderMagicUptoSaid : Prop := headerMagicUptoRow.holds Try.pinned (OpenSpec.upto headerMagicSpec)

/-- 'steadinglaw08.HeaderLinks', WHERE WHAT IT READS IS OF BULK AT MOST 1048576: true; the input reads as it did. -/
def headerLinksUptoRow : OpenClaim := { program := "ytfdhjeeaigfmfaa", sum := "deddbeba9d89bac8f0f9e94516b910cf2f1476b032ee57db91ae573cae7e6b70", func := "steading/steadinglaw08.HeaderLinks", spec := "headerLinks", unfollowed := true, recurses := true, plainKeys := false, apart := false, narrowed := true }
def HeaderLinksUptoSaid : Prop := headerLinksUptoRow.holds Try.pinned (OpenSpec.upto headerLinksSpec)

end Rows
end Go.Proofs.Ytfdhjeeaigfmfaa
