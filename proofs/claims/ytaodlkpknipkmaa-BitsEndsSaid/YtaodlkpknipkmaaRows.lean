/-
  No cell of these rows narrows 'for every input' (looked for: loops, veiled, ifaces, maps, wideKeys, modest, calm, conditions, laid).
  DERIVED. THE GIVEN ROWS OF THIS SEAT. 12 by the template 'for every input the law returns true; each argument reads behind the call as it read before'; 0 by the template 'total and deterministic' (their statements: YtaodlkpknipkmaaTotals.lean).
  GIVEN WITH THE SEED: the statements are not yours to turn. If you find one false, say at which input.
  Laid BY PROGRAM, IN A SANDBOX (cutbox-rows.mjs): the forced cells as the released guide's own fill.sh prints them over the translation 1bba2847018337d3… (all of the seat's roots in one cut). By AI agents, Wed Nov 11 2026. No macro, syntax, notation, axiom, sorry.
-/
import Derived.Test.YtaodlkpknipkmaaChecked
import GoSem.Claim
import GoSem.ClaimJoined
import GoSem.ClaimMapViews
import Derived.JoinedTies
import Derived.KernelRfl
namespace Go.Proofs.Ytaodlkpknipkmaa
/- THE CELL 'sum', in the pinned program and in every row, IS THE sha256 OF THE DUMP (.gsa) THAT YtaodlkpknipkmaaProg.lean LOADS. Nothing in Lean hashes anything: it is a label: what it is worth is what the hold of that sum in a sandbox is worth. -/
noncomputable def Try.pinned : Pinned := { name := "ytaodlkpknipkmaa", sum := "1bba2847018337d3c786688d8fc52f42188a941927996afba276f7d295953dd4", checked := Try.checked }
namespace Rows
def none {H : Type} : Left H := { results := [], args := [] }

/-- 'steadinglaw01.BitsPowers': WHATEVER THE INPUT: true; the input reads as it did. -/
def bitsPowersSpec : ChangeSpec := { name := "bitsPowers", fn := fun _ => fun
  | [d] => { results := [.lit (.bool true)], args := [d] }
  | _ => none }
def bitsPowersRow : OpenClaim := { program := "ytaodlkpknipkmaa", sum := "1bba2847018337d3c786688d8fc52f42188a941927996afba276f7d295953dd4", func := "steading/steadinglaw01.BitsPowers", spec := "bitsPowers", unfollowed := true, recurses := true, apart := false }
def BitsPowersSaid : Prop := bitsPowersRow.holds Try.pinned (OpenSpec.ofChange bitsPowersSpec)

/-- ITS FALSE NEIGHBOUR: 'it returns false'. Refute it at one input. -/
def bitsPowersWrong : ChangeSpec := { name := "bitsPowers", fn := fun _ => fun
  | [d] => { results := [.lit (.bool false)], args := [d] }
  | _ => none }
def BitsPowersWrongFalsely : Prop := bitsPowersRow.holds Try.pinned (OpenSpec.ofChange bitsPowersWrong)

/-- 'steadinglaw01.BitsUp': WHATEVER THE INPUT: true; the input reads as it did. -/
def bitsUpSpec : ChangeSpec := { name := "bitsUp", fn := fun _ => fun
  | [d1, d2] => { results := [.lit (.bool true)], args := [d1, d2] }
  | _ => none }
def bitsUpRow : OpenClaim := { program := "ytaodlkpknipkmaa", sum := "1bba2847018337d3c786688d8fc52f42188a941927996afba276f7d295953dd4", func := "steading/steadinglaw01.BitsUp", spec := "bitsUp", unfollowed := true, recurses := true, apart := false }
def BitsUpSaid : Prop := bitsUpRow.holds Try.pinned (OpenSpec.ofChange bitsUpSpec)

/-- ITS FALSE NEIGHBOUR: 'it returns false'. Refute it at one input. -/
def bitsUpWrong : ChangeSpec := { name := "bitsUp", fn := fun _ => fun
  | [d1, d2] => { results := [.lit (.bool false)], args := [d1, d2] }
  | _ => none }
def BitsUpWrongFalsely : Prop := bitsUpRow.holds Try.pinned (OpenSpec.ofChange bitsUpWrong)

/-- 'steadinglaw01.BitsSums': WHATEVER THE INPUT: true; the input reads as it did. -/
def bitsSumsSpec : ChangeSpec := { name := "bitsSums", fn := fun _ => fun
  | [d1, d2, d3] => { results := [.lit (.bool true)], args := [d1, d2, d3] }
  | _ => none }
def bitsSumsRow : OpenClaim := { program := "ytaodlkpknipkmaa", sum := "1bba2847018337d3c786688d8fc52f42188a941927996afba276f7d295953dd4", func := "steading/steadinglaw01.BitsSums", spec := "bitsSums", unfollowed := true, recurses := true, apart := false }
def BitsSumsSaid : Prop := bitsSumsRow.holds Try.pinned (OpenSpec.ofChange bitsSumsSpec)

/-- ITS FALSE NEIGHBOUR: 'it returns false'. Refute it at one input. -/
def bitsSumsWrong : ChangeSpec := { name := "bitsSums", fn := fun _ => fun
  | [d1, d2, d3] => { results := [.lit (.bool false)], args := [d1, d2, d3] }
  | _ => none }
def BitsSumsWrongFalsely : Prop := bitsSumsRow.holds Try.pinned (OpenSpec.ofChange bitsSumsWrong)

/-- 'steadinglaw01.BitsLeast': WHATEVER THE INPUT: true; the input reads as it did. -/
def bitsLeastSpec : ChangeSpec := { name := "bitsLeast", fn := fun _ => fun
  | [d1, d2, d3] => { results := [.lit (.bool true)], args := [d1, d2, d3] }
  | _ => none }
def bitsLeastRow : OpenClaim := { program := "ytaodlkpknipkmaa", sum := "1bba2847018337d3c786688d8fc52f42188a941927996afba276f7d295953dd4", func := "steading/steadinglaw01.BitsLeast", spec := "bitsLeast", unfollowed := true, recurses := true, apart := false }
def BitsLeastSaid : Prop := bitsLeastRow.holds Try.pinned (OpenSpec.ofChange bitsLeastSpec)

/-- ITS FALSE NEIGHBOUR: 'it returns false'. Refute it at one input. -/
def bitsLeastWrong : ChangeSpec := { name := "bitsLeast", fn := fun _ => fun
  | [d1, d2, d3] => { results := [.lit (.bool false)], args := [d1, d2, d3] }
  | _ => none }
def BitsLeastWrongFalsely : Prop := bitsLeastRow.holds Try.pinned (OpenSpec.ofChange bitsLeastWrong)

/-- 'steadinglaw01.BitsEnds': WHATEVER THE INPUT: true; the input reads as it did. -/
def bitsEndsSpec : ChangeSpec := { name := "bitsEnds", fn := fun _ => fun
  | [d1, d2] => { results := [.lit (.bool true)], args := [d1, d2] }
  | _ => none }
def bitsEndsRow : OpenClaim := { program := "ytaodlkpknipkmaa", sum := "1bba2847018337d3c786688d8fc52f42188a941927996afba276f7d295953dd4", func := "steading/steadinglaw01.BitsEnds", spec := "bitsEnds", unfollowed := true, recurses := true, apart := false }
def BitsEndsSaid : Prop := bitsEndsRow.holds Try.pinned (OpenSpec.ofChange bitsEndsSpec)

/-- ITS FALSE NEIGHBOUR: 'it returns false'. Refute it at one input. -/
def bitsEndsWrong : ChangeSpec := { name := "bitsEnds", fn := fun _ => fun
  | [d1, d2] => { results := [.lit (.bool false)], args := [d1, d2] }
  | _ => none }
def BitsEndsWrongFalsely : Prop := bitsEndsRow.holds Try.pinned (OpenSpec.ofChange bitsEndsWrong)

/-- 'steadinglaw01.BitsOrder': WHATEVER THE INPUT: true; the input reads as it did. -/
def bitsOrderSpec : ChangeSpec := { name := "bitsOrder", fn := fun _ => fun
  | [d1, d2, d3, d4] => { results := [.lit (.bool true)], args := [d1, d2, d3, d4] }
  | _ => none }
def bitsOrderRow : OpenClaim := { program := "ytaodlkpknipkmaa", sum := "1bba2847018337d3c786688d8fc52f42188a941927996afba276f7d295953dd4", func := "steading/steadinglaw01.BitsOrder", spec := "bitsOrder", unfollowed := true, recurses := true, apart := false }
def BitsOrderSaid : Prop := bitsOrderRow.holds Try.pinned (OpenSpec.ofChange bitsOrderSpec)

/-- ITS FALSE NEIGHBOUR: 'it returns false'. Refute it at one input. -/
def bitsOrderWrong : ChangeSpec := { name := "bitsOrder", fn := fun _ => fun
  | [d1, d2, d3, d4] => { results := [.lit (.bool false)], args := [d1, d2, d3, d4] }
  | _ => none }
def BitsOrderWrongFalsely : Prop := bitsOrderRow.holds Try.pinned (OpenSpec.ofChange bitsOrderWrong)

/-- 'steadinglaw01.BitsSteps': WHATEVER THE INPUT: true; the input reads as it did. -/
def bitsStepsSpec : ChangeSpec := { name := "bitsSteps", fn := fun _ => fun
  | [d1, d2, d3] => { results := [.lit (.bool true)], args := [d1, d2, d3] }
  | _ => none }
def bitsStepsRow : OpenClaim := { program := "ytaodlkpknipkmaa", sum := "1bba2847018337d3c786688d8fc52f42188a941927996afba276f7d295953dd4", func := "steading/steadinglaw01.BitsSteps", spec := "bitsSteps", unfollowed := true, recurses := true, apart := false }
def BitsStepsSaid : Prop := bitsStepsRow.holds Try.pinned (OpenSpec.ofChange bitsStepsSpec)

/-- ITS FALSE NEIGHBOUR: 'it returns false'. Refute it at one input. -/
def bitsStepsWrong : ChangeSpec := { name := "bitsSteps", fn := fun _ => fun
  | [d1, d2, d3] => { results := [.lit (.bool false)], args := [d1, d2, d3] }
  | _ => none }
def BitsStepsWrongFalsely : Prop := bitsStepsRow.holds Try.pinned (OpenSpec.ofChange bitsStepsWrong)

/-- 'steadinglaw11.BumpFit': WHATEVER THE INPUT: true; the input reads as it did. -/
def bumpFitSpec : ChangeSpec := { name := "bumpFit", fn := fun _ => fun
  | [d1, d2, d3, d4] => { results := [.lit (.bool true)], args := [d1, d2, d3, d4] }
  | _ => none }
def bumpFitRow : OpenClaim := { program := "ytaodlkpknipkmaa", sum := "1bba2847018337d3c786688d8fc52f42188a941927996afba276f7d295953dd4", func := "steading/steadinglaw11.BumpFit", spec := "bumpFit", unfollowed := true, recurses := true, apart := false }
def BumpFitSaid : Prop := bumpFitRow.holds Try.pinned (OpenSpec.ofChange bumpFitSpec)

/-- ITS FALSE NEIGHBOUR: 'it returns false'. Refute it at one input. -/
def bumpFitWrong : ChangeSpec := { name := "bumpFit", fn := fun _ => fun
  | [d1, d2, d3, d4] => { results := [.lit (.bool false)], args := [d1, d2, d3, d4] }
  | _ => none }
def BumpFitWrongFalsely : Prop := bumpFitRow.holds Try.pinned (OpenSpec.ofChange bumpFitWrong)

/-- 'steadinglaw11.BumpOf': WHATEVER THE INPUT: true; the input reads as it did. -/
def bumpOfSpec : ChangeSpec := { name := "bumpOf", fn := fun _ => fun
  | [d1, d2, d3, d4] => { results := [.lit (.bool true)], args := [d1, d2, d3, d4] }
  | _ => none }
def bumpOfRow : OpenClaim := { program := "ytaodlkpknipkmaa", sum := "1bba2847018337d3c786688d8fc52f42188a941927996afba276f7d295953dd4", func := "steading/steadinglaw11.BumpOf", spec := "bumpOf", unfollowed := true, recurses := true, apart := false }
def BumpOfSaid : Prop := bumpOfRow.holds Try.pinned (OpenSpec.ofChange bumpOfSpec)

/-- ITS FALSE NEIGHBOUR: 'it returns false'. Refute it at one input. -/
def bumpOfWrong : ChangeSpec := { name := "bumpOf", fn := fun _ => fun
  | [d1, d2, d3, d4] => { results := [.lit (.bool false)], args := [d1, d2, d3, d4] }
  | _ => none }
def BumpOfWrongFalsely : Prop := bumpOfRow.holds Try.pinned (OpenSpec.ofChange bumpOfWrong)

/-- 'steadinglaw11.BumpApart': WHATEVER THE INPUT: true; the input reads as it did. -/
def bumpApartSpec : ChangeSpec := { name := "bumpApart", fn := fun _ => fun
  | [d1, d2, d3, d4] => { results := [.lit (.bool true)], args := [d1, d2, d3, d4] }
  | _ => none }
def bumpApartRow : OpenClaim := { program := "ytaodlkpknipkmaa", sum := "1bba2847018337d3c786688d8fc52f42188a941927996afba276f7d295953dd4", func := "steading/steadinglaw11.BumpApart", spec := "bumpApart", unfollowed := true, recurses := true, apart := false }
def BumpApartSaid : Prop := bumpApartRow.holds Try.pinned (OpenSpec.ofChange bumpApartSpec)

/-- ITS FALSE NEIGHBOUR: 'it returns false'. Refute it at one input. -/
def bumpApartWrong : ChangeSpec := { name := "bumpApart", fn := fun _ => fun
  | [d1, d2, d3, d4] => { results := [.lit (.bool false)], args := [d1, d2, d3, d4] }
  | _ => none }
def BumpApartWrongFalsely : Prop := bumpApartRow.holds Try.pinned (OpenSpec.ofChange bumpApartWrong)

/-- 'steadinglaw11.BumpLast': WHATEVER THE INPUT: true; the input reads as it did. -/
def bumpLastSpec : ChangeSpec := { name := "bumpLast", fn := fun _ => fun
  | [d1, d2, d3] => { results := [.lit (.bool true)], args := [d1, d2, d3] }
  | _ => none }
def bumpLastRow : OpenClaim := { program := "ytaodlkpknipkmaa", sum := "1bba2847018337d3c786688d8fc52f42188a941927996afba276f7d295953dd4", func := "steading/steadinglaw11.BumpLast", spec := "bumpLast", unfollowed := true, recurses := true, apart := false }
def BumpLastSaid : Prop := bumpLastRow.holds Try.pinned (OpenSpec.ofChange bumpLastSpec)

/-- ITS FALSE NEIGHBOUR: 'it returns false'. Refute it at one input. -/
def bumpLastWrong : ChangeSpec := { name := "bumpLast", fn := fun _ => fun
  | [d1, d2, d3] => { results := [.lit (.bool false)], args := [d1, d2, d3] }
  | _ => none }
def BumpLastWrongFalsely : Prop := bumpLastRow.holds Try.pinned (OpenSpec.ofChange bumpLastWrong)

/-- 'steadinglaw11.BumpTwice': WHATEVER THE INPUT: true; the input reads as it did. -/
def bumpTwiceSpec : ChangeSpec := { name := "bumpTwice", fn := fun _ => fun
  | [d1, d2, d3, d4, d5, d6] => { results := [.lit (.bool true)], args := [d1, d2, d3, d4, d5, d6] }
  | _ => none }
def bumpTwiceRow : OpenClaim := { program := "ytaodlkpknipkmaa", sum := "1bba2847018337d3c786688d8fc52f42188a941927996afba276f7d295953dd4", func := "steading/steadinglaw11.BumpTwice", spec := "bumpTwice", unfollowed := true, recurses := true, apart := false }
def BumpTwiceSaid : Prop := bumpTwiceRow.holds Try.pinned (OpenSpec.ofChange bumpTwiceSpec)

/-- ITS FALSE NEIGHBOUR: 'it returns false'. Refute it at one input. -/
def bumpTwiceWrong : ChangeSpec := { name := "bumpTwice", fn := fun _ => fun
  | [d1, d2, d3, d4, d5, d6] => { results := [.lit (.bool false)], args := [d1, d2, d3, d4, d5, d6] }
  | _ => none }
def BumpTwiceWrongFalsely : Prop := bumpTwiceRow.holds Try.pinned (OpenSpec.ofChange bumpTwiceWrong)

/- THE SECOND FORM. 'bulk': how many values and letters a reading holds, each counted each time it is reached (what is shared counts as often as it is met; a slice's spare places count too). A statement '..UptoSaid' is the law's where the arguments, and the package variables that the reading takes, are together of bulk at most 1048576: NARROWER than '..Said'. Prove '..Said' where nothing that the law and all that it calls make is longer than what came in: it says more and counts as full. Else prove '..UptoSaid'. A law counts once. -/
mutual
def uptoBulk {H : Type} : DataW H → Nat
  | .lit (.string bytes) => bytes.length + 1
  | .lit _ => 1
  | .nil => 1
  | .ptr d => uptoBulk d + 1
  | .slice elems spare => uptoBulkAll elems + uptoBulkAll spare + 1
  | .agg parts => uptoBulkAll parts + 1
  | .iface _ d => uptoBulk d + 1
  | .map entries => uptoBulkEntries entries + 1
  | .held _ => 1
def uptoBulkAll {H : Type} : List (DataW H) → Nat
  | [] => 0
  | d :: r => uptoBulk d + uptoBulkAll r
def uptoBulkEntries {H : Type} : List (Lit × DataW H) → Nat
  | [] => 0
  | x :: r => uptoBulkEntry x + uptoBulkEntries r
def uptoBulkEntry {H : Type} : Lit × DataW H → Nat
  | (.string bytes, d) => bytes.length + uptoBulk d + 1
  | (_, d) => uptoBulk d + 1
 end
def uptoSmall : (H : Type) → List (DataW H) → Bool := fun _ ds => decide (uptoBulkAll ds ≤ 1048576)
def OpenSpec.upto (s : _root_.Go.ChangeSpec) : _root_.Go.OpenSpec := { _root_.Go.OpenSpec.ofChange s with cond := some uptoSmall }

/-- 'steadinglaw01.BitsPowers', WHERE WHAT IT READS IS OF BULK AT MOST 1048576: true; the input reads as it did. -/
def bitsPowersUptoRow : OpenClaim := { program := "ytaodlkpknipkmaa", sum := "1bba2847018337d3c786688d8fc52f42188a941927996afba276f7d295953dd4", func := "steading/steadinglaw01.BitsPowers", spec := "bitsPowers", unfollowed := true, recurses := true, apart := false, narrowed := true }
def BitsPowersUptoSaid : Prop := bitsPowersUptoRow.holds Try.pinned (OpenSpec.upto bitsPowersSpec)

/-- 'steadinglaw01.BitsUp', WHERE WHAT IT READS IS OF BULK AT MOST 1048576: true; the input reads as it did. -/
def bitsUpUptoRow : OpenClaim := { program := "ytaodlkpknipkmaa", sum := "1bba2847018337d3c786688d8fc52f42188a941927996afba276f7d295953dd4", func := "steading/steadinglaw01.BitsUp", spec := "bitsUp", unfollowed := true, recurses := true, apart := false, narrowed := true }
def BitsUpUptoSaid : Prop := bitsUpUptoRow.holds Try.pinned (OpenSpec.upto bitsUpSpec)

/-- 'steadinglaw01.BitsSums', WHERE WHAT IT READS IS OF BULK AT MOST 1048576: true; the input reads as it did. -/
def bitsSumsUptoRow : OpenClaim := { program := "ytaodlkpknipkmaa", sum := "1bba2847018337d3c786688d8fc52f42188a941927996afba276f7d295953dd4", func := "steading/steadinglaw01.BitsSums", spec := "bitsSums", unfollowed := true, recurses := true, apart := false, narrowed := true }
def BitsSumsUptoSaid : Prop := bitsSumsUptoRow.holds Try.pinned (OpenSpec.upto bitsSumsSpec)

/-- 'steadinglaw01.BitsLeast', WHERE WHAT IT READS IS OF BULK AT MOST 1048576: true; the input reads as it did. -/
def bitsLeastUptoRow : OpenClaim := { program := "ytaodlkpknipkmaa", sum := "1bba2847018337d3c786688d8fc52f42188a941927996afba276f7d295953dd4", func := "steading/steadinglaw01.BitsLeast", spec := "bitsLeast", unfollowed := true, recurses := true, apart := false, narrowed := true }
def BitsLeastUptoSaid : Prop := bitsLeastUptoRow.holds Try.pinned (OpenSpec.upto bitsLeastSpec)

/-- 'steadinglaw01.BitsEnds', WHERE WHAT IT READS IS OF BULK AT MOST 1048576: true; the input reads as it did. -/
def bitsEndsUptoRow : OpenClaim := { program := "ytaodlkpknipkmaa", sum := "1bba2847018337d3c786688d8fc52f42188a941927996afba276f7d295953dd4", func := "steading/steadinglaw01.BitsEnds", spec := "bitsEnds", unfollowed := true, recurses := true, apart := false, narrowed := true }
def BitsEndsUptoSaid : Prop := bitsEndsUptoRow.holds Try.pinned (OpenSpec.upto bitsEndsSpec)

/-- 'steadinglaw01.BitsOrder', WHERE WHAT IT READS IS OF BULK AT MOST 1048576: true; the input reads as it did. -/
def bitsOrderUptoRow : OpenClaim := { program := "ytaodlkpknipkmaa", sum := "1bba2847018337d3c786688d8fc52f42188a941927996afba276f7d295953dd4", func := "steading/steadinglaw01.BitsOrder", spec := "bitsOrder", unfollowed := true, recurses := true, apart := false, narrowed := true }
def BitsOrderUptoSaid : Prop := bitsOrderUptoRow.holds Try.pinned (OpenSpec.upto bitsOrderSpec)

/-- 'steadinglaw01.BitsSteps', WHERE WHAT IT READS IS OF BULK AT MOST 1048576: true; the input reads as it did. -/
def bitsStepsUptoRow : OpenClaim := { program := "ytaodlkpknipkmaa", sum := "1bba2847018337d3c786688d8fc52f42188a941927996afba276f7d295953dd4", func := "steading/steadinglaw01.BitsSteps", spec := "bitsSteps", unfollowed := true, recurses := true, apart := false, narrowed := true }
def BitsStepsUptoSaid : Prop := bitsStepsUptoRow.holds Try.pinned (OpenSpec.upto bitsStepsSpec)

/-- 'steadinglaw11.BumpFit', WHERE WHAT IT READS IS OF BULK AT MOST 1048576: true; the input reads as it did. -/
def bumpFitUptoRow : OpenClaim := { program := "ytaodlkpknipkmaa", sum := "1bba2847018337d3c786688d8fc52f42188a941927996afba276f7d295953dd4", func := "steading/steadinglaw11.BumpFit", spec := "bumpFit", unfollowed := true, recurses := true, apart := false, narrowed := true }
def BumpFitUptoSaid : Prop := bumpFitUptoRow.holds Try.pinned (OpenSpec.upto bumpFitSpec)

/-- 'steadinglaw11.BumpOf', WHERE WHAT IT READS IS OF BULK AT MOST 1048576: true; the input reads as it did. -/
def bumpOfUptoRow : OpenClaim := { program := "ytaodlkpknipkmaa", sum := "1bba2847018337d3c786688d8fc52f42188a941927996afba276f7d295953dd4", func := "steading/steadinglaw11.BumpOf", spec := "bumpOf", unfollowed := true, recurses := true, apart := false, narrowed := true }
def BumpOfUptoSaid : Prop := bumpOfUptoRow.holds Try.pinned (OpenSpec.upto bumpOfSpec)

/-- 'steadinglaw11.BumpApart', WHERE WHAT IT READS IS OF BULK AT MOST 1048576: true; the input reads as it did. -/
def bumpApartUptoRow : OpenClaim := { program := "ytaodlkpknipkmaa", sum := "1bba2847018337d3c786688d8fc52f42188a941927996afba276f7d295953dd4", func := "steading/steadinglaw11.BumpApart", spec := "bumpApart", unfollowed := true, recurses := true, apart := false, narrowed := true }
def BumpApartUptoSaid : Prop := bumpApartUptoRow.holds Try.pinned (OpenSpec.upto bumpApartSpec)

/-- 'steadinglaw11.BumpLast', WHERE WHAT IT READS IS OF BULK AT MOST 1048576: true; the input reads as it did. -/
def bumpLastUptoRow : OpenClaim := { program := "ytaodlkpknipkmaa", sum := "1bba2847018337d3c786688d8fc52f42188a941927996afba276f7d295953dd4", func := "steading/steadinglaw11.BumpLast", spec := "bumpLast", unfollowed := true, recurses := true, apart := false, narrowed := true }
def BumpLastUptoSaid : Prop := bumpLastUptoRow.holds Try.pinned (OpenSpec.upto bumpLastSpec)

/-- 'steadinglaw11.BumpTwice', WHERE WHAT IT READS IS OF BULK AT MOST 1048576: true; the input reads as it did. -/
def bumpTwiceUptoRow : OpenClaim := { program := "ytaodlkpknipkmaa", sum := "1bba2847018337d3c786688d8fc52f42188a941927996afba276f7d295953dd4", func := "steading/steadinglaw11.BumpTwice", spec := "bumpTwice", unfollowed := true, recurses := true, apart := false, narrowed := true }
def BumpTwiceUptoSaid : Prop := bumpTwiceUptoRow.holds Try.pinned (OpenSpec.upto bumpTwiceSpec)

end Rows
end Go.Proofs.Ytaodlkpknipkmaa
