/-
  No cell of these rows narrows 'for every input' (looked for: loops, veiled, ifaces, maps, wideKeys, modest, calm, conditions, laid).
  DERIVED. THE GIVEN ROWS OF THIS SEAT. 5 by the template 'for every input the law returns true; each argument reads behind the call as it read before'; 0 by the template 'total and deterministic' (their statements: YtidndkddjdfccaaTotals.lean).
  GIVEN WITH THE SEED: the statements are not yours to turn. If you find one false, say at which input.
  Laid BY PROGRAM, IN A SANDBOX (cutbox-rows.mjs): the forced cells as the released guide's own fill.sh prints them over the translation 93166dd8e7d46a68… (all of the seat's roots in one cut). By AI agents, Wed Nov 11 2026. No macro, syntax, notation, axiom, sorry.
-/
import Derived.Test.YtidndkddjdfccaaChecked
import GoSem.Claim
import GoSem.ClaimJoined
import GoSem.ClaimMapViews
import Derived.JoinedTies
import Derived.KernelRfl
namespace Go.Proofs.Ytidndkddjdfccaa
/- THE CELL 'sum', in the pinned program and in every row, IS THE sha256 OF THE DUMP (.gsa) THAT YtidndkddjdfccaaProg.lean LOADS. Nothing in Lean hashes anything: it is a label: what it is worth is what the hold of that sum in a sandbox is worth. -/
noncomputable def Try.pinned : Pinned := { name := "ytidndkddjdfccaa", sum := "93166dd8e7d46a685ac4717a47a39a805365818b827887fc6f882918f6be6ec1", checked := Try.checked }
namespace Rows
def none {H : Type} : Left H := { results := [], args := [] }

/-- 'thalweglaw03.SerialSorts': WHATEVER THE INPUT: true; the input reads as it did. -/
def serialSortsSpec : ChangeSpec := { name := "serialSorts", fn := fun _ => fun
  | [d1, d2] => { results := [.lit (.bool true)], args := [d1, d2] }
  | _ => none }
def serialSortsRow : OpenClaim := { program := "ytidndkddjdfccaa", sum := "93166dd8e7d46a685ac4717a47a39a805365818b827887fc6f882918f6be6ec1", func := "thalweg/thalweglaw03.SerialSorts", spec := "serialSorts", unfollowed := true, recurses := true, apart := false }
def SerialSortsSaid : Prop := serialSortsRow.holds Try.pinned (OpenSpec.ofChange serialSortsSpec)

/-- ITS FALSE NEIGHBOUR: 'it returns false'. Refute it at one input. -/
def serialSortsWrong : ChangeSpec := { name := "serialSorts", fn := fun _ => fun
  | [d1, d2] => { results := [.lit (.bool false)], args := [d1, d2] }
  | _ => none }
def SerialSortsWrongFalsely : Prop := serialSortsRow.holds Try.pinned (OpenSpec.ofChange serialSortsWrong)

/-- 'thalweglaw03.SerialSum': WHATEVER THE INPUT: true; the input reads as it did. -/
def serialSumSpec : ChangeSpec := { name := "serialSum", fn := fun _ => fun
  | [d1, d2, d3] => { results := [.lit (.bool true)], args := [d1, d2, d3] }
  | _ => none }
def serialSumRow : OpenClaim := { program := "ytidndkddjdfccaa", sum := "93166dd8e7d46a685ac4717a47a39a805365818b827887fc6f882918f6be6ec1", func := "thalweg/thalweglaw03.SerialSum", spec := "serialSum", unfollowed := true, recurses := true, apart := false }
def SerialSumSaid : Prop := serialSumRow.holds Try.pinned (OpenSpec.ofChange serialSumSpec)

/-- ITS FALSE NEIGHBOUR: 'it returns false'. Refute it at one input. -/
def serialSumWrong : ChangeSpec := { name := "serialSum", fn := fun _ => fun
  | [d1, d2, d3] => { results := [.lit (.bool false)], args := [d1, d2, d3] }
  | _ => none }
def SerialSumWrongFalsely : Prop := serialSumRow.holds Try.pinned (OpenSpec.ofChange serialSumWrong)

/-- 'thalweglaw03.SerialDoes': WHATEVER THE INPUT: true; the input reads as it did. -/
def serialDoesSpec : ChangeSpec := { name := "serialDoes", fn := fun _ => fun
  | [d1, d2, d3, d4] => { results := [.lit (.bool true)], args := [d1, d2, d3, d4] }
  | _ => none }
def serialDoesRow : OpenClaim := { program := "ytidndkddjdfccaa", sum := "93166dd8e7d46a685ac4717a47a39a805365818b827887fc6f882918f6be6ec1", func := "thalweg/thalweglaw03.SerialDoes", spec := "serialDoes", unfollowed := true, recurses := true, apart := false }
def SerialDoesSaid : Prop := serialDoesRow.holds Try.pinned (OpenSpec.ofChange serialDoesSpec)

/-- ITS FALSE NEIGHBOUR: 'it returns false'. Refute it at one input. -/
def serialDoesWrong : ChangeSpec := { name := "serialDoes", fn := fun _ => fun
  | [d1, d2, d3, d4] => { results := [.lit (.bool false)], args := [d1, d2, d3, d4] }
  | _ => none }
def SerialDoesWrongFalsely : Prop := serialDoesRow.holds Try.pinned (OpenSpec.ofChange serialDoesWrong)

/-- 'thalweglaw03.SerialRound': WHATEVER THE INPUT: true; the input reads as it did. -/
def serialRoundSpec : ChangeSpec := { name := "serialRound", fn := fun _ => fun
  | [d1, d2, d3] => { results := [.lit (.bool true)], args := [d1, d2, d3] }
  | _ => none }
def serialRoundRow : OpenClaim := { program := "ytidndkddjdfccaa", sum := "93166dd8e7d46a685ac4717a47a39a805365818b827887fc6f882918f6be6ec1", func := "thalweg/thalweglaw03.SerialRound", spec := "serialRound", unfollowed := true, recurses := true, apart := false }
def SerialRoundSaid : Prop := serialRoundRow.holds Try.pinned (OpenSpec.ofChange serialRoundSpec)

/-- ITS FALSE NEIGHBOUR: 'it returns false'. Refute it at one input. -/
def serialRoundWrong : ChangeSpec := { name := "serialRound", fn := fun _ => fun
  | [d1, d2, d3] => { results := [.lit (.bool false)], args := [d1, d2, d3] }
  | _ => none }
def SerialRoundWrongFalsely : Prop := serialRoundRow.holds Try.pinned (OpenSpec.ofChange serialRoundWrong)

/-- 'thalweglaw03.SerialRow': WHATEVER THE INPUT: true; the input reads as it did. -/
def serialRowSpec : ChangeSpec := { name := "serialRow", fn := fun _ => fun
  | [d1, d2] => { results := [.lit (.bool true)], args := [d1, d2] }
  | _ => none }
def serialRowRow : OpenClaim := { program := "ytidndkddjdfccaa", sum := "93166dd8e7d46a685ac4717a47a39a805365818b827887fc6f882918f6be6ec1", func := "thalweg/thalweglaw03.SerialRow", spec := "serialRow", unfollowed := true, recurses := true, apart := false }
def SerialRowSaid : Prop := serialRowRow.holds Try.pinned (OpenSpec.ofChange serialRowSpec)

/-- ITS FALSE NEIGHBOUR: 'it returns false'. Refute it at one input. -/
def serialRowWrong : ChangeSpec := { name := "serialRow", fn := fun _ => fun
  | [d1, d2] => { results := [.lit (.bool false)], args := [d1, d2] }
  | _ => none }
def SerialRowWrongFalsely : Prop := serialRowRow.holds Try.pinned (OpenSpec.ofChange serialRowWrong)

/- THE SECOND FORM. 'bulk': how many values and letters a reading holds, each counted each time it is reached (what is shared counts as often as it is met; a slice's spare places count too). A statement '..UptoSaid' is the law's where the arguments, and the package variables that the reading takes, are together of bulk at most 1048576: NARROWER than '..Said'. Prove '..Said' where nothing that the law and all that it calls make is longer than what came in: it says more and counts as full. Else prove '..UptoSaid'. A law counts once. -/
mutual
def uptoBulk {H : Type} : DataW H → Nat
  | .lit (.string bytes) => bytes.length + 1
  | .lit _ => 1
  | .nil => 1
  | .ptr d => uptoBulk d + 1
  | .slice elems spare => uptoBulkAll elems + uptoBulkAll spare + 1
  | .agg parts => uptoBulkAll parts + 1
  | .iface _ d => uptoBulk d + 1
  | .map entries => uptoBulkEntries entries + 1
  | .held _ => 1
def uptoBulkAll {H : Type} : List (DataW H) → Nat
  | [] => 0
  | d :: r => uptoBulk d + uptoBulkAll r
def uptoBulkEntries {H : Type} : List (Lit × DataW H) → Nat
  | [] => 0
  | x :: r => uptoBulkEntry x + uptoBulkEntries r
def uptoBulkEntry {H : Type} : Lit × DataW H → Nat
  | (.string bytes, d) => bytes.length + uptoBulk d + 1
  | (_, d) => uptoBulk d + 1
 end
def uptoSmall : (H : Type) → List (DataW H) → Bool := fun _ ds => decide (uptoBulkAll ds ≤ 1048576)
def OpenSpec.upto (s : _root_.Go.ChangeSpec) : _root_.Go.OpenSpec := { _root_.Go.OpenSpec.ofChange s with cond := some uptoSmall }

/-- 'thalweglaw03.SerialSorts', WHERE WHAT IT READS IS OF BULK AT MOST 1048576: true; the input reads as it did. -/
def serialSortsUptoRow : OpenClaim := { program := "ytidndkddjdfccaa", sum := "93166dd8e7d46a685ac4717a47a39a805365818b827887fc6f882918f6be6ec1", func := "thalweg/thalweglaw03.SerialSorts", spec := "serialSorts", unfollowed := true, recurses := true, apart := false, narrowed := true }
def SerialSortsUptoSaid : Prop := serialSortsUptoRow.holds Try.pinned (OpenSpec.upto serialSortsSpec)

/-- 'thalweglaw03.SerialSum', WHERE WHAT IT READS IS OF BULK AT MOST 1048576: true; the input reads as it did. -/
def serialSumUptoRow : OpenClaim := { program := "ytidndkddjdfccaa", sum := "93166dd8e7d46a685ac4717a47a39a805365818b827887fc6f882918f6be6ec1", func := "thalweg/thalweglaw03.SerialSum", spec := "serialSum", unfollowed := true, recurses := true, apart := false, narrowed := true }
def SerialSumUptoSaid : Prop := serialSumUptoRow.holds Try.pinned (OpenSpec.upto serialSumSpec)

/-- 'thalweglaw03.SerialDoes', WHERE WHAT IT READS IS OF BULK AT MOST 1048576: true; the input reads as it did. -/
def serialDoesUptoRow : OpenClaim := { program := "ytidndkddjdfccaa", sum := "93166dd8e7d46a685ac4717a47a39a805365818b827887fc6f882918f6be6ec1", func := "thalweg/thalweglaw03.SerialDoes", spec := "serialDoes", unfollowed := true, recurses := true, apart := false, narrowed := true }
def SerialDoesUptoSaid : Prop := serialDoesUptoRow.holds Try.pinned (OpenSpec.upto serialDoesSpec)

/-- 'thalweglaw03.SerialRound', WHERE WHAT IT READS IS OF BULK AT MOST 1048576: true; the input reads as it did. -/
def serialRoundUptoRow : OpenClaim := { program := "ytidndkddjdfccaa", sum := "93166dd8e7d46a685ac4717a47a39a805365818b827887fc6f882918f6be6ec1", func := "thalweg/thalweglaw03.SerialRound", spec := "serialRound", unfollowed := true, recurses := true, apart := false, narrowed := true }
def SerialRoundUptoSaid : Prop := serialRoundUptoRow.holds Try.pinned (OpenSpec.upto serialRoundSpec)

/-- 'thalweglaw03.SerialRow', WHERE WHAT IT READS IS OF BULK AT MOST 1048576: true; the input reads as it did. -/
def serialRowUptoRow : OpenClaim := { program := "ytidndkddjdfccaa", sum := "93166dd8e7d46a685ac4717a47a39a805365818b827887fc6f882918f6be6ec1", func := "thalweg/thalweglaw03.SerialRow", spec := "serialRow", unfollowed := true, recurses := true, apart := false, narrowed := true }
def SerialRowUptoSaid : Prop := serialRowUptoRow.holds Try.pinned (OpenSpec.upto serialRowSpec)

end Rows
end Go.Proofs.Ytidndkddjdfccaa
