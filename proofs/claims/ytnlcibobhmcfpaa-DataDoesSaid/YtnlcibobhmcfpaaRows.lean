/-
  No cell of these rows narrows 'for every input' (looked for: loops, veiled, ifaces, maps, wideKeys, modest, calm, conditions, laid).
  DERIVED. THE GIVEN ROWS OF THIS SEAT. 11 by the template 'for every input the law returns true; each argument reads behind the call as it read before'; 0 by the template 'total and deterministic' (their statements: YtnlcibobhmcfpaaTotals.lean).
  GIVEN WITH THE SEED: the statements are not yours to turn. If you find one false, say at which input.
  Laid BY PROGRAM, IN A SANDBOX (cutbox-rows.mjs): the forced cells as the released guide's own fill.sh prints them over the translation c4f9517d200d32f9… (all of the seat's roots in one cut). By AI agents, Wed Nov 11 2026. No macro, syntax, notation, axiom, sorry.
-/
import Derived.Test.YtnlcibobhmcfpaaChecked
import GoSem.Claim
import GoSem.ClaimJoined
import GoSem.ClaimMapViews
import Derived.JoinedTies
import Derived.KernelRfl
namespace Go.Proofs.Ytnlcibobhmcfpaa
/- THE CELL 'sum', in the pinned program and in every row, IS THE sha256 OF THE DUMP (.gsa) THAT YtnlcibobhmcfpaaProg.lean LOADS. Nothing in Lean hashes anything: it is a label: what it is worth is what the hold of that sum in a sandbox is worth. -/
noncomputable def Try.pinned : Pinned := { name := "ytnlcibobhmcfpaa", sum := "c4f9517d200d32f9632e15f7300bf782505933a52050c6dc4045a075844a9842", checked := Try.checked }
namespace Rows
def none {H : Type} : Left H := { results := [], args := [] }

/-- 'thalweglaw22.DataDecides': WHATEVER THE INPUT: true; the input reads as it did. -/
def dataDecidesSpec : ChangeSpec := { name := "dataDecides", fn := fun _ => fun
  | [d1, d2, d3, d4] => { results := [.lit (.bool true)], args := [d1, d2, d3, d4] }
  | _ => none }
def dataDecidesRow : OpenClaim := { program := "ytnlcibobhmcfpaa", sum := "c4f9517d200d32f9632e15f7300bf782505933a52050c6dc4045a075844a9842", func := "thalweg/thalweglaw22.DataDecides", spec := "dataDecides", unfollowed := true, recurses := true, apart := false }
def DataDecidesSaid : Prop := dataDecidesRow.holds Try.pinned (OpenSpec.ofChange dataDecidesSpec)

/-- ITS FALSE NEIGHBOUR: 'it returns false'. Refute it at one input. -/
def dataDecidesWrong : ChangeSpec := { name := "dataDecides", fn := fun _ => fun
  | [d1, d2, d3, d4] => { results := [.lit (.bool false)], args := [d1, d2, d3, d4] }
  | _ => none }
def DataDecidesWrongFalsely : Prop := dataDecidesRow.holds Try.pinned (OpenSpec.ofChange dataDecidesWrong)

/-- 'thalweglaw22.DataSame': WHATEVER THE INPUT: true; the input reads as it did. -/
def dataSameSpec : ChangeSpec := { name := "dataSame", fn := fun _ => fun
  | [d1, d2, d3, d4] => { results := [.lit (.bool true)], args := [d1, d2, d3, d4] }
  | _ => none }
def dataSameRow : OpenClaim := { program := "ytnlcibobhmcfpaa", sum := "c4f9517d200d32f9632e15f7300bf782505933a52050c6dc4045a075844a9842", func := "thalweg/thalweglaw22.DataSame", spec := "dataSame", unfollowed := true, recurses := true, apart := false }
def DataSameSaid : Prop := dataSameRow.holds Try.pinned (OpenSpec.ofChange dataSameSpec)

/-- ITS FALSE NEIGHBOUR: 'it returns false'. Refute it at one input. -/
def dataSameWrong : ChangeSpec := { name := "dataSame", fn := fun _ => fun
  | [d1, d2, d3, d4] => { results := [.lit (.bool false)], args := [d1, d2, d3, d4] }
  | _ => none }
def DataSameWrongFalsely : Prop := dataSameRow.holds Try.pinned (OpenSpec.ofChange dataSameWrong)

/-- 'thalweglaw10.QueueOrder': WHATEVER THE INPUT: true; the input reads as it did. -/
def queueOrderSpec : ChangeSpec := { name := "queueOrder", fn := fun _ => fun
  | [d1, d2, d3] => { results := [.lit (.bool true)], args := [d1, d2, d3] }
  | _ => none }
def queueOrderRow : OpenClaim := { program := "ytnlcibobhmcfpaa", sum := "c4f9517d200d32f9632e15f7300bf782505933a52050c6dc4045a075844a9842", func := "thalweg/thalweglaw10.QueueOrder", spec := "queueOrder", inPlace := ["sync/atomic.LoadInt64", "sync/atomic.StoreInt64"], unfollowed := true, recurses := true, apart := false }
def QueueOrderSaid : Prop := queueOrderRow.holds Try.pinned (OpenSpec.ofChange queueOrderSpec)

/-- ITS FALSE NEIGHBOUR: 'it returns false'. Refute it at one input. -/
def queueOrderWrong : ChangeSpec := { name := "queueOrder", fn := fun _ => fun
  | [d1, d2, d3] => { results := [.lit (.bool false)], args := [d1, d2, d3] }
  | _ => none }
def QueueOrderWrongFalsely : Prop := queueOrderRow.holds Try.pinned (OpenSpec.ofChange queueOrderWrong)

/-- 'thalweglaw10.QueueFirst': WHATEVER THE INPUT: true; the input reads as it did. -/
def queueFirstSpec : ChangeSpec := { name := "queueFirst", fn := fun _ => fun
  | [d1, d2] => { results := [.lit (.bool true)], args := [d1, d2] }
  | _ => none }
def queueFirstRow : OpenClaim := { program := "ytnlcibobhmcfpaa", sum := "c4f9517d200d32f9632e15f7300bf782505933a52050c6dc4045a075844a9842", func := "thalweg/thalweglaw10.QueueFirst", spec := "queueFirst", inPlace := ["sync/atomic.LoadInt64", "sync/atomic.StoreInt64"], unfollowed := true, recurses := true, apart := false }
def QueueFirstSaid : Prop := queueFirstRow.holds Try.pinned (OpenSpec.ofChange queueFirstSpec)

/-- ITS FALSE NEIGHBOUR: 'it returns false'. Refute it at one input. -/
def queueFirstWrong : ChangeSpec := { name := "queueFirst", fn := fun _ => fun
  | [d1, d2] => { results := [.lit (.bool false)], args := [d1, d2] }
  | _ => none }
def QueueFirstWrongFalsely : Prop := queueFirstRow.holds Try.pinned (OpenSpec.ofChange queueFirstWrong)

/-- 'thalweglaw10.QueueClears': WHATEVER THE INPUT: true; the input reads as it did. -/
def queueClearsSpec : ChangeSpec := { name := "queueClears", fn := fun _ => fun
  | [d1, d2, d3] => { results := [.lit (.bool true)], args := [d1, d2, d3] }
  | _ => none }
def queueClearsRow : OpenClaim := { program := "ytnlcibobhmcfpaa", sum := "c4f9517d200d32f9632e15f7300bf782505933a52050c6dc4045a075844a9842", func := "thalweg/thalweglaw10.QueueClears", spec := "queueClears", inPlace := ["sync/atomic.LoadInt64", "sync/atomic.StoreInt64"], unfollowed := true, recurses := true, apart := false }
def QueueClearsSaid : Prop := queueClearsRow.holds Try.pinned (OpenSpec.ofChange queueClearsSpec)

/-- ITS FALSE NEIGHBOUR: 'it returns false'. Refute it at one input. -/
def queueClearsWrong : ChangeSpec := { name := "queueClears", fn := fun _ => fun
  | [d1, d2, d3] => { results := [.lit (.bool false)], args := [d1, d2, d3] }
  | _ => none }
def QueueClearsWrongFalsely : Prop := queueClearsRow.holds Try.pinned (OpenSpec.ofChange queueClearsWrong)

/-- 'thalweglaw10.QueueDoes': WHATEVER THE INPUT: true; the input reads as it did. -/
def queueDoesSpec : ChangeSpec := { name := "queueDoes", fn := fun _ => fun
  | [d1, d2] => { results := [.lit (.bool true)], args := [d1, d2] }
  | _ => none }
def queueDoesRow : OpenClaim := { program := "ytnlcibobhmcfpaa", sum := "c4f9517d200d32f9632e15f7300bf782505933a52050c6dc4045a075844a9842", func := "thalweg/thalweglaw10.QueueDoes", spec := "queueDoes", inPlace := ["sync/atomic.LoadInt64", "sync/atomic.StoreInt64"], unfollowed := true, recurses := true, apart := false }
def QueueDoesSaid : Prop := queueDoesRow.holds Try.pinned (OpenSpec.ofChange queueDoesSpec)

/-- ITS FALSE NEIGHBOUR: 'it returns false'. Refute it at one input. -/
def queueDoesWrong : ChangeSpec := { name := "queueDoes", fn := fun _ => fun
  | [d1, d2] => { results := [.lit (.bool false)], args := [d1, d2] }
  | _ => none }
def QueueDoesWrongFalsely : Prop := queueDoesRow.holds Try.pinned (OpenSpec.ofChange queueDoesWrong)

/-- 'thalweglaw10.QueueNil': WHATEVER THE INPUT: true; the input reads as it did. -/
def queueNilSpec : ChangeSpec := { name := "queueNil", fn := fun _ => fun
  | [d1, d2] => { results := [.lit (.bool true)], args := [d1, d2] }
  | _ => none }
def queueNilRow : OpenClaim := { program := "ytnlcibobhmcfpaa", sum := "c4f9517d200d32f9632e15f7300bf782505933a52050c6dc4045a075844a9842", func := "thalweg/thalweglaw10.QueueNil", spec := "queueNil", inPlace := ["sync/atomic.LoadInt64", "sync/atomic.StoreInt64"], unfollowed := true, recurses := true, apart := false }
def QueueNilSaid : Prop := queueNilRow.holds Try.pinned (OpenSpec.ofChange queueNilSpec)

/-- ITS FALSE NEIGHBOUR: 'it returns false'. Refute it at one input. -/
def queueNilWrong : ChangeSpec := { name := "queueNil", fn := fun _ => fun
  | [d1, d2] => { results := [.lit (.bool false)], args := [d1, d2] }
  | _ => none }
def QueueNilWrongFalsely : Prop := queueNilRow.holds Try.pinned (OpenSpec.ofChange queueNilWrong)

/-- 'thalweglaw22.DataOrder': WHATEVER THE INPUT: true; the input reads as it did. -/
def dataOrderSpec : ChangeSpec := { name := "dataOrder", fn := fun _ => fun
  | [d1, d2, d3] => { results := [.lit (.bool true)], args := [d1, d2, d3] }
  | _ => none }
def dataOrderRow : OpenClaim := { program := "ytnlcibobhmcfpaa", sum := "c4f9517d200d32f9632e15f7300bf782505933a52050c6dc4045a075844a9842", func := "thalweg/thalweglaw22.DataOrder", spec := "dataOrder", inPlace := ["sync/atomic.LoadInt64", "sync/atomic.AddInt64", "sync/atomic.StoreInt64"], unfollowed := true, recurses := true, apart := false }
def DataOrderSaid : Prop := dataOrderRow.holds Try.pinned (OpenSpec.ofChange dataOrderSpec)

/-- ITS FALSE NEIGHBOUR: 'it returns false'. Refute it at one input. -/
def dataOrderWrong : ChangeSpec := { name := "dataOrder", fn := fun _ => fun
  | [d1, d2, d3] => { results := [.lit (.bool false)], args := [d1, d2, d3] }
  | _ => none }
def DataOrderWrongFalsely : Prop := dataOrderRow.holds Try.pinned (OpenSpec.ofChange dataOrderWrong)

/-- 'thalweglaw22.DataKeeps': WHATEVER THE INPUT: true; the input reads as it did. -/
def dataKeepsSpec : ChangeSpec := { name := "dataKeeps", fn := fun _ => fun
  | [d1, d2, d3] => { results := [.lit (.bool true)], args := [d1, d2, d3] }
  | _ => none }
def dataKeepsRow : OpenClaim := { program := "ytnlcibobhmcfpaa", sum := "c4f9517d200d32f9632e15f7300bf782505933a52050c6dc4045a075844a9842", func := "thalweg/thalweglaw22.DataKeeps", spec := "dataKeeps", inPlace := ["sync/atomic.LoadInt64", "sync/atomic.StoreInt64", "sync/atomic.AddInt64"], unfollowed := true, recurses := true, apart := false }
def DataKeepsSaid : Prop := dataKeepsRow.holds Try.pinned (OpenSpec.ofChange dataKeepsSpec)

/-- ITS FALSE NEIGHBOUR: 'it returns false'. Refute it at one input. -/
def dataKeepsWrong : ChangeSpec := { name := "dataKeeps", fn := fun _ => fun
  | [d1, d2, d3] => { results := [.lit (.bool false)], args := [d1, d2, d3] }
  | _ => none }
def DataKeepsWrongFalsely : Prop := dataKeepsRow.holds Try.pinned (OpenSpec.ofChange dataKeepsWrong)

/-- 'thalweglaw22.DataNil': WHATEVER THE INPUT: true; the input reads as it did. -/
def dataNilSpec : ChangeSpec := { name := "dataNil", fn := fun _ => fun
  | [d1, d2, d3] => { results := [.lit (.bool true)], args := [d1, d2, d3] }
  | _ => none }
def dataNilRow : OpenClaim := { program := "ytnlcibobhmcfpaa", sum := "c4f9517d200d32f9632e15f7300bf782505933a52050c6dc4045a075844a9842", func := "thalweg/thalweglaw22.DataNil", spec := "dataNil", inPlace := ["sync/atomic.LoadInt64", "sync/atomic.AddInt64", "sync/atomic.StoreInt64"], unfollowed := true, recurses := true, apart := false }
def DataNilSaid : Prop := dataNilRow.holds Try.pinned (OpenSpec.ofChange dataNilSpec)

/-- ITS FALSE NEIGHBOUR: 'it returns false'. Refute it at one input. -/
def dataNilWrong : ChangeSpec := { name := "dataNil", fn := fun _ => fun
  | [d1, d2, d3] => { results := [.lit (.bool false)], args := [d1, d2, d3] }
  | _ => none }
def DataNilWrongFalsely : Prop := dataNilRow.holds Try.pinned (OpenSpec.ofChange dataNilWrong)

/-- 'thalweglaw22.DataDoes': WHATEVER THE INPUT: true; the input reads as it did. -/
def dataDoesSpec : ChangeSpec := { name := "dataDoes", fn := fun _ => fun
  | [d1, d2, d3] => { results := [.lit (.bool true)], args := [d1, d2, d3] }
  | _ => none }
def dataDoesRow : OpenClaim := { program := "ytnlcibobhmcfpaa", sum := "c4f9517d200d32f9632e15f7300bf782505933a52050c6dc4045a075844a9842", func := "thalweg/thalweglaw22.DataDoes", spec := "dataDoes", inPlace := ["sync/atomic.LoadInt64", "sync/atomic.StoreInt64", "sync/atomic.AddInt64"], unfollowed := true, recurses := true, apart := false }
def DataDoesSaid : Prop := dataDoesRow.holds Try.pinned (OpenSpec.ofChange dataDoesSpec)

/-- ITS FALSE NEIGHBOUR: 'it returns false'. Refute it at one input. -/
def dataDoesWrong : ChangeSpec := { name := "dataDoes", fn := fun _ => fun
  | [d1, d2, d3] => { results := [.lit (.bool false)], args := [d1, d2, d3] }
  | _ => none }
def DataDoesWrongFalsely : Prop := dataDoesRow.holds Try.pinned (OpenSpec.ofChange dataDoesWrong)

/- THE SECOND FORM. 'bulk': how many values and letters a reading holds, each counted each time it is reached (what is shared counts as often as it is met; a slice's spare places count too). A statement '..UptoSaid' is the law's where the arguments, and the package variables that the reading takes, are together of bulk at most 1048576: NARROWER than '..Said'. Prove '..Said' where nothing that the law and all that it calls make is longer than what came in: it says more and counts as full. Else prove '..UptoSaid'. A law counts once. -/
mutual
def uptoBulk {H : Type} : DataW H → Nat
  | .lit (.string bytes) => bytes.length + 1
  | .lit _ => 1
  | .nil => 1
  | .ptr d => uptoBulk d + 1
  | .slice elems spare => uptoBulkAll elems + uptoBulkAll spare + 1
  | .agg parts => uptoBulkAll parts + 1
  | .iface _ d => uptoBulk d + 1
  | .map entries => uptoBulkEntries entries + 1
  | .held _ => 1
def uptoBulkAll {H : Type} : List (DataW H) → Nat
  | [] => 0
  | d :: r => uptoBulk d + uptoBulkAll r
def uptoBulkEntries {H : Type} : List (Lit × DataW H) → Nat
  | [] => 0
  | x :: r => uptoBulkEntry x + uptoBulkEntries r
def uptoBulkEntry {H : Type} : Lit × DataW H → Nat
  | (.string bytes, d) => bytes.length + uptoBulk d + 1
  | (_, d) => uptoBulk d + 1
 end
def uptoSmall : (H : Type) → List (DataW H) → Bool := fun _ ds => decide (uptoBulkAll ds ≤ 1048576)
def OpenSpec.upto (s : _root_.Go.ChangeSpec) : _root_.Go.OpenSpec := { _root_.Go.OpenSpec.ofChange s with cond := some uptoSmall }

/-- 'thalweglaw22.DataDecides', WHERE WHAT IT READS IS OF BULK AT MOST 1048576: true; the input reads as it did. -/
def dataDecidesUptoRow : OpenClaim := { program := "ytnlcibobhmcfpaa", sum := "c4f9517d200d32f9632e15f7300bf782505933a52050c6dc4045a075844a9842", func := "thalweg/thalweglaw22.DataDecides", spec := "dataDecides", unfollowed := true, recurses := true, apart := false, narrowed := true }
def DataDecidesUptoSaid : Prop := dataDecidesUptoRow.holds Try.pinned (OpenSpec.upto dataDecidesSpec)

/-- 'thalweglaw22.DataSame', WHERE WHAT IT READS IS OF BULK AT MOST 1048576: true; the input reads as it did. -/
def dataSameUptoRow : OpenClaim := { program := "ytnlcibobhmcfpaa", sum := "c4f9517d200d32f9632e15f7300bf782505933a52050c6dc4045a075844a9842", func := "thalweg/thalweglaw22.DataSame", spec := "dataSame", unfollowed := true, recurses := true, apart := false, narrowed := true }
def DataSameUptoSaid : Prop := dataSameUptoRow.holds Try.pinned (OpenSpec.upto dataSameSpec)

/-- 'thalweglaw10.QueueOrder', WHERE WHAT IT READS IS OF BULK AT MOST 1048576: true; the input reads as it did. -/
def queueOrderUptoRow : OpenClaim := { program := "ytnlcibobhmcfpaa", sum := "c4f9517d200d32f9632e15f7300bf782505933a52050c6dc4045a075844a9842", func := "thalweg/thalweglaw10.QueueOrder", spec := "queueOrder", inPlace := ["sync/atomic.LoadInt64", "sync/atomic.StoreInt64"], unfollowed := true, recurses := true, apart := false, narrowed := true }
def QueueOrderUptoSaid : Prop := queueOrderUptoRow.holds Try.pinned (OpenSpec.upto queueOrderSpec)

/-- 'thalweglaw10.QueueFirst', WHERE WHAT IT READS IS OF BULK AT MOST 1048576: true; the input reads as it did. -/
def queueFirstUptoRow : OpenClaim := { program := "ytnlcibobhmcfpaa", sum := "c4f9517d200d32f9632e15f7300bf782505933a52050c6dc4045a075844a9842", func := "thalweg/thalweglaw10.QueueFirst", spec := "queueFirst", inPlace := ["sync/atomic.LoadInt64", "sync/atomic.StoreInt64"], unfollowed := true, recurses := true, apart := false, narrowed := true }
def QueueFirstUptoSaid : Prop := queueFirstUptoRow.holds Try.pinned (OpenSpec.upto queueFirstSpec)

/-- 'thalweglaw10.QueueClears', WHERE WHAT IT READS IS OF BULK AT MOST 1048576: true; the input reads as it did. -/
def queueClearsUptoRow : OpenClaim := { program := "ytnlcibobhmcfpaa", sum := "c4f9517d200d32f9632e15f7300bf782505933a52050c6dc4045a075844a9842", func := "thalweg/thalweglaw10.QueueClears", spec := "queueClears", inPlace := ["sync/atomic.LoadInt64", "sync/atomic.StoreInt64"], unfollowed := true, recurses := true, apart := false, narrowed := true }
def QueueClearsUptoSaid : Prop := queueClearsUptoRow.holds Try.pinned (OpenSpec.upto queueClearsSpec)

/-- 'thalweglaw10.QueueDoes', WHERE WHAT IT READS IS OF BULK AT MOST 1048576: true; the input reads as it did. -/
def queueDoesUptoRow : OpenClaim := { program := "ytnlcibobhmcfpaa", sum := "c4f9517d200d32f9632e15f7300bf782505933a52050c6dc4045a075844a9842", func := "thalweg/thalweglaw10.QueueDoes", spec := "queueDoes", inPlace := ["sync/atomic.LoadInt64", "sync/atomic.StoreInt64"], unfollowed := true, recurses := true, apart := false, narrowed := true }
def QueueDoesUptoSaid : Prop := queueDoesUptoRow.holds Try.pinned (OpenSpec.upto queueDoesSpec)

/-- 'thalweglaw10.QueueNil', WHERE WHAT IT READS IS OF BULK AT MOST 1048576: true; the input reads as it did. -/
def queueNilUptoRow : OpenClaim := { program := "ytnlcibobhmcfpaa", sum := "c4f9517d200d32f9632e15f7300bf782505933a52050c6dc4045a075844a9842", func := "thalweg/thalweglaw10.QueueNil", spec := "queueNil", inPlace := ["sync/atomic.LoadInt64", "sync/atomic.StoreInt64"], unfollowed := true, recurses := true, apart := false, narrowed := true }
def QueueNilUptoSaid : Prop := queueNilUptoRow.holds Try.pinned (OpenSpec.upto queueNilSpec)

/-- 'thalweglaw22.DataOrder', WHERE WHAT IT READS IS OF BULK AT MOST 1048576: true; the input reads as it did. -/
def dataOrderUptoRow : OpenClaim := { program := "ytnlcibobhmcfpaa", sum := "c4f9517d200d32f9632e15f7300bf782505933a52050c6dc4045a075844a9842", func := "thalweg/thalweglaw22.DataOrder", spec := "dataOrder", inPlace := ["sync/atomic.LoadInt64", "sync/atomic.AddInt64", "sync/atomic.StoreInt64"], unfollowed := true, recurses := true, apart := false, narrowed := true }
def DataOrderUptoSaid : Prop := dataOrderUptoRow.holds Try.pinned (OpenSpec.upto dataOrderSpec)

/-- 'thalweglaw22.DataKeeps', WHERE WHAT IT READS IS OF BULK AT MOST 1048576: true; the input reads as it did. -/
def dataKeepsUptoRow : OpenClaim := { program := "ytnlcibobhmcfpaa", sum := "c4f9517d200d32f9632e15f7300bf782505933a52050c6dc4045a075844a9842", func := "thalweg/thalweglaw22.DataKeeps", spec := "dataKeeps", inPlace := ["sync/atomic.LoadInt64", "sync/atomic.StoreInt64", "sync/atomic.AddInt64"], unfollowed := true, recurses := true, apart := false, narrowed := true }
def DataKeepsUptoSaid : Prop := dataKeepsUptoRow.holds Try.pinned (OpenSpec.upto dataKeepsSpec)

/-- 'thalweglaw22.DataNil', WHERE WHAT IT READS IS OF BULK AT MOST 1048576: true; the input reads as it did. -/
def dataNilUptoRow : OpenClaim := { program := "ytnlcibobhmcfpaa", sum := "c4f9517d200d32f9632e15f7300bf782505933a52050c6dc4045a075844a9842", func := "thalweg/thalweglaw22.DataNil", spec := "dataNil", inPlace := ["sync/atomic.LoadInt64", "sync/atomic.AddInt64", "sync/atomic.StoreInt64"], unfollowed := true, recurses := true, apart := false, narrowed := true }
def DataNilUptoSaid : Prop := dataNilUptoRow.holds Try.pinned (OpenSpec.upto dataNilSpec)

/-- 'thalweglaw22.DataDoes', WHERE WHAT IT READS IS OF BULK AT MOST 1048576: true; the input reads as it did. -/
def dataDoesUptoRow : OpenClaim := { program := "ytnlcibobhmcfpaa", sum := "c4f9517d200d32f9632e15f7300bf782505933a52050c6dc4045a075844a9842", func := "thalweg/thalweglaw22.DataDoes", spec := "dataDoes", inPlace := ["sync/atomic.LoadInt64", "sync/atomic.StoreInt64", "sync/atomic.AddInt64"], unfollowed := true, recurses := true, apart := false, narrowed := true }
def DataDoesUptoSaid : Prop := dataDoesUptoRow.holds Try.pinned (OpenSpec.upto dataDoesSpec)

end Rows
end Go.Proofs.Ytnlcibobhmcfpaa
