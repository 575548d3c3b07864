/-
  No cell of these rows narrows 'for every input' (looked for: loops, veiled, ifaces, maps, wideKeys, modest, calm, conditions, laid).
  DERIVED. THE GIVEN ROWS OF THIS SEAT. 6 by the template 'for every input the law returns true; each argument reads behind the call as it read before'; 0 by the template 'total and deterministic' (their statements: YtocfnimeinongaaTotals.lean).
  GIVEN WITH THE SEED: the statements are not yours to turn. If you find one false, say at which input.
  Laid BY PROGRAM, IN A SANDBOX (cutbox-rows.mjs): the forced cells as the released guide's own fill.sh prints them over the translation 5ea379e0c6d0bee0… (all of the seat's roots in one cut). By AI agents, Wed Nov 11 2026. No macro, syntax, notation, axiom, sorry.
-/
import Derived.Test.YtocfnimeinongaaChecked
import GoSem.Claim
import GoSem.ClaimJoined
import GoSem.ClaimMapViews
import Derived.JoinedTies
import Derived.KernelRfl
namespace Go.Proofs.Ytocfnimeinongaa
/- THE CELL 'sum', in the pinned program and in every row, IS THE sha256 OF THE DUMP (.gsa) THAT YtocfnimeinongaaProg.lean LOADS. Nothing in Lean hashes anything: it is a label: what it is worth is what the hold of that sum in a sandbox is worth. -/
noncomputable def Try.pinned : Pinned := { name := "ytocfnimeinongaa", sum := "5ea379e0c6d0bee0fbeb5635616ba68e43f46fa115b04aabdd22d6b1869f8ed7", checked := Try.checked }
namespace Rows
def none {H : Type} : Left H := { results := [], args := [] }

/-- 'thalweglaw13.SenseDoes': WHATEVER THE INPUT: true; the input reads as it did. -/
def senseDoesSpec : ChangeSpec := { name := "senseDoes", fn := fun _ => fun
  | [d1, d2, d3, d4] => { results := [.lit (.bool true)], args := [d1, d2, d3, d4] }
  | _ => none }
def senseDoesRow : OpenClaim := { program := "ytocfnimeinongaa", sum := "5ea379e0c6d0bee0fbeb5635616ba68e43f46fa115b04aabdd22d6b1869f8ed7", func := "thalweg/thalweglaw13.SenseDoes", spec := "senseDoes", inPlace := ["sync/atomic.StorePointer", "sync/atomic.LoadPointer", "maps.clone"], unfollowed := true, recurses := true, apart := false }
def SenseDoesSaid : Prop := senseDoesRow.holds Try.pinned (OpenSpec.ofChange senseDoesSpec)

/-- ITS FALSE NEIGHBOUR: 'it returns false'. Refute it at one input. -/
def senseDoesWrong : ChangeSpec := { name := "senseDoes", fn := fun _ => fun
  | [d1, d2, d3, d4] => { results := [.lit (.bool false)], args := [d1, d2, d3, d4] }
  | _ => none }
def SenseDoesWrongFalsely : Prop := senseDoesRow.holds Try.pinned (OpenSpec.ofChange senseDoesWrong)

/-- 'thalweglaw13.SenseTurns': WHATEVER THE INPUT: true; the input reads as it did. -/
def senseTurnsSpec : ChangeSpec := { name := "senseTurns", fn := fun _ => fun
  | [d1, d2, d3, d4] => { results := [.lit (.bool true)], args := [d1, d2, d3, d4] }
  | _ => none }
def senseTurnsRow : OpenClaim := { program := "ytocfnimeinongaa", sum := "5ea379e0c6d0bee0fbeb5635616ba68e43f46fa115b04aabdd22d6b1869f8ed7", func := "thalweg/thalweglaw13.SenseTurns", spec := "senseTurns", inPlace := ["sync/atomic.StorePointer", "sync/atomic.LoadPointer", "maps.clone"], unfollowed := true, recurses := true, apart := false }
def SenseTurnsSaid : Prop := senseTurnsRow.holds Try.pinned (OpenSpec.ofChange senseTurnsSpec)

/-- ITS FALSE NEIGHBOUR: 'it returns false'. Refute it at one input. -/
def senseTurnsWrong : ChangeSpec := { name := "senseTurns", fn := fun _ => fun
  | [d1, d2, d3, d4] => { results := [.lit (.bool false)], args := [d1, d2, d3, d4] }
  | _ => none }
def SenseTurnsWrongFalsely : Prop := senseTurnsRow.holds Try.pinned (OpenSpec.ofChange senseTurnsWrong)

/-- 'thalweglaw13.SenseMeets': WHATEVER THE INPUT: true; the input reads as it did. -/
def senseMeetsSpec : ChangeSpec := { name := "senseMeets", fn := fun _ => fun
  | [d1, d2, d3, d4, d5, d6] => { results := [.lit (.bool true)], args := [d1, d2, d3, d4, d5, d6] }
  | _ => none }
def senseMeetsRow : OpenClaim := { program := "ytocfnimeinongaa", sum := "5ea379e0c6d0bee0fbeb5635616ba68e43f46fa115b04aabdd22d6b1869f8ed7", func := "thalweg/thalweglaw13.SenseMeets", spec := "senseMeets", inPlace := ["sync/atomic.StorePointer", "sync/atomic.LoadPointer", "maps.clone"], unfollowed := true, recurses := true, apart := false }
def SenseMeetsSaid : Prop := senseMeetsRow.holds Try.pinned (OpenSpec.ofChange senseMeetsSpec)

/-- ITS FALSE NEIGHBOUR: 'it returns false'. Refute it at one input. -/
def senseMeetsWrong : ChangeSpec := { name := "senseMeets", fn := fun _ => fun
  | [d1, d2, d3, d4, d5, d6] => { results := [.lit (.bool false)], args := [d1, d2, d3, d4, d5, d6] }
  | _ => none }
def SenseMeetsWrongFalsely : Prop := senseMeetsRow.holds Try.pinned (OpenSpec.ofChange senseMeetsWrong)

/-- 'thalweglaw13.SenseKeeps': WHATEVER THE INPUT: true; the input reads as it did. -/
def senseKeepsSpec : ChangeSpec := { name := "senseKeeps", fn := fun _ => fun
  | [d1, d2, d3, d4, d5] => { results := [.lit (.bool true)], args := [d1, d2, d3, d4, d5] }
  | _ => none }
def senseKeepsRow : OpenClaim := { program := "ytocfnimeinongaa", sum := "5ea379e0c6d0bee0fbeb5635616ba68e43f46fa115b04aabdd22d6b1869f8ed7", func := "thalweg/thalweglaw13.SenseKeeps", spec := "senseKeeps", inPlace := ["sync/atomic.StorePointer", "sync/atomic.LoadPointer", "maps.clone"], unfollowed := true, recurses := true, apart := false }
def SenseKeepsSaid : Prop := senseKeepsRow.holds Try.pinned (OpenSpec.ofChange senseKeepsSpec)

/-- ITS FALSE NEIGHBOUR: 'it returns false'. Refute it at one input. -/
def senseKeepsWrong : ChangeSpec := { name := "senseKeeps", fn := fun _ => fun
  | [d1, d2, d3, d4, d5] => { results := [.lit (.bool false)], args := [d1, d2, d3, d4, d5] }
  | _ => none }
def SenseKeepsWrongFalsely : Prop := senseKeepsRow.holds Try.pinned (OpenSpec.ofChange senseKeepsWrong)

/-- 'thalweglaw13.SenseNil': WHATEVER THE INPUT: true; the input reads as it did. -/
def senseNilSpec : ChangeSpec := { name := "senseNil", fn := fun _ => fun
  | [d1, d2, d3] => { results := [.lit (.bool true)], args := [d1, d2, d3] }
  | _ => none }
def senseNilRow : OpenClaim := { program := "ytocfnimeinongaa", sum := "5ea379e0c6d0bee0fbeb5635616ba68e43f46fa115b04aabdd22d6b1869f8ed7", func := "thalweg/thalweglaw13.SenseNil", spec := "senseNil", inPlace := ["sync/atomic.LoadPointer", "maps.clone", "sync/atomic.StorePointer"], unfollowed := true, recurses := true, apart := false }
def SenseNilSaid : Prop := senseNilRow.holds Try.pinned (OpenSpec.ofChange senseNilSpec)

/-- ITS FALSE NEIGHBOUR: 'it returns false'. Refute it at one input. -/
def senseNilWrong : ChangeSpec := { name := "senseNil", fn := fun _ => fun
  | [d1, d2, d3] => { results := [.lit (.bool false)], args := [d1, d2, d3] }
  | _ => none }
def SenseNilWrongFalsely : Prop := senseNilRow.holds Try.pinned (OpenSpec.ofChange senseNilWrong)

/-- 'thalweglaw13.SenseSays': WHATEVER THE INPUT: true; the input reads as it did. -/
def senseSaysSpec : ChangeSpec := { name := "senseSays", fn := fun _ => fun
  | [d1, d2, d3, d4] => { results := [.lit (.bool true)], args := [d1, d2, d3, d4] }
  | _ => none }
def senseSaysRow : OpenClaim := { program := "ytocfnimeinongaa", sum := "5ea379e0c6d0bee0fbeb5635616ba68e43f46fa115b04aabdd22d6b1869f8ed7", func := "thalweg/thalweglaw13.SenseSays", spec := "senseSays", inPlace := ["sync/atomic.StorePointer", "sync/atomic.LoadPointer", "maps.clone"], unfollowed := true, recurses := true, apart := false }
def SenseSaysSaid : Prop := senseSaysRow.holds Try.pinned (OpenSpec.ofChange senseSaysSpec)

/-- ITS FALSE NEIGHBOUR: 'it returns false'. Refute it at one input. -/
def senseSaysWrong : ChangeSpec := { name := "senseSays", fn := fun _ => fun
  | [d1, d2, d3, d4] => { results := [.lit (.bool false)], args := [d1, d2, d3, d4] }
  | _ => none }
def SenseSaysWrongFalsely : Prop := senseSaysRow.holds Try.pinned (OpenSpec.ofChange senseSaysWrong)

/- THE SECOND FORM. 'bulk': how many values and letters a reading holds, each counted each time it is reached (what is shared counts as often as it is met; a slice's spare places count too). A statement '..UptoSaid' is the law's where the arguments, and the package variables that the reading takes, are together of bulk at most 1048576: NARROWER than '..Said'. Prove '..Said' where nothing that the law and all that it calls make is longer than what came in: it says more and counts as full. Else prove '..UptoSaid'. A law counts once. -/
mutual
def uptoBulk {H : Type} : DataW H → Nat
  | .lit (.string bytes) => bytes.length + 1
  | .lit _ => 1
  | .nil => 1
  | .ptr d => uptoBulk d + 1
  | .slice elems spare => uptoBulkAll elems + uptoBulkAll spare + 1
  | .agg parts => uptoBulkAll parts + 1
  | .iface _ d => uptoBulk d + 1
  | .map entries => uptoBulkEntries entries + 1
  | .held _ => 1
def uptoBulkAll {H : Type} : List (DataW H) → Nat
  | [] => 0
  | d :: r => uptoBulk d + uptoBulkAll r
def uptoBulkEntries {H : Type} : List (Lit × DataW H) → Nat
  | [] => 0
  | x :: r => uptoBulkEntry x + uptoBulkEntries r
def uptoBulkEntry {H : Type} : Lit × DataW H → Nat
  | (.string bytes, d) => bytes.length + uptoBulk d + 1
  | (_, d) => uptoBulk d + 1
 end
def uptoSmall : (H : Type) → List (DataW H) → Bool := fun _ ds => decide (uptoBulkAll ds ≤ 1048576)
def OpenSpec.upto (s : _root_.Go.ChangeSpec) : _root_.Go.OpenSpec := { _root_.Go.OpenSpec.ofChange s with cond := some uptoSmall }

/-- 'thalweglaw13.SenseDoes', WHERE WHAT IT READS IS OF BULK AT MOST 1048576: true; the input reads as it did. -/
def senseDoesUptoRow : OpenClaim := { program := "ytocfnimeinongaa", sum := "5ea379e0c6d0bee0fbeb5635616ba68e43f46fa115b04aabdd22d6b1869f8ed7", func := "thalweg/thalweglaw13.SenseDoes", spec := "senseDoes", inPlace := ["sync/atomic.StorePointer", "sync/atomic.LoadPointer", "maps.clone"], unfollowed := true, recurses := true, apart := false, narrowed := true }
def SenseDoesUptoSaid : Prop := senseDoesUptoRow.holds Try.pinned (OpenSpec.upto senseDoesSpec)

/-- 'thalweglaw13.SenseTurns', WHERE WHAT IT READS IS OF BULK AT MOST 1048576: true; the input reads as it did. -/
def senseTurnsUptoRow : OpenClaim := { program := "ytocfnimeinongaa", sum := "5ea379e0c6d0bee0fbeb5635616ba68e43f46fa115b04aabdd22d6b1869f8ed7", func := "thalweg/thalweglaw13.SenseTurns", spec := "senseTurns", inPlace := ["sync/atomic.StorePointer", "sync/atomic.LoadPointer", "maps.clone"], unfollowed := true, recurses := true, apart := false, narrowed := true }
def SenseTurnsUptoSaid : Prop := senseTurnsUptoRow.holds Try.pinned (OpenSpec.upto senseTurnsSpec)

/-- 'thalweglaw13.SenseMeets', WHERE WHAT IT READS IS OF BULK AT MOST 1048576: true; the input reads as it did. -/
def senseMeetsUptoRow : OpenClaim := { program := "ytocfnimeinongaa", sum := "5ea379e0c6d0bee0fbeb5635616ba68e43f46fa115b04aabdd22d6b1869f8ed7", func := "thalweg/thalweglaw13.SenseMeets", spec := "senseMeets", inPlace := ["sync/atomic.StorePointer", "sync/atomic.LoadPointer", "maps.clone"], unfollowed := true, recurses := true, apart := false, narrowed := true }
def SenseMeetsUptoSaid : Prop := senseMeetsUptoRow.holds Try.pinned (OpenSpec.upto senseMeetsSpec)

/-- 'thalweglaw13.SenseKeeps', WHERE WHAT IT READS IS OF BULK AT MOST 1048576: true; the input reads as it did. -/
def senseKeepsUptoRow : OpenClaim := { program := "ytocfnimeinongaa", sum := "5ea379e0c6d0bee0fbeb5635616ba68e43f46fa115b04aabdd22d6b1869f8ed7", func := "thalweg/thalweglaw13.SenseKeeps", spec := "senseKeeps", inPlace := ["sync/atomic.StorePointer", "sync/atomic.LoadPointer", "maps.clone"], unfollowed := true, recurses := true, apart := false, narrowed := true }
def SenseKeepsUptoSaid : Prop := senseKeepsUptoRow.holds Try.pinned (OpenSpec.upto senseKeepsSpec)

/-- 'thalweglaw13.SenseNil', WHERE WHAT IT READS IS OF BULK AT MOST 1048576: true; the input reads as it did. -/
def senseNilUptoRow : OpenClaim := { program := "ytocfnimeinongaa", sum := "5ea379e0c6d0bee0fbeb5635616ba68e43f46fa115b04aabdd22d6b1869f8ed7", func := "thalweg/thalweglaw13.SenseNil", spec := "senseNil", inPlace := ["sync/atomic.LoadPointer", "maps.clone", "sync/atomic.StorePointer"], unfollowed := true, recurses := true, apart := false, narrowed := true }
def SenseNilUptoSaid : Prop := senseNilUptoRow.holds Try.pinned (OpenSpec.upto senseNilSpec)

/-- 'thalweglaw13.SenseSays', WHERE WHAT IT READS IS OF BULK AT MOST 1048576: true; the input reads as it did. -/
def senseSaysUptoRow : OpenClaim := { program := "ytocfnimeinongaa", sum := "5ea379e0c6d0bee0fbeb5635616ba68e43f46fa115b04aabdd22d6b1869f8ed7", func := "thalweg/thalweglaw13.SenseSays", spec := "senseSays", inPlace := ["sync/atomic.StorePointer", "sync/atomic.LoadPointer", "maps.clone"], unfollowed := true, recurses := true, apart := false, narrowed := true }
def SenseSaysUptoSaid : Prop := senseSaysUptoRow.holds Try.pinned (OpenSpec.upto senseSaysSpec)

end Rows
end Go.Proofs.Ytocfnimeinongaa
