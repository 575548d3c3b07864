/- Base words of this seat: small facts on worlds, what a node, a right packet and a verdict are. -/
import Derived.Test.YtnlcibobhmcfpaaProg
import Derived.WalkKit
import Derived.WalkSpells
import Derived.WalkLawsBesides
import Derived.Deep.QuietTactic
import Derived.BigQuiet
import Derived.Laws.StructEq
set_option linter.unusedSimpArgs false
namespace Go.Proofs.Ytnlcibobhmcfpaa
open Go.RowKit
def nodeB (x : Int) : Bool := decide (0 ≤ x) && decide (x < 64)
def rightB (s d t n : Int) (x : ByteArray) : Bool := nodeB s && nodeB d && decide (0 ≤ t) && decide (t ≤ 255) && decide (0 ≤ n) && decide (n ≤ 65535) && decide (x.size ≤ 256)
def errOf (b : Bool) : Int := if b then 0 else 1
theorem hidd {p : Prop} (h : p) : Hid p := h
def New1 (w w' : World) : Prop := ∃ o, w' = w.alloc o
def New2 (w w' : World) : Prop := ∃ o1 o2, w' = (w.alloc o1).alloc o2
def New3 (w w' : World) : Prop := ∃ o1 o2 o3, w' = ((w.alloc o1).alloc o2).alloc o3
def New7 (w w' : World) : Prop := ∃ o1 o2 o3 o4 o5 o6 o7, w' = ((((((w.alloc o1).alloc o2).alloc o3).alloc o4).alloc o5).alloc o6).alloc o7
theorem bcell {W w1 : World} {B : Nat} (hb : Below B W w1) : (∀ b o, b < B → w1.cell? ⟨b, o, none⟩ = W.cell? ⟨b, o, none⟩) ∧ (∀ b o, b < B → w1.frozen? ⟨b, o, none⟩ = W.frozen? ⟨b, o, none⟩) :=
  ⟨fun b o h => hb.cell (p := ⟨b, o, none⟩) h, fun b o h => hb.frozen (p := ⟨b, o, none⟩) h⟩
theorem Bl_alloc {w w1 : World} (h : Below w.heap.size w w1) (o : Obj) : Below w.heap.size w (w1.alloc o) := h.alloc h.size o
theorem right_t {s d t n : Int} {x : ByteArray} (h : rightB s d t n x = true) : 0 ≤ t ∧ t ≤ 255 := by
  simp only [rightB, Bool.and_eq_true, decide_eq_true_eq] at h
  omega
theorem right_of {s d t n : Int} {x : ByteArray} {b : Bool} (h : rightB s d t n x = b) : Value.int .i64 (errOf (rightB s d t n x)) = Value.int .i64 (errOf b) := by rw [h]
/-- What a verdict is: kind, to, the packet's five; the error. -/
structure Ver where
  (kind to s d t n : Int) (x : ByteArray) (err : Int)
def Ver.val (v : Ver) : Value := .tuple #[.agg #[.int .i64 v.kind, .int .i64 v.to, .int .i64 v.s, .int .i64 v.d, .int .i64 v.t, .int .i64 v.n, .string v.x], .int .i64 v.err]
def decide22 (s d t n : Int) (x : ByteArray) (me next : Int) (ok : Bool) : Ver :=
  bif rightB s d t n x && nodeB me && !(ok && (!nodeB next || next == me)) then
    bif d == me then ⟨1, 0, s, d, t, n, x, 0⟩
    else bif !ok then ⟨3, 0, s, d, t, n, x, 0⟩
    else bif t == 0 then ⟨4, 0, s, d, t, n, x, 0⟩
    else ⟨2, next, s, d, t - 1, n, x, 0⟩
  else ⟨0, 0, 0, 0, 0, 0, ⟨#[]⟩, 1⟩
end Go.Proofs.Ytnlcibobhmcfpaa
