/- Base words of this seat: worlds that keep what lay there; the atomic pointer; the small walks. -/
import Derived.Test.YtocfnimeinongaaProg
import Derived.WalkKit
import Derived.WalkSpells
import Derived.WalkLawsBesides
import Derived.Deep.QuietTactic
import Derived.BigQuiet
import Derived.Laws.StructEq
import Derived.Laws.LoneSync
import Derived.Maps.AppendAt
import Derived.Maps.OwnSet
import Derived.Maps.Ext
import Derived.OwnWalk
set_option linter.unusedSimpArgs false
set_option linter.unusedVariables false
namespace Go.Proofs.Ytocfnimeinongaa
open Go.RowKit
theorem hidd {p : Prop} (h : p) : Hid p := h
theorem Bl_alloc {w w1 : World} (h : Below w.heap.size w w1) (o : Obj) : Below w.heap.size w (w1.alloc o) := h.alloc h.size o
theorem Bl_then {w w1 w2 : World} (h : Below w.heap.size w w1) (k : Below w1.heap.size w1 w2) : Below w.heap.size w w2 := h.trans (k.mono h.size)
theorem _root_.Go.RowKit.Below.drewN {B : Nat} {a w : World} (h : Below B a w) (n : Nat) : Below B a (w.drewN n) := ⟨h.os, h.tape, h.output, h.size, h.block⟩
theorem ret64 {a b : Int} (h : a = b) : Ending.returned (.int .i64 a) = Ending.returned (.int .i64 b) := by rw [h]
theorem take_snoc' {α : Type} {L : List α} {k : Nat} {p : α} (h : L[k]? = some p) : L.take (k + 1) = L.take k ++ [p] := by
  rw [List.take_add_one, h]; rfl
/-- Of what was there nothing has turned but blocks in S. -/
structure Keeps (S : Nat → Prop) (w w' : World) : Prop where
  os : w'.os = w.os
  tape : w'.tape = w.tape
  output : w'.output = w.output
  size : w.heap.size ≤ w'.heap.size
  block : ∀ k, k < w.heap.size → ¬ S k → w'.heap[k]? = w.heap[k]?
theorem Keeps.refl (S : Nat → Prop) (w : World) : Keeps S w w := ⟨rfl, rfl, rfl, Nat.le_refl _, fun _ _ _ => rfl⟩
theorem Keeps.trans {S : Nat → Prop} {a b c : World} (h : Keeps S a b) (k : Keeps S b c) : Keeps S a c :=
  ⟨k.os.trans h.os, k.tape.trans h.tape, k.output.trans h.output, Nat.le_trans h.size k.size, fun i hi hs => (k.block i (Nat.lt_of_lt_of_le hi h.size) hs).trans (h.block i hi hs)⟩
theorem Keeps.mono {S T : Nat → Prop} {a b : World} (h : Keeps S a b) (hst : ∀ k, k < a.heap.size → S k → T k) : Keeps T a b :=
  ⟨h.os, h.tape, h.output, h.size, fun i hi hs => h.block i hi (fun q => hs (hst i hi q))⟩
theorem Keeps.below {S : Nat → Prop} {a b : World} (h : Below a.heap.size a b) : Keeps S a b := ⟨h.os, h.tape, h.output, h.size, fun k hk _ => h.block k hk⟩
theorem Keeps.drewN {S : Nat → Prop} {a b : World} (h : Keeps S a b) (n : Nat) : Keeps S a (b.drewN n) := ⟨h.os, h.tape, h.output, h.size, h.block⟩
theorem Keeps.drew {S : Nat → Prop} {a b : World} (h : Keeps S a b) : Keeps S a b.drew := ⟨h.os, h.tape, h.output, h.size, h.block⟩
theorem Keeps.alloc {S : Nat → Prop} {a b : World} (h : Keeps S a b) (o : Obj) : Keeps S a (b.alloc o) :=
  h.trans (Keeps.below (Bl_alloc (Below.refl _ _) o))
theorem Keeps.setCell {S : Nat → Prop} {a b : World} (h : Keeps S a b) {p : Addr} (hp : a.heap.size ≤ p.block ∨ S p.block) (u : Value) : Keeps S a (b.setCell p u) := by
  refine ⟨h.os, h.tape, h.output, ?_, fun i hi hs => ?_⟩
  · have := h.size; simp only [World.setCell, Array.size_modify]; exact this
  · rw [Below.heap_setCell _ _ _ _ (by rintro rfl; rcases hp with hp | hp; omega; exact hs hp)]
    exact h.block i hi hs
theorem Keeps.toBelow {S : Nat → Prop} {B : Nat} {a b : World} (h : Keeps S a b) (hB : B ≤ a.heap.size) (hS : ∀ k, S k → B ≤ k) : Below B a b :=
  ⟨h.os, h.tape, h.output, h.size, fun k hk => h.block k (Nat.lt_of_lt_of_le hk hB) (fun q => by have := hS k q; omega)⟩
theorem Keeps.heapAt {S : Nat → Prop} {a b : World} (h : Keeps S a b) {k : Nat} {o : Obj} (ho : a.heap[k]? = some o) (hs : ¬ S k) : b.heap[k]? = some o :=
  (h.block k (Array.getElem?_eq_some_iff.1 ho).1 hs).trans ho
theorem cell_of_heap {w : World} {b : Nat} {cs : Array Value} {T : TypeId} {m : Nat × Nat} (h : w.heap[b]? = some (.cells cs T m)) (o : Nat) : w.cell? ⟨b, o, none⟩ = cs[o]? := by
  simp [World.cell?, h]
theorem free_of_heap {w : World} {b : Nat} {cs : Array Value} {T : TypeId} (h : w.heap[b]? = some (.cells cs T (0, 0))) (o : Nat) : w.frozen? ⟨b, o, none⟩ = false := by
  simp [World.frozen?, h]
theorem heap_set {w : World} {b : Nat} {cs : Array Value} {T : TypeId} {m : Nat × Nat} (h : w.heap[b]? = some (.cells cs T m)) (o : Nat) (v : Value) : (w.setCell ⟨b, o, none⟩ v).heap[b]? = some (.cells (cs.setIfInBounds o v) T m) := by
  simp [World.setCell, Array.getElem?_modify, h]
theorem heap_set_ne {w : World} {b c : Nat} {o : Obj} (h : w.heap[c]? = some o) (hne : c ≠ b) (k : Nat) (v : Value) : (w.setCell ⟨b, k, none⟩ v).heap[c]? = some o := by
  rw [Below.heap_setCell _ _ _ _ hne]; exact h
theorem heap_alloc {w : World} {c : Nat} {o : Obj} (h : w.heap[c]? = some o) (o' : Obj) : (w.alloc o').heap[c]? = some o := by
  rw [Below.heap_alloc _ _ _ (Array.getElem?_eq_some_iff.1 h).1]; exact h
theorem heap_new (w : World) (o : Obj) : (w.alloc o).heap[w.heap.size]? = some o := by
  show (w.heap.push o)[w.heap.size]? = _
  simp
theorem heap_drewN {w : World} {c : Nat} {o : Obj} (h : w.heap[c]? = some o) (n : Nat) : (w.drewN n).heap[c]? = some o := h
theorem Keeps.grown {S : Nat → Prop} {a b c : World} {row : Option Nat} (h : Keeps S a b) (g : b.grownBy c row) (hr : ∀ k, row = some k → a.heap.size ≤ k ∨ S k) : Keeps S a c :=
  ⟨g.os.trans h.os, g.tape.trans h.tape, g.output.trans h.output, Nat.le_trans h.size g.size, fun i hi hs => (g.block i (Nat.lt_of_lt_of_le hi h.size) (fun e => by rcases hr i e.symm with h1 | h1; omega; exact hs h1)).trans (h.block i hi hs)⟩
theorem Keeps.andThen {S S' : Nat → Prop} {a b c : World} (h : Keeps S a b) (k : Keeps S' b c) (hs : ∀ i, i < a.heap.size → S' i → S i) : Keeps S a c :=
  ⟨k.os.trans h.os, k.tape.trans h.tape, k.output.trans h.output, Nat.le_trans h.size k.size, fun i hi hn => (k.block i (Nat.lt_of_lt_of_le hi h.size) (fun q => hn (hs i hi q))).trans (h.block i hi hn)⟩
theorem Keeps.of_below {S : Nat → Prop} {a b c : World} (k : Keeps S b c) (h : Below a.heap.size a b) : Keeps S a c := (Keeps.below h).trans k
theorem drew_cell {w : World} {p : Addr} {v : Value} (h : w.cell? p = some v) : w.drew.cell? p = some v := h
theorem drewN_cell {w : World} {p : Addr} {v : Value} {n : Nat} (h : w.cell? p = some v) : (w.drewN n).cell? p = some v := h
theorem addr_add (b o k : Nat) : (⟨b, o, none⟩ : Addr).add k = ⟨b, o + k, none⟩ := by
  unfold Addr.add
  split
  · rename_i h; rw [h]; rfl
  · rfl
section
variable {P : Program} {f : FuncId} {fn : Func}
open Extern in
theorem run_call_loadp (hf : P.funcs[f]? = some fn) (hname : (fn.name == "runtime.NumGoroutine") = false) (hb : fn.body.isNone = true) (hn : Extern.findNext fn = none)
    (he : Extern.find fn = some (Extern.Atomic.loadT .ptr)) {a : Addr} {x : Option Addr} {w : World} (hc : w.cell? a = some (.pointer x)) :
    (callFunc f #[.pointer (some a)]).run P w = .ok (.value (.pointer x)) w := by
  rw [run_callFunc_extern hf hname hb hn he]
  change (Sem.run P (do Extern.Atomic.read .ptr (← asAddr (.pointer (some a)))) w).andThen _ = _
  simp [Extern.Atomic.read, asAddr, hc, Result.andThen]
theorem run_call_storep (hf : P.funcs[f]? = some fn) (hname : (fn.name == "runtime.NumGoroutine") = false) (hb : fn.body.isNone = true) (hn : Extern.findNext fn = none)
    (he : Extern.find fn = some Extern.Atomic.storeT) {a : Addr} {y : Option Addr} {u : Value} {w : World} (hc : w.cell? a = some u) (hz : w.frozen? a = false) :
    (callFunc f #[.pointer (some a), .pointer y]).run P w = .ok (.value (.tuple #[])) (w.setCell a (.pointer y)) := by
  rw [run_callFunc_extern hf hname hb hn he]
  change (Sem.run P (do
    store (← asAddr (.pointer (some a))) (.pointer y) .atomic
    pure Extern.Atomic.none_) w).andThen _ = _
  simp [asAddr, hc, hz, run_store P w a (.pointer y) .atomic rfl, Result.andThen, Extern.Atomic.none_]
theorem run_from_unsafe1 {src dst u e : TypeId} {j : TypeInfo} {cells : Nat} {w : World} (a : Addr) (hs : P.underlying src = some .unsafePointer) (hd : P.underlying dst = some (.pointer u)) (hu : P.info? u = some j)
    (hsh : w.shape? a.block = some (e, cells)) (hlies : liesAt P P.depth e (cells / P.cellsOf e) a.off u 1 = true) :
    (convert src dst (.pointer (some a))).run P w = .ok (.pointer (some a)) w := by
  simp [convert, run_underlying hs, run_underlying hd, Conv.unsafePointer, Conv.seenAt, viewAt, hsh, variablesAt, hlies, sizeOf, typeInfo, hu]
end
/-- (*atomic.Pointer).Store of a pointer to a map. -/
theorem c26 (s o p : Nat) (u : Value) (mp : Value) (w : World) (hc : w.cell? ⟨s, o, none⟩ = some u) (hz : w.frozen? ⟨s, o, none⟩ = false) (hp : w.cell? ⟨p, 0, none⟩ = some mp) :
    Calls Try.prog 26 #[.pointer (some ⟨s, o, none⟩), .pointer (some ⟨p, 0, none⟩)] w fun e w' => e = .returned (.tuple #[]) ∧ w.setCell ⟨s, o, none⟩ (.pointer (some ⟨p, 0, none⟩)) = w' := by
  have h1 := run_convert_to_unsafe (P := Try.prog) (src := 58) (dst := 62) Try.underlying58 Try.underlying62 (by kernel_rfl) hp
  have h2 := run_call_storep (P := Try.prog) (y := some ⟨p, 0, none⟩) Try.func40 (by kernel_rfl) (by kernel_rfl) (by kernel_rfl) (by kernel_rfl) hc hz
  go_enter Try.func26, Try.ntmps26
  go_wp2
  go_end0
  exact ⟨rfl, rfl⟩
/-- (*atomic.Pointer).Load. -/
theorem c30 (s o p : Nat) (mp : Value) (w : World) (hc : w.cell? ⟨s, o, none⟩ = some (.pointer (some ⟨p, 0, none⟩))) (hp : w.heap[p]? = some (.cells #[mp] 68 (0, 0))) :
    Calls Try.prog 30 #[.pointer (some ⟨s, o, none⟩)] w fun e w' => e = .returned (.pointer (some ⟨p, 0, none⟩)) ∧ w = w' := by
  obtain ⟨i68, hi68⟩ : ∃ i, Try.prog.info? 68 = some i := Option.isSome_iff_exists.1 (by kernel_rfl)
  have h1 := run_from_unsafe1 (P := Try.prog) (src := 62) (dst := 58) (e := 68) (cells := 1) (w := w) ⟨p, 0, none⟩ Try.underlying62 Try.underlying58 hi68 (by simp [World.shape?, hp]) (by kernel_rfl)
  clear hp hi68
  have h2 := run_call_loadp (P := Try.prog) Try.func43 (by kernel_rfl) (by kernel_rfl) (by kernel_rfl) (by kernel_rfl) hc
  go_enter Try.func30, Try.ntmps30
  go_wp2
  go_ret
  exact ⟨rfl, rfl⟩
end Go.Proofs.Ytocfnimeinongaa
