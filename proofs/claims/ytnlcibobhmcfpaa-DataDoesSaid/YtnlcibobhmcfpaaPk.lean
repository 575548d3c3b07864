/- Packets as plain data: rows of them in memory; what a ring holds. -/
import Derived.Test.YtnlcibobhmcfpaaBase
set_option linter.unusedSimpArgs false
namespace Go.Proofs.Ytnlcibobhmcfpaa
open Go.RowKit
structure Pk where
  (s d t n : Int) (x : ByteArray)
def Pk.zero : Pk := ⟨0, 0, 0, 0, ⟨#[]⟩⟩
def Pk.cells (p : Pk) : List Value := [.int .i64 p.s, .int .i64 p.d, .int .i64 p.t, .int .i64 p.n, .string p.x]
def Pk.val (p : Pk) : Value := .agg #[.int .i64 p.s, .int .i64 p.d, .int .i64 p.t, .int .i64 p.n, .string p.x]
def pkList (R : List Pk) : List Value := R.flatMap Pk.cells
theorem pkList_length (R : List Pk) : (pkList R).length = R.length * 5 := by
  induction R with
  | nil => rfl
  | cons p R ih => simp only [pkList, List.flatMap_cons, List.length_append, List.length_cons] at *; simp only [ih]; simp [Pk.cells]; omega
theorem pkList_append (R S : List Pk) : pkList (R ++ S) = pkList R ++ pkList S := by simp [pkList]
theorem pkList_drop (R : List Pk) (j : Nat) : (pkList R).drop (j * 5) = pkList (R.drop j) := by
  induction j generalizing R with
  | zero => simp
  | succ j ih =>
    cases R with
    | nil => simp [pkList]
    | cons p R =>
      have : (j + 1) * 5 = j * 5 + 5 := by omega
      rw [this, List.drop_succ_cons, ← ih]
      simp [pkList, Pk.cells]
theorem pkList_get {R : List Pk} {j : Nat} {p : Pk} (h : R[j]? = some p) (i : Nat) (hi : i < 5) : (pkList R)[j * 5 + i]? = p.cells[i]? := by
  have hj : j < R.length := (List.getElem?_eq_some_iff.1 h).1
  have e : R.drop j = p :: R.drop (j + 1) := by
    rw [List.drop_eq_getElem_cons hj]
    congr 1
    exact (List.getElem?_eq_some_iff.1 h).2
  have : (pkList R)[j * 5 + i]? = ((pkList R).drop (j * 5))[i]? := by rw [List.getElem?_drop]
  rw [this, pkList_drop, e]
  show (p.cells ++ pkList (R.drop (j + 1)))[i]? = _
  rw [List.getElem?_append_left (by simp [Pk.cells]; omega)]
theorem pkList_set (R : List Pk) (j : Nat) (p : Pk) (hj : j < R.length) :
    (((((pkList R).set (j * 5) (.int .i64 p.s)).set (j * 5 + 1) (.int .i64 p.d)).set (j * 5 + 2) (.int .i64 p.t)).set (j * 5 + 3) (.int .i64 p.n)).set (j * 5 + 4) (.string p.x) = pkList (R.set j p) := by
  induction R generalizing j with
  | nil => simp at hj
  | cons q R ih =>
    cases j with
    | zero => simp [pkList, Pk.cells]
    | succ j =>
      have e : (j + 1) * 5 = j * 5 + 5 := by omega
      have := ih j (by simpa using hj)
      simp only [pkList, List.flatMap_cons, List.set_cons_succ] at *
      rw [← this, e]
      simp [Pk.cells]
/-- Of what was there nothing has turned but blocks in S. -/
structure Keeps (S : Nat → Prop) (w w' : World) : Prop where
  os : w'.os = w.os
  tape : w'.tape = w.tape
  output : w'.output = w.output
  size : w.heap.size ≤ w'.heap.size
  block : ∀ k, k < w.heap.size → ¬ S k → w'.heap[k]? = w.heap[k]?
theorem Keeps.refl (S : Nat → Prop) (w : World) : Keeps S w w := ⟨rfl, rfl, rfl, Nat.le_refl _, fun _ _ _ => rfl⟩
theorem Keeps.trans {S : Nat → Prop} {a b c : World} (h : Keeps S a b) (k : Keeps S b c) : Keeps S a c :=
  ⟨k.os.trans h.os, k.tape.trans h.tape, k.output.trans h.output, Nat.le_trans h.size k.size, fun i hi hs => (k.block i (Nat.lt_of_lt_of_le hi h.size) hs).trans (h.block i hi hs)⟩
theorem Keeps.mono {S T : Nat → Prop} {a b : World} (h : Keeps S a b) (hst : ∀ k, k < a.heap.size → S k → T k) : Keeps T a b :=
  ⟨h.os, h.tape, h.output, h.size, fun i hi hs => h.block i hi (fun q => hs (hst i hi q))⟩
theorem Keeps.below {S : Nat → Prop} {a b : World} (h : Below a.heap.size a b) : Keeps S a b := ⟨h.os, h.tape, h.output, h.size, fun k hk _ => h.block k hk⟩
theorem Keeps.drewN {S : Nat → Prop} {a b : World} (h : Keeps S a b) (n : Nat) : Keeps S a (b.drewN n) := ⟨h.os, h.tape, h.output, h.size, h.block⟩
theorem Keeps.drew {S : Nat → Prop} {a b : World} (h : Keeps S a b) : Keeps S a b.drew := ⟨h.os, h.tape, h.output, h.size, h.block⟩
theorem Keeps.alloc {S : Nat → Prop} {a b : World} (h : Keeps S a b) (o : Obj) : Keeps S a (b.alloc o) :=
  h.trans (Keeps.below (Bl_alloc (Below.refl _ _) o))
theorem Keeps.setCell {S : Nat → Prop} {a b : World} (h : Keeps S a b) {p : Addr} (hp : a.heap.size ≤ p.block ∨ S p.block) (u : Value) : Keeps S a (b.setCell p u) := by
  refine ⟨h.os, h.tape, h.output, ?_, fun i hi hs => ?_⟩
  · have := h.size; simp only [World.setCell, Array.size_modify]; exact this
  · rw [Below.heap_setCell _ _ _ _ (by rintro rfl; rcases hp with hp | hp; omega; exact hs hp)]
    exact h.block i hi hs
theorem Keeps.toBelow {S : Nat → Prop} {B : Nat} {a b : World} (h : Keeps S a b) (hB : B ≤ a.heap.size) (hS : ∀ k, S k → B ≤ k) : Below B a b :=
  ⟨h.os, h.tape, h.output, h.size, fun k hk => h.block k (Nat.lt_of_lt_of_le hk hB) (fun q => by have := hS k q; omega)⟩
theorem Keeps.heapAt {S : Nat → Prop} {a b : World} (h : Keeps S a b) {k : Nat} {o : Obj} (ho : a.heap[k]? = some o) (hs : ¬ S k) : b.heap[k]? = some o :=
  (h.block k (Array.getElem?_eq_some_iff.1 ho).1 hs).trans ho
theorem cell_of_heap {w : World} {b : Nat} {cs : Array Value} {T : TypeId} {m : Nat × Nat} (h : w.heap[b]? = some (.cells cs T m)) (o : Nat) : w.cell? ⟨b, o, none⟩ = cs[o]? := by
  simp [World.cell?, h]
theorem free_of_heap {w : World} {b : Nat} {cs : Array Value} {T : TypeId} (h : w.heap[b]? = some (.cells cs T (0, 0))) (o : Nat) : w.frozen? ⟨b, o, none⟩ = false := by
  simp [World.frozen?, h]
theorem heap_set {w : World} {b : Nat} {cs : Array Value} {T : TypeId} {m : Nat × Nat} (h : w.heap[b]? = some (.cells cs T m)) (o : Nat) (v : Value) : (w.setCell ⟨b, o, none⟩ v).heap[b]? = some (.cells (cs.setIfInBounds o v) T m) := by
  simp [World.setCell, Array.getElem?_modify, h]
theorem heap_set_ne {w : World} {b c : Nat} {o : Obj} (h : w.heap[c]? = some o) (hne : c ≠ b) (k : Nat) (v : Value) : (w.setCell ⟨b, k, none⟩ v).heap[c]? = some o := by
  rw [Below.heap_setCell _ _ _ _ hne]; exact h
theorem heap_alloc {w : World} {c : Nat} {o : Obj} (h : w.heap[c]? = some o) (o' : Obj) : (w.alloc o').heap[c]? = some o := by
  rw [Below.heap_alloc _ _ _ (Array.getElem?_eq_some_iff.1 h).1]; exact h
theorem heap_new (w : World) (o : Obj) : (w.alloc o).heap[w.heap.size]? = some o := by
  show (w.heap.push o)[w.heap.size]? = _
  simp
theorem heap_drewN {w : World} {c : Nat} {o : Obj} (h : w.heap[c]? = some o) (n : Nat) : (w.drewN n).heap[c]? = some o := h
/-- A ring in memory: block q the queue, block r its ring. -/
structure QAt (w : World) (q r n f : Nat) (R L : List Pk) : Prop where
  hq : w.heap[q]? = some (.cells #[.slice (some ⟨r, 0, none⟩) n n, .int .i64 f, .int .i64 L.length] 88 (0, 0))
  hr : w.heap[r]? = some (.cells (pkList R).toArray 23 (0, 0))
  ne : q ≠ r
  n1 : 1 ≤ n
  n64 : n ≤ 64
  hf : f < n
  hR : R.length = n
  hL : L.length ≤ n
  at_ : ∀ k, k < L.length → R[(f + k) % n]? = L[k]?
theorem QAt.keeps {w w' : World} {q r n f : Nat} {R L : List Pk} (h : QAt w q r n f R L) {S : Nat → Prop} (k : Keeps S w w') (hq : ¬ S q) (hr : ¬ S r) : QAt w' q r n f R L :=
  ⟨k.heapAt h.hq hq, k.heapAt h.hr hr, h.ne, h.n1, h.n64, h.hf, h.hR, h.hL, h.at_⟩
theorem QAt.below {w w' : World} {q r n f : Nat} {R L : List Pk} (h : QAt w q r n f R L) (k : Below w.heap.size w w') : QAt w' q r n f R L :=
  h.keeps (Keeps.below (S := fun _ => False) k) (fun x => x) (fun x => x)
theorem QAt.q0 {w : World} {q r n f : Nat} {R L : List Pk} (h : QAt w q r n f R L) : w.cell? ⟨q, 0, none⟩ = some (.slice (some ⟨r, 0, none⟩) n n) := (cell_of_heap h.hq 0)
theorem QAt.q1 {w : World} {q r n f : Nat} {R L : List Pk} (h : QAt w q r n f R L) : w.cell? ⟨q, 1, none⟩ = some (.int .i64 f) := (cell_of_heap h.hq 1)
theorem QAt.q2 {w : World} {q r n f : Nat} {R L : List Pk} (h : QAt w q r n f R L) : w.cell? ⟨q, 2, none⟩ = some (.int .i64 L.length) := (cell_of_heap h.hq 2)
theorem QAt.lt {w : World} {q r n f : Nat} {R L : List Pk} (h : QAt w q r n f R L) : q < w.heap.size ∧ r < w.heap.size := ⟨(Array.getElem?_eq_some_iff.1 h.hq).1, (Array.getElem?_eq_some_iff.1 h.hr).1⟩
theorem pk_cell {w : World} {r : Nat} {R : List Pk} {T : TypeId} {m : Nat × Nat} (h : w.heap[r]? = some (.cells (pkList R).toArray T m)) {j : Nat} {p : Pk} (hp : R[j]? = some p) :
    w.cell? ⟨r, j * 5, none⟩ = some (.int .i64 p.s) ∧ w.cell? ⟨r, j * 5 + 1, none⟩ = some (.int .i64 p.d) ∧ w.cell? ⟨r, j * 5 + 2, none⟩ = some (.int .i64 p.t) ∧ w.cell? ⟨r, j * 5 + 3, none⟩ = some (.int .i64 p.n) ∧ w.cell? ⟨r, j * 5 + 4, none⟩ = some (.string p.x) := by
  have g : ∀ i, i < 5 → w.cell? ⟨r, j * 5 + i, none⟩ = p.cells[i]? := fun i hi => by rw [cell_of_heap h]; simpa using pkList_get hp i hi
  exact ⟨g 0 (by omega), g 1 (by omega), g 2 (by omega), g 3 (by omega), g 4 (by omega)⟩
/-- A packet stored whole into a ring. -/
theorem pk_store {w : World} {r : Nat} {R : List Pk} {T : TypeId} {m : Nat × Nat} (h : w.heap[r]? = some (.cells (pkList R).toArray T m)) {j : Nat} (hj : j < R.length) (p : Pk) :
    (((((w.setCell ⟨r, j * 5, none⟩ (.int .i64 p.s)).setCell ⟨r, j * 5 + 1, none⟩ (.int .i64 p.d)).setCell ⟨r, j * 5 + 2, none⟩ (.int .i64 p.t)).setCell ⟨r, j * 5 + 3, none⟩ (.int .i64 p.n)).setCell ⟨r, j * 5 + 4, none⟩ (.string p.x)).heap[r]? =
      some (.cells (pkList (R.set j p)).toArray T m) := by
  have e : ((((((pkList R).toArray.setIfInBounds (j * 5) (.int .i64 p.s)).setIfInBounds (j * 5 + 1) (.int .i64 p.d)).setIfInBounds (j * 5 + 2) (.int .i64 p.t)).setIfInBounds (j * 5 + 3) (.int .i64 p.n)).setIfInBounds (j * 5 + 4) (.string p.x)) = (pkList (R.set j p)).toArray := by
    simp only [List.setIfInBounds_toArray]
    rw [pkList_set R j p hj]
  rw [← e]
  have h1 := heap_set h (j * 5) (.int .i64 p.s)
  have h2 := heap_set h1 (j * 5 + 1) (.int .i64 p.d)
  have h3 := heap_set h2 (j * 5 + 2) (.int .i64 p.t)
  have h4 := heap_set h3 (j * 5 + 3) (.int .i64 p.n)
  exact heap_set h4 (j * 5 + 4) (.string p.x)
end Go.Proofs.Ytnlcibobhmcfpaa
