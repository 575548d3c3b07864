/- Base words of this seat: rows of numbers, and the walks of the small functions. -/
import Derived.Test.YtidndkddjdfccaaProg
import Derived.WalkKit
import Derived.WalkSpells
import Derived.WalkLawsBesides
import Derived.Deep.QuietTactic
import Derived.BigQuiet
import Derived.Laws.StructEq
import Derived.OwnWalk
import Derived.Maps.AppendAt
set_option linter.unusedSimpArgs false
namespace Go.Proofs.Ytidndkddjdfccaa
open Go.RowKit
theorem hidd {p : Prop} (h : p) : Hid p := h
theorem Bl_alloc {w w1 : World} (h : Below w.heap.size w w1) (o : Obj) : Below w.heap.size w (w1.alloc o) := h.alloc h.size o
theorem Bl_then {w w1 w2 : World} (h : Below w.heap.size w w1) (k : Below w1.heap.size w1 w2) : Below w.heap.size w w2 := h.trans (k.mono h.size)
theorem ret64 {a b : Int} (h : a = b) : Ending.returned (.int .i64 a) = Ending.returned (.int .i64 b) := by rw [h]
theorem take_snoc' {α : Type} {L : List α} {k : Nat} {p : α} (h : L[k]? = some p) : L.take (k + 1) = L.take k ++ [p] := by
  rw [List.take_add_one, h]; rfl
theorem cell_of_heap {w : World} {b : Nat} {cs : Array Value} {T : TypeId} {m : Nat × Nat} (h : w.heap[b]? = some (.cells cs T m)) (o : Nat) : w.cell? ⟨b, o, none⟩ = cs[o]? := by
  simp [World.cell?, h]
theorem free_of_heap {w : World} {b : Nat} {cs : Array Value} {T : TypeId} (h : w.heap[b]? = some (.cells cs T (0, 0))) (o : Nat) : w.frozen? ⟨b, o, none⟩ = false := by
  simp [World.frozen?, h]
theorem heap_new (w : World) (o : Obj) : (w.alloc o).heap[w.heap.size]? = some o := by
  show (w.heap.push o)[w.heap.size]? = _
  simp
/-- The slice v reads as the numbers L, of kind κ. -/
def RdN (κ : IntKind) (w : World) (v : Value) (L : List Int) : Prop :=
  ∃ A c, v = .slice A L.length c ∧ (L = [] ∨ ∃ b o, A = some ⟨b, o, none⟩ ∧ b < w.heap.size ∧ ∀ k x, L[k]? = some x → w.cell? ⟨b, o + k, none⟩ = some (.int κ x))
/-- A row of the call's own. -/
def OwnN (E : TypeId) (κ : IntKind) (w : World) (base : Nat) (v : Value) (L : List Int) : Prop := w.ownsRow base E 1 v L.length (L.map (Value.int κ))
theorem RdN.below {κ : IntKind} {w w' : World} {v : Value} {L : List Int} (h : RdN κ w v L) (k : Below w.heap.size w w') : RdN κ w' v L := by
  obtain ⟨A, c, rfl, h⟩ := h
  refine ⟨A, c, rfl, ?_⟩
  rcases h with h | ⟨b, o, rfl, hb, h⟩
  · exact .inl h
  · exact .inr ⟨b, o, rfl, Nat.lt_of_lt_of_le hb k.size, fun j x hj => (k.cell (p := ⟨b, o + j, none⟩) hb).trans (h j x hj)⟩
theorem OwnN.nil (E : TypeId) (κ : IntKind) (w : World) (base : Nat) : OwnN E κ w base (.slice none 0 0) [] := World.ownsRow_nil _ _ _ _
theorem OwnN.base {E : TypeId} {κ : IntKind} {w : World} {base : Nat} {v : Value} {L : List Int} (h : OwnN E κ w base v L) {g : Nat} (hg : v.ownBlock = some g) : base ≤ g := by
  rcases h.2 with ⟨rfl, _⟩ | ⟨g', cap, cur, rfl, hb, _⟩
  · simp [Value.ownBlock] at hg
  · simp [Value.ownBlock] at hg; omega
theorem OwnN.below {E : TypeId} {κ : IntKind} {w w' : World} {base : Nat} {v : Value} {L : List Int} (h : OwnN E κ w base v L) (k : Below w.heap.size w w') : OwnN E κ w' base v L := by
  obtain ⟨h1, h2⟩ := h
  refine ⟨h1, ?_⟩
  rcases h2 with h2 | ⟨g, cap, cur, rfl, hb, hh, h3⟩
  · exact .inl h2
  · exact .inr ⟨g, cap, cur, rfl, hb, (k.block g (Array.getElem?_eq_some_iff.1 hh).1).trans hh, h3⟩
theorem OwnN.rd {E : TypeId} {κ : IntKind} {w : World} {base : Nat} {v : Value} {L : List Int} (h : OwnN E κ w base v L) : RdN κ w v L := by
  rcases h.2 with ⟨rfl, h0⟩ | ⟨g, cap, cur, rfl, hb, hh, hn, hm, hc, ht⟩
  · exact ⟨none, 0, by rw [h0], .inl (List.eq_nil_of_length_eq_zero h0)⟩
  · refine ⟨some ⟨g, 0, none⟩, cap, rfl, .inr ⟨g, 0, rfl, (Array.getElem?_eq_some_iff.1 hh).1, fun k x hk => ?_⟩⟩
    have hkl : k < L.length := (List.getElem?_eq_some_iff.1 hk).1
    have e : (L.map (Value.int κ))[k]? = some (.int κ x) := by rw [List.getElem?_map, hk]; rfl
    rw [cell_of_heap hh, ← e, ← ht, List.getElem?_take_of_lt (by omega)]
    simp
theorem addr_add (b o k : Nat) : (⟨b, o, none⟩ : Addr).add k = ⟨b, o + k, none⟩ := by
  unfold Addr.add
  split
  · rename_i h; rw [h]; rfl
  · rfl
theorem info3 : (Try.prog.info? 3).map (fun i => (i.zero, i.size, i.bytes)) = some (some (.int .i64 0), 1, 8) := by kernel_rfl
theorem info37 : (Try.prog.info? 37).map (fun i => (i.zero, i.size, i.bytes)) = some (some (.int .u16 0), 1, 2) := by kernel_rfl
set_option maxRecDepth 100000 in
/-- Numbers appended to a row of the call's own (plain []int). -/
theorem wpList_append_i {w : World} {ops : Array Oper} {rest : List Oper} {o : Oper} {a : Act} {Q : Exit → Act → World → Prop} (hgd : o.guard = none) (s x : Operand)
    (ho : o.op = .call { callee := .builtin .append, args := #[s, x], argTypes := #[22, 22] }) (base : Nat) (v : Value) (L : List Int) (hs : a.eval s = v) (hown : OwnN 3 .i64 w base v L)
    (g : Nat) (oo m c : Nat) (M : List Int) (hx : a.eval x = .slice (some ⟨g, oo, none⟩) m c) (hm : M.length = m) (hc : ∀ k x, M[k]? = some x → w.cell? ⟨g, oo + k, none⟩ = some (.int .i64 x))
    (hL : L.length + M.length ≤ 1000000) (hbase : base ≤ w.heap.size)
    (h : ∀ v' w', OwnN 3 .i64 w' base v' (L ++ M) → w.grownBy w' v.ownBlock → wpList Try.prog ops Q rest (a.put o.dst v') w') : wpList Try.prog ops Q (o :: rest) a w := by
  obtain ⟨i0, hi, hz0, hz1, hz2⟩ := info_parts info3
  subst hm
  refine wpList_append_own _ hgd s x 22 ho base 3 i0 _ 1 8 Try.underlying22 hi hz0 hz1 hz2 rfl (by decide) v L.length (L.map (Value.int .i64)) hs hown ⟨g, oo, none⟩ M.length c (M.map (Value.int .i64)) hx (by simp) ?_ ?_ (by unfold maxLen; omega) (by omega) hbase ?_
  · intro j u hj
    rw [List.getElem?_map] at hj
    obtain ⟨y, hy, rfl⟩ := Option.map_eq_some_iff.1 hj
    rw [addr_add]
    exact hc j y hy
  · intro u hu
    obtain ⟨y, _, rfl⟩ := List.mem_map.1 hu
    rfl
  · intro v' w' hr hg _
    exact h v' w' (by unfold OwnN; rw [List.map_append, List.length_append]; exact hr) hg
set_option maxRecDepth 100000 in
/-- One number appended to a row of the call's own ([]number). -/
theorem wpList_append_u {w : World} {ops : Array Oper} {rest : List Oper} {o : Oper} {a : Act} {Q : Exit → Act → World → Prop} (hgd : o.guard = none) (s x : Operand)
    (ho : o.op = .call { callee := .builtin .append, args := #[s, x], argTypes := #[33, 33] }) (base : Nat) (v : Value) (L : List Int) (hs : a.eval s = v) (hown : OwnN 37 .u16 w base v L)
    (g : Nat) (y : Int) (hx : a.eval x = .slice (some ⟨g, 0, none⟩) 1 1) (hc : w.cell? ⟨g, 0, none⟩ = some (.int .u16 y))
    (hL : L.length ≤ 1000000) (hbase : base ≤ w.heap.size)
    (h : ∀ v' w', OwnN 37 .u16 w' base v' (L ++ [y]) → w.grownBy w' v.ownBlock → wpList Try.prog ops Q rest (a.put o.dst v') w') : wpList Try.prog ops Q (o :: rest) a w := by
  obtain ⟨i0, hi, hz0, hz1, hz2⟩ := info_parts info37
  refine wpList_append_own _ hgd s x 33 ho base 37 i0 _ 1 2 Try.underlying33 hi hz0 hz1 hz2 rfl (by decide) v L.length (L.map (Value.int .u16)) hs hown ⟨g, 0, none⟩ 1 1 [.int .u16 y] hx rfl ?_ ?_ (by unfold maxLen; omega) (by omega) hbase ?_
  · intro j u hj
    have hlt : j < 1 := (List.getElem?_eq_some_iff.1 hj).1
    obtain rfl : j = 0 := by omega
    rw [addr_add, ← hj]
    exact hc
  · intro u hu
    simp only [List.mem_cons, List.not_mem_nil, or_false] at hu
    subst hu
    rfl
  · intro v' w' hr hg _
    exact h v' w' (by unfold OwnN; rw [List.map_append, List.length_append]; exact hr) hg
/-- What is left of a number. -/
def lf (a : Int) : Int := a % 65536
def farI (a b : Int) : Int := (b - a) % 65536
def nxtI (a : Int) : Int := (a + 1) % 65536
theorem u16w (x : Int) : IntKind.u16.wrap x = x % 65536 := by simp [IntKind.wrap, IntKind.signed, IntKind.bits]
end Go.Proofs.Ytidndkddjdfccaa
