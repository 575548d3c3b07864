/- Rows of packets that the call itself makes; append of one packet; the walk of queue.All. -/
import Derived.Test.YtnlcibobhmcfpaaQb
set_option linter.unusedSimpArgs false
namespace Go.Proofs.Ytnlcibobhmcfpaa
open Go.RowKit
/-- The slice v is a row of the call's own (from block 'base' on) that holds the packets L. -/
def OwnPk (w : World) (base : Nat) (v : Value) (L : List Pk) : Prop := w.ownsRow base 23 5 v L.length (pkList L)
theorem _root_.Go.RowKit.Below.drewN {B : Nat} {a w : World} (h : Below B a w) (n : Nat) : Below B a (w.drewN n) := ⟨h.os, h.tape, h.output, h.size, h.block⟩
theorem OwnPk.base {w : World} {base : Nat} {v : Value} {L : List Pk} (h : OwnPk w base v L) {g : Nat} (hg : v.ownBlock = some g) : base ≤ g := by
  rcases h.2 with ⟨rfl, _⟩ | ⟨g', cap, cur, rfl, hb, _⟩
  · simp [Value.ownBlock] at hg
  · simp [Value.ownBlock] at hg; omega
theorem take_snoc' {α : Type} {L : List α} {k : Nat} {p : α} (h : L[k]? = some p) : L.take (k + 1) = L.take k ++ [p] := by
  rw [List.take_add_one, h]; rfl
theorem OwnPk.nil (w : World) (base : Nat) : OwnPk w base (.slice none 0 0) [] := World.ownsRow_nil _ _ _ _
theorem info23 : (Try.prog.info? 23).map (fun i => (i.zero, i.size, i.bytes)) = some (some (.agg #[.int .i64 0, .int .i64 0, .int .i64 0, .int .i64 0, .string ⟨#[]⟩]), 5, 48) := by kernel_rfl
theorem OwnPk.keeps {w w' : World} {base : Nat} {v : Value} {L : List Pk} (h : OwnPk w base v L) {S : Nat → Prop} (k : Keeps S w w') (hs : ∀ g, v.ownBlock = some g → ¬ S g) : OwnPk w' base v L := by
  obtain ⟨h1, h2⟩ := h
  refine ⟨h1, ?_⟩
  rcases h2 with h2 | ⟨g, cap, cur, rfl, hb, hh, h3⟩
  · exact .inl h2
  · exact .inr ⟨g, cap, cur, rfl, hb, k.heapAt hh (hs g rfl), h3⟩
theorem OwnPk.below {w w' : World} {base : Nat} {v : Value} {L : List Pk} (h : OwnPk w base v L) (k : Below w.heap.size w w') : OwnPk w' base v L :=
  h.keeps (Keeps.below (S := fun _ => False) k) (fun _ _ x => x)
set_option maxRecDepth 100000 in
theorem wpList_append_pk {w : World} {ops : Array Oper} {rest : List Oper} {o : Oper} {a : Act} {Q : Exit → Act → World → Prop} (hgd : o.guard = none) (s x : Operand)
    (ho : o.op = .call { callee := .builtin .append, args := #[s, x], argTypes := #[33, 33] }) (base : Nat) (v : Value) (L : List Pk) (hs : a.eval s = v) (hown : OwnPk w base v L)
    (g : Nat) (p : Pk) (hx : a.eval x = .slice (some ⟨g, 0, none⟩) 1 1)
    (c0 : w.cell? ⟨g, 0, none⟩ = some (.int .i64 p.s)) (c1 : w.cell? ⟨g, 1, none⟩ = some (.int .i64 p.d)) (c2 : w.cell? ⟨g, 2, none⟩ = some (.int .i64 p.t)) (c3 : w.cell? ⟨g, 3, none⟩ = some (.int .i64 p.n)) (c4 : w.cell? ⟨g, 4, none⟩ = some (.string p.x))
    (hL : L.length ≤ 1000000) (hbase : base ≤ w.heap.size)
    (h : ∀ v' w', OwnPk w' base v' (L ++ [p]) → w.grownBy w' v.ownBlock → wpList Try.prog ops Q rest (a.put o.dst v') w') : wpList Try.prog ops Q (o :: rest) a w := by
  obtain ⟨i0, hi, hz0, hz1, hz2⟩ := info_parts info23
  refine wpList_append_own _ hgd s x 33 ho base 23 i0 _ 5 48 Try.underlying33 hi hz0 hz1 hz2 rfl (by decide) v L.length (pkList L) hs hown ⟨g, 0, none⟩ 1 1 p.cells hx rfl ?_ ?_ (by unfold maxLen; omega) (by omega) hbase ?_
  · intro j u hj
    have hlt : j < 5 := (List.getElem?_eq_some_iff.1 hj).1
    have e : (⟨g, 0, none⟩ : Addr).add j = ⟨g, j, none⟩ := by unfold Addr.add; split <;> simp_all
    rw [e, ← hj]
    match j, hlt with
    | 0, _ => exact c0
    | 1, _ => exact c1
    | 2, _ => exact c2
    | 3, _ => exact c3
    | 4, _ => exact c4
  · intro u hu
    simp only [Pk.cells, List.mem_cons, List.not_mem_nil, or_false] at hu
    rcases hu with rfl | rfl | rfl | rfl | rfl <;> rfl
  · intro v' w' hr hg _
    exact h v' w' (by unfold OwnPk; rw [pkList_append, List.length_append]; simpa [pkList] using hr) hg
set_option maxRecDepth 100000 in
set_option maxHeartbeats 400000 in
theorem c22 {w : World} {q r n f : Nat} {R L : List Pk} (h : QAt w q r n f R L) :
    Calls Try.prog 22 #[.pointer (some ⟨q, 0, none⟩)] w fun e w' => ∃ v, e = .returned v ∧ OwnPk w' w.heap.size v L ∧ Below w.heap.size w w' := by
  have h2 := h.q2
  have HQ := hidd h
  have hL := Nat.le_trans h.hL h.n64
  clear h
  go_enter Try.func22, Try.ntmps22
  go_wp2
  go_loopw [3, 11] (fun v i wr => ∃ k : Nat, k ≤ L.length ∧ i = .int .i64 k ∧ OwnPk wr w.heap.size v (L.take k) ∧ Below w.heap.size w wr) (fun _ i _ => L.length - (intOf i).toNat)
  case atStart => exact ⟨0, Nat.zero_le _, rfl, OwnPk.nil _ _, Below.refl _ _⟩
  case round =>
    obtain ⟨k, hk, rfl, hown, hb⟩ := hrel
    by_cases hlt : k < L.length
    · obtain ⟨p, hp⟩ : ∃ p, L[k]? = some p := ⟨_, List.getElem?_eq_getElem hlt⟩
      have hQ := HQ.out.below hb
      obtain ⟨c0, c1, c2, c3, c4⟩ := pk_cell hQ.hr ((HQ.out.at_ k hlt).trans hp)
      have HQR := hidd hQ
      have HP := hidd hp
      clear hp hQ
      have HO := hidd hown
      have hz := hb.size
      have HB := hidd hb
      clear hown hb
      go_wp2_with (first
        | (go_at_call 51; refine (c51q (HQR.out) _ (by omega) (by omega)).mono ?_; rintro e w' ⟨rfl, nq', rfl⟩)
        | (at_builtin; refine wpList_append_pk rfl (.tmp 14) (.tmp 20) rfl w.heap.size _ (L.take k) rfl ((HO.out.below ((Below.refl _ _).drewN nq')).below (Bl_alloc (Below.refl _ _) _)) wr.heap.size p rfl ?_ ?_ ?_ ?_ ?_ ?_ ?_ ?_; (exact cell_of_heap (heap_new (wr.drewN nq') _) 0); (exact cell_of_heap (heap_new (wr.drewN nq') _) 1); (exact cell_of_heap (heap_new (wr.drewN nq') _) 2); (exact cell_of_heap (heap_new (wr.drewN nq') _) 3); (exact cell_of_heap (heap_new (wr.drewN nq') _) 4); (have := List.length_take_le k L; omega); (exact Nat.le_trans hz (Bl_alloc (Below.refl (wr.drewN nq').heap.size _) _).size); intro v' w1 hown' hg))
      go_roundw
      case rel => exact ⟨k + 1, by omega, by go_num, by rw [take_snoc' HP.out]; exact hown', ((HB.out.drewN nq').alloc hz _).grown hg (Nat.le_trans hz (Bl_alloc (Below.refl (wr.drewN nq').heap.size _) _).size) (fun g hg' => HO.out.base hg')⟩
      case measure => simp [intOf]; omega
    · have HO := hidd hown
      have HB := hidd hb
      clear hown hb
      go_wp2
      go_ret
      exact ⟨_, rfl, by have := HO.out; rwa [List.take_of_length_le (by omega)] at this, HB.out⟩
end Go.Proofs.Ytnlcibobhmcfpaa
