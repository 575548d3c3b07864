import Derived.Test.YtnlcibobhmcfpaaRc
import Derived.Test.YtnlcibobhmcfpaaWb
import Derived.Deep.RegionLaw
import Derived.Deep.AppendLies
set_option linter.unusedSimpArgs false
namespace Go.Proofs.Ytnlcibobhmcfpaa
open Go.RowKit
/-- The reference's queue in memory: block y; v its list. -/
structure RQ (w : World) (y B n : Nat) (v : Value) (L : List Pk) : Prop where
  hy : w.heap[y]? = some (.cells #[.int .i64 n, v] 49 (0, 0))
  ho : OwnPk w B v L
  lt : y < B
  size : B ≤ w.heap.size
def InR (y : Nat) (v : Value) (k : Nat) : Prop := k = y ∨ v.ownBlock = some k
theorem RQ.keeps {w w' : World} {y B n : Nat} {v : Value} {L : List Pk} (h : RQ w y B n v L) {S : Nat → Prop} (k : Keeps S w w') (hy : ¬ S y) (hv : ∀ g, v.ownBlock = some g → ¬ S g) : RQ w' y B n v L :=
  ⟨k.heapAt h.hy hy, h.ho.keeps k hv, h.lt, Nat.le_trans h.size k.size⟩
theorem RQ.below {w w' : World} {y B n : Nat} {v : Value} {L : List Pk} (h : RQ w y B n v L) (k : Below w.heap.size w w') : RQ w' y B n v L :=
  h.keeps (Keeps.below (S := fun _ => False) k) (fun x => x) (fun _ _ x => x)
theorem RQ.drewN {w : World} {y B n : Nat} {v : Value} {L : List Pk} (h : RQ w y B n v L) (m : Nat) : RQ (w.drewN m) y B n v L := h.below ((Below.refl _ _).drewN m)
theorem RQ.form {w : World} {y B n : Nat} {v : Value} {L : List Pk} (h : RQ w y B n v L) : ∃ A c, v = .slice A L.length c := by
  obtain ⟨A, c, e, _⟩ := h.ho.rd
  exact ⟨A, c, e⟩
theorem RQ.y_lt {w : World} {y B n : Nat} {v : Value} {L : List Pk} (h : RQ w y B n v L) : y < w.heap.size := (Array.getElem?_eq_some_iff.1 h.hy).1
theorem pkHere_at (w : World) (b : Nat) (hb : b = w.heap.size) (p : Pk) (T : TypeId) : PkHere (w.alloc (.cells #[.int .i64 p.s, .int .i64 p.d, .int .i64 p.t, .int .i64 p.n, .string p.x] T)) b 0 p := hb ▸ pkHere_new w p T
theorem RQ.grow {w W w1 : World} {y B n : Nat} {v : Value} {L : List Pk} (h : RQ w y B n v L) (k : Below w.heap.size w W) (g : W.grownBy w1 v.ownBlock) :
    w1.heap[y]? = some (.cells #[.int .i64 n, v] 49 (0, 0)) ∧ Keeps (InR y v) w w1 := by
  have h1 : W.heap[y]? = some (.cells #[.int .i64 n, v] 49 (0, 0)) := (Keeps.below (S := fun _ => False) k).heapAt h.hy (fun x => x)
  have h2 : y < W.heap.size := Nat.lt_of_lt_of_le h.y_lt k.size
  refine ⟨(g.block y h2 (fun e => ?_)).trans h1, (Keeps.below k).grown g (fun i hi => .inr (.inr hi))⟩
  have := h.ho.base e.symm
  have := h.lt
  omega
theorem RQ.stored {w w1 : World} {y B n : Nat} {v v' : Value} {L L' : List Pk} (h : RQ w y B n v L) (hh : w1.heap[y]? = some (.cells #[.int .i64 n, v] 49 (0, 0)) ∧ Keeps (InR y v) w w1) (ho : OwnPk w1 B v' L') :
    RQ (w1.setCell ⟨y, 1, none⟩ v') y B n v' L' ∧ Keeps (InR y v) w (w1.setCell ⟨y, 1, none⟩ v') := by
  obtain ⟨h1, k⟩ := hh
  have k2 : Keeps (InR y v) w (w1.setCell ⟨y, 1, none⟩ v') := k.setCell (.inr (.inl rfl)) v'
  have k3 : Keeps (fun k => k = y) w1 (w1.setCell ⟨y, 1, none⟩ v') := (Keeps.refl (fun k => k = y) w1).setCell (.inr rfl) v'
  refine ⟨⟨?_, ho.keeps k3 (fun g hg e => ?_), h.lt, Nat.le_trans h.size k2.size⟩, k2⟩
  · simpa using heap_set h1 1 v'
  · have := ho.base hg
    have := h.lt
    omega
set_option maxRecDepth 100000 in
/-- One packet appended to a row of the call's own, inside a region that draws its order. -/
theorem step_append_pk {w : World} {ops : Array Oper} {o : Oper} {a : Act} {K : Act → World → Prop} {Q : Exit → Act → World → Prop} {E : Prop} (hgd : o.guard = none) (s x : Operand)
    (ho : o.op = .call { callee := .builtin .append, args := #[s, x], argTypes := #[33, 33] }) (base : Nat) (v : Value) (L : List Pk) (hs : a.eval s = v) (hown : OwnPk w base v L)
    (g : Nat) (p : Pk) (hx : a.eval x = .slice (some ⟨g, 0, none⟩) 1 1) (hp : PkHere w g 0 p) (hL : L.length ≤ 1000000) (hbase : base ≤ w.heap.size)
    (h : ∀ g' cap w', OwnPk w' base (.slice (some ⟨g', 0, none⟩) (L.length + 1) cap) (L ++ [p]) → w.grownBy w' v.ownBlock → K (a.put o.dst (.slice (some ⟨g', 0, none⟩) (L.length + 1) cap)) w') :
    if Region.wanted o (yielded ops a.tmps) = true then Oper.wp Try.prog o a w K Q else E := by
  obtain ⟨i0, hi, hz0, hz1, hz2⟩ := info_parts info23
  obtain ⟨c0, c1, c2, c3, c4⟩ := hp
  refine step_append_lies _ hgd s x 33 ho base 23 i0 _ 5 48 Try.underlying33 hi hz0 hz1 hz2 rfl (by decide) v L.length (pkList L) hs hown ⟨g, 0, none⟩ 1 1 p.cells hx rfl ?_ ?_ (by decide) (by unfold maxLen; omega) (by omega) hbase _ rfl ?_
  · intro j u hj
    have hlt : j < 5 := (List.getElem?_eq_some_iff.1 hj).1
    have e : (⟨g, 0, none⟩ : Addr).add j = ⟨g, j, none⟩ := by unfold Addr.add; split <;> simp_all
    rw [e, ← hj]
    match j, hlt with
    | 0, _ => exact c0
    | 1, _ => exact c1
    | 2, _ => exact c2
    | 3, _ => exact c3
    | 4, _ => exact c4
  · intro u hu
    simp only [Pk.cells, List.mem_cons, List.not_mem_nil, or_false] at hu
    rcases hu with rfl | rfl | rfl | rfl | rfl <;> rfl
  · intro g' cap w' hr hg _ _
    refine h g' cap w' ?_ hg
    unfold OwnPk
    rw [pkList_append, List.length_append]
    simpa [pkList] using hr
theorem c28b (y : Nat) (p : Pk) (w : World) (h : p.right = false) :
    Calls Try.prog 28 #[.pointer (some ⟨y, 0, none⟩), p.val] w fun e w' => e = .returned (.int .i64 1) ∧ Below w.heap.size w w' := by
  obtain ⟨s, d, t, n, x⟩ := p
  unfold Pk.val
  have H := hidd h
  clear h
  go_enter Try.func28, Try.ntmps28
  go_wp2_with (go_at_call 47; refine (c47f _ _ _ _ _ _ H.out).mono ?_; rintro e w' ⟨rfl, o, rfl⟩)
  go_ret
  exact ⟨rfl, Bl_alloc (Bl_alloc (Below.refl _ _) _) _⟩
theorem c28f {w : World} {y B n : Nat} {v : Value} {L : List Pk} (h : RQ w y B n v L) (p : Pk) (hp : p.right = true) (hL : L.length = n) :
    Calls Try.prog 28 #[.pointer (some ⟨y, 0, none⟩), p.val] w fun e w' => e = .returned (.int .i64 8) ∧ Below w.heap.size w w' := by
  obtain ⟨s, d, t, nn, x⟩ := p
  unfold Pk.val
  have H := hidd hp
  obtain ⟨A, c, rfl⟩ := h.form
  have h0 : w.cell? ⟨y, 0, none⟩ = some (.int .i64 n) := cell_of_heap h.hy 0
  have h1 : w.cell? ⟨y, 1, none⟩ = some (.slice A L.length c) := cell_of_heap h.hy 1
  have hlt := h.y_lt
  rw [hL] at h1
  clear hp hL h
  go_enter Try.func28, Try.ntmps28
  go_wp2_with (go_at_call 47; refine (c47t _ _ _ _ _ _ H.out).mono ?_; rintro e w' ⟨rfl, o, rfl⟩)
  go_quiet (fail)
  go_wp2
  go_ret
  exact ⟨rfl, (Bl_alloc (Bl_alloc (Below.refl _ _) _) _).drewN _⟩
set_option maxRecDepth 100000 in
set_option maxHeartbeats 1000000 in
theorem c28g {w : World} {y B n : Nat} {v : Value} {L : List Pk} (h : RQ w y B n v L) (p : Pk) (hp : p.right = true) (hL : L.length < n) (hn : n ≤ 64) :
    Calls Try.prog 28 #[.pointer (some ⟨y, 0, none⟩), p.val] w fun e w' => e = .returned (.int .i64 0) ∧ (∃ v', RQ w' y B n v' (L ++ [p])) ∧ Keeps (InR y v) w w' := by
  obtain ⟨s, d, t, nn, x⟩ := p
  unfold Pk.val
  obtain ⟨i0, hi, hz0, hz1, hz2⟩ := info_parts info23
  have H := hidd hp
  obtain ⟨A, c, rfl⟩ := h.form
  have h0 : w.cell? ⟨y, 0, none⟩ = some (.int .i64 n) := cell_of_heap h.hy 0
  have h1 : w.cell? ⟨y, 1, none⟩ = some (.slice A L.length c) := cell_of_heap h.hy 1
  have hf := free_of_heap h.hy 1
  have hlt := h.y_lt
  have HR := hidd h
  have hnf : ¬ (n : Int) ≤ L.length := by omega
  clear hp h
  go_enter Try.func28, Try.ntmps28
  go_wp2_with (go_at_call 47; refine (c47t _ _ _ _ _ _ H.out).mono ?_; rintro e w' ⟨rfl, o, rfl⟩)
  go_quiet (fail)
  go_wp2_with fail
  generalize hW : World.drewN (World.alloc (World.alloc w _) o) _ = W
  have HB : Hid (Below w.heap.size w W) := hidd (hW ▸ (Bl_alloc (Bl_alloc (Below.refl _ _) _) _).drewN _)
  have k0 : W.cell? ⟨w.heap.size, 0, none⟩ = some (.int .i64 s) := by rw [← hW]; simp
  have k1 : W.cell? ⟨w.heap.size, 1, none⟩ = some (.int .i64 d) := by rw [← hW]; simp
  have k2 : W.cell? ⟨w.heap.size, 2, none⟩ = some (.int .i64 t) := by rw [← hW]; simp
  have k3 : W.cell? ⟨w.heap.size, 3, none⟩ = some (.int .i64 nn) := by rw [← hW]; simp
  have k4 : W.cell? ⟨w.heap.size, 4, none⟩ = some (.string x) := by rw [← hW]; simp
  have m0 : W.cell? ⟨y, 0, none⟩ = some (.int .i64 n) := cell_of_heap ((Keeps.below (S := fun _ => False) HB.out).heapAt HR.out.hy (fun x => x)) 0
  have m1 : W.cell? ⟨y, 1, none⟩ = some (.slice A L.length c) := cell_of_heap ((Keeps.below (S := fun _ => False) HB.out).heapAt HR.out.hy (fun x => x)) 1
  have ml : y < W.heap.size := Nat.lt_of_lt_of_le hlt HB.out.size
  have ml2 : w.heap.size < W.heap.size := by rw [← hW]; simp; omega
  clear hW h0 h1 hf
  go_region_law (refine step_append_pk rfl (.tmp 22) (.tmp 24) rfl B _ L rfl (HR.out.ho.below (by repeat (first | exact HB.out | refine Bl_alloc ?_ _ | refine Below.drewN ?_ _ | refine Below.drew ?_))) _ ⟨s, d, t, nn, x⟩ rfl (by exact pkHere_at _ _ (by simp) ⟨s, d, t, nn, x⟩ _) (by omega) (by exact Nat.le_trans HR.out.size (Below.size (B := w.heap.size) (by repeat (first | exact HB.out | refine Bl_alloc ?_ _ | refine Below.drewN ?_ _ | refine Below.drew ?_)))) ?_; intro g' cap w1 hown1 hg1; (have HG := hidd (HR.out.grow (by repeat (first | exact HB.out | refine Bl_alloc ?_ _ | refine Below.drewN ?_ _ | refine Below.drew ?_)) hg1)); (have hc1 : w1.cell? ⟨y, 1, none⟩ = some (.slice A L.length c) := cell_of_heap HG.out.1 1); (have hc2 : w1.frozen? ⟨y, 1, none⟩ = false := free_of_heap HG.out.1 1); (have HO := hidd hown1))
  all_goals
    go_wp2
    go_ret
    exact ⟨rfl, ⟨_, (HR.out.stored HG.out HO.out).1⟩, (HR.out.stored HG.out HO.out).2⟩
end Go.Proofs.Ytnlcibobhmcfpaa
