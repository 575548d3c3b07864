/- The walk of data.Take. -/
import Derived.Test.YtnlcibobhmcfpaaTa
import Derived.Test.YtnlcibobhmcfpaaLa
import Derived.Deep.DeepCutAuto
set_option linter.unusedSimpArgs false
set_option linter.unusedVariables false
namespace Go.Proofs.Ytnlcibobhmcfpaa
open Go.RowKit
attribute [local go_sem ↓] Go.wp_at_zero Go.wp_at_succ
theorem New7.below {w w' : World} (h : New7 w w') : Below w.heap.size w w' := by
  obtain ⟨o1, o2, o3, o4, o5, o6, o7, rfl⟩ := h
  exact Bl_alloc (Bl_alloc (Bl_alloc (Bl_alloc (Bl_alloc (Bl_alloc (Bl_alloc (Below.refl _ _) _) _) _) _) _) _) _
theorem c14b (s d t n : Int) (x : ByteArray) (me next : Int) (ok : Bool) (w : World) (kind tt s' d' t' n' : Int) (x' : ByteArray) (err : Int) (h : decide22 s d t n x me next ok = ⟨kind, tt, s', d', t', n', x', err⟩) :
    Calls Try.prog 14 #[.agg #[.int .i64 s, .int .i64 d, .int .i64 t, .int .i64 n, .string x], .int .i64 me, .int .i64 next, .bool ok] w fun e w' => e = .returned (.tuple #[.agg #[.int .i64 kind, .int .i64 tt, .int .i64 s', .int .i64 d', .int .i64 t', .int .i64 n', .string x'], .int .i64 err]) ∧ Below w.heap.size w w' :=
  (c14v s d t n x me next ok w kind tt s' d' t' n' x' err h).mono fun e w' he => ⟨he.1, New7.below he.2⟩
theorem drew_cell {w : World} {p : Addr} {v : Value} (h : w.cell? p = some v) : w.drew.cell? p = some v := h
theorem alloc_cell {w : World} {p : Addr} {v : Value} {o : Obj} (h : w.cell? p = some v) : (w.alloc o).cell? p = some v := by
  rw [World.cell?_alloc_some w p o (by rw [h]; rfl), h]
theorem setc_cell {w : World} {b o b' o' : Nat} {u v : Value} (h : w.cell? ⟨b', o', none⟩ = some v) (hne : b ≠ b') : (w.setCell ⟨b, o, none⟩ u).cell? ⟨b', o', none⟩ = some v := by
  rw [World.cell?_of_block (w := w) (Below.heap_setCell _ _ _ _ (Ne.symm hne)), h]
/-- What the first statement of Take leaves: a block that holds the verdict. -/
def Vd (W : World) (kind tt s d t n : Int) (x : ByteArray) (err : Int) (p e : Value) (w' : World) : Prop := ∃ b : Nat, p = .pointer (some ⟨b, 0, none⟩) ∧ e = .int .i64 err ∧ w'.heap[b]? = some (.cells #[.int .i64 kind, .int .i64 tt, .int .i64 s, .int .i64 d, .int .i64 t, .int .i64 n, .string x] 25 (0, 0)) ∧ W.heap.size ≤ b ∧ Below W.heap.size W w'
theorem vd_one {W w2 : World} {kind tt s d t n : Int} {x : ByteArray} {err : Int} (hb : Below W.heap.size W w2) : Vd W kind tt s d t n x err (.pointer (some ⟨w2.heap.size, 0, none⟩)) (.int .i64 err) (w2.alloc (.cells #[.int .i64 kind, .int .i64 tt, .int .i64 s, .int .i64 d, .int .i64 t, .int .i64 n, .string x] 25)) :=
  ⟨_, rfl, rfl, heap_new _ _, hb.size, Bl_alloc hb _⟩
theorem Bl_drew {W w2 : World} (h : Below W.drew.heap.size W.drew w2) : Below W.heap.size W w2 := ⟨h.os, h.tape, h.output, h.size, h.block⟩
theorem vd_two {W w2 : World} {kind tt s d t n : Int} {x : ByteArray} {err : Int} {Z : Obj} (hz : w2.heap[W.heap.size]? = some (.cells #[.int .i64 0, .int .i64 0, .int .i64 0, .int .i64 0, .int .i64 0, .int .i64 0, .string ⟨#[]⟩] 25 (0, 0))) (hb : Below (W.alloc Z).drew.heap.size (W.alloc Z).drew w2) : Vd W kind tt s d t n x err (.pointer (some ⟨W.heap.size, 0, none⟩)) (.int .i64 err)
    (((((((w2.setCell ⟨W.heap.size, 0, none⟩ (.int .i64 kind)).setCell ⟨W.heap.size, 1, none⟩ (.int .i64 tt)).setCell ⟨W.heap.size, 2, none⟩ (.int .i64 s)).setCell ⟨W.heap.size, 3, none⟩ (.int .i64 d)).setCell ⟨W.heap.size, 4, none⟩ (.int .i64 t)).setCell ⟨W.heap.size, 5, none⟩ (.int .i64 n)).setCell ⟨W.heap.size, 6, none⟩ (.string x)) := by
  refine ⟨_, rfl, rfl, ?_, Nat.le_refl _, ?_⟩
  · exact heap_set (heap_set (heap_set (heap_set (heap_set (heap_set (heap_set hz 0 _) 1 _) 2 _) 3 _) 4 _) 5 _) 6 _
  · have h1 : Below W.heap.size W w2 := (Bl_alloc (Below.refl _ W) Z).trans ((Bl_drew hb).mono (Bl_alloc (Below.refl W.heap.size W) Z).size)
    exact ((((((h1.setCell (Nat.le_refl _) _).setCell (Nat.le_refl _) _).setCell (Nat.le_refl _) _).setCell (Nat.le_refl _) _).setCell (Nat.le_refl _) _).setCell (Nat.le_refl _) _).setCell (Nat.le_refl _) _
theorem seven_keeps (w : World) (b : Nat) (v0 v1 v2 v3 v4 v5 v6 : Value) {S : Nat → Prop} (hs : S b ∨ w.heap.size ≤ b) : Keeps S w (((((((w.setCell ⟨b, 0, none⟩ v0).setCell ⟨b, 1, none⟩ v1).setCell ⟨b, 2, none⟩ v2).setCell ⟨b, 3, none⟩ v3).setCell ⟨b, 4, none⟩ v4).setCell ⟨b, 5, none⟩ v5).setCell ⟨b, 6, none⟩ v6) :=
  (((((((Keeps.refl S w).setCell hs.symm _).setCell hs.symm _).setCell hs.symm _).setCell hs.symm _).setCell hs.symm _).setCell hs.symm _).setCell hs.symm _
theorem PAt.drew {w : World} {x q r n f : Nat} {R L : List Pk} {me : Int} {c : Cn} (h : PAt w x q r n f R L me c) : PAt w.drew x q r n f R L me c := ⟨h.hx, h.hQ.drew, h.nq, h.nr⟩
theorem keeps7 {S : Nat → Prop} {a w : World} (h : Keeps S a w) {b : Nat} (hs : a.heap.size ≤ b) (v0 v1 v2 v3 v4 v5 v6 : Value) : Keeps S a (((((((w.setCell ⟨b, 0, none⟩ v0).setCell ⟨b, 1, none⟩ v1).setCell ⟨b, 2, none⟩ v2).setCell ⟨b, 3, none⟩ v3).setCell ⟨b, 4, none⟩ v4).setCell ⟨b, 5, none⟩ v5).setCell ⟨b, 6, none⟩ v6) :=
  ((((((h.setCell (.inl hs) _).setCell (.inl hs) _).setCell (.inl hs) _).setCell (.inl hs) _).setCell (.inl hs) _).setCell (.inl hs) _).setCell (.inl hs) _
theorem five_seven {w : World} {x q r n f : Nat} {R L : List Pk} {me : Int} {c : Cn} (h : PAt w x q r n f R L me c) (b : Nat) (hx : b ≠ x) (hq : b ≠ q) (hr : b ≠ r) (v0 v1 v2 v3 v4 v5 v6 : Value) : PAt (((((((w.setCell ⟨b, 0, none⟩ v0).setCell ⟨b, 1, none⟩ v1).setCell ⟨b, 2, none⟩ v2).setCell ⟨b, 3, none⟩ v3).setCell ⟨b, 4, none⟩ v4).setCell ⟨b, 5, none⟩ v5).setCell ⟨b, 6, none⟩ v6) x q r n f R L me c :=
  h.keeps (seven_keeps w b v0 v1 v2 v3 v4 v5 v6 (S := fun g => g = b) (.inl rfl)) (Ne.symm hx) (Ne.symm hq) (Ne.symm hr)
set_option maxHeartbeats 1000000 in
theorem c34e {w : World} {x q r n f : Nat} {R L : List Pk} {me : Int} {c : Cn} (h : PAt w x q r n f R L me c) (s d t nn : Int) (xx : ByteArray) (next : Int) (ok : Bool)
    (hv : decide22 s d t nn xx me next ok = ⟨0, 0, 0, 0, 0, 0, ⟨#[]⟩, 1⟩) :
    Calls Try.prog 34 #[.pointer (some ⟨x, 0, none⟩), .agg #[.int .i64 s, .int .i64 d, .int .i64 t, .int .i64 nn, .string xx], .int .i64 next, .bool ok] w fun e w' => e = .returned (.tuple #[.agg #[.int .i64 0, .int .i64 0, .int .i64 0, .int .i64 0, .int .i64 0, .int .i64 0, .string ⟨#[]⟩], .int .i64 1]) ∧ Below w.heap.size w w' := by
  have HV := hidd hv
  have h0 := h.x0
  have HA := hidd h
  obtain ⟨l0, l1, l2⟩ := h.lt
  clear h hv
  go_enter Try.func34, Try.ntmps34
  go_wp2_with fail
  generalize hW : World.alloc (World.alloc w _) _ = W
  have HB : Hid (Below w.heap.size w W) := hidd (hW ▸ Bl_alloc (Bl_alloc (Below.refl _ _) _) _)
  have hs : W.heap.size = w.heap.size + 1 + 1 := by rw [← hW]; simp
  have m0 : W.cell? ⟨x, 0, none⟩ = some (.int .i64 me) := by rw [← hW]; exact alloc_cell (alloc_cell h0)
  have m1 : W.cell? ⟨w.heap.size, 0, none⟩ = some (.int .i64 s) := by rw [← hW]; exact alloc_cell (cell_of_heap (heap_new w _) 0)
  have m2 : W.cell? ⟨w.heap.size, 1, none⟩ = some (.int .i64 d) := by rw [← hW]; exact alloc_cell (cell_of_heap (heap_new w _) 1)
  have m3 : W.cell? ⟨w.heap.size, 2, none⟩ = some (.int .i64 t) := by rw [← hW]; exact alloc_cell (cell_of_heap (heap_new w _) 2)
  have m4 : W.cell? ⟨w.heap.size, 3, none⟩ = some (.int .i64 nn) := by rw [← hW]; exact alloc_cell (cell_of_heap (heap_new w _) 3)
  have m5 : W.cell? ⟨w.heap.size, 4, none⟩ = some (.string xx) := by rw [← hW]; exact alloc_cell (cell_of_heap (heap_new w _) 4)
  have zp : W.heap[w.heap.size]? = some (.cells #[.int .i64 s, .int .i64 d, .int .i64 t, .int .i64 nn, .string xx] 23 (0, 0)) := by rw [← hW]; exact heap_alloc (heap_new w _) _
  have zr : W.heap[w.heap.size + 1]? = some (.cells #[.int .i64 0, .int .i64 0, .int .i64 0, .int .i64 0, .int .i64 0, .int .i64 0, .string ⟨#[]⟩] 25 (0, 0)) := by
    have := heap_new (w.alloc (.cells #[.int .i64 s, .int .i64 d, .int .i64 t, .int .i64 nn, .string xx] 23)) (.cells #[.int .i64 0, .int .i64 0, .int .i64 0, .int .i64 0, .int .i64 0, .int .i64 0, .string ⟨#[]⟩] 25)
    rw [← hW]; simpa using this
  have HZ := hidd zr
  have HP := hidd zp
  have HS := hidd hs
  have ls : w.heap.size + 1 < W.heap.size := by omega
  have lw : w.heap.size < W.heap.size := by omega
  have lx : x < W.heap.size := by omega
  have nx : W.heap.size ≠ x := by omega
  have nw : W.heap.size ≠ w.heap.size := by omega
  clear hW zr zp hs h0
  go_cut [10, 11] (fun p10 e11 wx => Vd W (0) (0) (0) (0) (0) (0) (⟨#[]⟩) 1 p10 e11 wx)
  case first =>
    go_region_held3 (fun w' => w'.cell? ⟨x, 0, none⟩ = some (.int .i64 me) ∧ w'.cell? ⟨w.heap.size, 0, none⟩ = some (.int .i64 s) ∧ w'.cell? ⟨w.heap.size, 1, none⟩ = some (.int .i64 d) ∧ w'.cell? ⟨w.heap.size, 2, none⟩ = some (.int .i64 t) ∧ w'.cell? ⟨w.heap.size, 3, none⟩ = some (.int .i64 nn) ∧ w'.cell? ⟨w.heap.size, 4, none⟩ = some (.string xx)) (refine ⟨?_, ?_, ?_, ?_, ?_, ?_⟩ <;> (repeat (first | with_reducible assumption | (with_reducible refine drew_cell ?_) | (with_reducible refine alloc_cell ?_) | (with_reducible refine setc_cell ?_ (by with_reducible assumption)))))
      (first | (go_at_call 14; refine (c14b _ _ _ _ _ _ _ _ _ _ _ _ _ _ _ _ _ HV.out).mono ?_; rintro e w2 ⟨rfl, hb⟩; (have t0 : w2.cell? ⟨x, 0, none⟩ = some (.int .i64 me) := (hb.cell (p := ⟨x, 0, none⟩) (by first | (simp; done) | (simp; omega))).trans (by first | exact m0 | (exact alloc_cell m0))); (have t1 : w2.cell? ⟨w.heap.size, 0, none⟩ = some (.int .i64 s) := (hb.cell (p := ⟨w.heap.size, 0, none⟩) (by first | (simp; done) | (simp; omega))).trans (by first | exact m1 | (exact alloc_cell m1))); (have t2 : w2.cell? ⟨w.heap.size, 1, none⟩ = some (.int .i64 d) := (hb.cell (p := ⟨w.heap.size, 1, none⟩) (by first | (simp; done) | (simp; omega))).trans (by first | exact m2 | (exact alloc_cell m2))); (have t3 : w2.cell? ⟨w.heap.size, 2, none⟩ = some (.int .i64 t) := (hb.cell (p := ⟨w.heap.size, 2, none⟩) (by first | (simp; done) | (simp; omega))).trans (by first | exact m3 | (exact alloc_cell m3))); (have t4 : w2.cell? ⟨w.heap.size, 3, none⟩ = some (.int .i64 nn) := (hb.cell (p := ⟨w.heap.size, 3, none⟩) (by first | (simp; done) | (simp; omega))).trans (by first | exact m4 | (exact alloc_cell m4))); (have t5 : w2.cell? ⟨w.heap.size, 4, none⟩ = some (.string xx) := (hb.cell (p := ⟨w.heap.size, 4, none⟩) (by first | (simp; done) | (simp; omega))).trans (by first | exact m5 | (exact alloc_cell m5))); (try (have hzz : W.heap.size < W.heap.size + 1 := (by omega); have zl := hb.size; have zc : w2.heap[W.heap.size]? = some (.cells #[.int .i64 0, .int .i64 0, .int .i64 0, .int .i64 0, .int .i64 0, .int .i64 0, .string ⟨#[]⟩] 25 (0, 0)) := (hb.block W.heap.size (by first | (simp; done))).trans (heap_new W _); (have z0 : w2.cell? ⟨W.heap.size, 0, none⟩ = some (.int .i64 0) := cell_of_heap zc 0); (have z1 : w2.cell? ⟨W.heap.size, 1, none⟩ = some (.int .i64 0) := cell_of_heap zc 1); (have z2 : w2.cell? ⟨W.heap.size, 2, none⟩ = some (.int .i64 0) := cell_of_heap zc 2); (have z3 : w2.cell? ⟨W.heap.size, 3, none⟩ = some (.int .i64 0) := cell_of_heap zc 3); (have z4 : w2.cell? ⟨W.heap.size, 4, none⟩ = some (.int .i64 0) := cell_of_heap zc 4); (have z5 : w2.cell? ⟨W.heap.size, 5, none⟩ = some (.int .i64 0) := cell_of_heap zc 5); (have z6 : w2.cell? ⟨W.heap.size, 6, none⟩ = some (.string ⟨#[]⟩) := cell_of_heap zc 6); (have f0 : w2.frozen? ⟨W.heap.size, 0, none⟩ = false := free_of_heap zc 0); (have f1 : w2.frozen? ⟨W.heap.size, 1, none⟩ = false := free_of_heap zc 1); (have f2 : w2.frozen? ⟨W.heap.size, 2, none⟩ = false := free_of_heap zc 2); (have f3 : w2.frozen? ⟨W.heap.size, 3, none⟩ = false := free_of_heap zc 3); (have f4 : w2.frozen? ⟨W.heap.size, 4, none⟩ = false := free_of_heap zc 4); (have f5 : w2.frozen? ⟨W.heap.size, 5, none⟩ = false := free_of_heap zc 5); (have f6 : w2.frozen? ⟨W.heap.size, 6, none⟩ = false := free_of_heap zc 6); (have HZC := hidd zc); clear zc)); (have HB2 := hidd hb); clear hb))
    all_goals (go_wp2_with fail; go_meet)
    · exact vd_one (Bl_drew HB2.out)
    · exact vd_two HZC.out HB2.out
  case rest =>
    obtain ⟨b, rfl, rfl, hz, hWb, hB2⟩ := hcut
    have HB2 := hidd hB2
    have HZ2 := hidd ((Keeps.below (S := fun _ => False) hB2).heapAt HZ.out (fun x => x))
    have HP2 := hidd ((Keeps.below (S := fun _ => False) hB2).heapAt HP.out (fun x => x))
    have HY := hidd hz
    have lb : b < wc.heap.size := (Array.getElem?_eq_some_iff.1 hz).1
    have lz : w.heap.size + 1 < wc.heap.size := (Array.getElem?_eq_some_iff.1 HZ2.out).1
    have nbz : b ≠ w.heap.size + 1 := by omega
    have nzb : w.heap.size + 1 ≠ b := by omega
    clear hz hB2 m0 m1 m2 m3 m4 m5
    have y0 : wc.cell? ⟨b, 0, none⟩ = some (.int .i64 0) := cell_of_heap HY.out 0
    have y1 : wc.cell? ⟨b, 1, none⟩ = some (.int .i64 0) := cell_of_heap HY.out 1
    have y2 : wc.cell? ⟨b, 2, none⟩ = some (.int .i64 0) := cell_of_heap HY.out 2
    have y3 : wc.cell? ⟨b, 3, none⟩ = some (.int .i64 0) := cell_of_heap HY.out 3
    have y4 : wc.cell? ⟨b, 4, none⟩ = some (.int .i64 0) := cell_of_heap HY.out 4
    have y5 : wc.cell? ⟨b, 5, none⟩ = some (.int .i64 0) := cell_of_heap HY.out 5
    have y6 : wc.cell? ⟨b, 6, none⟩ = some (.string ⟨#[]⟩) := cell_of_heap HY.out 6
    have z0 : wc.cell? ⟨w.heap.size + 1, 0, none⟩ = some (.int .i64 0) := cell_of_heap HZ2.out 0
    have zf0 : wc.frozen? ⟨w.heap.size + 1, 0, none⟩ = false := free_of_heap HZ2.out 0
    have z1 : wc.cell? ⟨w.heap.size + 1, 1, none⟩ = some (.int .i64 0) := cell_of_heap HZ2.out 1
    have zf1 : wc.frozen? ⟨w.heap.size + 1, 1, none⟩ = false := free_of_heap HZ2.out 1
    have z2 : wc.cell? ⟨w.heap.size + 1, 2, none⟩ = some (.int .i64 0) := cell_of_heap HZ2.out 2
    have zf2 : wc.frozen? ⟨w.heap.size + 1, 2, none⟩ = false := free_of_heap HZ2.out 2
    have z3 : wc.cell? ⟨w.heap.size + 1, 3, none⟩ = some (.int .i64 0) := cell_of_heap HZ2.out 3
    have zf3 : wc.frozen? ⟨w.heap.size + 1, 3, none⟩ = false := free_of_heap HZ2.out 3
    have z4 : wc.cell? ⟨w.heap.size + 1, 4, none⟩ = some (.int .i64 0) := cell_of_heap HZ2.out 4
    have zf4 : wc.frozen? ⟨w.heap.size + 1, 4, none⟩ = false := free_of_heap HZ2.out 4
    have z5 : wc.cell? ⟨w.heap.size + 1, 5, none⟩ = some (.int .i64 0) := cell_of_heap HZ2.out 5
    have zf5 : wc.frozen? ⟨w.heap.size + 1, 5, none⟩ = false := free_of_heap HZ2.out 5
    have z6 : wc.cell? ⟨w.heap.size + 1, 6, none⟩ = some (.string ⟨#[]⟩) := cell_of_heap HZ2.out 6
    have zf6 : wc.frozen? ⟨w.heap.size + 1, 6, none⟩ = false := free_of_heap HZ2.out 6
    go_wp2
    refine bodyPost_ret (v := .tuple #[.agg #[.int .i64 0, .int .i64 0, .int .i64 0, .int .i64 0, .int .i64 0, .int .i64 0, .string ⟨#[]⟩], .int .i64 1]) ?_ ?_ ?_
    · simp [results, Try.results34, go_sem, y0, y1, y2, y3, y4, y5, y6, z0, z1, z2, z3, z4, z5, z6]
    · rfl
    · exact ⟨rfl, (((((((HB.out.trans (HB2.out.mono HB.out.size)).setCell (by simp) _).setCell (by simp) _).setCell (by simp) _).setCell (by simp) _).setCell (by simp) _).setCell (by simp) _).setCell (by simp) _⟩
set_option maxHeartbeats 1000000 in
theorem c34k {w : World} {x q r n f : Nat} {R L : List Pk} {me : Int} {c : Cn} (h : PAt w x q r n f R L me c) {m : Nat} (hc : c.le m) (hm : m ≤ 1000000) (s d t nn : Int) (xx : ByteArray) (next : Int) (ok : Bool) (k : Nat) (tt s' d' t' n' : Int) (x' : ByteArray) (hk : k < 6) (hk3 : k ≠ 3)
    (hv : decide22 s d t nn xx me next ok = ⟨k, tt, s', d', t', n', x', 0⟩) :
    Calls Try.prog 34 #[.pointer (some ⟨x, 0, none⟩), .agg #[.int .i64 s, .int .i64 d, .int .i64 t, .int .i64 nn, .string xx], .int .i64 next, .bool ok] w fun e w' => e = .returned (.tuple #[.agg #[.int .i64 k, .int .i64 tt, .int .i64 s', .int .i64 d', .int .i64 t', .int .i64 n', .string x'], .int .i64 0]) ∧ PAt w' x q r n f R L me (c.inc k) ∧ Keeps (InP x q r) w w' := by
  have HV := hidd hv
  have h0 := h.x0
  have HA := hidd h
  have hg : c.get k ≤ 1000000 := by
    obtain ⟨a0, a1, a2, a3, a4, a5⟩ := hc
    match k, hk with
    | 0, _ => exact Nat.le_trans a0 hm
    | 1, _ => exact Nat.le_trans a1 hm
    | 2, _ => exact Nat.le_trans a2 hm
    | 3, _ => exact Nat.le_trans a3 hm
    | 4, _ => exact Nat.le_trans a4 hm
    | 5, _ => exact Nat.le_trans a5 hm
  clear hc
  have ki0 : (0 : Int) ≤ k := by omega
  have ki1 : (k : Int) < 6 := by omega
  have ke : ((k : Int) == 3) = false := by simp; omega
  obtain ⟨l0, l1, l2⟩ := h.lt
  clear h hv
  go_enter Try.func34, Try.ntmps34
  go_wp2_with fail
  generalize hW : World.alloc (World.alloc w _) _ = W
  have HB : Hid (Below w.heap.size w W) := hidd (hW ▸ Bl_alloc (Bl_alloc (Below.refl _ _) _) _)
  have hs : W.heap.size = w.heap.size + 1 + 1 := by rw [← hW]; simp
  have m0 : W.cell? ⟨x, 0, none⟩ = some (.int .i64 me) := by rw [← hW]; exact alloc_cell (alloc_cell h0)
  have m1 : W.cell? ⟨w.heap.size, 0, none⟩ = some (.int .i64 s) := by rw [← hW]; exact alloc_cell (cell_of_heap (heap_new w _) 0)
  have m2 : W.cell? ⟨w.heap.size, 1, none⟩ = some (.int .i64 d) := by rw [← hW]; exact alloc_cell (cell_of_heap (heap_new w _) 1)
  have m3 : W.cell? ⟨w.heap.size, 2, none⟩ = some (.int .i64 t) := by rw [← hW]; exact alloc_cell (cell_of_heap (heap_new w _) 2)
  have m4 : W.cell? ⟨w.heap.size, 3, none⟩ = some (.int .i64 nn) := by rw [← hW]; exact alloc_cell (cell_of_heap (heap_new w _) 3)
  have m5 : W.cell? ⟨w.heap.size, 4, none⟩ = some (.string xx) := by rw [← hW]; exact alloc_cell (cell_of_heap (heap_new w _) 4)
  have zp : W.heap[w.heap.size]? = some (.cells #[.int .i64 s, .int .i64 d, .int .i64 t, .int .i64 nn, .string xx] 23 (0, 0)) := by rw [← hW]; exact heap_alloc (heap_new w _) _
  have zr : W.heap[w.heap.size + 1]? = some (.cells #[.int .i64 0, .int .i64 0, .int .i64 0, .int .i64 0, .int .i64 0, .int .i64 0, .string ⟨#[]⟩] 25 (0, 0)) := by
    have := heap_new (w.alloc (.cells #[.int .i64 s, .int .i64 d, .int .i64 t, .int .i64 nn, .string xx] 23)) (.cells #[.int .i64 0, .int .i64 0, .int .i64 0, .int .i64 0, .int .i64 0, .int .i64 0, .string ⟨#[]⟩] 25)
    rw [← hW]; simpa using this
  have HZ := hidd zr
  have HP := hidd zp
  have HS := hidd hs
  have ls : w.heap.size + 1 < W.heap.size := by omega
  have lw : w.heap.size < W.heap.size := by omega
  have lx : x < W.heap.size := by omega
  have nx : W.heap.size ≠ x := by omega
  have nw : W.heap.size ≠ w.heap.size := by omega
  clear hW zr zp hs h0
  go_cut [10, 11] (fun p10 e11 wx => Vd W (k) (tt) (s') (d') (t') (n') (x') 0 p10 e11 wx)
  case first =>
    go_region_held3 (fun w' => w'.cell? ⟨x, 0, none⟩ = some (.int .i64 me) ∧ w'.cell? ⟨w.heap.size, 0, none⟩ = some (.int .i64 s) ∧ w'.cell? ⟨w.heap.size, 1, none⟩ = some (.int .i64 d) ∧ w'.cell? ⟨w.heap.size, 2, none⟩ = some (.int .i64 t) ∧ w'.cell? ⟨w.heap.size, 3, none⟩ = some (.int .i64 nn) ∧ w'.cell? ⟨w.heap.size, 4, none⟩ = some (.string xx)) (refine ⟨?_, ?_, ?_, ?_, ?_, ?_⟩ <;> (repeat (first | with_reducible assumption | (with_reducible refine drew_cell ?_) | (with_reducible refine alloc_cell ?_) | (with_reducible refine setc_cell ?_ (by with_reducible assumption)))))
      (first | (go_at_call 14; refine (c14b _ _ _ _ _ _ _ _ _ _ _ _ _ _ _ _ _ HV.out).mono ?_; rintro e w2 ⟨rfl, hb⟩; (have t0 : w2.cell? ⟨x, 0, none⟩ = some (.int .i64 me) := (hb.cell (p := ⟨x, 0, none⟩) (by first | (simp; done) | (simp; omega))).trans (by first | exact m0 | (exact alloc_cell m0))); (have t1 : w2.cell? ⟨w.heap.size, 0, none⟩ = some (.int .i64 s) := (hb.cell (p := ⟨w.heap.size, 0, none⟩) (by first | (simp; done) | (simp; omega))).trans (by first | exact m1 | (exact alloc_cell m1))); (have t2 : w2.cell? ⟨w.heap.size, 1, none⟩ = some (.int .i64 d) := (hb.cell (p := ⟨w.heap.size, 1, none⟩) (by first | (simp; done) | (simp; omega))).trans (by first | exact m2 | (exact alloc_cell m2))); (have t3 : w2.cell? ⟨w.heap.size, 2, none⟩ = some (.int .i64 t) := (hb.cell (p := ⟨w.heap.size, 2, none⟩) (by first | (simp; done) | (simp; omega))).trans (by first | exact m3 | (exact alloc_cell m3))); (have t4 : w2.cell? ⟨w.heap.size, 3, none⟩ = some (.int .i64 nn) := (hb.cell (p := ⟨w.heap.size, 3, none⟩) (by first | (simp; done) | (simp; omega))).trans (by first | exact m4 | (exact alloc_cell m4))); (have t5 : w2.cell? ⟨w.heap.size, 4, none⟩ = some (.string xx) := (hb.cell (p := ⟨w.heap.size, 4, none⟩) (by first | (simp; done) | (simp; omega))).trans (by first | exact m5 | (exact alloc_cell m5))); (try (have hzz : W.heap.size < W.heap.size + 1 := (by omega); have zl := hb.size; have zc : w2.heap[W.heap.size]? = some (.cells #[.int .i64 0, .int .i64 0, .int .i64 0, .int .i64 0, .int .i64 0, .int .i64 0, .string ⟨#[]⟩] 25 (0, 0)) := (hb.block W.heap.size (by first | (simp; done))).trans (heap_new W _); (have z0 : w2.cell? ⟨W.heap.size, 0, none⟩ = some (.int .i64 0) := cell_of_heap zc 0); (have z1 : w2.cell? ⟨W.heap.size, 1, none⟩ = some (.int .i64 0) := cell_of_heap zc 1); (have z2 : w2.cell? ⟨W.heap.size, 2, none⟩ = some (.int .i64 0) := cell_of_heap zc 2); (have z3 : w2.cell? ⟨W.heap.size, 3, none⟩ = some (.int .i64 0) := cell_of_heap zc 3); (have z4 : w2.cell? ⟨W.heap.size, 4, none⟩ = some (.int .i64 0) := cell_of_heap zc 4); (have z5 : w2.cell? ⟨W.heap.size, 5, none⟩ = some (.int .i64 0) := cell_of_heap zc 5); (have z6 : w2.cell? ⟨W.heap.size, 6, none⟩ = some (.string ⟨#[]⟩) := cell_of_heap zc 6); (have f0 : w2.frozen? ⟨W.heap.size, 0, none⟩ = false := free_of_heap zc 0); (have f1 : w2.frozen? ⟨W.heap.size, 1, none⟩ = false := free_of_heap zc 1); (have f2 : w2.frozen? ⟨W.heap.size, 2, none⟩ = false := free_of_heap zc 2); (have f3 : w2.frozen? ⟨W.heap.size, 3, none⟩ = false := free_of_heap zc 3); (have f4 : w2.frozen? ⟨W.heap.size, 4, none⟩ = false := free_of_heap zc 4); (have f5 : w2.frozen? ⟨W.heap.size, 5, none⟩ = false := free_of_heap zc 5); (have f6 : w2.frozen? ⟨W.heap.size, 6, none⟩ = false := free_of_heap zc 6); (have HZC := hidd zc); clear zc)); (have HB2 := hidd hb); clear hb))
    all_goals (go_wp2_with fail; go_meet)
    · exact vd_one (Bl_drew HB2.out)
    · exact vd_two HZC.out HB2.out
  case rest =>
    obtain ⟨b, rfl, rfl, hz, hWb, hB2⟩ := hcut
    have HB2 := hidd hB2
    have HZ2 := hidd ((Keeps.below (S := fun _ => False) hB2).heapAt HZ.out (fun x => x))
    have HP2 := hidd ((Keeps.below (S := fun _ => False) hB2).heapAt HP.out (fun x => x))
    have HY := hidd hz
    have lb : b < wc.heap.size := (Array.getElem?_eq_some_iff.1 hz).1
    have lz : w.heap.size + 1 < wc.heap.size := (Array.getElem?_eq_some_iff.1 HZ2.out).1
    have nbz : b ≠ w.heap.size + 1 := by omega
    have nzb : w.heap.size + 1 ≠ b := by omega
    clear hz hB2 m0 m1 m2 m3 m4 m5
    have y0 : wc.cell? ⟨b, 0, none⟩ = some (.int .i64 k) := cell_of_heap HY.out 0
    have y1 : wc.cell? ⟨b, 1, none⟩ = some (.int .i64 tt) := cell_of_heap HY.out 1
    have y2 : wc.cell? ⟨b, 2, none⟩ = some (.int .i64 s') := cell_of_heap HY.out 2
    have y3 : wc.cell? ⟨b, 3, none⟩ = some (.int .i64 d') := cell_of_heap HY.out 3
    have y4 : wc.cell? ⟨b, 4, none⟩ = some (.int .i64 t') := cell_of_heap HY.out 4
    have y5 : wc.cell? ⟨b, 5, none⟩ = some (.int .i64 n') := cell_of_heap HY.out 5
    have y6 : wc.cell? ⟨b, 6, none⟩ = some (.string x') := cell_of_heap HY.out 6
    have z0 : wc.cell? ⟨w.heap.size + 1, 0, none⟩ = some (.int .i64 0) := cell_of_heap HZ2.out 0
    have zf0 : wc.frozen? ⟨w.heap.size + 1, 0, none⟩ = false := free_of_heap HZ2.out 0
    have z1 : wc.cell? ⟨w.heap.size + 1, 1, none⟩ = some (.int .i64 0) := cell_of_heap HZ2.out 1
    have zf1 : wc.frozen? ⟨w.heap.size + 1, 1, none⟩ = false := free_of_heap HZ2.out 1
    have z2 : wc.cell? ⟨w.heap.size + 1, 2, none⟩ = some (.int .i64 0) := cell_of_heap HZ2.out 2
    have zf2 : wc.frozen? ⟨w.heap.size + 1, 2, none⟩ = false := free_of_heap HZ2.out 2
    have z3 : wc.cell? ⟨w.heap.size + 1, 3, none⟩ = some (.int .i64 0) := cell_of_heap HZ2.out 3
    have zf3 : wc.frozen? ⟨w.heap.size + 1, 3, none⟩ = false := free_of_heap HZ2.out 3
    have z4 : wc.cell? ⟨w.heap.size + 1, 4, none⟩ = some (.int .i64 0) := cell_of_heap HZ2.out 4
    have zf4 : wc.frozen? ⟨w.heap.size + 1, 4, none⟩ = false := free_of_heap HZ2.out 4
    have z5 : wc.cell? ⟨w.heap.size + 1, 5, none⟩ = some (.int .i64 0) := cell_of_heap HZ2.out 5
    have zf5 : wc.frozen? ⟨w.heap.size + 1, 5, none⟩ = false := free_of_heap HZ2.out 5
    have z6 : wc.cell? ⟨w.heap.size + 1, 6, none⟩ = some (.string ⟨#[]⟩) := cell_of_heap HZ2.out 6
    have zf6 : wc.frozen? ⟨w.heap.size + 1, 6, none⟩ = false := free_of_heap HZ2.out 6
    have HA2 := hidd ((HA.out.below HB.out).below HB2.out)
    have x2 := HA2.out.cnt hk
    have xf := free_of_heap HA2.out.hx (2 + k)
    have lxc : x < wc.heap.size := HA2.out.lt.1
    have nxz : x ≠ w.heap.size + 1 := by omega
    have nzx : w.heap.size + 1 ≠ x := by omega
    have nxb : x ≠ b := by omega
    have nbx : b ≠ x := by omega
    go_wp2_with fail
    go_quiet (fail)
    go_wp2_with fail
    go_region_held3 (fun w' => w'.cell? ⟨b, 0, none⟩ = some (.int .i64 k)) (first | (with_reducible assumption) | (with_reducible refine drew_cell ?_; assumption) | go_keep)
      (first | (go_at_call 54; refine (c54 x (2 + k) (c.get k) _ (by assumption) (by assumption) (by omega) (by omega)).mono ?_; rintro e w2 ⟨rfl, rfl⟩))
    go_wp2
    refine bodyPost_ret (v := .tuple #[.agg #[.int .i64 k, .int .i64 tt, .int .i64 s', .int .i64 d', .int .i64 t', .int .i64 n', .string x'], .int .i64 0]) ?_ ?_ ?_
    · simp [results, Try.results34, go_sem, y0, y1, y2, y3, y4, y5, y6, z0, z1, z2, z3, z4, z5, z6, nxz, nzx, nxb, nbx]
    · rfl
    · exact ⟨rfl, five_seven ((HA2.out.drewN _).count hk).1 (w.heap.size + 1) (by omega) (by omega) (by omega) _ _ _ _ _ _ _, keeps7 (((Keeps.below (HB.out.trans (HB2.out.mono HB.out.size))).drewN _).trans ((HA2.out.drewN _).count hk).2) (by omega) _ _ _ _ _ _ _⟩
set_option maxHeartbeats 1000000 in
theorem c34w {w : World} {x q r n f : Nat} {R L : List Pk} {me : Int} {c : Cn} (h : PAt w x q r n f R L me c) {m : Nat} (hc : c.le m) (hm : m ≤ 1000000) (s d t nn : Int) (xx : ByteArray) (next : Int) (ok : Bool) (hp : (⟨s, d, t, nn, xx⟩ : Pk).right = true) (hL : L.length < n)
    (hv : decide22 s d t nn xx me next ok = ⟨3, 0, s, d, t, nn, xx, 0⟩) :
    Calls Try.prog 34 #[.pointer (some ⟨x, 0, none⟩), .agg #[.int .i64 s, .int .i64 d, .int .i64 t, .int .i64 nn, .string xx], .int .i64 next, .bool ok] w fun e w' => e = .returned (.tuple #[.agg #[.int .i64 3, .int .i64 0, .int .i64 s, .int .i64 d, .int .i64 t, .int .i64 nn, .string xx], .int .i64 0]) ∧ (∃ R', PAt w' x q r n f R' (L ++ [⟨s, d, t, nn, xx⟩]) me (c.inc 3)) ∧ Keeps (InP x q r) w w' := by
  have HV := hidd hv
  have h0 := h.x0
  have HA := hidd h
  have hg : c.get 3 ≤ 1000000 := Nat.le_trans hc.l3 hm
  have HPR := hidd hp
  have HL := hidd hL
  clear hc hp hL
  obtain ⟨l0, l1, l2⟩ := h.lt
  clear h hv
  go_enter Try.func34, Try.ntmps34
  go_wp2_with fail
  generalize hW : World.alloc (World.alloc w _) _ = W
  have HB : Hid (Below w.heap.size w W) := hidd (hW ▸ Bl_alloc (Bl_alloc (Below.refl _ _) _) _)
  have hs : W.heap.size = w.heap.size + 1 + 1 := by rw [← hW]; simp
  have m0 : W.cell? ⟨x, 0, none⟩ = some (.int .i64 me) := by rw [← hW]; exact alloc_cell (alloc_cell h0)
  have m1 : W.cell? ⟨w.heap.size, 0, none⟩ = some (.int .i64 s) := by rw [← hW]; exact alloc_cell (cell_of_heap (heap_new w _) 0)
  have m2 : W.cell? ⟨w.heap.size, 1, none⟩ = some (.int .i64 d) := by rw [← hW]; exact alloc_cell (cell_of_heap (heap_new w _) 1)
  have m3 : W.cell? ⟨w.heap.size, 2, none⟩ = some (.int .i64 t) := by rw [← hW]; exact alloc_cell (cell_of_heap (heap_new w _) 2)
  have m4 : W.cell? ⟨w.heap.size, 3, none⟩ = some (.int .i64 nn) := by rw [← hW]; exact alloc_cell (cell_of_heap (heap_new w _) 3)
  have m5 : W.cell? ⟨w.heap.size, 4, none⟩ = some (.string xx) := by rw [← hW]; exact alloc_cell (cell_of_heap (heap_new w _) 4)
  have zp : W.heap[w.heap.size]? = some (.cells #[.int .i64 s, .int .i64 d, .int .i64 t, .int .i64 nn, .string xx] 23 (0, 0)) := by rw [← hW]; exact heap_alloc (heap_new w _) _
  have zr : W.heap[w.heap.size + 1]? = some (.cells #[.int .i64 0, .int .i64 0, .int .i64 0, .int .i64 0, .int .i64 0, .int .i64 0, .string ⟨#[]⟩] 25 (0, 0)) := by
    have := heap_new (w.alloc (.cells #[.int .i64 s, .int .i64 d, .int .i64 t, .int .i64 nn, .string xx] 23)) (.cells #[.int .i64 0, .int .i64 0, .int .i64 0, .int .i64 0, .int .i64 0, .int .i64 0, .string ⟨#[]⟩] 25)
    rw [← hW]; simpa using this
  have HZ := hidd zr
  have HP := hidd zp
  have HS := hidd hs
  have ls : w.heap.size + 1 < W.heap.size := by omega
  have lw : w.heap.size < W.heap.size := by omega
  have lx : x < W.heap.size := by omega
  have nx : W.heap.size ≠ x := by omega
  have nw : W.heap.size ≠ w.heap.size := by omega
  clear hW zr zp hs h0
  go_cut [10, 11] (fun p10 e11 wx => Vd W (3) (0) (s) (d) (t) (nn) (xx) 0 p10 e11 wx)
  case first =>
    go_region_held3 (fun w' => w'.cell? ⟨x, 0, none⟩ = some (.int .i64 me) ∧ w'.cell? ⟨w.heap.size, 0, none⟩ = some (.int .i64 s) ∧ w'.cell? ⟨w.heap.size, 1, none⟩ = some (.int .i64 d) ∧ w'.cell? ⟨w.heap.size, 2, none⟩ = some (.int .i64 t) ∧ w'.cell? ⟨w.heap.size, 3, none⟩ = some (.int .i64 nn) ∧ w'.cell? ⟨w.heap.size, 4, none⟩ = some (.string xx)) (refine ⟨?_, ?_, ?_, ?_, ?_, ?_⟩ <;> (repeat (first | with_reducible assumption | (with_reducible refine drew_cell ?_) | (with_reducible refine alloc_cell ?_) | (with_reducible refine setc_cell ?_ (by with_reducible assumption)))))
      (first | (go_at_call 14; refine (c14b _ _ _ _ _ _ _ _ _ _ _ _ _ _ _ _ _ HV.out).mono ?_; rintro e w2 ⟨rfl, hb⟩; (have t0 : w2.cell? ⟨x, 0, none⟩ = some (.int .i64 me) := (hb.cell (p := ⟨x, 0, none⟩) (by first | (simp; done) | (simp; omega))).trans (by first | exact m0 | (exact alloc_cell m0))); (have t1 : w2.cell? ⟨w.heap.size, 0, none⟩ = some (.int .i64 s) := (hb.cell (p := ⟨w.heap.size, 0, none⟩) (by first | (simp; done) | (simp; omega))).trans (by first | exact m1 | (exact alloc_cell m1))); (have t2 : w2.cell? ⟨w.heap.size, 1, none⟩ = some (.int .i64 d) := (hb.cell (p := ⟨w.heap.size, 1, none⟩) (by first | (simp; done) | (simp; omega))).trans (by first | exact m2 | (exact alloc_cell m2))); (have t3 : w2.cell? ⟨w.heap.size, 2, none⟩ = some (.int .i64 t) := (hb.cell (p := ⟨w.heap.size, 2, none⟩) (by first | (simp; done) | (simp; omega))).trans (by first | exact m3 | (exact alloc_cell m3))); (have t4 : w2.cell? ⟨w.heap.size, 3, none⟩ = some (.int .i64 nn) := (hb.cell (p := ⟨w.heap.size, 3, none⟩) (by first | (simp; done) | (simp; omega))).trans (by first | exact m4 | (exact alloc_cell m4))); (have t5 : w2.cell? ⟨w.heap.size, 4, none⟩ = some (.string xx) := (hb.cell (p := ⟨w.heap.size, 4, none⟩) (by first | (simp; done) | (simp; omega))).trans (by first | exact m5 | (exact alloc_cell m5))); (try (have hzz : W.heap.size < W.heap.size + 1 := (by omega); have zl := hb.size; have zc : w2.heap[W.heap.size]? = some (.cells #[.int .i64 0, .int .i64 0, .int .i64 0, .int .i64 0, .int .i64 0, .int .i64 0, .string ⟨#[]⟩] 25 (0, 0)) := (hb.block W.heap.size (by first | (simp; done))).trans (heap_new W _); (have z0 : w2.cell? ⟨W.heap.size, 0, none⟩ = some (.int .i64 0) := cell_of_heap zc 0); (have z1 : w2.cell? ⟨W.heap.size, 1, none⟩ = some (.int .i64 0) := cell_of_heap zc 1); (have z2 : w2.cell? ⟨W.heap.size, 2, none⟩ = some (.int .i64 0) := cell_of_heap zc 2); (have z3 : w2.cell? ⟨W.heap.size, 3, none⟩ = some (.int .i64 0) := cell_of_heap zc 3); (have z4 : w2.cell? ⟨W.heap.size, 4, none⟩ = some (.int .i64 0) := cell_of_heap zc 4); (have z5 : w2.cell? ⟨W.heap.size, 5, none⟩ = some (.int .i64 0) := cell_of_heap zc 5); (have z6 : w2.cell? ⟨W.heap.size, 6, none⟩ = some (.string ⟨#[]⟩) := cell_of_heap zc 6); (have f0 : w2.frozen? ⟨W.heap.size, 0, none⟩ = false := free_of_heap zc 0); (have f1 : w2.frozen? ⟨W.heap.size, 1, none⟩ = false := free_of_heap zc 1); (have f2 : w2.frozen? ⟨W.heap.size, 2, none⟩ = false := free_of_heap zc 2); (have f3 : w2.frozen? ⟨W.heap.size, 3, none⟩ = false := free_of_heap zc 3); (have f4 : w2.frozen? ⟨W.heap.size, 4, none⟩ = false := free_of_heap zc 4); (have f5 : w2.frozen? ⟨W.heap.size, 5, none⟩ = false := free_of_heap zc 5); (have f6 : w2.frozen? ⟨W.heap.size, 6, none⟩ = false := free_of_heap zc 6); (have HZC := hidd zc); clear zc)); (have HB2 := hidd hb); clear hb))
    all_goals (go_wp2_with fail; go_meet)
    · exact vd_one (Bl_drew HB2.out)
    · exact vd_two HZC.out HB2.out
  case rest =>
    obtain ⟨b, rfl, rfl, hz, hWb, hB2⟩ := hcut
    have HB2 := hidd hB2
    have HZ2 := hidd ((Keeps.below (S := fun _ => False) hB2).heapAt HZ.out (fun x => x))
    have HP2 := hidd ((Keeps.below (S := fun _ => False) hB2).heapAt HP.out (fun x => x))
    have HY := hidd hz
    have lb : b < wc.heap.size := (Array.getElem?_eq_some_iff.1 hz).1
    have lz : w.heap.size + 1 < wc.heap.size := (Array.getElem?_eq_some_iff.1 HZ2.out).1
    have nbz : b ≠ w.heap.size + 1 := by omega
    have nzb : w.heap.size + 1 ≠ b := by omega
    clear hz hB2 m0 m1 m2 m3 m4 m5
    have y0 : wc.cell? ⟨b, 0, none⟩ = some (.int .i64 3) := cell_of_heap HY.out 0
    have y1 : wc.cell? ⟨b, 1, none⟩ = some (.int .i64 0) := cell_of_heap HY.out 1
    have y2 : wc.cell? ⟨b, 2, none⟩ = some (.int .i64 s) := cell_of_heap HY.out 2
    have y3 : wc.cell? ⟨b, 3, none⟩ = some (.int .i64 d) := cell_of_heap HY.out 3
    have y4 : wc.cell? ⟨b, 4, none⟩ = some (.int .i64 t) := cell_of_heap HY.out 4
    have y5 : wc.cell? ⟨b, 5, none⟩ = some (.int .i64 nn) := cell_of_heap HY.out 5
    have y6 : wc.cell? ⟨b, 6, none⟩ = some (.string xx) := cell_of_heap HY.out 6
    have p0 : wc.cell? ⟨w.heap.size, 0, none⟩ = some (.int .i64 s) := cell_of_heap HP2.out 0
    have p1 : wc.cell? ⟨w.heap.size, 1, none⟩ = some (.int .i64 d) := cell_of_heap HP2.out 1
    have p2 : wc.cell? ⟨w.heap.size, 2, none⟩ = some (.int .i64 t) := cell_of_heap HP2.out 2
    have p3 : wc.cell? ⟨w.heap.size, 3, none⟩ = some (.int .i64 nn) := cell_of_heap HP2.out 3
    have p4 : wc.cell? ⟨w.heap.size, 4, none⟩ = some (.string xx) := cell_of_heap HP2.out 4
    have HA2 := hidd ((HA.out.below HB.out).below HB2.out)
    have x1 := HA2.out.x1
    have lxc : x < wc.heap.size := HA2.out.lt.1
    have lqc : q < wc.heap.size := HA2.out.lt.2.1
    have nxz : x ≠ w.heap.size + 1 := by omega
    have nzx : w.heap.size + 1 ≠ x := by omega
    have nxb : x ≠ b := by omega
    have nbx : b ≠ x := by omega
    have nbq : b ≠ q := by omega
    have nbr : b ≠ r := by omega
    have nzq : w.heap.size + 1 ≠ q := by omega
    have nzr : w.heap.size + 1 ≠ r := by omega
    have npq : w.heap.size ≠ q := by omega
    have npr : w.heap.size ≠ r := by omega
    go_wp2_with fail
    go_region_held3 (fun w' => w'.cell? ⟨b, 0, none⟩ = some (.int .i64 3) ∧ w'.cell? ⟨x, 1, none⟩ = some (.pointer (some ⟨q, 0, none⟩)) ∧ w'.cell? ⟨w.heap.size, 0, none⟩ = some (.int .i64 s) ∧ w'.cell? ⟨w.heap.size, 1, none⟩ = some (.int .i64 d) ∧ w'.cell? ⟨w.heap.size, 2, none⟩ = some (.int .i64 t) ∧ w'.cell? ⟨w.heap.size, 3, none⟩ = some (.int .i64 nn) ∧ w'.cell? ⟨w.heap.size, 4, none⟩ = some (.string xx)) (refine ⟨?_, ?_, ?_, ?_, ?_, ?_, ?_⟩ <;> (repeat (first | with_reducible assumption | (with_reducible refine drew_cell ?_) | (with_reducible refine alloc_cell ?_))))
      (first | (go_at_call 20; refine (c20g (HA2.out.hQ.below (by repeat (first | exact Below.refl _ _ | refine Bl_alloc ?_ _ | refine Below.drewN ?_ _ | refine Below.drew ?_))) ⟨s, d, t, nn, xx⟩ HPR.out HL.out).mono ?_; rintro e w3 ⟨rfl, hQ3, hK3⟩; (have HK3 := hidd (hK3.of_below (a := wc) (by repeat (first | exact Below.refl _ _ | refine Bl_alloc ?_ _ | refine Below.drewN ?_ _ | refine Below.drew ?_)))); (have HY3 := hidd (HK3.out.heapAt HY.out (by rintro (h | h) <;> omega))); (have HZ3 := hidd (HK3.out.heapAt HZ2.out (by rintro (h | h) <;> omega))); (have HX3 := hidd (HK3.out.heapAt HA2.out.hx (by rintro (h | h); exact HA2.out.nq h; exact HA2.out.nr h))); (have HP3 := hidd (HK3.out.heapAt HP2.out (by rintro (h | h) <;> omega))); (have HQ3 := hidd hQ3); (have t0 : w3.cell? ⟨b, 0, none⟩ = some (.int .i64 3) := cell_of_heap HY3.out 0); (have t1 : w3.cell? ⟨b, 1, none⟩ = some (.int .i64 0) := cell_of_heap HY3.out 1); (have t2 : w3.cell? ⟨b, 2, none⟩ = some (.int .i64 s) := cell_of_heap HY3.out 2); (have t3 : w3.cell? ⟨b, 3, none⟩ = some (.int .i64 d) := cell_of_heap HY3.out 3); (have t4 : w3.cell? ⟨b, 4, none⟩ = some (.int .i64 t) := cell_of_heap HY3.out 4); (have t5 : w3.cell? ⟨b, 5, none⟩ = some (.int .i64 nn) := cell_of_heap HY3.out 5); (have t6 : w3.cell? ⟨b, 6, none⟩ = some (.string xx) := cell_of_heap HY3.out 6); (have tx : w3.cell? ⟨x, 1, none⟩ = some (.pointer (some ⟨q, 0, none⟩)) := cell_of_heap HX3.out 1); (have q0 : w3.cell? ⟨w.heap.size, 0, none⟩ = some (.int .i64 s) := cell_of_heap HP3.out 0); (have q1 : w3.cell? ⟨w.heap.size, 1, none⟩ = some (.int .i64 d) := cell_of_heap HP3.out 1); (have q2 : w3.cell? ⟨w.heap.size, 2, none⟩ = some (.int .i64 t) := cell_of_heap HP3.out 2); (have q3 : w3.cell? ⟨w.heap.size, 3, none⟩ = some (.int .i64 nn) := cell_of_heap HP3.out 3); (have q4 : w3.cell? ⟨w.heap.size, 4, none⟩ = some (.string xx) := cell_of_heap HP3.out 4); clear hK3 hQ3))
    have lzc : w.heap.size + 1 < w3.heap.size := (Array.getElem?_eq_some_iff.1 HZ3.out).1
    have lbc : b < w3.heap.size := (Array.getElem?_eq_some_iff.1 HY3.out).1
    have lxd : x < w3.heap.size := (Array.getElem?_eq_some_iff.1 HX3.out).1
    have x2 : w3.cell? ⟨x, 5, none⟩ = some (.int .i64 c.c3) := cell_of_heap HX3.out 5
    have xf := free_of_heap HX3.out 5
    have z0 : w3.cell? ⟨w.heap.size + 1, 0, none⟩ = some (.int .i64 0) := cell_of_heap HZ3.out 0
    have zf0 : w3.frozen? ⟨w.heap.size + 1, 0, none⟩ = false := free_of_heap HZ3.out 0
    have z1 : w3.cell? ⟨w.heap.size + 1, 1, none⟩ = some (.int .i64 0) := cell_of_heap HZ3.out 1
    have zf1 : w3.frozen? ⟨w.heap.size + 1, 1, none⟩ = false := free_of_heap HZ3.out 1
    have z2 : w3.cell? ⟨w.heap.size + 1, 2, none⟩ = some (.int .i64 0) := cell_of_heap HZ3.out 2
    have zf2 : w3.frozen? ⟨w.heap.size + 1, 2, none⟩ = false := free_of_heap HZ3.out 2
    have z3 : w3.cell? ⟨w.heap.size + 1, 3, none⟩ = some (.int .i64 0) := cell_of_heap HZ3.out 3
    have zf3 : w3.frozen? ⟨w.heap.size + 1, 3, none⟩ = false := free_of_heap HZ3.out 3
    have z4 : w3.cell? ⟨w.heap.size + 1, 4, none⟩ = some (.int .i64 0) := cell_of_heap HZ3.out 4
    have zf4 : w3.frozen? ⟨w.heap.size + 1, 4, none⟩ = false := free_of_heap HZ3.out 4
    have z5 : w3.cell? ⟨w.heap.size + 1, 5, none⟩ = some (.int .i64 0) := cell_of_heap HZ3.out 5
    have zf5 : w3.frozen? ⟨w.heap.size + 1, 5, none⟩ = false := free_of_heap HZ3.out 5
    have z6 : w3.cell? ⟨w.heap.size + 1, 6, none⟩ = some (.string ⟨#[]⟩) := cell_of_heap HZ3.out 6
    have zf6 : w3.frozen? ⟨w.heap.size + 1, 6, none⟩ = false := free_of_heap HZ3.out 6
    have HA3 : Hid (PAt w3 x q r n f _ _ me c) := hidd ⟨HX3.out, HQ3.out, HA.out.nq, HA.out.nr⟩
    go_wp2_with fail
    have HK4 : Hid (Keeps (InP x q r) w w3) := hidd ((Keeps.below (HB.out.trans (HB2.out.mono HB.out.size))).trans (HK3.out.mono (fun _ _ h => .inr h)))
    go_region_held3 (fun w' => w'.cell? ⟨b, 0, none⟩ = some (.int .i64 3)) (first | (with_reducible assumption) | (with_reducible refine drew_cell ?_; assumption) | go_keep)
      (first | (go_at_call 54; refine (c54 x 5 (c.get 3) _ (by assumption) (by assumption) (by omega) (by omega)).mono ?_; rintro e w5 ⟨rfl, rfl⟩))
    go_wp2
    refine bodyPost_ret (v := .tuple #[.agg #[.int .i64 3, .int .i64 0, .int .i64 s, .int .i64 d, .int .i64 t, .int .i64 nn, .string xx], .int .i64 0]) ?_ ?_ ?_
    · simp [results, Try.results34, go_sem, t0, t1, t2, t3, t4, t5, t6, z0, z1, z2, z3, z4, z5, z6, nxz, nzx, nxb, nbx]
    · rfl
    · exact ⟨rfl, ⟨_, (five_seven (HA3.out.count (k := 3) (by omega)).1 (w.heap.size + 1) (by omega) (by omega) (by omega) _ _ _ _ _ _ _).drew⟩, (keeps7 (HK4.out.trans (HA3.out.count (k := 3) (by omega)).2) (by omega) _ _ _ _ _ _ _).drew⟩
set_option maxHeartbeats 1000000 in
theorem c34f {w : World} {x q r n f : Nat} {R L : List Pk} {me : Int} {c : Cn} (h : PAt w x q r n f R L me c) {m : Nat} (hc : c.le m) (hm : m ≤ 1000000) (s d t nn : Int) (xx : ByteArray) (next : Int) (ok : Bool) (hp : (⟨s, d, t, nn, xx⟩ : Pk).right = true) (hL : L.length = n)
    (hv : decide22 s d t nn xx me next ok = ⟨3, 0, s, d, t, nn, xx, 0⟩) :
    Calls Try.prog 34 #[.pointer (some ⟨x, 0, none⟩), .agg #[.int .i64 s, .int .i64 d, .int .i64 t, .int .i64 nn, .string xx], .int .i64 next, .bool ok] w fun e w' => e = .returned (.tuple #[.agg #[.int .i64 5, .int .i64 0, .int .i64 s, .int .i64 d, .int .i64 t, .int .i64 nn, .string xx], .int .i64 0]) ∧ PAt w' x q r n f R L me (c.inc 5) ∧ Keeps (InP x q r) w w' := by
  have HV := hidd hv
  have h0 := h.x0
  have HA := hidd h
  have hg : c.get 5 ≤ 1000000 := Nat.le_trans hc.l5 hm
  have HPR := hidd hp
  have HL := hidd hL
  clear hc hp hL
  obtain ⟨l0, l1, l2⟩ := h.lt
  clear h hv
  go_enter Try.func34, Try.ntmps34
  go_wp2_with fail
  generalize hW : World.alloc (World.alloc w _) _ = W
  have HB : Hid (Below w.heap.size w W) := hidd (hW ▸ Bl_alloc (Bl_alloc (Below.refl _ _) _) _)
  have hs : W.heap.size = w.heap.size + 1 + 1 := by rw [← hW]; simp
  have m0 : W.cell? ⟨x, 0, none⟩ = some (.int .i64 me) := by rw [← hW]; exact alloc_cell (alloc_cell h0)
  have m1 : W.cell? ⟨w.heap.size, 0, none⟩ = some (.int .i64 s) := by rw [← hW]; exact alloc_cell (cell_of_heap (heap_new w _) 0)
  have m2 : W.cell? ⟨w.heap.size, 1, none⟩ = some (.int .i64 d) := by rw [← hW]; exact alloc_cell (cell_of_heap (heap_new w _) 1)
  have m3 : W.cell? ⟨w.heap.size, 2, none⟩ = some (.int .i64 t) := by rw [← hW]; exact alloc_cell (cell_of_heap (heap_new w _) 2)
  have m4 : W.cell? ⟨w.heap.size, 3, none⟩ = some (.int .i64 nn) := by rw [← hW]; exact alloc_cell (cell_of_heap (heap_new w _) 3)
  have m5 : W.cell? ⟨w.heap.size, 4, none⟩ = some (.string xx) := by rw [← hW]; exact alloc_cell (cell_of_heap (heap_new w _) 4)
  have zp : W.heap[w.heap.size]? = some (.cells #[.int .i64 s, .int .i64 d, .int .i64 t, .int .i64 nn, .string xx] 23 (0, 0)) := by rw [← hW]; exact heap_alloc (heap_new w _) _
  have zr : W.heap[w.heap.size + 1]? = some (.cells #[.int .i64 0, .int .i64 0, .int .i64 0, .int .i64 0, .int .i64 0, .int .i64 0, .string ⟨#[]⟩] 25 (0, 0)) := by
    have := heap_new (w.alloc (.cells #[.int .i64 s, .int .i64 d, .int .i64 t, .int .i64 nn, .string xx] 23)) (.cells #[.int .i64 0, .int .i64 0, .int .i64 0, .int .i64 0, .int .i64 0, .int .i64 0, .string ⟨#[]⟩] 25)
    rw [← hW]; simpa using this
  have HZ := hidd zr
  have HP := hidd zp
  have HS := hidd hs
  have ls : w.heap.size + 1 < W.heap.size := by omega
  have lw : w.heap.size < W.heap.size := by omega
  have lx : x < W.heap.size := by omega
  have nx : W.heap.size ≠ x := by omega
  have nw : W.heap.size ≠ w.heap.size := by omega
  clear hW zr zp hs h0
  go_cut [10, 11] (fun p10 e11 wx => Vd W (3) (0) (s) (d) (t) (nn) (xx) 0 p10 e11 wx)
  case first =>
    go_region_held3 (fun w' => w'.cell? ⟨x, 0, none⟩ = some (.int .i64 me) ∧ w'.cell? ⟨w.heap.size, 0, none⟩ = some (.int .i64 s) ∧ w'.cell? ⟨w.heap.size, 1, none⟩ = some (.int .i64 d) ∧ w'.cell? ⟨w.heap.size, 2, none⟩ = some (.int .i64 t) ∧ w'.cell? ⟨w.heap.size, 3, none⟩ = some (.int .i64 nn) ∧ w'.cell? ⟨w.heap.size, 4, none⟩ = some (.string xx)) (refine ⟨?_, ?_, ?_, ?_, ?_, ?_⟩ <;> (repeat (first | with_reducible assumption | (with_reducible refine drew_cell ?_) | (with_reducible refine alloc_cell ?_) | (with_reducible refine setc_cell ?_ (by with_reducible assumption)))))
      (first | (go_at_call 14; refine (c14b _ _ _ _ _ _ _ _ _ _ _ _ _ _ _ _ _ HV.out).mono ?_; rintro e w2 ⟨rfl, hb⟩; (have t0 : w2.cell? ⟨x, 0, none⟩ = some (.int .i64 me) := (hb.cell (p := ⟨x, 0, none⟩) (by first | (simp; done) | (simp; omega))).trans (by first | exact m0 | (exact alloc_cell m0))); (have t1 : w2.cell? ⟨w.heap.size, 0, none⟩ = some (.int .i64 s) := (hb.cell (p := ⟨w.heap.size, 0, none⟩) (by first | (simp; done) | (simp; omega))).trans (by first | exact m1 | (exact alloc_cell m1))); (have t2 : w2.cell? ⟨w.heap.size, 1, none⟩ = some (.int .i64 d) := (hb.cell (p := ⟨w.heap.size, 1, none⟩) (by first | (simp; done) | (simp; omega))).trans (by first | exact m2 | (exact alloc_cell m2))); (have t3 : w2.cell? ⟨w.heap.size, 2, none⟩ = some (.int .i64 t) := (hb.cell (p := ⟨w.heap.size, 2, none⟩) (by first | (simp; done) | (simp; omega))).trans (by first | exact m3 | (exact alloc_cell m3))); (have t4 : w2.cell? ⟨w.heap.size, 3, none⟩ = some (.int .i64 nn) := (hb.cell (p := ⟨w.heap.size, 3, none⟩) (by first | (simp; done) | (simp; omega))).trans (by first | exact m4 | (exact alloc_cell m4))); (have t5 : w2.cell? ⟨w.heap.size, 4, none⟩ = some (.string xx) := (hb.cell (p := ⟨w.heap.size, 4, none⟩) (by first | (simp; done) | (simp; omega))).trans (by first | exact m5 | (exact alloc_cell m5))); (try (have hzz : W.heap.size < W.heap.size + 1 := (by omega); have zl := hb.size; have zc : w2.heap[W.heap.size]? = some (.cells #[.int .i64 0, .int .i64 0, .int .i64 0, .int .i64 0, .int .i64 0, .int .i64 0, .string ⟨#[]⟩] 25 (0, 0)) := (hb.block W.heap.size (by first | (simp; done))).trans (heap_new W _); (have z0 : w2.cell? ⟨W.heap.size, 0, none⟩ = some (.int .i64 0) := cell_of_heap zc 0); (have z1 : w2.cell? ⟨W.heap.size, 1, none⟩ = some (.int .i64 0) := cell_of_heap zc 1); (have z2 : w2.cell? ⟨W.heap.size, 2, none⟩ = some (.int .i64 0) := cell_of_heap zc 2); (have z3 : w2.cell? ⟨W.heap.size, 3, none⟩ = some (.int .i64 0) := cell_of_heap zc 3); (have z4 : w2.cell? ⟨W.heap.size, 4, none⟩ = some (.int .i64 0) := cell_of_heap zc 4); (have z5 : w2.cell? ⟨W.heap.size, 5, none⟩ = some (.int .i64 0) := cell_of_heap zc 5); (have z6 : w2.cell? ⟨W.heap.size, 6, none⟩ = some (.string ⟨#[]⟩) := cell_of_heap zc 6); (have f0 : w2.frozen? ⟨W.heap.size, 0, none⟩ = false := free_of_heap zc 0); (have f1 : w2.frozen? ⟨W.heap.size, 1, none⟩ = false := free_of_heap zc 1); (have f2 : w2.frozen? ⟨W.heap.size, 2, none⟩ = false := free_of_heap zc 2); (have f3 : w2.frozen? ⟨W.heap.size, 3, none⟩ = false := free_of_heap zc 3); (have f4 : w2.frozen? ⟨W.heap.size, 4, none⟩ = false := free_of_heap zc 4); (have f5 : w2.frozen? ⟨W.heap.size, 5, none⟩ = false := free_of_heap zc 5); (have f6 : w2.frozen? ⟨W.heap.size, 6, none⟩ = false := free_of_heap zc 6); (have HZC := hidd zc); clear zc)); (have HB2 := hidd hb); clear hb))
    all_goals (go_wp2_with fail; go_meet)
    · exact vd_one (Bl_drew HB2.out)
    · exact vd_two HZC.out HB2.out
  case rest =>
    obtain ⟨b, rfl, rfl, hz, hWb, hB2⟩ := hcut
    have HB2 := hidd hB2
    have HZ2 := hidd ((Keeps.below (S := fun _ => False) hB2).heapAt HZ.out (fun x => x))
    have HP2 := hidd ((Keeps.below (S := fun _ => False) hB2).heapAt HP.out (fun x => x))
    have HY := hidd hz
    have lb : b < wc.heap.size := (Array.getElem?_eq_some_iff.1 hz).1
    have lz : w.heap.size + 1 < wc.heap.size := (Array.getElem?_eq_some_iff.1 HZ2.out).1
    have nbz : b ≠ w.heap.size + 1 := by omega
    have nzb : w.heap.size + 1 ≠ b := by omega
    clear hz hB2 m0 m1 m2 m3 m4 m5
    have y0 : wc.cell? ⟨b, 0, none⟩ = some (.int .i64 3) := cell_of_heap HY.out 0
    have y1 : wc.cell? ⟨b, 1, none⟩ = some (.int .i64 0) := cell_of_heap HY.out 1
    have y2 : wc.cell? ⟨b, 2, none⟩ = some (.int .i64 s) := cell_of_heap HY.out 2
    have y3 : wc.cell? ⟨b, 3, none⟩ = some (.int .i64 d) := cell_of_heap HY.out 3
    have y4 : wc.cell? ⟨b, 4, none⟩ = some (.int .i64 t) := cell_of_heap HY.out 4
    have y5 : wc.cell? ⟨b, 5, none⟩ = some (.int .i64 nn) := cell_of_heap HY.out 5
    have y6 : wc.cell? ⟨b, 6, none⟩ = some (.string xx) := cell_of_heap HY.out 6
    have p0 : wc.cell? ⟨w.heap.size, 0, none⟩ = some (.int .i64 s) := cell_of_heap HP2.out 0
    have p1 : wc.cell? ⟨w.heap.size, 1, none⟩ = some (.int .i64 d) := cell_of_heap HP2.out 1
    have p2 : wc.cell? ⟨w.heap.size, 2, none⟩ = some (.int .i64 t) := cell_of_heap HP2.out 2
    have p3 : wc.cell? ⟨w.heap.size, 3, none⟩ = some (.int .i64 nn) := cell_of_heap HP2.out 3
    have p4 : wc.cell? ⟨w.heap.size, 4, none⟩ = some (.string xx) := cell_of_heap HP2.out 4
    have HA2 := hidd ((HA.out.below HB.out).below HB2.out)
    have x1 := HA2.out.x1
    have lxc : x < wc.heap.size := HA2.out.lt.1
    have lqc : q < wc.heap.size := HA2.out.lt.2.1
    have nxz : x ≠ w.heap.size + 1 := by omega
    have nzx : w.heap.size + 1 ≠ x := by omega
    have nxb : x ≠ b := by omega
    have nbx : b ≠ x := by omega
    have nbq : b ≠ q := by omega
    have nbr : b ≠ r := by omega
    have nzq : w.heap.size + 1 ≠ q := by omega
    have nzr : w.heap.size + 1 ≠ r := by omega
    have npq : w.heap.size ≠ q := by omega
    have npr : w.heap.size ≠ r := by omega
    go_wp2_with fail
    go_region_held3 (fun w' => w'.cell? ⟨b, 0, none⟩ = some (.int .i64 3) ∧ w'.cell? ⟨x, 1, none⟩ = some (.pointer (some ⟨q, 0, none⟩)) ∧ w'.cell? ⟨w.heap.size, 0, none⟩ = some (.int .i64 s) ∧ w'.cell? ⟨w.heap.size, 1, none⟩ = some (.int .i64 d) ∧ w'.cell? ⟨w.heap.size, 2, none⟩ = some (.int .i64 t) ∧ w'.cell? ⟨w.heap.size, 3, none⟩ = some (.int .i64 nn) ∧ w'.cell? ⟨w.heap.size, 4, none⟩ = some (.string xx)) (refine ⟨?_, ?_, ?_, ?_, ?_, ?_, ?_⟩ <;> (repeat (first | with_reducible assumption | (with_reducible refine drew_cell ?_) | (with_reducible refine alloc_cell ?_))))
      (first | (go_at_call 20; refine (c20f (HA2.out.hQ.below (by repeat (first | exact Below.refl _ _ | refine Bl_alloc ?_ _ | refine Below.drewN ?_ _ | refine Below.drew ?_))) ⟨s, d, t, nn, xx⟩ HPR.out HL.out).mono ?_; rintro e w3 ⟨rfl, hB3⟩; (have hK3 := Keeps.below (S := InQ q r) hB3); (have hQ3 : QAt w3 q r n f R L := (HA2.out.hQ.below (w' := _) (by repeat (first | exact Below.refl _ _ | refine Bl_alloc ?_ _ | refine Below.drewN ?_ _ | refine Below.drew ?_))).below hB3); (have HK3 := hidd (hK3.of_below (a := wc) (by repeat (first | exact Below.refl _ _ | refine Bl_alloc ?_ _ | refine Below.drewN ?_ _ | refine Below.drew ?_)))); (have HY3 := hidd (HK3.out.heapAt HY.out (by rintro (h | h) <;> omega))); (have HZ3 := hidd (HK3.out.heapAt HZ2.out (by rintro (h | h) <;> omega))); (have HX3 := hidd (HK3.out.heapAt HA2.out.hx (by rintro (h | h); exact HA2.out.nq h; exact HA2.out.nr h))); (have HP3 := hidd (HK3.out.heapAt HP2.out (by rintro (h | h) <;> omega))); (have HQ3 := hidd hQ3); (have t0 : w3.cell? ⟨b, 0, none⟩ = some (.int .i64 3) := cell_of_heap HY3.out 0); (have t1 : w3.cell? ⟨b, 1, none⟩ = some (.int .i64 0) := cell_of_heap HY3.out 1); (have t2 : w3.cell? ⟨b, 2, none⟩ = some (.int .i64 s) := cell_of_heap HY3.out 2); (have t3 : w3.cell? ⟨b, 3, none⟩ = some (.int .i64 d) := cell_of_heap HY3.out 3); (have t4 : w3.cell? ⟨b, 4, none⟩ = some (.int .i64 t) := cell_of_heap HY3.out 4); (have t5 : w3.cell? ⟨b, 5, none⟩ = some (.int .i64 nn) := cell_of_heap HY3.out 5); (have t6 : w3.cell? ⟨b, 6, none⟩ = some (.string xx) := cell_of_heap HY3.out 6); (have tx : w3.cell? ⟨x, 1, none⟩ = some (.pointer (some ⟨q, 0, none⟩)) := cell_of_heap HX3.out 1); (have q0 : w3.cell? ⟨w.heap.size, 0, none⟩ = some (.int .i64 s) := cell_of_heap HP3.out 0); (have q1 : w3.cell? ⟨w.heap.size, 1, none⟩ = some (.int .i64 d) := cell_of_heap HP3.out 1); (have q2 : w3.cell? ⟨w.heap.size, 2, none⟩ = some (.int .i64 t) := cell_of_heap HP3.out 2); (have q3 : w3.cell? ⟨w.heap.size, 3, none⟩ = some (.int .i64 nn) := cell_of_heap HP3.out 3); (have q4 : w3.cell? ⟨w.heap.size, 4, none⟩ = some (.string xx) := cell_of_heap HP3.out 4); clear hK3 hQ3))
    have lzc : w.heap.size + 1 < w3.heap.size := (Array.getElem?_eq_some_iff.1 HZ3.out).1
    have lbc : b < w3.heap.size := (Array.getElem?_eq_some_iff.1 HY3.out).1
    have lxd : x < w3.heap.size := (Array.getElem?_eq_some_iff.1 HX3.out).1
    have x2 : w3.cell? ⟨x, 7, none⟩ = some (.int .i64 c.c5) := cell_of_heap HX3.out 7
    have xf := free_of_heap HX3.out 7
    have z0 : w3.cell? ⟨w.heap.size + 1, 0, none⟩ = some (.int .i64 0) := cell_of_heap HZ3.out 0
    have zf0 : w3.frozen? ⟨w.heap.size + 1, 0, none⟩ = false := free_of_heap HZ3.out 0
    have z1 : w3.cell? ⟨w.heap.size + 1, 1, none⟩ = some (.int .i64 0) := cell_of_heap HZ3.out 1
    have zf1 : w3.frozen? ⟨w.heap.size + 1, 1, none⟩ = false := free_of_heap HZ3.out 1
    have z2 : w3.cell? ⟨w.heap.size + 1, 2, none⟩ = some (.int .i64 0) := cell_of_heap HZ3.out 2
    have zf2 : w3.frozen? ⟨w.heap.size + 1, 2, none⟩ = false := free_of_heap HZ3.out 2
    have z3 : w3.cell? ⟨w.heap.size + 1, 3, none⟩ = some (.int .i64 0) := cell_of_heap HZ3.out 3
    have zf3 : w3.frozen? ⟨w.heap.size + 1, 3, none⟩ = false := free_of_heap HZ3.out 3
    have z4 : w3.cell? ⟨w.heap.size + 1, 4, none⟩ = some (.int .i64 0) := cell_of_heap HZ3.out 4
    have zf4 : w3.frozen? ⟨w.heap.size + 1, 4, none⟩ = false := free_of_heap HZ3.out 4
    have z5 : w3.cell? ⟨w.heap.size + 1, 5, none⟩ = some (.int .i64 0) := cell_of_heap HZ3.out 5
    have zf5 : w3.frozen? ⟨w.heap.size + 1, 5, none⟩ = false := free_of_heap HZ3.out 5
    have z6 : w3.cell? ⟨w.heap.size + 1, 6, none⟩ = some (.string ⟨#[]⟩) := cell_of_heap HZ3.out 6
    have zf6 : w3.frozen? ⟨w.heap.size + 1, 6, none⟩ = false := free_of_heap HZ3.out 6
    have bf := free_of_heap HY3.out 0
    have HA3 : Hid (PAt w3 x q r n f _ _ me c) := hidd ⟨HX3.out, HQ3.out, HA.out.nq, HA.out.nr⟩
    go_wp2_with fail
    go_upto_region 8 with fail
    clear t0 t1 t2 t3 t4 t5 t6 z0 z1 z2 z3 z4 z5 z6 zf0 zf1 zf2 zf3 zf4 zf5 zf6 x2 xf
    generalize hw4 : World.setCell w3 _ _ = w4
    have HA4 : Hid (PAt w4 x q r n f R L me c) := hidd (hw4 ▸ HA3.out.keeps ((Keeps.refl (fun g => g = b) w3).setCell (.inr rfl) _) nxb (Ne.symm nbq) (Ne.symm nbr))
    have HK4 : Hid (Keeps (InP x q r) w w4) := hidd (hw4 ▸ ((Keeps.below (HB.out.trans (HB2.out.mono HB.out.size))).trans (HK3.out.mono (fun _ _ h => .inr h))).setCell (.inl (show w.heap.size ≤ b by omega)) _)
    have HY4 : Hid (w4.heap[b]? = some (.cells #[.int .i64 5, .int .i64 0, .int .i64 s, .int .i64 d, .int .i64 t, .int .i64 nn, .string xx] 25 (0, 0))) := hidd (hw4 ▸ heap_set HY3.out 0 (.int .i64 5))
    have HZ4 : Hid (w4.heap[w.heap.size + 1]? = some (.cells #[.int .i64 0, .int .i64 0, .int .i64 0, .int .i64 0, .int .i64 0, .int .i64 0, .string ⟨#[]⟩] 25 (0, 0))) := hidd (hw4 ▸ heap_set_ne HZ3.out (by omega) _ _)
    have lw4 : w4.heap.size = w3.heap.size := by rw [← hw4]; simp [World.setCell]
    clear hw4
    have x2 : w4.cell? ⟨x, 7, none⟩ = some (.int .i64 c.c5) := HA4.out.cnt (k := 5) (by omega)
    have xf := free_of_heap HA4.out.hx 7
    have lxe : x < w4.heap.size := HA4.out.lt.1
    have lbe : b < w4.heap.size := by omega
    have lze : w.heap.size + 1 < w4.heap.size := by omega
    have t0 : w4.cell? ⟨b, 0, none⟩ = some (.int .i64 5) := cell_of_heap HY4.out 0
    have t1 : w4.cell? ⟨b, 1, none⟩ = some (.int .i64 0) := cell_of_heap HY4.out 1
    have t2 : w4.cell? ⟨b, 2, none⟩ = some (.int .i64 s) := cell_of_heap HY4.out 2
    have t3 : w4.cell? ⟨b, 3, none⟩ = some (.int .i64 d) := cell_of_heap HY4.out 3
    have t4 : w4.cell? ⟨b, 4, none⟩ = some (.int .i64 t) := cell_of_heap HY4.out 4
    have t5 : w4.cell? ⟨b, 5, none⟩ = some (.int .i64 nn) := cell_of_heap HY4.out 5
    have t6 : w4.cell? ⟨b, 6, none⟩ = some (.string xx) := cell_of_heap HY4.out 6
    have z0 : w4.cell? ⟨w.heap.size + 1, 0, none⟩ = some (.int .i64 0) := cell_of_heap HZ4.out 0
    have zf0 : w4.frozen? ⟨w.heap.size + 1, 0, none⟩ = false := free_of_heap HZ4.out 0
    have z1 : w4.cell? ⟨w.heap.size + 1, 1, none⟩ = some (.int .i64 0) := cell_of_heap HZ4.out 1
    have zf1 : w4.frozen? ⟨w.heap.size + 1, 1, none⟩ = false := free_of_heap HZ4.out 1
    have z2 : w4.cell? ⟨w.heap.size + 1, 2, none⟩ = some (.int .i64 0) := cell_of_heap HZ4.out 2
    have zf2 : w4.frozen? ⟨w.heap.size + 1, 2, none⟩ = false := free_of_heap HZ4.out 2
    have z3 : w4.cell? ⟨w.heap.size + 1, 3, none⟩ = some (.int .i64 0) := cell_of_heap HZ4.out 3
    have zf3 : w4.frozen? ⟨w.heap.size + 1, 3, none⟩ = false := free_of_heap HZ4.out 3
    have z4 : w4.cell? ⟨w.heap.size + 1, 4, none⟩ = some (.int .i64 0) := cell_of_heap HZ4.out 4
    have zf4 : w4.frozen? ⟨w.heap.size + 1, 4, none⟩ = false := free_of_heap HZ4.out 4
    have z5 : w4.cell? ⟨w.heap.size + 1, 5, none⟩ = some (.int .i64 0) := cell_of_heap HZ4.out 5
    have zf5 : w4.frozen? ⟨w.heap.size + 1, 5, none⟩ = false := free_of_heap HZ4.out 5
    have z6 : w4.cell? ⟨w.heap.size + 1, 6, none⟩ = some (.string ⟨#[]⟩) := cell_of_heap HZ4.out 6
    have zf6 : w4.frozen? ⟨w.heap.size + 1, 6, none⟩ = false := free_of_heap HZ4.out 6
    go_region_held3 (fun w' => w'.cell? ⟨b, 0, none⟩ = some (.int .i64 5)) (first | (with_reducible assumption) | (with_reducible refine drew_cell ?_; assumption) | go_keep)
      (first | (go_at_call 54; refine (c54 x 7 (c.get 5) _ (by assumption) (by assumption) (by omega) (by omega)).mono ?_; rintro e w5 ⟨rfl, rfl⟩))
    go_wp2
    refine bodyPost_ret (v := .tuple #[.agg #[.int .i64 5, .int .i64 0, .int .i64 s, .int .i64 d, .int .i64 t, .int .i64 nn, .string xx], .int .i64 0]) ?_ ?_ ?_
    · simp [results, Try.results34, go_sem, t0, t1, t2, t3, t4, t5, t6, z0, z1, z2, z3, z4, z5, z6, nxz, nzx, nxb, nbx]
    · rfl
    · exact ⟨rfl, (five_seven (HA4.out.count (k := 5) (by omega)).1 (w.heap.size + 1) (by omega) (by omega) (by omega) _ _ _ _ _ _ _).drew, (keeps7 (HK4.out.trans (HA4.out.count (k := 5) (by omega)).2) (by omega) _ _ _ _ _ _ _).drew⟩
def decP (p : Pk) (me next : Int) (ok : Bool) : Ver := decide22 p.s p.d p.t p.n p.x me next ok
theorem dec_cases (s d t n : Int) (x : ByteArray) (me next : Int) (ok : Bool) :
    decide22 s d t n x me next ok = ⟨0, 0, 0, 0, 0, 0, ⟨#[]⟩, 1⟩ ∨ ((⟨s, d, t, n, x⟩ : Pk).right = true ∧ decide22 s d t n x me next ok = ⟨3, 0, s, d, t, n, x, 0⟩) ∨
      (∃ (k : Nat) (tt t' : Int), k < 6 ∧ k ≠ 3 ∧ k ≠ 5 ∧ k ≠ 0 ∧ (⟨s, d, t, n, x⟩ : Pk).right = true ∧ decide22 s d t n x me next ok = ⟨k, tt, s, d, t', n, x, 0⟩) := by
  unfold decide22 Pk.right
  cases hr : rightB s d t n x && nodeB me && !(ok && (!nodeB next || next == me)) with
  | false => exact .inl rfl
  | true =>
    simp only [Bool.and_eq_true] at hr
    simp only [cond_true]
    cases d == me with
    | true => exact .inr (.inr ⟨1, 0, t, by omega, by omega, by omega, by omega, hr.1.1, rfl⟩)
    | false =>
      cases ok with
      | false => exact .inr (.inl ⟨hr.1.1, rfl⟩)
      | true =>
        cases t == 0 with
        | true => exact .inr (.inr ⟨4, 0, t, by omega, by omega, by omega, by omega, hr.1.1, rfl⟩)
        | false => exact .inr (.inr ⟨2, next, t - 1, by omega, by omega, by omega, by omega, hr.1.1, rfl⟩)
def takeV (n : Nat) (L : List Pk) (p : Pk) (me next : Int) (ok : Bool) : Ver :=
  if (decP p me next ok).err = 0 ∧ (decP p me next ok).kind = 3 ∧ L.length = n then { decP p me next ok with kind := 5 } else decP p me next ok
def takeL (n : Nat) (L : List Pk) (p : Pk) (me next : Int) (ok : Bool) : List Pk :=
  if (decP p me next ok).err = 0 ∧ (decP p me next ok).kind = 3 ∧ ¬ L.length = n then L ++ [p] else L
def takeC (c : Cn) (n : Nat) (L : List Pk) (p : Pk) (me next : Int) (ok : Bool) : Cn :=
  if (decP p me next ok).err = 0 then c.inc (takeV n L p me next ok).kind else c
theorem take_none {p : Pk} {me next : Int} {ok : Bool} (n : Nat) (L : List Pk) (c : Cn) (h : decP p me next ok = ⟨0, 0, 0, 0, 0, 0, ⟨#[]⟩, 1⟩) : takeV n L p me next ok = ⟨0, 0, 0, 0, 0, 0, ⟨#[]⟩, 1⟩ ∧ takeL n L p me next ok = L ∧ takeC c n L p me next ok = c := by
  simp [takeV, takeL, takeC, h]
theorem take_full {p : Pk} {me next : Int} {ok : Bool} {n : Nat} {L : List Pk} (c : Cn) (h : decP p me next ok = ⟨3, 0, p.s, p.d, p.t, p.n, p.x, 0⟩) (hl : L.length = n) : takeV n L p me next ok = ⟨5, 0, p.s, p.d, p.t, p.n, p.x, 0⟩ ∧ takeL n L p me next ok = L ∧ takeC c n L p me next ok = c.inc 5 := by
  simp [takeV, takeL, takeC, h, hl]
theorem take_wait {p : Pk} {me next : Int} {ok : Bool} {n : Nat} {L : List Pk} (c : Cn) (h : decP p me next ok = ⟨3, 0, p.s, p.d, p.t, p.n, p.x, 0⟩) (hl : L.length < n) : takeV n L p me next ok = ⟨3, 0, p.s, p.d, p.t, p.n, p.x, 0⟩ ∧ takeL n L p me next ok = L ++ [p] ∧ takeC c n L p me next ok = c.inc 3 := by
  have : ¬ L.length = n := by omega
  simp [takeV, takeL, takeC, h, this]
theorem take_other {p : Pk} {me next : Int} {ok : Bool} (n : Nat) (L : List Pk) (c : Cn) {k : Nat} {tt t' : Int} (hk : k ≠ 3) (h : decP p me next ok = ⟨k, tt, p.s, p.d, t', p.n, p.x, 0⟩) : takeV n L p me next ok = ⟨k, tt, p.s, p.d, t', p.n, p.x, 0⟩ ∧ takeL n L p me next ok = L ∧ takeC c n L p me next ok = c.inc k := by
  have : ¬ (k : Int) = 3 := by omega
  simp [takeV, takeL, takeC, h, this]
theorem takeC_le {c : Cn} {m : Nat} (h : c.le m) (n : Nat) (L : List Pk) (p : Pk) (me next : Int) (ok : Bool) : (takeC c n L p me next ok).le (m + 1) := by
  unfold takeC
  split
  · exact Cn.le_inc h _
  · exact Cn.le_mono h (by omega)
/-- Take, whatever comes. -/
theorem c34 {w : World} {x q r n f : Nat} {R L : List Pk} {me : Int} {c : Cn} (h : PAt w x q r n f R L me c) {m : Nat} (hc : c.le m) (hm : m ≤ 1000000) (p : Pk) (next : Int) (ok : Bool) :
    Calls Try.prog 34 #[.pointer (some ⟨x, 0, none⟩), p.val, .int .i64 next, .bool ok] w fun e w' => e = .returned (takeV n L p me next ok).val ∧ (∃ R', PAt w' x q r n f R' (takeL n L p me next ok) me (takeC c n L p me next ok)) ∧ Keeps (InP x q r) w w' := by
  obtain ⟨s, d, t, nn, xx⟩ := p
  rcases dec_cases s d t nn xx me next ok with hv | ⟨hr, hv⟩ | ⟨k, tt, t', hk, hk3, _, _, hr, hv⟩
  · obtain ⟨e1, e2, e3⟩ := take_none (p := ⟨s, d, t, nn, xx⟩) n L c hv
    rw [e1, e2, e3]
    exact (c34e h s d t nn xx next ok hv).mono fun e w' he => ⟨he.1, ⟨_, h.below he.2⟩, Keeps.below he.2⟩
  · rcases Nat.lt_or_ge L.length n with hl | hl
    · obtain ⟨e1, e2, e3⟩ := take_wait (p := ⟨s, d, t, nn, xx⟩) c hv hl
      rw [e1, e2, e3]
      exact (c34w h hc hm s d t nn xx next ok hr hl hv).mono fun e w' he => ⟨he.1, he.2.1, he.2.2⟩
    · have hl' : L.length = n := by have := h.hQ.hL; omega
      obtain ⟨e1, e2, e3⟩ := take_full (p := ⟨s, d, t, nn, xx⟩) c hv hl'
      rw [e1, e2, e3]
      exact (c34f h hc hm s d t nn xx next ok hr hl' hv).mono fun e w' he => ⟨he.1, ⟨_, he.2.1⟩, he.2.2⟩
  · obtain ⟨e1, e2, e3⟩ := take_other (p := ⟨s, d, t, nn, xx⟩) n L c hk3 hv
    rw [e1, e2, e3]
    exact (c34k h hc hm s d t nn xx next ok k tt s d t' nn xx hk hk3 hv).mono fun e w' he => ⟨he.1, ⟨_, he.2.1⟩, he.2.2⟩
end Go.Proofs.Ytnlcibobhmcfpaa
