/- The reference's plane in memory; the walks of the reference's New, count, Take. -/
import Derived.Test.YtnlcibobhmcfpaaTd
import Derived.Deep.DeepCutAuto
set_option linter.unusedSimpArgs false
set_option linter.unusedVariables false
namespace Go.Proofs.Ytnlcibobhmcfpaa
open Go.RowKit
attribute [local go_sem ↓] Go.wp_at_zero Go.wp_at_succ
/-- The reference's plane: block y; its queue from block z, the list v. -/
structure RP (w : World) (y z B n : Nat) (me : Int) (c : Cn) (v : Value) (L : List Pk) : Prop where
  hy : w.heap[y]? = some (.cells #[.int .i64 me, .pointer (some ⟨z, 0, none⟩), .int .i64 c.c1, .int .i64 c.c2, .int .i64 c.c3, .int .i64 c.c4, .int .i64 c.c5] 78 (0, 0))
  hR : RQ w z B n v L
  ly : y < B
  nz : y ≠ z
def InRP (y z : Nat) (v : Value) (k : Nat) : Prop := k = y ∨ InR z v k
theorem RP.keeps {w w' : World} {y z B n : Nat} {me : Int} {c : Cn} {v : Value} {L : List Pk} (h : RP w y z B n me c v L) {S : Nat → Prop} (k : Keeps S w w') (hy : ¬ S y) (hz : ¬ S z) (hv : ∀ g, v.ownBlock = some g → ¬ S g) : RP w' y z B n me c v L :=
  ⟨k.heapAt h.hy hy, h.hR.keeps k hz hv, h.ly, h.nz⟩
theorem RP.below {w w' : World} {y z B n : Nat} {me : Int} {c : Cn} {v : Value} {L : List Pk} (h : RP w y z B n me c v L) (k : Below w.heap.size w w') : RP w' y z B n me c v L :=
  h.keeps (Keeps.below (S := fun _ => False) k) (fun x => x) (fun x => x) (fun _ _ x => x)
theorem RP.drew {w : World} {y z B n : Nat} {me : Int} {c : Cn} {v : Value} {L : List Pk} (h : RP w y z B n me c v L) : RP w.drew y z B n me c v L := h.below (Below.drew (Below.refl _ _))
theorem RP.drewN {w : World} {y z B n : Nat} {me : Int} {c : Cn} {v : Value} {L : List Pk} (h : RP w y z B n me c v L) (m : Nat) : RP (w.drewN m) y z B n me c v L := h.below (Below.drewN (Below.refl _ _) m)
theorem RP.lt {w : World} {y z B n : Nat} {me : Int} {c : Cn} {v : Value} {L : List Pk} (h : RP w y z B n me c v L) : y < w.heap.size ∧ z < w.heap.size := ⟨(Array.getElem?_eq_some_iff.1 h.hy).1, h.hR.y_lt⟩
theorem RP.y0 {w : World} {y z B n : Nat} {me : Int} {c : Cn} {v : Value} {L : List Pk} (h : RP w y z B n me c v L) : w.cell? ⟨y, 0, none⟩ = some (.int .i64 me) := cell_of_heap h.hy 0
theorem RP.y1 {w : World} {y z B n : Nat} {me : Int} {c : Cn} {v : Value} {L : List Pk} (h : RP w y z B n me c v L) : w.cell? ⟨y, 1, none⟩ = some (.pointer (some ⟨z, 0, none⟩)) := cell_of_heap h.hy 1
theorem RP.vlt {w : World} {y z B n : Nat} {me : Int} {c : Cn} {v : Value} {L : List Pk} (h : RP w y z B n me c v L) {g : Nat} (hg : v.ownBlock = some g) : B ≤ g ∧ g < w.heap.size := ⟨h.hR.ho.base hg, h.hR.ho.lt hg⟩
theorem RP.cnt {w : World} {y z B n : Nat} {me : Int} {c : Cn} {v : Value} {L : List Pk} (h : RP w y z B n me c v L) {k : Nat} (h1 : 1 ≤ k) (hk : k < 6) : w.cell? ⟨y, 1 + k, none⟩ = some (.int .i64 (c.get k)) := by
  rw [cell_of_heap h.hy (1 + k)]
  match k, h1, hk with
  | 1, _, _ => rfl
  | 2, _, _ => rfl
  | 3, _, _ => rfl
  | 4, _, _ => rfl
  | 5, _, _ => rfl
theorem RP.count {w : World} {y z B n : Nat} {me : Int} {c : Cn} {v : Value} {L : List Pk} (h : RP w y z B n me c v L) {k : Nat} (h1 : 1 ≤ k) (hk : k < 6) :
    RP (w.setCell ⟨y, 1 + k, none⟩ (.int .i64 ((c.get k : Int) + 1))) y z B n me (c.inc k) v L ∧ Keeps (InRP y z v) w (w.setCell ⟨y, 1 + k, none⟩ (.int .i64 ((c.get k : Int) + 1))) := by
  have h2 := heap_set h.hy (1 + k) (.int .i64 ((c.get k : Int) + 1))
  refine ⟨⟨?_, h.hR.keeps ((Keeps.refl (fun g => g = y) w).setCell (.inr rfl) _) (fun e => h.nz e.symm) (fun g hg e => by have := (h.vlt hg).1; have := h.ly; omega), h.ly, h.nz⟩, (Keeps.refl _ w).setCell (.inr (.inl rfl)) _⟩
  rw [h2]
  match k, h1, hk with
  | 1, _, _ => rfl
  | 2, _, _ => rfl
  | 3, _, _ => rfl
  | 4, _, _ => rfl
  | 5, _, _ => rfl
theorem seven_rp {w : World} {y z B n : Nat} {me : Int} {c : Cn} {v : Value} {L : List Pk} (h : RP w y z B n me c v L) (b : Nat) (hy : b ≠ y) (hz : b ≠ z) (hv : ∀ g, v.ownBlock = some g → g ≠ b) (v0 v1 v2 v3 v4 v5 v6 : Value) : RP (((((((w.setCell ⟨b, 0, none⟩ v0).setCell ⟨b, 1, none⟩ v1).setCell ⟨b, 2, none⟩ v2).setCell ⟨b, 3, none⟩ v3).setCell ⟨b, 4, none⟩ v4).setCell ⟨b, 5, none⟩ v5).setCell ⟨b, 6, none⟩ v6) y z B n me c v L :=
  h.keeps (seven_keeps w b v0 v1 v2 v3 v4 v5 v6 (S := fun g => g = b) (.inl rfl)) (Ne.symm hy) (Ne.symm hz) hv
theorem c40b (me m : Int) (w : World) (h : m < 1 ∨ 64 < m ∨ nodeB me = false) : Calls Try.prog 40 #[.int .i64 me, .int .i64 m] w fun e w' => e = .returned (.tuple #[.pointer none, .int .i64 1]) ∧ w = w' := by
  cases hb : nodeB me with
  | false =>
    have H := hidd hb
    clear hb h
    go_enter Try.func40, Try.ntmps40
    go_wp2_with (go_at_call 48; refine (c48 _ _).mono ?_; rintro e w' ⟨rfl, rfl⟩; rw [H.out])
    go_ret2
    exact ⟨rfl, rfl⟩
  | true =>
    have H := hidd hb
    have hm : m < 1 ∨ 64 < m := by
      rcases h with h | h | h
      · exact .inl h
      · exact .inr h
      · rw [hb] at h; cases h
    clear hb h
    rcases hm with hm | hm
    · go_enter Try.func40, Try.ntmps40
      go_wp2_with (go_at_call 48; refine (c48 _ _).mono ?_; rintro e w' ⟨rfl, rfl⟩; rw [H.out])
      go_ret2
      exact ⟨rfl, rfl⟩
    · have h1 : ¬ m < 1 := by omega
      go_enter Try.func40, Try.ntmps40
      go_wp2_with (go_at_call 48; refine (c48 _ _).mono ?_; rintro e w' ⟨rfl, rfl⟩; rw [H.out])
      go_ret2
      exact ⟨rfl, rfl⟩
def NewR (n : Nat) (me : Int) (w : World) (e : Ending) (w' : World) : Prop := ∃ y z, e = .returned (.tuple #[.pointer (some ⟨y, 0, none⟩), .int .i64 0]) ∧ RP w' y z (y + 1) n me Cn.zero (.slice none 0 0) [] ∧ w.heap.size ≤ y ∧ w.heap.size ≤ z ∧ Below w.heap.size w w'
theorem c40g (me : Int) (n : Nat) (w : World) (h1 : 1 ≤ n) (h64 : n ≤ 64) (hb : nodeB me = true) : Calls Try.prog 40 #[.int .i64 me, .int .i64 n] w (NewR n me w) := by
  have H := hidd hb
  have g1 : ¬ (n : Int) < 1 := by omega
  have g2 : ¬ 64 < (n : Int) := by omega
  clear hb
  go_enter Try.func40, Try.ntmps40
  go_wp2_with (go_at_call 48; refine (c48 _ _).mono ?_; rintro e w' ⟨rfl, rfl⟩; rw [H.out])
  go_ret2
  have hn := heap_new (w.alloc (.cells #[.int .i64 n, .slice none 0 0] 49)) (.cells #[.int .i64 me, .pointer (some ⟨w.heap.size, 0, none⟩), .int .i64 0, .int .i64 0, .int .i64 0, .int .i64 0, .int .i64 0] 78)
  rw [show (w.alloc (.cells #[.int .i64 n, .slice none 0 0] 49)).heap.size = w.heap.size + 1 by simp] at hn
  exact ⟨w.heap.size + 1, w.heap.size, rfl, ⟨hn, ⟨heap_alloc (heap_new w _) _, OwnPk.nil _ _, by omega, by simp⟩, by omega, by omega⟩, by omega, Nat.le_refl _, Bl_alloc (Bl_alloc (Below.refl _ _) _) _⟩
theorem c59_1 {w : World} {y z B n : Nat} {me : Int} {c : Cn} {v : Value} {L : List Pk} (h : RP w y z B n me c v L) (hg : c.c1 ≤ 1000000) :
    Calls Try.prog 59 #[.pointer (some ⟨y, 0, none⟩), .int .i64 1] w fun e w' => e = .returned (.tuple #[]) ∧ w.setCell ⟨y, 2, none⟩ (.int .i64 ((c.c1 : Int) + 1)) = w' := by
  have h1 : w.cell? ⟨y, 2, none⟩ = some (.int .i64 c.c1) := cell_of_heap h.hy 2
  have hf := free_of_heap h.hy 2
  clear h
  go_enter Try.func59, Try.ntmps59
  go_wp2
  go_end0
  exact ⟨rfl, rfl⟩
theorem c59_2 {w : World} {y z B n : Nat} {me : Int} {c : Cn} {v : Value} {L : List Pk} (h : RP w y z B n me c v L) (hg : c.c2 ≤ 1000000) :
    Calls Try.prog 59 #[.pointer (some ⟨y, 0, none⟩), .int .i64 2] w fun e w' => e = .returned (.tuple #[]) ∧ w.setCell ⟨y, 3, none⟩ (.int .i64 ((c.c2 : Int) + 1)) = w' := by
  have h1 : w.cell? ⟨y, 3, none⟩ = some (.int .i64 c.c2) := cell_of_heap h.hy 3
  have hf := free_of_heap h.hy 3
  clear h
  go_enter Try.func59, Try.ntmps59
  go_wp2
  go_end0
  exact ⟨rfl, rfl⟩
theorem c59_3 {w : World} {y z B n : Nat} {me : Int} {c : Cn} {v : Value} {L : List Pk} (h : RP w y z B n me c v L) (hg : c.c3 ≤ 1000000) :
    Calls Try.prog 59 #[.pointer (some ⟨y, 0, none⟩), .int .i64 3] w fun e w' => e = .returned (.tuple #[]) ∧ w.setCell ⟨y, 4, none⟩ (.int .i64 ((c.c3 : Int) + 1)) = w' := by
  have h1 : w.cell? ⟨y, 4, none⟩ = some (.int .i64 c.c3) := cell_of_heap h.hy 4
  have hf := free_of_heap h.hy 4
  clear h
  go_enter Try.func59, Try.ntmps59
  go_wp2
  go_end0
  exact ⟨rfl, rfl⟩
theorem c59_4 {w : World} {y z B n : Nat} {me : Int} {c : Cn} {v : Value} {L : List Pk} (h : RP w y z B n me c v L) (hg : c.c4 ≤ 1000000) :
    Calls Try.prog 59 #[.pointer (some ⟨y, 0, none⟩), .int .i64 4] w fun e w' => e = .returned (.tuple #[]) ∧ w.setCell ⟨y, 5, none⟩ (.int .i64 ((c.c4 : Int) + 1)) = w' := by
  have h1 : w.cell? ⟨y, 5, none⟩ = some (.int .i64 c.c4) := cell_of_heap h.hy 5
  have hf := free_of_heap h.hy 5
  clear h
  go_enter Try.func59, Try.ntmps59
  go_wp2
  go_end0
  exact ⟨rfl, rfl⟩
theorem c59_5 {w : World} {y z B n : Nat} {me : Int} {c : Cn} {v : Value} {L : List Pk} (h : RP w y z B n me c v L) (hg : c.c5 ≤ 1000000) :
    Calls Try.prog 59 #[.pointer (some ⟨y, 0, none⟩), .int .i64 5] w fun e w' => e = .returned (.tuple #[]) ∧ w.setCell ⟨y, 6, none⟩ (.int .i64 ((c.c5 : Int) + 1)) = w' := by
  have h1 : w.cell? ⟨y, 6, none⟩ = some (.int .i64 c.c5) := cell_of_heap h.hy 6
  have hf := free_of_heap h.hy 6
  clear h
  go_enter Try.func59, Try.ntmps59
  go_wp2
  go_end0
  exact ⟨rfl, rfl⟩
theorem c59_0 (y : Nat) (w : World) :
    Calls Try.prog 59 #[.pointer (some ⟨y, 0, none⟩), .int .i64 0] w fun e w' => e = .returned (.tuple #[]) ∧ w = w' := by
  go_enter Try.func59, Try.ntmps59
  go_wp2
  go_end0
  exact ⟨rfl, rfl⟩
theorem c59k {w : World} {y z B n : Nat} {me : Int} {c : Cn} {v : Value} {L : List Pk} (h : RP w y z B n me c v L) (k : Nat) (h1 : 1 ≤ k) (hk : k < 6) (hg : c.get k ≤ 1000000) :
    Calls Try.prog 59 #[.pointer (some ⟨y, 0, none⟩), .int .i64 k] w fun e w' => e = .returned (.tuple #[]) ∧ w.setCell ⟨y, 1 + k, none⟩ (.int .i64 ((c.get k : Int) + 1)) = w' := by
  match k, h1, hk with
  | 1, _, _ => exact c59_1 h hg
  | 2, _, _ => exact c59_2 h hg
  | 3, _, _ => exact c59_3 h hg
  | 4, _, _ => exact c59_4 h hg
  | 5, _, _ => exact c59_5 h hg
theorem RP.inc0 {w : World} {y z B n : Nat} {me : Int} {c : Cn} {v : Value} {L : List Pk} (h : RP w y z B n me c v L) : RP w y z B n me (c.inc 0) v L := ⟨h.hy, h.hR, h.ly, h.nz⟩
theorem c59u {w : World} {y z B n : Nat} {me : Int} {c : Cn} {v : Value} {L : List Pk} (h : RP w y z B n me c v L) (k : Nat) (hk : k < 6) (hg : c.get k ≤ 1000000) :
    Calls Try.prog 59 #[.pointer (some ⟨y, 0, none⟩), .int .i64 k] w fun e w' => e = .returned (.tuple #[]) ∧ RP w' y z B n me (c.inc k) v L ∧ Keeps (fun g => g = y) w w' := by
  rcases Nat.eq_zero_or_pos k with h0 | h0
  · subst h0
    exact (c59_0 y w).mono fun e w' he => ⟨he.1, he.2 ▸ h.inc0, he.2 ▸ Keeps.refl _ _⟩
  · exact (c59k h k h0 hk hg).mono fun e w' he => ⟨he.1, he.2 ▸ (h.count h0 hk).1, he.2 ▸ (Keeps.refl (fun g => g = y) w).setCell (.inr rfl) _⟩
set_option maxHeartbeats 1000000 in
theorem c43e {w : World} {y z B n : Nat} {me : Int} {c : Cn} {v : Value} {L : List Pk} (h : RP w y z B n me c v L) (s d t nn : Int) (xx : ByteArray) (next : Int) (ok : Bool)
    (hv : decide22 s d t nn xx me next ok = ⟨0, 0, 0, 0, 0, 0, ⟨#[]⟩, 1⟩) :
    Calls Try.prog 43 #[.pointer (some ⟨y, 0, none⟩), .agg #[.int .i64 s, .int .i64 d, .int .i64 t, .int .i64 nn, .string xx], .int .i64 next, .bool ok] w fun e w' => e = .returned (.tuple #[.agg #[.int .i64 0, .int .i64 0, .int .i64 0, .int .i64 0, .int .i64 0, .int .i64 0, .string ⟨#[]⟩], .int .i64 1]) ∧ Below w.heap.size w w' := by
  have HV := hidd hv
  have h0 := h.y0
  have HA := hidd h
  obtain ⟨l0, l1⟩ := h.lt
  have HVL : Hid (∀ g, v.ownBlock = some g → g < w.heap.size) := hidd (fun g hg => (h.vlt hg).2)
  clear h hv
  go_enter Try.func43, Try.ntmps43
  go_wp2_with fail
  generalize hW : World.alloc (World.alloc w _) _ = W
  have HB : Hid (Below w.heap.size w W) := hidd (hW ▸ Bl_alloc (Bl_alloc (Below.refl _ _) _) _)
  have hs : W.heap.size = w.heap.size + 1 + 1 := by rw [← hW]; simp
  have m0 : W.cell? ⟨y, 0, none⟩ = some (.int .i64 me) := by rw [← hW]; exact alloc_cell (alloc_cell h0)
  have m1 : W.cell? ⟨w.heap.size, 0, none⟩ = some (.int .i64 s) := by rw [← hW]; exact alloc_cell (cell_of_heap (heap_new w _) 0)
  have m2 : W.cell? ⟨w.heap.size, 1, none⟩ = some (.int .i64 d) := by rw [← hW]; exact alloc_cell (cell_of_heap (heap_new w _) 1)
  have m3 : W.cell? ⟨w.heap.size, 2, none⟩ = some (.int .i64 t) := by rw [← hW]; exact alloc_cell (cell_of_heap (heap_new w _) 2)
  have m4 : W.cell? ⟨w.heap.size, 3, none⟩ = some (.int .i64 nn) := by rw [← hW]; exact alloc_cell (cell_of_heap (heap_new w _) 3)
  have m5 : W.cell? ⟨w.heap.size, 4, none⟩ = some (.string xx) := by rw [← hW]; exact alloc_cell (cell_of_heap (heap_new w _) 4)
  have zp : W.heap[w.heap.size]? = some (.cells #[.int .i64 s, .int .i64 d, .int .i64 t, .int .i64 nn, .string xx] 23 (0, 0)) := by rw [← hW]; exact heap_alloc (heap_new w _) _
  have zr : W.heap[w.heap.size + 1]? = some (.cells #[.int .i64 0, .int .i64 0, .int .i64 0, .int .i64 0, .int .i64 0, .int .i64 0, .string ⟨#[]⟩] 25 (0, 0)) := by
    have := heap_new (w.alloc (.cells #[.int .i64 s, .int .i64 d, .int .i64 t, .int .i64 nn, .string xx] 23)) (.cells #[.int .i64 0, .int .i64 0, .int .i64 0, .int .i64 0, .int .i64 0, .int .i64 0, .string ⟨#[]⟩] 25)
    rw [← hW]; simpa using this
  have HZ := hidd zr
  have HP := hidd zp
  have HS := hidd hs
  have ls : w.heap.size + 1 < W.heap.size := by omega
  have lw : w.heap.size < W.heap.size := by omega
  have lx : y < W.heap.size := by omega
  have nx : W.heap.size ≠ y := by omega
  have nw : W.heap.size ≠ w.heap.size := by omega
  clear hW zr zp hs h0
  go_cut [10, 11] (fun p10 e11 wx => Vd W (0) (0) (0) (0) (0) (0) (⟨#[]⟩) 1 p10 e11 wx)
  case first =>
    go_region_held3 (fun w' => w'.cell? ⟨y, 0, none⟩ = some (.int .i64 me) ∧ w'.cell? ⟨w.heap.size, 0, none⟩ = some (.int .i64 s) ∧ w'.cell? ⟨w.heap.size, 1, none⟩ = some (.int .i64 d) ∧ w'.cell? ⟨w.heap.size, 2, none⟩ = some (.int .i64 t) ∧ w'.cell? ⟨w.heap.size, 3, none⟩ = some (.int .i64 nn) ∧ w'.cell? ⟨w.heap.size, 4, none⟩ = some (.string xx)) (refine ⟨?_, ?_, ?_, ?_, ?_, ?_⟩ <;> (repeat (first | with_reducible assumption | (with_reducible refine drew_cell ?_) | (with_reducible refine alloc_cell ?_) | (with_reducible refine setc_cell ?_ (by with_reducible assumption)))))
      (first | (go_at_call 15; refine (c15v _ _ _ _ _ _ _ _ _ _ _ _ _ _ _ _ _ HV.out).mono ?_; rintro e w2 ⟨rfl, hb⟩; (have t0 : w2.cell? ⟨y, 0, none⟩ = some (.int .i64 me) := (hb.cell (p := ⟨y, 0, none⟩) (by first | (simp; done) | (simp; omega))).trans (by first | exact m0 | (exact alloc_cell m0))); (have t1 : w2.cell? ⟨w.heap.size, 0, none⟩ = some (.int .i64 s) := (hb.cell (p := ⟨w.heap.size, 0, none⟩) (by first | (simp; done) | (simp; omega))).trans (by first | exact m1 | (exact alloc_cell m1))); (have t2 : w2.cell? ⟨w.heap.size, 1, none⟩ = some (.int .i64 d) := (hb.cell (p := ⟨w.heap.size, 1, none⟩) (by first | (simp; done) | (simp; omega))).trans (by first | exact m2 | (exact alloc_cell m2))); (have t3 : w2.cell? ⟨w.heap.size, 2, none⟩ = some (.int .i64 t) := (hb.cell (p := ⟨w.heap.size, 2, none⟩) (by first | (simp; done) | (simp; omega))).trans (by first | exact m3 | (exact alloc_cell m3))); (have t4 : w2.cell? ⟨w.heap.size, 3, none⟩ = some (.int .i64 nn) := (hb.cell (p := ⟨w.heap.size, 3, none⟩) (by first | (simp; done) | (simp; omega))).trans (by first | exact m4 | (exact alloc_cell m4))); (have t5 : w2.cell? ⟨w.heap.size, 4, none⟩ = some (.string xx) := (hb.cell (p := ⟨w.heap.size, 4, none⟩) (by first | (simp; done) | (simp; omega))).trans (by first | exact m5 | (exact alloc_cell m5))); (try (have hzz : W.heap.size < W.heap.size + 1 := (by omega); have zl := hb.size; have zc : w2.heap[W.heap.size]? = some (.cells #[.int .i64 0, .int .i64 0, .int .i64 0, .int .i64 0, .int .i64 0, .int .i64 0, .string ⟨#[]⟩] 25 (0, 0)) := (hb.block W.heap.size (by first | (simp; done))).trans (heap_new W _); (have z0 : w2.cell? ⟨W.heap.size, 0, none⟩ = some (.int .i64 0) := cell_of_heap zc 0); (have z1 : w2.cell? ⟨W.heap.size, 1, none⟩ = some (.int .i64 0) := cell_of_heap zc 1); (have z2 : w2.cell? ⟨W.heap.size, 2, none⟩ = some (.int .i64 0) := cell_of_heap zc 2); (have z3 : w2.cell? ⟨W.heap.size, 3, none⟩ = some (.int .i64 0) := cell_of_heap zc 3); (have z4 : w2.cell? ⟨W.heap.size, 4, none⟩ = some (.int .i64 0) := cell_of_heap zc 4); (have z5 : w2.cell? ⟨W.heap.size, 5, none⟩ = some (.int .i64 0) := cell_of_heap zc 5); (have z6 : w2.cell? ⟨W.heap.size, 6, none⟩ = some (.string ⟨#[]⟩) := cell_of_heap zc 6); (have f0 : w2.frozen? ⟨W.heap.size, 0, none⟩ = false := free_of_heap zc 0); (have f1 : w2.frozen? ⟨W.heap.size, 1, none⟩ = false := free_of_heap zc 1); (have f2 : w2.frozen? ⟨W.heap.size, 2, none⟩ = false := free_of_heap zc 2); (have f3 : w2.frozen? ⟨W.heap.size, 3, none⟩ = false := free_of_heap zc 3); (have f4 : w2.frozen? ⟨W.heap.size, 4, none⟩ = false := free_of_heap zc 4); (have f5 : w2.frozen? ⟨W.heap.size, 5, none⟩ = false := free_of_heap zc 5); (have f6 : w2.frozen? ⟨W.heap.size, 6, none⟩ = false := free_of_heap zc 6); (have HZC := hidd zc); clear zc)); (have HB2 := hidd hb); clear hb))
    all_goals (go_wp2_with fail; go_meet)
    · exact vd_one (Bl_drew HB2.out)
    · exact vd_two HZC.out HB2.out
  case rest =>
    obtain ⟨b, rfl, rfl, hz, hWb, hB2⟩ := hcut
    have HB2 := hidd hB2
    have HZ2 := hidd ((Keeps.below (S := fun _ => False) hB2).heapAt HZ.out (fun x => x))
    have HP2 := hidd ((Keeps.below (S := fun _ => False) hB2).heapAt HP.out (fun x => x))
    have HY := hidd hz
    have lb : b < wc.heap.size := (Array.getElem?_eq_some_iff.1 hz).1
    have lz : w.heap.size + 1 < wc.heap.size := (Array.getElem?_eq_some_iff.1 HZ2.out).1
    have nbz : b ≠ w.heap.size + 1 := by omega
    have nzb : w.heap.size + 1 ≠ b := by omega
    clear hz hB2 m0 m1 m2 m3 m4 m5
    have y0 : wc.cell? ⟨b, 0, none⟩ = some (.int .i64 0) := cell_of_heap HY.out 0
    have y1 : wc.cell? ⟨b, 1, none⟩ = some (.int .i64 0) := cell_of_heap HY.out 1
    have y2 : wc.cell? ⟨b, 2, none⟩ = some (.int .i64 0) := cell_of_heap HY.out 2
    have y3 : wc.cell? ⟨b, 3, none⟩ = some (.int .i64 0) := cell_of_heap HY.out 3
    have y4 : wc.cell? ⟨b, 4, none⟩ = some (.int .i64 0) := cell_of_heap HY.out 4
    have y5 : wc.cell? ⟨b, 5, none⟩ = some (.int .i64 0) := cell_of_heap HY.out 5
    have y6 : wc.cell? ⟨b, 6, none⟩ = some (.string ⟨#[]⟩) := cell_of_heap HY.out 6
    have z0 : wc.cell? ⟨w.heap.size + 1, 0, none⟩ = some (.int .i64 0) := cell_of_heap HZ2.out 0
    have zf0 : wc.frozen? ⟨w.heap.size + 1, 0, none⟩ = false := free_of_heap HZ2.out 0
    have z1 : wc.cell? ⟨w.heap.size + 1, 1, none⟩ = some (.int .i64 0) := cell_of_heap HZ2.out 1
    have zf1 : wc.frozen? ⟨w.heap.size + 1, 1, none⟩ = false := free_of_heap HZ2.out 1
    have z2 : wc.cell? ⟨w.heap.size + 1, 2, none⟩ = some (.int .i64 0) := cell_of_heap HZ2.out 2
    have zf2 : wc.frozen? ⟨w.heap.size + 1, 2, none⟩ = false := free_of_heap HZ2.out 2
    have z3 : wc.cell? ⟨w.heap.size + 1, 3, none⟩ = some (.int .i64 0) := cell_of_heap HZ2.out 3
    have zf3 : wc.frozen? ⟨w.heap.size + 1, 3, none⟩ = false := free_of_heap HZ2.out 3
    have z4 : wc.cell? ⟨w.heap.size + 1, 4, none⟩ = some (.int .i64 0) := cell_of_heap HZ2.out 4
    have zf4 : wc.frozen? ⟨w.heap.size + 1, 4, none⟩ = false := free_of_heap HZ2.out 4
    have z5 : wc.cell? ⟨w.heap.size + 1, 5, none⟩ = some (.int .i64 0) := cell_of_heap HZ2.out 5
    have zf5 : wc.frozen? ⟨w.heap.size + 1, 5, none⟩ = false := free_of_heap HZ2.out 5
    have z6 : wc.cell? ⟨w.heap.size + 1, 6, none⟩ = some (.string ⟨#[]⟩) := cell_of_heap HZ2.out 6
    have zf6 : wc.frozen? ⟨w.heap.size + 1, 6, none⟩ = false := free_of_heap HZ2.out 6
    go_wp2
    refine bodyPost_ret (v := .tuple #[.agg #[.int .i64 0, .int .i64 0, .int .i64 0, .int .i64 0, .int .i64 0, .int .i64 0, .string ⟨#[]⟩], .int .i64 1]) ?_ ?_ ?_
    · simp [results, Try.results43, go_sem, y0, y1, y2, y3, y4, y5, y6, z0, z1, z2, z3, z4, z5, z6]
    · rfl
    · exact ⟨rfl, (((((((HB.out.trans (HB2.out.mono HB.out.size)).setCell (by simp) _).setCell (by simp) _).setCell (by simp) _).setCell (by simp) _).setCell (by simp) _).setCell (by simp) _).setCell (by simp) _⟩
set_option maxHeartbeats 1000000 in
theorem c43k {w : World} {y z B n : Nat} {me : Int} {c : Cn} {v : Value} {L : List Pk} (h : RP w y z B n me c v L) {m : Nat} (hc : c.le m) (hm : m ≤ 1000000) (s d t nn : Int) (xx : ByteArray) (next : Int) (ok : Bool) (k : Nat) (tt s' d' t' n' : Int) (x' : ByteArray) (hk : k < 6) (hk3 : k ≠ 3) (hk0 : k ≠ 0)
    (hv : decide22 s d t nn xx me next ok = ⟨k, tt, s', d', t', n', x', 0⟩) :
    Calls Try.prog 43 #[.pointer (some ⟨y, 0, none⟩), .agg #[.int .i64 s, .int .i64 d, .int .i64 t, .int .i64 nn, .string xx], .int .i64 next, .bool ok] w fun e w' => e = .returned (.tuple #[.agg #[.int .i64 k, .int .i64 tt, .int .i64 s', .int .i64 d', .int .i64 t', .int .i64 n', .string x'], .int .i64 0]) ∧ RP w' y z B n me (c.inc k) v L ∧ Keeps (InRP y z v) w w' := by
  have HV := hidd hv
  have h0 := h.y0
  have HA := hidd h
  have hg : c.get k ≤ 1000000 := by
    obtain ⟨a0, a1, a2, a3, a4, a5⟩ := hc
    unfold Cn.get
    split <;> omega
  clear hc
  have ki0 : (0 : Int) ≤ k := by omega
  have ki1 : (k : Int) < 6 := by omega
  have ke : ((k : Int) == 3) = false := by simp; omega
  obtain ⟨l0, l1⟩ := h.lt
  have HVL : Hid (∀ g, v.ownBlock = some g → g < w.heap.size) := hidd (fun g hg => (h.vlt hg).2)
  clear h hv
  go_enter Try.func43, Try.ntmps43
  go_wp2_with fail
  generalize hW : World.alloc (World.alloc w _) _ = W
  have HB : Hid (Below w.heap.size w W) := hidd (hW ▸ Bl_alloc (Bl_alloc (Below.refl _ _) _) _)
  have hs : W.heap.size = w.heap.size + 1 + 1 := by rw [← hW]; simp
  have m0 : W.cell? ⟨y, 0, none⟩ = some (.int .i64 me) := by rw [← hW]; exact alloc_cell (alloc_cell h0)
  have m1 : W.cell? ⟨w.heap.size, 0, none⟩ = some (.int .i64 s) := by rw [← hW]; exact alloc_cell (cell_of_heap (heap_new w _) 0)
  have m2 : W.cell? ⟨w.heap.size, 1, none⟩ = some (.int .i64 d) := by rw [← hW]; exact alloc_cell (cell_of_heap (heap_new w _) 1)
  have m3 : W.cell? ⟨w.heap.size, 2, none⟩ = some (.int .i64 t) := by rw [← hW]; exact alloc_cell (cell_of_heap (heap_new w _) 2)
  have m4 : W.cell? ⟨w.heap.size, 3, none⟩ = some (.int .i64 nn) := by rw [← hW]; exact alloc_cell (cell_of_heap (heap_new w _) 3)
  have m5 : W.cell? ⟨w.heap.size, 4, none⟩ = some (.string xx) := by rw [← hW]; exact alloc_cell (cell_of_heap (heap_new w _) 4)
  have zp : W.heap[w.heap.size]? = some (.cells #[.int .i64 s, .int .i64 d, .int .i64 t, .int .i64 nn, .string xx] 23 (0, 0)) := by rw [← hW]; exact heap_alloc (heap_new w _) _
  have zr : W.heap[w.heap.size + 1]? = some (.cells #[.int .i64 0, .int .i64 0, .int .i64 0, .int .i64 0, .int .i64 0, .int .i64 0, .string ⟨#[]⟩] 25 (0, 0)) := by
    have := heap_new (w.alloc (.cells #[.int .i64 s, .int .i64 d, .int .i64 t, .int .i64 nn, .string xx] 23)) (.cells #[.int .i64 0, .int .i64 0, .int .i64 0, .int .i64 0, .int .i64 0, .int .i64 0, .string ⟨#[]⟩] 25)
    rw [← hW]; simpa using this
  have HZ := hidd zr
  have HP := hidd zp
  have HS := hidd hs
  have ls : w.heap.size + 1 < W.heap.size := by omega
  have lw : w.heap.size < W.heap.size := by omega
  have lx : y < W.heap.size := by omega
  have nx : W.heap.size ≠ y := by omega
  have nw : W.heap.size ≠ w.heap.size := by omega
  clear hW zr zp hs h0
  go_cut [10, 11] (fun p10 e11 wx => Vd W (k) (tt) (s') (d') (t') (n') (x') 0 p10 e11 wx)
  case first =>
    go_region_held3 (fun w' => w'.cell? ⟨y, 0, none⟩ = some (.int .i64 me) ∧ w'.cell? ⟨w.heap.size, 0, none⟩ = some (.int .i64 s) ∧ w'.cell? ⟨w.heap.size, 1, none⟩ = some (.int .i64 d) ∧ w'.cell? ⟨w.heap.size, 2, none⟩ = some (.int .i64 t) ∧ w'.cell? ⟨w.heap.size, 3, none⟩ = some (.int .i64 nn) ∧ w'.cell? ⟨w.heap.size, 4, none⟩ = some (.string xx)) (refine ⟨?_, ?_, ?_, ?_, ?_, ?_⟩ <;> (repeat (first | with_reducible assumption | (with_reducible refine drew_cell ?_) | (with_reducible refine alloc_cell ?_) | (with_reducible refine setc_cell ?_ (by with_reducible assumption)))))
      (first | (go_at_call 15; refine (c15v _ _ _ _ _ _ _ _ _ _ _ _ _ _ _ _ _ HV.out).mono ?_; rintro e w2 ⟨rfl, hb⟩; (have t0 : w2.cell? ⟨y, 0, none⟩ = some (.int .i64 me) := (hb.cell (p := ⟨y, 0, none⟩) (by first | (simp; done) | (simp; omega))).trans (by first | exact m0 | (exact alloc_cell m0))); (have t1 : w2.cell? ⟨w.heap.size, 0, none⟩ = some (.int .i64 s) := (hb.cell (p := ⟨w.heap.size, 0, none⟩) (by first | (simp; done) | (simp; omega))).trans (by first | exact m1 | (exact alloc_cell m1))); (have t2 : w2.cell? ⟨w.heap.size, 1, none⟩ = some (.int .i64 d) := (hb.cell (p := ⟨w.heap.size, 1, none⟩) (by first | (simp; done) | (simp; omega))).trans (by first | exact m2 | (exact alloc_cell m2))); (have t3 : w2.cell? ⟨w.heap.size, 2, none⟩ = some (.int .i64 t) := (hb.cell (p := ⟨w.heap.size, 2, none⟩) (by first | (simp; done) | (simp; omega))).trans (by first | exact m3 | (exact alloc_cell m3))); (have t4 : w2.cell? ⟨w.heap.size, 3, none⟩ = some (.int .i64 nn) := (hb.cell (p := ⟨w.heap.size, 3, none⟩) (by first | (simp; done) | (simp; omega))).trans (by first | exact m4 | (exact alloc_cell m4))); (have t5 : w2.cell? ⟨w.heap.size, 4, none⟩ = some (.string xx) := (hb.cell (p := ⟨w.heap.size, 4, none⟩) (by first | (simp; done) | (simp; omega))).trans (by first | exact m5 | (exact alloc_cell m5))); (try (have hzz : W.heap.size < W.heap.size + 1 := (by omega); have zl := hb.size; have zc : w2.heap[W.heap.size]? = some (.cells #[.int .i64 0, .int .i64 0, .int .i64 0, .int .i64 0, .int .i64 0, .int .i64 0, .string ⟨#[]⟩] 25 (0, 0)) := (hb.block W.heap.size (by first | (simp; done))).trans (heap_new W _); (have z0 : w2.cell? ⟨W.heap.size, 0, none⟩ = some (.int .i64 0) := cell_of_heap zc 0); (have z1 : w2.cell? ⟨W.heap.size, 1, none⟩ = some (.int .i64 0) := cell_of_heap zc 1); (have z2 : w2.cell? ⟨W.heap.size, 2, none⟩ = some (.int .i64 0) := cell_of_heap zc 2); (have z3 : w2.cell? ⟨W.heap.size, 3, none⟩ = some (.int .i64 0) := cell_of_heap zc 3); (have z4 : w2.cell? ⟨W.heap.size, 4, none⟩ = some (.int .i64 0) := cell_of_heap zc 4); (have z5 : w2.cell? ⟨W.heap.size, 5, none⟩ = some (.int .i64 0) := cell_of_heap zc 5); (have z6 : w2.cell? ⟨W.heap.size, 6, none⟩ = some (.string ⟨#[]⟩) := cell_of_heap zc 6); (have f0 : w2.frozen? ⟨W.heap.size, 0, none⟩ = false := free_of_heap zc 0); (have f1 : w2.frozen? ⟨W.heap.size, 1, none⟩ = false := free_of_heap zc 1); (have f2 : w2.frozen? ⟨W.heap.size, 2, none⟩ = false := free_of_heap zc 2); (have f3 : w2.frozen? ⟨W.heap.size, 3, none⟩ = false := free_of_heap zc 3); (have f4 : w2.frozen? ⟨W.heap.size, 4, none⟩ = false := free_of_heap zc 4); (have f5 : w2.frozen? ⟨W.heap.size, 5, none⟩ = false := free_of_heap zc 5); (have f6 : w2.frozen? ⟨W.heap.size, 6, none⟩ = false := free_of_heap zc 6); (have HZC := hidd zc); clear zc)); (have HB2 := hidd hb); clear hb))
    all_goals (go_wp2_with fail; go_meet)
    · exact vd_one (Bl_drew HB2.out)
    · exact vd_two HZC.out HB2.out
  case rest =>
    obtain ⟨b, rfl, rfl, hz, hWb, hB2⟩ := hcut
    have HB2 := hidd hB2
    have HZ2 := hidd ((Keeps.below (S := fun _ => False) hB2).heapAt HZ.out (fun x => x))
    have HP2 := hidd ((Keeps.below (S := fun _ => False) hB2).heapAt HP.out (fun x => x))
    have HY := hidd hz
    have lb : b < wc.heap.size := (Array.getElem?_eq_some_iff.1 hz).1
    have lz : w.heap.size + 1 < wc.heap.size := (Array.getElem?_eq_some_iff.1 HZ2.out).1
    have nbz : b ≠ w.heap.size + 1 := by omega
    have nzb : w.heap.size + 1 ≠ b := by omega
    clear hz hB2 m0 m1 m2 m3 m4 m5
    have y0 : wc.cell? ⟨b, 0, none⟩ = some (.int .i64 k) := cell_of_heap HY.out 0
    have y1 : wc.cell? ⟨b, 1, none⟩ = some (.int .i64 tt) := cell_of_heap HY.out 1
    have y2 : wc.cell? ⟨b, 2, none⟩ = some (.int .i64 s') := cell_of_heap HY.out 2
    have y3 : wc.cell? ⟨b, 3, none⟩ = some (.int .i64 d') := cell_of_heap HY.out 3
    have y4 : wc.cell? ⟨b, 4, none⟩ = some (.int .i64 t') := cell_of_heap HY.out 4
    have y5 : wc.cell? ⟨b, 5, none⟩ = some (.int .i64 n') := cell_of_heap HY.out 5
    have y6 : wc.cell? ⟨b, 6, none⟩ = some (.string x') := cell_of_heap HY.out 6
    have z0 : wc.cell? ⟨w.heap.size + 1, 0, none⟩ = some (.int .i64 0) := cell_of_heap HZ2.out 0
    have zf0 : wc.frozen? ⟨w.heap.size + 1, 0, none⟩ = false := free_of_heap HZ2.out 0
    have z1 : wc.cell? ⟨w.heap.size + 1, 1, none⟩ = some (.int .i64 0) := cell_of_heap HZ2.out 1
    have zf1 : wc.frozen? ⟨w.heap.size + 1, 1, none⟩ = false := free_of_heap HZ2.out 1
    have z2 : wc.cell? ⟨w.heap.size + 1, 2, none⟩ = some (.int .i64 0) := cell_of_heap HZ2.out 2
    have zf2 : wc.frozen? ⟨w.heap.size + 1, 2, none⟩ = false := free_of_heap HZ2.out 2
    have z3 : wc.cell? ⟨w.heap.size + 1, 3, none⟩ = some (.int .i64 0) := cell_of_heap HZ2.out 3
    have zf3 : wc.frozen? ⟨w.heap.size + 1, 3, none⟩ = false := free_of_heap HZ2.out 3
    have z4 : wc.cell? ⟨w.heap.size + 1, 4, none⟩ = some (.int .i64 0) := cell_of_heap HZ2.out 4
    have zf4 : wc.frozen? ⟨w.heap.size + 1, 4, none⟩ = false := free_of_heap HZ2.out 4
    have z5 : wc.cell? ⟨w.heap.size + 1, 5, none⟩ = some (.int .i64 0) := cell_of_heap HZ2.out 5
    have zf5 : wc.frozen? ⟨w.heap.size + 1, 5, none⟩ = false := free_of_heap HZ2.out 5
    have z6 : wc.cell? ⟨w.heap.size + 1, 6, none⟩ = some (.string ⟨#[]⟩) := cell_of_heap HZ2.out 6
    have zf6 : wc.frozen? ⟨w.heap.size + 1, 6, none⟩ = false := free_of_heap HZ2.out 6
    have HA2 := hidd ((HA.out.below HB.out).below HB2.out)
    have lxc : y < wc.heap.size := HA2.out.lt.1
    have nxz : y ≠ w.heap.size + 1 := by omega
    have nzx : w.heap.size + 1 ≠ y := by omega
    have nxb : y ≠ b := by omega
    have nbx : b ≠ y := by omega
    go_wp2_with fail
    go_quiet (fail)
    go_wp2_with (go_at_call 59; refine (c59k (HA2.out.drewN _) k (by omega) hk hg).mono ?_; rintro e w3 ⟨rfl, rfl⟩)
    refine bodyPost_ret (v := .tuple #[.agg #[.int .i64 k, .int .i64 tt, .int .i64 s', .int .i64 d', .int .i64 t', .int .i64 n', .string x'], .int .i64 0]) ?_ ?_ ?_
    · simp [results, Try.results43, go_sem, y0, y1, y2, y3, y4, y5, y6, z0, z1, z2, z3, z4, z5, z6, nxz, nzx, nxb, nbx]
    · rfl
    · exact ⟨rfl, seven_rp ((HA2.out.drewN _).count (by omega) hk).1 (w.heap.size + 1) (by omega) (by omega) (fun g hg => by have := HVL.out g hg; omega) _ _ _ _ _ _ _, keeps7 (((Keeps.below (HB.out.trans (HB2.out.mono HB.out.size))).drewN _).trans ((HA2.out.drewN _).count (by omega) hk).2) (by omega) _ _ _ _ _ _ _⟩
theorem OwnPk.typ {w : World} {B : Nat} {v : Value} {L : List Pk} (h : OwnPk w B v L) {g : Nat} (hg : v.ownBlock = .some g) : ∃ cs, w.heap[g]? = .some (.cells cs 23 (0, 0)) := by
  rcases h.2 with ⟨rfl, _⟩ | ⟨g', cap, cur, rfl, hb, hh, _⟩
  · simp [Value.ownBlock] at hg
  · simp [Value.ownBlock] at hg
    subst hg
    exact ⟨_, hh⟩
theorem OwnPk.typ_ne {w : World} {B : Nat} {v : Value} {L : List Pk} (h : OwnPk w B v L) {b : Nat} {cs : Array Value} {T : TypeId} {m : Nat × Nat} (hb : w.heap[b]? = .some (.cells cs T m)) (hT : T ≠ 23) : ∀ g, v.ownBlock = .some g → g ≠ b := by
  intro g hg e
  subst e
  obtain ⟨cs', h'⟩ := h.typ hg
  rw [hb] at h'
  simp at h'
  exact hT h'.2.1
set_option maxHeartbeats 1000000 in
theorem c43w {w : World} {y z B n : Nat} {me : Int} {c : Cn} {v : Value} {L : List Pk} (h : RP w y z B n me c v L) {m : Nat} (hc : c.le m) (hm : m ≤ 1000000) (hn : n ≤ 64) (s d t nn : Int) (xx : ByteArray) (next : Int) (ok : Bool) (hp : (⟨s, d, t, nn, xx⟩ : Pk).right = true) (hL : L.length < n)
    (hv : decide22 s d t nn xx me next ok = ⟨3, 0, s, d, t, nn, xx, 0⟩) :
    Calls Try.prog 43 #[.pointer (some ⟨y, 0, none⟩), .agg #[.int .i64 s, .int .i64 d, .int .i64 t, .int .i64 nn, .string xx], .int .i64 next, .bool ok] w fun e w' => e = .returned (.tuple #[.agg #[.int .i64 3, .int .i64 0, .int .i64 s, .int .i64 d, .int .i64 t, .int .i64 nn, .string xx], .int .i64 0]) ∧ (∃ v', RP w' y z B n me (c.inc 3) v' (L ++ [⟨s, d, t, nn, xx⟩])) ∧ Keeps (InRP y z v) w w' := by
  have HV := hidd hv
  have h0 := h.y0
  have HA := hidd h
  have hg : c.get 3 ≤ 1000000 := Nat.le_trans hc.l3 hm
  have HPR := hidd hp
  have HL := hidd hL
  clear hc hp hL
  obtain ⟨l0, l1⟩ := h.lt
  have HVL : Hid (∀ g, v.ownBlock = some g → g < w.heap.size) := hidd (fun g hg => (h.vlt hg).2)
  clear h hv
  go_enter Try.func43, Try.ntmps43
  go_wp2_with fail
  generalize hW : World.alloc (World.alloc w _) _ = W
  have HB : Hid (Below w.heap.size w W) := hidd (hW ▸ Bl_alloc (Bl_alloc (Below.refl _ _) _) _)
  have hs : W.heap.size = w.heap.size + 1 + 1 := by rw [← hW]; simp
  have m0 : W.cell? ⟨y, 0, none⟩ = some (.int .i64 me) := by rw [← hW]; exact alloc_cell (alloc_cell h0)
  have m1 : W.cell? ⟨w.heap.size, 0, none⟩ = some (.int .i64 s) := by rw [← hW]; exact alloc_cell (cell_of_heap (heap_new w _) 0)
  have m2 : W.cell? ⟨w.heap.size, 1, none⟩ = some (.int .i64 d) := by rw [← hW]; exact alloc_cell (cell_of_heap (heap_new w _) 1)
  have m3 : W.cell? ⟨w.heap.size, 2, none⟩ = some (.int .i64 t) := by rw [← hW]; exact alloc_cell (cell_of_heap (heap_new w _) 2)
  have m4 : W.cell? ⟨w.heap.size, 3, none⟩ = some (.int .i64 nn) := by rw [← hW]; exact alloc_cell (cell_of_heap (heap_new w _) 3)
  have m5 : W.cell? ⟨w.heap.size, 4, none⟩ = some (.string xx) := by rw [← hW]; exact alloc_cell (cell_of_heap (heap_new w _) 4)
  have zp : W.heap[w.heap.size]? = some (.cells #[.int .i64 s, .int .i64 d, .int .i64 t, .int .i64 nn, .string xx] 23 (0, 0)) := by rw [← hW]; exact heap_alloc (heap_new w _) _
  have zr : W.heap[w.heap.size + 1]? = some (.cells #[.int .i64 0, .int .i64 0, .int .i64 0, .int .i64 0, .int .i64 0, .int .i64 0, .string ⟨#[]⟩] 25 (0, 0)) := by
    have := heap_new (w.alloc (.cells #[.int .i64 s, .int .i64 d, .int .i64 t, .int .i64 nn, .string xx] 23)) (.cells #[.int .i64 0, .int .i64 0, .int .i64 0, .int .i64 0, .int .i64 0, .int .i64 0, .string ⟨#[]⟩] 25)
    rw [← hW]; simpa using this
  have HZ := hidd zr
  have HP := hidd zp
  have HS := hidd hs
  have ls : w.heap.size + 1 < W.heap.size := by omega
  have lw : w.heap.size < W.heap.size := by omega
  have lx : y < W.heap.size := by omega
  have nx : W.heap.size ≠ y := by omega
  have nw : W.heap.size ≠ w.heap.size := by omega
  clear hW zr zp hs h0
  go_cut [10, 11] (fun p10 e11 wx => Vd W (3) (0) (s) (d) (t) (nn) (xx) 0 p10 e11 wx)
  case first =>
    go_region_held3 (fun w' => w'.cell? ⟨y, 0, none⟩ = some (.int .i64 me) ∧ w'.cell? ⟨w.heap.size, 0, none⟩ = some (.int .i64 s) ∧ w'.cell? ⟨w.heap.size, 1, none⟩ = some (.int .i64 d) ∧ w'.cell? ⟨w.heap.size, 2, none⟩ = some (.int .i64 t) ∧ w'.cell? ⟨w.heap.size, 3, none⟩ = some (.int .i64 nn) ∧ w'.cell? ⟨w.heap.size, 4, none⟩ = some (.string xx)) (refine ⟨?_, ?_, ?_, ?_, ?_, ?_⟩ <;> (repeat (first | with_reducible assumption | (with_reducible refine drew_cell ?_) | (with_reducible refine alloc_cell ?_) | (with_reducible refine setc_cell ?_ (by with_reducible assumption)))))
      (first | (go_at_call 15; refine (c15v _ _ _ _ _ _ _ _ _ _ _ _ _ _ _ _ _ HV.out).mono ?_; rintro e w2 ⟨rfl, hb⟩; (have t0 : w2.cell? ⟨y, 0, none⟩ = some (.int .i64 me) := (hb.cell (p := ⟨y, 0, none⟩) (by first | (simp; done) | (simp; omega))).trans (by first | exact m0 | (exact alloc_cell m0))); (have t1 : w2.cell? ⟨w.heap.size, 0, none⟩ = some (.int .i64 s) := (hb.cell (p := ⟨w.heap.size, 0, none⟩) (by first | (simp; done) | (simp; omega))).trans (by first | exact m1 | (exact alloc_cell m1))); (have t2 : w2.cell? ⟨w.heap.size, 1, none⟩ = some (.int .i64 d) := (hb.cell (p := ⟨w.heap.size, 1, none⟩) (by first | (simp; done) | (simp; omega))).trans (by first | exact m2 | (exact alloc_cell m2))); (have t3 : w2.cell? ⟨w.heap.size, 2, none⟩ = some (.int .i64 t) := (hb.cell (p := ⟨w.heap.size, 2, none⟩) (by first | (simp; done) | (simp; omega))).trans (by first | exact m3 | (exact alloc_cell m3))); (have t4 : w2.cell? ⟨w.heap.size, 3, none⟩ = some (.int .i64 nn) := (hb.cell (p := ⟨w.heap.size, 3, none⟩) (by first | (simp; done) | (simp; omega))).trans (by first | exact m4 | (exact alloc_cell m4))); (have t5 : w2.cell? ⟨w.heap.size, 4, none⟩ = some (.string xx) := (hb.cell (p := ⟨w.heap.size, 4, none⟩) (by first | (simp; done) | (simp; omega))).trans (by first | exact m5 | (exact alloc_cell m5))); (try (have hzz : W.heap.size < W.heap.size + 1 := (by omega); have zl := hb.size; have zc : w2.heap[W.heap.size]? = some (.cells #[.int .i64 0, .int .i64 0, .int .i64 0, .int .i64 0, .int .i64 0, .int .i64 0, .string ⟨#[]⟩] 25 (0, 0)) := (hb.block W.heap.size (by first | (simp; done))).trans (heap_new W _); (have z0 : w2.cell? ⟨W.heap.size, 0, none⟩ = some (.int .i64 0) := cell_of_heap zc 0); (have z1 : w2.cell? ⟨W.heap.size, 1, none⟩ = some (.int .i64 0) := cell_of_heap zc 1); (have z2 : w2.cell? ⟨W.heap.size, 2, none⟩ = some (.int .i64 0) := cell_of_heap zc 2); (have z3 : w2.cell? ⟨W.heap.size, 3, none⟩ = some (.int .i64 0) := cell_of_heap zc 3); (have z4 : w2.cell? ⟨W.heap.size, 4, none⟩ = some (.int .i64 0) := cell_of_heap zc 4); (have z5 : w2.cell? ⟨W.heap.size, 5, none⟩ = some (.int .i64 0) := cell_of_heap zc 5); (have z6 : w2.cell? ⟨W.heap.size, 6, none⟩ = some (.string ⟨#[]⟩) := cell_of_heap zc 6); (have f0 : w2.frozen? ⟨W.heap.size, 0, none⟩ = false := free_of_heap zc 0); (have f1 : w2.frozen? ⟨W.heap.size, 1, none⟩ = false := free_of_heap zc 1); (have f2 : w2.frozen? ⟨W.heap.size, 2, none⟩ = false := free_of_heap zc 2); (have f3 : w2.frozen? ⟨W.heap.size, 3, none⟩ = false := free_of_heap zc 3); (have f4 : w2.frozen? ⟨W.heap.size, 4, none⟩ = false := free_of_heap zc 4); (have f5 : w2.frozen? ⟨W.heap.size, 5, none⟩ = false := free_of_heap zc 5); (have f6 : w2.frozen? ⟨W.heap.size, 6, none⟩ = false := free_of_heap zc 6); (have HZC := hidd zc); clear zc)); (have HB2 := hidd hb); clear hb))
    all_goals (go_wp2_with fail; go_meet)
    · exact vd_one (Bl_drew HB2.out)
    · exact vd_two HZC.out HB2.out
  case rest =>
    obtain ⟨b, rfl, rfl, hz, hWb, hB2⟩ := hcut
    have HB2 := hidd hB2
    have HZ2 := hidd ((Keeps.below (S := fun _ => False) hB2).heapAt HZ.out (fun x => x))
    have HP2 := hidd ((Keeps.below (S := fun _ => False) hB2).heapAt HP.out (fun x => x))
    have HY := hidd hz
    have lb : b < wc.heap.size := (Array.getElem?_eq_some_iff.1 hz).1
    have lz : w.heap.size + 1 < wc.heap.size := (Array.getElem?_eq_some_iff.1 HZ2.out).1
    have nbz : b ≠ w.heap.size + 1 := by omega
    have nzb : w.heap.size + 1 ≠ b := by omega
    clear hz hB2 m0 m1 m2 m3 m4 m5
    have y0 : wc.cell? ⟨b, 0, none⟩ = some (.int .i64 3) := cell_of_heap HY.out 0
    have y1 : wc.cell? ⟨b, 1, none⟩ = some (.int .i64 0) := cell_of_heap HY.out 1
    have y2 : wc.cell? ⟨b, 2, none⟩ = some (.int .i64 s) := cell_of_heap HY.out 2
    have y3 : wc.cell? ⟨b, 3, none⟩ = some (.int .i64 d) := cell_of_heap HY.out 3
    have y4 : wc.cell? ⟨b, 4, none⟩ = some (.int .i64 t) := cell_of_heap HY.out 4
    have y5 : wc.cell? ⟨b, 5, none⟩ = some (.int .i64 nn) := cell_of_heap HY.out 5
    have y6 : wc.cell? ⟨b, 6, none⟩ = some (.string xx) := cell_of_heap HY.out 6
    have p0 : wc.cell? ⟨w.heap.size, 0, none⟩ = some (.int .i64 s) := cell_of_heap HP2.out 0
    have p1 : wc.cell? ⟨w.heap.size, 1, none⟩ = some (.int .i64 d) := cell_of_heap HP2.out 1
    have p2 : wc.cell? ⟨w.heap.size, 2, none⟩ = some (.int .i64 t) := cell_of_heap HP2.out 2
    have p3 : wc.cell? ⟨w.heap.size, 3, none⟩ = some (.int .i64 nn) := cell_of_heap HP2.out 3
    have p4 : wc.cell? ⟨w.heap.size, 4, none⟩ = some (.string xx) := cell_of_heap HP2.out 4
    have HA2 := hidd ((HA.out.below HB.out).below HB2.out)
    have x1 := HA2.out.y1
    have lxc : y < wc.heap.size := HA2.out.lt.1
    have lqc : z < wc.heap.size := HA2.out.lt.2
    have nxz : y ≠ w.heap.size + 1 := by omega
    have nzx : w.heap.size + 1 ≠ y := by omega
    have nxb : y ≠ b := by omega
    have nbx : b ≠ y := by omega
    have nbq : b ≠ z := by omega
    have nzq : w.heap.size + 1 ≠ z := by omega
    have npq : w.heap.size ≠ z := by omega
    go_wp2_with fail
    go_region_held3 (fun w' => w'.cell? ⟨b, 0, none⟩ = some (.int .i64 3) ∧ w'.cell? ⟨y, 1, none⟩ = some (.pointer (some ⟨z, 0, none⟩)) ∧ w'.cell? ⟨w.heap.size, 0, none⟩ = some (.int .i64 s) ∧ w'.cell? ⟨w.heap.size, 1, none⟩ = some (.int .i64 d) ∧ w'.cell? ⟨w.heap.size, 2, none⟩ = some (.int .i64 t) ∧ w'.cell? ⟨w.heap.size, 3, none⟩ = some (.int .i64 nn) ∧ w'.cell? ⟨w.heap.size, 4, none⟩ = some (.string xx)) (refine ⟨?_, ?_, ?_, ?_, ?_, ?_, ?_⟩ <;> (repeat (first | with_reducible assumption | (with_reducible refine drew_cell ?_) | (with_reducible refine alloc_cell ?_))))
      (first | (go_at_call 28; refine (c28g (HA2.out.hR.below (by repeat (first | exact Below.refl _ _ | refine Bl_alloc ?_ _ | refine Below.drewN ?_ _ | refine Below.drew ?_))) ⟨s, d, t, nn, xx⟩ HPR.out HL.out hn).mono ?_; rintro e w3 ⟨rfl, ⟨v', hQ3⟩, hK3⟩; (have HK3 := hidd (hK3.of_below (a := wc) (by repeat (first | exact Below.refl _ _ | refine Bl_alloc ?_ _ | refine Below.drewN ?_ _ | refine Below.drew ?_)))); (have HY3 := hidd (HK3.out.heapAt HY.out (by rintro (h | h); omega; have := HVL.out _ h; omega))); (have HZ3 := hidd (HK3.out.heapAt HZ2.out (by rintro (h | h); omega; have := HVL.out _ h; omega))); (have HX3 := hidd (HK3.out.heapAt HA2.out.hy (by rintro (h | h); exact HA2.out.nz h; have := (HA.out.vlt h).1; have := HA.out.ly; omega))); (have HP3 := hidd (HK3.out.heapAt HP2.out (by rintro (h | h); omega; have := HVL.out _ h; omega))); (have HQ3 := hidd hQ3); (have t0 : w3.cell? ⟨b, 0, none⟩ = some (.int .i64 3) := cell_of_heap HY3.out 0); (have t1 : w3.cell? ⟨b, 1, none⟩ = some (.int .i64 0) := cell_of_heap HY3.out 1); (have t2 : w3.cell? ⟨b, 2, none⟩ = some (.int .i64 s) := cell_of_heap HY3.out 2); (have t3 : w3.cell? ⟨b, 3, none⟩ = some (.int .i64 d) := cell_of_heap HY3.out 3); (have t4 : w3.cell? ⟨b, 4, none⟩ = some (.int .i64 t) := cell_of_heap HY3.out 4); (have t5 : w3.cell? ⟨b, 5, none⟩ = some (.int .i64 nn) := cell_of_heap HY3.out 5); (have t6 : w3.cell? ⟨b, 6, none⟩ = some (.string xx) := cell_of_heap HY3.out 6); (have tx : w3.cell? ⟨y, 1, none⟩ = some (.pointer (some ⟨z, 0, none⟩)) := cell_of_heap HX3.out 1); (have q0 : w3.cell? ⟨w.heap.size, 0, none⟩ = some (.int .i64 s) := cell_of_heap HP3.out 0); (have q1 : w3.cell? ⟨w.heap.size, 1, none⟩ = some (.int .i64 d) := cell_of_heap HP3.out 1); (have q2 : w3.cell? ⟨w.heap.size, 2, none⟩ = some (.int .i64 t) := cell_of_heap HP3.out 2); (have q3 : w3.cell? ⟨w.heap.size, 3, none⟩ = some (.int .i64 nn) := cell_of_heap HP3.out 3); (have q4 : w3.cell? ⟨w.heap.size, 4, none⟩ = some (.string xx) := cell_of_heap HP3.out 4); clear hK3 hQ3))
    have lzc : w.heap.size + 1 < w3.heap.size := (Array.getElem?_eq_some_iff.1 HZ3.out).1
    have lbc : b < w3.heap.size := (Array.getElem?_eq_some_iff.1 HY3.out).1
    have lxd : y < w3.heap.size := (Array.getElem?_eq_some_iff.1 HX3.out).1
    have z0 : w3.cell? ⟨w.heap.size + 1, 0, none⟩ = some (.int .i64 0) := cell_of_heap HZ3.out 0
    have zf0 : w3.frozen? ⟨w.heap.size + 1, 0, none⟩ = false := free_of_heap HZ3.out 0
    have z1 : w3.cell? ⟨w.heap.size + 1, 1, none⟩ = some (.int .i64 0) := cell_of_heap HZ3.out 1
    have zf1 : w3.frozen? ⟨w.heap.size + 1, 1, none⟩ = false := free_of_heap HZ3.out 1
    have z2 : w3.cell? ⟨w.heap.size + 1, 2, none⟩ = some (.int .i64 0) := cell_of_heap HZ3.out 2
    have zf2 : w3.frozen? ⟨w.heap.size + 1, 2, none⟩ = false := free_of_heap HZ3.out 2
    have z3 : w3.cell? ⟨w.heap.size + 1, 3, none⟩ = some (.int .i64 0) := cell_of_heap HZ3.out 3
    have zf3 : w3.frozen? ⟨w.heap.size + 1, 3, none⟩ = false := free_of_heap HZ3.out 3
    have z4 : w3.cell? ⟨w.heap.size + 1, 4, none⟩ = some (.int .i64 0) := cell_of_heap HZ3.out 4
    have zf4 : w3.frozen? ⟨w.heap.size + 1, 4, none⟩ = false := free_of_heap HZ3.out 4
    have z5 : w3.cell? ⟨w.heap.size + 1, 5, none⟩ = some (.int .i64 0) := cell_of_heap HZ3.out 5
    have zf5 : w3.frozen? ⟨w.heap.size + 1, 5, none⟩ = false := free_of_heap HZ3.out 5
    have z6 : w3.cell? ⟨w.heap.size + 1, 6, none⟩ = some (.string ⟨#[]⟩) := cell_of_heap HZ3.out 6
    have zf6 : w3.frozen? ⟨w.heap.size + 1, 6, none⟩ = false := free_of_heap HZ3.out 6
    have HA3 : Hid (RP w3 y z B n me c _ _) := hidd ⟨HX3.out, HQ3.out, HA.out.ly, HA.out.nz⟩
    have HVN : Hid (∀ g, v'.ownBlock = some g → g ≠ b ∧ g ≠ w.heap.size + 1) := hidd (fun g hg => ⟨HQ3.out.ho.typ_ne HY3.out (by decide) g hg, HQ3.out.ho.typ_ne HZ3.out (by decide) g hg⟩)
    have HK4 : Hid (Keeps (InRP y z v) w w3) := hidd ((Keeps.below (HB.out.trans (HB2.out.mono HB.out.size))).trans (HK3.out.mono (fun _ _ h => .inr h)))
    go_wp2_with fail
    refine (c59_3 HA3.out hg).mono ?_
    rintro e w5 ⟨rfl, rfl⟩
    go_wp2
    refine bodyPost_ret (v := .tuple #[.agg #[.int .i64 3, .int .i64 0, .int .i64 s, .int .i64 d, .int .i64 t, .int .i64 nn, .string xx], .int .i64 0]) ?_ ?_ ?_
    · simp [results, Try.results43, go_sem, t0, t1, t2, t3, t4, t5, t6, z0, z1, z2, z3, z4, z5, z6, nxz, nzx, nxb, nbx]
    · rfl
    · exact ⟨rfl, ⟨_, seven_rp (HA3.out.count (k := 3) (by omega) (by omega)).1 (w.heap.size + 1) (by omega) (by omega) (fun g hg => (HVN.out g hg).2) _ _ _ _ _ _ _⟩, keeps7 (HK4.out.trans (((Keeps.refl _ w3).setCell (.inr (.inl rfl)) _))) (by omega) _ _ _ _ _ _ _⟩
set_option maxHeartbeats 1000000 in
theorem c43f {w : World} {y z B n : Nat} {me : Int} {c : Cn} {v : Value} {L : List Pk} (h : RP w y z B n me c v L) {m : Nat} (hc : c.le m) (hm : m ≤ 1000000) (s d t nn : Int) (xx : ByteArray) (next : Int) (ok : Bool) (hp : (⟨s, d, t, nn, xx⟩ : Pk).right = true) (hL : L.length = n)
    (hv : decide22 s d t nn xx me next ok = ⟨3, 0, s, d, t, nn, xx, 0⟩) :
    Calls Try.prog 43 #[.pointer (some ⟨y, 0, none⟩), .agg #[.int .i64 s, .int .i64 d, .int .i64 t, .int .i64 nn, .string xx], .int .i64 next, .bool ok] w fun e w' => e = .returned (.tuple #[.agg #[.int .i64 5, .int .i64 0, .int .i64 s, .int .i64 d, .int .i64 t, .int .i64 nn, .string xx], .int .i64 0]) ∧ RP w' y z B n me (c.inc 5) v L ∧ Keeps (InRP y z v) w w' := by
  have HV := hidd hv
  have h0 := h.y0
  have HA := hidd h
  have hg : c.get 5 ≤ 1000000 := Nat.le_trans hc.l5 hm
  have HPR := hidd hp
  have HL := hidd hL
  clear hc hp hL
  obtain ⟨l0, l1⟩ := h.lt
  have HVL : Hid (∀ g, v.ownBlock = some g → g < w.heap.size) := hidd (fun g hg => (h.vlt hg).2)
  clear h hv
  go_enter Try.func43, Try.ntmps43
  go_wp2_with fail
  generalize hW : World.alloc (World.alloc w _) _ = W
  have HB : Hid (Below w.heap.size w W) := hidd (hW ▸ Bl_alloc (Bl_alloc (Below.refl _ _) _) _)
  have hs : W.heap.size = w.heap.size + 1 + 1 := by rw [← hW]; simp
  have m0 : W.cell? ⟨y, 0, none⟩ = some (.int .i64 me) := by rw [← hW]; exact alloc_cell (alloc_cell h0)
  have m1 : W.cell? ⟨w.heap.size, 0, none⟩ = some (.int .i64 s) := by rw [← hW]; exact alloc_cell (cell_of_heap (heap_new w _) 0)
  have m2 : W.cell? ⟨w.heap.size, 1, none⟩ = some (.int .i64 d) := by rw [← hW]; exact alloc_cell (cell_of_heap (heap_new w _) 1)
  have m3 : W.cell? ⟨w.heap.size, 2, none⟩ = some (.int .i64 t) := by rw [← hW]; exact alloc_cell (cell_of_heap (heap_new w _) 2)
  have m4 : W.cell? ⟨w.heap.size, 3, none⟩ = some (.int .i64 nn) := by rw [← hW]; exact alloc_cell (cell_of_heap (heap_new w _) 3)
  have m5 : W.cell? ⟨w.heap.size, 4, none⟩ = some (.string xx) := by rw [← hW]; exact alloc_cell (cell_of_heap (heap_new w _) 4)
  have zp : W.heap[w.heap.size]? = some (.cells #[.int .i64 s, .int .i64 d, .int .i64 t, .int .i64 nn, .string xx] 23 (0, 0)) := by rw [← hW]; exact heap_alloc (heap_new w _) _
  have zr : W.heap[w.heap.size + 1]? = some (.cells #[.int .i64 0, .int .i64 0, .int .i64 0, .int .i64 0, .int .i64 0, .int .i64 0, .string ⟨#[]⟩] 25 (0, 0)) := by
    have := heap_new (w.alloc (.cells #[.int .i64 s, .int .i64 d, .int .i64 t, .int .i64 nn, .string xx] 23)) (.cells #[.int .i64 0, .int .i64 0, .int .i64 0, .int .i64 0, .int .i64 0, .int .i64 0, .string ⟨#[]⟩] 25)
    rw [← hW]; simpa using this
  have HZ := hidd zr
  have HP := hidd zp
  have HS := hidd hs
  have ls : w.heap.size + 1 < W.heap.size := by omega
  have lw : w.heap.size < W.heap.size := by omega
  have lx : y < W.heap.size := by omega
  have nx : W.heap.size ≠ y := by omega
  have nw : W.heap.size ≠ w.heap.size := by omega
  clear hW zr zp hs h0
  go_cut [10, 11] (fun p10 e11 wx => Vd W (3) (0) (s) (d) (t) (nn) (xx) 0 p10 e11 wx)
  case first =>
    go_region_held3 (fun w' => w'.cell? ⟨y, 0, none⟩ = some (.int .i64 me) ∧ w'.cell? ⟨w.heap.size, 0, none⟩ = some (.int .i64 s) ∧ w'.cell? ⟨w.heap.size, 1, none⟩ = some (.int .i64 d) ∧ w'.cell? ⟨w.heap.size, 2, none⟩ = some (.int .i64 t) ∧ w'.cell? ⟨w.heap.size, 3, none⟩ = some (.int .i64 nn) ∧ w'.cell? ⟨w.heap.size, 4, none⟩ = some (.string xx)) (refine ⟨?_, ?_, ?_, ?_, ?_, ?_⟩ <;> (repeat (first | with_reducible assumption | (with_reducible refine drew_cell ?_) | (with_reducible refine alloc_cell ?_) | (with_reducible refine setc_cell ?_ (by with_reducible assumption)))))
      (first | (go_at_call 15; refine (c15v _ _ _ _ _ _ _ _ _ _ _ _ _ _ _ _ _ HV.out).mono ?_; rintro e w2 ⟨rfl, hb⟩; (have t0 : w2.cell? ⟨y, 0, none⟩ = some (.int .i64 me) := (hb.cell (p := ⟨y, 0, none⟩) (by first | (simp; done) | (simp; omega))).trans (by first | exact m0 | (exact alloc_cell m0))); (have t1 : w2.cell? ⟨w.heap.size, 0, none⟩ = some (.int .i64 s) := (hb.cell (p := ⟨w.heap.size, 0, none⟩) (by first | (simp; done) | (simp; omega))).trans (by first | exact m1 | (exact alloc_cell m1))); (have t2 : w2.cell? ⟨w.heap.size, 1, none⟩ = some (.int .i64 d) := (hb.cell (p := ⟨w.heap.size, 1, none⟩) (by first | (simp; done) | (simp; omega))).trans (by first | exact m2 | (exact alloc_cell m2))); (have t3 : w2.cell? ⟨w.heap.size, 2, none⟩ = some (.int .i64 t) := (hb.cell (p := ⟨w.heap.size, 2, none⟩) (by first | (simp; done) | (simp; omega))).trans (by first | exact m3 | (exact alloc_cell m3))); (have t4 : w2.cell? ⟨w.heap.size, 3, none⟩ = some (.int .i64 nn) := (hb.cell (p := ⟨w.heap.size, 3, none⟩) (by first | (simp; done) | (simp; omega))).trans (by first | exact m4 | (exact alloc_cell m4))); (have t5 : w2.cell? ⟨w.heap.size, 4, none⟩ = some (.string xx) := (hb.cell (p := ⟨w.heap.size, 4, none⟩) (by first | (simp; done) | (simp; omega))).trans (by first | exact m5 | (exact alloc_cell m5))); (try (have hzz : W.heap.size < W.heap.size + 1 := (by omega); have zl := hb.size; have zc : w2.heap[W.heap.size]? = some (.cells #[.int .i64 0, .int .i64 0, .int .i64 0, .int .i64 0, .int .i64 0, .int .i64 0, .string ⟨#[]⟩] 25 (0, 0)) := (hb.block W.heap.size (by first | (simp; done))).trans (heap_new W _); (have z0 : w2.cell? ⟨W.heap.size, 0, none⟩ = some (.int .i64 0) := cell_of_heap zc 0); (have z1 : w2.cell? ⟨W.heap.size, 1, none⟩ = some (.int .i64 0) := cell_of_heap zc 1); (have z2 : w2.cell? ⟨W.heap.size, 2, none⟩ = some (.int .i64 0) := cell_of_heap zc 2); (have z3 : w2.cell? ⟨W.heap.size, 3, none⟩ = some (.int .i64 0) := cell_of_heap zc 3); (have z4 : w2.cell? ⟨W.heap.size, 4, none⟩ = some (.int .i64 0) := cell_of_heap zc 4); (have z5 : w2.cell? ⟨W.heap.size, 5, none⟩ = some (.int .i64 0) := cell_of_heap zc 5); (have z6 : w2.cell? ⟨W.heap.size, 6, none⟩ = some (.string ⟨#[]⟩) := cell_of_heap zc 6); (have f0 : w2.frozen? ⟨W.heap.size, 0, none⟩ = false := free_of_heap zc 0); (have f1 : w2.frozen? ⟨W.heap.size, 1, none⟩ = false := free_of_heap zc 1); (have f2 : w2.frozen? ⟨W.heap.size, 2, none⟩ = false := free_of_heap zc 2); (have f3 : w2.frozen? ⟨W.heap.size, 3, none⟩ = false := free_of_heap zc 3); (have f4 : w2.frozen? ⟨W.heap.size, 4, none⟩ = false := free_of_heap zc 4); (have f5 : w2.frozen? ⟨W.heap.size, 5, none⟩ = false := free_of_heap zc 5); (have f6 : w2.frozen? ⟨W.heap.size, 6, none⟩ = false := free_of_heap zc 6); (have HZC := hidd zc); clear zc)); (have HB2 := hidd hb); clear hb))
    all_goals (go_wp2_with fail; go_meet)
    · exact vd_one (Bl_drew HB2.out)
    · exact vd_two HZC.out HB2.out
  case rest =>
    obtain ⟨b, rfl, rfl, hz, hWb, hB2⟩ := hcut
    have HB2 := hidd hB2
    have HZ2 := hidd ((Keeps.below (S := fun _ => False) hB2).heapAt HZ.out (fun x => x))
    have HP2 := hidd ((Keeps.below (S := fun _ => False) hB2).heapAt HP.out (fun x => x))
    have HY := hidd hz
    have lb : b < wc.heap.size := (Array.getElem?_eq_some_iff.1 hz).1
    have lz : w.heap.size + 1 < wc.heap.size := (Array.getElem?_eq_some_iff.1 HZ2.out).1
    have nbz : b ≠ w.heap.size + 1 := by omega
    have nzb : w.heap.size + 1 ≠ b := by omega
    clear hz hB2 m0 m1 m2 m3 m4 m5
    have y0 : wc.cell? ⟨b, 0, none⟩ = some (.int .i64 3) := cell_of_heap HY.out 0
    have y1 : wc.cell? ⟨b, 1, none⟩ = some (.int .i64 0) := cell_of_heap HY.out 1
    have y2 : wc.cell? ⟨b, 2, none⟩ = some (.int .i64 s) := cell_of_heap HY.out 2
    have y3 : wc.cell? ⟨b, 3, none⟩ = some (.int .i64 d) := cell_of_heap HY.out 3
    have y4 : wc.cell? ⟨b, 4, none⟩ = some (.int .i64 t) := cell_of_heap HY.out 4
    have y5 : wc.cell? ⟨b, 5, none⟩ = some (.int .i64 nn) := cell_of_heap HY.out 5
    have y6 : wc.cell? ⟨b, 6, none⟩ = some (.string xx) := cell_of_heap HY.out 6
    have p0 : wc.cell? ⟨w.heap.size, 0, none⟩ = some (.int .i64 s) := cell_of_heap HP2.out 0
    have p1 : wc.cell? ⟨w.heap.size, 1, none⟩ = some (.int .i64 d) := cell_of_heap HP2.out 1
    have p2 : wc.cell? ⟨w.heap.size, 2, none⟩ = some (.int .i64 t) := cell_of_heap HP2.out 2
    have p3 : wc.cell? ⟨w.heap.size, 3, none⟩ = some (.int .i64 nn) := cell_of_heap HP2.out 3
    have p4 : wc.cell? ⟨w.heap.size, 4, none⟩ = some (.string xx) := cell_of_heap HP2.out 4
    have HA2 := hidd ((HA.out.below HB.out).below HB2.out)
    have x1 := HA2.out.y1
    have lxc : y < wc.heap.size := HA2.out.lt.1
    have lqc : z < wc.heap.size := HA2.out.lt.2
    have nxz : y ≠ w.heap.size + 1 := by omega
    have nzx : w.heap.size + 1 ≠ y := by omega
    have nxb : y ≠ b := by omega
    have nbx : b ≠ y := by omega
    have nbq : b ≠ z := by omega
    have nzq : w.heap.size + 1 ≠ z := by omega
    have npq : w.heap.size ≠ z := by omega
    go_wp2_with fail
    go_region_held3 (fun w' => w'.cell? ⟨b, 0, none⟩ = some (.int .i64 3) ∧ w'.cell? ⟨y, 1, none⟩ = some (.pointer (some ⟨z, 0, none⟩)) ∧ w'.cell? ⟨w.heap.size, 0, none⟩ = some (.int .i64 s) ∧ w'.cell? ⟨w.heap.size, 1, none⟩ = some (.int .i64 d) ∧ w'.cell? ⟨w.heap.size, 2, none⟩ = some (.int .i64 t) ∧ w'.cell? ⟨w.heap.size, 3, none⟩ = some (.int .i64 nn) ∧ w'.cell? ⟨w.heap.size, 4, none⟩ = some (.string xx)) (refine ⟨?_, ?_, ?_, ?_, ?_, ?_, ?_⟩ <;> (repeat (first | with_reducible assumption | (with_reducible refine drew_cell ?_) | (with_reducible refine alloc_cell ?_))))
      (first | (go_at_call 28; refine (c28f (HA2.out.hR.below (by repeat (first | exact Below.refl _ _ | refine Bl_alloc ?_ _ | refine Below.drewN ?_ _ | refine Below.drew ?_))) ⟨s, d, t, nn, xx⟩ HPR.out HL.out).mono ?_; rintro e w3 ⟨rfl, hB3⟩; (have hK3 := Keeps.below (S := InR z v) hB3); (have hQ3 : RQ w3 z B n v L := (HA2.out.hR.below (w' := _) (by repeat (first | exact Below.refl _ _ | refine Bl_alloc ?_ _ | refine Below.drewN ?_ _ | refine Below.drew ?_))).below hB3); (have HK3 := hidd (hK3.of_below (a := wc) (by repeat (first | exact Below.refl _ _ | refine Bl_alloc ?_ _ | refine Below.drewN ?_ _ | refine Below.drew ?_)))); (have HY3 := hidd (HK3.out.heapAt HY.out (by rintro (h | h); omega; have := HVL.out _ h; omega))); (have HZ3 := hidd (HK3.out.heapAt HZ2.out (by rintro (h | h); omega; have := HVL.out _ h; omega))); (have HX3 := hidd (HK3.out.heapAt HA2.out.hy (by rintro (h | h); exact HA2.out.nz h; have := (HA.out.vlt h).1; have := HA.out.ly; omega))); (have HP3 := hidd (HK3.out.heapAt HP2.out (by rintro (h | h); omega; have := HVL.out _ h; omega))); (have HQ3 := hidd hQ3); (have t0 : w3.cell? ⟨b, 0, none⟩ = some (.int .i64 3) := cell_of_heap HY3.out 0); (have t1 : w3.cell? ⟨b, 1, none⟩ = some (.int .i64 0) := cell_of_heap HY3.out 1); (have t2 : w3.cell? ⟨b, 2, none⟩ = some (.int .i64 s) := cell_of_heap HY3.out 2); (have t3 : w3.cell? ⟨b, 3, none⟩ = some (.int .i64 d) := cell_of_heap HY3.out 3); (have t4 : w3.cell? ⟨b, 4, none⟩ = some (.int .i64 t) := cell_of_heap HY3.out 4); (have t5 : w3.cell? ⟨b, 5, none⟩ = some (.int .i64 nn) := cell_of_heap HY3.out 5); (have t6 : w3.cell? ⟨b, 6, none⟩ = some (.string xx) := cell_of_heap HY3.out 6); (have tx : w3.cell? ⟨y, 1, none⟩ = some (.pointer (some ⟨z, 0, none⟩)) := cell_of_heap HX3.out 1); (have q0 : w3.cell? ⟨w.heap.size, 0, none⟩ = some (.int .i64 s) := cell_of_heap HP3.out 0); (have q1 : w3.cell? ⟨w.heap.size, 1, none⟩ = some (.int .i64 d) := cell_of_heap HP3.out 1); (have q2 : w3.cell? ⟨w.heap.size, 2, none⟩ = some (.int .i64 t) := cell_of_heap HP3.out 2); (have q3 : w3.cell? ⟨w.heap.size, 3, none⟩ = some (.int .i64 nn) := cell_of_heap HP3.out 3); (have q4 : w3.cell? ⟨w.heap.size, 4, none⟩ = some (.string xx) := cell_of_heap HP3.out 4); clear hK3 hQ3))
    have lzc : w.heap.size + 1 < w3.heap.size := (Array.getElem?_eq_some_iff.1 HZ3.out).1
    have lbc : b < w3.heap.size := (Array.getElem?_eq_some_iff.1 HY3.out).1
    have lxd : y < w3.heap.size := (Array.getElem?_eq_some_iff.1 HX3.out).1
    have z0 : w3.cell? ⟨w.heap.size + 1, 0, none⟩ = some (.int .i64 0) := cell_of_heap HZ3.out 0
    have zf0 : w3.frozen? ⟨w.heap.size + 1, 0, none⟩ = false := free_of_heap HZ3.out 0
    have z1 : w3.cell? ⟨w.heap.size + 1, 1, none⟩ = some (.int .i64 0) := cell_of_heap HZ3.out 1
    have zf1 : w3.frozen? ⟨w.heap.size + 1, 1, none⟩ = false := free_of_heap HZ3.out 1
    have z2 : w3.cell? ⟨w.heap.size + 1, 2, none⟩ = some (.int .i64 0) := cell_of_heap HZ3.out 2
    have zf2 : w3.frozen? ⟨w.heap.size + 1, 2, none⟩ = false := free_of_heap HZ3.out 2
    have z3 : w3.cell? ⟨w.heap.size + 1, 3, none⟩ = some (.int .i64 0) := cell_of_heap HZ3.out 3
    have zf3 : w3.frozen? ⟨w.heap.size + 1, 3, none⟩ = false := free_of_heap HZ3.out 3
    have z4 : w3.cell? ⟨w.heap.size + 1, 4, none⟩ = some (.int .i64 0) := cell_of_heap HZ3.out 4
    have zf4 : w3.frozen? ⟨w.heap.size + 1, 4, none⟩ = false := free_of_heap HZ3.out 4
    have z5 : w3.cell? ⟨w.heap.size + 1, 5, none⟩ = some (.int .i64 0) := cell_of_heap HZ3.out 5
    have zf5 : w3.frozen? ⟨w.heap.size + 1, 5, none⟩ = false := free_of_heap HZ3.out 5
    have z6 : w3.cell? ⟨w.heap.size + 1, 6, none⟩ = some (.string ⟨#[]⟩) := cell_of_heap HZ3.out 6
    have zf6 : w3.frozen? ⟨w.heap.size + 1, 6, none⟩ = false := free_of_heap HZ3.out 6
    have bf := free_of_heap HY3.out 0
    have HA3 : Hid (RP w3 y z B n me c _ _) := hidd ⟨HX3.out, HQ3.out, HA.out.ly, HA.out.nz⟩
    go_wp2_with fail
    clear t0 t1 t2 t3 t4 t5 t6 z0 z1 z2 z3 z4 z5 z6 zf0 zf1 zf2 zf3 zf4 zf5 zf6
    generalize hw4 : World.setCell w3 _ _ = w4
    have HA4 : Hid (RP w4 y z B n me c v L) := hidd (hw4 ▸ HA3.out.keeps ((Keeps.refl (fun g => g = b) w3).setCell (.inr rfl) _) nxb (Ne.symm nbq) (fun g hg e => by have := HVL.out g hg; omega))
    have HK4 : Hid (Keeps (InRP y z v) w w4) := hidd (hw4 ▸ ((Keeps.below (HB.out.trans (HB2.out.mono HB.out.size))).trans (HK3.out.mono (fun _ _ h => .inr h))).setCell (.inl (show w.heap.size ≤ b by omega)) _)
    have HY4 : Hid (w4.heap[b]? = some (.cells #[.int .i64 5, .int .i64 0, .int .i64 s, .int .i64 d, .int .i64 t, .int .i64 nn, .string xx] 25 (0, 0))) := hidd (hw4 ▸ heap_set HY3.out 0 (.int .i64 5))
    have HZ4 : Hid (w4.heap[w.heap.size + 1]? = some (.cells #[.int .i64 0, .int .i64 0, .int .i64 0, .int .i64 0, .int .i64 0, .int .i64 0, .string ⟨#[]⟩] 25 (0, 0))) := hidd (hw4 ▸ heap_set_ne HZ3.out (by omega) _ _)
    have lw4 : w4.heap.size = w3.heap.size := by rw [← hw4]; simp [World.setCell]
    clear hw4
    have lxe : y < w4.heap.size := HA4.out.lt.1
    have lbe : b < w4.heap.size := by omega
    have lze : w.heap.size + 1 < w4.heap.size := by omega
    have t0 : w4.cell? ⟨b, 0, none⟩ = some (.int .i64 5) := cell_of_heap HY4.out 0
    have t1 : w4.cell? ⟨b, 1, none⟩ = some (.int .i64 0) := cell_of_heap HY4.out 1
    have t2 : w4.cell? ⟨b, 2, none⟩ = some (.int .i64 s) := cell_of_heap HY4.out 2
    have t3 : w4.cell? ⟨b, 3, none⟩ = some (.int .i64 d) := cell_of_heap HY4.out 3
    have t4 : w4.cell? ⟨b, 4, none⟩ = some (.int .i64 t) := cell_of_heap HY4.out 4
    have t5 : w4.cell? ⟨b, 5, none⟩ = some (.int .i64 nn) := cell_of_heap HY4.out 5
    have t6 : w4.cell? ⟨b, 6, none⟩ = some (.string xx) := cell_of_heap HY4.out 6
    have z0 : w4.cell? ⟨w.heap.size + 1, 0, none⟩ = some (.int .i64 0) := cell_of_heap HZ4.out 0
    have zf0 : w4.frozen? ⟨w.heap.size + 1, 0, none⟩ = false := free_of_heap HZ4.out 0
    have z1 : w4.cell? ⟨w.heap.size + 1, 1, none⟩ = some (.int .i64 0) := cell_of_heap HZ4.out 1
    have zf1 : w4.frozen? ⟨w.heap.size + 1, 1, none⟩ = false := free_of_heap HZ4.out 1
    have z2 : w4.cell? ⟨w.heap.size + 1, 2, none⟩ = some (.int .i64 0) := cell_of_heap HZ4.out 2
    have zf2 : w4.frozen? ⟨w.heap.size + 1, 2, none⟩ = false := free_of_heap HZ4.out 2
    have z3 : w4.cell? ⟨w.heap.size + 1, 3, none⟩ = some (.int .i64 0) := cell_of_heap HZ4.out 3
    have zf3 : w4.frozen? ⟨w.heap.size + 1, 3, none⟩ = false := free_of_heap HZ4.out 3
    have z4 : w4.cell? ⟨w.heap.size + 1, 4, none⟩ = some (.int .i64 0) := cell_of_heap HZ4.out 4
    have zf4 : w4.frozen? ⟨w.heap.size + 1, 4, none⟩ = false := free_of_heap HZ4.out 4
    have z5 : w4.cell? ⟨w.heap.size + 1, 5, none⟩ = some (.int .i64 0) := cell_of_heap HZ4.out 5
    have zf5 : w4.frozen? ⟨w.heap.size + 1, 5, none⟩ = false := free_of_heap HZ4.out 5
    have z6 : w4.cell? ⟨w.heap.size + 1, 6, none⟩ = some (.string ⟨#[]⟩) := cell_of_heap HZ4.out 6
    have zf6 : w4.frozen? ⟨w.heap.size + 1, 6, none⟩ = false := free_of_heap HZ4.out 6
    refine (c59_5 HA4.out hg).mono ?_
    rintro e w5 ⟨rfl, rfl⟩
    go_wp2
    refine bodyPost_ret (v := .tuple #[.agg #[.int .i64 5, .int .i64 0, .int .i64 s, .int .i64 d, .int .i64 t, .int .i64 nn, .string xx], .int .i64 0]) ?_ ?_ ?_
    · simp [results, Try.results43, go_sem, t0, t1, t2, t3, t4, t5, t6, z0, z1, z2, z3, z4, z5, z6, nxz, nzx, nxb, nbx]
    · rfl
    · exact ⟨rfl, seven_rp (HA4.out.count (k := 5) (by omega) (by omega)).1 (w.heap.size + 1) (by omega) (by omega) (fun g hg => by have := HVL.out g hg; omega) _ _ _ _ _ _ _, keeps7 (HK4.out.trans ((HA4.out.count (k := 5) (by omega) (by omega)).2)) (by omega) _ _ _ _ _ _ _⟩
/-- Take of the reference, whatever comes. -/
theorem c43 {w : World} {y z B n : Nat} {me : Int} {c : Cn} {v : Value} {L : List Pk} (h : RP w y z B n me c v L) {m : Nat} (hc : c.le m) (hm : m ≤ 1000000) (hn : n ≤ 64) (hLn : L.length ≤ n) (p : Pk) (next : Int) (ok : Bool) :
    Calls Try.prog 43 #[.pointer (some ⟨y, 0, none⟩), p.val, .int .i64 next, .bool ok] w fun e w' => e = .returned (takeV n L p me next ok).val ∧ (∃ v', RP w' y z B n me (takeC c n L p me next ok) v' (takeL n L p me next ok)) ∧ Keeps (InRP y z v) w w' := by
  obtain ⟨s, d, t, nn, xx⟩ := p
  rcases dec_cases s d t nn xx me next ok with hv | ⟨hr, hv⟩ | ⟨k, tt, t', hk, hk3, _, hk0, hr, hv⟩
  · obtain ⟨e1, e2, e3⟩ := take_none (p := ⟨s, d, t, nn, xx⟩) n L c hv
    rw [e1, e2, e3]
    exact (c43e h s d t nn xx next ok hv).mono fun e w' he => ⟨he.1, ⟨_, h.below he.2⟩, Keeps.below he.2⟩
  · rcases Nat.lt_or_ge L.length n with hl | hl
    · obtain ⟨e1, e2, e3⟩ := take_wait (p := ⟨s, d, t, nn, xx⟩) c hv hl
      rw [e1, e2, e3]
      exact (c43w h hc hm hn s d t nn xx next ok hr hl hv).mono fun e w' he => ⟨he.1, he.2.1, he.2.2⟩
    · have hl' : L.length = n := by omega
      obtain ⟨e1, e2, e3⟩ := take_full (p := ⟨s, d, t, nn, xx⟩) c hv hl'
      rw [e1, e2, e3]
      exact (c43f h hc hm s d t nn xx next ok hr hl' hv).mono fun e w' he => ⟨he.1, ⟨_, he.2.1⟩, he.2.2⟩
  · obtain ⟨e1, e2, e3⟩ := take_other (p := ⟨s, d, t, nn, xx⟩) n L c hk3 hv
    rw [e1, e2, e3]
    exact (c43k h hc hm s d t nn xx next ok k tt s d t' nn xx hk hk3 hk0 hv).mono fun e w' he => ⟨he.1, ⟨_, he.2.1⟩, he.2.2⟩
end Go.Proofs.Ytnlcibobhmcfpaa
