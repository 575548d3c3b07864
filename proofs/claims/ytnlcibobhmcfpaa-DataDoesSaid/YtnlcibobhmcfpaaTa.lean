/- Planes as plain data: the counts, what a verdict is in memory; the walks of the atomic sum, of data.New, data.Waits. -/
import Derived.Test.YtnlcibobhmcfpaaSe
import Derived.Deep.RegionHeld3
import Derived.Deep.DrawnRows
set_option linter.unusedSimpArgs false
namespace Go.Proofs.Ytnlcibobhmcfpaa
open Go.RowKit
structure Cn where
  (c0 c1 c2 c3 c4 c5 : Nat)
def Cn.zero : Cn := ⟨0, 0, 0, 0, 0, 0⟩
def Cn.inc (c : Cn) (k : Int) : Cn :=
  if k = 1 then { c with c1 := c.c1 + 1 } else if k = 2 then { c with c2 := c.c2 + 1 } else if k = 3 then { c with c3 := c.c3 + 1 } else if k = 4 then { c with c4 := c.c4 + 1 } else if k = 5 then { c with c5 := c.c5 + 1 } else { c with c0 := c.c0 + 1 }
structure Cn.le (c : Cn) (m : Nat) : Prop where
  (l0 : c.c0 ≤ m) (l1 : c.c1 ≤ m) (l2 : c.c2 ≤ m) (l3 : c.c3 ≤ m) (l4 : c.c4 ≤ m) (l5 : c.c5 ≤ m)
theorem Cn.le_inc {c : Cn} {m : Nat} (h : c.le m) (k : Int) : (c.inc k).le (m + 1) := by
  obtain ⟨l0, l1, l2, l3, l4, l5⟩ := h
  unfold Cn.inc
  repeat' split
  all_goals constructor <;> simp <;> omega
theorem Cn.le_mono {c : Cn} {m n : Nat} (h : c.le m) (hmn : m ≤ n) : c.le n := by
  obtain ⟨l0, l1, l2, l3, l4, l5⟩ := h
  constructor <;> omega
def Cn.cells (c : Cn) : List Value := [.int .i64 c.c0, .int .i64 c.c1, .int .i64 c.c2, .int .i64 c.c3, .int .i64 c.c4, .int .i64 c.c5]
def Cn.get (c : Cn) (k : Nat) : Nat := match k with | 0 => c.c0 | 1 => c.c1 | 2 => c.c2 | 3 => c.c3 | 4 => c.c4 | 5 => c.c5 | _ => 0
/-- A plane in memory: block x; its queue from block q, the ring r. -/
structure PAt (w : World) (x q r n f : Nat) (R L : List Pk) (me : Int) (c : Cn) : Prop where
  hx : w.heap[x]? = some (.cells #[.int .i64 me, .pointer (some ⟨q, 0, none⟩), .int .i64 c.c0, .int .i64 c.c1, .int .i64 c.c2, .int .i64 c.c3, .int .i64 c.c4, .int .i64 c.c5] 94 (0, 0))
  hQ : QAt w q r n f R L
  nq : x ≠ q
  nr : x ≠ r
def InP (x q r : Nat) (k : Nat) : Prop := k = x ∨ InQ q r k
theorem PAt.keeps {w w' : World} {x q r n f : Nat} {R L : List Pk} {me : Int} {c : Cn} (h : PAt w x q r n f R L me c) {S : Nat → Prop} (k : Keeps S w w') (hx : ¬ S x) (hq : ¬ S q) (hr : ¬ S r) : PAt w' x q r n f R L me c :=
  ⟨k.heapAt h.hx hx, h.hQ.keeps k hq hr, h.nq, h.nr⟩
theorem PAt.below {w w' : World} {x q r n f : Nat} {R L : List Pk} {me : Int} {c : Cn} (h : PAt w x q r n f R L me c) (k : Below w.heap.size w w') : PAt w' x q r n f R L me c :=
  h.keeps (Keeps.below (S := fun _ => False) k) (fun x => x) (fun x => x) (fun x => x)
theorem PAt.drewN {w : World} {x q r n f : Nat} {R L : List Pk} {me : Int} {c : Cn} (h : PAt w x q r n f R L me c) (m : Nat) : PAt (w.drewN m) x q r n f R L me c := h.below ((Below.refl _ _).drewN m)
theorem PAt.lt {w : World} {x q r n f : Nat} {R L : List Pk} {me : Int} {c : Cn} (h : PAt w x q r n f R L me c) : x < w.heap.size ∧ q < w.heap.size ∧ r < w.heap.size :=
  ⟨(Array.getElem?_eq_some_iff.1 h.hx).1, h.hQ.lt.1, h.hQ.lt.2⟩
theorem PAt.x0 {w : World} {x q r n f : Nat} {R L : List Pk} {me : Int} {c : Cn} (h : PAt w x q r n f R L me c) : w.cell? ⟨x, 0, none⟩ = some (.int .i64 me) := cell_of_heap h.hx 0
theorem PAt.x1 {w : World} {x q r n f : Nat} {R L : List Pk} {me : Int} {c : Cn} (h : PAt w x q r n f R L me c) : w.cell? ⟨x, 1, none⟩ = some (.pointer (some ⟨q, 0, none⟩)) := cell_of_heap h.hx 1
theorem PAt.cnt {w : World} {x q r n f : Nat} {R L : List Pk} {me : Int} {c : Cn} (h : PAt w x q r n f R L me c) {k : Nat} (hk : k < 6) : w.cell? ⟨x, 2 + k, none⟩ = some (.int .i64 (c.get k)) := by
  have := cell_of_heap h.hx (2 + k)
  rw [this]
  match k, hk with
  | 0, _ => rfl
  | 1, _ => rfl
  | 2, _ => rfl
  | 3, _ => rfl
  | 4, _ => rfl
  | 5, _ => rfl
theorem PAt.count {w : World} {x q r n f : Nat} {R L : List Pk} {me : Int} {c : Cn} (h : PAt w x q r n f R L me c) {k : Nat} (hk : k < 6) :
    PAt (w.setCell ⟨x, 2 + k, none⟩ (.int .i64 ((c.get k : Int) + 1))) x q r n f R L me (c.inc k) ∧ Keeps (InP x q r) w (w.setCell ⟨x, 2 + k, none⟩ (.int .i64 ((c.get k : Int) + 1))) := by
  have h2 := heap_set h.hx (2 + k) (.int .i64 ((c.get k : Int) + 1))
  refine ⟨⟨?_, h.hQ.keeps ((Keeps.refl (fun g => g = x) w).setCell (.inr rfl) _) (fun e => h.nq e.symm) (fun e => h.nr e.symm), h.nq, h.nr⟩, (Keeps.refl _ w).setCell (.inr (.inl rfl)) _⟩
  rw [h2]
  match k, hk with
  | 0, _ => rfl
  | 1, _ => rfl
  | 2, _ => rfl
  | 3, _ => rfl
  | 4, _ => rfl
  | 5, _ => rfl
theorem c54 (b o : Nat) (v : Int) (w : World) (hc : w.cell? ⟨b, o, none⟩ = some (.int .i64 v)) (hz : w.frozen? ⟨b, o, none⟩ = false) (h0 : 0 ≤ v) (h1 : v ≤ 1000000000) :
    Calls Try.prog 54 #[.pointer (some ⟨b, o, none⟩), .int .i64 1] w fun e w' => e = .returned (.int .i64 (v + 1)) ∧ w.setCell ⟨b, o, none⟩ (.int .i64 (v + 1)) = w' := by
  have h62 := run62 (y := 1) hc hz
  rw [show wrap64 (v + 1) = v + 1 by unfold wrap64; omega] at h62
  go_enter Try.func54, Try.ntmps54
  go_wp2
  go_ret
  exact ⟨rfl, rfl⟩
theorem c33b (me most : Int) (w : World) (h : most < 1 ∨ 64 < most ∨ nodeB me = false) : Calls Try.prog 33 #[.int .i64 me, .int .i64 most] w fun e w' => e = .returned (.tuple #[.pointer none, .int .i64 1]) ∧ Below w.heap.size w w' := by
  by_cases hm : most < 1 ∨ 64 < most
  · go_enter Try.func33, Try.ntmps33
    go_wp2_with (go_at_call 18; refine (c18b _ _ hm).mono ?_; rintro e w' ⟨rfl, rfl⟩)
    go_ret2
    exact ⟨rfl, Below.refl _ _⟩
  · have hb : nodeB me = false := by
      rcases h with h | h | h
      · omega
      · omega
      · exact h
    obtain ⟨n, rfl⟩ : ∃ n : Nat, most = n := ⟨most.toNat, by omega⟩
    have H := hidd hb
    clear hb h
    go_enter Try.func33, Try.ntmps33
    go_wp2_with fail
    refine (c18g n _ (by omega) (by omega)).mono ?_
    rintro e w1 ⟨q, r, rfl, hQ1, hq, hr, hB1⟩
    have HB1 := hidd hB1
    clear hQ1 hB1
    go_wp2_with (go_at_call 46; refine (c46 _ _).mono ?_; rintro e w' ⟨rfl, rfl⟩; rw [H.out])
    go_ret2
    exact ⟨rfl, HB1.out⟩
def NewP (n : Nat) (me : Int) (w : World) (e : Ending) (w' : World) : Prop := ∃ x q r, e = .returned (.tuple #[.pointer (some ⟨x, 0, none⟩), .int .i64 0]) ∧
    PAt w' x q r n 0 (List.replicate n Pk.zero) [] me Cn.zero ∧ w.heap.size ≤ x ∧ w.heap.size ≤ q ∧ w.heap.size ≤ r ∧ Below w.heap.size w w'
theorem c33g (me : Int) (n : Nat) (w : World) (h1 : 1 ≤ n) (h64 : n ≤ 64) (hb : nodeB me = true) : Calls Try.prog 33 #[.int .i64 me, .int .i64 n] w (NewP n me w) := by
  have H := hidd hb
  clear hb
  go_enter Try.func33, Try.ntmps33
  go_wp2_with fail
  refine (c18g n _ h1 h64).mono ?_
  rintro e w1 ⟨q, r, rfl, hQ1, hq, hr, hB1⟩
  have HQ1 := hidd hQ1
  have HB1 := hidd hB1
  have hz := hQ1.lt
  have hs := hB1.size
  clear hQ1 hB1
  go_wp2_with (go_at_call 46; refine (c46 _ _).mono ?_; rintro e w' ⟨rfl, rfl⟩; rw [H.out])
  go_ret2
  exact ⟨w1.heap.size, q, r, rfl, ⟨heap_new _ _, HQ1.out.below (Bl_alloc (Below.refl _ _) _), by omega, by omega⟩, hs, hq, hr, Bl_alloc HB1.out _⟩
theorem c36 {w : World} {x q r n f : Nat} {R L : List Pk} {me : Int} {c : Cn} (h : PAt w x q r n f R L me c) :
    Calls Try.prog 36 #[.pointer (some ⟨x, 0, none⟩)] w fun e w' => ∃ v, e = .returned v ∧ OwnPk w' w.heap.size v L ∧ Below w.heap.size w w' := by
  have h1 := h.x1
  have HQ := hidd h.hQ
  clear h
  go_enter Try.func36, Try.ntmps36
  go_wp2_with fail
  refine (c22 HQ.out).mono ?_
  rintro e w1 ⟨v, rfl, ho, hb⟩
  have HO := hidd ho
  have HB := hidd hb
  clear ho hb
  go_wp2
  go_ret
  exact ⟨_, rfl, HO.out, HB.out⟩
end Go.Proofs.Ytnlcibobhmcfpaa
