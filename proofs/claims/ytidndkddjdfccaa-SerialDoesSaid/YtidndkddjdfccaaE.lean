/- The sort: the closure, slices.SortFunc and slices.Compact at this program. -/
import Derived.Test.YtidndkddjdfccaaD
import Derived.Test.YtidndkddjdfccaaShelf
import Derived.Shelf.SlSortCmp.QuietGrown
import Derived.Shelf.SlSortCmp.NoneTotal
import Derived.Shelf.SlicesE.Compact
set_option linter.unusedSimpArgs false
namespace Go.Proofs.Ytidndkddjdfccaa
open Go.RowKit Go.Sort Go.Shelf Go.Lib
abbrev N16 := Fin 65536
def enc16 (x : N16) : Value := .int .u16 (x.val : Int)
def cf (first : Int) (x y : N16) : Int := Lib.compareInt (farI first (x.val : Int)) (farI first (y.val : Int))
theorem lt16 (first : Int) (x y : N16) : ltOf (cf first) x y = decide (farI first (x.val : Int) < farI first (y.val : Int)) := by
  unfold ltOf cf Lib.compareInt
  by_cases h1 : farI first (x.val : Int) < farI first (y.val : Int)
  · simp [h1]
  · by_cases h2 : farI first (y.val : Int) < farI first (x.val : Int) <;> simp [h1, h2]
theorem swo16 (first : Int) : SWO (ltOf (cf first)) where
  irrefl x := by rw [lt16]; simp
  trans x y z h1 h2 := by rw [lt16] at *; simp at *; omega
  ntrans x y z h1 h2 := by rw [lt16] at *; simp at *; omega
theorem far_inj (first : Int) {x y : N16} (h : farI first (x.val : Int) = farI first (y.val : Int)) : x = y := by
  unfold farI at h
  have := x.isLt
  have := y.isLt
  apply Fin.ext
  omega
theorem tot16 (first : Int) (x y : N16) (h1 : ltOf (cf first) x y = false) (h2 : ltOf (cf first) y x = false) : x = y := by
  rw [lt16] at *
  simp at *
  exact far_inj first (by omega)
theorem cmp_exact (x y : Int) (w : World) : Calls Try.prog 24 #[.int .i64 x, .int .i64 y] w fun e w' => e = .returned (.int .i64 (Lib.compareInt x y)) ∧ ∃ q os, w' = grow (w.drewN q) os :=
  (Try.cmp_Compare_int x y w).mono fun e w' ⟨he, hw⟩ => ⟨he, 0, #[], by rw [hw, grow_empty]; rfl⟩
theorem c23 (T : Nat) (first x y : Int) (W : World) (hT : T < W.heap.size) (hc : W.cell? ⟨T, 0, none⟩ = some (.int .i64 first)) (hwx : IntKind.i64.wrap x = x) (hwy : IntKind.i64.wrap y = y) :
    Calls Try.prog 23 #[.int .u16 x, .int .u16 y, .pointer (some ⟨T, 0, none⟩)] W fun e w' => e = .returned (.int .i64 (Lib.compareInt (farI first x) (farI first y))) ∧ ∃ q os, w' = grow (W.drewN q) os := by
  have hcell := fun n os => cell_grown (w := W) (a := ⟨T, 0, none⟩) hT hc n os
  have h9x := fun w => c9x first x w
  have h9y := fun w => c9x first y w
  generalize farI first x = fx at h9x ⊢
  generalize farI first y = fy at h9y ⊢
  have h24 := fun w => cmp_exact fx fy w
  generalize Lib.compareInt fx fy = r at h24 ⊢
  have H1 := hidd h9x
  have H2 := hidd h9y
  have H3 := hidd h24
  have mixed : Try.prog.follows .mixedOrders = true := by kernel_rfl
  clear h9x h9y h24
  go_enter Try.func23, Try.ntmps23
  go_wp2_with fail
  go_quiet_grown (first
    | (go_at_call_of 9 (Value.int .i64 x); exact Calls.grown_of (H1.out _))
    | (go_at_call_of 9 (Value.int .i64 y); exact Calls.grown_of (H2.out _))
    | (go_at_call 24; exact Calls.grown_of (H3.out _)))
  go_wp2
  go_ret
  exact ⟨rfl, _, _, rfl⟩
theorem wrap16 (x : N16) : IntKind.i64.wrap (x.val : Int) = x.val := by
  have := x.isLt
  exact IntWalk.i64_in _ (by omega)
theorem cmpLays (T : Nat) (first : Int) (blk off size : Nat) (w : World) (hT : T < w.heap.size) (hne : T ≠ blk) (hc : w.cell? ⟨T, 0, none⟩ = some (.int .i64 first)) :
    CmpLays1 Try.prog 23 #[.pointer (some ⟨T, 0, none⟩)] enc16 (cf first) blk off size w := by
  intro m os dk hs x y
  have h := c23 T first (x.val : Int) (y.val : Int) (sortWorld enc16 w blk off m dk os) ?_ ?_ (wrap16 x) (wrap16 y)
  · exact h
  · unfold sortWorld
    refine Nat.lt_of_lt_of_le hT ?_
    simp [grow, Sort.ahead]
  · unfold sortWorld
    rw [cell?_grow _ _ _ (by simpa [Sort.ahead] using hT), cell?_putRow_other _ _ _ _ _ _ (.inl hne)]
    exact hc
set_option maxRecDepth 100000 in
theorem sort16 (T : Nat) (first : Int) (blk cap : Nat) (d : Array N16) (w : World) (hH : Holds enc16 w blk 0 d) (hblk : blk < w.heap.size) (hT : T < w.heap.size) (hne : T ≠ blk) (hc : w.cell? ⟨T, 0, none⟩ = some (.int .i64 first)) (hsz : d.size < 4611686018427387904) :
    Calls Try.prog 22 #[.slice (some ⟨blk, 0, none⟩) d.size cap, .func (.func 23) #[] #[.pointer (some ⟨T, 0, none⟩)]] w fun e w' =>
      e = .returned (.tuple #[]) ∧ ∃ n os, w' = sortWorld enc16 w blk 0 n (d.toList.mergeSort fun x y => !(ltOf (cf first)) y x).toArray os := by
  have eg : ∀ args w, (callFunc 23 args).run Try.prog w = .ok (.enter 23 args) w := enters_of Try.func23 (by kernel_rfl) rfl
  exact Any.slices_SortFunc_total Try.laysSort enc16 (fun _ => rfl) (cf first) (swo16 first) 23 #[.pointer (some ⟨T, 0, none⟩)] blk 0 cap d w eg (cmpLays T first blk 0 d.size w hT hne hc) hH hblk hsz (tot16 first)
theorem sort16_none (p : Option Addr) (cap : Nat) (fv : Value) (w : World) :
    Calls Try.prog 22 #[.slice p 0 cap, fv] w fun e w' => e = .returned (.tuple #[]) ∧ w' = w :=
  AnyF.slices_SortFunc_none (P := Try.prog) (ρ := Try.laysSort_ren) { Try.laysSort with } p cap fv w
theorem compact16 (blk cap : Nat) (d : Array Int) (w : World) (hH : Holds (Value.int .u16) w blk 0 d) (hsz : d.size ≤ 9223372036854775807) (hcap : d.size ≤ cap) :
    Calls Try.prog 25 #[.slice (some ⟨blk, 0, none⟩) d.size cap] w fun e w' => e = .returned (.slice (some ⟨blk, 0, none⟩) (compactUpTo d d.size).length cap) ∧ ∃ q, w' = putRow (Value.int .u16) (Sort.ahead w q) blk 0 (compactUpTo d d.size ++ List.replicate (d.size - (compactUpTo d d.size).length) 0).toArray :=
  AnyE.slices_Compact Try.laysCompact (Value.int .u16) (fun _ => rfl) (EqlAt.intD _ _ _) (NeqAt.intD _ _ _) 0 Try.zeroValue37 blk 0 cap d w hH hsz hcap
theorem compact16_none (p : Option Addr) (cap : Nat) (w : World) :
    Calls Try.prog 25 #[.slice p 0 cap] w fun e w' => e = .returned (.slice p 0 cap) ∧ w' = w := by
  go_enter Try.func25, Try.ntmps25
  go_wp2
  go_ret
  exact ⟨rfl, rfl⟩
end Go.Proofs.Ytidndkddjdfccaa
