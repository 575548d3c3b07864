/- Scripts of layer 22 opened; the walks of few and of Counts. -/
import Derived.Test.YtnlcibobhmcfpaaTd
import Derived.OwnWalk
set_option linter.unusedSimpArgs false
set_option linter.unusedVariables false
namespace Go.Proofs.Ytnlcibobhmcfpaa
open Go.ChangeShapes Go.WideShapes Go.RowKit Go.Deep
theorem cells65 : Try.prog.cellsOf 65 = 9 := by kernel_rfl
/-- The cells of an operation of layer 22. -/
def GoodOp2 (cs : List Value) : Prop := ∃ (op : Bool) (p : Pk) (d n : Int) (ok : Bool), cs = [.bool op, .int .i64 p.s, .int .i64 p.d, .int .i64 p.t, .int .i64 p.n, .string p.x, .int .i64 d, .int .i64 n, .bool ok]
theorem list9 {α : Type} {l : List α} (h : l.length = 9) : ∃ a b c d e f g i j, l = [a, b, c, d, e, f, g, i, j] := by
  match l, h with
  | [a, b, c, d, e, f, g, i, j], _ => exact ⟨a, b, c, d, e, f, g, i, j, rfl⟩
section
variable {H : Type} {enc : TypeId × Value → H} {w : World} {base : Nat} {spare : Nat → Bool} {held : Bool}
set_option maxRecDepth 100000 in
theorem op2_of_trod (fuel : Nat) (cs : List Value) (y : DataW H × List MemPlace) (h : DataW.trod enc Try.prog w base spare held fuel 65 cs = some y) : GoodOp2 cs ∧ cs.length = 9 := by
  obtain ⟨xs, m, _, _, hl, hx, hf⟩ := DataW.trod_struct Try.underlying65 h
  have hl9 : cs.length = 9 := hl.trans cells65
  refine ⟨?_, hl9⟩
  clear hl
  obtain ⟨c0, c1, c2, c3, c4, c5, c6, c7, c8, rfl⟩ := list9 hl9
  have l5 : xs.length = 5 := hx
  clear hx hl9 h
  have g0 := (hf 0 _ rfl).trans (List.getElem?_eq_getElem (by omega))
  have g1 := (hf 1 _ rfl).trans (List.getElem?_eq_getElem (by omega))
  have g2 := (hf 2 _ rfl).trans (List.getElem?_eq_getElem (by omega))
  have g3 := (hf 3 _ rfl).trans (List.getElem?_eq_getElem (by omega))
  have g4 := (hf 4 _ rfl).trans (List.getElem?_eq_getElem (by omega))
  obtain ⟨k, e0, _⟩ := DataW.trod_bool Try.underlying4 g0
  obtain ⟨s, d, t, n, x, e1, w1⟩ := pk_of_trod g1
  obtain ⟨dd, e2, _, w2⟩ := DataW.trod_int Try.underlying3 g2
  obtain ⟨nn, e3, _, w3⟩ := DataW.trod_int Try.underlying3 g3
  obtain ⟨ok, e4, _⟩ := DataW.trod_bool Try.underlying4 g4
  clear g0 g1 g2 g3 g4 hf
  simp [cells3, cells23, cells4] at e0 e1 e2 e3 e4
  exact ⟨k, ⟨s, d, t, n, x⟩, dd, nn, ok, by simp [e0, e1, e2, e3, e4]⟩
set_option maxRecDepth 100000 in
theorem open_ops2 {v : Value} {d : DataW H} {p : List MemPlace} {r : Reach} {b0 : Nat} (hv : Value.okWide Try.prog w r b0 62 v) (h : DataW.Trod enc Try.prog w base spare held 62 v d p) :
    ∃ L, RdEl w 9 v L ∧ ∀ p ∈ L, GoodOp2 p := open_els Try.underlying62 cells65 (by omega) GoodOp2 op2_of_trod hv h
end
set_option maxHeartbeats 400000 in
theorem c37 {w : World} {v : Value} {L : List (List Value)} (h : RdEl w 9 v L) (hg : ∀ p ∈ L, GoodOp2 p) :
    Calls Try.prog 37 #[v] w fun e w' => ∃ b, e = .returned (.bool b) ∧ w = w' ∧ (b = true → L.length ≤ 120) := by
  obtain ⟨A, c, rfl, hrd⟩ := h
  have HR := hidd hrd
  have HG := hidd hg
  clear hrd hg
  go_enter Try.func37, Try.ntmps37
  go_wp2
  go_loopw [3] (fun i wr => ∃ k : Nat, k ≤ L.length ∧ i = .int .i64 k ∧ w = wr) (fun i _ => L.length - (intOf i).toNat)
  case atStart => exact ⟨0, Nat.zero_le _, rfl, rfl⟩
  case round =>
    obtain ⟨k, hk, rfl, rfl⟩ := hrel
    by_cases hlt : k < L.length
    · by_cases h150 : L.length ≤ 120
      · obtain ⟨cs, hp⟩ : ∃ cs, L[k]? = some cs := ⟨_, List.getElem?_eq_getElem hlt⟩
        obtain ⟨op, p, d, n, ok, rfl⟩ := HG.out cs (List.mem_of_getElem? hp)
        obtain ⟨b, o, rfl, hbl, hcells⟩ : ∃ b o, A = some ⟨b, o, none⟩ ∧ b < w.heap.size ∧ ∀ k cs, L[k]? = some cs → ∀ j u, cs[j]? = some u → w.cell? ⟨b, o + k * 9 + j, none⟩ = some u := by
          rcases HR.out with h0 | h0
          · rw [h0] at hlt; exact absurd hlt (by simp)
          · exact h0
        have c5 : w.cell? ⟨b, o + k * 9 + 5, none⟩ = some (.string p.x) := hcells k _ hp 5 _ rfl
        have c5' : w.cell? ⟨b, o + k * 9 + 1 + 4, none⟩ = some (.string p.x) := c5
        clear hcells hp
        have hi : ((L.length : Nat) : Int) ≤ 120 := by omega
        by_cases hx : (600 : Int) < p.x.size
        · go_wp2
          go_ret
          exact ⟨_, rfl, rfl, by simp⟩
        · go_wp2
          go_roundw
          case rel => exact ⟨k + 1, by omega, by go_num, by first | rfl | trivial⟩
          case measure => first | (simp [intOf]; done) | (simp [intOf]; omega)
      · have hi : ¬ ((L.length : Nat) : Int) ≤ 120 := by omega
        go_wp2
        go_ret
        first | exact ⟨_, rfl, rfl, by simp⟩ | exact ⟨rfl, rfl⟩
    · obtain rfl : k = L.length := by omega
      by_cases h150 : L.length ≤ 120
      · go_wp2
        go_ret
        exact ⟨_, rfl, rfl, fun _ => h150⟩
      · go_wp2
        go_ret
        exact ⟨_, rfl, rfl, fun hb => by simp at hb; omega⟩
theorem c55 {w : World} {x q r n f : Nat} {R L : List Pk} {me : Int} {c : Cn} (h : PAt w x q r n f R L me c) (b : Nat) (hb : w.cell? ⟨b, 0, none⟩ = some (.pointer (some ⟨x, 0, none⟩))) (k : Nat) (hk : k < 6) (kk : Int) (hkk : kk = k) :
    Calls Try.prog 55 #[.int .i64 kk, .pointer (some ⟨b, 0, none⟩)] w fun e w' => e = .returned (.int .i64 (c.get k)) ∧ w = w' := by
  subst hkk
  have x2 := h.cnt hk
  have ki0 : (0 : Int) ≤ k := by omega
  have ki1 : (k : Int) < 6 := by omega
  clear h
  go_enter Try.func55, Try.ntmps55
  go_wp2_with (go_at_call 56; refine (c56 _ _ _ _ x2).mono ?_; rintro e w' ⟨rfl, rfl⟩)
  go_ret
  exact ⟨rfl, rfl⟩
set_option maxHeartbeats 400000 in
theorem c38 {w : World} {x q r n f : Nat} {R L : List Pk} {me : Int} {c : Cn} (h : PAt w x q r n f R L me c) :
    Calls Try.prog 38 #[.pointer (some ⟨x, 0, none⟩)] w fun e w' => e = .returned (.agg #[.int .i64 c.c1, .int .i64 c.c2, .int .i64 c.c3, .int .i64 c.c4, .int .i64 c.c5]) ∧ Below w.heap.size w w' := by
  have HA := hidd h
  obtain ⟨l0, _, _⟩ := h.lt
  clear h
  go_enter Try.func38, Try.ntmps38
  go_wp2_with fail
  refine (c55 (HA.out.below (Bl_alloc (Bl_alloc (Below.refl _ _) _) _)) w.heap.size (by simp) 1 (by omega) 1 rfl).mono ?_
  rintro e w1 ⟨rfl, rfl⟩
  go_wp2_with fail
  refine (c55 (HA.out.below (Bl_alloc (Bl_alloc (Below.refl _ _) _) _)) w.heap.size (by simp) 2 (by omega) 2 rfl).mono ?_
  rintro e w2 ⟨rfl, rfl⟩
  go_wp2_with fail
  refine (c55 (HA.out.below (Bl_alloc (Bl_alloc (Below.refl _ _) _) _)) w.heap.size (by simp) 3 (by omega) 3 rfl).mono ?_
  rintro e w3 ⟨rfl, rfl⟩
  go_wp2_with fail
  refine (c55 (HA.out.below (Bl_alloc (Bl_alloc (Below.refl _ _) _) _)) w.heap.size (by simp) 4 (by omega) 4 rfl).mono ?_
  rintro e w4 ⟨rfl, rfl⟩
  go_wp2_with fail
  refine (c55 (HA.out.below (Bl_alloc (Bl_alloc (Below.refl _ _) _) _)) w.heap.size (by simp) 5 (by omega) 5 rfl).mono ?_
  rintro e w5 ⟨rfl, rfl⟩
  go_wp2_with fail
  refine bodyPost_ret (v := .agg #[.int .i64 c.c1, .int .i64 c.c2, .int .i64 c.c3, .int .i64 c.c4, .int .i64 c.c5]) ?_ ?_ ?_
  · simp [results, Try.results38, go_sem, Cn.get]
  · rfl
  · exact ⟨rfl, Bl_alloc (Bl_alloc (Below.refl _ _) _) _⟩
end Go.Proofs.Ytnlcibobhmcfpaa
