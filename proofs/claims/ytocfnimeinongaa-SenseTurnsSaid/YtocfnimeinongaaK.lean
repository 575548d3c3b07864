/- The walks of Events, Same, Echoes at rows that are alike. -/
import Derived.Test.YtocfnimeinongaaJ
set_option linter.unusedSimpArgs false
set_option linter.unusedVariables false
namespace Go.Proofs.Ytocfnimeinongaa
open Go.RowKit
attribute [local go_sem ↓] Go.wp_at_zero Go.wp_at_succ
theorem RdG.at {α : Type} {enc : α → List Value} {m : Nat} {w : World} {v : Value} {L : List α} (h : RdG enc m w v L) : ∃ A c, v = .slice A L.length c ∧ ∀ k x, L[k]? = some x → ∃ b o, A = some ⟨b, o, none⟩ ∧ b < w.heap.size ∧ ∀ i u, (enc x)[i]? = some u → w.cell? ⟨b, o + k * m + i, none⟩ = some u := by
  obtain ⟨A, c, rfl, h⟩ := h
  refine ⟨A, c, rfl, fun k x hx => ?_⟩
  rcases h with h | ⟨b, o, rfl, hb, h⟩
  · rw [h] at hx; cases hx
  · exact ⟨b, o, rfl, hb, h k x hx⟩
set_option maxRecDepth 100000 in
theorem neq49 (x : Ev) (W : World) : (binOp .neq 49 (.agg #[.int .i64 x.k, .int .i64 x.n, .int .i64 x.e]) (.agg #[.int .i64 x.k, .int .i64 x.n, .int .i64 x.e])).run Try.prog W = .ok (.bool false) W := by
  simp [go_sem, Try.underlying49]
set_option maxRecDepth 100000 in
theorem neq51 (x : Ec) (W : World) : (binOp .neq 51 (.agg #[.int .i64 x.i, .int .i64 x.e]) (.agg #[.int .i64 x.i, .int .i64 x.e])).run Try.prog W = .ok (.bool false) W := by
  simp [go_sem, Try.underlying51]
set_option maxRecDepth 100000 in
set_option maxHeartbeats 1000000 in
theorem c17 {w : World} {v1 v2 : Value} {L : List Ev} (h1 : RdV w v1 L) (h2 : RdV w v2 L) (hL : L.length ≤ 1000) :
    Calls Try.prog 17 #[v1, v2] w fun e w' => e = .returned (.bool true) ∧ Below w.heap.size w w' := by
  obtain ⟨A1, c1, rfl, q1⟩ := h1.at
  obtain ⟨A2, c2, rfl, q2⟩ := h2.at
  have H1 := hidd q1
  have H2 := hidd q2
  clear h1 h2 q1 q2
  go_enter Try.func17, Try.ntmps17
  go_wp2
  go_loopw [5] (fun i wr => ∃ k : Nat, k ≤ L.length ∧ i = .int .i64 k ∧ Below w.heap.size w wr) (fun i _ => L.length - (intOf i).toNat)
  case atStart => exact ⟨0, Nat.zero_le _, rfl, Below.refl _ _⟩
  case round =>
    obtain ⟨k, hk, rfl, hb⟩ := hrel
    have HB := hidd hb
    by_cases hlt : k < L.length
    · obtain ⟨x, hx⟩ : ∃ x, L[k]? = some x := ⟨_, List.getElem?_eq_getElem hlt⟩
      obtain ⟨g1, o1, rfl, l1, d1⟩ := H1.out k x hx
      obtain ⟨g2, o2, rfl, l2, d2⟩ := H2.out k x hx
      have a0 : wr.cell? ⟨g1, o1 + k * 3, none⟩ = some (.int .i64 x.k) := (hb.cell (p := ⟨g1, o1 + k * 3, none⟩) l1).trans (d1 0 _ rfl)
      have a1 : wr.cell? ⟨g1, o1 + k * 3 + 1, none⟩ = some (.int .i64 x.n) := (hb.cell (p := ⟨g1, o1 + k * 3 + 1, none⟩) l1).trans (d1 1 _ rfl)
      have a2 : wr.cell? ⟨g1, o1 + k * 3 + 2, none⟩ = some (.int .i64 x.e) := (hb.cell (p := ⟨g1, o1 + k * 3 + 2, none⟩) l1).trans (d1 2 _ rfl)
      have b0 : wr.cell? ⟨g2, o2 + k * 3, none⟩ = some (.int .i64 x.k) := (hb.cell (p := ⟨g2, o2 + k * 3, none⟩) l2).trans (d2 0 _ rfl)
      have b1 : wr.cell? ⟨g2, o2 + k * 3 + 1, none⟩ = some (.int .i64 x.n) := (hb.cell (p := ⟨g2, o2 + k * 3 + 1, none⟩) l2).trans (d2 1 _ rfl)
      have b2 : wr.cell? ⟨g2, o2 + k * 3 + 2, none⟩ = some (.int .i64 x.e) := (hb.cell (p := ⟨g2, o2 + k * 3 + 2, none⟩) l2).trans (d2 2 _ rfl)
      have hq := fun W => neq49 x W
      have k0 : (0 : Int) ≤ k := by omega
      have k1 : (k : Int) < L.length := by omega
      have HLT := hidd hlt
      clear hx d1 d2 hb hlt
      go_wp2_with fail
      go_quiet (fail)
      go_wp2
      go_roundw
      case rel => exact ⟨k + 1, by have := HLT.out; omega, by go_num, HB.out.drewN _⟩
      case measure => have := HLT.out; simp [intOf]; omega
    · obtain rfl : k = L.length := by omega
      clear hb
      go_wp2
      go_ret
      exact ⟨rfl, HB.out⟩
set_option maxRecDepth 100000 in
set_option maxHeartbeats 1000000 in
theorem c18 {w : World} {v1 v2 : Value} {L : List Ec} (ep : Int) (h1 : RdE w v1 L) (h2 : RdE w v2 L) (hL : L.length ≤ 1000) :
    Calls Try.prog 18 #[.agg #[.int .i64 ep, v1], .agg #[.int .i64 ep, v2]] w fun e w' => e = .returned (.bool true) ∧ Below w.heap.size w w' := by
  obtain ⟨A1, c1, rfl, q1⟩ := h1.at
  obtain ⟨A2, c2, rfl, q2⟩ := h2.at
  have H1 := hidd q1
  have H2 := hidd q2
  clear h1 h2 q1 q2
  go_enter Try.func18, Try.ntmps18
  go_wp2
  generalize hW : World.alloc (World.alloc w _) _ = W
  have hB : Below w.heap.size w W := by rw [← hW]; exact Bl_alloc (Bl_alloc (Below.refl _ _) _) _
  have x1 : W.cell? ⟨w.heap.size, 1, none⟩ = some (.slice A1 L.length c1) := by rw [← hW]; exact cell_of_heap (heap_alloc (heap_new w _) _) 1
  have x2 : W.cell? ⟨w.heap.size + 1, 1, none⟩ = some (.slice A2 L.length c2) := by rw [← hW]; exact cell_of_heap (heap_new_at (by simp)) 1
  have lw : w.heap.size + 1 < W.heap.size := by rw [← hW]; simp
  have HBW := hidd hB
  clear hW hB
  go_loopw [5] (fun i wr => ∃ k : Nat, k ≤ L.length ∧ i = .int .i64 k ∧ Below W.heap.size W wr) (fun i _ => L.length - (intOf i).toNat)
  case atStart => exact ⟨0, Nat.zero_le _, rfl, Below.refl _ _⟩
  case round =>
    obtain ⟨k, hk, rfl, hb⟩ := hrel
    have HB := hidd hb
    have y1 : wr.cell? ⟨w.heap.size, 1, none⟩ = some (.slice A1 L.length c1) := (hb.cell (p := ⟨w.heap.size, 1, none⟩) (by show w.heap.size < W.heap.size; omega)).trans x1
    have y2 : wr.cell? ⟨w.heap.size + 1, 1, none⟩ = some (.slice A2 L.length c2) := (hb.cell (p := ⟨w.heap.size + 1, 1, none⟩) lw).trans x2
    have hsz := hb.size
    have ly1 : w.heap.size < wr.heap.size := by omega
    have ly2 : w.heap.size + 1 < wr.heap.size := by omega
    by_cases hlt : k < L.length
    · obtain ⟨x, hx⟩ : ∃ x, L[k]? = some x := ⟨_, List.getElem?_eq_getElem hlt⟩
      have hbw := HBW.out.trans (hb.mono HBW.out.size)
      obtain ⟨g1, o1, rfl, l1, d1⟩ := H1.out k x hx
      obtain ⟨g2, o2, rfl, l2, d2⟩ := H2.out k x hx
      have a0 : wr.cell? ⟨g1, o1 + k * 2, none⟩ = some (.int .i64 x.i) := (hbw.cell (p := ⟨g1, o1 + k * 2, none⟩) l1).trans (d1 0 _ rfl)
      have a1 : wr.cell? ⟨g1, o1 + k * 2 + 1, none⟩ = some (.int .i64 x.e) := (hbw.cell (p := ⟨g1, o1 + k * 2 + 1, none⟩) l1).trans (d1 1 _ rfl)
      have b0 : wr.cell? ⟨g2, o2 + k * 2, none⟩ = some (.int .i64 x.i) := (hbw.cell (p := ⟨g2, o2 + k * 2, none⟩) l2).trans (d2 0 _ rfl)
      have b1 : wr.cell? ⟨g2, o2 + k * 2 + 1, none⟩ = some (.int .i64 x.e) := (hbw.cell (p := ⟨g2, o2 + k * 2 + 1, none⟩) l2).trans (d2 1 _ rfl)
      have hq := fun W => neq51 x W
      have k0 : (0 : Int) ≤ k := by omega
      have k1 : (k : Int) < L.length := by omega
      have HLT := hidd hlt
      clear hx d1 d2 hb hlt hbw
      go_wp2_with fail
      go_quiet (fail)
      go_wp2
      go_roundw
      case rel => exact ⟨k + 1, by have := HLT.out; omega, by go_num, HB.out.drewN _⟩
      case measure => have := HLT.out; simp [intOf]; omega
    · obtain rfl : k = L.length := by omega
      clear hb
      go_wp2
      go_ret
      exact ⟨rfl, HBW.out.trans (HB.out.mono HBW.out.size)⟩
theorem c21 {w : World} {v1 v2 : Value} {L : List Ec} (h1 : RdE w v1 L) (h2 : RdE w v2 L) (hL : L.length ≤ 1000) :
    Calls Try.prog 21 #[v1, v2] w fun e w' => e = .returned (.bool true) ∧ Below w.heap.size w w' := by
  have C := hidd (c18 0 h1 h2 hL)
  obtain ⟨A1, c1, rfl⟩ := h1.form
  obtain ⟨A2, c2, rfl⟩ := h2.form
  clear h1 h2
  go_enter Try.func21, Try.ntmps21
  go_wp2_with (go_at_call 18; refine C.out.mono ?_; rintro e w1 ⟨rfl, hb⟩)
  go_ret
  exact ⟨rfl, hb⟩
/-- A call of the script. -/
structure Mv where
  t : Bool
  (now fr ep : Int)
  ev : Value
  E : List Ec
def Mv.cells (o : Mv) : List Value := [.bool o.t, .int .i64 o.now, .int .i64 o.fr, .int .i64 o.ep, o.ev]
abbrev RdM := RdG Mv.cells 5
theorem mv_len (x : Mv) : x.cells.length = 5 := rfl
/-- The echoes of each call of the script, in memory. -/
def EvsOk (w : World) (L : List Mv) : Prop := ∀ o ∈ L, RdE w o.ev o.E
theorem EvsOk.keeps {w w' : World} {L : List Mv} (h : EvsOk w L) {S : Nat → Prop} (k : Keeps S w w') (hs : ∀ i, i < w.heap.size → ¬ S i) : EvsOk w' L := fun o ho => by
  have h1 := h o ho
  obtain ⟨A, c, e, h2⟩ := h1
  rcases h2 with h2 | ⟨b, o', rfl, hb, h2⟩
  · exact ⟨A, c, e, .inl h2⟩
  · exact (h o ho).keeps k (fun g hg => by rw [e] at hg; simp [Value.ownBlock] at hg; rw [← hg]; exact hs b hb)
theorem EvsOk.below {w w' : World} {L : List Mv} (h : EvsOk w L) (k : Below w.heap.size w w') : EvsOk w' L := fun o ho => (h o ho).below k
def fewB (L : List Mv) : Bool := decide (L.length ≤ 120) && L.all fun o => decide (o.E.length ≤ 80)
def Sm (L : List Mv) : Prop := L.length ≤ 9223372036854775807 ∧ ∀ o ∈ L, o.E.length ≤ 9223372036854775807
theorem fewB_no {L : List Mv} {x : Mv} (h : x ∈ L) (h80 : 80 < x.E.length) : fewB L = false := by
  unfold fewB
  rw [Bool.and_eq_false_iff]
  right
  rw [List.all_eq_false]
  exact ⟨x, h, by simp; omega⟩
theorem fewB_yes {L : List Mv} (h : L.length ≤ 120) (h80 : ∀ j o, j < L.length → L[j]? = some o → o.E.length ≤ 80) : fewB L = true := by
  unfold fewB
  rw [Bool.and_eq_true]
  refine ⟨by simpa using h, ?_⟩
  rw [List.all_eq_true]
  intro x hx
  obtain ⟨j, hj⟩ := List.getElem?_of_mem hx
  have := h80 j x (List.getElem?_eq_some_iff.1 hj).1 hj
  simpa using this
theorem fewB_iff {L : List Mv} (h : fewB L = true) : L.length ≤ 120 ∧ ∀ o ∈ L, o.E.length ≤ 80 := by
  unfold fewB at h
  rw [Bool.and_eq_true, List.all_eq_true] at h
  exact ⟨by simpa using h.1, fun o ho => by simpa using h.2 o ho⟩
set_option maxRecDepth 100000 in
set_option maxHeartbeats 1000000 in
theorem c9 {w : World} {v : Value} {L : List Mv} (h : RdM w v L) (hE : EvsOk w L) (hS : Sm L) :
    Calls Try.prog 9 #[v] w fun e w' => e = .returned (.bool (fewB L)) ∧ w = w' := by
  obtain ⟨A, c, rfl, q⟩ := h.at
  have H1 := hidd q
  have HE := hidd hE
  have HM := hidd hS.2
  have HL := hS.1
  clear h q hE hS
  by_cases h120 : L.length ≤ 120
  · have hd : decide (L.length ≤ 120) = true := by simpa using h120
    have hd2 : ((L.length : Int) ≤ 120) := by omega
    go_enter Try.func9, Try.ntmps9
    go_wp2
    go_loop [3] (fun i => ∃ k : Nat, k ≤ L.length ∧ i = .int .i64 k ∧ ∀ j o, j < k → L[j]? = some o → o.E.length ≤ 80) (fun i => L.length - (intOf i).toNat)
    case atStart => exact ⟨0, Nat.zero_le _, rfl, fun j o hj => by omega⟩
    case round =>
      obtain ⟨k, hk, rfl, hno⟩ := hrel
      have HN := hidd hno
      clear hno
      by_cases hlt : k < L.length
      · obtain ⟨x, hx⟩ : ∃ x, L[k]? = some x := ⟨_, List.getElem?_eq_getElem hlt⟩
        obtain ⟨g1, o1, rfl, l1, d1⟩ := H1.out k x hx
        have hm := List.mem_of_getElem? hx
        obtain ⟨A2, c2, hev⟩ := (HE.out x hm).form
        have hlen := HM.out x hm
        have a4 : w.cell? ⟨g1, o1 + k * 5 + 3 + 1, none⟩ = some (.slice A2 x.E.length c2) := by rw [← hev]; exact d1 4 _ rfl
        have k0 : (0 : Int) ≤ k := by omega
        have k1 : (k : Int) < L.length := by omega
        have HLT := hidd hlt
        have HX := hidd hx
        clear hx d1 hlt
        by_cases h80 : 80 < x.E.length
        · have hd3 : (80 : Int) < x.E.length := by omega
          go_wp2
          go_ret
          exact ⟨by rw [fewB_no (List.mem_of_getElem? HX.out) h80]; rfl, rfl⟩
        · have hd3 : ¬ (80 : Int) < x.E.length := by omega
          go_wp2
          go_round
          case rel =>
            refine ⟨k + 1, by have := HLT.out; omega, by go_num, fun j o hj ho => ?_⟩
            rcases Nat.lt_or_ge j k with hj' | hj'
            · exact HN.out j o hj' ho
            · obtain rfl : j = k := by omega
              obtain rfl : x = o := by simpa using HX.out.symm.trans ho
              omega
          case measure => have := HLT.out; simp [intOf]; omega
      · obtain rfl : k = L.length := by omega
        go_wp2
        go_ret
        exact ⟨by rw [fewB_yes h120 HN.out]; rfl, rfl⟩
  · have hd : decide (L.length ≤ 120) = false := by simpa using h120
    have hd2 : ¬ ((L.length : Int) ≤ 120) := by omega
    have hpos : (0 : Int) < L.length := by omega
    have hpos' : 0 < L.length := by omega
    go_enter Try.func9, Try.ntmps9
    go_wp2
    refine wp_loop_rounds 1 ?_
    rw [rounds_succ]
    go_wp2
    go_ret
    exact ⟨by simp [fewB, hd]; omega, rfl⟩
end Go.Proofs.Ytocfnimeinongaa
