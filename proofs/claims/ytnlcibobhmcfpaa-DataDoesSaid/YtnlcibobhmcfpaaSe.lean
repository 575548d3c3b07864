import Derived.Test.YtnlcibobhmcfpaaOpens
import Derived.Test.YtnlcibobhmcfpaaSd
set_option linter.unusedSimpArgs false
namespace Go.Proofs.Ytnlcibobhmcfpaa
open Go.ChangeShapes Go.WideShapes Go.RowKit Go.Deep
/-- The slice v reads as the elements L, each c cells. -/
def RdEl (w : World) (c : Nat) (v : Value) (L : List (List Value)) : Prop :=
  ∃ A k, v = .slice A L.length k ∧ (L = [] ∨ ∃ b o, A = some ⟨b, o, none⟩ ∧ b < w.heap.size ∧ ∀ k cs, L[k]? = some cs → ∀ j u, cs[j]? = some u → w.cell? ⟨b, o + k * c + j, none⟩ = some u)
section
variable {H : Type} {enc : TypeId × Value → H} {w : World} {base : Nat} {spare : Nat → Bool} {held : Bool}
set_option maxRecDepth 100000 in
/-- A slice of structs that came in. -/
theorem open_els {T E c : Nat} (hT : Try.prog.underlying T = some (.slice E)) (hc : Try.prog.cellsOf E = c) (hc0 : 0 < c) (Good : List Value → Prop)
    (hG : ∀ fuel cs y, DataW.trod enc Try.prog w base spare held fuel E cs = some y → Good cs ∧ cs.length = c)
    {v : Value} {d : DataW H} {p : List MemPlace} {r : Reach} {b0 : Nat} (hv : Value.okWide Try.prog w r b0 T v) (h : DataW.Trod enc Try.prog w base spare held T v d p) :
    ∃ L, RdEl w c v L ∧ ∀ p ∈ L, Good p := by
  obtain ⟨A, len, cap, rfl⟩ := okWide_slice hT hv
  obtain ⟨fuel, hf⟩ := h
  rcases open_slice hT hf with ⟨hcs, _⟩ | ⟨a, l, c', m, n, D, Pl, hcs, _, hlc, _, hm, _, hi⟩
  · simp [Value.cells] at hcs
    obtain ⟨rfl, rfl, rfl⟩ := hcs
    exact ⟨[], ⟨none, 0, rfl, .inl rfl⟩, by simp⟩
  · simp [Value.cells] at hcs
    obtain ⟨rfl, rfl, rfl⟩ := hcs
    have hml : len ≤ m := by rw [hm]; split <;> omega
    rcases Nat.eq_zero_or_pos len with h0 | h0
    · exact ⟨[], ⟨some a, cap, by rw [h0]; rfl, .inl rfl⟩, by simp⟩
    · have key : ∀ i, i < len → ∃ cs : List Value, Good cs ∧ cs.length = c ∧ w.cells? base (a.add (i * c)) c = some cs := by
        intro i hi'
        obtain ⟨cs', hc', ht⟩ := hi i (by omega)
        rw [hc] at hc'
        obtain ⟨g1, g2⟩ := hG _ _ _ ht
        exact ⟨cs', g1, g2, hc'⟩
      have hsp : a.spot = none := by
        obtain ⟨cs', _, hl, hc'⟩ := key 0 h0
        obtain ⟨_, _, hat⟩ := World.cells?_some hc'
        have h1 := hat 0 hc0
        rw [List.getElem?_eq_getElem (by omega)] at h1
        rw [Nat.zero_mul] at h1
        exact spot_none (a := a) h1
      obtain ⟨b, o, sp⟩ := a
      simp only at hsp
      subst hsp
      have hel : ∀ i, i < len → ∃ cs : List Value, Good cs ∧ b < w.heap.size ∧ ∀ j u, cs[j]? = some u → w.cell? ⟨b, o + i * c + j, none⟩ = some u := by
        intro i hi'
        obtain ⟨cs', g1, g2, hc'⟩ := key i hi'
        obtain ⟨_, _, hat⟩ := World.cells?_some hc'
        rw [addr_add] at hat
        have g : ∀ j u, cs'[j]? = some u → w.cell? ⟨b, o + i * c + j, none⟩ = some u := fun j u hj => by
          have hjl : j < c := by rw [← g2]; exact (List.getElem?_eq_some_iff.1 hj).1
          have := hat j hjl
          rw [addr_add, hj] at this
          exact this
        refine ⟨cs', g1, ?_, g⟩
        exact World.block_lt_of_cell? w _ (g 0 _ (List.getElem?_eq_getElem (by omega)))
      obtain ⟨L, hL, hE⟩ := list_of (P := fun i cs => Good cs ∧ b < w.heap.size ∧ ∀ j u, cs[j]? = some u → w.cell? ⟨b, o + i * c + j, none⟩ = some u) len hel
      refine ⟨L, ⟨some ⟨b, o, none⟩, cap, by rw [hL], .inr ⟨b, o, rfl, ?_, fun k p hp => (hE k p hp).2.2⟩⟩, ?_⟩
      · obtain ⟨p, _, hb, _⟩ := hel 0 h0
        exact hb
      · intro p hp
        obtain ⟨k, hk⟩ := List.getElem?_of_mem hp
        exact (hE k p hk).1
theorem cells51 : Try.prog.cellsOf 51 = 7 := by kernel_rfl
/-- The cells of an operation of layer 10. -/
def GoodOp (cs : List Value) : Prop := ∃ (k : Int) (p : Pk) (d : Int), cs = [.int .i64 k, .int .i64 p.s, .int .i64 p.d, .int .i64 p.t, .int .i64 p.n, .string p.x, .int .i64 d]
theorem list7 {α : Type} {l : List α} (h : l.length = 7) : ∃ a b c d e f g, l = [a, b, c, d, e, f, g] := by
  match l, h with
  | [a, b, c, d, e, f, g], _ => exact ⟨a, b, c, d, e, f, g, rfl⟩
theorem cells23' : Try.prog.cellsOf 23 = 5 := cells23
set_option maxRecDepth 100000 in
theorem op_of_trod (fuel : Nat) (cs : List Value) (y : DataW H × List MemPlace) (h : DataW.trod enc Try.prog w base spare held fuel 51 cs = some y) : GoodOp cs ∧ cs.length = 7 := by
  obtain ⟨xs, m, _, _, hl, hx, hf⟩ := DataW.trod_struct Try.underlying51 h
  have hl7 : cs.length = 7 := hl.trans cells51
  refine ⟨?_, hl7⟩
  clear hl
  obtain ⟨c0, c1, c2, c3, c4, c5, c6, rfl⟩ := list7 hl7
  have l3 : xs.length = 3 := hx
  clear hx hl7 h
  have g0 := (hf 0 _ rfl).trans (List.getElem?_eq_getElem (by omega))
  have g1 := (hf 1 _ rfl).trans (List.getElem?_eq_getElem (by omega))
  have g2 := (hf 2 _ rfl).trans (List.getElem?_eq_getElem (by omega))
  obtain ⟨k, e0, _, w0⟩ := DataW.trod_int Try.underlying3 g0
  obtain ⟨s, d, t, n, x, e1, w1⟩ := pk_of_trod g1
  obtain ⟨dd, e2, _, w2⟩ := DataW.trod_int Try.underlying3 g2
  clear g0 g1 g2 hf
  simp [cells3, cells23] at e0 e1 e2
  exact ⟨k, ⟨s, d, t, n, x⟩, dd, by simp [e0, e1, e2]⟩
set_option maxRecDepth 100000 in
theorem open_ops {v : Value} {d : DataW H} {p : List MemPlace} {r : Reach} {b0 : Nat} (hv : Value.okWide Try.prog w r b0 45 v) (h : DataW.Trod enc Try.prog w base spare held 45 v d p) :
    ∃ L, RdEl w 7 v L ∧ ∀ p ∈ L, GoodOp p := open_els Try.underlying45 cells51 (by omega) GoodOp op_of_trod hv h
end
set_option maxHeartbeats 400000 in
theorem c27 {w : World} {v : Value} {L : List (List Value)} (h : RdEl w 7 v L) (hg : ∀ p ∈ L, GoodOp p) :
    Calls Try.prog 27 #[v] w fun e w' => ∃ b, e = .returned (.bool b) ∧ w = w' ∧ (b = true → L.length ≤ 150) := by
  obtain ⟨A, c, rfl, hrd⟩ := h
  have HR := hidd hrd
  have HG := hidd hg
  clear hrd hg
  go_enter Try.func27, Try.ntmps27
  go_wp2
  go_loopw [3] (fun i wr => ∃ k : Nat, k ≤ L.length ∧ i = .int .i64 k ∧ w = wr) (fun i _ => L.length - (intOf i).toNat)
  case atStart => exact ⟨0, Nat.zero_le _, rfl, rfl⟩
  case round =>
    obtain ⟨k, hk, rfl, rfl⟩ := hrel
    by_cases hlt : k < L.length
    · by_cases h150 : L.length ≤ 150
      · obtain ⟨cs, hp⟩ : ∃ cs, L[k]? = some cs := ⟨_, List.getElem?_eq_getElem hlt⟩
        obtain ⟨cc, p, d, rfl⟩ := HG.out cs (List.mem_of_getElem? hp)
        obtain ⟨b, o, rfl, hbl, hcells⟩ : ∃ b o, A = some ⟨b, o, none⟩ ∧ b < w.heap.size ∧ ∀ k cs, L[k]? = some cs → ∀ j u, cs[j]? = some u → w.cell? ⟨b, o + k * 7 + j, none⟩ = some u := by
          rcases HR.out with h0 | h0
          · rw [h0] at hlt; exact absurd hlt (by simp)
          · exact h0
        have c5 : w.cell? ⟨b, o + k * 7 + 5, none⟩ = some (.string p.x) := hcells k _ hp 5 _ rfl
        have c5' : w.cell? ⟨b, o + k * 7 + 1 + 4, none⟩ = some (.string p.x) := c5
        clear hcells hp
        have hi : ((L.length : Nat) : Int) ≤ 150 := by omega
        by_cases hx : (600 : Int) < p.x.size
        · go_wp2
          go_ret
          exact ⟨_, rfl, rfl, by simp⟩
        · go_wp2
          go_roundw
          case rel => exact ⟨k + 1, by omega, by go_num, by first | rfl | trivial⟩
          case measure => first | (simp [intOf]; done) | (simp [intOf]; omega)
      · have hi : ¬ ((L.length : Nat) : Int) ≤ 150 := by omega
        go_wp2
        go_ret
        first | exact ⟨_, rfl, rfl, by simp⟩ | exact ⟨rfl, rfl⟩
    · obtain rfl : k = L.length := by omega
      by_cases h150 : L.length ≤ 150
      · go_wp2
        go_ret
        exact ⟨_, rfl, rfl, fun _ => h150⟩
      · go_wp2
        go_ret
        exact ⟨_, rfl, rfl, fun hb => by simp at hb; omega⟩
end Go.Proofs.Ytnlcibobhmcfpaa
