/- How the arguments of this seat's laws are opened: beacons, scripts. -/
import Derived.Test.YtocfnimeinongaaK
import Derived.ProofKit
import Derived.Deep.Slices
import Derived.Deep.Fields
namespace Go.Proofs.Ytocfnimeinongaa
open Go.ChangeShapes Go.WideShapes Go.RowKit Go.Deep
set_option linter.unusedSimpArgs false
set_option linter.unusedVariables false
theorem cells3 : Try.prog.cellsOf 3 = 1 := by kernel_rfl
theorem cells4 : Try.prog.cellsOf 4 = 1 := by kernel_rfl
theorem cells32 : Try.prog.cellsOf 32 = 1 := by kernel_rfl
theorem cells34 : Try.prog.cellsOf 34 = 2 := by kernel_rfl
theorem cells36 : Try.prog.cellsOf 36 = 5 := by kernel_rfl
theorem cells51 : Try.prog.cellsOf 51 = 2 := by kernel_rfl
def I64 (n : Int) : Prop := -9223372036854775808 ≤ n ∧ n ≤ 9223372036854775807
theorem i64_of_wf {n : Int} (h : (Lit.int .i64 n).wf = true) : I64 n := by
  simpa [Lit.wf, IntKind.min, IntKind.max, IntKind.signed, IntKind.bits, I64] using h
theorem list2 {α : Type} {l : List α} (h : l.length = 2) : ∃ a b, l = [a, b] := by
  match l, h with
  | [a, b], _ => exact ⟨a, b, rfl⟩
theorem list5 {α : Type} {l : List α} (h : l.length = 5) : ∃ a b c d e, l = [a, b, c, d, e] := by
  match l, h with
  | [a, b, c, d, e], _ => exact ⟨a, b, c, d, e, rfl⟩
theorem array_of {α : Type} {cs : Array α} {l : List α} (h : cs.toList = l) : cs = l.toArray := by cases cs; simp_all
theorem spot_none {w : World} {a : Addr} {v : Value} (h : w.cell? a = some v) : a.spot = none := by
  unfold World.cell? at h
  split at h
  · split at h
    · cases h
    · rename_i hs; simpa using hs
  · cases h
theorem list_of {α : Type} {P : Nat → α → Prop} (n : Nat) (h : ∀ i, i < n → ∃ x, P i x) : ∃ L : List α, L.length = n ∧ ∀ k x, L[k]? = some x → P k x := by
  induction n with
  | zero => exact ⟨[], rfl, fun k x hx => by simp at hx⟩
  | succ n ih =>
    obtain ⟨L, hl, hL⟩ := ih fun i hi => h i (by omega)
    obtain ⟨x, hx⟩ := h n (by omega)
    refine ⟨L ++ [x], by simp [hl], fun k y hy => ?_⟩
    by_cases hk : k < L.length
    · rw [List.getElem?_append_left hk] at hy; exact hL k y hy
    · rw [List.getElem?_append_right (by omega)] at hy
      have : k = n := by
        have := (List.getElem?_eq_some_iff.1 hy).1
        simp at this; omega
      subst this
      rw [hl] at hy
      simp at hy
      rw [← hy]; exact hx
section
variable {H : Type} {enc : TypeId × Value → H} {w : World} {base : Nat} {spare : Nat → Bool} {held : Bool}
theorem echo_of_trod {fuel : Nat} {cs : List Value} {y : DataW H × List MemPlace} (h : DataW.trod enc Try.prog w base spare held fuel 51 cs = some y) :
    ∃ x : Ec, cs = x.cells ∧ I64 x.i ∧ I64 x.e := by
  obtain ⟨xs, m, _, _, hl, hx, hf⟩ := DataW.trod_struct Try.underlying51 h
  have hl2 : cs.length = 2 := hl.trans cells51
  clear hl
  obtain ⟨c0, c1, rfl⟩ := list2 hl2
  have l2 : xs.length = 2 := hx
  clear hx hl2 h
  have g0 := (hf 0 _ rfl).trans (List.getElem?_eq_getElem (by omega))
  have g1 := (hf 1 _ rfl).trans (List.getElem?_eq_getElem (by omega))
  obtain ⟨s, e0, _, w0⟩ := DataW.trod_int Try.underlying3 g0
  obtain ⟨d, e1, _, w1⟩ := DataW.trod_int Try.underlying3 g1
  clear g0 g1 hf
  simp [cells3] at e0 e1
  exact ⟨⟨s, d⟩, by simp [Ec.cells, e0, e1], i64_of_wf w0, i64_of_wf w1⟩
/-- A slice whose elements are laid by enc'. -/
theorem rows_of_trod {α : Type} {enc' : α → List Value} {m : Nat} {t e : TypeId} (hun : Try.prog.underlying t = some (.slice e)) (hm : Try.prog.cellsOf e = m) (hpos : 0 < m) (Q : α → Prop)
    (hel : ∀ {fuel : Nat} {cs : List Value} {y : DataW H × List MemPlace}, DataW.trod enc Try.prog w base spare held fuel e cs = some y → ∃ x : α, cs = enc' x ∧ Q x) (hlen : ∀ x, (enc' x).length = m)
    {fuel : Nat} {v : Value} {y : DataW H × List MemPlace} (h : DataW.trod enc Try.prog w base spare held fuel t [v] = some y) :
    ∃ L : List α, RdG enc' m w v L ∧ L.length ≤ maxLen ∧ ∀ x ∈ L, Q x := by
  rcases open_slice hun h with ⟨hcs, _⟩ | ⟨a, len, cap, n, k, D, Pl, hcs, _, hlc, hcm, hn, _, hi⟩
  · simp at hcs
    subst hcs
    exact ⟨[], ⟨none, 0, rfl, .inl rfl⟩, by simp, by simp⟩
  · simp at hcs
    subst hcs
    have hml : len ≤ n := by rw [hn]; split <;> omega
    rcases Nat.eq_zero_or_pos len with h0 | h0
    · exact ⟨[], ⟨some a, cap, by rw [h0]; rfl, .inl rfl⟩, by simp, by simp⟩
    · have hsp : a.spot = none := by
        obtain ⟨cs', hc, ht⟩ := hi 0 (by omega)
        obtain ⟨x, rfl, _⟩ := hel ht
        rw [hm] at hc
        obtain ⟨_, _, hat⟩ := World.cells?_some hc
        have := hat 0 hpos
        rw [List.getElem?_eq_getElem (by rw [hlen]; exact hpos)] at this
        exact spot_none (a := a) (by
          obtain ⟨b, o, sp⟩ := a
          simpa [Addr.add] using this)
      obtain ⟨b, o, sp⟩ := a
      simp only at hsp
      subst hsp
      have hel2 : ∀ i, i < len → ∃ x : α, Q x ∧ b < w.heap.size ∧ ∀ j u, (enc' x)[j]? = some u → w.cell? ⟨b, o + i * m + j, none⟩ = some u := by
        intro i hi'
        obtain ⟨cs', hc, ht⟩ := hi i (by omega)
        obtain ⟨x, rfl, hq⟩ := hel ht
        rw [hm] at hc
        obtain ⟨_, _, hat⟩ := World.cells?_some hc
        rw [addr_add] at hat
        have g : ∀ j, j < m → w.cell? ⟨b, o + i * m + j, none⟩ = (enc' x)[j]? := fun j hj => by
          have := hat j hj
          rwa [addr_add] at this
        refine ⟨x, hq, ?_, fun j u hu => ?_⟩
        · have h1 := g 0 hpos
          rw [List.getElem?_eq_getElem (by rw [hlen]; exact hpos)] at h1
          exact World.block_lt_of_cell? w _ h1
        · rw [g j (by rw [← hlen x]; exact (List.getElem?_eq_some_iff.1 hu).1)]; exact hu
      obtain ⟨L, hL, hE⟩ := list_of (P := fun i x => Q x ∧ b < w.heap.size ∧ ∀ j u, (enc' x)[j]? = some u → w.cell? ⟨b, o + i * m + j, none⟩ = some u) len hel2
      refine ⟨L, ⟨some ⟨b, o, none⟩, cap, by rw [hL], .inr ⟨b, o, rfl, ?_, fun k x hx => (hE k x hx).2.2⟩⟩, by rw [hL]; omega, ?_⟩
      · obtain ⟨x, _, hb, _⟩ := hel2 0 h0
        exact hb
      · intro x hx
        obtain ⟨k, hk⟩ := List.getElem?_of_mem hx
        exact (hE k x hk).1
theorem echoes_of_trod {fuel : Nat} {v : Value} {y : DataW H × List MemPlace} (h : DataW.trod enc Try.prog w base spare held fuel 32 [v] = some y) : ∃ E : List Ec, RdE w v E ∧ E.length ≤ maxLen := by
  obtain ⟨L, h1, h2, _⟩ := rows_of_trod (α := Ec) (enc' := Ec.cells) Try.underlying32 cells51 (by decide) (fun _ => True) (fun ht => by obtain ⟨x, hx, _⟩ := echo_of_trod ht; exact ⟨x, hx, trivial⟩) ec_len h
  exact ⟨L, h1, h2⟩
theorem beacon_of_trod {fuel : Nat} {cs : List Value} {y : DataW H × List MemPlace} (h : DataW.trod enc Try.prog w base spare held fuel 34 cs = some y) :
    ∃ (ep : Int) (ev : Value) (E : List Ec), cs = [.int .i64 ep, ev] ∧ RdE w ev E ∧ E.length ≤ maxLen ∧ I64 ep := by
  obtain ⟨xs, m, _, _, hl, hx, hf⟩ := DataW.trod_struct Try.underlying34 h
  have hl2 : cs.length = 2 := hl.trans cells34
  clear hl
  obtain ⟨c0, c1, rfl⟩ := list2 hl2
  have l2 : xs.length = 2 := hx
  clear hx hl2 h
  have g0 := (hf 0 _ rfl).trans (List.getElem?_eq_getElem (by omega))
  have g1 := (hf 1 _ rfl).trans (List.getElem?_eq_getElem (by omega))
  obtain ⟨s, e0, _, w0⟩ := DataW.trod_int Try.underlying3 g0
  simp [cells32] at g1
  obtain ⟨E, hE, hE2⟩ := echoes_of_trod g1
  clear g0 g1 hf
  simp [cells3] at e0
  exact ⟨s, c1, E, by rw [e0], hE, hE2, i64_of_wf w0⟩
theorem mv_of_trod {fuel : Nat} {cs : List Value} {y : DataW H × List MemPlace} (h : DataW.trod enc Try.prog w base spare held fuel 36 cs = some y) :
    ∃ o : Mv, cs = o.cells ∧ (RdE w o.ev o.E ∧ o.E.length ≤ maxLen ∧ I64 o.now ∧ I64 o.fr ∧ I64 o.ep) := by
  obtain ⟨xs, m, _, _, hl, hx, hf⟩ := DataW.trod_struct Try.underlying36 h
  have hl5 : cs.length = 5 := hl.trans cells36
  clear hl
  obtain ⟨c0, c1, c2, c3, c4, rfl⟩ := list5 hl5
  have l4 : xs.length = 4 := hx
  clear hx hl5 h
  have g0 := (hf 0 _ rfl).trans (List.getElem?_eq_getElem (by omega))
  have g1 := (hf 1 _ rfl).trans (List.getElem?_eq_getElem (by omega))
  have g2 := (hf 2 _ rfl).trans (List.getElem?_eq_getElem (by omega))
  have g3 := (hf 3 _ rfl).trans (List.getElem?_eq_getElem (by omega))
  obtain ⟨t, e0, _⟩ := DataW.trod_bool Try.underlying4 g0
  obtain ⟨n, e1, _, w1⟩ := DataW.trod_int Try.underlying3 g1
  obtain ⟨f, e2, _, w2⟩ := DataW.trod_int Try.underlying3 g2
  obtain ⟨ep, ev, E, e3, hE, hE2, w3⟩ := beacon_of_trod g3
  clear g0 g1 g2 g3 hf
  simp [cells3, cells4, cells34] at e0 e1 e2 e3
  exact ⟨⟨t, n, f, ep, ev, E⟩, by simp [Mv.cells, e0, e1, e2, e3], hE, hE2, i64_of_wf w1, i64_of_wf w2, w3⟩
theorem agg_of {P : Program} {t : TypeId} {fs : Array Field} (hs : P.underlying t = some (.struct fs)) {r : Reach} {b0 : Nat} {v : Value} {d : DataW H} {p : List MemPlace} (hv : Value.okWide P w r b0 t v) (h : DataW.Trod enc P w base spare held t v d p) :
    ∃ cs fuel, v = .agg cs ∧ DataW.trod enc P w base spare held fuel t cs.toList = some (d, p) := by
  obtain ⟨cs, rfl, _⟩ := okWide_struct hs hv
  obtain ⟨fuel, hf⟩ := h
  exact ⟨cs, fuel, rfl, hf⟩
set_option maxRecDepth 100000 in
/-- A beacon by value. -/
theorem open_beacon {r : Reach} {b0 : Nat} {v : Value} {d : DataW H} {p : List MemPlace} (hv : Value.okWide Try.prog w r b0 34 v) (h : DataW.Trod enc Try.prog w base spare held 34 v d p) :
    ∃ (ep : Int) (ev : Value) (E : List Ec), v = .agg #[.int .i64 ep, ev] ∧ RdE w ev E ∧ E.length ≤ maxLen ∧ I64 ep := by
  obtain ⟨cs, fuel, rfl, hf⟩ := agg_of Try.underlying34 hv h
  obtain ⟨ep, ev, E, e, k⟩ := beacon_of_trod hf
  exact ⟨ep, ev, E, congrArg Value.agg (array_of e), k⟩
set_option maxRecDepth 100000 in
/-- A call by value. -/
theorem open_mv {r : Reach} {b0 : Nat} {v : Value} {d : DataW H} {p : List MemPlace} (hv : Value.okWide Try.prog w r b0 36 v) (h : DataW.Trod enc Try.prog w base spare held 36 v d p) :
    ∃ o : Mv, v = .agg #[.bool o.t, .int .i64 o.now, .int .i64 o.fr, .int .i64 o.ep, o.ev] ∧ RdE w o.ev o.E ∧ o.E.length ≤ maxLen ∧ I64 o.now ∧ I64 o.fr ∧ I64 o.ep := by
  obtain ⟨cs, fuel, rfl, hf⟩ := agg_of Try.underlying36 hv h
  obtain ⟨o, e, k⟩ := mv_of_trod hf
  exact ⟨o, congrArg Value.agg (array_of e), k⟩
set_option maxRecDepth 100000 in
/-- A script that came in. -/
theorem open_mvs {r : Reach} {b0 : Nat} {v : Value} {d : DataW H} {p : List MemPlace} (hv : Value.okWide Try.prog w r b0 22 v) (h : DataW.Trod enc Try.prog w base spare held 22 v d p) :
    ∃ L : List Mv, RdM w v L ∧ EvsOk w L ∧ L.length ≤ maxLen ∧ ∀ o ∈ L, o.E.length ≤ maxLen ∧ I64 o.now ∧ I64 o.fr ∧ I64 o.ep := by
  obtain ⟨A, len, cap, rfl⟩ := okWide_slice Try.underlying22 hv
  obtain ⟨fuel, hf⟩ := h
  obtain ⟨L, h1, h2, h3⟩ := rows_of_trod (α := Mv) (enc' := Mv.cells) Try.underlying22 cells36 (by decide) _ (fun ht => mv_of_trod ht) mv_len (v := .slice A len cap) (by simpa [Value.cells] using hf)
  exact ⟨L, h1, fun o ho => (h3 o ho).1, h2, fun o ho => (h3 o ho).2⟩
end
end Go.Proofs.Ytocfnimeinongaa
