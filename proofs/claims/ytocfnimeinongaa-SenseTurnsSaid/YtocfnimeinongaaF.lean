/- The walks of the reference's New; of Beacon and Links. -/
import Derived.Test.YtocfnimeinongaaE
set_option linter.unusedSimpArgs false
set_option linter.unusedVariables false
namespace Go.Proofs.Ytocfnimeinongaa
open Go.RowKit
attribute [local go_sem ↓] Go.wp_at_zero Go.wp_at_succ
theorem info78 : (Try.prog.info? 78).map (fun i => (i.zero, i.size, i.bytes)) = some (some (.agg #[.bool false, .int .i64 0, .int .i64 0, .bool false]), 4, 32) := by kernel_rfl
theorem own_make {w : World} {e : TypeId} {m base g n : Nat} {xs : List Value} (h : w.ownsRow base e m (.slice (some ⟨g, 0, none⟩) n n) n xs) : w.heap[g]? = some (.cells xs.toArray e (0, 0)) := by
  rcases h.2 with ⟨h1, _⟩ | ⟨g', cap, cur, hv, hb, hh, hn, hm, hc, ht⟩
  · exact absurd h1 (by simp)
  · simp only [Value.slice.injEq, Option.some.injEq, Addr.mk.injEq, true_and, and_true] at hv
    obtain ⟨rfl, rfl⟩ := hv
    rw [hh]
    congr 2
    apply Array.ext'
    rw [← ht, List.take_of_length_le (by simp; omega)]
theorem made_rows : ∀ k : Nat, k < 64 → ∀ i u, (rowR (fun _ => none) k)[i]? = some u → (madeCells #[.bool false, .int .i64 0, .int .i64 0, .bool false] (64 * 4)).toList.toArray[k * 4 + i]? = some u := by
  intro k hk i u hu
  have hi : i < 4 := (List.getElem?_eq_some_iff.1 hu).1
  have hlt : k * 4 + i < 64 * 4 := by omega
  rw [List.getElem?_toArray]
  simp only [madeCells, Array.toList_map, List.getElem?_map, Array.toList_range, List.getElem?_range hlt, Option.map_some]
  rw [← hu]
  have hm : (k * 4 + i) % 4 = i := by omega
  simp only [List.size_toArray, List.length_cons, List.length_nil, hm]
  match i, hi with
  | 0, _ => rfl
  | 1, _ => rfl
  | 2, _ => rfl
  | 3, _ => rfl
/-- The reference's sensor, its row in block r. -/
def RAtR (w : World) (y r : Nat) (st : St) : Prop := ∃ cs,
  w.heap[y]? = some (.cells #[.int .i64 st.id, .int .i64 st.ep, .int .i64 st.hold, .int .i64 st.now, .slice (some ⟨r, 0, none⟩) 64 64] 72 (0, 0)) ∧ w.heap[r]? = some (.cells cs 78 (0, 0)) ∧
  ∀ k : Nat, k < 64 → ∀ i u, (rowR st.T k)[i]? = some u → cs[k * 4 + i]? = some u
theorem RAtR.rat {w : World} {y r : Nat} {st : St} (h : RAtR w y r st) : RAt w y st := ⟨r, h⟩
def NewRPost (w : World) (id ep hold : Int) (e : Ending) (w' : World) : Prop :=
  Below w.heap.size w w' ∧ ((newB id ep hold = false ∧ e = .returned (.tuple #[.pointer none, .int .i64 1])) ∨ (newB id ep hold = true ∧ ∃ s r, e = .returned (.tuple #[.pointer (some ⟨s, 0, none⟩), .int .i64 0]) ∧ RAtR w' s r (St.new id ep hold) ∧ w.heap.size ≤ s ∧ w.heap.size ≤ r))
set_option maxRecDepth 100000 in
set_option maxHeartbeats 1000000 in
theorem c11 (id ep hold : Int) (w : World) :
    Calls Try.prog 11 #[.int .i64 id, .int .i64 ep, .int .i64 hold] w (NewRPost w id ep hold) := by
  have HN := hidd (show newB id ep hold = (decide (0 ≤ id) && decide (id < 64) && epB ep && decide (1 ≤ hold) && decide (hold ≤ 1000000)) by simp [newB, nodeB])
  have bad : newB id ep hold = false → ∀ W, Below w.heap.size w W → NewRPost w id ep hold (.returned (.tuple #[.pointer none, .int .i64 1])) W := fun h W hb => ⟨hb, .inl ⟨h, rfl⟩⟩
  have HBAD := hidd bad
  clear bad
  by_cases h0 : id < 0
  · go_enter Try.func11, Try.ntmps11
    go_wp2
    go_ret2
    exact HBAD.out (by rw [HN.out]; simp; omega) _ (Below.refl _ _)
  by_cases h1 : 64 ≤ id
  · go_enter Try.func11, Try.ntmps11
    go_wp2
    go_ret2
    exact HBAD.out (by rw [HN.out]; simp; omega) _ (Below.refl _ _)
  have j0 : decide (0 ≤ id) = true := by simp; omega
  have j1 : decide (id < 64) = true := by simp; omega
  obtain ⟨q, hq⟩ : ∃ q, epB ep = q := ⟨_, rfl⟩
  have HQ := hidd hq
  clear hq
  cases q with
  | false =>
    go_enter Try.func11, Try.ntmps11
    go_wp2_with (go_at_call 27; refine (c27v _ _ _ HQ.out).mono ?_; rintro e w' ⟨rfl, rfl⟩)
    go_ret2
    exact HBAD.out (by rw [HN.out, HQ.out]; simp) _ (Below.refl _ _)
  | true =>
    by_cases h2 : hold < 1
    · go_enter Try.func11, Try.ntmps11
      go_wp2_with (go_at_call 27; refine (c27v _ _ _ HQ.out).mono ?_; rintro e w' ⟨rfl, rfl⟩)
      go_ret2
      exact HBAD.out (by rw [HN.out]; simp; omega) _ (Below.refl _ _)
    by_cases h3 : 1000000 < hold
    · go_enter Try.func11, Try.ntmps11
      go_wp2_with (go_at_call 27; refine (c27v _ _ _ HQ.out).mono ?_; rintro e w' ⟨rfl, rfl⟩)
      go_ret2
      exact HBAD.out (by rw [HN.out]; simp; omega) _ (Below.refl _ _)
    have HG := hidd (show newB id ep hold = true by rw [HN.out, j0, j1, HQ.out]; simp; omega)
    obtain ⟨i0, hi, hz0, hz1, hz2⟩ := info_parts info78
    go_enter Try.func11, Try.ntmps11
    go_wp2_with (first
      | (go_at_call 27; refine (c27v _ _ _ HQ.out).mono ?_; rintro e w' ⟨rfl, rfl⟩)
      | (at_make; refine wpList_make_full _ rfl _ _ 70 rfl w.heap.size 78 i0 _ 4 Try.underlying70 hi hz0 hz1 .i64 .i64 _ _ 64 rfl rfl rfl rfl (by rw [hz2]; omega) (by unfold maxLen; omega) (Nat.le_refl _) ?_; intro w1 hown hg))
    have hh := own_make hown
    go_ret2
    have hlt := hg.size
    exact ⟨Bl_alloc ((Below.refl _ _).grown hg (Nat.le_refl _) (fun k hk => by cases hk)) _, .inr ⟨HG.out, w1.heap.size, w.heap.size, rfl, ⟨_, heap_new _ _, heap_alloc hh _, made_rows⟩, by omega, Nat.le_refl _⟩⟩
theorem f75_0 (e a : Value) (t : Value) (w : World) : (Instr.field 75 (.agg #[e, a, t]) 0).run Try.prog w = .ok e w := by kernel_rfl
theorem f75_2 (e a : Value) (t : Value) (w : World) : (Instr.field 75 (.agg #[e, a, t]) 2).run Try.prog w = .ok t w := by kernel_rfl
theorem f34_1 (e a : Value) (w : World) : (Instr.field 34 (.agg #[e, a]) 1).run Try.prog w = .ok a w := by kernel_rfl
theorem SAt.parts {w : World} {s n : Nat} {st : St} (h : SAt w s n st) : ∃ p b, w.cell? ⟨s, 4, none⟩ = some (.pointer (some ⟨p, 0, none⟩)) ∧ w.heap[p]? = some (.cells #[.map (some b)] 68 (0, 0)) ∧ w.cell? ⟨p, 0, none⟩ = some (.map (some b)) ∧ OwnT w b n st.T ∧ s < w.heap.size ∧ p < w.heap.size := by
  obtain ⟨p, b, h1, h2, h3⟩ := h
  exact ⟨p, b, cell_of_heap h1 4, h2, cell_of_heap h2 0, h3, (Array.getElem?_eq_some_iff.1 h1).1, (Array.getElem?_eq_some_iff.1 h2).1⟩
set_option maxHeartbeats 1000000 in
theorem c36 {w : World} {s n : Nat} {st : St} (h : SAt w s n st) (x : Ec) (bx : Nat) (hx0 : 0 ≤ x.i) (hx1 : x.i < 64) (hb : w.cell? ⟨bx, 0, none⟩ = some (.pointer (some ⟨s, 0, none⟩))) :
    Calls Try.prog 36 #[.agg #[.int .i64 x.i, .int .i64 x.e], .pointer (some ⟨bx, 0, none⟩)] w fun e w' => e = .returned (.bool (!(st.T.at x.i).t)) ∧ Below w.heap.size w w' := by
  obtain ⟨p, b, h4, hp, hp0, hown, ls, lp⟩ := h.parts
  have hlt' : bx < w.heap.size := World.block_lt_of_cell? w _ hb
  have H30 := hidd (fun (W : World) (h1 : W.cell? ⟨s, 4, none⟩ = some (.pointer (some ⟨p, 0, none⟩))) (h2 : W.heap[p]? = some (.cells #[.map (some b)] 68 (0, 0))) => c30 s 4 p _ W h1 h2)
  have HO := hidd hown
  have HP := hidd hp
  clear hown h hp
  generalize htv : (st.T.at x.i) = hv at *
  go_enter Try.func36, Try.ntmps36
  go_wp2_with fail
  generalize hW : World.alloc w _ = W
  have hB : Below w.heap.size w W := by rw [← hW]; exact Bl_alloc (Below.refl _ _) _
  have m0 : W.cell? ⟨bx, 0, none⟩ = some (.pointer (some ⟨s, 0, none⟩)) := (hB.cell (p := ⟨bx, 0, none⟩) hlt').trans hb
  have m1 : W.cell? ⟨s, 4, none⟩ = some (.pointer (some ⟨p, 0, none⟩)) := (hB.cell (p := ⟨s, 4, none⟩) ls).trans h4
  have m2 : W.cell? ⟨p, 0, none⟩ = some (.map (some b)) := (hB.cell (p := ⟨p, 0, none⟩) lp).trans hp0
  have m3 : W.cell? ⟨w.heap.size, 0, none⟩ = some (.int .i64 x.i) := by rw [← hW]; exact cell_of_heap (heap_new w _) 0
  have MP : Hid (W.heap[p]? = some (.cells #[.map (some b)] 68 (0, 0))) := hidd ((hB.block p lp).trans HP.out)
  have mL : ∀ k, (Instr.lookup 68 (.map (some b)) (.int .i64 x.i) false).run Try.prog (W.drewN k) = .ok (.agg #[.int .i64 hv.e, .int .i64 hv.a, .bool hv.t]) (W.drewN k) := fun k => by
    have := ((HO.out.below hB).below ((Below.refl _ _).drewN k)).lookup hx0 hx1
    rw [htv] at this
    exact this
  have HB := hidd hB
  have mf := fun W => f75_2 (.int .i64 hv.e) (.int .i64 hv.a) (.bool hv.t) W
  clear hB
  clear hW h4 hp0 hb
  go_quiet ((go_at_call 30; exact Calls.quiet_of_same ((H30.out (W.drewN _) m1 MP.out).mono fun e w' h => ⟨h.1, h.2.symm⟩)))
  go_wp2
  go_ret
  exact ⟨rfl, HB.out.drewN _⟩
theorem flat_snoc {α : Type} (enc : α → List Value) (L : List α) (p : α) : (L ++ [p]).flatMap enc = L.flatMap enc ++ enc p := by simp
/-- One element appended to a row of the call's own: for the walk; at a step of a drawn region. -/
theorem wpList_app {α : Type} {enc : α → List Value} {m bytes : Nat} {t e : TypeId} {z : Value} {w : World} {ops : Array Oper} {rest : List Oper} {o : Oper} {a : Act} {Q : Exit → Act → World → Prop}
    (hinfo : (Try.prog.info? e).map (fun i => (i.zero, i.size, i.bytes)) = some (some z, m, bytes)) (hun : Try.prog.underlying t = some (.slice e)) (hzs : z.cells.size = m) (hm : 0 < m) (hby : bytes ≤ 1000) (henc : ∀ x, (enc x).length = m) (h1 : ∀ x, ∀ u ∈ enc x, u.oneCell' = true)
    (hgd : o.guard = none) (s x : Operand)
    (ho : o.op = .call { callee := .builtin .append, args := #[s, x], argTypes := #[t, t] }) (base : Nat) (v : Value) (L : List α) (hs : a.eval s = v) (hown : OwnG enc m e w base v L)
    (g : Nat) (p : α) (hx : a.eval x = .slice (some ⟨g, 0, none⟩) 1 1) (hp : ∀ i u, (enc p)[i]? = some u → w.cell? ⟨g, i, none⟩ = some u) (hL : L.length ≤ 1000000) (hbase : base ≤ w.heap.size)
    (h : ∀ v' w', OwnG enc m e w' base v' (L ++ [p]) → w.grownBy w' v.ownBlock → wpList Try.prog ops Q rest (a.put o.dst v') w') : wpList Try.prog ops Q (o :: rest) a w := by
  obtain ⟨i0, hi, hz0, hz1, hz2⟩ := info_parts hinfo
  have hb : (L.length + 1) * bytes ≤ 140737488355328 := Nat.le_trans (Nat.mul_le_mul (show L.length + 1 ≤ 1000001 by omega) hby) (by omega)
  refine wpList_append_own _ hgd s x t ho base e i0 _ m bytes hun hi hz0 hz1 hz2 hzs hm v L.length (L.flatMap enc) hs hown ⟨g, 0, none⟩ 1 1 (enc p) hx (by rw [henc, Nat.one_mul]) ?_ (h1 p) (by unfold maxLen; omega) hb hbase ?_
  · intro j u hj
    rw [addr_add, Nat.zero_add]
    exact hp j u hj
  · intro v' w' hr hg _
    exact h v' w' (by unfold OwnG; rw [flat_snoc, List.length_append]; exact hr) hg
theorem step_app {α : Type} {enc : α → List Value} {m bytes : Nat} {t e : TypeId} {z : Value} {w : World} {ops : Array Oper} {o : Oper} {a : Act} {K : Act → World → Prop} {Q : Exit → Act → World → Prop} {E : Prop}
    (hinfo : (Try.prog.info? e).map (fun i => (i.zero, i.size, i.bytes)) = some (some z, m, bytes)) (hun : Try.prog.underlying t = some (.slice e)) (hzs : z.cells.size = m) (hm : 0 < m) (hby : bytes ≤ 1000) (henc : ∀ x, (enc x).length = m) (h1 : ∀ x, ∀ u ∈ enc x, u.oneCell' = true)
    (hgd : o.guard = none) (s x : Operand)
    (ho : o.op = .call { callee := .builtin .append, args := #[s, x], argTypes := #[t, t] }) (base : Nat) (v : Value) (L : List α) (hs : a.eval s = v) (hown : OwnG enc m e w base v L)
    (g : Nat) (p : α) (hx : a.eval x = .slice (some ⟨g, 0, none⟩) 1 1) (hp : ∀ i u, (enc p)[i]? = some u → w.cell? ⟨g, i, none⟩ = some u) (hL : L.length ≤ 1000000) (hbase : base ≤ w.heap.size)
    (h : ∀ g' cap w', OwnG enc m e w' base (.slice (some ⟨g', 0, none⟩) (L.length + 1) cap) (L ++ [p]) → w.grownBy w' v.ownBlock → K (a.put o.dst (.slice (some ⟨g', 0, none⟩) (L.length + 1) cap)) w') :
    if Region.wanted o (yielded ops a.tmps) = true then Oper.wp Try.prog o a w K Q else E := by
  obtain ⟨i0, hi, hz0, hz1, hz2⟩ := info_parts hinfo
  have hb : (L.length + 1) * bytes ≤ 140737488355328 := Nat.le_trans (Nat.mul_le_mul (show L.length + 1 ≤ 1000001 by omega) hby) (by omega)
  refine step_append_lies _ hgd s x t ho base e i0 _ m bytes hun hi hz0 hz1 hz2 hzs hm v L.length (L.flatMap enc) hs hown ⟨g, 0, none⟩ 1 1 (enc p) hx (by rw [henc, Nat.one_mul]) ?_ (h1 p) (by decide) (by unfold maxLen; omega) hb hbase _ rfl ?_
  · intro j u hj
    rw [addr_add, Nat.zero_add]
    exact hp j u hj
  · intro g' cap w' hr hg _ _
    refine h g' cap w' ?_ hg
    unfold OwnG
    rw [flat_snoc, List.length_append]
    exact hr
theorem info51 : (Try.prog.info? 51).map (fun i => (i.zero, i.size, i.bytes)) = some (some (.agg #[.int .i64 0, .int .i64 0]), 2, 16) := by kernel_rfl
theorem info49 : (Try.prog.info? 49).map (fun i => (i.zero, i.size, i.bytes)) = some (some (.agg #[.int .i64 0, .int .i64 0, .int .i64 0]), 3, 24) := by kernel_rfl
theorem ec_one (x : Ec) : ∀ u ∈ x.cells, u.oneCell' = true := by
  intro u hu
  simp only [Ec.cells, List.mem_cons, List.not_mem_nil, or_false] at hu
  rcases hu with rfl | rfl <;> rfl
theorem ev_one (x : Ev) : ∀ u ∈ x.cells, u.oneCell' = true := by
  intro u hu
  simp only [Ev.cells, List.mem_cons, List.not_mem_nil, or_false] at hu
  rcases hu with rfl | rfl | rfl <;> rfl
theorem ec_len (x : Ec) : x.cells.length = 2 := rfl
theorem ev_len (x : Ev) : x.cells.length = 3 := rfl
theorem ec_new {w : World} {g : Nat} (hg : g = w.heap.size) (x : Ec) (T : TypeId) : ∀ i u, x.cells[i]? = some u → (w.alloc (.cells #[.int .i64 x.i, .int .i64 x.e] T)).cell? ⟨g, i, none⟩ = some u := by
  intro i u hu
  rw [cell_of_heap (heap_new_at hg) i]
  simpa [Ec.cells] using hu
theorem ev_new {w : World} {g : Nat} (hg : g = w.heap.size) (x : Ev) (T : TypeId) : ∀ i u, x.cells[i]? = some u → (w.alloc (.cells #[.int .i64 x.k, .int .i64 x.n, .int .i64 x.e] T)).cell? ⟨g, i, none⟩ = some u := by
  intro i u hu
  rw [cell_of_heap (heap_new_at hg) i]
  simpa [Ev.cells] using hu
theorem c19n (w : World) : Calls Try.prog 19 #[.pointer none] w fun e w' => e = .returned (.agg #[.int .i64 0, .slice none 0 0]) ∧ Below w.heap.size w w' := by
  go_enter Try.func19, Try.ntmps19
  go_wp2
  refine bodyPost_ret (v := .agg #[.int .i64 0, .slice none 0 0]) ?_ ?_ ?_
  · simp [results, Try.results19, go_sem]
  · rfl
  · exact ⟨rfl, Bl_alloc (Below.refl _ _) _⟩
end Go.Proofs.Ytocfnimeinongaa
