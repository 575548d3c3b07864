/- The walks of slices.DeleteFunc at echoes, and of Links. -/
import Derived.Test.YtocfnimeinongaaI
import Derived.Lib.SliceRun
set_option linter.unusedSimpArgs false
set_option linter.unusedVariables false
namespace Go.Proofs.Ytocfnimeinongaa
open Go.RowKit
attribute [local go_sem ↓] Go.wp_at_zero Go.wp_at_succ
/-- Is a link there? -/
def linkB (T : Tab) (x : Ec) : Bool := (T.at x.i).t
def unlinkB (T : Tab) (x : Ec) : Bool := !(T.at x.i).t
set_option maxHeartbeats 400000 in
theorem c37b {w : World} {v : Value} {E : List Ec} (h : RdE w v E) (hL : E.length ≤ 1000) {bx s n : Nat} {st : St} (hS : SAt w s n st) (hE : ∀ x ∈ E, 0 ≤ x.i ∧ x.i < 64) (hbx : w.cell? ⟨bx, 0, none⟩ = some (.pointer (some ⟨s, 0, none⟩))) :
    Calls Try.prog 37 #[v, .func (.func 36) #[] #[.pointer (some ⟨bx, 0, none⟩)]] w (IdxAt (unlinkB st.T) E w) := by
  obtain ⟨A, c, rfl, hrd⟩ := h
  have HR := hidd hrd
  clear hrd
  have lbx : bx < w.heap.size := cell_lt hbx
  have HBX := hidd hbx
  have HS := hidd hS
  have HE := hidd hE
  clear hbx hS hE
  go_enter Try.func37, Try.ntmps37
  go_wp2
  go_loopw [8] (fun i wr => ∃ k : Nat, k ≤ E.length ∧ i = .int .i64 k ∧ (∀ j, j < k → ∀ u, E[j]? = some u → unlinkB st.T u = false) ∧ Below w.heap.size w wr) (fun i _ => E.length - (intOf i).toNat)
  case atStart => exact ⟨0, Nat.zero_le _, rfl, fun j hj => absurd hj (Nat.not_lt_zero _), Below.refl _ _⟩
  case round =>
    obtain ⟨k, hk, rfl, hno, hb⟩ := hrel
    by_cases hlt : k < E.length
    · obtain ⟨x, hx⟩ : ∃ x, E[k]? = some x := ⟨_, List.getElem?_eq_getElem hlt⟩
      obtain ⟨g, o, rfl, hgl, hc⟩ : ∃ b o, A = some ⟨b, o, none⟩ ∧ b < w.heap.size ∧ ∀ k a, E[k]? = some a → ∀ i u, a.cells[i]? = some u → w.cell? ⟨b, o + k * 2 + i, none⟩ = some u := by
        rcases HR.out with h0 | h0
        · rw [h0] at hlt; exact absurd hlt (by simp)
        · exact h0
      have d0 : wr.cell? ⟨g, o + k * 2, none⟩ = some (.int .i64 x.i) := (hb.cell (p := ⟨g, o + k * 2, none⟩) hgl).trans (hc k x hx 0 _ rfl)
      have d1 : wr.cell? ⟨g, o + k * 2 + 1, none⟩ = some (.int .i64 x.e) := (hb.cell (p := ⟨g, o + k * 2 + 1, none⟩) hgl).trans (hc k x hx 1 _ rfl)
      have HX := hidd hx
      have HN := hidd hno
      have HB := hidd hb
      have hx01 := HE.out x (List.mem_of_getElem? hx)
      clear hx hc hno hb
      obtain ⟨r, hr⟩ : ∃ r, unlinkB st.T x = r := ⟨_, rfl⟩
      have HRR := hidd hr
      clear hr
      have C36 := hidd ((c36 (HS.out.below HB.out) x bx hx01.1 hx01.2 ((HB.out.cell (p := ⟨bx, 0, none⟩) lbx).trans HBX.out)).mono fun e w' h => (⟨by rw [← HRR.out]; exact h.1, h.2⟩ : e = .returned (.bool r) ∧ Below wr.heap.size wr w'))
      cases r with
      | true =>
        go_wp2_with (go_at_call 36; refine C36.out.mono ?_; rintro e w2 ⟨rfl, hb2⟩)
        go_ret
        exact ⟨HB.out.trans (hb2.mono HB.out.size), .inl ⟨k, x, rfl, HX.out, HRR.out, HN.out⟩⟩
      | false =>
        go_wp2_with (go_at_call 36; refine C36.out.mono ?_; rintro e w2 ⟨rfl, hb2⟩)
        go_roundw
        case rel =>
          refine ⟨k + 1, by omega, by go_num, fun j hj u hu => ?_, HB.out.trans (hb2.mono HB.out.size)⟩
          rcases Nat.lt_or_ge j k with hj' | hj'
          · exact HN.out j hj' u hu
          · obtain rfl : j = k := by omega
            obtain rfl : x = u := by simpa using HX.out.symm.trans hu
            exact HRR.out
        case measure => simp [intOf]; omega
    · have HN := hidd hno
      have HB := hidd hb
      clear hno hb
      go_wp2
      go_ret
      exact ⟨HB.out, .inr ⟨rfl, fun j u hu => HN.out j (by have := (List.getElem?_eq_some_iff.1 hu).1; omega) u hu⟩⟩
theorem heap_setCells {b : Nat} {T : TypeId} {m : Nat × Nat} : ∀ (vs : List Value) (o : Nat) (w : World) (cs : Array Value), w.heap[b]? = some (.cells cs T m) →
    ∃ cs', (w.setCells b o vs).heap[b]? = some (.cells cs' T m) ∧ cs'.size = cs.size ∧ (∀ k, k < o → cs'[k]? = cs[k]?) ∧ Keeps (fun i => i = b) w (w.setCells b o vs)
  | [], o, w, cs, h => ⟨cs, h, rfl, fun _ _ => rfl, Keeps.refl _ _⟩
  | v :: r, o, w, cs, h => by
    obtain ⟨cs', h1, h2, h3, h4⟩ := heap_setCells r (o + 1) (w.setCell ⟨b, o, none⟩ v) _ (heap_set h o v)
    refine ⟨cs', h1, by rw [h2]; simp, fun k hk => ?_, ?_⟩
    · rw [h3 k (by omega), Array.getElem?_setIfInBounds_ne (by omega)]
    · exact ((Keeps.refl (fun i => i = b) w).setCell (.inr rfl) v).trans h4
/-- The row while DeleteFunc goes: the first i hold what is kept of the first j, those from j on are as they were. -/
structure DelInv (kp : Ec → Bool) (E : List Ec) (cap j i : Nat) (cur : Array Value) : Prop where
  size : cur.size = cap * 2
  cap : E.length ≤ cap
  len : ((E.take j).filter kp).length = i
  lt : i < j
  low : ∀ k x, ((E.take j).filter kp)[k]? = some x → ∀ u a, x.cells[u]? = some a → cur[k * 2 + u]? = some a
  high : ∀ k x, j ≤ k → E[k]? = some x → ∀ u a, x.cells[u]? = some a → cur[k * 2 + u]? = some a
theorem DelInv.skip {kp : Ec → Bool} {E : List Ec} {cap j i : Nat} {cur : Array Value} (h : DelInv kp E cap j i cur) {x : Ec} (hx : E[j]? = some x) (hk : kp x = false) : DelInv kp E cap (j + 1) i cur := by
  have e : (E.take (j + 1)).filter kp = (E.take j).filter kp := by rw [take_snoc' hx, List.filter_append]; simp [hk]
  exact ⟨h.size, h.cap, by rw [e]; exact h.len, by have := h.lt; omega, by rw [e]; exact h.low, fun k y hj => h.high k y (by omega)⟩
theorem DelInv.keep {kp : Ec → Bool} {E : List Ec} {cap j i : Nat} {cur : Array Value} (h : DelInv kp E cap j i cur) {x : Ec} (hx : E[j]? = some x) (hk : kp x = true) : DelInv kp E cap (j + 1) (i + 1) ((cur.setIfInBounds (i * 2) (.int .i64 x.i)).setIfInBounds (i * 2 + 1) (.int .i64 x.e)) := by
  have hj : j < E.length := (List.getElem?_eq_some_iff.1 hx).1
  have hlt := h.lt
  have hcap := h.cap
  have hsz := h.size
  have e : (E.take (j + 1)).filter kp = (E.take j).filter kp ++ [x] := by rw [take_snoc' hx, List.filter_append]; simp [hk]
  refine ⟨by simp [h.size], h.cap, by rw [e, List.length_append, h.len]; rfl, by omega, ?_, ?_⟩
  · rw [e]
    intro k y hy u a hu
    have hu2 : u < 2 := (List.getElem?_eq_some_iff.1 hu).1
    rcases Nat.lt_or_ge k i with hki | hki
    · rw [List.getElem?_append_left (by rw [h.len]; exact hki)] at hy
      rw [Array.getElem?_setIfInBounds_ne (by omega), Array.getElem?_setIfInBounds_ne (by omega)]
      exact h.low k y hy u a hu
    · rw [List.getElem?_append_right (by rw [h.len]; exact hki), h.len] at hy
      have hki' : k = i := by
        have := (List.getElem?_eq_some_iff.1 hy).1
        simp at this; omega
      subst hki'
      simp at hy
      subst hy
      match u, hu2 with
      | 0, _ =>
        rw [Array.getElem?_setIfInBounds_ne (by omega), Nat.add_zero, Array.getElem?_setIfInBounds_self_of_lt (by omega)]
        exact hu
      | 1, _ =>
        rw [Array.getElem?_setIfInBounds_self_of_lt (by simp; omega)]
        exact hu
  · intro k y hjk hy u a hu
    have hu2 : u < 2 := (List.getElem?_eq_some_iff.1 hu).1
    rw [Array.getElem?_setIfInBounds_ne (by omega), Array.getElem?_setIfInBounds_ne (by omega)]
    exact h.high k y (by omega) hy u a hu
theorem flat_of {α : Type} {enc : α → List Value} {m : Nat} (he : ∀ x, (enc x).length = m) {L : List α} {cur : List Value} (hs : L.length * m ≤ cur.length) (h : ∀ k x, L[k]? = some x → ∀ u a, (enc x)[u]? = some a → cur[k * m + u]? = some a) : cur.take (L.length * m) = L.flatMap enc := by
  induction L generalizing cur with
  | nil => simp
  | cons x L ih =>
    rw [List.flatMap_cons, List.length_cons, Nat.succ_mul, Nat.add_comm (L.length * m) m]
    rw [List.length_cons, Nat.succ_mul] at hs
    have e1 : cur.take m = enc x := by
      apply List.ext_getElem?
      intro i
      rcases Nat.lt_or_ge i m with hi | hi
      · have := h 0 x rfl i ((enc x)[i]'(by rw [he]; exact hi)) (List.getElem?_eq_getElem _)
        rw [Nat.zero_mul, Nat.zero_add] at this
        rw [List.getElem?_take, if_pos hi, this]
        exact (List.getElem?_eq_getElem _).symm
      · rw [List.getElem?_eq_none (by rw [List.length_take]; omega), List.getElem?_eq_none (by rw [he]; exact hi)]
    have e2 := ih (cur := cur.drop m) (by rw [List.length_drop]; omega) (fun k y hy u a hu => by
      rw [List.getElem?_drop, show m + (k * m + u) = (k + 1) * m + u by rw [Nat.succ_mul]; omega]
      exact h (k + 1) y hy u a hu)
    rw [List.take_add, e1, e2]
theorem DelInv.row {kp : Ec → Bool} {E : List Ec} {cap i : Nat} {cur cur' : Array Value} (h : DelInv kp E cap E.length i cur) (hs : cur'.size = cur.size) (hc : ∀ k, k < i * 2 → cur'[k]? = cur[k]?) : cur'.toList.take ((E.filter kp).length * 2) = (E.filter kp).flatMap Ec.cells := by
  have hl := h.len
  have hlow := h.low
  rw [List.take_of_length_le (Nat.le_refl _)] at hl hlow
  refine flat_of ec_len ?_ fun k x hx u a hu => ?_
  · have := h.lt; have := h.cap; have := h.size; simp; omega
  · have hk : k < i := by rw [← hl]; exact (List.getElem?_eq_some_iff.1 hx).1
    have hu2 : u < 2 := (List.getElem?_eq_some_iff.1 hu).1
    rw [Array.getElem?_toList, hc _ (by omega)]
    exact hlow k x hx u a hu
theorem unlink_link {T : Tab} {x : Ec} : unlinkB T x = !linkB T x := rfl
theorem filter_all {T : Tab} {E : List Ec} (h : ∀ (j : Nat) (u : Ec), E[j]? = some u → unlinkB T u = false) : E.filter (linkB T) = E := by
  rw [List.filter_eq_self]
  intro u hu
  obtain ⟨j, hj⟩ := List.getElem?_of_mem hu
  have := h j u hj
  rw [unlink_link] at this
  simpa using this
theorem DelInv.start {T : Tab} {E : List Ec} {cap k : Nat} {cur : Array Value} {x : Ec} (hcs : cur.size = cap * 2) (hcap : E.length ≤ cap) (hcur : ∀ k x, E[k]? = some x → ∀ u a, x.cells[u]? = some a → cur[k * 2 + u]? = some a) (hx : E[k]? = some x) (hp : unlinkB T x = true) (hno : ∀ j, j < k → ∀ u, E[j]? = some u → unlinkB T u = false) : DelInv (linkB T) E cap (k + 1) k cur := by
  have hk : k < E.length := (List.getElem?_eq_some_iff.1 hx).1
  have e : (E.take k).filter (linkB T) = E.take k := filter_all fun j u hu => by
    rw [List.getElem?_take] at hu
    split at hu
    · rename_i hj; exact hno j hj u hu
    · cases hu
  have e2 : (E.take (k + 1)).filter (linkB T) = E.take k := by
    rw [take_snoc' hx, List.filter_append, e]
    have : linkB T x = false := by rw [unlink_link] at hp; simpa using hp
    simp [this]
  refine ⟨hcs, hcap, by rw [e2, List.length_take]; omega, by omega, ?_, fun k y _ => hcur k y⟩
  rw [e2]
  intro j y hy
  rw [List.getElem?_take] at hy
  split at hy
  · exact hcur j y hy
  · cases hy
theorem OwnG.cur {w : World} {base g n cap : Nat} {E : List Ec} (h : OwnE w base (.slice (some ⟨g, 0, none⟩) n cap) E) : ∃ cur, base ≤ g ∧ w.heap[g]? = some (.cells cur 51 (0, 0)) ∧ cap ≤ maxLen ∧ cur.size = cap * 2 ∧ E.length ≤ cap ∧ ∀ k x, E[k]? = some x → ∀ u a, x.cells[u]? = some a → cur[k * 2 + u]? = some a := by
  have hr := h.rd ec_len
  rcases h.2 with ⟨h1, _⟩ | ⟨g', cap', cur, e, hb, hh, hn, hm, hc, ht⟩
  · cases h1
  · simp only [Value.slice.injEq, Option.some.injEq, Addr.mk.injEq, true_and, and_true] at e
    obtain ⟨rfl, _, rfl⟩ := e
    refine ⟨cur, hb, hh, hm, hc, hn, fun k x hx u a hu => ?_⟩
    have h3 := flat_at ec_len hx hu
    rw [← ht, List.getElem?_take] at h3
    split at h3
    · simpa using h3
    · cases h3
theorem zero51 (w : World) : (zeroValue 51).run Try.prog w = .ok (.agg #[.int .i64 0, .int .i64 0]) w := Try.zeroValue51 w
/-- clear of echoes. -/
theorem run_clear2 (w : World) (ty : TypeId) (b o n c : Nat) (hn : 0 < n) {cs : Array Value} (h : w.heap[b]? = some (.cells cs 51 (0, 0))) (hl : o + n * 2 ≤ cs.size) :
    (Builtin.clear_ #[32] ty #[.slice (some ⟨b, o, none⟩) n c]).run Try.prog w = .ok (.tuple #[]) (w.setCells b o (Builtin.zeroCells #[.int .i64 0, .int .i64 0] n).toList) := by
  have hlen : (Builtin.zeroCells #[.int .i64 0, .int .i64 0] n).toList.length = n * 2 := by simp [Builtin.zeroCells]
  have hst := run_storeCells_cells (P := Try.prog) b o (Builtin.zeroCells #[.int .i64 0, .int .i64 0] n).toList 0 w (by
    intro j hj
    rw [cell_of_heap h, Nat.add_zero, Array.getElem?_eq_getElem (by omega)]
    rfl) (fun j _ => free_of_heap h _) (by
    intro v hv
    simp only [Builtin.zeroCells, Array.toList_map, List.mem_map] at hv
    obtain ⟨i, _, rfl⟩ := hv
    have : i % 2 = 0 ∨ i % 2 = 1 := by omega
    rcases this with h | h <;> simp [h] <;> rfl)
  simp only [Nat.add_zero] at hst
  obtain ⟨m, rfl⟩ : ∃ m, n = m + 1 := ⟨n - 1, by omega⟩
  simp [Builtin.clear_, run_underlying Try.underlying32, zero51, Value.cells, hst]
set_option maxRecDepth 100000 in
set_option maxHeartbeats 2000000 in
theorem c35 {w0 w : World} {v : Value} {E : List Ec} (hb : Below w0.heap.size w0 w) (h : OwnE w w0.heap.size v E) (hL : E.length ≤ 1000) {bx s n : Nat} {st : St} (hS : SAt w0 s n st) (hE : ∀ x ∈ E, 0 ≤ x.i ∧ x.i < 64) (hbx : w0.cell? ⟨bx, 0, none⟩ = some (.pointer (some ⟨s, 0, none⟩))) :
    Calls Try.prog 35 #[v, .func (.func 36) #[] #[.pointer (some ⟨bx, 0, none⟩)]] w fun e w' => ∃ v', e = .returned v' ∧ OwnE w' w0.heap.size v' (E.filter (linkB st.T)) ∧ Below w0.heap.size w0 w' := by
  obtain ⟨A, c, rfl⟩ := (h.rd ec_len).form
  have lbx : bx < w0.heap.size := cell_lt hbx
  have C37 := hidd (c37b (h.rd ec_len) hL (hS.below hb) hE ((hb.cell (p := ⟨bx, 0, none⟩) lbx).trans hbx))
  have HO := hidd h
  have HB0 := hidd hb
  have HS := hidd hS
  have HE := hidd hE
  have HBX := hidd hbx
  clear h hb hS hE hbx
  go_enter Try.func35, Try.ntmps35
  go_wp2_with fail
  refine C37.out.mono ?_
  rintro e w1 ⟨hb1, ⟨k0, x0, rfl, hx0, hp0, hno⟩ | ⟨rfl, hno⟩⟩
  · have hk0 : k0 < E.length := (List.getElem?_eq_some_iff.1 hx0).1
    obtain ⟨g, rfl⟩ : ∃ g, A = some ⟨g, 0, none⟩ := by
      rcases HO.out.2 with ⟨_, h0⟩ | ⟨g, cap, cur, e, _⟩
      · omega
      · simp only [Value.slice.injEq] at e; exact ⟨g, e.1⟩
    obtain ⟨cur, hg, hh, hcm, hcs, hcap, hcur⟩ := (HO.out.below hb1).cur
    have HI := hidd (DelInv.start hcs hcap hcur hx0 hp0 hno)
    have HB1 := hidd (HB0.out.trans (hb1.mono HB0.out.size))
    have HH := hidd hh
    have HW := hidd hcm
    unfold maxLen at hcm
    clear hcur hno hp0 hx0 hb1 C37 HO hh hcs
    have hne : ((k0 : Int) == -1) = false := beq_eq_false_iff_ne.2 (by omega)
    go_wp2
    go_loopw [5, 6] (fun s5 s6 wr => ∃ (i j : Nat) (cur : Array Value), s5 = .int .i64 i ∧ s6 = .int .i64 j ∧ j ≤ E.length ∧ wr.heap[g]? = some (.cells cur 51 (0, 0)) ∧ Hid (DelInv (linkB st.T) E c j i cur) ∧ Below w0.heap.size w0 wr) (fun _ s6 _ => E.length - (intOf s6).toNat)
    case atStart => exact ⟨k0, k0 + 1, cur, rfl, by go_num, by omega, HH.out, HI, HB1.out⟩
    case round =>
      obtain ⟨i, j, cu, rfl, rfl, hj, hh, hinv, hb⟩ := hrel
      have hgl : g < wr.heap.size := (Array.getElem?_eq_some_iff.1 hh).1
      have hsz := hinv.out.size
      have hilt := hinv.out.lt
      have hcp := hinv.out.cap
      have hsb := hb.size
      have i0 : (0 : Int) ≤ i := by omega
      have i1 : (i : Int) < E.length := by omega
      have HHR := hidd hh
      have HBR := hidd hb
      by_cases hlt : j < E.length
      · obtain ⟨x, hx⟩ : ∃ x, E[j]? = some x := ⟨_, List.getElem?_eq_getElem hlt⟩
        have hx01 := HE.out x (List.mem_of_getElem? hx)
        have d0 : wr.cell? ⟨g, j * 2, none⟩ = some (.int .i64 x.i) := (cell_of_heap hh _).trans (hinv.out.high j x (Nat.le_refl _) hx 0 _ rfl)
        have d1 : wr.cell? ⟨g, j * 2 + 1, none⟩ = some (.int .i64 x.e) := (cell_of_heap hh _).trans (hinv.out.high j x (Nat.le_refl _) hx 1 _ rfl)
        have C36 := hidd (fun (W : World) (hW : Below w0.heap.size w0 W) => (c36 (HS.out.below hW) x bx hx01.1 hx01.2 ((hW.cell (p := ⟨bx, 0, none⟩) lbx).trans HBX.out)))
        obtain ⟨u0, hu0⟩ : ∃ u, cu[i * 2]? = some u := ⟨_, Array.getElem?_eq_getElem (by omega)⟩
        obtain ⟨u1, hu1⟩ : ∃ u, cu[i * 2 + 1]? = some u := ⟨_, Array.getElem?_eq_getElem (by omega)⟩
        have HU0 := hidd hu0
        have HU1 := hidd hu1
        have HX := hidd hx
        obtain ⟨r, hr⟩ : ∃ r, (!(st.T.at x.i).t) = r := ⟨_, rfl⟩
        have HR := hidd hr
        have HLT := hidd hlt
        have j0 : (0 : Int) ≤ j := by omega
        have j1 : (j : Int) < E.length := by omega
        clear hu0 hu1 hx hr hh hb hsz
        cases r with
        | true =>
          go_wp2_with (go_at_call 36; refine (C36.out _ (Bl_alloc HBR.out _)).mono ?_; rw [HR.out]; rintro e w2 ⟨rfl, hb2⟩)
          have HW2 := hidd (Bl_then HBR.out (Bl_then (Bl_alloc (Below.refl wr.heap.size wr) _) hb2))
          have hh2 : w2.heap[g]? = some (.cells cu 51 (0, 0)) := (hb2.block g (by simp; omega)).trans (heap_alloc HHR.out _)
          have HH2 := hidd hh2
          clear hh2 hb2
          go_wp2
          go_roundw
          case rel => exact ⟨i, j + 1, cu, rfl, by go_num, by have := HLT.out; omega, HH2.out, hidd (hinv.out.skip HX.out (by have := HR.out; unfold linkB; simpa using this)), HW2.out⟩
          case measure => have := HLT.out; simp [intOf]; omega
        | false =>
          go_wp2_with (go_at_call 36; refine (C36.out _ (Bl_alloc HBR.out _)).mono ?_; rw [HR.out]; rintro e w2 ⟨rfl, hb2⟩; (have hh2 : w2.heap[g]? = some (.cells cu 51 (0, 0)) := (hb2.block g (by simp; omega)).trans (heap_alloc HHR.out _)); (have hv2 : w2.heap[wr.heap.size]? = some (.cells #[.int .i64 x.i, .int .i64 x.e] 51 (0, 0)) := (hb2.block wr.heap.size (by simp)).trans (heap_new wr _)); (have z0 := (cell_of_heap hh2 (i * 2)).trans HU0.out); (have z1 := (cell_of_heap hh2 (i * 2 + 1)).trans HU1.out); (have z2 := free_of_heap hh2 (i * 2)); (have z3 := free_of_heap hh2 (i * 2 + 1)); (have y0 := cell_of_heap hv2 0); (have y1 := cell_of_heap hv2 1); (have HH2 := hidd hh2); (have HB2 := hidd hb2); clear hh2 hv2 hb2)
          have HW2 := hidd (Bl_then HBR.out (Bl_then (Bl_alloc (Below.refl wr.heap.size wr) _) HB2.out))
          go_roundw
          case rel => exact ⟨i + 1, j + 1, _, by go_num, by go_num, by have := HLT.out; omega, heap_set (heap_set HH2.out _ _) _ _, hidd (hinv.out.keep HX.out (by have := HR.out; unfold linkB; simpa using this)), Bl_set (Bl_set HW2.out hg _ _) hg _ _⟩
          case measure => have := HLT.out; simp [intOf]; omega
      · obtain rfl : j = E.length := by omega
        have hcl : ∀ ty, (Builtin.clear_ #[32] ty #[.slice (some ⟨g, i * 2, none⟩) (E.length - i) (c - i)]).run Try.prog wr = .ok (.tuple #[]) (wr.setCells g (i * 2) (Builtin.zeroCells #[.int .i64 0, .int .i64 0] (E.length - i)).toList) := fun ty => run_clear2 wr ty g (i * 2) (E.length - i) (c - i) (by omega) hh (by omega)
        obtain ⟨cu', h1, h2, h3, h4⟩ := heap_setCells (Builtin.zeroCells #[.int .i64 0, .int .i64 0] (E.length - i)).toList (i * 2) wr cu hh
        have HF := hidd (hinv.out.row h2 h3)
        have HL := hidd (show (E.filter (linkB st.T)).length = i by have := hinv.out.len; rwa [List.take_of_length_le (Nat.le_refl _)] at this)
        have HQ := hidd h1
        have HK := hidd h4
        have H2 := hidd h2
        have hic : i < c := by omega
        generalize wr.setCells g (i * 2) (Builtin.zeroCells #[.int .i64 0, .int .i64 0] (E.length - i)).toList = w3 at *
        clear h1 h2 h3 h4 hh hb
        go_wp2
        go_ret
        refine ⟨_, rfl, ⟨by rw [flat_length ec_len], .inr ⟨g, c, cu', by rw [HL.out]; rfl, hg, HQ.out, by rw [HL.out]; omega, HW.out, by rw [H2.out]; exact hinv.out.size, HF.out⟩⟩, ?_⟩
        exact ((Keeps.below (S := fun i => i = g) HBR.out).andThen HK.out (fun i _ e => e)).toBelow (Nat.le_refl _) (fun k e => by omega)
  · go_wp2
    go_ret
    exact ⟨_, rfl, by rw [filter_all hno]; exact HO.out.below hb1, HB0.out.trans (hb1.mono HB0.out.size)⟩
theorem echoL_mem {T : Tab} : ∀ x ∈ echoL T, 0 ≤ x.i ∧ x.i < 64 := by
  intro x hx
  obtain ⟨k, hk, rfl⟩ := List.mem_map.1 hx
  exact (keysL_mem.1 hk).1
theorem echoL_len (T : Tab) : (echoL T).length ≤ 64 := by unfold echoL; rw [List.length_map]; exact keysL_len T
set_option maxRecDepth 100000 in
set_option maxHeartbeats 1000000 in
theorem c22 {w : World} {s n : Nat} {st : St} (h : SAt w s n st) (hT : TabOk st.T) (hn : n ≤ 100000) :
    Calls Try.prog 22 #[.pointer (some ⟨s, 0, none⟩)] w fun e w' => ∃ v, e = .returned v ∧ OwnE w' w.heap.size v (linkL st.T) ∧ Below w.heap.size w w' := by
  have HS := hidd h
  have HT := hidd hT
  clear h hT
  have mf := fun v W => f34_1 (.int .i64 st.ep) v W
  go_enter Try.func22, Try.ntmps22
  go_wp2_with (go_at_call 19; refine (c19 (s := s) (n := n) (st := st) (HS.out.below (Bl_alloc (Below.refl _ _) _)) HT.out hn).mono ?_; rintro e w1 ⟨v, rfl, hv, hb⟩)
  have C35 := hidd (c35 (bx := w.heap.size) (n := n) (s := s) (st := st) hb hv (Nat.le_trans (echoL_len _) (by omega)) (HS.out.below (Bl_alloc (Below.refl _ _) _)) echoL_mem (cell_of_heap (heap_new w _) 0))
  clear hv hb
  refine C35.out.mono ?_
  rintro e w2 ⟨v', rfl, hv', hb'⟩
  go_wp2
  go_ret
  exact ⟨_, rfl, hv'.lower (by simp), (Bl_alloc (Below.refl _ _) _).trans (hb'.mono (by simp))⟩
theorem c22n (w : World) : Calls Try.prog 22 #[.pointer none] w fun e w' => e = .returned (.slice none 0 0) ∧ Below w.heap.size w w' := by
  go_enter Try.func22, Try.ntmps22
  go_wp2
  go_ret
  exact ⟨rfl, Bl_alloc (Below.refl _ _) _⟩
end Go.Proofs.Ytocfnimeinongaa
