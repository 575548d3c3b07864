/- SenseTurns, the plain law: what the events say of a link. -/
import Derived.Test.YtocfnimeinongaaU
set_option linter.unusedSimpArgs false
set_option linter.unusedVariables false
namespace Go.Proofs.Ytocfnimeinongaa
open Go.RowKit
def upOf (T : Tab) : Int → Int := fun k => if (T.at k).t then (T.at k).e else -1
def applyE (U : Int → Int) (x : Ev) : Int → Int := fun n => if n = x.n then (if x.k = 1 then x.e else -1) else U n
def okE (id : Int) (U : Int → Int) (x : Ev) : Prop := (0 ≤ x.n ∧ x.n < 64 ∧ x.n ≠ id) ∧ ((x.k = 1 ∧ U x.n < 0) ∨ (x.k = 2 ∧ U x.n = x.e))
def okL (id : Int) : (Int → Int) → List Ev → Prop
  | _, [] => True
  | U, x :: l => okE id U x ∧ okL id (applyE U x) l
def foldE (U : Int → Int) (L : List Ev) : Int → Int := L.foldl applyE U
theorem foldE_snoc (U : Int → Int) (L : List Ev) (x : Ev) : foldE U (L ++ [x]) = applyE (foldE U L) x := by simp [foldE]
theorem okL_at {id : Int} : ∀ {U : Int → Int} {L : List Ev} (h : okL id U L) {j : Nat} {x : Ev} (hx : L[j]? = some x), okE id (foldE U (L.take j)) x
  | U, [], h, j, x, hx => by simp at hx
  | U, y :: l, h, 0, x, hx => by simp at hx; subst hx; exact h.1
  | U, y :: l, h, j + 1, x, hx => by
    have := okL_at (U := applyE U y) (L := l) h.2 (j := j) (x := x) (by simpa using hx)
    simpa [foldE] using this
theorem keys_ok {id : Int} {T : Tab} : ∀ (K : List Int) (U : Int → Int), K.Nodup → (∀ k ∈ K, U k = (T.at k).e ∧ 0 ≤ k ∧ k < 64 ∧ k ≠ id) → okL id U (K.map (evAt T)) ∧ ∀ n, foldE U (K.map (evAt T)) n = if n ∈ K then -1 else U n
  | [], U, _, _ => ⟨trivial, fun n => by simp [foldE]⟩
  | k :: K, U, hnd, h => by
    obtain ⟨hk, hnd'⟩ := List.nodup_cons.1 hnd
    have h0 := h k (by simp)
    have ih := keys_ok (id := id) (T := T) K (applyE U (evAt T k)) hnd' (fun j hj => by
      have hne : j ≠ k := fun e => hk (e ▸ hj)
      have := h j (by simp [hj])
      refine ⟨?_, this.2⟩
      simp only [applyE, evAt, hne, if_false]
      exact this.1)
    refine ⟨⟨⟨⟨h0.2.1, h0.2.2.1, h0.2.2.2⟩, .inr ⟨rfl, h0.1⟩⟩, ih.1⟩, fun n => ?_⟩
    show foldE (applyE U (evAt T k)) (K.map (evAt T)) n = _
    rw [ih.2 n]
    by_cases hn : n ∈ K
    · rw [if_pos hn, if_pos (by simp [hn])]
    · rw [if_neg hn]
      by_cases e : n = k
      · subst e; simp [applyE, evAt]
      · simp [applyE, evAt, e, hn]
theorem turns_tick {st : St} (h : st.Ok) (now : Int) : okL st.id (upOf st.T) (tickOut st now) ∧ ∀ n, foldE (upOf st.T) (tickOut st now) n = upOf (st.tick now).T n := by
  have hnd : ((keysL st.T).filter (goneB st now)).Nodup := ((keysL_up st.T).imp (fun h => by omega)).filter _
  have hk := keys_ok (id := st.id) (T := st.T) ((keysL st.T).filter (goneB st now)) (upOf st.T) hnd (fun k hk => by
    obtain ⟨h1, h2⟩ := List.mem_filter.1 hk
    have h3 := (keysL_mem.1 h1).1
    have h4 := at_of_mem h1
    have ht : (st.T.at k).t = true := by
      unfold goneB at h2
      simp only [Bool.and_eq_true] at h2
      exact h2.2
    exact ⟨by unfold upOf; rw [if_pos ht], h3.1, h3.2, (h.tab _ _ h4).1.2.2⟩)
  refine ⟨hk.1, fun n => ?_⟩
  show foldE (upOf st.T) (((keysL st.T).filter (goneB st now)).map (evAt st.T)) n = _
  rw [hk.2 n]
  have htick : (st.tick now).T.at n = ((st.T n).filter (keepB st now)).getD hdz := rfl
  cases e : st.T n with
  | none =>
    have hno : n ∉ (keysL st.T).filter (goneB st now) := fun hm => by
      have := (keysL_mem.1 (List.mem_filter.1 hm).1).2
      rw [e] at this; cases this
    rw [if_neg hno]
    unfold upOf
    simp only [htick, e, Option.filter_none, Option.getD_none]
    simp [Tab.at, e]
  | some x =>
    have hin : n ∈ keysL st.T := keysL_mem.2 ⟨h.tabOk n x e, by rw [e]; rfl⟩
    have hat : st.T.at n = x := by simp [Tab.at, e]
    cases hkb : keepB st now x with
    | true =>
      have hno : n ∉ (keysL st.T).filter (goneB st now) := fun hm => by
        have := (List.mem_filter.1 hm).2
        unfold goneB at this
        rw [hat, hkb] at this
        cases this
      rw [if_neg hno]
      unfold upOf
      rw [htick, e, Option.filter_some, if_pos hkb, hat]
      rfl
    | false =>
      have h1 : upOf (st.tick now).T n = -1 := by
        unfold upOf
        simp only [htick, e, Option.filter_some, hkb, Bool.false_eq_true, if_false, Option.getD_none]
        rfl
      rw [h1]
      cases ht : x.t with
      | true =>
        rw [if_pos (List.mem_filter.2 ⟨hin, by unfold goneB; rw [hat, hkb, ht]; rfl⟩)]
      | false =>
        have hno : n ∉ (keysL st.T).filter (goneB st now) := fun hm => by
          have := (List.mem_filter.1 hm).2
          unfold goneB at this
          rw [hat, ht] at this
          simp at this
        rw [if_neg hno]
        unfold upOf
        rw [hat, ht]
        rfl
theorem turns_hear {st : St} (h : st.Ok) {now fr ep : Int} {E : List Ec} (he : hearErr st now fr ep E = 0) : okL st.id (upOf st.T) (hearOut st fr ep E) ∧ ∀ n, foldE (upOf st.T) (hearOut st fr ep E) n = upOf (st.hear now fr ep E).T n := by
  obtain ⟨h1, h2, h3, h4, h5⟩ := hearErr_zero he
  have hr := nodeB_iff.1 h2
  have hput : ∀ n, upOf (st.hear now fr ep E).T n = if n = fr then (if thereB st E then ep else -1) else upOf st.T n := fun n => by
    unfold upOf
    simp only [St.hear]
    by_cases e : n = fr
    · subst e; simp only [put_at, if_true]
    · rw [if_neg e]
      have : (st.T.put fr ⟨ep, now, thereB st E⟩).at n = st.T.at n := by simp [Tab.at, Tab.put, e]
      simp only [this]
  have hup : upOf st.T fr = if (st.T.at fr).t then (st.T.at fr).e else -1 := rfl
  have hat := h.at fr
  simp only [hput]
  unfold hearOut newer
  generalize hhv : st.T.at fr = x at *
  have hxe : x.e ≤ ep := h5
  cases ht : x.t with
  | false =>
    rw [ht] at hup
    simp only [Bool.false_and, Bool.false_eq_true, if_false, List.nil_append] at hup ⊢
    cases hs : thereB st E with
    | false =>
      refine ⟨trivial, fun n => ?_⟩
      simp [foldE]
      intro e; rw [e, hup]
    | true =>
      refine ⟨⟨⟨⟨hr.1, hr.2, h3⟩, .inl ⟨rfl, by show upOf st.T fr < 0; rw [hup]; omega⟩⟩, trivial⟩, fun n => ?_⟩
      simp [foldE, applyE]
  | true =>
    rw [ht] at hup
    simp only [Bool.true_and, if_true] at hup ⊢
    cases hlt : decide (x.e < ep) with
    | false =>
      have hee : x.e = ep := by simp at hlt; omega
      cases hs : thereB st E with
      | false =>
        refine ⟨⟨⟨⟨hr.1, hr.2, h3⟩, .inr ⟨rfl, by show upOf st.T fr = ep; rw [hup, hee]⟩⟩, trivial⟩, fun n => ?_⟩
        simp [foldE, applyE]
      | true =>
        refine ⟨trivial, fun n => ?_⟩
        simp [foldE]
        intro e; rw [e, hup, hee]
    | true =>
      cases hs : thereB st E with
      | false =>
        refine ⟨⟨⟨⟨hr.1, hr.2, h3⟩, .inr ⟨rfl, hup⟩⟩, trivial⟩, fun n => ?_⟩
        simp [foldE, applyE]
      | true =>
        refine ⟨⟨⟨⟨hr.1, hr.2, h3⟩, .inr ⟨rfl, hup⟩⟩, ⟨⟨hr.1, hr.2, h3⟩, .inl ⟨rfl, by simp [applyE]⟩⟩, trivial⟩, fun n => ?_⟩
        simp [foldE, applyE]
        split <;> simp_all
theorem turns {st : St} (h : st.Ok) (o : Mv) : okL st.id (upOf st.T) (st.outs o) ∧ ∀ n, foldE (upOf st.T) (st.outs o) n = upOf (st.step o).T n := by
  unfold St.outs St.step
  cases ht : o.t with
  | true =>
    simp only [if_true]
    split
    · exact turns_tick h _
    · exact ⟨trivial, fun _ => rfl⟩
  | false =>
    simp only [Bool.false_eq_true, if_false]
    split
    · exact turns_hear h (by assumption)
    · exact ⟨trivial, fun _ => rfl⟩
/-- The links are those that are up. -/
theorem up_nonneg {st : St} (h : st.Ok) (k : Int) : (0 ≤ upOf st.T k) ↔ (st.T.at k).t = true := by
  have := h.at k
  unfold upOf
  cases (st.T.at k).t <;> simp <;> omega
theorem rowsTo_add (T : Tab) (f : Int → Bool) (k m : Nat) : ∃ R, rowsTo T f (k + m) = rowsTo T f k ++ R := by
  induction m with
  | zero => exact ⟨[], by simp⟩
  | succ m ih =>
    obtain ⟨R, hR⟩ := ih
    exact ⟨_, by rw [← Nat.add_assoc, rowsTo_succ, hR, List.append_assoc]⟩
theorem link_at {st : St} {k : Nat} (hk : k < 64) (ht : (st.T.at k).t = true) : (linkL st.T)[(rowsTo st.T (fun k => (st.T.at k).t) k).length]? = some ⟨k, (st.T.at k).e⟩ := by
  obtain ⟨R, hR⟩ := rowsTo_add st.T (fun k => (st.T.at k).t) (k + 1) (63 - k)
  rw [show k + 1 + (63 - k) = 64 by omega, linkL_to, rowsTo_succ, row_t ht] at hR
  simp only [ht, Bool.and_self, if_true] at hR
  rw [hR]
  simp [ecAt]
end Go.Proofs.Ytocfnimeinongaa
