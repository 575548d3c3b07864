/- Rows of verdicts that the call itself makes; append of one verdict; what Open takes out of a queue. -/
import Derived.Test.YtnlcibobhmcfpaaTb
set_option linter.unusedSimpArgs false
set_option linter.unusedVariables false
namespace Go.Proofs.Ytnlcibobhmcfpaa
open Go.RowKit
def Ver.cells (v : Ver) : List Value := [.int .i64 v.kind, .int .i64 v.to, .int .i64 v.s, .int .i64 v.d, .int .i64 v.t, .int .i64 v.n, .string v.x]
def vrList (V : List Ver) : List Value := V.flatMap Ver.cells
theorem vrList_length (V : List Ver) : (vrList V).length = V.length * 7 := by
  induction V with
  | nil => rfl
  | cons p V ih => simp only [vrList, List.flatMap_cons, List.length_append, List.length_cons] at *; simp only [ih]; simp [Ver.cells]; omega
theorem vrList_append (V U : List Ver) : vrList (V ++ U) = vrList V ++ vrList U := by simp [vrList]
theorem vrList_drop (V : List Ver) (j : Nat) : (vrList V).drop (j * 7) = vrList (V.drop j) := by
  induction j generalizing V with
  | zero => simp
  | succ j ih =>
    cases V with
    | nil => simp [vrList]
    | cons p V =>
      have : (j + 1) * 7 = j * 7 + 7 := by omega
      rw [this, List.drop_succ_cons, ← ih]
      simp [vrList, Ver.cells]
theorem vrList_get {V : List Ver} {j : Nat} {p : Ver} (h : V[j]? = some p) (i : Nat) (hi : i < 7) : (vrList V)[j * 7 + i]? = p.cells[i]? := by
  have hj : j < V.length := (List.getElem?_eq_some_iff.1 h).1
  have e : V.drop j = p :: V.drop (j + 1) := by
    rw [List.drop_eq_getElem_cons hj]
    congr 1
    exact (List.getElem?_eq_some_iff.1 h).2
  have : (vrList V)[j * 7 + i]? = ((vrList V).drop (j * 7))[i]? := by rw [List.getElem?_drop]
  rw [this, vrList_drop, e]
  show (p.cells ++ vrList (V.drop (j + 1)))[i]? = _
  rw [List.getElem?_append_left (by simp [Ver.cells]; omega)]
def OwnVd (w : World) (base : Nat) (v : Value) (V : List Ver) : Prop := w.ownsRow base 25 7 v V.length (vrList V)
theorem OwnVd.base {w : World} {base : Nat} {v : Value} {V : List Ver} (h : OwnVd w base v V) {g : Nat} (hg : v.ownBlock = some g) : base ≤ g := by
  rcases h.2 with ⟨rfl, _⟩ | ⟨g', cap, cur, rfl, hb, _⟩
  · simp [Value.ownBlock] at hg
  · simp [Value.ownBlock] at hg; omega
theorem OwnVd.nil (w : World) (base : Nat) : OwnVd w base (.slice none 0 0) [] := World.ownsRow_nil _ _ _ _
theorem info25 : (Try.prog.info? 25).map (fun i => (i.zero, i.size, i.bytes)) = some (some (.agg #[.int .i64 0, .int .i64 0, .int .i64 0, .int .i64 0, .int .i64 0, .int .i64 0, .string ⟨#[]⟩]), 7, 64) := by kernel_rfl
theorem OwnVd.keeps {w w' : World} {base : Nat} {v : Value} {V : List Ver} (h : OwnVd w base v V) {S : Nat → Prop} (k : Keeps S w w') (hs : ∀ g, v.ownBlock = some g → ¬ S g) : OwnVd w' base v V := by
  obtain ⟨h1, h2⟩ := h
  refine ⟨h1, ?_⟩
  rcases h2 with h2 | ⟨g, cap, cur, rfl, hb, hh, h3⟩
  · exact .inl h2
  · exact .inr ⟨g, cap, cur, rfl, hb, k.heapAt hh (hs g rfl), h3⟩
theorem OwnVd.below {w w' : World} {base : Nat} {v : Value} {V : List Ver} (h : OwnVd w base v V) (k : Below w.heap.size w w') : OwnVd w' base v V :=
  h.keeps (Keeps.below (S := fun _ => False) k) (fun _ _ x => x)
theorem OwnVd.form {w : World} {base : Nat} {v : Value} {V : List Ver} (h : OwnVd w base v V) : ∃ A c, v = .slice A V.length c ∧ ∀ g, v.ownBlock = some g → g < w.heap.size := by
  rcases h.2 with ⟨rfl, h0⟩ | ⟨g', cap, cur, rfl, hb, hh, _⟩
  · exact ⟨none, 0, by rw [h0], fun g hg => by simp [Value.ownBlock] at hg⟩
  · refine ⟨_, _, rfl, fun g hg => ?_⟩
    simp [Value.ownBlock] at hg
    subst hg
    exact (Array.getElem?_eq_some_iff.1 hh).1
/-- The verdict u lies from block b, place o on. -/
def VdHere (w : World) (b o : Nat) (u : Ver) : Prop :=
  w.cell? ⟨b, o, none⟩ = some (.int .i64 u.kind) ∧ w.cell? ⟨b, o + 1, none⟩ = some (.int .i64 u.to) ∧ w.cell? ⟨b, o + 2, none⟩ = some (.int .i64 u.s) ∧ w.cell? ⟨b, o + 3, none⟩ = some (.int .i64 u.d) ∧ w.cell? ⟨b, o + 4, none⟩ = some (.int .i64 u.t) ∧ w.cell? ⟨b, o + 5, none⟩ = some (.int .i64 u.n) ∧ w.cell? ⟨b, o + 6, none⟩ = some (.string u.x)
/-- The slice v reads as the verdicts V. -/
def RdVd (w : World) (v : Value) (V : List Ver) : Prop :=
  ∃ A c, v = .slice A V.length c ∧ (V = [] ∨ ∃ b o, A = some ⟨b, o, none⟩ ∧ b < w.heap.size ∧ ∀ k p, V[k]? = some p → VdHere w b (o + k * 7) p)
theorem VdHere.keeps {w w' : World} {b o : Nat} {p : Ver} (h : VdHere w b o p) {S : Nat → Prop} (k : Keeps S w w') (hb : b < w.heap.size) (hs : ¬ S b) : VdHere w' b o p := by
  have e : ∀ i, w'.cell? ⟨b, i, none⟩ = w.cell? ⟨b, i, none⟩ := fun i => World.cell?_of_block (w := w) (k.block b hb hs)
  unfold VdHere at *
  simp only [e]
  exact h
theorem RdVd.keeps {w w' : World} {v : Value} {V : List Ver} (h : RdVd w v V) {S : Nat → Prop} (k : Keeps S w w') (hs : ∀ g, v.ownBlock = some g → ¬ S g) : RdVd w' v V := by
  obtain ⟨A, c, rfl, h⟩ := h
  refine ⟨A, c, rfl, ?_⟩
  rcases h with h | ⟨b, o, rfl, hb, h⟩
  · exact .inl h
  · exact .inr ⟨b, o, rfl, Nat.lt_of_lt_of_le hb k.size, fun j p hp => (h j p hp).keeps k hb (hs b rfl)⟩
theorem RdVd.below {w w' : World} {v : Value} {V : List Ver} (h : RdVd w v V) (k : Below w.heap.size w w') : RdVd w' v V :=
  h.keeps (Keeps.below (S := fun _ => False) k) (fun _ _ x => x)
theorem OwnVd.rd {w : World} {base : Nat} {v : Value} {V : List Ver} (h : OwnVd w base v V) : RdVd w v V := by
  rcases h.2 with ⟨rfl, h0⟩ | ⟨g, cap, cur, rfl, hb, hh, hn, hm, hc, ht⟩
  · exact ⟨none, 0, by rw [h0], .inl (List.eq_nil_of_length_eq_zero h0)⟩
  · refine ⟨some ⟨g, 0, none⟩, cap, rfl, .inr ⟨g, 0, rfl, (Array.getElem?_eq_some_iff.1 hh).1, fun k p hp => ?_⟩⟩
    have hk : k < V.length := (List.getElem?_eq_some_iff.1 hp).1
    have g' : ∀ i, i < 7 → w.cell? ⟨g, 0 + k * 7 + i, none⟩ = p.cells[i]? := fun i hi => by
      rw [cell_of_heap hh, Nat.zero_add, ← vrList_get hp i hi, ← ht, List.getElem?_take_of_lt (by omega)]
      simp
    exact ⟨g' 0 (by omega), g' 1 (by omega), g' 2 (by omega), g' 3 (by omega), g' 4 (by omega), g' 5 (by omega), g' 6 (by omega)⟩
set_option maxRecDepth 100000 in
theorem wpList_append_vd {w : World} {ops : Array Oper} {rest : List Oper} {o : Oper} {a : Act} {Q : Exit → Act → World → Prop} (hgd : o.guard = none) (s x : Operand)
    (ho : o.op = .call { callee := .builtin .append, args := #[s, x], argTypes := #[58, 58] }) (base : Nat) (v : Value) (V : List Ver) (hs : a.eval s = v) (hown : OwnVd w base v V)
    (g : Nat) (p : Ver) (hx : a.eval x = .slice (some ⟨g, 0, none⟩) 1 1) (hc : ∀ i, i < 7 → w.cell? ⟨g, i, none⟩ = p.cells[i]?)
    (hL : V.length ≤ 1000000) (hbase : base ≤ w.heap.size)
    (h : ∀ v' w', OwnVd w' base v' (V ++ [p]) → w.grownBy w' v.ownBlock → wpList Try.prog ops Q rest (a.put o.dst v') w') : wpList Try.prog ops Q (o :: rest) a w := by
  obtain ⟨i0, hi, hz0, hz1, hz2⟩ := info_parts info25
  refine wpList_append_own _ hgd s x 58 ho base 25 i0 _ 7 64 Try.underlying58 hi hz0 hz1 hz2 rfl (by decide) v V.length (vrList V) hs hown ⟨g, 0, none⟩ 1 1 p.cells hx rfl ?_ ?_ (by unfold maxLen; omega) (by omega) hbase ?_
  · intro j u hj
    have hlt : j < 7 := (List.getElem?_eq_some_iff.1 hj).1
    have e : (⟨g, 0, none⟩ : Addr).add j = ⟨g, j, none⟩ := by unfold Addr.add; split <;> simp_all
    rw [e, ← hj]
    exact hc j hlt
  · intro u hu
    simp only [Ver.cells, List.mem_cons, List.not_mem_nil, or_false] at hu
    rcases hu with rfl | rfl | rfl | rfl | rfl | rfl | rfl <;> rfl
  · intro v' w' hr hg _
    exact h v' w' (by unfold OwnVd; rw [vrList_append, List.length_append]; simpa [vrList] using hr) hg
theorem mine_le (L : List Pk) (dst : Int) : (mine L dst).length ≤ L.length := List.length_filter_le _ _
theorem mine_split (L : List Pk) (dst : Int) : (mine L dst).length + (others L dst).length = L.length := cnt_split L dst
/-- What Take gives and leaves. -/
def Pop (L : List Pk) (dst : Int) (cur : Pk) (err : Int) (L' : List Pk) : Prop :=
  (err = 0 ∧ mine L dst = cur :: mine L' dst ∧ others L' dst = others L dst ∧ (∀ p, p ∈ L' → p ∈ L) ∧ cur ∈ L) ∨ (err = 7 ∧ cur = Pk.zero ∧ L' = L ∧ mine L dst = [])
theorem mine_erase {L : List Pk} {dst : Int} {k : Nat} {p : Pk} (hk : findB L dst = k) (hp : L[k]? = some p) : mine L dst = p :: mine (L.eraseIdx k) dst := by
  have hf : L.findIdx? (fun p => p.d == dst) = some k := by
    unfold findB at hk
    cases hf : L.findIdx? (fun p => p.d == dst) with
    | none => rw [hf] at hk; first | (simp at hk; done) | (simp at hk; omega)
    | some j => rw [hf] at hk; have h9 : (j : Int) = k := hk; rw [show j = k by omega]
  rw [List.findIdx?_eq_some_iff_getElem] at hf
  obtain ⟨hkl, hd, hno⟩ := hf
  obtain ⟨e1, e2⟩ := erase_split hp
  have hp' := (List.getElem?_eq_some_iff.1 hp).2
  rw [hp'] at hd
  have h0 : mine (L.take k) dst = [] := by
    unfold mine
    rw [List.filter_eq_nil_iff]
    intro a ha
    obtain ⟨j, hj, rfl⟩ := List.mem_take_iff_getElem.1 ha
    have := hno j (by omega)
    simpa using this
  rw [e2]
  conv => lhs; rw [e1]
  unfold mine at *
  rw [List.filter_append, List.filter_append, h0, List.filter_cons, if_pos hd]; rfl
theorem c23u {w : World} {q r n f : Nat} {R L : List Pk} (h : QAt w q r n f R L) (dst : Int) :
    Calls Try.prog 23 #[.pointer (some ⟨q, 0, none⟩), .int .i64 dst] w fun e w' => ∃ cur err L', e = .returned (.tuple #[Pk.val cur, .int .i64 err]) ∧ (∃ f' R', QAt w' q r n f' R' L') ∧ Pop L dst cur err L' ∧ Keeps (InQ q r) w w' := by
  by_cases hm : findB L dst = -1
  · refine (c23m h hm).mono fun e w' he => ⟨Pk.zero, 7, L, he.1, ⟨f, R, h.below he.2⟩, .inr ⟨rfl, rfl, rfl, ?_⟩, Keeps.below he.2⟩
    exact List.eq_nil_of_length_eq_zero (findB_none_iff hm).2
  · obtain ⟨k, p, hk, hp, hd⟩ := findB_some hm
    refine (c23h h hk hp).mono fun e w' he => ⟨p, 0, L.eraseIdx k, he.1, he.2.1, .inl ⟨rfl, mine_erase hk hp, others_erase hp hd, fun a ha => List.mem_of_mem_eraseIdx ha, List.mem_of_getElem? hp⟩, he.2.2⟩
end Go.Proofs.Ytnlcibobhmcfpaa
