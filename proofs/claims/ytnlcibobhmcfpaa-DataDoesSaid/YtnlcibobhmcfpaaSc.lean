import Derived.Test.YtnlcibobhmcfpaaSb
import Derived.Test.YtnlcibobhmcfpaaRa
set_option linter.unusedSimpArgs false
namespace Go.Proofs.Ytnlcibobhmcfpaa
open Go.RowKit
theorem OwnPk.weaken {w : World} {B B' : Nat} {v : Value} {L : List Pk} (h : OwnPk w B v L) (hb : B' ≤ B) : OwnPk w B' v L := by
  refine ⟨h.1, ?_⟩
  rcases h.2 with h2 | ⟨g, cap, cur, rfl, hb2, h3⟩
  · exact .inl h2
  · exact .inr ⟨g, cap, cur, rfl, Nat.le_trans hb hb2, h3⟩
theorem RQ.put {w w1 : World} {y B n : Nat} {v v' : Value} {L L' : List Pk} (h : RQ w y B n v L) (hb : Below w.heap.size w w1) (ho : OwnPk w1 w.heap.size v' L') :
    RQ (w1.setCell ⟨y, 1, none⟩ v') y B n v' L' ∧ Keeps (InR y v) w (w1.setCell ⟨y, 1, none⟩ v') :=
  h.stored ⟨(h.below hb).hy, Keeps.below hb⟩ (ho.weaken h.size)
set_option maxHeartbeats 800000 in
theorem c32 {w : World} {y B n : Nat} {v : Value} {L : List Pk} (h : RQ w y B n v L) (hL : L.length ≤ 64) (dst : Int) :
    Calls Try.prog 32 #[.pointer (some ⟨y, 0, none⟩), .int .i64 dst] w fun e w' => e = .returned (.int .i64 (cntB L dst)) ∧ (∃ v', RQ w' y B n v' (others L dst)) ∧ Keeps (InR y v) w w' := by
  obtain ⟨A, c, rfl, hrd⟩ := h.ho.rd
  have h1 : w.cell? ⟨y, 1, none⟩ = some (.slice A L.length c) := cell_of_heap h.hy 1
  have HR := hidd hrd
  have HQ := hidd h
  clear h hrd
  go_enter Try.func32, Try.ntmps32
  go_wp2_with (go_at_call 31; refine (c31 HQ.out hL dst).mono ?_; rintro e w' ⟨rfl, rfl⟩)
  go_loopw [6, 7] (fun lv i wr => ∃ k : Nat, k ≤ L.length ∧ i = .int .i64 k ∧ OwnPk wr w.heap.size lv (others (L.take k) dst) ∧ Below w.heap.size w wr) (fun _ i _ => L.length - (intOf i).toNat)
  case atStart => exact ⟨0, Nat.zero_le _, rfl, OwnPk.nil _ _, Below.refl _ _⟩
  case round =>
    obtain ⟨k, hk, rfl, hown, hb⟩ := hrel
    have m1 : wr.cell? ⟨y, 1, none⟩ = some (.slice A L.length c) := cell_of_heap (HQ.out.below hb).hy 1
    have m2 : wr.frozen? ⟨y, 1, none⟩ = false := free_of_heap (HQ.out.below hb).hy 1
    have ml := (HQ.out.below hb).y_lt
    by_cases hlt : k < L.length
    · obtain ⟨p, hp⟩ : ∃ p, L[k]? = some p := ⟨_, List.getElem?_eq_getElem hlt⟩
      obtain ⟨b, o, rfl, hbl, hcells⟩ : ∃ b o, A = some ⟨b, o, none⟩ ∧ b < w.heap.size ∧ ∀ k p, L[k]? = some p → PkHere w b (o + k * 5) p := by
        rcases HR.out with h0 | h0
        · rw [h0] at hlt; exact absurd hlt (by simp)
        · exact h0
      obtain ⟨c0, c1, c2, c3, c4⟩ := (hcells k p hp).keeps (Keeps.below (S := fun _ => False) hb) hbl (fun x => x)
      have HT := hidd (take_snoc' hp)
      have HO := hidd hown
      have hz := hb.size
      have HB := hidd hb
      have hml : (others (L.take k) dst).length ≤ 1000000 := Nat.le_trans (List.length_filter_le _ _) (by simp; omega)
      clear hcells hp hown hb
      cases hd : (p.d != dst) with
      | false =>
        have HD : Hid ((p.d == dst) = true) := hidd (by simpa using hd)
        go_wp2
        go_roundw
        case rel => exact ⟨k + 1, by omega, by go_num, by rw [HT.out]; unfold others; rw [List.filter_append, List.filter_cons, HD.out]; simpa [others] using HO.out, HB.out⟩
        case measure => first | (simp [intOf]; done) | (simp [intOf]; omega)
      | true =>
        have HD : Hid ((p.d == dst) = false) := hidd (by simpa using hd)
        go_wp2_with (at_builtin; refine wpList_append_pk' rfl (.tmp 30) (.tmp 38) rfl w.heap.size _ (others (L.take k) dst) rfl (HO.out.below (Bl_alloc (Below.refl _ _) (.cells #[.int .i64 p.s, .int .i64 p.d, .int .i64 p.t, .int .i64 p.n, .string p.x] 23))) wr.heap.size p rfl (pkHere_new wr p 23) hml (Nat.le_trans hz (Bl_alloc (Below.refl _ _) _).size) ?_; intro v' w3 hown' hg' hat')
        have hge : ∀ k, Value.ownBlock _ = some k → w.heap.size ≤ k := fun k hk' => HO.out.base hk'
        have hB3 := (Bl_alloc HB.out (.cells #[.int .i64 p.s, .int .i64 p.d, .int .i64 p.t, .int .i64 p.n, .string p.x] 23)).grown hg' (Bl_alloc HB.out _).size hge
        go_wp2
        go_roundw
        case rel => exact ⟨k + 1, by omega, by go_num, by rw [HT.out]; unfold others; rw [List.filter_append, List.filter_cons, HD.out]; simpa [others] using hown', hB3⟩
        case measure => first | (simp [intOf]; done) | (simp [intOf]; omega)
    · obtain ⟨A2, c2, rfl, -⟩ := hown.rd
      have HO := hidd hown
      have HB := hidd hb
      clear hown hb
      obtain rfl : k = L.length := by omega
      go_wp2
      go_ret
      have ho := HO.out
      rw [List.take_length] at ho
      exact ⟨rfl, ⟨_, (HQ.out.put HB.out ho).1⟩, (HQ.out.put HB.out ho).2⟩
theorem c28a {w : World} {y B n : Nat} {v : Value} {L : List Pk} (h : RQ w y B n v L) (p : Pk) (hL : L.length ≤ n) (hn : n ≤ 64) :
    Calls Try.prog 28 #[.pointer (some ⟨y, 0, none⟩), p.val] w fun e w' => e = .returned (.int .i64 (putE n L p)) ∧ (∃ v', RQ w' y B n v' (putL n L p)) ∧ Keeps (InR y v) w w' := by
  unfold putE putL
  cases hr : p.right with
  | false => exact (c28b y p w hr).mono fun e w' ⟨he, hb⟩ => ⟨he, ⟨_, h.below hb⟩, Keeps.below hb⟩
  | true =>
    cases hl : L.length == n with
    | true => exact (c28f h p hr (by simpa using hl)).mono fun e w' ⟨he, hb⟩ => ⟨he, ⟨_, h.below hb⟩, Keeps.below hb⟩
    | false => exact (c28g h p hr (by simp at hl; omega) hn).mono fun e w' ⟨he, hq, hk⟩ => ⟨he, hq, hk⟩
theorem pkList_take (L : List Pk) (k : Nat) : pkList (L.take k) = (pkList L).take (k * 5) := by
  induction L generalizing k with
  | nil => simp [pkList]
  | cons p L ih =>
    cases k with
    | zero => simp [pkList]
    | succ k =>
      have e : (k + 1) * 5 = 5 + k * 5 := by omega
      have := ih k
      unfold pkList at *
      rw [List.take_succ_cons, List.flatMap_cons, List.flatMap_cons, this, e, List.take_append]
      have hl : p.cells.length = 5 := rfl
      rw [hl, List.take_of_length_le (l := p.cells) (by rw [hl]; omega), show 5 + k * 5 - 5 = k * 5 by omega]
theorem add_zero_addr (g o j : Nat) : (⟨g, o, none⟩ : Addr).add j = ⟨g, o + j, none⟩ := by
  unfold Addr.add
  split
  · rename_i h; subst h; rfl
  · rfl
set_option maxRecDepth 100000 in
/-- A part of another row appended to a row of the call's own. -/
theorem wpList_append_pks {w : World} {ops : Array Oper} {rest : List Oper} {o : Oper} {a : Act} {Q : Exit → Act → World → Prop} (hgd : o.guard = none) (s x : Operand)
    (ho : o.op = .call { callee := .builtin .append, args := #[s, x], argTypes := #[33, 33] }) (base : Nat) (v : Value) (L : List Pk) (hs : a.eval s = v) (hown : OwnPk w base v L)
    (ad : Addr) (m c : Nat) (M : List Pk) (hx : a.eval x = .slice (some ad) m c) (hm : M.length = m)
    (hM : ∀ j u, (pkList M)[j]? = some u → w.cell? (ad.add j) = some u)
    (hL : L.length + M.length ≤ 1000000) (hbase : base ≤ w.heap.size)
    (h : ∀ v' w', OwnPk w' base v' (L ++ M) → w.grownBy w' v.ownBlock → wpList Try.prog ops Q rest (a.put o.dst v') w') : wpList Try.prog ops Q (o :: rest) a w := by
  obtain ⟨i0, hi, hz0, hz1, hz2⟩ := info_parts info23
  subst hm
  refine wpList_append_own _ hgd s x 33 ho base 23 i0 _ 5 48 Try.underlying33 hi hz0 hz1 hz2 rfl (by decide) v L.length (pkList L) hs hown ad M.length c (pkList M) hx (pkList_length M) hM ?_ (by unfold maxLen; omega) (by omega) hbase ?_
  · intro u hu
    unfold pkList at hu
    obtain ⟨p, _, hu⟩ := List.mem_flatMap.1 hu
    simp only [Pk.cells, List.mem_cons, List.not_mem_nil, or_false] at hu
    rcases hu with rfl | rfl | rfl | rfl | rfl <;> rfl
  · intro v' w' hr hg _
    exact h v' w' (by unfold OwnPk; rw [pkList_append, List.length_append]; exact hr) hg
end Go.Proofs.Ytnlcibobhmcfpaa
