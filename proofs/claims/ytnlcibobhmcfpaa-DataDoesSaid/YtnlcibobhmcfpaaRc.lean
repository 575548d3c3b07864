/- The walk of the statement QueueOrder. -/
import Derived.Test.YtnlcibobhmcfpaaRb
import Derived.Maps.AppendAt
set_option linter.unusedSimpArgs false
namespace Go.Proofs.Ytnlcibobhmcfpaa
open Go.RowKit
theorem PkHere.drewN {w : World} {b o : Nat} {p : Pk} (h : PkHere w b o p) (n : Nat) : PkHere (w.drewN n) b o p := h
set_option maxRecDepth 100000 in
/-- One packet appended to a row of the call's own: where the new row lies. -/
theorem wpList_append_pk' {w : World} {ops : Array Oper} {rest : List Oper} {o : Oper} {a : Act} {Q : Exit → Act → World → Prop} (hgd : o.guard = none) (s x : Operand)
    (ho : o.op = .call { callee := .builtin .append, args := #[s, x], argTypes := #[33, 33] }) (base : Nat) (v : Value) (L : List Pk) (hs : a.eval s = v) (hown : OwnPk w base v L)
    (g : Nat) (p : Pk) (hx : a.eval x = .slice (some ⟨g, 0, none⟩) 1 1)
    (hp : PkHere w g 0 p)
    (hL : L.length ≤ 1000000) (hbase : base ≤ w.heap.size)
    (h : ∀ v' w', OwnPk w' base v' (L ++ [p]) → w.grownBy w' v.ownBlock → (v'.ownBlock = v.ownBlock ∨ v'.ownBlock = some w.heap.size) → wpList Try.prog ops Q rest (a.put o.dst v') w') : wpList Try.prog ops Q (o :: rest) a w := by
  obtain ⟨i0, hi, hz0, hz1, hz2⟩ := info_parts info23
  obtain ⟨c0, c1, c2, c3, c4⟩ := hp
  refine wpList_append_own_at _ hgd s x 33 ho base 23 i0 _ 5 48 Try.underlying33 hi hz0 hz1 hz2 rfl (by decide) v L.length (pkList L) hs hown ⟨g, 0, none⟩ 1 1 p.cells hx rfl ?_ ?_ (by unfold maxLen; omega) (by omega) hbase ?_
  · intro j u hj
    have hlt : j < 5 := (List.getElem?_eq_some_iff.1 hj).1
    have e : (⟨g, 0, none⟩ : Addr).add j = ⟨g, j, none⟩ := by unfold Addr.add; split <;> simp_all
    rw [e, ← hj]
    match j, hlt with
    | 0, _ => exact c0
    | 1, _ => exact c1
    | 2, _ => exact c2
    | 3, _ => exact c3
    | 4, _ => exact c4
  · intro u hu
    simp only [Pk.cells, List.mem_cons, List.not_mem_nil, or_false] at hu
    rcases hu with rfl | rfl | rfl | rfl | rfl <;> rfl
  · intro v' w' hr hg _ hat
    exact h v' w' (by unfold OwnPk; rw [pkList_append, List.length_append]; simpa [pkList] using hr) hg hat
theorem Keeps.grown {S : Nat → Prop} {a b c : World} {row : Option Nat} (h : Keeps S a b) (g : b.grownBy c row) (hr : ∀ k, row = some k → a.heap.size ≤ k ∨ S k) : Keeps S a c :=
  ⟨g.os.trans h.os, g.tape.trans h.tape, g.output.trans h.output, Nat.le_trans h.size g.size, fun i hi hs => (g.block i (Nat.lt_of_lt_of_le hi h.size) (fun e => by rcases hr i e.symm with h1 | h1; omega; exact hs h1)).trans (h.block i hi hs)⟩
theorem pkHere_new (w : World) (p : Pk) (T : TypeId) : PkHere (w.alloc (.cells #[.int .i64 p.s, .int .i64 p.d, .int .i64 p.t, .int .i64 p.n, .string p.x] T)) w.heap.size 0 p :=
  ⟨cell_of_heap (heap_new _ _) 0, cell_of_heap (heap_new _ _) 1, cell_of_heap (heap_new _ _) 2, cell_of_heap (heap_new _ _) 3, cell_of_heap (heap_new _ _) 4⟩
def mine (L : List Pk) (dst : Int) : List Pk := L.filter fun p => p.d == dst
theorem mine_snoc_t {L : List Pk} {p : Pk} {dst : Int} (h : (p.d == dst) = true) : mine (L ++ [p]) dst = mine L dst ++ [p] ∧ others (L ++ [p]) dst = others L dst := by
  simp [mine, others, List.filter_append, List.filter_cons, h]
theorem mine_snoc_f {L : List Pk} {p : Pk} {dst : Int} (h : (p.d == dst) = false) : mine (L ++ [p]) dst = mine L dst ∧ others (L ++ [p]) dst = others L dst ++ [p] := by
  simp [mine, others, List.filter_append, List.filter_cons, h]
theorem mine_length (L : List Pk) (dst : Int) : (mine L dst).length = cntB L dst := rfl
/-- The first of those that wait for a node. -/
theorem mine_take {L : List Pk} {dst : Int} {p : Pk} {S : List Pk} (h : mine L dst = p :: S) : ∃ k : Nat, findB L dst = k ∧ L[k]? = some p ∧ mine (L.eraseIdx k) dst = S ∧ others (L.eraseIdx k) dst = others L dst := by
  have hne : findB L dst ≠ -1 := by
    intro h1
    have h2 := (findB_none_iff h1).2
    rw [← mine_length, h] at h2
    simp at h2
  obtain ⟨k, u, hk, hu, hd⟩ := findB_some hne
  obtain ⟨e1, e2⟩ := erase_split hu
  have hpre : mine (L.take k) dst = [] := by
    unfold findB at hk
    cases hf : L.findIdx? (fun p => p.d == dst) with
    | none => rw [hf] at hk; first | (simp at hk; done) | (simp at hk; omega)
    | some j =>
      rw [hf] at hk
      simp at hk
      obtain rfl : j = k := by omega
      rw [List.findIdx?_eq_some_iff_getElem] at hf
      obtain ⟨hj, _, hno⟩ := hf
      unfold mine
      rw [List.filter_eq_nil_iff]
      intro q hq
      obtain ⟨i, hi⟩ := List.getElem?_of_mem hq
      have hil : i < j := by have := (List.getElem?_eq_some_iff.1 hi).1; simp at this; omega
      rw [List.getElem?_take_of_lt hil] at hi
      have := hno i hil
      obtain ⟨hi1, hi2⟩ := List.getElem?_eq_some_iff.1 hi
      rw [hi2] at this
      simpa using this
  have hm : mine L dst = u :: mine (L.drop (k + 1)) dst := by
    conv => lhs; rw [e1]
    unfold mine at *
    rw [List.filter_append, hpre, List.filter_cons, hd]
    rfl
  rw [h] at hm
  obtain ⟨rfl, rfl⟩ := List.cons.inj hm
  refine ⟨k, hk, hu, ?_, others_erase hu hd⟩
  rw [e2]
  unfold mine at *
  rw [List.filter_append, hpre]
  rfl
theorem mine_nil {L : List Pk} {dst : Int} (h : mine L dst = []) : findB L dst = -1 ∧ others L dst = L := by
  have hn : ∀ p ∈ L, (p.d == dst) = false := by
    intro p hp
    unfold mine at h
    rw [List.filter_eq_nil_iff] at h
    simpa using h p hp
  constructor
  · exact findB_none (fun j u hu => hn u (List.mem_of_getElem? hu))
  · unfold others
    rw [List.filter_eq_self]
    intro p hp
    simp [hn p hp]
/-- The rows that the law gathers: those for the node, those for others. -/
structure Rows2 (B q r : Nat) (w : World) (v1 v2 : Value) (M : List Pk) (dst : Int) : Prop where
  o1 : OwnPk w B v1 (mine M dst)
  o2 : OwnPk w B v2 (others M dst)
  sep : ∀ g, v1.ownBlock = some g → v2.ownBlock ≠ some g
  size : B ≤ w.heap.size
  q1 : q < B
  r1 : r < B
theorem Rows2.keeps {B q r : Nat} {w w' : World} {v1 v2 : Value} {M : List Pk} {dst : Int} (h : Rows2 B q r w v1 v2 M dst) (k : Keeps (InQ q r) w w') : Rows2 B q r w' v1 v2 M dst :=
  ⟨h.o1.keeps k (fun g hg hq => by have := h.o1.base hg; have := h.q1; have := h.r1; rcases hq with rfl | rfl <;> omega), h.o2.keeps k (fun g hg hq => by have := h.o2.base hg; have := h.q1; have := h.r1; rcases hq with rfl | rfl <;> omega), h.sep, Nat.le_trans h.size k.size, h.q1, h.r1⟩
theorem OwnPk.lt {w : World} {base : Nat} {v : Value} {L : List Pk} (h : OwnPk w base v L) {g : Nat} (hg : v.ownBlock = some g) : g < w.heap.size := by
  rcases h.2 with ⟨rfl, _⟩ | ⟨g', cap, cur, rfl, hb, hh, _⟩
  · simp [Value.ownBlock] at hg
  · simp [Value.ownBlock] at hg
    subst hg
    exact (Array.getElem?_eq_some_iff.1 hh).1
theorem Rows2.app1 {B q r : Nat} {w w' : World} {v1 v2 v' : Value} {M : List Pk} {dst : Int} {p : Pk} (h : Rows2 B q r w v1 v2 M dst) (hd : (p.d == dst) = true) (ho : OwnPk w' B v' (mine M dst ++ [p])) (g : w.grownBy w' v1.ownBlock)
    (hat : v'.ownBlock = v1.ownBlock ∨ v'.ownBlock = some w.heap.size) : Rows2 B q r w' v' v2 (M ++ [p]) dst := by
  obtain ⟨e1, e2⟩ := mine_snoc_t (L := M) hd
  refine ⟨by rw [e1]; exact ho, ?_, fun j hj hj2 => ?_, Nat.le_trans h.size g.size, h.q1, h.r1⟩
  · rw [e2]
    exact h.o2.keeps (S := fun b => v1.ownBlock = some b) ((Keeps.refl _ w).grown g (fun k hk => .inr hk)) (fun j hj hj1 => h.sep j hj1 hj)
  · rcases hat with hat | hat
    · exact h.sep j (hat ▸ hj) hj2
    · rw [hat] at hj
      obtain rfl := Option.some.inj hj
      exact absurd (h.o2.lt hj2) (by omega)
theorem Rows2.app2 {B q r : Nat} {w w' : World} {v1 v2 v' : Value} {M : List Pk} {dst : Int} {p : Pk} (h : Rows2 B q r w v1 v2 M dst) (hd : (p.d == dst) = false) (ho : OwnPk w' B v' (others M dst ++ [p])) (g : w.grownBy w' v2.ownBlock)
    (hat : v'.ownBlock = v2.ownBlock ∨ v'.ownBlock = some w.heap.size) : Rows2 B q r w' v1 v' (M ++ [p]) dst := by
  obtain ⟨e1, e2⟩ := mine_snoc_f (L := M) hd
  refine ⟨?_, by rw [e2]; exact ho, fun j hj hj2 => ?_, Nat.le_trans h.size g.size, h.q1, h.r1⟩
  · rw [e1]
    exact h.o1.keeps (S := fun b => v2.ownBlock = some b) ((Keeps.refl _ w).grown g (fun k hk => .inr hk)) (fun j hj hj1 => h.sep j hj hj1)
  · rcases hat with hat | hat
    · exact h.sep j hj (hat ▸ hj2)
    · rw [hat] at hj2
      obtain rfl := Option.some.inj hj2
      exact absurd (h.o1.lt hj) (by omega)
set_option maxRecDepth 100000 in
set_option maxHeartbeats 4000000 in
theorem c5 (m : Int) (v : Value) (L : List Pk) (dst : Int) (w : World) (hv : RdPk w v L) :
    Calls Try.prog 5 #[.int .i64 m, v, .int .i64 dst] w fun e w' => e = .returned (.bool true) ∧ Below w.heap.size w w' := by
  obtain ⟨A, c, rfl, hrd⟩ := hv
  have HR := hidd hrd
  clear hrd
  by_cases hm1 : m < 1 ∨ 64 < m
  · go_enter Try.func5, Try.ntmps5
    go_wp2_with (first
      | (go_at_call 18; refine (c18b m _ hm1).mono ?_; rintro e w' ⟨rfl, rfl⟩)
      | (go_at_call 19; refine (c19 _).mono ?_; rintro e w' ⟨rfl, hb⟩))
    go_ret
    exact ⟨rfl, hb⟩
  · obtain ⟨n, rfl⟩ : ∃ n : Nat, m = n := ⟨m.toNat, by omega⟩
    by_cases hl : L.length ≤ 100
    · go_enter Try.func5, Try.ntmps5
      go_wp2_with fail
      refine (c18g n _ (by omega) (by omega)).mono ?_
      rintro e w1 ⟨q, r, rfl, hQ1, hq, hr, hB1⟩
      have HQ1 := hidd hQ1
      have HB1 := hidd hB1
      obtain ⟨l1, l2⟩ := hQ1.lt
      clear hQ1 hB1
      go_wp2
      go_loopw [9, 10, 11] (fun v1 v2 i wr => ∃ (k : Nat) (R M : List Pk), k ≤ L.length ∧ M.length ≤ k ∧ i = .int .i64 k ∧ QAt wr q r n 0 R M ∧ Rows2 w1.heap.size q r wr v1 v2 M dst ∧ Below w.heap.size w wr) (fun _ _ i _ => L.length - (intOf i).toNat)
      case atStart => exact ⟨0, _, [], Nat.zero_le _, Nat.le_refl _, rfl, HQ1.out, ⟨OwnPk.nil _ _, OwnPk.nil _ _, fun g hg => by simp [Value.ownBlock] at hg, Nat.le_refl _, l1, l2⟩, HB1.out⟩
      case round =>
        obtain ⟨k, R, M, hk, hMk, rfl, hQ, hW, hb⟩ := hrel
        by_cases hlt : k < L.length
        · obtain ⟨p, hp⟩ : ∃ p, L[k]? = some p := ⟨_, List.getElem?_eq_getElem hlt⟩
          obtain ⟨b, o, rfl, hbl, hcells⟩ : ∃ b o, A = some ⟨b, o, none⟩ ∧ b < w.heap.size ∧ ∀ k p, L[k]? = some p → PkHere w b (o + k * 5) p := by
            rcases HR.out with h0 | h0
            · rw [h0] at hlt; exact absurd hlt (by simp)
            · exact h0
          have hc := hcells k p hp
          obtain ⟨c0, c1, c2, c3, c4⟩ := hc.keeps (Keeps.below (S := fun _ => False) hb) hbl (fun x => x)
          have HC := hidd hc
          have HQ := hidd hQ
          have HB := hidd hb
          have HW := hidd hW
          clear hcells hp hQ hb hW hc
          by_cases hx : (p.x.size : Int) ≤ 600
          · by_cases hok : p.right = true ∧ ¬ M.length = n
            · have HP : Hid (putE n M p = 0 ∧ putL n M p = M ++ [p]) := hidd (by
                have h2 : (M.length == n) = false := by simp [hok.2]
                unfold putE putL
                rw [hok.1, h2]
                exact ⟨rfl, rfl⟩)
              clear hok
              cases hd : p.d == dst with
              | true =>
                go_wp2_with fail
                refine (c20a HQ.out p).mono ?_
                rw [HP.out.1, HP.out.2]
                rintro e w2 ⟨rfl, ⟨R2, hQ2⟩, hK2⟩
                have HQ2 := hidd hQ2
                have HW2 := hidd (HW.out.keeps hK2)
                have HB2 := hidd (Bl_keeps HB.out hK2 hq hr)
                clear hQ2 hK2 HQ HB HW
                obtain ⟨d0, d1, d2, d3, d4⟩ := HC.out.keeps (Keeps.below (S := fun _ => False) HB2.out) hbl (fun x => x)
                have hcl := cntB_le M dst
                have hcl2 := cnt_split M dst
                have hml : (mine M dst).length ≤ 1000000 := by first | (rw [mine_length]; omega) | omega
                clear hcl hcl2
                have hbs := HW2.out.size
                go_wp2_with (at_builtin; refine wpList_append_pk' rfl (.tmp 61) (.tmp 66) rfl w1.heap.size _ (mine M dst) rfl (HW2.out.o1.below (Bl_alloc (Below.refl _ _) (.cells #[.int .i64 p.s, .int .i64 p.d, .int .i64 p.t, .int .i64 p.n, .string p.x] 23))) w2.heap.size p rfl (pkHere_new w2 p 23) hml (Nat.le_trans hbs (Bl_alloc (Below.refl _ _) _).size) ?_; intro v' w3 hown' hg' hat')
                have hW3 := (HW2.out.keeps (Keeps.below (Bl_alloc (Below.refl _ _) (.cells #[.int .i64 p.s, .int .i64 p.d, .int .i64 p.t, .int .i64 p.n, .string p.x] 23)))).app1 hd hown' hg' hat'
                have hge : ∀ k, Value.ownBlock _ = some k → w.heap.size ≤ k := fun k hk' => Nat.le_trans HB1.out.size (HW2.out.o1.base hk')
                have hB3 := (Bl_alloc HB2.out (.cells #[.int .i64 p.s, .int .i64 p.d, .int .i64 p.t, .int .i64 p.n, .string p.x] 23)).grown hg' (Bl_alloc HB2.out _).size hge
                have hQ3 := (HQ2.out.below (Bl_alloc (Below.refl _ _) (.cells #[.int .i64 p.s, .int .i64 p.d, .int .i64 p.t, .int .i64 p.n, .string p.x] 23))).keeps (S := fun b => Value.ownBlock _ = some b) ((Keeps.refl _ _).grown hg' (fun k hk' => .inr hk')) (fun h => by have := HW2.out.o1.base h; have := HW2.out.q1; omega) (fun h => by have := HW2.out.o1.base h; have := HW2.out.r1; omega)
                have HW3 := hidd hW3
                have HB3 := hidd hB3
                have HQ3 := hidd hQ3
                clear hown' hg' hat' hW3 hB3 hQ3 hge
                go_wp2
                go_roundw
                case rel => exact ⟨k + 1, _, _, by omega, by rw [List.length_append, List.length_singleton]; omega, by go_num, HQ3.out, HW3.out, HB3.out⟩
                case measure => simp [intOf]; omega
              | false =>
                go_wp2_with fail
                refine (c20a HQ.out p).mono ?_
                rw [HP.out.1, HP.out.2]
                rintro e w2 ⟨rfl, ⟨R2, hQ2⟩, hK2⟩
                have HQ2 := hidd hQ2
                have HW2 := hidd (HW.out.keeps hK2)
                have HB2 := hidd (Bl_keeps HB.out hK2 hq hr)
                clear hQ2 hK2 HQ HB HW
                obtain ⟨d0, d1, d2, d3, d4⟩ := HC.out.keeps (Keeps.below (S := fun _ => False) HB2.out) hbl (fun x => x)
                have hcl := cntB_le M dst
                have hcl2 := cnt_split M dst
                have hml : (others M dst).length ≤ 1000000 := by first | (rw [mine_length]; omega) | omega
                clear hcl hcl2
                have hbs := HW2.out.size
                go_wp2_with (at_builtin; refine wpList_append_pk' rfl (.tmp 68) (.tmp 73) rfl w1.heap.size _ (others M dst) rfl (HW2.out.o2.below (Bl_alloc (Below.refl _ _) (.cells #[.int .i64 p.s, .int .i64 p.d, .int .i64 p.t, .int .i64 p.n, .string p.x] 23))) w2.heap.size p rfl (pkHere_new w2 p 23) hml (Nat.le_trans hbs (Bl_alloc (Below.refl _ _) _).size) ?_; intro v' w3 hown' hg' hat')
                have hW3 := (HW2.out.keeps (Keeps.below (Bl_alloc (Below.refl _ _) (.cells #[.int .i64 p.s, .int .i64 p.d, .int .i64 p.t, .int .i64 p.n, .string p.x] 23)))).app2 hd hown' hg' hat'
                have hge : ∀ k, Value.ownBlock _ = some k → w.heap.size ≤ k := fun k hk' => Nat.le_trans HB1.out.size (HW2.out.o2.base hk')
                have hB3 := (Bl_alloc HB2.out (.cells #[.int .i64 p.s, .int .i64 p.d, .int .i64 p.t, .int .i64 p.n, .string p.x] 23)).grown hg' (Bl_alloc HB2.out _).size hge
                have hQ3 := (HQ2.out.below (Bl_alloc (Below.refl _ _) (.cells #[.int .i64 p.s, .int .i64 p.d, .int .i64 p.t, .int .i64 p.n, .string p.x] 23))).keeps (S := fun b => Value.ownBlock _ = some b) ((Keeps.refl _ _).grown hg' (fun k hk' => .inr hk')) (fun h => by have := HW2.out.o2.base h; have := HW2.out.q1; omega) (fun h => by have := HW2.out.o2.base h; have := HW2.out.r1; omega)
                have HW3 := hidd hW3
                have HB3 := hidd hB3
                have HQ3 := hidd hQ3
                clear hown' hg' hat' hW3 hB3 hQ3 hge
                go_wp2
                go_roundw
                case rel => exact ⟨k + 1, _, _, by omega, by rw [List.length_append, List.length_singleton]; omega, by go_num, HQ3.out, HW3.out, HB3.out⟩
                case measure => simp [intOf]; omega
            · have HP : Hid (putL n M p = M) := hidd (by
                unfold putL
                cases h1 : p.right with
                | false => rfl
                | true =>
                  have h2 : (M.length == n) = true := by
                    have : M.length = n := by
                      rcases Classical.em (M.length = n) with h | h
                      · exact h
                      · exact absurd ⟨h1, h⟩ hok
                    simp [this]
                  rw [h2]
                  rfl)
              have HE : Hid (putE n M p ≠ 0) := hidd (by
                unfold putE
                cases h1 : p.right with
                | false => simp
                | true =>
                  have h2 : (M.length == n) = true := by
                    have : M.length = n := by
                      rcases Classical.em (M.length = n) with h | h
                      · exact h
                      · exact absurd ⟨h1, h⟩ hok
                    simp [this]
                  rw [h2]
                  simp)
              clear hok
              obtain ⟨ev, hev⟩ : ∃ ev, putE n M p = ev := ⟨_, rfl⟩
              have hevn : (ev != 0) = true := by have := HE.out; rw [hev] at this; simpa using this
              have HEV := hidd hev
              clear hev
              go_wp2_with fail
              refine (c20a HQ.out p).mono ?_
              rw [HP.out, HEV.out]
              rintro e w2 ⟨rfl, ⟨R2, hQ2⟩, hK2⟩
              have HQ2 := hidd hQ2
              have HW2 := hidd (HW.out.keeps hK2)
              have HB2 := hidd (Bl_keeps HB.out hK2 hq hr)
              clear hQ2 hK2 HQ HB HW
              go_wp2
              go_roundw
              case rel => exact ⟨k + 1, _, _, by omega, by omega, by go_num, HQ2.out, HW2.out, HB2.out⟩
              case measure => simp [intOf]; omega
          · go_wp2
            go_ret
            exact ⟨rfl, HB.out⟩
        · obtain ⟨wo, rfl⟩ : ∃ wo : World, wo = wr := ⟨_, rfl⟩
          have hg1 : ∀ g, Value.ownBlock _ = some g → ¬ InQ q r g := fun g hg hq' => by
            have h1 := hW.o1.base hg
            have h2 := hW.q1
            have h3 := hW.r1
            rcases hq' with rfl | rfl <;> omega
          have hg2 : ∀ g, Value.ownBlock _ = some g → ¬ InQ q r g := fun g hg hq' => by
            have h1 := hW.o2.base hg
            have h2 := hW.q1
            have h3 := hW.r1
            rcases hq' with rfl | rfl <;> omega
          have hR1 := hW.o1.rd
          have hR2 := hW.o2.rd
          obtain ⟨A1, c1, rfl, hrd1⟩ := hR1
          obtain ⟨A2, c2, rfl, hrd2⟩ := hR2
          have hML := hQ.hL
          have hn64 := hQ.n64
          have hcs := cnt_split M dst
          rw [← mine_length] at hcs
          have hce : (((cntB M dst : Nat) : Int) != ((mine M dst).length : Int)) = false := by rw [mine_length]; simp
          have hme : ((M.length : Int) != ((mine M dst).length : Int) + ((others M dst).length : Int)) = false := by simp; omega
          have hm64 : (mine M dst).length ≤ 64 := by omega
          have ho64 : (others M dst).length ≤ 64 := by omega
          have HQ := hidd hQ
          have HB := hidd hb
          have HR1 := hidd hrd1
          have HR2 := hidd hrd2
          have HG1 := hidd hg1
          have HG2 := hidd hg2
          clear hQ hb hW hcs hrd1 hrd2 hg1 hg2
          go_wp2_with fail
          refine (c21 HQ.out dst).mono ?_
          rintro e w2 ⟨rfl, hb2⟩
          have HQ2 := hidd (HQ.out.below hb2)
          have HK2 := hidd (Keeps.below (S := InQ q r) hb2)
          clear hb2
          go_wp2_with fail
          refine (c22 HQ2.out).mono ?_
          rintro e w3 ⟨v3, rfl, hown, hb3⟩
          obtain ⟨A3, c3, rfl, _⟩ := hown.rd
          have HQ3 := hidd (HQ2.out.below hb3)
          have HK3 := hidd (HK2.out.trans (Keeps.below hb3))
          clear hown hb3 HQ2 HK2
          go_wp2_with fail
          go_loopw [12] (fun i wx => ∃ (j f : Nat) (R K : List Pk), j ≤ (mine M dst).length ∧ i = .int .i64 j ∧ QAt wx q r n f R K ∧ mine K dst = (mine M dst).drop j ∧ others K dst = others M dst ∧ Keeps (InQ q r) wo wx) (fun i _ => (mine M dst).length - (intOf i).toNat)
          case atStart => exact ⟨0, _, _, M, Nat.zero_le _, rfl, HQ3.out, rfl, rfl, HK3.out⟩
          case round =>
            obtain ⟨j, f, R', K, hj, rfl, hQ, hmi, hot, hK⟩ := hrel
            by_cases hjl : j < (mine M dst).length
            · obtain ⟨p, hp⟩ : ∃ p, (mine M dst)[j]? = some p := ⟨_, List.getElem?_eq_getElem hjl⟩
              obtain ⟨b2, o2, rfl, hbl2, hcells2⟩ : ∃ b o, A1 = some ⟨b, o, none⟩ ∧ b < wo.heap.size ∧ ∀ k p, (mine M dst)[k]? = some p → PkHere wo b (o + k * 5) p := by
                rcases HR1.out with h0 | h0
                · rw [h0] at hjl; exact absurd hjl (by simp)
                · exact h0
              rw [drop_eq hp] at hmi
              obtain ⟨kk, hk1, hk2, hk3, hk4⟩ := mine_take hmi
              have HC2 := hidd (hcells2 j p hp)
              have hnb := HG1.out b2 rfl
              have HK1 := hidd hk1
              have HK2 := hidd hk2
              have HK3' := hidd hk3
              have HK4 := hidd (hk4.trans hot)
              have HQ' := hidd hQ
              have HKx := hidd hK
              clear hcells2 hp hmi hk1 hk2 hk3 hk4 hot hQ hK
              go_wp2_with fail
              refine (c23h HQ'.out HK1.out HK2.out).mono ?_
              rintro e w4 ⟨rfl, ⟨f4, R4, hQ4⟩, hK4⟩
              have HQ4 := hidd (hQ4.below (Bl_alloc (Below.refl _ _) (.cells #[.int .i64 p.s, .int .i64 p.d, .int .i64 p.t, .int .i64 p.n, .string p.x] 23)))
              have HKy := hidd ((HKx.out.trans hK4).alloc (.cells #[.int .i64 p.s, .int .i64 p.d, .int .i64 p.t, .int .i64 p.n, .string p.x] 23))
              obtain ⟨e0, e1, e2, e3, e4⟩ := HC2.out.keeps HKy.out hbl2 hnb
              have hj0 : (0 : Int) ≤ j := by omega
              have hj1 : (j : Int) < (mine M dst).length := by omega
              clear hQ4 hK4
              unfold Pk.val
              go_wp2_with fail
              go_quiet (fail)
              go_wp2
              go_roundw
              case rel => exact ⟨j + 1, _, _, _, by omega, by go_num, HQ4.out.drewN _, HK3'.out, HK4.out, HKy.out.drewN _⟩
              case measure => simp [intOf]; omega
            · have hje : j = (mine M dst).length := by omega
              rw [hje, List.drop_length] at hmi
              obtain ⟨hf1, hf2⟩ := mine_nil hmi
              rw [hf2] at hot
              subst hot
              have HQ' := hidd hQ
              have HF := hidd hf1
              have HKx := hidd hK
              clear hmi hf1 hf2 hQ hK hje
              go_wp2_with fail
              refine (c23m HQ'.out HF.out).mono ?_
              rintro e w4 ⟨rfl, hb4⟩
              have HQ4 := hidd ((HQ'.out.below hb4).below (Bl_alloc (Below.refl _ _) (.cells #[.int .i64 0, .int .i64 0, .int .i64 0, .int .i64 0, .string ⟨#[]⟩] 23)))
              have HK4 := hidd ((HKx.out.trans (Keeps.below hb4)).alloc (.cells #[.int .i64 0, .int .i64 0, .int .i64 0, .int .i64 0, .string ⟨#[]⟩] 23))
              clear hb4
              unfold Pk.val Pk.zero
              go_wp2_with fail
              refine (c19 _).mono ?_
              rintro e w5 ⟨rfl, hb5⟩
              have HQ5 := hidd (HQ4.out.below hb5)
              have HK5 := hidd (HK4.out.trans (Keeps.below hb5))
              clear hb5
              go_wp2_with fail
              refine (c22 HQ5.out).mono ?_
              rintro e w6 ⟨v6, rfl, hown6, hb6⟩
              have HO6 := hidd hown6
              have HK6 := hidd (HK5.out.trans (Keeps.below hb6))
              clear hb6 hown6
              go_wp2_with fail
              refine (c24 HO6.out.rd ((show RdPk wo _ _ from ⟨A2, c2, rfl, HR2.out⟩).keeps HK6.out HG2.out) (by omega)).mono ?_
              rintro e w7 ⟨rfl, nq7, rfl⟩
              go_wp2
              go_ret
              exact ⟨rfl, (Bl_keeps HB.out HK6.out hq hr).drewN _⟩
    · go_enter Try.func5, Try.ntmps5
      go_wp2_with fail
      refine (c18g n _ (by omega) (by omega)).mono ?_
      rintro e w1 ⟨q, r, rfl, hQ1, hq, hr, hB1⟩
      have HB1 := hidd hB1
      clear hQ1 hB1
      go_wp2_with (go_at_call 19; refine (c19 _).mono ?_; rintro e w4 ⟨rfl, hb4⟩)
      go_ret
      exact ⟨rfl, Bl_then HB1.out hb4⟩
end Go.Proofs.Ytnlcibobhmcfpaa
