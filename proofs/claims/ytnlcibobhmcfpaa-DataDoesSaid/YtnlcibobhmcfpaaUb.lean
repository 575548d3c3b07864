/- The walk of the reference's Open of layer 22. -/
import Derived.Test.YtnlcibobhmcfpaaUa
import Derived.Deep.DeepCutAuto
set_option linter.unusedSimpArgs false
set_option linter.unusedVariables false
namespace Go.Proofs.Ytnlcibobhmcfpaa
open Go.RowKit
set_option maxHeartbeats 1600000 in
set_option maxRecDepth 100000 in
theorem c29n {w : World} {y B n : Nat} {v : Value} {L : List Pk} (h : RQ w y B n v L) (hL : L.length ≤ 64) (dst : Int) {kk : Nat} {pp : Pk} (hv : findB L dst = kk) (hpp : L[kk]? = some pp) :
    Calls Try.prog 29 #[.pointer (some ⟨y, 0, none⟩), .int .i64 dst] w fun e w' => e = .returned (.tuple #[pp.val, .int .i64 0]) ∧ (∃ v', RQ w' y B n v' (L.eraseIdx kk) ∧ ∀ g, v'.ownBlock = some g → w.heap.size ≤ g) ∧ Keeps (InR y v) w w' := by
  obtain ⟨hkl, hke⟩ := List.getElem?_eq_some_iff.1 hpp
  obtain ⟨g, c, rfl, hBg, hg, hcap, hrow, hrd⟩ := h.ho.some (by omega)
  have h1 : w.cell? ⟨y, 1, none⟩ = some (.slice (some ⟨g, 0, none⟩) L.length c) := cell_of_heap h.hy 1
  have hlt := h.y_lt
  have HR := hidd hrd
  have HW := hidd hrow
  have HQ := hidd h
  have HP := hidd hpp
  have HV : Hid (∀ (k : Nat) (p : Pk), L[k]? = some p → k < kk → (dst == p.d) = false) := hidd (fun k p hp hlt => by
    unfold findB at hv
    cases hf : L.findIdx? (fun p => p.d == dst) with
    | none => rw [hf] at hv; first | (simp at hv; done) | (simp at hv; omega)
    | some j =>
      rw [hf] at hv
      obtain rfl : j = kk := by
        have h9 : (j : Int) = kk := hv
        omega
      rw [List.findIdx?_eq_some_iff_getElem] at hf
      obtain ⟨h5, h6, h7⟩ := hf
      have h8 := h7 k hlt
      rw [(List.getElem?_eq_some_iff.1 hp).2] at h8
      simp at h8
      simpa using fun e => h8 e.symm)
  have HH : Hid ((dst == pp.d) = true) := hidd (by
    obtain ⟨j, u, hj, hu, hd⟩ := findB_some (L := L) (dst := dst) (by rw [hv]; omega)
    obtain rfl : j = kk := by rw [hv] at hj; omega
    rw [hpp] at hu
    injection hu with hu
    subst hu
    simp at hd
    simp [hd])
  clear h hrd hv hrow hke hpp
  go_enter Try.func29, Try.ntmps29
  go_wp2
  go_loopw [6] (fun i wr => ∃ k : Nat, k ≤ kk ∧ i = .int .i64 k ∧ w.alloc (.cells #[.int .i64 0, .int .i64 0, .int .i64 0, .int .i64 0, .string ⟨#[]⟩] 23) = wr) (fun i _ => L.length - (intOf i).toNat)
  case atStart => exact ⟨0, Nat.zero_le _, rfl, rfl⟩
  case round =>
    obtain ⟨k, hk, rfl, rfl⟩ := hrel
    by_cases hlt2 : k < kk
    · obtain ⟨p, hp⟩ : ∃ p, L[k]? = some p := ⟨_, List.getElem?_eq_getElem (by omega)⟩
      obtain ⟨-, c1, -, -, -⟩ := HR.out k p hp
      have hd := HV.out k p hp hlt2
      rw [Nat.zero_add] at c1
      clear hp
      go_wp2
      go_roundw
      case rel => exact ⟨k + 1, by omega, by go_num, by first | rfl | trivial⟩
      case measure => first | (simp [intOf]; done) | (simp [intOf]; omega)
    · obtain rfl : k = kk := by omega
      obtain ⟨c0, c1, c2, c3, c4⟩ := HR.out k pp HP.out
      rw [Nat.zero_add] at c0 c1 c2 c3 c4
      have hd := HH.out
      by_cases hck : c = k + 1
      · subst hck
        go_wp2_with (first
          | (at_builtin; refine wpList_append_pks rfl (.tmp 35) (.tmp 41) rfl (w.heap.size + 2) (.slice none 0 0) [] rfl (OwnPk.nil _ _) ⟨g, 0, none⟩ k (k + 1) (L.take k) rfl ?_ ?_ ?_ ?_ ?_; (simp; omega); (intro j u hj; rw [add_zero_addr, Nat.zero_add]; exact (((Bl_alloc (Bl_alloc (Below.refl _ _) _) _ : Below w.heap.size w _)).cell (p := ⟨g, j, none⟩) hg).trans (HW.out j u (take_cell hj))); (simp; omega); (simp); intro v1 w1 hown1 hg1; (have HB1 := hidd ((Below.refl (w.heap.size + 2) _).grown hg1 (by simp) (fun _ e => by simp [Value.ownBlock] at e))); (have HO1 := hidd hown1); (have m1 : w1.cell? ⟨y, 1, none⟩ = some (.slice (some ⟨g, 0, none⟩) L.length (k + 1)) := ((two_facts HB1.out).2.2.cell (p := ⟨y, 1, none⟩) hlt).trans h1); clear hown1 hg1)
          | (at_builtin; refine wpList_append_pks rfl (.tmp 43) (.tmp 50) rfl (w.heap.size + 2) _ (L.take k) rfl HO1.out _ _ _ (L.drop (k + 1)) rfl ?_ ?_ ?_ ?_ ?_; (first | (simp; done) | (simp; omega)); (intro j u hj; rw [List.drop_eq_nil_of_le (by omega)] at hj; simp [pkList] at hj); (rw [List.length_take, List.length_drop]; omega); (have := HB1.out.size; simpa using this); intro v2 w2 hown2 hg2; (have HB2 := hidd (HB1.out.grown hg2 (by have := HB1.out.size; simpa using this) (fun _ e => HO1.out.base e))); (obtain ⟨A2, cc2, hv2, -⟩ := hown2.rd); (generalize (L.take k ++ L.drop (k + 1)).length = nn2 at hv2); subst hv2; (have HO2 := hidd hown2); (have n0 : w2.cell? ⟨y, 1, none⟩ = some (.slice (some ⟨g, 0, none⟩) L.length (k + 1)) := ((two_facts HB2.out).2.2.cell (p := ⟨y, 1, none⟩) hlt).trans h1); (have nf : w2.frozen? ⟨y, 1, none⟩ = false := free_of_heap ((HQ.out.below (two_facts HB2.out).2.2).hy) 1); (have z0 : w2.cell? ⟨w.heap.size, 0, none⟩ = some (.int .i64 0) := cell_of_heap (two_facts HB2.out).1 0); (have f0 : w2.frozen? ⟨w.heap.size, 0, none⟩ = false := free_of_heap (two_facts HB2.out).1 0); (have p0 : w2.cell? ⟨w.heap.size + 1, 0, none⟩ = some (.int .i64 pp.s) := cell_of_heap (two_facts HB2.out).2.1 0); (have z1 : w2.cell? ⟨w.heap.size, 1, none⟩ = some (.int .i64 0) := cell_of_heap (two_facts HB2.out).1 1); (have f1 : w2.frozen? ⟨w.heap.size, 1, none⟩ = false := free_of_heap (two_facts HB2.out).1 1); (have p1 : w2.cell? ⟨w.heap.size + 1, 1, none⟩ = some (.int .i64 pp.d) := cell_of_heap (two_facts HB2.out).2.1 1); (have z2 : w2.cell? ⟨w.heap.size, 2, none⟩ = some (.int .i64 0) := cell_of_heap (two_facts HB2.out).1 2); (have f2 : w2.frozen? ⟨w.heap.size, 2, none⟩ = false := free_of_heap (two_facts HB2.out).1 2); (have p2 : w2.cell? ⟨w.heap.size + 1, 2, none⟩ = some (.int .i64 pp.t) := cell_of_heap (two_facts HB2.out).2.1 2); (have z3 : w2.cell? ⟨w.heap.size, 3, none⟩ = some (.int .i64 0) := cell_of_heap (two_facts HB2.out).1 3); (have f3 : w2.frozen? ⟨w.heap.size, 3, none⟩ = false := free_of_heap (two_facts HB2.out).1 3); (have p3 : w2.cell? ⟨w.heap.size + 1, 3, none⟩ = some (.int .i64 pp.n) := cell_of_heap (two_facts HB2.out).2.1 3); (have z4 : w2.cell? ⟨w.heap.size, 4, none⟩ = some (.string ⟨#[]⟩) := cell_of_heap (two_facts HB2.out).1 4); (have f4 : w2.frozen? ⟨w.heap.size, 4, none⟩ = false := free_of_heap (two_facts HB2.out).1 4); (have p4 : w2.cell? ⟨w.heap.size + 1, 4, none⟩ = some (.string pp.x) := cell_of_heap (two_facts HB2.out).2.1 4); clear hown2 hg2))
        refine bodyPost_ret (v := .tuple #[pp.val, .int .i64 0]) ?_ ?_ ?_
        · simp [results, Try.results29, go_sem, Pk.val, z0, z1, z2, z3, z4, Nat.ne_of_lt hlt, Nat.ne_of_gt hlt]
        · rfl
        · have hr := @take_done w w2 y B n _ _ (.int .i64 pp.s) (.int .i64 pp.d) (.int .i64 pp.t) (.int .i64 pp.n) (.string pp.x) L _ HQ.out (two_facts HB2.out).2.2 HO2.out
          rw [← List.eraseIdx_eq_take_drop_succ] at hr
          exact ⟨rfl, ⟨_, hr.1, fun g hg => by have := HO2.out.base hg; omega⟩, hr.2⟩
      · have hk1 : k + 1 ≤ c := by omega
        have HML : Hid ((L.take k).length + (L.drop (k + 1)).length ≤ 1000000) := hidd (by rw [List.length_take, List.length_drop]; omega)
        go_wp2_with (first
          | (at_builtin; refine wpList_append_pks rfl (.tmp 35) (.tmp 41) rfl (w.heap.size + 2) (.slice none 0 0) [] rfl (OwnPk.nil _ _) ⟨g, 0, none⟩ k c (L.take k) rfl ?_ ?_ ?_ ?_ ?_; (simp; omega); (intro j u hj; rw [add_zero_addr, Nat.zero_add]; exact (((Bl_alloc (Bl_alloc (Below.refl _ _) _) _ : Below w.heap.size w _)).cell (p := ⟨g, j, none⟩) hg).trans (HW.out j u (take_cell hj))); (simp; omega); (simp); intro v1 w1 hown1 hg1; (have HB1 := hidd ((Below.refl (w.heap.size + 2) _).grown hg1 (by simp) (fun _ e => by simp [Value.ownBlock] at e))); (have HO1 := hidd hown1); (have m1 : w1.cell? ⟨y, 1, none⟩ = some (.slice (some ⟨g, 0, none⟩) L.length c) := ((two_facts HB1.out).2.2.cell (p := ⟨y, 1, none⟩) hlt).trans h1); clear hown1 hg1)
          | (at_builtin; refine wpList_append_pks rfl (.tmp 43) (.tmp 50) rfl (w.heap.size + 2) _ (L.take k) rfl HO1.out _ _ _ (L.drop (k + 1)) rfl ?_ ?_ ?_ ?_ ?_; (exact List.length_drop); (intro j u hj; rw [add_zero_addr]; exact ((two_facts HB1.out).2.2.cell (p := ⟨g, _, none⟩) hg).trans (HW.out _ u (by simpa using drop_cell hj))); (exact HML.out); (have := HB1.out.size; simpa using this); intro v2 w2 hown2 hg2; (have HB2 := hidd (HB1.out.grown hg2 (by have := HB1.out.size; simpa using this) (fun _ e => HO1.out.base e))); (obtain ⟨A2, cc2, hv2, -⟩ := hown2.rd); (generalize (L.take k ++ L.drop (k + 1)).length = nn2 at hv2); subst hv2; (have HO2 := hidd hown2); (have n0 : w2.cell? ⟨y, 1, none⟩ = some (.slice (some ⟨g, 0, none⟩) L.length c) := ((two_facts HB2.out).2.2.cell (p := ⟨y, 1, none⟩) hlt).trans h1); (have nf : w2.frozen? ⟨y, 1, none⟩ = false := free_of_heap ((HQ.out.below (two_facts HB2.out).2.2).hy) 1); (have z0 : w2.cell? ⟨w.heap.size, 0, none⟩ = some (.int .i64 0) := cell_of_heap (two_facts HB2.out).1 0); (have f0 : w2.frozen? ⟨w.heap.size, 0, none⟩ = false := free_of_heap (two_facts HB2.out).1 0); (have p0 : w2.cell? ⟨w.heap.size + 1, 0, none⟩ = some (.int .i64 pp.s) := cell_of_heap (two_facts HB2.out).2.1 0); (have z1 : w2.cell? ⟨w.heap.size, 1, none⟩ = some (.int .i64 0) := cell_of_heap (two_facts HB2.out).1 1); (have f1 : w2.frozen? ⟨w.heap.size, 1, none⟩ = false := free_of_heap (two_facts HB2.out).1 1); (have p1 : w2.cell? ⟨w.heap.size + 1, 1, none⟩ = some (.int .i64 pp.d) := cell_of_heap (two_facts HB2.out).2.1 1); (have z2 : w2.cell? ⟨w.heap.size, 2, none⟩ = some (.int .i64 0) := cell_of_heap (two_facts HB2.out).1 2); (have f2 : w2.frozen? ⟨w.heap.size, 2, none⟩ = false := free_of_heap (two_facts HB2.out).1 2); (have p2 : w2.cell? ⟨w.heap.size + 1, 2, none⟩ = some (.int .i64 pp.t) := cell_of_heap (two_facts HB2.out).2.1 2); (have z3 : w2.cell? ⟨w.heap.size, 3, none⟩ = some (.int .i64 0) := cell_of_heap (two_facts HB2.out).1 3); (have f3 : w2.frozen? ⟨w.heap.size, 3, none⟩ = false := free_of_heap (two_facts HB2.out).1 3); (have p3 : w2.cell? ⟨w.heap.size + 1, 3, none⟩ = some (.int .i64 pp.n) := cell_of_heap (two_facts HB2.out).2.1 3); (have z4 : w2.cell? ⟨w.heap.size, 4, none⟩ = some (.string ⟨#[]⟩) := cell_of_heap (two_facts HB2.out).1 4); (have f4 : w2.frozen? ⟨w.heap.size, 4, none⟩ = false := free_of_heap (two_facts HB2.out).1 4); (have p4 : w2.cell? ⟨w.heap.size + 1, 4, none⟩ = some (.string pp.x) := cell_of_heap (two_facts HB2.out).2.1 4); clear hown2 hg2))
        refine bodyPost_ret (v := .tuple #[pp.val, .int .i64 0]) ?_ ?_ ?_
        · simp [results, Try.results29, go_sem, Pk.val, z0, z1, z2, z3, z4, Nat.ne_of_lt hlt, Nat.ne_of_gt hlt]
        · rfl
        · have hr := @take_done w w2 y B n _ _ (.int .i64 pp.s) (.int .i64 pp.d) (.int .i64 pp.t) (.int .i64 pp.n) (.string pp.x) L _ HQ.out (two_facts HB2.out).2.2 HO2.out
          rw [← List.eraseIdx_eq_take_drop_succ] at hr
          exact ⟨rfl, ⟨_, hr.1, fun g hg => by have := HO2.out.base hg; omega⟩, hr.2⟩
attribute [local go_sem ↓] Go.wp_at_zero Go.wp_at_succ
theorem Keeps.andThen {S S' : Nat → Prop} {a b c : World} (h : Keeps S a b) (k : Keeps S' b c) (hs : ∀ i, i < a.heap.size → S' i → S i) : Keeps S a c :=
  ⟨k.os.trans h.os, k.tape.trans h.tape, k.output.trans h.output, Nat.le_trans h.size k.size, fun i hi hn => (k.block i (Nat.lt_of_lt_of_le hi h.size) (fun q => hn (hs i hi q))).trans (h.block i hi hn)⟩
theorem c29u {w : World} {z B n : Nat} {v : Value} {L : List Pk} (h : RQ w z B n v L) (hL : L.length ≤ 64) (dst : Int) :
    Calls Try.prog 29 #[.pointer (some ⟨z, 0, none⟩), .int .i64 dst] w fun e w' => ∃ cur err L', e = .returned (.tuple #[Pk.val cur, .int .i64 err]) ∧ (∃ v', RQ w' z B n v' L' ∧ ∀ g, v'.ownBlock = some g → v.ownBlock = some g ∨ w.heap.size ≤ g) ∧ Pop L dst cur err L' ∧ Keeps (InR z v) w w' := by
  by_cases hm : findB L dst = -1
  · refine (c29m h hL dst hm).mono fun e w' he => ⟨Pk.zero, 7, L, he.1, ⟨v, h.below he.2, fun g hg => .inl hg⟩, .inr ⟨rfl, rfl, rfl, ?_⟩, Keeps.below he.2⟩
    exact List.eq_nil_of_length_eq_zero (findB_none_iff hm).2
  · obtain ⟨k, p, hk, hp, hd⟩ := findB_some hm
    refine (c29n h hL dst hk hp).mono fun e w' he => ?_
    obtain ⟨he1, ⟨v', hv1, hv2⟩, he2⟩ := he
    exact ⟨p, 0, L.eraseIdx k, he1, ⟨v', hv1, fun g hg => .inr (hv2 g hg)⟩, .inl ⟨rfl, mine_erase hk hp, others_erase hp hd, fun a ha => List.mem_of_mem_eraseIdx ha, List.mem_of_getElem? hp⟩, he2⟩
theorem Pop.len {L L' : List Pk} {dst err : Int} {cur : Pk} (h : Pop L dst cur err L') : L'.length ≤ L.length := by
  rcases h with ⟨_, h1, h2, _⟩ | ⟨_, _, h, _⟩
  · have h3 := mine_split L dst
    have h4 := mine_split L' dst
    rw [h1] at h3
    rw [h2] at h4
    simp at h3
    omega
  · rw [h]; exact Nat.le_refl _
theorem vd_typ {w : World} {B : Nat} {v : Value} {V : List Ver} (h : OwnVd w B v V) {g : Nat} (hg : v.ownBlock = some g) {cs : Array Value} (ht : w.heap[g]? = some (.cells cs 23 (0, 0))) : False := by
  rcases h.2 with ⟨rfl, _⟩ | ⟨g', cap, cur, rfl, hb, hh, _⟩
  · simp [Value.ownBlock] at hg
  · simp [Value.ownBlock] at hg
    subst hg
    rw [hh] at ht
    simp at ht
theorem c41b {w : World} {y z B n : Nat} {me : Int} {c : Cn} {v : Value} {L : List Pk} (h : RP w y z B n me c v L) (dst next : Int) (hb : nodeB dst = false ∨ nodeB next = false ∨ dst = me ∨ next = me) :
    Calls Try.prog 41 #[.pointer (some ⟨y, 0, none⟩), .int .i64 dst, .int .i64 next] w fun e w' => e = .returned (.tuple #[.slice none 0 0, .int .i64 1]) ∧ w = w' := by
  have h0 := h.y0
  clear h
  cases h1 : nodeB dst with
  | false =>
    have H1 := hidd h1
    clear h1 hb
    go_enter Try.func41, Try.ntmps41
    go_wp2_with (go_at_call 48; refine (c48 _ _).mono ?_; rintro e w' ⟨rfl, rfl⟩; rw [H1.out])
    go_ret2
    exact ⟨rfl, rfl⟩
  | true =>
    have H1 := hidd h1
    by_cases h3 : dst = me
    · subst h3
      have h4 : (dst == dst) = true := by simp
      clear h1 hb
      go_enter Try.func41, Try.ntmps41
      go_wp2_with (go_at_call 48; refine (c48 _ _).mono ?_; rintro e w' ⟨rfl, rfl⟩; rw [H1.out])
      go_ret2
      exact ⟨rfl, rfl⟩
    · have h3' : (dst == me) = false := by simpa using h3
      cases h2 : nodeB next with
      | false =>
        have H2 := hidd h2
        clear h1 h2 hb h3
        go_enter Try.func41, Try.ntmps41
        go_wp2_with (go_at_call 48; refine (c48 _ _).mono ?_; rintro e w' ⟨rfl, rfl⟩; first | rw [H1.out] | rw [H2.out])
        go_ret2
        exact ⟨rfl, rfl⟩
      | true =>
        have H2 := hidd h2
        have h5 : next = me := by
          rcases hb with hb | hb | hb | hb
          · rw [h1] at hb; cases hb
          · rw [h2] at hb; cases hb
          · exact absurd hb h3
          · exact hb
        subst h5
        have h6 : (next == next) = true := by simp
        clear h1 h2 hb h3
        go_enter Try.func41, Try.ntmps41
        go_wp2_with (go_at_call 48; refine (c48 _ _).mono ?_; rintro e w' ⟨rfl, rfl⟩; first | rw [H1.out] | rw [H2.out])
        go_ret2
        exact ⟨rfl, rfl⟩
structure ROpen (w : World) (y z B n : Nat) (me next dst : Int) (c : Cn) (v0 : Value) (L : List Pk) (v8 : Value) (wr : World) (V : List Ver) (M : List Pk) (v' : Value) : Prop where
  ho : OwnVd wr w.heap.size v8 V
  hA : RP wr y z B n me (c.adds V) v' M
  hv : ∀ g, v'.ownBlock = some g → v0.ownBlock = some g ∨ w.heap.size ≤ g
  hK : Keeps (InRP y z v0) w wr
  hoth : others M dst = others L dst
  st : V ++ dvs me next (mine M dst) = dvs me next (mine L dst)
  len : M.length ≤ 64
theorem in_all {w : World} {y z : Nat} {v0 v' : Value} (hv : ∀ g, v'.ownBlock = some g → v0.ownBlock = some g ∨ w.heap.size ≤ g) : ∀ i, i < w.heap.size → InR z v' i → InRP y z v0 i := by
  intro i hi h
  rcases h with h | h
  · exact .inr (.inl h)
  · rcases hv i h with h1 | h1
    · exact .inr (.inr h1)
    · omega
set_option maxRecDepth 100000 in
set_option maxHeartbeats 2000000 in
theorem c41g {w : World} {y z B n : Nat} {me : Int} {c : Cn} {v : Value} {L : List Pk} (h : RP w y z B n me c v L) {m : Nat} (hc : c.le m) (hm : m ≤ 900000) (hL : L.length ≤ 64) (dst next : Int) (h1 : nodeB dst = true) (h2 : nodeB next = true) (h3 : (dst == me) = false) (h4 : (next == me) = false) :
    Calls Try.prog 41 #[.pointer (some ⟨y, 0, none⟩), .int .i64 dst, .int .i64 next] w fun e w' => ∃ v8, e = .returned (.tuple #[v8, .int .i64 0]) ∧ OwnVd w' w.heap.size v8 (dvs me next (mine L dst)) ∧ (∃ v', RP w' y z B n me (c.adds (dvs me next (mine L dst))) v' (others L dst)) ∧ Keeps (InRP y z v) w w' := by
  have hx0 := h.y0
  obtain ⟨l0, l1⟩ := h.lt
  have H1 := hidd h1
  have H2 := hidd h2
  have HA0 := hidd h
  have HC := hidd hc
  have nyz := h.nz
  have ly := h.ly
  clear h1 h2 h hc
  go_enter Try.func41, Try.ntmps41
  go_wp2_with (go_at_call 48; refine (c48 _ _).mono ?_; rintro e w' ⟨rfl, rfl⟩; first | rw [H1.out] | rw [H2.out])
  go_loopw [8] (fun v8 wr => ∃ V M v', ROpen w y z B n me next dst c v L v8 wr V M v') (fun v8 _ => L.length + 1 - lenOf v8)
  case atStart => exact ⟨[], L, v, OwnVd.nil _ _, HA0.out, fun g hg => .inl hg, Keeps.refl _ _, rfl, rfl, hL⟩
  case round =>
    obtain ⟨V, M, v', ho⟩ := hrel
    obtain ⟨ho, hA, hvv, hK, hoth, st, hlen⟩ := ho
    have hlV : V.length + (mine M dst).length = (mine L dst).length := by
      have := congrArg List.length st
      simp [dvs] at this
      omega
    have hmL := mine_le L dst
    have hVl : V.length ≤ 64 := by omega
    have y0 := hA.y0
    have y1 := hA.y1
    obtain ⟨lyr, lzr⟩ := hA.lt
    have HO := hidd ho
    have HA := hidd hA
    have HVV := hidd hvv
    have HK := hidd hK
    have HOT := hidd hoth
    have HST := hidd st
    have hzw := hK.size
    clear ho hA hvv hK hoth st hx0
    go_wp2_with fail
    refine (c29u HA.out.hR hlen dst).mono ?_
    rintro e w1 ⟨cur, err, M2, rfl, ⟨v2, hQ2, hv2⟩, hP, hK1⟩
    have hz1 := hK1.size
    have hX1 := hK1.heapAt HA.out.hy (by rintro (h | h); exact nyz h; have := (HA.out.vlt h).1; omega)
    have hA1 : RP w1 y z B n me (c.adds V) v2 M2 := ⟨hX1, hQ2, ly, nyz⟩
    have hO1 : OwnVd w1 w.heap.size u8 V := HO.out.keeps hK1 (fun g hg e => by
      rcases e with e | e
      · have := HO.out.base hg; omega
      · obtain ⟨cs, ht⟩ := HA.out.hR.ho.typ e
        exact vd_typ HO.out hg ht)
    have hK2 : Keeps (InRP y z v) w w1 := HK.out.andThen hK1 (in_all HVV.out)
    have hv3 : ∀ g, v2.ownBlock = some g → v.ownBlock = some g ∨ w.heap.size ≤ g := fun g hg => by
      rcases hv2 g hg with h | h
      · exact HVV.out g h
      · exact .inr (by omega)
    have hM2 : M2.length ≤ 64 := Nat.le_trans hP.len hlen
    rcases hP with ⟨rfl, hp1, hp2, _⟩ | ⟨rfl, rfl, rfl, hm0⟩
    · have hst2 : V ++ dvs me next (cur :: mine M2 dst) = dvs me next (mine L dst) := by rw [← hp1]; exact HST.out
      have hot2 : others M2 dst = others L dst := by rw [hp2]; exact HOT.out
      rw [hp1] at hlV
      have hlV' : V.length + 1 ≤ L.length := by simp at hlV; omega
      obtain ⟨k, tt, s', d', t', n', x', er, hk, hv⟩ := decP_form cur me next true
      have hv' : decide22 cur.s cur.d cur.t cur.n cur.x me next true = ⟨k, tt, s', d', t', n', x', er⟩ := hv
      have HV := hidd hv'
      have HD := hidd hv
      have hg : (c.adds V).get k ≤ 1000000 := by
        have := Cn.get_le (Cn.adds_le HC.out V) k
        omega
      have HA1 := hidd hA1
      have HO1 := hidd hO1
      have HK2 := hidd hK2
      have HV3 := hidd hv3
      have HST2 := hidd hst2
      have HOT2 := hidd hot2
      clear hA1 hO1 hK2 hv3 hst2 hot2 hp1 hp2 hv hv' hX1 hQ2 hv2 hK1 hlV y0 y1
      unfold Pk.val
      go_wp2_with fail
      generalize hW : World.alloc w1 _ = W
      generalize hbb : w1.heap.size = b
      have HBW : Hid (Below w1.heap.size w1 W) := hidd (hW ▸ Bl_alloc (Below.refl _ _) _)
      have HPK : Hid (W.heap[b]? = some (.cells #[.int .i64 cur.s, .int .i64 cur.d, .int .i64 cur.t, .int .i64 cur.n, .string cur.x] 23 (0, 0))) := hidd (by rw [← hbb, ← hW]; exact heap_new w1 _)
      have HAW := hidd (HA1.out.below HBW.out)
      have HOW := hidd (HO1.out.below HBW.out)
      have m0 := HAW.out.y0
      have m1 : W.cell? ⟨b, 0, none⟩ = some (.int .i64 cur.s) := cell_of_heap HPK.out 0
      have m2 : W.cell? ⟨b, 1, none⟩ = some (.int .i64 cur.d) := cell_of_heap HPK.out 1
      have m3 : W.cell? ⟨b, 2, none⟩ = some (.int .i64 cur.t) := cell_of_heap HPK.out 2
      have m4 : W.cell? ⟨b, 3, none⟩ = some (.int .i64 cur.n) := cell_of_heap HPK.out 3
      have m5 : W.cell? ⟨b, 4, none⟩ = some (.string cur.x) := cell_of_heap HPK.out 4
      have lb : b < W.heap.size := (Array.getElem?_eq_some_iff.1 HPK.out).1
      have lx : y < W.heap.size := HAW.out.lt.1
      have nx : W.heap.size ≠ y := by omega
      have nw : W.heap.size ≠ b := by omega
      have hWz := HBW.out.size
      clear hW
      go_cut [11, 12] (fun p11 e12 wx => Vd W k tt s' d' t' n' x' er p11 e12 wx)
      case first =>
        go_region_held3 (fun w' => w'.cell? ⟨y, 0, none⟩ = some (.int .i64 me) ∧ w'.cell? ⟨b, 0, none⟩ = some (.int .i64 cur.s) ∧ w'.cell? ⟨b, 1, none⟩ = some (.int .i64 cur.d) ∧ w'.cell? ⟨b, 2, none⟩ = some (.int .i64 cur.t) ∧ w'.cell? ⟨b, 3, none⟩ = some (.int .i64 cur.n) ∧ w'.cell? ⟨b, 4, none⟩ = some (.string cur.x)) (refine ⟨?_, ?_, ?_, ?_, ?_, ?_⟩ <;> (repeat (first | with_reducible assumption | (with_reducible refine drew_cell ?_) | (with_reducible refine alloc_cell ?_) | (with_reducible refine setc_cell ?_ (by with_reducible assumption)))))
          (first | (go_at_call 15; refine (c15v _ _ _ _ _ _ _ _ _ _ _ _ _ _ _ _ _ HV.out).mono ?_; rintro e w2 ⟨rfl, hb⟩; (have t0 : w2.cell? ⟨y, 0, none⟩ = some (.int .i64 me) := (hb.cell (p := ⟨y, 0, none⟩) (by first | (simp; done) | (simp; omega))).trans (by first | exact m0 | (exact alloc_cell m0))); (have t1 : w2.cell? ⟨b, 0, none⟩ = some (.int .i64 cur.s) := (hb.cell (p := ⟨b, 0, none⟩) (by first | (simp; done) | (simp; omega))).trans (by first | exact m1 | (exact alloc_cell m1))); (have t2 : w2.cell? ⟨b, 1, none⟩ = some (.int .i64 cur.d) := (hb.cell (p := ⟨b, 1, none⟩) (by first | (simp; done) | (simp; omega))).trans (by first | exact m2 | (exact alloc_cell m2))); (have t3 : w2.cell? ⟨b, 2, none⟩ = some (.int .i64 cur.t) := (hb.cell (p := ⟨b, 2, none⟩) (by first | (simp; done) | (simp; omega))).trans (by first | exact m3 | (exact alloc_cell m3))); (have t4 : w2.cell? ⟨b, 3, none⟩ = some (.int .i64 cur.n) := (hb.cell (p := ⟨b, 3, none⟩) (by first | (simp; done) | (simp; omega))).trans (by first | exact m4 | (exact alloc_cell m4))); (have t5 : w2.cell? ⟨b, 4, none⟩ = some (.string cur.x) := (hb.cell (p := ⟨b, 4, none⟩) (by first | (simp; done) | (simp; omega))).trans (by first | exact m5 | (exact alloc_cell m5))); (try (have hzz : W.heap.size < W.heap.size + 1 := (by omega); have zl := hb.size; have zc : w2.heap[W.heap.size]? = some (.cells #[.int .i64 0, .int .i64 0, .int .i64 0, .int .i64 0, .int .i64 0, .int .i64 0, .string ⟨#[]⟩] 25 (0, 0)) := (hb.block W.heap.size (by first | (simp; done))).trans (heap_new W _); (have z0 : w2.cell? ⟨W.heap.size, 0, none⟩ = some (.int .i64 0) := cell_of_heap zc 0); (have z1 : w2.cell? ⟨W.heap.size, 1, none⟩ = some (.int .i64 0) := cell_of_heap zc 1); (have z2 : w2.cell? ⟨W.heap.size, 2, none⟩ = some (.int .i64 0) := cell_of_heap zc 2); (have z3 : w2.cell? ⟨W.heap.size, 3, none⟩ = some (.int .i64 0) := cell_of_heap zc 3); (have z4 : w2.cell? ⟨W.heap.size, 4, none⟩ = some (.int .i64 0) := cell_of_heap zc 4); (have z5 : w2.cell? ⟨W.heap.size, 5, none⟩ = some (.int .i64 0) := cell_of_heap zc 5); (have z6 : w2.cell? ⟨W.heap.size, 6, none⟩ = some (.string ⟨#[]⟩) := cell_of_heap zc 6); (have f0 : w2.frozen? ⟨W.heap.size, 0, none⟩ = false := free_of_heap zc 0); (have f1 : w2.frozen? ⟨W.heap.size, 1, none⟩ = false := free_of_heap zc 1); (have f2 : w2.frozen? ⟨W.heap.size, 2, none⟩ = false := free_of_heap zc 2); (have f3 : w2.frozen? ⟨W.heap.size, 3, none⟩ = false := free_of_heap zc 3); (have f4 : w2.frozen? ⟨W.heap.size, 4, none⟩ = false := free_of_heap zc 4); (have f5 : w2.frozen? ⟨W.heap.size, 5, none⟩ = false := free_of_heap zc 5); (have f6 : w2.frozen? ⟨W.heap.size, 6, none⟩ = false := free_of_heap zc 6); (have HZC := hidd zc); clear zc)); (have HB2 := hidd hb); clear hb))
        all_goals (go_wp2_with fail; go_meet)
        · exact vd_one (Bl_drew HB2.out)
        · exact vd_two HZC.out HB2.out
      case rest =>
        obtain ⟨b2, rfl, rfl, hz2, hWb, hB2⟩ := hcut
        have HB2 := hidd hB2
        have HY := hidd hz2
        have HA2 := hidd (HAW.out.below hB2)
        have HO2 := hidd (HOW.out.below hB2)
        have lyc : y < wc.heap.size := HA2.out.lt.1
        have lb2 : b2 < wc.heap.size := (Array.getElem?_eq_some_iff.1 hz2).1
        have nb2y : b2 ≠ y := by omega
        have hcz := hB2.size
        clear hz2 hB2 m0 m1 m2 m3 m4 m5
        have y0 : wc.cell? ⟨b2, 0, none⟩ = some (.int .i64 k) := cell_of_heap HY.out 0
        have y1 : wc.cell? ⟨b2, 1, none⟩ = some (.int .i64 tt) := cell_of_heap HY.out 1
        have y2 : wc.cell? ⟨b2, 2, none⟩ = some (.int .i64 s') := cell_of_heap HY.out 2
        have y3 : wc.cell? ⟨b2, 3, none⟩ = some (.int .i64 d') := cell_of_heap HY.out 3
        have y4 : wc.cell? ⟨b2, 4, none⟩ = some (.int .i64 t') := cell_of_heap HY.out 4
        have y5 : wc.cell? ⟨b2, 5, none⟩ = some (.int .i64 n') := cell_of_heap HY.out 5
        have y6 : wc.cell? ⟨b2, 6, none⟩ = some (.string x') := cell_of_heap HY.out 6
        go_wp2_with fail
        refine (c59u HA2.out k hk hg).mono ?_
        rintro e w4 ⟨rfl, hA4, hK4⟩
        have HA4 := hidd hA4
        have HY4 := hidd (hK4.heapAt HY.out nb2y)
        have HO4 := hidd (HO2.out.keeps hK4 (fun g hg e => by have := HO2.out.base hg; omega))
        have HK4 : Hid (Keeps (InRP y z v) w w4) := hidd (((HK2.out.trans (Keeps.below HBW.out)).trans (Keeps.below HB2.out)).trans (hK4.mono (fun _ _ h => .inl h)))
        have lb4 : b2 < w4.heap.size := (Array.getElem?_eq_some_iff.1 HY4.out).1
        have hz4 := hK4.size
        have hbase := HK4.out.size
        clear hA4 hK4 y0 y1 y2 y3 y4 y5 y6
        have q0 : w4.cell? ⟨b2, 0, none⟩ = some (.int .i64 k) := cell_of_heap HY4.out 0
        have q1 : w4.cell? ⟨b2, 1, none⟩ = some (.int .i64 tt) := cell_of_heap HY4.out 1
        have q2 : w4.cell? ⟨b2, 2, none⟩ = some (.int .i64 s') := cell_of_heap HY4.out 2
        have q3 : w4.cell? ⟨b2, 3, none⟩ = some (.int .i64 d') := cell_of_heap HY4.out 3
        have q4 : w4.cell? ⟨b2, 4, none⟩ = some (.int .i64 t') := cell_of_heap HY4.out 4
        have q5 : w4.cell? ⟨b2, 5, none⟩ = some (.int .i64 n') := cell_of_heap HY4.out 5
        have q6 : w4.cell? ⟨b2, 6, none⟩ = some (.string x') := cell_of_heap HY4.out 6
        go_wp2_with (at_builtin; refine wpList_append_vd rfl (.tmp 63) (.tmp 65) rfl w.heap.size u8 V rfl (HO4.out.below (Bl_alloc (Below.refl _ _) _)) w4.heap.size ⟨k, tt, s', d', t', n', x', er⟩ rfl ?_ ?_ ?_ ?_; (intro i hi; rw [cell_of_heap (heap_new w4 _) i]; simp [Ver.cells]); (omega); (have := (Bl_alloc (Below.refl w4.heap.size w4) (.cells #[.int .i64 k, .int .i64 tt, .int .i64 s', .int .i64 d', .int .i64 t', .int .i64 n', .string x'] 25)).size; omega); intro v5 w5 hown5 hg5; (have HO5 := hidd hown5); (have HG5 := hidd hg5); clear hown5 hg5)
        have hK5 : Keeps (InRP y z v) w w5 := (HK4.out.alloc _).grown HG5.out (fun g hg => .inl (HO4.out.base hg))
        have hK45 : Keeps (fun g => u8.ownBlock = some g) w4 w5 := ((Keeps.refl _ w4).alloc _).grown HG5.out (fun i hi => .inr hi)
        have hA5 : RP w5 y z B n me ((c.adds V).inc k) v2 M2 := HA4.out.keeps hK45 (fun e => by have := HO4.out.base e; omega) (fun e => by have := HO4.out.base e; omega) (fun g hg e => by
          obtain ⟨cs, ht⟩ := HA4.out.hR.ho.typ hg
          exact vd_typ HO4.out e ht)
        have hst5 : (V ++ [⟨k, tt, s', d', t', n', x', er⟩]) ++ dvs me next (mine M2 dst) = dvs me next (mine L dst) := by
          rw [← HST2.out, ← HD.out]
          simp [dvs]
        have hadd : c.adds (V ++ [⟨k, tt, s', d', t', n', x', er⟩]) = (c.adds V).inc k := by rw [Cn.adds_snoc]
        have HS : Hid (ROpen w y z B n me next dst c v L v5 w5 (V ++ [⟨k, tt, s', d', t', n', x', er⟩]) M2 v2) := hidd ⟨HO5.out, by rw [hadd]; exact hA5, HV3.out, hK5, HOT2.out, hst5, hM2⟩
        obtain ⟨A6, cc6, e6, -⟩ := HO5.out.form
        have hlv : lenOf v5 = V.length + 1 := by rw [e6]; simp [lenOf]
        have hl8 : lenOf u8 = V.length := by
          obtain ⟨A8, c8, e8, -⟩ := HO4.out.form
          rw [e8]; simp [lenOf]
        have HL1 := hidd hlv
        have HL2 := hidd hl8
        clear hK5 hK45 hA5 hst5 hadd e6 hlv hl8
        go_wp2
        go_roundw
        case rel => exact ⟨_, _, _, HS.out⟩
        case measure => rw [HL1.out, HL2.out]; omega
    · have hVe : V = dvs me next (mine L dst) := by rw [← HST.out, hm0]; simp [dvs]
      have hMe : M2 = others L dst := by rw [← HOT.out, mine_nil_others hm0]
      have HE1 := hidd hVe
      have HE2 := hidd hMe
      have HA1 := hidd hA1
      have HO1 := hidd hO1
      have HK2 := hidd hK2
      clear hVe hMe hA1 hO1 hK2 hX1 hQ2 hv2 hK1 hm0 hv3
      unfold Pk.val Pk.zero
      go_wp2
      go_ret2
      refine ⟨_, rfl, ?_, ⟨v2, ?_⟩, HK2.out.alloc _⟩
      · rw [← HE1.out]; exact HO1.out.below (Bl_alloc (Below.refl _ _) _)
      · rw [← HE1.out, ← HE2.out]; exact HA1.out.below (Bl_alloc (Below.refl _ _) _)
end Go.Proofs.Ytnlcibobhmcfpaa
