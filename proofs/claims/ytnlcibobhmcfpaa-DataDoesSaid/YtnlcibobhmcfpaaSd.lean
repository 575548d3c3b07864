import Derived.Test.YtnlcibobhmcfpaaSc
set_option linter.unusedSimpArgs false
namespace Go.Proofs.Ytnlcibobhmcfpaa
open Go.RowKit
set_option maxHeartbeats 800000 in
theorem c29m {w : World} {y B n : Nat} {v : Value} {L : List Pk} (h : RQ w y B n v L) (hL : L.length ≤ 64) (dst : Int) (hv : findB L dst = -1) :
    Calls Try.prog 29 #[.pointer (some ⟨y, 0, none⟩), .int .i64 dst] w fun e w' => e = .returned (.tuple #[Pk.zero.val, .int .i64 7]) ∧ Below w.heap.size w w' := by
  obtain ⟨A, c, rfl, hrd⟩ := h.ho.rd
  have h1 : w.cell? ⟨y, 1, none⟩ = some (.slice A L.length c) := cell_of_heap h.hy 1
  have hlt := h.y_lt
  have HR := hidd hrd
  have HQ := hidd h
  have HV : Hid (∀ (k : Nat) (p : Pk), L[k]? = some p → (dst == p.d) = false) := hidd (fun k p hp => by
    have h2 := (findB_none_iff hv).1
    unfold others at h2
    rw [List.filter_eq_self] at h2
    have h3 := h2 p (List.mem_of_getElem? hp)
    simp at h3
    simpa using fun e => h3 e.symm)
  clear h hrd hv
  unfold Pk.val Pk.zero
  go_enter Try.func29, Try.ntmps29
  go_wp2
  go_loopw [6] (fun i wr => ∃ k : Nat, k ≤ L.length ∧ i = .int .i64 k ∧ w.alloc (.cells #[.int .i64 0, .int .i64 0, .int .i64 0, .int .i64 0, .string ⟨#[]⟩] 23) = wr) (fun i _ => L.length - (intOf i).toNat)
  case atStart => exact ⟨0, Nat.zero_le _, rfl, rfl⟩
  case round =>
    obtain ⟨k, hk, rfl, rfl⟩ := hrel
    by_cases hlt2 : k < L.length
    · obtain ⟨p, hp⟩ : ∃ p, L[k]? = some p := ⟨_, List.getElem?_eq_getElem hlt2⟩
      obtain ⟨b, o, rfl, hbl, hcells⟩ : ∃ b o, A = some ⟨b, o, none⟩ ∧ b < w.heap.size ∧ ∀ k p, L[k]? = some p → PkHere w b (o + k * 5) p := by
        rcases HR.out with h0 | h0
        · rw [h0] at hlt2; exact absurd hlt2 (by simp)
        · exact h0
      obtain ⟨-, c1, -, -, -⟩ := hcells k p hp
      have hd := HV.out k p hp
      clear hcells hp
      go_wp2
      go_roundw
      case rel => exact ⟨k + 1, by omega, by go_num, by first | rfl | trivial⟩
      case measure => first | (simp [intOf]; done) | (simp [intOf]; omega)
    · obtain rfl : k = L.length := by omega
      go_wp2
      refine bodyPost_ret (v := .tuple #[.agg #[.int .i64 0, .int .i64 0, .int .i64 0, .int .i64 0, .string ⟨#[]⟩], .int .i64 7]) ?_ ?_ ?_
      · simp [results, Try.results29, go_sem]
      · rfl
      · exact ⟨rfl, by repeat (first | exact Bl_alloc (Below.refl _ _) _ | refine Below.setCell ?_ ?_ _ | omega | (simp; done))⟩
def zeroPk : Obj := .cells #[.int .i64 0, .int .i64 0, .int .i64 0, .int .i64 0, .string ⟨#[]⟩] 23
theorem two_facts {w w1 : World} {Z P : Obj} (h : Below (w.heap.size + 2) ((w.alloc Z).alloc P) w1) : w1.heap[w.heap.size]? = some Z ∧ w1.heap[w.heap.size + 1]? = some P ∧ Below w.heap.size w w1 := by
  refine ⟨(h.block _ (by omega)).trans (heap_alloc (heap_new w Z) P), (h.block _ (by omega)).trans ?_, (Bl_alloc (Bl_alloc (Below.refl _ _) Z) P).trans (h.mono (by omega))⟩
  have := heap_new (w.alloc Z) P
  simpa using this
theorem take_cell {L : List Pk} {k j : Nat} {u : Value} (h : (pkList (L.take k))[j]? = some u) : (pkList L)[j]? = some u := by
  rw [pkList_take, List.getElem?_take] at h
  split at h
  · exact h
  · cases h
theorem drop_cell {L : List Pk} {k j : Nat} {u : Value} (h : (pkList (L.drop k))[j]? = some u) : (pkList L)[k * 5 + j]? = some u := by
  rw [← pkList_drop, List.getElem?_drop] at h
  exact h
theorem take_done {w w2 : World} {y B n : Nat} {v v2 a0 a1 a2 a3 a4 : Value} {L M : List Pk} (h : RQ w y B n v L) (hb : Below w.heap.size w w2) (ho : OwnPk w2 (w.heap.size + 2) v2 M) :
    RQ ((((((w2.setCell ⟨y, 1, none⟩ v2).setCell ⟨w.heap.size, 0, none⟩ a0).setCell ⟨w.heap.size, 1, none⟩ a1).setCell ⟨w.heap.size, 2, none⟩ a2).setCell ⟨w.heap.size, 3, none⟩ a3).setCell ⟨w.heap.size, 4, none⟩ a4) y B n v2 M ∧
      Keeps (InR y v) w ((((((w2.setCell ⟨y, 1, none⟩ v2).setCell ⟨w.heap.size, 0, none⟩ a0).setCell ⟨w.heap.size, 1, none⟩ a1).setCell ⟨w.heap.size, 2, none⟩ a2).setCell ⟨w.heap.size, 3, none⟩ a3).setCell ⟨w.heap.size, 4, none⟩ a4) := by
  have hr := h.stored ⟨(h.below hb).hy, Keeps.below hb⟩ (ho.weaken (by have := h.size; omega))
  have hy := h.y_lt
  refine ⟨hr.1.keeps (five_keeps _ _ _ _ _ _ _ (S := fun k => k = w.heap.size) rfl) (by omega) (fun g hg e => by have := ho.base hg; omega), ?_⟩
  exact ((((hr.2.setCell (.inl (Nat.le_refl _)) _).setCell (.inl (Nat.le_refl _)) _).setCell (.inl (Nat.le_refl _)) _).setCell (.inl (Nat.le_refl _)) _).setCell (.inl (Nat.le_refl _)) _
set_option maxHeartbeats 1600000 in
set_option maxRecDepth 100000 in
theorem c29h {w : World} {y B n : Nat} {v : Value} {L : List Pk} (h : RQ w y B n v L) (hL : L.length ≤ 64) (dst : Int) {kk : Nat} {pp : Pk} (hv : findB L dst = kk) (hpp : L[kk]? = some pp) :
    Calls Try.prog 29 #[.pointer (some ⟨y, 0, none⟩), .int .i64 dst] w fun e w' => e = .returned (.tuple #[pp.val, .int .i64 0]) ∧ (∃ v', RQ w' y B n v' (L.eraseIdx kk)) ∧ Keeps (InR y v) w w' := by
  obtain ⟨hkl, hke⟩ := List.getElem?_eq_some_iff.1 hpp
  obtain ⟨g, c, rfl, hBg, hg, hcap, hrow, hrd⟩ := h.ho.some (by omega)
  have h1 : w.cell? ⟨y, 1, none⟩ = some (.slice (some ⟨g, 0, none⟩) L.length c) := cell_of_heap h.hy 1
  have hlt := h.y_lt
  have HR := hidd hrd
  have HW := hidd hrow
  have HQ := hidd h
  have HP := hidd hpp
  have HV : Hid (∀ (k : Nat) (p : Pk), L[k]? = some p → k < kk → (dst == p.d) = false) := hidd (fun k p hp hlt => by
    unfold findB at hv
    cases hf : L.findIdx? (fun p => p.d == dst) with
    | none => rw [hf] at hv; first | (simp at hv; done) | (simp at hv; omega)
    | some j =>
      rw [hf] at hv
      obtain rfl : j = kk := by
        have h9 : (j : Int) = kk := hv
        omega
      rw [List.findIdx?_eq_some_iff_getElem] at hf
      obtain ⟨h5, h6, h7⟩ := hf
      have h8 := h7 k hlt
      rw [(List.getElem?_eq_some_iff.1 hp).2] at h8
      simp at h8
      simpa using fun e => h8 e.symm)
  have HH : Hid ((dst == pp.d) = true) := hidd (by
    obtain ⟨j, u, hj, hu, hd⟩ := findB_some (L := L) (dst := dst) (by rw [hv]; omega)
    obtain rfl : j = kk := by rw [hv] at hj; omega
    rw [hpp] at hu
    injection hu with hu
    subst hu
    simp at hd
    simp [hd])
  clear h hrd hv hrow hke hpp
  go_enter Try.func29, Try.ntmps29
  go_wp2
  go_loopw [6] (fun i wr => ∃ k : Nat, k ≤ kk ∧ i = .int .i64 k ∧ w.alloc (.cells #[.int .i64 0, .int .i64 0, .int .i64 0, .int .i64 0, .string ⟨#[]⟩] 23) = wr) (fun i _ => L.length - (intOf i).toNat)
  case atStart => exact ⟨0, Nat.zero_le _, rfl, rfl⟩
  case round =>
    obtain ⟨k, hk, rfl, rfl⟩ := hrel
    by_cases hlt2 : k < kk
    · obtain ⟨p, hp⟩ : ∃ p, L[k]? = some p := ⟨_, List.getElem?_eq_getElem (by omega)⟩
      obtain ⟨-, c1, -, -, -⟩ := HR.out k p hp
      have hd := HV.out k p hp hlt2
      rw [Nat.zero_add] at c1
      clear hp
      go_wp2
      go_roundw
      case rel => exact ⟨k + 1, by omega, by go_num, by first | rfl | trivial⟩
      case measure => first | (simp [intOf]; done) | (simp [intOf]; omega)
    · obtain rfl : k = kk := by omega
      obtain ⟨c0, c1, c2, c3, c4⟩ := HR.out k pp HP.out
      rw [Nat.zero_add] at c0 c1 c2 c3 c4
      have hd := HH.out
      by_cases hck : c = k + 1
      · subst hck
        go_wp2_with (first
          | (at_builtin; refine wpList_append_pks rfl (.tmp 35) (.tmp 41) rfl (w.heap.size + 2) (.slice none 0 0) [] rfl (OwnPk.nil _ _) ⟨g, 0, none⟩ k (k + 1) (L.take k) rfl ?_ ?_ ?_ ?_ ?_; (simp; omega); (intro j u hj; rw [add_zero_addr, Nat.zero_add]; exact (((Bl_alloc (Bl_alloc (Below.refl _ _) _) _ : Below w.heap.size w _)).cell (p := ⟨g, j, none⟩) hg).trans (HW.out j u (take_cell hj))); (simp; omega); (simp); intro v1 w1 hown1 hg1; (have HB1 := hidd ((Below.refl (w.heap.size + 2) _).grown hg1 (by simp) (fun _ e => by simp [Value.ownBlock] at e))); (have HO1 := hidd hown1); (have m1 : w1.cell? ⟨y, 1, none⟩ = some (.slice (some ⟨g, 0, none⟩) L.length (k + 1)) := ((two_facts HB1.out).2.2.cell (p := ⟨y, 1, none⟩) hlt).trans h1); clear hown1 hg1)
          | (at_builtin; refine wpList_append_pks rfl (.tmp 43) (.tmp 50) rfl (w.heap.size + 2) _ (L.take k) rfl HO1.out _ _ _ (L.drop (k + 1)) rfl ?_ ?_ ?_ ?_ ?_; (first | (simp; done) | (simp; omega)); (intro j u hj; rw [List.drop_eq_nil_of_le (by omega)] at hj; simp [pkList] at hj); (rw [List.length_take, List.length_drop]; omega); (have := HB1.out.size; simpa using this); intro v2 w2 hown2 hg2; (have HB2 := hidd (HB1.out.grown hg2 (by have := HB1.out.size; simpa using this) (fun _ e => HO1.out.base e))); (obtain ⟨A2, cc2, hv2, -⟩ := hown2.rd); (generalize (L.take k ++ L.drop (k + 1)).length = nn2 at hv2); subst hv2; (have HO2 := hidd hown2); (have n0 : w2.cell? ⟨y, 1, none⟩ = some (.slice (some ⟨g, 0, none⟩) L.length (k + 1)) := ((two_facts HB2.out).2.2.cell (p := ⟨y, 1, none⟩) hlt).trans h1); (have nf : w2.frozen? ⟨y, 1, none⟩ = false := free_of_heap ((HQ.out.below (two_facts HB2.out).2.2).hy) 1); (have z0 : w2.cell? ⟨w.heap.size, 0, none⟩ = some (.int .i64 0) := cell_of_heap (two_facts HB2.out).1 0); (have f0 : w2.frozen? ⟨w.heap.size, 0, none⟩ = false := free_of_heap (two_facts HB2.out).1 0); (have p0 : w2.cell? ⟨w.heap.size + 1, 0, none⟩ = some (.int .i64 pp.s) := cell_of_heap (two_facts HB2.out).2.1 0); (have z1 : w2.cell? ⟨w.heap.size, 1, none⟩ = some (.int .i64 0) := cell_of_heap (two_facts HB2.out).1 1); (have f1 : w2.frozen? ⟨w.heap.size, 1, none⟩ = false := free_of_heap (two_facts HB2.out).1 1); (have p1 : w2.cell? ⟨w.heap.size + 1, 1, none⟩ = some (.int .i64 pp.d) := cell_of_heap (two_facts HB2.out).2.1 1); (have z2 : w2.cell? ⟨w.heap.size, 2, none⟩ = some (.int .i64 0) := cell_of_heap (two_facts HB2.out).1 2); (have f2 : w2.frozen? ⟨w.heap.size, 2, none⟩ = false := free_of_heap (two_facts HB2.out).1 2); (have p2 : w2.cell? ⟨w.heap.size + 1, 2, none⟩ = some (.int .i64 pp.t) := cell_of_heap (two_facts HB2.out).2.1 2); (have z3 : w2.cell? ⟨w.heap.size, 3, none⟩ = some (.int .i64 0) := cell_of_heap (two_facts HB2.out).1 3); (have f3 : w2.frozen? ⟨w.heap.size, 3, none⟩ = false := free_of_heap (two_facts HB2.out).1 3); (have p3 : w2.cell? ⟨w.heap.size + 1, 3, none⟩ = some (.int .i64 pp.n) := cell_of_heap (two_facts HB2.out).2.1 3); (have z4 : w2.cell? ⟨w.heap.size, 4, none⟩ = some (.string ⟨#[]⟩) := cell_of_heap (two_facts HB2.out).1 4); (have f4 : w2.frozen? ⟨w.heap.size, 4, none⟩ = false := free_of_heap (two_facts HB2.out).1 4); (have p4 : w2.cell? ⟨w.heap.size + 1, 4, none⟩ = some (.string pp.x) := cell_of_heap (two_facts HB2.out).2.1 4); clear hown2 hg2))
        refine bodyPost_ret (v := .tuple #[pp.val, .int .i64 0]) ?_ ?_ ?_
        · simp [results, Try.results29, go_sem, Pk.val, z0, z1, z2, z3, z4, Nat.ne_of_lt hlt, Nat.ne_of_gt hlt]
        · rfl
        · have hr := @take_done w w2 y B n _ _ (.int .i64 pp.s) (.int .i64 pp.d) (.int .i64 pp.t) (.int .i64 pp.n) (.string pp.x) L _ HQ.out (two_facts HB2.out).2.2 HO2.out
          rw [← List.eraseIdx_eq_take_drop_succ] at hr
          exact ⟨rfl, ⟨_, hr.1⟩, hr.2⟩
      · have hk1 : k + 1 ≤ c := by omega
        have HML : Hid ((L.take k).length + (L.drop (k + 1)).length ≤ 1000000) := hidd (by rw [List.length_take, List.length_drop]; omega)
        go_wp2_with (first
          | (at_builtin; refine wpList_append_pks rfl (.tmp 35) (.tmp 41) rfl (w.heap.size + 2) (.slice none 0 0) [] rfl (OwnPk.nil _ _) ⟨g, 0, none⟩ k c (L.take k) rfl ?_ ?_ ?_ ?_ ?_; (simp; omega); (intro j u hj; rw [add_zero_addr, Nat.zero_add]; exact (((Bl_alloc (Bl_alloc (Below.refl _ _) _) _ : Below w.heap.size w _)).cell (p := ⟨g, j, none⟩) hg).trans (HW.out j u (take_cell hj))); (simp; omega); (simp); intro v1 w1 hown1 hg1; (have HB1 := hidd ((Below.refl (w.heap.size + 2) _).grown hg1 (by simp) (fun _ e => by simp [Value.ownBlock] at e))); (have HO1 := hidd hown1); (have m1 : w1.cell? ⟨y, 1, none⟩ = some (.slice (some ⟨g, 0, none⟩) L.length c) := ((two_facts HB1.out).2.2.cell (p := ⟨y, 1, none⟩) hlt).trans h1); clear hown1 hg1)
          | (at_builtin; refine wpList_append_pks rfl (.tmp 43) (.tmp 50) rfl (w.heap.size + 2) _ (L.take k) rfl HO1.out _ _ _ (L.drop (k + 1)) rfl ?_ ?_ ?_ ?_ ?_; (exact List.length_drop); (intro j u hj; rw [add_zero_addr]; exact ((two_facts HB1.out).2.2.cell (p := ⟨g, _, none⟩) hg).trans (HW.out _ u (by simpa using drop_cell hj))); (exact HML.out); (have := HB1.out.size; simpa using this); intro v2 w2 hown2 hg2; (have HB2 := hidd (HB1.out.grown hg2 (by have := HB1.out.size; simpa using this) (fun _ e => HO1.out.base e))); (obtain ⟨A2, cc2, hv2, -⟩ := hown2.rd); (generalize (L.take k ++ L.drop (k + 1)).length = nn2 at hv2); subst hv2; (have HO2 := hidd hown2); (have n0 : w2.cell? ⟨y, 1, none⟩ = some (.slice (some ⟨g, 0, none⟩) L.length c) := ((two_facts HB2.out).2.2.cell (p := ⟨y, 1, none⟩) hlt).trans h1); (have nf : w2.frozen? ⟨y, 1, none⟩ = false := free_of_heap ((HQ.out.below (two_facts HB2.out).2.2).hy) 1); (have z0 : w2.cell? ⟨w.heap.size, 0, none⟩ = some (.int .i64 0) := cell_of_heap (two_facts HB2.out).1 0); (have f0 : w2.frozen? ⟨w.heap.size, 0, none⟩ = false := free_of_heap (two_facts HB2.out).1 0); (have p0 : w2.cell? ⟨w.heap.size + 1, 0, none⟩ = some (.int .i64 pp.s) := cell_of_heap (two_facts HB2.out).2.1 0); (have z1 : w2.cell? ⟨w.heap.size, 1, none⟩ = some (.int .i64 0) := cell_of_heap (two_facts HB2.out).1 1); (have f1 : w2.frozen? ⟨w.heap.size, 1, none⟩ = false := free_of_heap (two_facts HB2.out).1 1); (have p1 : w2.cell? ⟨w.heap.size + 1, 1, none⟩ = some (.int .i64 pp.d) := cell_of_heap (two_facts HB2.out).2.1 1); (have z2 : w2.cell? ⟨w.heap.size, 2, none⟩ = some (.int .i64 0) := cell_of_heap (two_facts HB2.out).1 2); (have f2 : w2.frozen? ⟨w.heap.size, 2, none⟩ = false := free_of_heap (two_facts HB2.out).1 2); (have p2 : w2.cell? ⟨w.heap.size + 1, 2, none⟩ = some (.int .i64 pp.t) := cell_of_heap (two_facts HB2.out).2.1 2); (have z3 : w2.cell? ⟨w.heap.size, 3, none⟩ = some (.int .i64 0) := cell_of_heap (two_facts HB2.out).1 3); (have f3 : w2.frozen? ⟨w.heap.size, 3, none⟩ = false := free_of_heap (two_facts HB2.out).1 3); (have p3 : w2.cell? ⟨w.heap.size + 1, 3, none⟩ = some (.int .i64 pp.n) := cell_of_heap (two_facts HB2.out).2.1 3); (have z4 : w2.cell? ⟨w.heap.size, 4, none⟩ = some (.string ⟨#[]⟩) := cell_of_heap (two_facts HB2.out).1 4); (have f4 : w2.frozen? ⟨w.heap.size, 4, none⟩ = false := free_of_heap (two_facts HB2.out).1 4); (have p4 : w2.cell? ⟨w.heap.size + 1, 4, none⟩ = some (.string pp.x) := cell_of_heap (two_facts HB2.out).2.1 4); clear hown2 hg2))
        refine bodyPost_ret (v := .tuple #[pp.val, .int .i64 0]) ?_ ?_ ?_
        · simp [results, Try.results29, go_sem, Pk.val, z0, z1, z2, z3, z4, Nat.ne_of_lt hlt, Nat.ne_of_gt hlt]
        · rfl
        · have hr := @take_done w w2 y B n _ _ (.int .i64 pp.s) (.int .i64 pp.d) (.int .i64 pp.t) (.int .i64 pp.n) (.string pp.x) L _ HQ.out (two_facts HB2.out).2.2 HO2.out
          rw [← List.eraseIdx_eq_take_drop_succ] at hr
          exact ⟨rfl, ⟨_, hr.1⟩, hr.2⟩
end Go.Proofs.Ytnlcibobhmcfpaa
