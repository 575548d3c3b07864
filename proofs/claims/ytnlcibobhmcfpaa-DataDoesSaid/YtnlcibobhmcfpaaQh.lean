/- The walks of queue.Clear, and of nil queues. -/
import Derived.Test.YtnlcibobhmcfpaaQg
set_option linter.unusedSimpArgs false
namespace Go.Proofs.Ytnlcibobhmcfpaa
open Go.RowKit
theorem c22n (w : World) : Calls Try.prog 22 #[.pointer none] w fun e w' => e = .returned (.slice none 0 0) ∧ w = w' := by
  go_enter Try.func22, Try.ntmps22
  go_wp2
  go_ret
  exact ⟨rfl, rfl⟩
theorem c21n (dst : Int) (w : World) : Calls Try.prog 21 #[.pointer none, .int .i64 dst] w fun e w' => e = .returned (.int .i64 0) ∧ w = w' := by
  go_enter Try.func21, Try.ntmps21
  go_wp2_with (go_at_call 22; refine (c22n _).mono ?_; rintro e w' ⟨rfl, rfl⟩)
  refine wp_loop_rounds 1 ?_; rw [rounds_succ]
  go_wp2
  go_ret
  exact ⟨rfl, rfl⟩
theorem c26n (dst : Int) (w : World) : Calls Try.prog 26 #[.pointer none, .int .i64 dst] w fun e w' => e = .returned (.int .i64 0) ∧ w = w' := by
  go_enter Try.func26, Try.ntmps26
  go_wp2
  go_ret
  exact ⟨rfl, rfl⟩
def others (L : List Pk) (dst : Int) : List Pk := L.filter fun p => !(p.d == dst)
theorem erase_split {L : List Pk} {k : Nat} {p : Pk} (hp : L[k]? = some p) : L = L.take k ++ p :: L.drop (k + 1) ∧ L.eraseIdx k = L.take k ++ L.drop (k + 1) := by
  obtain ⟨hk, e⟩ := List.getElem?_eq_some_iff.1 hp
  refine ⟨?_, List.eraseIdx_eq_take_drop_succ L k⟩
  have := List.take_append_drop k L
  rw [List.drop_eq_getElem_cons hk, e] at this
  exact this.symm
theorem others_erase {L : List Pk} {dst : Int} {k : Nat} {p : Pk} (hp : L[k]? = some p) (hd : (p.d == dst) = true) : others (L.eraseIdx k) dst = others L dst := by
  obtain ⟨e1, e2⟩ := erase_split hp
  rw [e2]
  conv => rhs; rw [e1]
  simp [others, List.filter_append, List.filter_cons, hd]
theorem cntB_erase {L : List Pk} {dst : Int} {k : Nat} {p : Pk} (hp : L[k]? = some p) (hd : (p.d == dst) = true) : cntB (L.eraseIdx k) dst + 1 = cntB L dst := by
  obtain ⟨e1, e2⟩ := erase_split hp
  rw [e2]
  conv => rhs; rw [e1]
  simp [cntB, List.filter_append, List.filter_cons, hd]
  omega
theorem findB_none_iff {L : List Pk} {dst : Int} (h : findB L dst = -1) : others L dst = L ∧ cntB L dst = 0 := by
  unfold findB at h
  cases hf : L.findIdx? (fun p => p.d == dst) with
  | some k => rw [hf] at h; first | (simp at h; done) | (simp at h; omega)
  | none =>
    rw [List.findIdx?_eq_none_iff] at hf
    constructor
    · unfold others
      rw [List.filter_eq_self]
      intro p hp
      have := hf p hp
      simp [this]
    · unfold cntB
      rw [List.length_eq_zero_iff, List.filter_eq_nil_iff]
      intro p hp
      have := hf p hp
      simp [this]
theorem cntB_others (L : List Pk) (dst : Int) : cntB (others L dst) dst = 0 := by
  unfold cntB others
  rw [List.length_eq_zero_iff, List.filter_eq_nil_iff]
  intro p hp
  have := (List.mem_filter.1 hp).2
  simpa using this
theorem cnt_split (L : List Pk) (dst : Int) : cntB L dst + (others L dst).length = L.length := by
  unfold cntB others
  induction L with
  | nil => rfl
  | cons p L ih =>
    simp only [List.filter_cons, List.length_cons]
    cases h : p.d == dst <;> simp <;> omega
set_option maxHeartbeats 400000 in
theorem c26 {w : World} {q r n f : Nat} {R L : List Pk} (h : QAt w q r n f R L) (dst : Int) :
    Calls Try.prog 26 #[.pointer (some ⟨q, 0, none⟩), .int .i64 dst] w fun e w' => e = .returned (.int .i64 (cntB L dst)) ∧ (∃ f' R', QAt w' q r n f' R' (others L dst)) ∧ Keeps (InQ q r) w w' := by
  have hL := Nat.le_trans h.hL h.n64
  have HQ := hidd h
  have hcl := cntB_le L dst
  clear h
  obtain ⟨v0, hv0⟩ : ∃ v, findB L dst = v := ⟨_, rfl⟩
  have HV0 := hidd hv0
  clear hv0
  go_enter Try.func26, Try.ntmps26
  go_wp2_with (go_at_call 52; refine (c52v HQ.out HV0.out).mono ?_; rintro e w' ⟨rfl, nq, rfl⟩)
  go_loopw [5, 6] (fun nn kv wr => ∃ (c : Nat) (v : Int) (f' : Nat) (R' M : List Pk), nn = .int .i64 c ∧ kv = .int .i64 v ∧ QAt wr q r n f' R' M ∧ findB M dst = v ∧ others M dst = others L dst ∧ c + cntB M dst = cntB L dst ∧ Keeps (InQ q r) w wr) (fun nn _ _ => cntB L dst - (intOf nn).toNat)
  case atStart => exact ⟨0, v0, f, R, L, rfl, rfl, HQ.out.drewN nq, HV0.out, rfl, by omega, (Keeps.refl _ _).drewN _⟩
  case round =>
    obtain ⟨c, v, f', R', M, rfl, rfl, hQ, hv, ho, hc, hK⟩ := hrel
    by_cases hm : v = -1
    · subst hm
      obtain ⟨g1, g2⟩ := findB_none_iff hv
      have HQ' := hidd hQ
      have HO := hidd (ho.symm.trans g1)
      have HC := hidd hc
      have HG := hidd g2
      have HK := hidd hK
      clear hQ hv ho hc hK g1 g2
      go_wp2
      go_ret
      exact ⟨ret64 (by have := HC.out; have := HG.out; omega), ⟨_, _, by rw [HO.out]; exact HQ'.out⟩, HK.out⟩
    · obtain ⟨k, p, hk, hp, hd⟩ := findB_some (by rw [hv]; exact hm)
      obtain rfl : (k : Int) = v := by rw [← hk, hv]
      have ho' := (others_erase hp hd).trans ho
      have hc' := cntB_erase hp hd
      obtain ⟨v1, hv1⟩ : ∃ v1, findB (M.eraseIdx k) dst = v1 := ⟨_, rfl⟩
      have HQ' := hidd hQ
      have HP := hidd hp
      have HO := hidd ho'
      have hlt : c + 1 ≤ cntB L dst := by omega
      have HC : Hid (c + 1 + cntB (M.eraseIdx k) dst = cntB L dst) := hidd (by omega)
      have HV1 := hidd hv1
      have HK := hidd hK
      clear hQ hv ho hc hK hk hp hd ho' hc' hv1 hm
      go_wp2_with (first
        | (go_at_call 53; refine (c53 HQ'.out HP.out).mono ?_; rintro e w1 ⟨rfl, ⟨f1, R1, hQ1⟩, hK1⟩; have HQ1 := hidd hQ1; have HK1 := hidd hK1; clear hQ1 hK1)
        | (go_at_call 52; refine (c52v HQ1.out HV1.out).mono ?_; rintro e w' ⟨rfl, nq1, rfl⟩))
      go_roundw
      case rel => exact ⟨c + 1, v1, f1, R1, _, by go_num, rfl, HQ1.out.drewN nq1, HV1.out, HO.out, HC.out, (HK.out.trans HK1.out).drewN _⟩
      case measure => simp [intOf]; omega
end Go.Proofs.Ytnlcibobhmcfpaa
