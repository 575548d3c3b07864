/- The walk of queue.find: the place of the first packet for a node. -/
import Derived.Test.YtnlcibobhmcfpaaQa
import Derived.Test.YtnlcibobhmcfpaaPk
set_option linter.unusedSimpArgs false
namespace Go.Proofs.Ytnlcibobhmcfpaa
open Go.RowKit
def findB (L : List Pk) (dst : Int) : Int := match L.findIdx? (fun p => p.d == dst) with
  | some k => k
  | none => -1
theorem ret64 {a b : Int} (h : a = b) : Ending.returned (.int .i64 a) = Ending.returned (.int .i64 b) := by rw [h]
theorem findB_hit {L : List Pk} {dst : Int} {k : Nat} {p : Pk} (hp : L[k]? = some p) (hd : (p.d == dst) = true) (hno : ∀ j, j < k → ∀ u, L[j]? = some u → (u.d == dst) = false) : findB L dst = k := by
  have : L.findIdx? (fun p => p.d == dst) = some k := by
    rw [List.findIdx?_eq_some_iff_getElem]
    obtain ⟨hk, e⟩ := List.getElem?_eq_some_iff.1 hp
    exact ⟨hk, by rw [e]; exact hd, fun j hj => by
      have := hno j hj _ (List.getElem?_eq_getElem (Nat.lt_trans hj hk)); simpa using this⟩
  simp [findB, this]
theorem findB_none {L : List Pk} {dst : Int} (hno : ∀ (j : Nat) (u : Pk), L[j]? = some u → (u.d == dst) = false) : findB L dst = -1 := by
  have : L.findIdx? (fun p => p.d == dst) = none := by
    rw [List.findIdx?_eq_none_iff]
    intro u hu
    obtain ⟨j, hj⟩ := List.getElem?_of_mem hu
    simpa using hno j u hj
  simp [findB, this]
theorem c51q {w : World} {q r n f : Nat} {R L : List Pk} (h : QAt w q r n f R L) (kk : Int) (hk0 : 0 ≤ kk) (hk1 : kk ≤ 64) :
    Calls Try.prog 51 #[.pointer (some ⟨q, 0, none⟩), .int .i64 kk] w fun e w' => e = .returned (.pointer (some ⟨r, ((f + kk.toNat) % n) * 5, none⟩)) ∧ ∃ nq, w.drewN nq = w' :=
  c51 q r n f kk w h.q0 h.q1 h.n64 h.hf hk0 hk1
theorem QAt.drewN {w : World} {q r n f : Nat} {R L : List Pk} (h : QAt w q r n f R L) (m : Nat) : QAt (w.drewN m) q r n f R L := ⟨h.hq, h.hr, h.ne, h.n1, h.n64, h.hf, h.hR, h.hL, h.at_⟩
set_option maxHeartbeats 400000 in
theorem c52 {w : World} {q r n f : Nat} {R L : List Pk} (h : QAt w q r n f R L) (dst : Int) :
    Calls Try.prog 52 #[.pointer (some ⟨q, 0, none⟩), .int .i64 dst] w fun e w' => e = .returned (.int .i64 (findB L dst)) ∧ ∃ nq, w.drewN nq = w' := by
  have h2 := h.q2
  have HQ := hidd h
  have hL := Nat.le_trans h.hL h.n64
  clear h
  go_enter Try.func52, Try.ntmps52
  go_wp2
  go_loopw [10] (fun i wr => ∃ k : Nat, k ≤ L.length ∧ i = .int .i64 k ∧ (∀ j, j < k → ∀ p, L[j]? = some p → (p.d == dst) = false) ∧ ∃ nq, w.drewN nq = wr) (fun i _ => L.length - (intOf i).toNat)
  case atStart => exact ⟨0, Nat.zero_le _, rfl, fun j hj => absurd hj (Nat.not_lt_zero _), 0, rfl⟩
  case round =>
    obtain ⟨k, hk, rfl, hno, nq, rfl⟩ := hrel
    by_cases hlt : k < L.length
    · obtain ⟨p, hp⟩ : ∃ p, L[k]? = some p := ⟨_, List.getElem?_eq_getElem hlt⟩
      have hc := (pk_cell HQ.out.hr ((HQ.out.at_ k hlt).trans hp)).2.1
      have HP := hidd hp
      clear hp
      have HN := hidd hno
      clear hno
      cases hd : p.d == dst with
      | true =>
        go_wp2_with (go_at_call 51; refine (c51q (HQ.out.drewN nq) _ (by omega) (by omega)).mono ?_; rintro e w' ⟨rfl, nq', rfl⟩)
        go_ret
        exact ⟨ret64 (findB_hit HP.out hd HN.out).symm, _, rfl⟩
      | false =>
        go_wp2_with (go_at_call 51; refine (c51q (HQ.out.drewN nq) _ (by omega) (by omega)).mono ?_; rintro e w' ⟨rfl, nq', rfl⟩)
        go_roundw
        case rel =>
          refine ⟨k + 1, by omega, by go_num, fun j hj u hu => ?_, _, rfl⟩
          rcases Nat.lt_or_ge j k with hj' | hj'
          · exact HN.out j hj' u hu
          · obtain rfl : j = k := by omega
            obtain rfl : p = u := by simpa using HP.out.symm.trans hu
            exact hd
        case measure => simp [intOf]; omega
    · have HN := hidd hno
      clear hno
      go_wp2
      go_ret
      exact ⟨ret64 (findB_none (fun j p hp => HN.out j (by have := (List.getElem?_eq_some_iff.1 hp).1; omega) p hp)).symm, _, rfl⟩
end Go.Proofs.Ytnlcibobhmcfpaa
