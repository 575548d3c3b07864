/- The walks of the atomic numbers and of the place of a ring (queue.at). -/
import Derived.Test.YtnlcibobhmcfpaaWa
import Derived.Laws.LoneSync
set_option linter.unusedSimpArgs false
namespace Go.Proofs.Ytnlcibobhmcfpaa
open Go.RowKit
theorem run63 {a : Addr} {x : Int} {w : World} (hc : w.cell? a = some (.int .i64 x)) : (callFunc 63 #[.pointer (some a)]).run Try.prog w = .ok (.value (.int .i64 x)) w :=
  run_call_load Try.func63 (by kernel_rfl) (by kernel_rfl) (by kernel_rfl) .i64 (by kernel_rfl) hc
theorem run66 {a : Addr} {y : Int} {u : Value} {w : World} (hc : w.cell? a = some u) (hz : w.frozen? a = false) : (callFunc 66 #[.pointer (some a), .int .i64 y]).run Try.prog w = .ok (.value (.tuple #[])) (w.setCell a (.int .i64 y)) :=
  run_call_store Try.func66 (by kernel_rfl) (by kernel_rfl) (by kernel_rfl) (by kernel_rfl) hc hz
theorem run62 {a : Addr} {x y : Int} {w : World} (hc : w.cell? a = some (.int .i64 x)) (hz : w.frozen? a = false) : (callFunc 62 #[.pointer (some a), .int .i64 y]).run Try.prog w = .ok (.value (.int .i64 (wrap64 (x + y)))) (w.setCell a (.int .i64 (wrap64 (x + y)))) :=
  run_call_add Try.func62 (by kernel_rfl) (by kernel_rfl) (by kernel_rfl) .i64 (by kernel_rfl) hc hz (by simp [go_sem, wrap64, IntKind.wrap_i64])
theorem c56 (b o : Nat) (f : Int) (w : World) (hc : w.cell? ⟨b, o, none⟩ = some (.int .i64 f)) :
    Calls Try.prog 56 #[.pointer (some ⟨b, o, none⟩)] w fun e w' => e = .returned (.int .i64 f) ∧ w = w' := by
  have h63 := run63 hc
  go_enter Try.func56, Try.ntmps56
  go_wp2
  go_ret
  exact ⟨rfl, rfl⟩
theorem c61 (b o : Nat) (u : Value) (y : Int) (w : World) (hc : w.cell? ⟨b, o, none⟩ = some u) (hz : w.frozen? ⟨b, o, none⟩ = false) :
    Calls Try.prog 61 #[.pointer (some ⟨b, o, none⟩), .int .i64 y] w fun e w' => e = .returned (.tuple #[]) ∧ w.setCell ⟨b, o, none⟩ (.int .i64 y) = w' := by
  have h66 := run66 (y := y) hc hz
  go_enter Try.func61, Try.ntmps61
  go_wp2
  go_end0
  exact ⟨rfl, rfl⟩
theorem c51 (q r n f : Nat) (kk : Int) (w : World) (h0 : w.cell? ⟨q, 0, none⟩ = some (.slice (some ⟨r, 0, none⟩) n n)) (h1 : w.cell? ⟨q, 1, none⟩ = some (.int .i64 f))
    (hn : n ≤ 64) (hf : f < n) (hk0 : 0 ≤ kk) (hk1 : kk ≤ 64) :
    Calls Try.prog 51 #[.pointer (some ⟨q, 0, none⟩), .int .i64 kk] w fun e w' => e = .returned (.pointer (some ⟨r, ((f + kk.toNat) % n) * 5, none⟩)) ∧ ∃ nq, w.drewN nq = w' := by
  obtain ⟨k, rfl⟩ := Int.eq_ofNat_of_zero_le hk0
  have e1 : IntKind.i64.wrap ((f : Int) + (k : Int)) = (f : Int) + k := IntWalk.i64_in _ (by omega)
  have e3 : (n : Int) ≠ 0 := by omega
  have e4 : 0 ≤ ((f : Int) + k) % n := Int.emod_nonneg _ (by omega)
  have e5 : ((f : Int) + k) % n < n := Int.emod_lt_of_pos _ (by omega)
  have e6 : (((f : Int) + k) % n).toNat = (f + k) % n := by
    rw [show ((f : Int) + k) % n = (((f + k) % n : Nat) : Int) by simp, Int.toNat_natCast]
  have h1n : ∀ n, (w.drewN n).cell? ⟨q, 1, none⟩ = some (.int .i64 f) := fun n => h1
  go_enter Try.func51, Try.ntmps51
  go_wp2_with fail
  go_quiet ((go_at_call 56; exact Calls.quiet_of_same ((c56 _ _ _ _ (h1n _)).mono fun e w' h => ⟨h.1, h.2.symm⟩)))
  go_wp2
  go_ret
  exact ⟨by simp, _, rfl⟩
end Go.Proofs.Ytnlcibobhmcfpaa
