/- The walk of the reference's Links. -/
import Derived.Test.YtocfnimeinongaaH
set_option linter.unusedSimpArgs false
set_option linter.unusedVariables false
namespace Go.Proofs.Ytocfnimeinongaa
open Go.RowKit
attribute [local go_sem ↓] Go.wp_at_zero Go.wp_at_succ
theorem row_t {st : St} {k : Nat} (h : (st.T.at k).t = true) : (st.T k).isSome = true := by
  cases e : st.T k with
  | none => simp [Tab.at, e, hdz] at h
  | some x => rfl
set_option maxRecDepth 100000 in
set_option maxHeartbeats 4000000 in
theorem c23 {w : World} {y : Nat} {st : St} (h : RAt w y st) :
    Calls Try.prog 23 #[.pointer (some ⟨y, 0, none⟩)] w fun e w' => ∃ v, e = .returned v ∧ OwnE w' w.heap.size v (linkL st.T) ∧ Below w.heap.size w w' := by
  obtain ⟨r, -, -, -, hc4, ly, lr, hne, hrow⟩ := h.parts
  have HROW := hidd hrow
  have HC4 := hidd hc4
  clear hrow h hc4
  go_enter Try.func23, Try.ntmps23
  go_wp2_with fail
  go_loopw [3, 4] (fun v i wr => ∃ k : Nat, k ≤ 64 ∧ i = .int .i64 k ∧ OwnE wr w.heap.size v (rowsTo st.T (fun k => (st.T.at k).t) k) ∧ Below w.heap.size w wr) (fun _ i _ => 64 - (intOf i).toNat)
  case atStart => exact ⟨0, Nat.zero_le _, rfl, OwnG.nil _ _ _ _ _, Below.refl _ _⟩
  case round =>
    obtain ⟨k, hk, rfl, ho, hb⟩ := hrel
    have HOE := hidd ho
    have HB := hidd hb
    have hsz := hb.size
    have g4 : wr.cell? ⟨y, 4, none⟩ = some (.slice (some ⟨r, 0, none⟩) 64 64) := (hb.cell (p := ⟨y, 4, none⟩) ly).trans HC4.out
    have HG := hidd (fun (o : Nat) (u : Value) (hu : w.cell? ⟨r, o, none⟩ = some u) => (hb.cell (p := ⟨r, o, none⟩) lr).trans hu)
    have HLN := hidd (rowsTo_len st.T (fun k => (st.T.at k).t) k)
    clear ho hb
    by_cases hlt : k < 64
    · have HKL := hidd hlt
      obtain ⟨-, q1, -, q3⟩ := HROW.out k hlt
      have d1 := HG.out _ _ q1
      have d3 := HG.out _ _ q3
      have k0 : (0 : Int) ≤ k := by omega
      have k1 : (k : Int) < 64 := by omega
      clear q1 q3
      cases hit : (st.T.at k).t with
      | false =>
        rw [hit] at d3
        have HS := hidd hit
        clear hit
        go_wp2
        go_roundw
        case rel => exact ⟨k + 1, by have := HKL.out; omega, by go_num, by rw [rowsTo_succ, HS.out]; simpa using HOE.out, HB.out⟩
        case measure => have := HKL.out; simp [intOf]; omega
      | true =>
        rw [hit] at d3
        have HS := hidd hit
        have HI := hidd (row_t hit)
        clear hit
        generalize hhv : (st.T.at k).e = hv at *
        have HHV := hidd hhv
        clear hhv
        go_wp2_with (at_builtin; refine wpList_app info51 Try.underlying32 rfl (by decide) (by decide) ec_len ec_one rfl (.tmp 22) (.tmp 33) rfl w.heap.size _ (rowsTo st.T (fun k => (st.T.at k).t) k) rfl (HOE.out.below (Bl_alloc (Below.refl _ _) _)) _ ⟨k, hv⟩ rfl ?_ ?_ ?_ ?_; (exact ec_new rfl ⟨k, hv⟩ _); (have := HLN.out; omega); (simp; omega); intro v' w3 hown3 hg3; (have HO3 := hidd hown3); (have hb3 : Below w.heap.size w w3 := ((Keeps.below (S := fun _ => False) (Bl_then HB.out (Bl_alloc (Below.refl _ _) _))).grown hg3 (fun i hi => .inl (HOE.out.base hi))).toBelow (Nat.le_refl _) (fun _ f => f.elim)); (have HB3 := hidd hb3); clear hown3 hg3 hb3)
        go_roundw
        case rel => exact ⟨k + 1, by have := HKL.out; omega, by go_num, by rw [rowsTo_succ, HS.out, HI.out]; have he : ecAt st.T k = ⟨k, hv⟩ := by { unfold ecAt; rw [HHV.out] }; simp only [Bool.and_self, if_true, he]; exact HO3.out, HB3.out⟩
        case measure => have := HKL.out; simp [intOf]; omega
    · obtain rfl : k = 64 := by omega
      go_wp2
      go_ret
      exact ⟨_, rfl, linkL_to st.T ▸ HOE.out, HB.out⟩
end Go.Proofs.Ytocfnimeinongaa
