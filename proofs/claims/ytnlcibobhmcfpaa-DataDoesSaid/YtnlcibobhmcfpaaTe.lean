/- The walk of the statement DataOrder. -/
import Derived.Test.YtnlcibobhmcfpaaTd
set_option linter.unusedSimpArgs false
set_option linter.unusedVariables false
namespace Go.Proofs.Ytnlcibobhmcfpaa
open Go.RowKit
theorem order_bad {p : Pk} (h : p.right = false) (me next : Int) (ok : Bool) : decP p me next ok = ⟨0, 0, 0, 0, 0, 0, ⟨#[]⟩, 1⟩ := by
  unfold Pk.right at h
  simp [decP, decide22, h]
theorem order_own {p : Pk} (h : p.right = true) (hd : (p.d == 1) = true) : decP p 1 0 false = ⟨1, 0, p.s, p.d, p.t, p.n, p.x, 0⟩ := by
  unfold Pk.right at h
  have : nodeB 1 = true := by decide
  simp [decP, decide22, h, hd, this]
theorem order_wait {p : Pk} (h : p.right = true) (hd : (p.d == 1) = false) : decP p 1 0 false = ⟨3, 0, p.s, p.d, p.t, p.n, p.x, 0⟩ := by
  unfold Pk.right at h
  have : nodeB 1 = true := by decide
  simp [decP, decide22, h, hd, this]
theorem order_open {p : Pk} {dst next : Int} (h : p.right = true) (hd : p.d = dst) (h1 : (dst == 1) = false) (hn : nodeB next = true) (hn1 : (next == 1) = false) :
    decP p 1 next true = bif p.t == 0 then ⟨4, 0, p.s, p.d, p.t, p.n, p.x, 0⟩ else ⟨2, next, p.s, p.d, p.t - 1, p.n, p.x, 0⟩ := by
  unfold Pk.right at h
  subst hd
  have : nodeB 1 = true := by decide
  simp [decP, decide22, h, h1, hn, hn1, this]
theorem Rows2.keepsP {B x q r : Nat} {w w' : World} {v1 v2 : Value} {M : List Pk} {dst : Int} (h : Rows2 B q r w v1 v2 M dst) (k : Keeps (InP x q r) w w') (hx : x < B) : Rows2 B q r w' v1 v2 M dst :=
  ⟨h.o1.keeps k (fun g hg hq => by have := h.o1.base hg; have := h.q1; have := h.r1; rcases hq with rfl | rfl | rfl <;> omega), h.o2.keeps k (fun g hg hq => by have := h.o2.base hg; have := h.q1; have := h.r1; rcases hq with rfl | rfl | rfl <;> omega), h.sep, Nat.le_trans h.size k.size, h.q1, h.r1⟩
theorem Bl_keepsP {x q r : Nat} {w w1 w2 : World} (h : Below w.heap.size w w1) (k : Keeps (InP x q r) w1 w2) (hx : w.heap.size ≤ x) (hq : w.heap.size ≤ q) (hr : w.heap.size ≤ r) : Below w.heap.size w w2 :=
  h.trans (k.toBelow h.size (fun g hg => by rcases hg with rfl | rfl | rfl <;> assumption))
theorem mine_mem {L : List Pk} {dst : Int} {p : Pk} (h : p ∈ mine L dst) : p ∈ L ∧ p.d = dst := by
  unfold mine at h
  have := List.mem_filter.1 h
  exact ⟨this.1, by simpa using this.2⟩
theorem mine_others (L : List Pk) (dst : Int) : mine (others L dst) dst = [] := List.eq_nil_of_length_eq_zero (cntB_others L dst)
theorem others_others (L : List Pk) (dst : Int) : others (others L dst) dst = others L dst := mine_nil_others (mine_others L dst)
set_option maxRecDepth 100000 in
set_option maxHeartbeats 4000000 in
theorem c10 (v : Value) (L : List Pk) (dst next : Int) (w : World) (hv : RdPk w v L) :
    Calls Try.prog 10 #[v, .int .i64 dst, .int .i64 next] w fun e w' => e = .returned (.bool true) ∧ Below w.heap.size w w' := by
  obtain ⟨A, c, rfl, hrd⟩ := hv
  have HR := hidd hrd
  clear hrd
  by_cases hgood : L.length ≤ 60 ∧ 0 ≤ dst ∧ dst < 64 ∧ dst ≠ 1 ∧ 0 ≤ next ∧ next < 64 ∧ next ≠ 1
  · obtain ⟨hl, hd0, hd1, hd2, hn0, hn1, hn2⟩ := hgood
    have hde : (dst == 1) = false := by simpa using hd2
    have hne : (next == 1) = false := by simpa using hn2
    have HN1 : Hid (nodeB dst = true) := hidd (by simp [nodeB, hd0, hd1])
    have HN2 : Hid (nodeB next = true) := hidd (by simp [nodeB, hn0, hn1])
    have nd0 : ¬ dst < 0 := by omega
    have nd1 : ¬ 64 ≤ dst := by omega
    have nn0 : ¬ next < 0 := by omega
    have nn1 : ¬ 64 ≤ next := by omega
    have nl : ¬ (60 : Int) < L.length := by omega
    clear hd2 hn2
    go_enter Try.func10, Try.ntmps10
    go_wp2_with fail
    refine (c33g 1 64 _ (by omega) (by omega) (by decide)).mono ?_
    rintro e w1 ⟨x, q, r, rfl, hA1, hx, hq, hr, hB1⟩
    obtain ⟨lx1, lq1, lr1⟩ := hA1.lt
    have HA1 := hidd hA1
    have HB1 := hidd hB1
    clear hA1 hB1
    go_wp2
    go_loopw [9, 10, 11] (fun v1 v2 i wr => ∃ (k : Nat) (R M : List Pk) (c' : Cn), k ≤ L.length ∧ M.length ≤ k ∧ i = .int .i64 k ∧ PAt wr x q r 64 0 R M 1 c' ∧ c'.le k ∧ (∀ p ∈ M, p.right = true) ∧ Rows2 w1.heap.size q r wr v1 v2 M dst ∧ Below w.heap.size w wr) (fun _ _ i _ => L.length - (intOf i).toNat)
    case atStart => exact ⟨0, _, [], Cn.zero, Nat.zero_le _, Nat.le_refl _, rfl, HA1.out, by constructor <;> decide, by simp, ⟨OwnPk.nil _ _, OwnPk.nil _ _, fun g hg => by simp [Value.ownBlock] at hg, Nat.le_refl _, lq1, lr1⟩, HB1.out⟩
    case round =>
      obtain ⟨k, R, M, c', hk, hMk, rfl, hA, hcle, hrt, hW, hb⟩ := hrel
      by_cases hlt : k < L.length
      · obtain ⟨p, hp⟩ : ∃ p, L[k]? = some p := ⟨_, List.getElem?_eq_getElem hlt⟩
        obtain ⟨b, o, rfl, hbl, hcells⟩ : ∃ b o, A = some ⟨b, o, none⟩ ∧ b < w.heap.size ∧ ∀ k p, L[k]? = some p → PkHere w b (o + k * 5) p := by
          rcases HR.out with h0 | h0
          · rw [h0] at hlt; exact absurd hlt (by simp)
          · exact h0
        have hc := hcells k p hp
        obtain ⟨c0, c1, c2, c3, c4⟩ := hc.keeps (Keeps.below (S := fun _ => False) hb) hbl (fun x => x)
        have HC := hidd hc
        have HA := hidd hA
        have HB := hidd hb
        have HW := hidd hW
        have HRT0 := hidd hrt
        clear hcells hp hA hb hW hc hrt
        by_cases hx6 : (p.x.size : Int) ≤ 600
        · cases hpr : p.right with
          | false =>
            have hdec := order_bad hpr 1 0 false
            obtain ⟨e1, e2, -⟩ := take_none 64 M c' hdec
            have HT : Hid (takeV 64 M p 1 0 false = ⟨0, 0, 0, 0, 0, 0, ⟨#[]⟩, 1⟩ ∧ takeL 64 M p 1 0 false = M) := hidd ⟨e1, e2⟩
            clear e1 e2 hdec hpr
            go_wp2_with fail
            refine (c34 HA.out hcle (by omega) p 0 false).mono ?_
            rw [HT.out.1, HT.out.2]
            rintro e w2 ⟨rfl, ⟨R2, hA2⟩, hK2⟩
            have HLE := hidd (takeC_le hcle 64 M p 1 0 false)
            generalize takeC c' 64 M p 1 0 false = c2 at hA2 HLE
            have hK2' := hK2.alloc (.cells #[.int .i64 0, .int .i64 0, .int .i64 0, .int .i64 0, .int .i64 0, .int .i64 0, .string ⟨#[]⟩] 25)
            have HA2 := hidd (hA2.below (Bl_alloc (Below.refl _ _) (.cells #[.int .i64 0, .int .i64 0, .int .i64 0, .int .i64 0, .int .i64 0, .int .i64 0, .string ⟨#[]⟩] 25)))
            have HW2 := hidd (HW.out.keepsP hK2' lx1)
            have HB2 := hidd (Bl_keepsP HB.out hK2' hx hq hr)
            clear hA2 hK2 hK2' HA HB HW
            unfold Ver.val
            go_wp2
            go_roundw
            case rel => exact ⟨k + 1, _, _, _, by omega, by omega, by go_num, HA2.out, HLE.out, HRT0.out, HW2.out, HB2.out⟩
            case measure => simp [intOf]; omega
          | true =>
            cases hd1 : p.d == 1 with
            | true =>
              have hdec := order_own hpr hd1
              obtain ⟨e1, e2, -⟩ := take_other (k := 1) 64 M c' (by omega) hdec
              have HT : Hid (takeV 64 M p 1 0 false = ⟨1, 0, p.s, p.d, p.t, p.n, p.x, 0⟩ ∧ takeL 64 M p 1 0 false = M) := hidd ⟨e1, e2⟩
              clear e1 e2 hdec hpr hd1
              go_wp2_with fail
              refine (c34 HA.out hcle (by omega) p 0 false).mono ?_
              rw [HT.out.1, HT.out.2]
              rintro e w2 ⟨rfl, ⟨R2, hA2⟩, hK2⟩
              have HLE := hidd (takeC_le hcle 64 M p 1 0 false)
              generalize takeC c' 64 M p 1 0 false = c2 at hA2 HLE
              have hK2' := hK2.alloc (.cells #[.int .i64 1, .int .i64 0, .int .i64 p.s, .int .i64 p.d, .int .i64 p.t, .int .i64 p.n, .string p.x] 25)
              have HA2 := hidd (hA2.below (Bl_alloc (Below.refl _ _) (.cells #[.int .i64 1, .int .i64 0, .int .i64 p.s, .int .i64 p.d, .int .i64 p.t, .int .i64 p.n, .string p.x] 25)))
              have HW2 := hidd (HW.out.keepsP hK2' lx1)
              have HB2 := hidd (Bl_keepsP HB.out hK2' hx hq hr)
              clear hA2 hK2 hK2' HA HB HW
              unfold Ver.val
              go_wp2
              go_roundw
              case rel => exact ⟨k + 1, _, _, _, by omega, by omega, by go_num, HA2.out, HLE.out, HRT0.out, HW2.out, HB2.out⟩
              case measure => simp [intOf]; omega
            | false =>
              have hdec := order_wait hpr hd1
              obtain ⟨e1, e2, -⟩ := take_wait (n := 64) (L := M) c' hdec (by omega)
              have HT : Hid (takeV 64 M p 1 0 false = ⟨3, 0, p.s, p.d, p.t, p.n, p.x, 0⟩ ∧ takeL 64 M p 1 0 false = M ++ [p]) := hidd ⟨e1, e2⟩
              have HRT : Hid (∀ u ∈ M ++ [p], u.right = true) := hidd (fun u hu => by
                rcases List.mem_append.1 hu with h | h
                · exact HRT0.out u h
                · simp at h; rw [h]; exact hpr)
              clear e1 e2 hdec hpr hd1
              go_wp2_with fail
              refine (c34 HA.out hcle (by omega) p 0 false).mono ?_
              rw [HT.out.1, HT.out.2]
              rintro e w2 ⟨rfl, ⟨R2, hA2⟩, hK2⟩
              have HLE := hidd (takeC_le hcle 64 M p 1 0 false)
              generalize takeC c' 64 M p 1 0 false = c2 at hA2 HLE
              have hK2' := hK2.alloc (.cells #[.int .i64 3, .int .i64 0, .int .i64 p.s, .int .i64 p.d, .int .i64 p.t, .int .i64 p.n, .string p.x] 25)
              have HA2 := hidd (hA2.below (Bl_alloc (Below.refl _ _) (.cells #[.int .i64 3, .int .i64 0, .int .i64 p.s, .int .i64 p.d, .int .i64 p.t, .int .i64 p.n, .string p.x] 25)))
              have HW2 := hidd (HW.out.keepsP hK2' lx1)
              have HB2 := hidd (Bl_keepsP HB.out hK2' hx hq hr)
              clear hA2 hK2 hK2' HA HB HW
              unfold Ver.val
              obtain ⟨d0, d1, d2, d3, d4⟩ := HC.out.keeps (Keeps.below (S := fun _ => False) HB2.out) hbl (fun x => x)
              have hcl := cntB_le M dst
              have hcl2 := cnt_split M dst
              have hml1 : (mine M dst).length ≤ 1000000 := by first | (rw [mine_length]; omega) | omega
              have hml2 : (others M dst).length ≤ 1000000 := by omega
              clear hcl hcl2
              have hbs := HW2.out.size
              cases hd : p.d == dst with
              | true =>
                have hml := hml1
                go_wp2_with (at_builtin; refine wpList_append_pk' rfl (.tmp 100) (.tmp 105) rfl w1.heap.size _ (mine M dst) rfl (HW2.out.o1.below (Bl_alloc (Below.refl _ _) _)) _ p rfl (by exact pkHere_at _ _ (by simp) p 23) hml (by exact Nat.le_trans hbs (Bl_alloc (Below.refl _ _) _).size) ?_; intro v' w3 hown' hg' hat')
                have hW3 := (HW2.out.keeps (Keeps.below (Bl_alloc (Below.refl _ _) (.cells #[.int .i64 p.s, .int .i64 p.d, .int .i64 p.t, .int .i64 p.n, .string p.x] 23)))).app1 hd hown' hg' hat'
                have hge : ∀ k, Value.ownBlock _ = some k → w.heap.size ≤ k := fun k hk' => Nat.le_trans HB1.out.size (HW2.out.o1.base hk')
                have hB3 := (Bl_alloc HB2.out (.cells #[.int .i64 p.s, .int .i64 p.d, .int .i64 p.t, .int .i64 p.n, .string p.x] 23)).grown hg' (Bl_alloc HB2.out _).size hge
                have hA3 := (HA2.out.below (Bl_alloc (Below.refl _ _) (.cells #[.int .i64 p.s, .int .i64 p.d, .int .i64 p.t, .int .i64 p.n, .string p.x] 23))).keeps (S := fun b => Value.ownBlock _ = some b) ((Keeps.refl _ _).grown hg' (fun k hk' => .inr hk')) (fun h => by have := HW2.out.o1.base h; omega) (fun h => by have := HW2.out.o1.base h; omega) (fun h => by have := HW2.out.o1.base h; omega)
                have HW3 := hidd hW3
                have HB3 := hidd hB3
                have HA3 := hidd hA3
                clear hown' hg' hat' hW3 hB3 hA3 hge
                go_wp2
                go_roundw
                case rel => exact ⟨k + 1, _, _, _, by omega, by rw [List.length_append, List.length_singleton]; omega, by go_num, HA3.out, HLE.out, HRT.out, HW3.out, HB3.out⟩
                case measure => simp [intOf]; omega
              | false =>
                have hml := hml2
                go_wp2_with (at_builtin; refine wpList_append_pk' rfl (.tmp 107) (.tmp 112) rfl w1.heap.size _ (others M dst) rfl (HW2.out.o2.below (Bl_alloc (Below.refl _ _) _)) _ p rfl (by exact pkHere_at _ _ (by simp) p 23) hml (by exact Nat.le_trans hbs (Bl_alloc (Below.refl _ _) _).size) ?_; intro v' w3 hown' hg' hat')
                have hW3 := (HW2.out.keeps (Keeps.below (Bl_alloc (Below.refl _ _) (.cells #[.int .i64 p.s, .int .i64 p.d, .int .i64 p.t, .int .i64 p.n, .string p.x] 23)))).app2 hd hown' hg' hat'
                have hge : ∀ k, Value.ownBlock _ = some k → w.heap.size ≤ k := fun k hk' => Nat.le_trans HB1.out.size (HW2.out.o2.base hk')
                have hB3 := (Bl_alloc HB2.out (.cells #[.int .i64 p.s, .int .i64 p.d, .int .i64 p.t, .int .i64 p.n, .string p.x] 23)).grown hg' (Bl_alloc HB2.out _).size hge
                have hA3 := (HA2.out.below (Bl_alloc (Below.refl _ _) (.cells #[.int .i64 p.s, .int .i64 p.d, .int .i64 p.t, .int .i64 p.n, .string p.x] 23))).keeps (S := fun b => Value.ownBlock _ = some b) ((Keeps.refl _ _).grown hg' (fun k hk' => .inr hk')) (fun h => by have := HW2.out.o2.base h; omega) (fun h => by have := HW2.out.o2.base h; omega) (fun h => by have := HW2.out.o2.base h; omega)
                have HW3 := hidd hW3
                have HB3 := hidd hB3
                have HA3 := hidd hA3
                clear hown' hg' hat' hW3 hB3 hA3 hge
                go_wp2
                go_roundw
                case rel => exact ⟨k + 1, _, _, _, by omega, by rw [List.length_append, List.length_singleton]; omega, by go_num, HA3.out, HLE.out, HRT.out, HW3.out, HB3.out⟩
                case measure => simp [intOf]; omega
        · go_wp2
          go_ret
          exact ⟨rfl, HB.out⟩
      · obtain ⟨wo, rfl⟩ : ∃ wo : World, wo = wr := ⟨_, rfl⟩
        have hcle' : c'.le 64 := Cn.le_mono hcle (by omega)
        have hg1 : ∀ g, Value.ownBlock _ = some g → ¬ InP x q r g := fun g hg hq' => by
          have h1 := hW.o1.base hg
          rcases hq' with rfl | rfl | rfl <;> omega
        have hg2 : ∀ g, Value.ownBlock _ = some g → ¬ InP x q r g := fun g hg hq' => by
          have h1 := hW.o2.base hg
          rcases hq' with rfl | rfl | rfl <;> omega
        have hR1 := hW.o1.rd
        have hR2 := hW.o2.rd
        have hcs := cnt_split M dst
        rw [← mine_length] at hcs
        have hs64 : (mine M dst).length ≤ 64 := by omega
        have ho64 : (others M dst).length ≤ 64 := by omega
        have HS : Hid (∀ p ∈ mine M dst, p.right = true ∧ p.d = dst) := hidd (fun p hp => ⟨hrt p (mine_mem hp).1, (mine_mem hp).2⟩)
        have HMO := hidd (mine_others M dst)
        have HOO := hidd (others_others M dst)
        have HA := hidd hA
        have HB := hidd hb
        have HR1 := hidd hR1
        have HR2 := hidd hR2
        have HG1 := hidd hg1
        have HG2 := hidd hg2
        have HCL := hidd hcle'
        clear hA hb hW hcs hR1 hR2 hg1 hg2 hrt hcle hcle' HR
        go_wp2_with fail
        refine (c35g HA.out HCL.out (by omega) dst next HN1.out HN2.out hde hne).mono ?_
        rintro e w3 ⟨v3, rfl, ho3, ⟨f3, R3, hA3⟩, hK3⟩
        have hrd3 := ho3.rd
        obtain ⟨A3, c3, rfl, hr3⟩ := hrd3
        have hr1 := HR1.out.keeps hK3 HG1.out
        have hr2 := HR2.out.keeps hK3 HG2.out
        have hle3 : (c'.adds (dvs 1 next (mine M dst))).le 200 := Cn.le_mono (Cn.adds_le HCL.out _) (by simp [dvs]; omega)
        generalize c'.adds (dvs 1 next (mine M dst)) = c4 at hA3 hle3
        generalize others M dst = O at *
        generalize hSS : mine M dst = S at *
        have HB3 := hidd (Bl_keepsP HB.out hK3 hx hq hr)
        rw [show (dvs 1 next S).length = S.length by simp [dvs]] at *
        obtain ⟨A1, c1, rfl, hrd1⟩ := hr1
        have HA3 := hidd hA3
        have HR3 := hidd hr3
        have HR1' := hidd hrd1
        have HR2' := hidd hr2
        have HL3 := hidd hle3
        clear ho3 hA3 hK3 hr3 hrd1 hr2 hle3 hSS HA HB HR1 HR2 HG1 HCL
        have hee : ((S.length : Int) != S.length) = false := by simp
        go_wp2
        go_loopw [16] (fun i wx => ∃ j : Nat, j ≤ S.length ∧ i = .int .i64 j ∧ Below w3.heap.size w3 wx) (fun i _ => S.length - (intOf i).toNat)
        case atStart => exact ⟨0, Nat.zero_le _, rfl, Below.refl _ _⟩
        case round =>
          obtain ⟨j, hj, rfl, hb⟩ := hrel
          obtain ⟨wx, rfl⟩ : ∃ wx : World, wx = wr := ⟨_, rfl⟩
          by_cases hjl : j < S.length
          · obtain ⟨p, hp⟩ : ∃ p, S[j]? = some p := ⟨_, List.getElem?_eq_getElem hjl⟩
            obtain ⟨hpr, hpd⟩ := HS.out p (List.mem_of_getElem? hp)
            obtain ⟨b1, o1, rfl, hbl1, hc1⟩ : ∃ b o, A1 = some ⟨b, o, none⟩ ∧ b < w3.heap.size ∧ ∀ k p, S[k]? = some p → PkHere w3 b (o + k * 5) p := by
              rcases HR1'.out with h0 | h0
              · rw [h0] at hjl; exact absurd hjl (by simp)
              · exact h0
            obtain ⟨b3, o3, rfl, hbl3, hc3⟩ : ∃ b o, A3 = some ⟨b, o, none⟩ ∧ b < w3.heap.size ∧ ∀ k p, (dvs 1 next S)[k]? = some p → VdHere w3 b (o + k * 7) p := by
              rcases HR3.out with h0 | h0
              · have := congrArg List.length h0; simp [dvs] at this; rw [this] at hjl; exact absurd hjl (by simp)
              · exact h0
            obtain ⟨g0, g1, g2, g3, g4⟩ := (hc1 j p hp).keeps (Keeps.below (S := fun _ => False) hb) hbl1 (fun x => x)
            have j0 : (0 : Int) ≤ j := by omega
            have j1 : (j : Int) < S.length := by omega
            obtain ⟨ht0, ht1⟩ := right_t hpr
            cases ht : p.t == 0 with
            | true =>
              have hu : decP p 1 next true = ⟨4, 0, p.s, p.d, p.t, p.n, p.x, 0⟩ := by rw [order_open hpr hpd hde HN2.out hne, ht]; rfl
              have hV : VdHere wx b3 (o3 + j * 7) ⟨4, 0, p.s, p.d, p.t, p.n, p.x, 0⟩ := by rw [← hu]; exact (hc3 j _ (by simp [dvs, hp])).keeps (Keeps.below (S := fun _ => False) hb) hbl3 (fun x => x)
              have f0 : wx.cell? ⟨b3, o3 + j * 7, none⟩ = some (.int .i64 4) := hV.1
              have f1 : wx.cell? ⟨b3, o3 + j * 7 + 1, none⟩ = some (.int .i64 0) := hV.2.1
              have f2 : wx.cell? ⟨b3, o3 + j * 7 + 2, none⟩ = some (.int .i64 p.s) := hV.2.2.1
              have f3 : wx.cell? ⟨b3, o3 + j * 7 + 3, none⟩ = some (.int .i64 p.d) := hV.2.2.2.1
              have f4 : wx.cell? ⟨b3, o3 + j * 7 + 4, none⟩ = some (.int .i64 p.t) := hV.2.2.2.2.1
              have f5 : wx.cell? ⟨b3, o3 + j * 7 + 5, none⟩ = some (.int .i64 p.n) := hV.2.2.2.2.2.1
              have f6 : wx.cell? ⟨b3, o3 + j * 7 + 6, none⟩ = some (.string p.x) := hV.2.2.2.2.2.2
              have HBx := hidd hb
              have lb3 : b3 < wx.heap.size := by have := hb.size; omega
              have lb1 : b1 < wx.heap.size := by have := hb.size; omega
              clear hV hu hb hc1 hc3 hp hpr hpd
              go_wp2_with fail
              go_quiet (fail)
              go_wp2
              go_roundw
              case rel => exact ⟨j + 1, by omega, by go_num, (Bl_alloc HBx.out _).drewN _⟩
              case measure => simp [intOf]; omega
            | false =>
              have htp : 0 < p.t := by
                have : p.t ≠ 0 := by simpa using ht
                omega
              have hu : decP p 1 next true = ⟨2, next, p.s, p.d, (p.t - 1), p.n, p.x, 0⟩ := by rw [order_open hpr hpd hde HN2.out hne, ht]; rfl
              have hV : VdHere wx b3 (o3 + j * 7) ⟨2, next, p.s, p.d, (p.t - 1), p.n, p.x, 0⟩ := by rw [← hu]; exact (hc3 j _ (by simp [dvs, hp])).keeps (Keeps.below (S := fun _ => False) hb) hbl3 (fun x => x)
              have f0 : wx.cell? ⟨b3, o3 + j * 7, none⟩ = some (.int .i64 2) := hV.1
              have f1 : wx.cell? ⟨b3, o3 + j * 7 + 1, none⟩ = some (.int .i64 next) := hV.2.1
              have f2 : wx.cell? ⟨b3, o3 + j * 7 + 2, none⟩ = some (.int .i64 p.s) := hV.2.2.1
              have f3 : wx.cell? ⟨b3, o3 + j * 7 + 3, none⟩ = some (.int .i64 p.d) := hV.2.2.2.1
              have f4 : wx.cell? ⟨b3, o3 + j * 7 + 4, none⟩ = some (.int .i64 (p.t - 1)) := hV.2.2.2.2.1
              have f5 : wx.cell? ⟨b3, o3 + j * 7 + 5, none⟩ = some (.int .i64 p.n) := hV.2.2.2.2.2.1
              have f6 : wx.cell? ⟨b3, o3 + j * 7 + 6, none⟩ = some (.string p.x) := hV.2.2.2.2.2.2
              have HBx := hidd hb
              have lb3 : b3 < wx.heap.size := by have := hb.size; omega
              have lb1 : b1 < wx.heap.size := by have := hb.size; omega
              clear hV hu hb hc1 hc3 hp hpr hpd
              go_wp2_with fail
              go_quiet (fail)
              go_wp2
              go_roundw
              case rel => exact ⟨j + 1, by omega, by go_num, (Bl_alloc HBx.out _).drewN _⟩
              case measure => simp [intOf]; omega
          · have HBx := hidd hb
            have HA4 := hidd (HA3.out.below hb)
            clear hb
            go_wp2_with fail
            refine (c35g HA4.out HL3.out (by omega) dst next HN1.out HN2.out hde hne).mono ?_
            rintro e w5 ⟨v5, rfl, ho5, ⟨f5, R5, hA5⟩, hK5⟩
            rw [HMO.out] at ho5 hA5
            rw [HOO.out] at hA5
            obtain ⟨A5, c5, e5, -⟩ := ho5.rd
            have e6 : v5 = .slice A5 0 c5 := e5
            subst e6
            have HA5 := hidd hA5
            have HB5 := hidd (Bl_keepsP (HB3.out.trans (HBx.out.mono HB3.out.size)) hK5 hx hq hr)
            have HR5 := hidd ((HR2'.out.below HBx.out).keeps hK5 HG2.out)
            clear ho5 hA5 hK5 e5
            go_wp2_with fail
            refine (c16 _).mono ?_
            rintro e w6 ⟨rfl, hb6⟩
            have HA6 := hidd (HA5.out.below hb6)
            have HB6 := hidd (Bl_then HB5.out hb6)
            have HR6 := hidd (HR5.out.below hb6)
            clear hb6
            go_wp2_with fail
            refine (c36 HA6.out).mono ?_
            rintro e w7 ⟨v7, rfl, ho7, hb7⟩
            have HO7 := hidd ho7
            have HB7 := hidd (Bl_then HB6.out hb7)
            have HR7 := hidd (HR6.out.below hb7)
            clear ho7 hb7
            go_wp2_with fail
            refine (c24 HO7.out.rd HR7.out (by omega)).mono ?_
            rintro e w8 ⟨rfl, nq8, rfl⟩
            go_wp2
            go_ret
            exact ⟨rfl, HB7.out.drewN _⟩
  · by_cases h0 : L.length ≤ 60
    · have f0 : ¬ (60 : Int) < L.length := by omega
      by_cases h1 : 0 ≤ dst
      · have f1 : ¬ dst < 0 := by omega
        by_cases h2 : dst < 64
        · have f2 : ¬ 64 ≤ dst := by omega
          by_cases h3 : dst ≠ 1
          · have f3 : (dst == 1) = false := by simpa using h3
            by_cases h4 : 0 ≤ next
            · have f4 : ¬ next < 0 := by omega
              by_cases h5 : next < 64
              · have f5 : ¬ 64 ≤ next := by omega
                by_cases h6 : next ≠ 1
                · have f6 : (next == 1) = false := by simpa using h6
                  exact absurd ⟨h0, h1, h2, h3, h4, h5, h6⟩ hgood
                · have f6 : (next == 1) = true := by simpa using h6
                  clear hgood h3 h6
                  go_enter Try.func10, Try.ntmps10
                  go_wp2_with fail
                  refine (c33g 1 64 _ (by omega) (by omega) (by decide)).mono ?_
                  rintro e w1 ⟨x, q, r, rfl, hA1, hx, hq, hr, hB1⟩
                  have HB1 := hidd hB1
                  clear hA1 hB1
                  go_wp2_with (go_at_call 16; refine (c16 _).mono ?_; rintro e w2 ⟨rfl, hb2⟩)
                  go_ret
                  exact ⟨rfl, Bl_then HB1.out hb2⟩
              · have f5 : 64 ≤ next := by omega
                clear hgood h3
                go_enter Try.func10, Try.ntmps10
                go_wp2_with fail
                refine (c33g 1 64 _ (by omega) (by omega) (by decide)).mono ?_
                rintro e w1 ⟨x, q, r, rfl, hA1, hx, hq, hr, hB1⟩
                have HB1 := hidd hB1
                clear hA1 hB1
                go_wp2_with (go_at_call 16; refine (c16 _).mono ?_; rintro e w2 ⟨rfl, hb2⟩)
                go_ret
                exact ⟨rfl, Bl_then HB1.out hb2⟩
            · have f4 : next < 0 := by omega
              clear hgood h3
              go_enter Try.func10, Try.ntmps10
              go_wp2_with fail
              refine (c33g 1 64 _ (by omega) (by omega) (by decide)).mono ?_
              rintro e w1 ⟨x, q, r, rfl, hA1, hx, hq, hr, hB1⟩
              have HB1 := hidd hB1
              clear hA1 hB1
              go_wp2_with (go_at_call 16; refine (c16 _).mono ?_; rintro e w2 ⟨rfl, hb2⟩)
              go_ret
              exact ⟨rfl, Bl_then HB1.out hb2⟩
          · have f3 : (dst == 1) = true := by simpa using h3
            clear hgood h3
            go_enter Try.func10, Try.ntmps10
            go_wp2_with fail
            refine (c33g 1 64 _ (by omega) (by omega) (by decide)).mono ?_
            rintro e w1 ⟨x, q, r, rfl, hA1, hx, hq, hr, hB1⟩
            have HB1 := hidd hB1
            clear hA1 hB1
            go_wp2_with (go_at_call 16; refine (c16 _).mono ?_; rintro e w2 ⟨rfl, hb2⟩)
            go_ret
            exact ⟨rfl, Bl_then HB1.out hb2⟩
        · have f2 : 64 ≤ dst := by omega
          clear hgood
          go_enter Try.func10, Try.ntmps10
          go_wp2_with fail
          refine (c33g 1 64 _ (by omega) (by omega) (by decide)).mono ?_
          rintro e w1 ⟨x, q, r, rfl, hA1, hx, hq, hr, hB1⟩
          have HB1 := hidd hB1
          clear hA1 hB1
          go_wp2_with (go_at_call 16; refine (c16 _).mono ?_; rintro e w2 ⟨rfl, hb2⟩)
          go_ret
          exact ⟨rfl, Bl_then HB1.out hb2⟩
      · have f1 : dst < 0 := by omega
        clear hgood
        go_enter Try.func10, Try.ntmps10
        go_wp2_with fail
        refine (c33g 1 64 _ (by omega) (by omega) (by decide)).mono ?_
        rintro e w1 ⟨x, q, r, rfl, hA1, hx, hq, hr, hB1⟩
        have HB1 := hidd hB1
        clear hA1 hB1
        go_wp2_with (go_at_call 16; refine (c16 _).mono ?_; rintro e w2 ⟨rfl, hb2⟩)
        go_ret
        exact ⟨rfl, Bl_then HB1.out hb2⟩
    · have f0 : (60 : Int) < L.length := by omega
      clear hgood
      go_enter Try.func10, Try.ntmps10
      go_wp2_with fail
      refine (c33g 1 64 _ (by omega) (by omega) (by decide)).mono ?_
      rintro e w1 ⟨x, q, r, rfl, hA1, hx, hq, hr, hB1⟩
      have HB1 := hidd hB1
      clear hA1 hB1
      go_wp2_with (go_at_call 16; refine (c16 _).mono ?_; rintro e w2 ⟨rfl, hb2⟩)
      go_ret
      exact ⟨rfl, Bl_then HB1.out hb2⟩
end Go.Proofs.Ytnlcibobhmcfpaa
