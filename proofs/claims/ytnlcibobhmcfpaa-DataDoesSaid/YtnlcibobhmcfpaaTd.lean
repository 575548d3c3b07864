/- The walk of data.Open. -/
import Derived.Test.YtnlcibobhmcfpaaTc
import Derived.Deep.DeepCutAuto
set_option linter.unusedSimpArgs false
set_option linter.unusedVariables false
namespace Go.Proofs.Ytnlcibobhmcfpaa
open Go.RowKit
attribute [local go_sem ↓] Go.wp_at_zero Go.wp_at_succ
theorem c35b {w : World} {x q r n f : Nat} {R L : List Pk} {me : Int} {c : Cn} (h : PAt w x q r n f R L me c) (dst next : Int) (hb : nodeB dst = false ∨ nodeB next = false ∨ dst = me ∨ next = me) :
    Calls Try.prog 35 #[.pointer (some ⟨x, 0, none⟩), .int .i64 dst, .int .i64 next] w fun e w' => e = .returned (.tuple #[.slice none 0 0, .int .i64 1]) ∧ w = w' := by
  have h0 := h.x0
  clear h
  cases h1 : nodeB dst with
  | false =>
    have H1 := hidd h1
    clear h1 hb
    go_enter Try.func35, Try.ntmps35
    go_wp2_with (go_at_call 46; refine (c46 _ _).mono ?_; rintro e w' ⟨rfl, rfl⟩; rw [H1.out])
    go_ret2
    exact ⟨rfl, rfl⟩
  | true =>
    have H1 := hidd h1
    cases h2 : nodeB next with
    | false =>
      have H2 := hidd h2
      clear h1 h2 hb
      go_enter Try.func35, Try.ntmps35
      go_wp2_with (go_at_call 46; refine (c46 _ _).mono ?_; rintro e w' ⟨rfl, rfl⟩; first | rw [H1.out] | rw [H2.out])
      go_ret2
      exact ⟨rfl, rfl⟩
    | true =>
      have H2 := hidd h2
      by_cases h3 : dst = me
      · subst h3
        have h4 : (dst == dst) = true := by simp
        clear h1 h2 hb
        go_enter Try.func35, Try.ntmps35
        go_wp2_with (go_at_call 46; refine (c46 _ _).mono ?_; rintro e w' ⟨rfl, rfl⟩; first | rw [H1.out] | rw [H2.out])
        go_ret2
        exact ⟨rfl, rfl⟩
      · have h5 : next = me := by
          rcases hb with hb | hb | hb | hb
          · rw [h1] at hb; cases hb
          · rw [h2] at hb; cases hb
          · exact absurd hb h3
          · exact hb
        subst h5
        have h3' : (dst == next) = false := by simpa using h3
        clear h1 h2 hb h3
        go_enter Try.func35, Try.ntmps35
        go_wp2_with (go_at_call 46; refine (c46 _ _).mono ?_; rintro e w' ⟨rfl, rfl⟩; first | rw [H1.out] | rw [H2.out])
        go_ret2
        exact ⟨rfl, rfl⟩
def Cn.adds (c : Cn) (V : List Ver) : Cn := V.foldl (fun c u => c.inc u.kind) c
theorem Cn.adds_snoc (c : Cn) (V : List Ver) (u : Ver) : c.adds (V ++ [u]) = (c.adds V).inc u.kind := by simp [Cn.adds]
theorem Cn.adds_le {c : Cn} {m : Nat} (h : c.le m) (V : List Ver) : (c.adds V).le (m + V.length) := by
  induction V generalizing c m with
  | nil => exact h
  | cons u V ih =>
    have := ih (Cn.le_inc h u.kind)
    simp only [List.length_cons]
    rw [show m + (V.length + 1) = m + 1 + V.length by omega]
    exact this
def dvs (me next : Int) (L : List Pk) : List Ver := L.map fun p => decP p me next true
theorem decP_form (p : Pk) (me next : Int) (ok : Bool) : ∃ (k : Nat) (tt s' d' t' n' : Int) (x' : ByteArray) (err : Int), k < 6 ∧ decP p me next ok = ⟨k, tt, s', d', t', n', x', err⟩ := by
  rcases dec_cases p.s p.d p.t p.n p.x me next ok with h | ⟨_, h⟩ | ⟨k, tt, t', hk, _, _, _, _, h⟩
  · exact ⟨0, _, _, _, _, _, _, _, by omega, h⟩
  · exact ⟨3, _, _, _, _, _, _, _, by omega, h⟩
  · exact ⟨k, _, _, _, _, _, _, _, hk, h⟩
def lenOf : Value → Nat
  | .slice _ n _ => n
  | _ => 0
structure OpenAt (w : World) (x q r n : Nat) (me next dst : Int) (c : Cn) (L : List Pk) (v pv ev : Value) (wr : World) (V : List Ver) (M : List Pk) (cur : Pk) (err : Int) (f' : Nat) (R' : List Pk) (b : Nat) : Prop where
  hp : pv = .pointer (some ⟨b, 0, none⟩)
  he : ev = .int .i64 err
  hb : wr.heap[b]? = some (.cells #[.int .i64 cur.s, .int .i64 cur.d, .int .i64 cur.t, .int .i64 cur.n, .string cur.x] 23 (0, 0))
  hwb : w.heap.size ≤ b
  ho : OwnVd wr w.heap.size v V
  hA : PAt wr x q r n f' R' M me (c.adds V)
  hnb : ∀ g, v.ownBlock = some g → g ≠ b
  hK : Keeps (InP x q r) w wr
  hoth : others M dst = others L dst
  st : (err = 0 ∧ V ++ dvs me next (cur :: mine M dst) = dvs me next (mine L dst)) ∨ (err = 7 ∧ V = dvs me next (mine L dst) ∧ mine M dst = [])
def OpenRel (w : World) (x q r n : Nat) (me next dst : Int) (c : Cn) (L : List Pk) (v pv ev : Value) (wr : World) : Prop :=
  ∃ V M cur err f' R' b, OpenAt w x q r n me next dst c L v pv ev wr V M cur err f' R' b
theorem InP_ge {x q r B g : Nat} (h : InP x q r g) (hx : x < B) (hq : q < B) (hr : r < B) : g < B := by
  rcases h with rfl | rfl | rfl <;> assumption
/-- A round of Open. -/
theorem open_step {w wr w4 w5 w6 : World} {x q r n f' f2 k : Nat} {me next dst err2 : Int} {c : Cn} {L M M2 R' R2 : List Pk} {V : List Ver} {u : Ver} {cur cur2 : Pk} {v v' : Value} {O : Obj}
    (lx : x < w.heap.size) (lq : q < w.heap.size) (lr : r < w.heap.size) (hK : Keeps (InP x q r) w wr) (hK4 : Keeps (InP x q r) wr w4) (hA4 : PAt w4 x q r n f' R' M me ((c.adds V).inc k))
    (hu : u = decP cur me next true) (hk : u.kind = k) (hbase : ∀ g, v.ownBlock = some g → w.heap.size ≤ g) (hO5 : OwnVd w5 w.heap.size v' (V ++ [u])) (hG5 : (w4.alloc O).grownBy w5 v.ownBlock)
    (hQ6 : QAt w6 q r n f2 R2 M2) (hP6 : Pop M dst cur2 err2 M2) (hK6 : Keeps (InQ q r) (w5.alloc (.cells #[.int .i64 cur.s, .int .i64 cur.d, .int .i64 cur.t, .int .i64 cur.n, .string cur.x] 23)) w6)
    (hoth : others M dst = others L dst) (st : V ++ dvs me next (cur :: mine M dst) = dvs me next (mine L dst)) :
    OpenRel w x q r n me next dst c L v' (.pointer (some ⟨w5.heap.size, 0, none⟩)) (.int .i64 err2) (((((w6.setCell ⟨w5.heap.size, 0, none⟩ (.int .i64 cur2.s)).setCell ⟨w5.heap.size, 1, none⟩ (.int .i64 cur2.d)).setCell ⟨w5.heap.size, 2, none⟩ (.int .i64 cur2.t)).setCell ⟨w5.heap.size, 3, none⟩ (.int .i64 cur2.n)).setCell ⟨w5.heap.size, 4, none⟩ (.string cur2.x)) := by
  have hz : w.heap.size ≤ w4.heap.size := (hK.trans hK4).size
  have hz5 : w4.heap.size + 1 ≤ w5.heap.size := by have := hG5.size; simpa using this
  have hK5 : Keeps (InP x q r) w w5 := ((hK.trans hK4).alloc O).grown hG5 (fun g hg => .inl (hbase g hg))
  have hK45 : Keeps (fun g => v.ownBlock = some g) w4 w5 := ((Keeps.refl _ w4).alloc O).grown hG5 (fun g hg => .inr hg)
  have hA5 : PAt w5 x q r n f' R' M me ((c.adds V).inc k) := hA4.keeps hK45 (fun e => by have := hbase _ e; omega) (fun e => by have := hbase _ e; omega) (fun e => by have := hbase _ e; omega)
  have hT6 := hK6.heapAt (heap_new w5 _) (by rintro (h | h) <;> omega)
  have hX6 := hK6.heapAt (heap_alloc hA5.hx _) (by rintro (h | h); exact hA4.nq h; exact hA4.nr h)
  have hO6 : OwnVd w6 w.heap.size v' (V ++ [u]) := (hO5.below (Bl_alloc (Below.refl _ _) _)).keeps hK6 (fun g hg => by have := hO5.base hg; rintro (h | h) <;> omega)
  have hK56 : Keeps (InP x q r) w w6 := (hK5.alloc _).trans (hK6.mono (fun _ _ h => .inr h))
  have hF : Keeps (fun g => g = w5.heap.size) w6 _ := five_keeps w6 w5.heap.size (.int .i64 cur2.s) (.int .i64 cur2.d) (.int .i64 cur2.t) (.int .i64 cur2.n) (.string cur2.x) rfl
  have hA6 : PAt w6 x q r n f2 R2 M2 me ((c.adds V).inc k) := ⟨hX6, hQ6, hA4.nq, hA4.nr⟩
  have hlt5 : ∀ g, v'.ownBlock = some g → g < w5.heap.size := by
    obtain ⟨A, cc, e, hl⟩ := hO5.form
    exact hl
  refine ⟨V ++ [u], M2, cur2, err2, f2, R2, w5.heap.size, rfl, rfl, ?_, by omega, ?_, ?_, fun g hg => by have := hlt5 g hg; omega, ?_, ?_, ?_⟩
  · exact heap_set (heap_set (heap_set (heap_set (heap_set hT6 0 _) 1 _) 2 _) 3 _) 4 _
  · exact hO6.keeps hF (fun g hg => by have := hlt5 g hg; omega)
  · rw [Cn.adds_snoc, hk]
    exact hA6.keeps hF (by omega) (by omega) (by omega)
  · exact ((((hK56.setCell (.inl (show w.heap.size ≤ w5.heap.size by omega)) _).setCell (.inl (show w.heap.size ≤ w5.heap.size by omega)) _).setCell (.inl (show w.heap.size ≤ w5.heap.size by omega)) _).setCell (.inl (show w.heap.size ≤ w5.heap.size by omega)) _).setCell (.inl (show w.heap.size ≤ w5.heap.size by omega)) _
  · rcases hP6 with ⟨_, _, h, _⟩ | ⟨_, _, h, _⟩
    · rw [h, hoth]
    · rw [h, hoth]
  · rcases hP6 with ⟨he, h, _⟩ | ⟨he, _, e, h⟩
    · refine .inl ⟨he, ?_⟩
      rw [← st, h, hu]
      simp [dvs]
    · refine .inr ⟨he, ?_, by rw [e]; exact h⟩
      rw [← st, h, hu]
      simp [dvs]
theorem mine_nil_others {L : List Pk} {dst : Int} (h : mine L dst = []) : others L dst = L := (mine_nil h).2
theorem Cn.get_le {c : Cn} {m : Nat} (h : c.le m) (k : Nat) : c.get k ≤ m := by
  obtain ⟨a0, a1, a2, a3, a4, a5⟩ := h
  unfold Cn.get
  split <;> omega
set_option maxRecDepth 100000 in
set_option maxHeartbeats 2000000 in
theorem c35g {w : World} {x q r n f : Nat} {R L : List Pk} {me : Int} {c : Cn} (h : PAt w x q r n f R L me c) {m : Nat} (hc : c.le m) (hm : m ≤ 900000) (dst next : Int) (h1 : nodeB dst = true) (h2 : nodeB next = true) (h3 : (dst == me) = false) (h4 : (next == me) = false) :
    Calls Try.prog 35 #[.pointer (some ⟨x, 0, none⟩), .int .i64 dst, .int .i64 next] w fun e w' => ∃ v, e = .returned (.tuple #[v, .int .i64 0]) ∧ OwnVd w' w.heap.size v (dvs me next (mine L dst)) ∧ (∃ f' R', PAt w' x q r n f' R' (others L dst) me (c.adds (dvs me next (mine L dst)))) ∧ Keeps (InP x q r) w w' := by
  have hx0 := h.x0
  have hx1 := h.x1
  have hL : L.length ≤ 64 := Nat.le_trans h.hQ.hL h.hQ.n64
  obtain ⟨l0, l1, l2⟩ := h.lt
  have H1 := hidd h1
  have H2 := hidd h2
  have HA := hidd h
  have HC := hidd hc
  have nxq := h.nq
  have nxr := h.nr
  clear h1 h2 h hc
  go_enter Try.func35, Try.ntmps35
  go_wp2_with (go_at_call 46; refine (c46 _ _).mono ?_; rintro e w' ⟨rfl, rfl⟩; first | rw [H1.out] | rw [H2.out])
  go_wp2_with fail
  refine (c23u HA.out.hQ dst).mono ?_
  rintro e w1 ⟨cur, err, M, rfl, ⟨f1, R1, hQ1⟩, hP, hK1⟩
  have hX1 := hK1.heapAt HA.out.hx (by rintro (h | h); exact nxq h; exact nxr h)
  have hR : OpenRel w x q r n me next dst c L (.slice none 0 0) (.pointer (some ⟨w1.heap.size, 0, none⟩)) (.int .i64 err) (w1.alloc (.cells #[.int .i64 cur.s, .int .i64 cur.d, .int .i64 cur.t, .int .i64 cur.n, .string cur.x] 23)) := by
    refine ⟨[], M, cur, err, f1, R1, _, rfl, rfl, heap_new _ _, hK1.size, OwnVd.nil _ _, (PAt.mk hX1 hQ1 nxq nxr).below (Bl_alloc (Below.refl _ _) _), (fun g hg => by simp [Value.ownBlock] at hg), (hK1.mono (fun _ _ h => .inr h)).alloc _, ?_, ?_⟩
    · rcases hP with ⟨_, _, h, _⟩ | ⟨_, _, h, _⟩
      · exact h
      · rw [h]
    · rcases hP with ⟨he, h, _⟩ | ⟨he, _, e, h⟩
      · exact .inl ⟨he, by rw [h]; rfl⟩
      · exact .inr ⟨he, by rw [h]; rfl, by rw [e]; exact h⟩
  have HR := hidd hR
  clear hQ1 hP hK1 hX1 hR hx0 hx1
  unfold Pk.val
  go_wp2
  go_loopw [8, 9, 10] (fun v pv ev wr => OpenRel w x q r n me next dst c L v pv ev wr) (fun v _ _ _ => L.length + 1 - lenOf v)
  case atStart => exact HR.out
  case round =>
    clear HR HA
    obtain ⟨V, M, cur, err, f', R', b, ho⟩ := hrel
    obtain ⟨rfl, rfl, hb, hwb, hov, hA, hnb, hK, hoth, st⟩ := ho
    rcases st with ⟨rfl, st⟩ | ⟨rfl, rfl, hm0⟩
    · have hlen : V.length + 1 + (mine M dst).length = (mine L dst).length := by
        have := congrArg List.length st
        simp [dvs] at this
        omega
      have hmL := mine_le L dst
      have hVl : V.length ≤ 64 := by omega
      obtain ⟨k, tt, s', d', t', n', x', err, hk, hv⟩ := decP_form cur me next true
      have hv' : decide22 cur.s cur.d cur.t cur.n cur.x me next true = ⟨k, tt, s', d', t', n', x', err⟩ := hv
      have HV := hidd hv'
      have HD := hidd hv
      have hg : (c.adds V).get k ≤ 1000000 := by
        have := Cn.get_le (Cn.adds_le HC.out V) k
        omega
      have m0 := hA.x0
      have m1 : wr.cell? ⟨b, 0, none⟩ = some (.int .i64 cur.s) := cell_of_heap hb 0
      have m2 : wr.cell? ⟨b, 1, none⟩ = some (.int .i64 cur.d) := cell_of_heap hb 1
      have m3 : wr.cell? ⟨b, 2, none⟩ = some (.int .i64 cur.t) := cell_of_heap hb 2
      have m4 : wr.cell? ⟨b, 3, none⟩ = some (.int .i64 cur.n) := cell_of_heap hb 3
      have m5 : wr.cell? ⟨b, 4, none⟩ = some (.string cur.x) := cell_of_heap hb 4
      have lb : b < wr.heap.size := (Array.getElem?_eq_some_iff.1 hb).1
      obtain ⟨lx, lq, lr⟩ := hA.lt
      have nx : wr.heap.size ≠ x := by omega
      have nw : wr.heap.size ≠ b := by omega
      have nbx : b ≠ x := by omega
      have nxb : x ≠ b := by omega
      have ki0 : (0 : Int) ≤ k := by omega
      have ki1 : (k : Int) < 6 := by omega
      have hz := hK.size
      have HO := hidd hov
      have HNB := hidd hnb
      have HA := hidd hA
      have HK := hidd hK
      have HB := hidd hb
      have HST := hidd st
      have HOT := hidd hoth
      have HL := hidd hlen
      clear hov hnb hA hK hb st hoth hv hv' hlen
      go_wp2_with fail
      go_cut [11, 12] (fun p11 e12 wx => Vd wr k tt s' d' t' n' x' err p11 e12 wx)
      case first =>
        go_region_held3 (fun w' => w'.cell? ⟨x, 0, none⟩ = some (.int .i64 me) ∧ w'.cell? ⟨b, 0, none⟩ = some (.int .i64 cur.s) ∧ w'.cell? ⟨b, 1, none⟩ = some (.int .i64 cur.d) ∧ w'.cell? ⟨b, 2, none⟩ = some (.int .i64 cur.t) ∧ w'.cell? ⟨b, 3, none⟩ = some (.int .i64 cur.n) ∧ w'.cell? ⟨b, 4, none⟩ = some (.string cur.x)) (refine ⟨?_, ?_, ?_, ?_, ?_, ?_⟩ <;> (repeat (first | with_reducible assumption | (with_reducible refine drew_cell ?_) | (with_reducible refine alloc_cell ?_) | (with_reducible refine setc_cell ?_ (by with_reducible assumption)))))
          (first | (go_at_call 14; refine (c14b _ _ _ _ _ _ _ _ _ _ _ _ _ _ _ _ _ HV.out).mono ?_; rintro e w2 ⟨rfl, hb⟩; (have t0 : w2.cell? ⟨x, 0, none⟩ = some (.int .i64 me) := (hb.cell (p := ⟨x, 0, none⟩) (by first | (simp; done) | (simp; omega))).trans (by first | exact m0 | (exact alloc_cell m0))); (have t1 : w2.cell? ⟨b, 0, none⟩ = some (.int .i64 cur.s) := (hb.cell (p := ⟨b, 0, none⟩) (by first | (simp; done) | (simp; omega))).trans (by first | exact m1 | (exact alloc_cell m1))); (have t2 : w2.cell? ⟨b, 1, none⟩ = some (.int .i64 cur.d) := (hb.cell (p := ⟨b, 1, none⟩) (by first | (simp; done) | (simp; omega))).trans (by first | exact m2 | (exact alloc_cell m2))); (have t3 : w2.cell? ⟨b, 2, none⟩ = some (.int .i64 cur.t) := (hb.cell (p := ⟨b, 2, none⟩) (by first | (simp; done) | (simp; omega))).trans (by first | exact m3 | (exact alloc_cell m3))); (have t4 : w2.cell? ⟨b, 3, none⟩ = some (.int .i64 cur.n) := (hb.cell (p := ⟨b, 3, none⟩) (by first | (simp; done) | (simp; omega))).trans (by first | exact m4 | (exact alloc_cell m4))); (have t5 : w2.cell? ⟨b, 4, none⟩ = some (.string cur.x) := (hb.cell (p := ⟨b, 4, none⟩) (by first | (simp; done) | (simp; omega))).trans (by first | exact m5 | (exact alloc_cell m5))); (try (have hzz : wr.heap.size < wr.heap.size + 1 := (by omega); have zl := hb.size; have zc : w2.heap[wr.heap.size]? = some (.cells #[.int .i64 0, .int .i64 0, .int .i64 0, .int .i64 0, .int .i64 0, .int .i64 0, .string ⟨#[]⟩] 25 (0, 0)) := (hb.block wr.heap.size (by first | (simp; done))).trans (heap_new wr _); (have z0 : w2.cell? ⟨wr.heap.size, 0, none⟩ = some (.int .i64 0) := cell_of_heap zc 0); (have z1 : w2.cell? ⟨wr.heap.size, 1, none⟩ = some (.int .i64 0) := cell_of_heap zc 1); (have z2 : w2.cell? ⟨wr.heap.size, 2, none⟩ = some (.int .i64 0) := cell_of_heap zc 2); (have z3 : w2.cell? ⟨wr.heap.size, 3, none⟩ = some (.int .i64 0) := cell_of_heap zc 3); (have z4 : w2.cell? ⟨wr.heap.size, 4, none⟩ = some (.int .i64 0) := cell_of_heap zc 4); (have z5 : w2.cell? ⟨wr.heap.size, 5, none⟩ = some (.int .i64 0) := cell_of_heap zc 5); (have z6 : w2.cell? ⟨wr.heap.size, 6, none⟩ = some (.string ⟨#[]⟩) := cell_of_heap zc 6); (have f0 : w2.frozen? ⟨wr.heap.size, 0, none⟩ = false := free_of_heap zc 0); (have f1 : w2.frozen? ⟨wr.heap.size, 1, none⟩ = false := free_of_heap zc 1); (have f2 : w2.frozen? ⟨wr.heap.size, 2, none⟩ = false := free_of_heap zc 2); (have f3 : w2.frozen? ⟨wr.heap.size, 3, none⟩ = false := free_of_heap zc 3); (have f4 : w2.frozen? ⟨wr.heap.size, 4, none⟩ = false := free_of_heap zc 4); (have f5 : w2.frozen? ⟨wr.heap.size, 5, none⟩ = false := free_of_heap zc 5); (have f6 : w2.frozen? ⟨wr.heap.size, 6, none⟩ = false := free_of_heap zc 6); (have HZC := hidd zc); clear zc)); (have HB2 := hidd hb); clear hb))
        all_goals (go_wp2_with fail; go_meet)
        · exact vd_one (Bl_drew HB2.out)
        · exact vd_two HZC.out HB2.out
      case rest =>
        obtain ⟨b2, rfl, rfl, hz2, hWb, hB2⟩ := hcut
        have HB2 := hidd hB2
        have HP2 := hidd ((Keeps.below (S := fun _ => False) hB2).heapAt HB.out (fun x => x))
        have HY := hidd hz2
        have lb2 : b2 < wc.heap.size := (Array.getElem?_eq_some_iff.1 hz2).1
        have HA2 := hidd (HA.out.below hB2)
        have x2 := HA2.out.cnt hk
        have xf := free_of_heap HA2.out.hx (2 + k)
        have lxc : x < wc.heap.size := HA2.out.lt.1
        have nxb2 : x ≠ b2 := by omega
        have nb2x : b2 ≠ x := by omega
        have HO2 := hidd (HO.out.below hB2)
        clear hz2 hB2 m0 m1 m2 m3 m4 m5
        have y0 : wc.cell? ⟨b2, 0, none⟩ = some (.int .i64 k) := cell_of_heap HY.out 0
        have y1 : wc.cell? ⟨b2, 1, none⟩ = some (.int .i64 tt) := cell_of_heap HY.out 1
        have y2 : wc.cell? ⟨b2, 2, none⟩ = some (.int .i64 s') := cell_of_heap HY.out 2
        have y3 : wc.cell? ⟨b2, 3, none⟩ = some (.int .i64 d') := cell_of_heap HY.out 3
        have y4 : wc.cell? ⟨b2, 4, none⟩ = some (.int .i64 t') := cell_of_heap HY.out 4
        have y5 : wc.cell? ⟨b2, 5, none⟩ = some (.int .i64 n') := cell_of_heap HY.out 5
        have y6 : wc.cell? ⟨b2, 6, none⟩ = some (.string x') := cell_of_heap HY.out 6
        go_wp2_with fail
        go_region_held3 (fun w' => w'.cell? ⟨b2, 0, none⟩ = some (.int .i64 k)) (first | (with_reducible assumption) | (with_reducible refine drew_cell ?_; assumption) | go_keep)
          (first | (go_at_call 54; refine (c54 x (2 + k) ((c.adds V).get k) _ (by assumption) (by assumption) (by omega) (by omega)).mono ?_; rintro e w4 ⟨rfl, rfl⟩))
        go_upto_region 11 with fail
        generalize hw4 : World.drew (World.setCell _ _ _) = w4
        have hK4 : Keeps (InP x q r) wr w4 := hw4 ▸ ((Keeps.below HB2.out).trans (HA2.out.count hk).2).drew
        have hA4 : PAt w4 x q r n f' R' M me ((c.adds V).inc k) := hw4 ▸ (HA2.out.count hk).1.drew
        have hY4 : w4.heap[b2]? = some (.cells #[.int .i64 k, .int .i64 tt, .int .i64 s', .int .i64 d', .int .i64 t', .int .i64 n', .string x'] 25 (0, 0)) := hw4 ▸ heap_set_ne (w := wc) HY.out nb2x _ _
        have hP4 : w4.heap[b]? = some (.cells #[.int .i64 cur.s, .int .i64 cur.d, .int .i64 cur.t, .int .i64 cur.n, .string cur.x] 23 (0, 0)) := hw4 ▸ heap_set_ne (w := wc) HP2.out nbx _ _
        have hO4 : OwnVd w4 w.heap.size u8 V := hw4 ▸ HO2.out.keeps (((Keeps.refl (fun g => g = x) wc).setCell (.inr rfl) _).drew) (fun g hg e => by have := HO2.out.base hg; omega)
        have hz4 : wr.heap.size ≤ w4.heap.size := hK4.size
        clear hw4 y0 y1 y2 y3 y4 y5 y6 x2 xf
        have lb4 : b2 < w4.heap.size := (Array.getElem?_eq_some_iff.1 hY4).1
        have lbp4 : b < w4.heap.size := (Array.getElem?_eq_some_iff.1 hP4).1
        have HK4 := hidd hK4
        have HA4 := hidd hA4
        have HP4 := hidd hP4
        have HO4 := hidd hO4
        have y0 : w4.cell? ⟨b2, 0, none⟩ = some (.int .i64 k) := cell_of_heap hY4 0
        have y1 : w4.cell? ⟨b2, 1, none⟩ = some (.int .i64 tt) := cell_of_heap hY4 1
        have y2 : w4.cell? ⟨b2, 2, none⟩ = some (.int .i64 s') := cell_of_heap hY4 2
        have y3 : w4.cell? ⟨b2, 3, none⟩ = some (.int .i64 d') := cell_of_heap hY4 3
        have y4 : w4.cell? ⟨b2, 4, none⟩ = some (.int .i64 t') := cell_of_heap hY4 4
        have y5 : w4.cell? ⟨b2, 5, none⟩ = some (.int .i64 n') := cell_of_heap hY4 5
        have y6 : w4.cell? ⟨b2, 6, none⟩ = some (.string x') := cell_of_heap hY4 6
        clear hK4 hA4 hP4 hO4 hY4
        go_wp2_with (at_builtin; refine wpList_append_vd rfl (.tmp 78) (.tmp 80) rfl w.heap.size u8 V rfl (HO4.out.below (Bl_alloc (Below.refl _ _) _)) w4.heap.size ⟨k, tt, s', d', t', n', x', err⟩ rfl ?_ ?_ ?_ ?_; (intro i hi; rw [cell_of_heap (heap_new w4 _) i]; simp [Ver.cells]); (omega); (have := (Bl_alloc (Below.refl w4.heap.size w4) (.cells #[.int .i64 k, .int .i64 tt, .int .i64 s', .int .i64 d', .int .i64 t', .int .i64 n', .string x'] 25)).size; omega); intro v' w5 hown5 hg5; (have HO5 := hidd hown5); (have HG5 := hidd hg5); (have hK5 : Keeps (fun g => u8.ownBlock = some g) w4 w5 := ((Keeps.refl _ w4).alloc _).grown hg5 (fun i hi => .inr hi)); (have HP5 := hidd (hK5.heapAt HP4.out (fun e => HNB.out _ e rfl))); (have HA5 := hidd (HA4.out.keeps hK5 (fun e => by have := HO4.out.base e; omega) (fun e => by have := HO4.out.base e; omega) (fun e => by have := HO4.out.base e; omega))); (have lb5 : b < w5.heap.size := (Array.getElem?_eq_some_iff.1 HP5.out).1); (have x1 := HA5.out.x1); (have lx5 : x < w5.heap.size := HA5.out.lt.1); (have p0 : w5.cell? ⟨b, 0, none⟩ = some (.int .i64 cur.s) := cell_of_heap HP5.out 0); (have p1 : w5.cell? ⟨b, 1, none⟩ = some (.int .i64 cur.d) := cell_of_heap HP5.out 1); (have p2 : w5.cell? ⟨b, 2, none⟩ = some (.int .i64 cur.t) := cell_of_heap HP5.out 2); (have p3 : w5.cell? ⟨b, 3, none⟩ = some (.int .i64 cur.n) := cell_of_heap HP5.out 3); (have p4 : w5.cell? ⟨b, 4, none⟩ = some (.string cur.x) := cell_of_heap HP5.out 4); clear hown5 hg5 hK5)
        refine (c23u (HA5.out.hQ.below (Bl_alloc (Below.refl _ _) _)) dst).mono ?_
        rintro e w6 ⟨cur2, err2, M2, rfl, ⟨f2, R2, hQ6⟩, hP6, hK6⟩
        have hT6 := hK6.heapAt (heap_new w5 _) (by rintro (h | h); have := HA5.out.lt; omega; have := HA5.out.lt; omega)
        have lT6 : w5.heap.size < w6.heap.size := (Array.getElem?_eq_some_iff.1 hT6).1
        have tc0 : w6.cell? ⟨w5.heap.size, 0, none⟩ = some (.int .i64 cur.s) := cell_of_heap hT6 0
        have tcf0 : w6.frozen? ⟨w5.heap.size, 0, none⟩ = false := free_of_heap hT6 0
        have tc1 : w6.cell? ⟨w5.heap.size, 1, none⟩ = some (.int .i64 cur.d) := cell_of_heap hT6 1
        have tcf1 : w6.frozen? ⟨w5.heap.size, 1, none⟩ = false := free_of_heap hT6 1
        have tc2 : w6.cell? ⟨w5.heap.size, 2, none⟩ = some (.int .i64 cur.t) := cell_of_heap hT6 2
        have tcf2 : w6.frozen? ⟨w5.heap.size, 2, none⟩ = false := free_of_heap hT6 2
        have tc3 : w6.cell? ⟨w5.heap.size, 3, none⟩ = some (.int .i64 cur.n) := cell_of_heap hT6 3
        have tcf3 : w6.frozen? ⟨w5.heap.size, 3, none⟩ = false := free_of_heap hT6 3
        have tc4 : w6.cell? ⟨w5.heap.size, 4, none⟩ = some (.string cur.x) := cell_of_heap hT6 4
        have tcf4 : w6.frozen? ⟨w5.heap.size, 4, none⟩ = false := free_of_heap hT6 4
        have HS := hidd (open_step (k := k) l0 l1 l2 HK.out HK4.out HA4.out HD.out.symm rfl (fun g hg => HO4.out.base hg) HO5.out HG5.out hQ6 hP6 hK6 HOT.out HST.out)
        obtain ⟨A6, cc6, e6, -⟩ := HO5.out.form
        have hlv : lenOf v' = V.length + 1 := by rw [e6]; simp [lenOf]
        have hl8 : lenOf u8 = V.length := by
          obtain ⟨A8, c8, e8, -⟩ := HO4.out.form
          rw [e8]; simp [lenOf]
        have HL1 := hidd hlv
        have HL2 := hidd hl8
        clear hQ6 hP6 hK6 hT6 e6 hlv hl8
        unfold Pk.val
        go_wp2
        go_roundw
        case rel => exact HS.out
        case measure => rw [HL1.out, HL2.out]; have := HL.out; omega
    · go_wp2
      go_ret2
      have hA2 := hA
      rw [mine_nil_others hm0] at hoth
      rw [hoth] at hA2
      exact ⟨_, rfl, hov, ⟨_, _, hA2⟩, hK⟩
end Go.Proofs.Ytnlcibobhmcfpaa
