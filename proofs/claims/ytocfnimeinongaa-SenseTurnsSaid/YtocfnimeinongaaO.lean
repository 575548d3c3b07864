/- The walk of the reference's Hear. -/
import Derived.Test.YtocfnimeinongaaN
import Derived.StillTailTactics
set_option linter.unusedSimpArgs false
set_option linter.unusedVariables false
namespace Go.Proofs.Ytocfnimeinongaa
open Go.RowKit
attribute [local go_sem ↓] Go.wp_at_zero Go.wp_at_succ
def HearRPost (w : World) (y r : Nat) (st : St) (now fr ep : Int) (E : List Ec) (e : Ending) (w' : World) : Prop :=
  (hearErr st now fr ep E ≠ 0 ∧ e = .returned (.tuple #[.slice none 0 0, .int .i64 (hearErr st now fr ep E)]) ∧ Below w.heap.size w w') ∨
  (hearErr st now fr ep E = 0 ∧ ∃ v, e = .returned (.tuple #[v, .int .i64 0]) ∧ OwnV w' w.heap.size v (hearOut st fr ep E) ∧ RAtR w' y r (st.hear now fr ep E) ∧ Keeps (fun i => i = y ∨ i = r) w w')
set_option maxRecDepth 100000 in
set_option maxHeartbeats 4000000 in
theorem c16bad {w : World} {y r : Nat} {st : St} (h : RAtR w y r st) (now fr ep : Int) {v : Value} {E : List Ec} (hv : RdE w v E) (hL : E.length ≤ 1000) (hbad : goodB4 st now fr ep E = false) :
    Calls Try.prog 16 #[.pointer (some ⟨y, 0, none⟩), .int .i64 now, .int .i64 fr, .agg #[.int .i64 ep, v]] w (HearRPost w y r st now fr ep E) := by
  have HBAD := hidd (fun W (hW : Below w.heap.size w W) => (.inl ⟨by rw [hearErr_bad hbad]; simp, by rw [hearErr_bad hbad], hW⟩ : HearRPost w y r st now fr ep E (.returned (.tuple #[.slice none 0 0, .int .i64 1])) W))
  have HB0 := hidd hbad
  obtain ⟨A, c, rfl⟩ := hv.form
  have HV := hidd hv
  obtain ⟨_, hc0, -, -, -, ls, -⟩ := h.rat.parts
  have C31 := hidd (fun b (ht : timeB st now = b) => (c31 (h.rat.below (Bl_alloc (Below.refl w.heap.size w) (.cells #[.int .i64 ep, .slice A E.length c] 34))) now).mono fun e w' q => (⟨by rw [← ht]; exact q.1, q.2⟩ : e = .returned (.bool b) ∧ World.alloc w (.cells #[.int .i64 ep, .slice A E.length c] 34) = w'))
  clear h hv hbad
  cases ht : timeB st now with
  | false =>
    have C := hidd (C31.out _ ht)
    clear ht
    go_enter Try.func16, Try.ntmps16
    go_wp2_with (go_at_call 31; refine C.out.mono ?_; rintro e w' ⟨rfl, rfl⟩)
    go_ret2
    exact HBAD.out _ (Bl_alloc (Below.refl _ _) _)
  | true =>
    have C := hidd (C31.out _ ht)
    have HT := hidd ht
    clear ht
    by_cases h0 : fr < 0
    · go_enter Try.func16, Try.ntmps16
      go_wp2_with (go_at_call 31; refine C.out.mono ?_; rintro e w' ⟨rfl, rfl⟩)
      go_ret2
      exact HBAD.out _ (Bl_alloc (Below.refl _ _) _)
    by_cases h1 : 64 ≤ fr
    · go_enter Try.func16, Try.ntmps16
      go_wp2_with (go_at_call 31; refine C.out.mono ?_; rintro e w' ⟨rfl, rfl⟩)
      go_ret2
      exact HBAD.out _ (Bl_alloc (Below.refl _ _) _)
    cases h2 : fr == st.id with
    | true =>
      go_enter Try.func16, Try.ntmps16
      go_wp2_with (go_at_call 31; refine C.out.mono ?_; rintro e w' ⟨rfl, rfl⟩)
      go_ret2
      exact HBAD.out _ (Bl_alloc (Below.refl _ _) _)
    | false =>
      have hr : rightB ep E = false := by
        have := HB0.out
        have hn : nodeB fr = true := nodeB_iff.2 ⟨by omega, by omega⟩
        simp only [goodB4, HT.out, hn, h2, Bool.not_false, Bool.and_true, Bool.true_and] at this
        exact this
      have HR := hidd hr
      have j0 : decide (fr < 0) = false := by simp; omega
      have j1 : decide (64 ≤ fr) = false := by simp; omega
      clear hr
      go_enter Try.func16, Try.ntmps16
      go_wp2_with (first
        | (go_at_call 31; refine C.out.mono ?_; rintro e w' ⟨rfl, rfl⟩)
        | (go_at_call 33; refine (c33 ep (HV.out.below (Bl_alloc (Below.refl _ _) _)) hL).mono ?_; rw [HR.out]; rintro e w1 ⟨rfl, hb⟩))
      go_ret2
      exact HBAD.out _ (Bl_then (Bl_alloc (Below.refl _ _) _) hb)
/-- What is known of the reference's memory while Hear goes. -/
structure HY (w W : World) (q : Nat) (b : Bool) (e a : Int) (t : Bool) (ep : Int) (A : Option Addr) (l c : Nat) (v : Value) (L : List Ev) : Prop where
  keep : Below w.heap.size w W
  box : W.heap[w.heap.size]? = some (.cells #[.int .i64 ep, .slice A l c] 34 (0, 0))
  hd : W.heap[q]? = some (.cells #[.bool b, .int .i64 e, .int .i64 a, .bool t] 78 (0, 0))
  lm : w.heap.size < q
  le : q + 1 ≤ W.heap.size
  row : OwnV W (q + 1) v L
theorem HY.keeps {w W W' : World} {q : Nat} {b : Bool} {e a : Int} {t : Bool} {ep : Int} {A : Option Addr} {l c : Nat} {v v' : Value} {L L' : List Ev} (h : HY w W q b e a t ep A l c v L) (k : Keeps (fun i => q + 1 ≤ i) W W') (row : OwnV W' (q + 1) v' L') : HY w W' q b e a t ep A l c v' L' := by
  have h1 := h.lm
  exact ⟨((Keeps.below (S := fun i => q + 1 ≤ i) h.keep).andThen k (fun i _ e => e)).toBelow (Nat.le_refl _) (fun i e => by omega), k.heapAt h.box (by omega), k.heapAt h.hd (by omega), h1, Nat.le_trans h.le k.size, row⟩
theorem HY.below {w W W' : World} {q : Nat} {b : Bool} {e a : Int} {t : Bool} {ep : Int} {A : Option Addr} {l c : Nat} {v : Value} {L : List Ev} (h : HY w W q b e a t ep A l c v L) (k : Below W.heap.size W W') : HY w W' q b e a t ep A l c v L :=
  h.keeps (Keeps.below k) (h.row.below k)
theorem HY.set {w W : World} {q : Nat} {b : Bool} {e a : Int} {t : Bool} {ep : Int} {A : Option Addr} {l c : Nat} {v : Value} {L : List Ev} (h : HY w W q b e a t ep A l c v L) (o : Nat) (u : Value) {b' : Bool} {e' a' : Int} {t' : Bool} (hs : (#[.bool b, .int .i64 e, .int .i64 a, .bool t] : Array Value).setIfInBounds o u = #[.bool b', .int .i64 e', .int .i64 a', .bool t']) : HY w (W.setCell ⟨q, o, none⟩ u) q b' e' a' t' ep A l c v L := by
  have h1 := h.lm
  have k : Keeps (fun i => i = q) W (W.setCell ⟨q, o, none⟩ u) := (Keeps.refl (fun i => i = q) W).setCell (p := ⟨q, o, none⟩) (.inr rfl) _
  exact ⟨((Keeps.below (S := fun i => i = q) h.keep).andThen k (fun i _ e => e)).toBelow (Nat.le_refl _) (fun i e => by omega), k.heapAt h.box (by omega), hs ▸ heap_set h.hd o u, h1, Nat.le_trans h.le k.size, h.row.keeps k (fun g hg e => by have := h.row.base hg; omega)⟩
/-- What Hear leaves in the reference's memory. -/
theorem hear_fin {w W : World} {y r q : Nat} {st : St} {k : Nat} {now ep : Int} {tb : Bool} {A : Option Addr} {l c : Nat} {v : Value} {L : List Ev} {E : List Ec} {cs : Array Value} (h : HY w W q true ep now tb ep A l c v L) (hy : W.heap[y]? = some (.cells #[.int .i64 st.id, .int .i64 st.ep, .int .i64 st.hold, .int .i64 st.now, .slice (some ⟨r, 0, none⟩) 64 64] 72 (0, 0))) (hr : W.heap[r]? = some (.cells cs 78 (0, 0))) (hrows : RowsAt cs st.T) (hk : k < 64) (hne : r ≠ y) (ly : y < w.heap.size) (lr : r < w.heap.size)
    (he : hearErr st now k ep E = 0) (hout : hearOut st k ep E = L) (htb : thereB st E = tb) :
    HearRPost w y r st now k ep E (.returned (.tuple #[v, .int .i64 0])) (((((W.setCell ⟨r, k * 4, none⟩ (.bool true)).setCell ⟨r, k * 4 + 1, none⟩ (.int .i64 ep)).setCell ⟨r, k * 4 + 2, none⟩ (.int .i64 now)).setCell ⟨r, k * 4 + 3, none⟩ (.bool tb)).setCell ⟨y, 3, none⟩ (.int .i64 now)).drew := by
  have hne' : y ≠ r := fun e => hne e.symm
  have hlm := h.lm
  have hK : Keeps (fun i => i = y ∨ i = r) W (((((W.setCell ⟨r, k * 4, none⟩ (.bool true)).setCell ⟨r, k * 4 + 1, none⟩ (.int .i64 ep)).setCell ⟨r, k * 4 + 2, none⟩ (.int .i64 now)).setCell ⟨r, k * 4 + 3, none⟩ (.bool tb)).setCell ⟨y, 3, none⟩ (.int .i64 now)) :=
    (((((Keeps.refl (fun i => i = y ∨ i = r) W).setCell (p := ⟨r, k * 4, none⟩) (.inr (.inr rfl)) (.bool true)).setCell (p := ⟨r, k * 4 + 1, none⟩) (.inr (.inr rfl)) (.int .i64 ep)).setCell (p := ⟨r, k * 4 + 2, none⟩) (.inr (.inr rfl)) (.int .i64 now)).setCell (p := ⟨r, k * 4 + 3, none⟩) (.inr (.inr rfl)) (.bool tb)).setCell (p := ⟨y, 3, none⟩) (.inr (.inl rfl)) (.int .i64 now)
  refine .inr ⟨he, v, rfl, ?_, ?_, ?_⟩
  · rw [hout]
    have h1 := h.row.keeps hK (fun g hg e => by have := h.row.base hg; omega)
    exact h1.drew.lower (by omega)
  · have h1 := heap_set (heap_set_ne (heap_set_ne (heap_set_ne (heap_set_ne hy hne' (k * 4) (.bool true)) hne' (k * 4 + 1) (.int .i64 ep)) hne' (k * 4 + 2) (.int .i64 now)) hne' (k * 4 + 3) (.bool tb)) 3 (.int .i64 now)
    have h2 := heap_set_ne (heap_set (heap_set (heap_set (heap_set hr (k * 4) (.bool true)) (k * 4 + 1) (.int .i64 ep)) (k * 4 + 2) (.int .i64 now)) (k * 4 + 3) (.bool tb)) hne 3 (.int .i64 now)
    have h3 := hrows.set hk (T' := (st.hear now k ep E).T) (a := .bool true) (b := .int .i64 ep) (c := .int .i64 now) (d := .bool tb) (fun j hj => by
      simp only [St.hear, Tab.put]
      rw [if_neg (by omega)]) (by simp [rowR, Tab.at, St.hear, Tab.put, htb])
    exact ⟨_, drew_heap h1, drew_heap h2, h3⟩
  · exact ((Keeps.below (S := fun i => i = y ∨ i = r) h.keep).andThen hK (fun i _ e => e)).drew
set_option maxRecDepth 100000 in
set_option maxHeartbeats 4000000 in
theorem c16good {w : World} {y r : Nat} {st : St} (h : RAtR w y r st) (hok : st.Ok) (now fr ep : Int) {v : Value} {E : List Ec} (hv : RdE w v E) (hL : E.length ≤ 1000) (hgood : goodB4 st now fr ep E = true) :
    Calls Try.prog 16 #[.pointer (some ⟨y, 0, none⟩), .int .i64 now, .int .i64 fr, .agg #[.int .i64 ep, v]] w (HearRPost w y r st now fr ep E) := by
  obtain ⟨htm, ⟨hf0, hf1⟩, hid, hr⟩ := goodB4_iff hgood
  have hep0 : 0 ≤ ep := (epB_iff.1 (rightB_ep hr)).1
  have HE := hidd (hearErr_good hgood)
  obtain ⟨A, c, rfl⟩ := hv.form
  have HV := hidd hv
  have HR := hidd hr
  obtain ⟨k, rfl⟩ : ∃ k : Nat, fr = (k : Int) := ⟨fr.toNat, by omega⟩
  have hk : k < 64 := by omega
  have hat := hok.at (k : Int)
  have C31 := hidd ((c31 (h.rat.below (Bl_alloc (Below.refl w.heap.size w) (.cells #[.int .i64 ep, .slice A E.length c] 34))) now).mono fun e w' q => (⟨by rw [← htm]; exact q.1, q.2⟩ : e = .returned (.bool true) ∧ World.alloc w (.cells #[.int .i64 ep, .slice A E.length c] 34) = w'))
  obtain ⟨cs, hy, hr2, hrows⟩ := h
  have hne : r ≠ y := by rintro rfl; rw [hy] at hr2; cases hr2
  have ly : y < w.heap.size := (Array.getElem?_eq_some_iff.1 hy).1
  have lr : r < w.heap.size := (Array.getElem?_eq_some_iff.1 hr2).1
  have hc0 : w.cell? ⟨y, 0, none⟩ = some (.int .i64 st.id) := cell_of_heap hy 0
  have hc1 : w.cell? ⟨y, 1, none⟩ = some (.int .i64 st.ep) := cell_of_heap hy 1
  have hc4 : w.cell? ⟨y, 4, none⟩ = some (.slice (some ⟨r, 0, none⟩) 64 64) := cell_of_heap hy 4
  have hrow : ∀ i u, (rowR st.T k)[i]? = some u → w.cell? ⟨r, k * 4 + i, none⟩ = some u := fun i u hu => (cell_of_heap hr2 _).trans (hrows k hk i u hu)
  have d0 : w.cell? ⟨r, k * 4, none⟩ = some (.bool (st.T k).isSome) := hrow 0 _ rfl
  have d1 : w.cell? ⟨r, k * 4 + 1, none⟩ = some (.int .i64 (st.T.at k).e) := hrow 1 _ rfl
  have d2 : w.cell? ⟨r, k * 4 + 2, none⟩ = some (.int .i64 (st.T.at k).a) := hrow 2 _ rfl
  have d3 : w.cell? ⟨r, k * 4 + 3, none⟩ = some (.bool (st.T.at k).t) := hrow 3 _ rfl
  have hnone : (st.T k).isSome = false → (st.T.at k).e = 0 ∧ (st.T.at k).t = false := fun h => by
    cases e : st.T k with
    | none => simp [Tab.at, e, hdz]
    | some z => rw [e] at h; cases h
  have HN := hidd hnone
  have HCY := hidd hy
  have HCR := hidd hr2
  have HRW := hidd (show RowsAt cs st.T from hrows)
  have j0 : decide ((k : Int) < 0) = false := by simp
  have j1 : decide (64 ≤ (k : Int)) = false := by simp; omega
  generalize hhv : st.T.at k = hx at *
  have HHV := hidd hhv
  generalize his : (st.T k).isSome = b at *
  have HIS := hidd his
  clear hv hgood hok hr htm hhv hy hr2 hrows hrow hnone his
  go_enter Try.func16, Try.ntmps16
  go_upto_region 4 with (first
    | (go_at_call 31; refine C31.out.mono ?_; rintro e w' ⟨rfl, rfl⟩)
    | (go_at_call 33; refine (c33 ep (HV.out.below (Bl_alloc (Below.refl _ _) _)) hL).mono ?_; rw [HR.out]; rintro e w1 ⟨rfl, hb⟩; (have HB := hidd (Bl_then (Bl_alloc (Below.refl w.heap.size w) _) hb)); (have HBX := hidd ((hb.block w.heap.size (by simp)).trans (heap_new w _))); (have g4 := (HB.out.cell (p := ⟨y, 4, none⟩) ly).trans hc4); (have g0 := (HB.out.cell (p := ⟨r, k * 4, none⟩) lr).trans d0); (have g1 := (HB.out.cell (p := ⟨r, k * 4 + 1, none⟩) lr).trans d1); (have g2 := (HB.out.cell (p := ⟨r, k * 4 + 2, none⟩) lr).trans d2); (have g3 := (HB.out.cell (p := ⟨r, k * 4 + 3, none⟩) lr).trans d3); clear hb))
  have hl2 : w.heap.size < w1.heap.size := (Array.getElem?_eq_some_iff.1 HBX.out).1
  generalize hW : World.alloc w1 _ = W
  have hHY : HY w W w1.heap.size b hx.e hx.a hx.t ep A E.length c (.slice none 0 0) [] := by
    rw [← hW]
    exact ⟨Bl_alloc HB.out _, heap_alloc HBX.out _, heap_new _ _, hl2, by simp, OwnG.nil _ _ _ _ _⟩
  have HHY := hidd hHY
  have b0 : W.cell? ⟨w.heap.size, 0, none⟩ = some (.int .i64 ep) := cell_of_heap hHY.box 0
  have q0 : W.cell? ⟨w1.heap.size, 0, none⟩ = some (.bool b) := cell_of_heap hHY.hd 0
  have q1 : W.cell? ⟨w1.heap.size, 1, none⟩ = some (.int .i64 hx.e) := cell_of_heap hHY.hd 1
  have q3 : W.cell? ⟨w1.heap.size, 3, none⟩ = some (.bool hx.t) := cell_of_heap hHY.hd 3
  have f3 : W.frozen? ⟨w1.heap.size, 3, none⟩ = false := free_of_heap hHY.hd 3
  have hle := hHY.le
  have hsz := hHY.keep.size
  generalize w1.heap.size = q at *
  clear hW hHY g4 g0 g1 g2 g3
  go_cut [55] (fun v wx => v = .bool (decide (ep < hx.e)) ∧ wx = W)
  case first =>
    cases b with
    | false =>
      have := (HN.out rfl).1
      go_wp2
      go_meet
      exact ⟨by rw [decide_eq_false (by omega)], rfl⟩
    | true =>
      go_wp2
      go_meet
      exact ⟨rfl, rfl⟩
  case rest =>
    obtain ⟨rfl, hww⟩ := hcut
    have hww' := hww.symm
    clear hww
    subst hww'
    by_cases hold : ep < hx.e
    · have hd : decide (ep < hx.e) = true := by simpa using hold
      have e10 : hearErr st now k ep E = 10 := by rw [HE.out, if_pos hold]
      have HE10 := hidd e10
      clear e10
      go_wp2
      go_ret2
      exact .inl ⟨by rw [HE10.out]; simp, by rw [HE10.out]; rfl, HHY.out.keep⟩
    have hd : decide (ep < hx.e) = false := by simpa using hold
    go_upto_region 7 with fail
    go_cut [68] (fun v wx => v = .bool (newer hx ep) ∧ wx = W)
    case first =>
      cases b with
      | false =>
        have := (HN.out rfl).2
        go_wp2
        go_meet
        exact ⟨by simp [newer, this], rfl⟩
      | true =>
        cases hlt : decide (hx.e < ep) with
        | false =>
          go_wp2
          go_meet
          exact ⟨by simp [newer, hlt], rfl⟩
        | true =>
          go_wp2
          go_meet
          exact ⟨by simp [newer, hlt], rfl⟩
    case rest =>
      obtain ⟨rfl, hww⟩ := hcut
      have hww' := hww.symm
      clear hww
      subst hww'
      go_upto_if 68 with fail
      go_cut [11] (fun v wx => HY w wx q b hx.e hx.a (hx.t && !newer hx ep) ep A E.length c v (if newer hx ep then [⟨2, k, hx.e⟩] else []))
      case first =>
        cases hnw : newer hx ep with
        | false =>
          go_wp2
          go_meet
          simpa [hnw] using HHY.out
        | true =>
          have hnt : hx.t = true := by unfold newer at hnw; simp at hnw; exact hnw.1
          have HNW := hidd hnw
          clear hnw
          go_wp2_with (at_builtin; go_loud (refine wpList_app info49 Try.underlying37 rfl (by decide) (by decide) ev_len ev_one rfl (.tmp 69) (.tmp 74) rfl (q + 1) _ [] rfl (OwnG.nil _ _ _ _ _) _ ⟨2, k, hx.e⟩ rfl ?_ ?_ ?_ ?_; (exact ev_new rfl ⟨2, k, hx.e⟩ _); (simp); (simp; omega); intro v' w4 hown4 hg4; (have hk4 : Keeps (fun i => q + 1 ≤ i) W w4 := ((Keeps.refl _ _).alloc _).grown hg4 (fun i hi => by cases hi)); (have HX4 := hidd (HHY.out.keeps hk4 hown4)); (have c1 : w4.cell? ⟨q, 3, none⟩ = some (.bool hx.t) := cell_of_heap HX4.out.hd 3); (have c2 : w4.frozen? ⟨q, 3, none⟩ = false := free_of_heap HX4.out.hd 3); clear hown4 hg4 hk4))
          go_meet
          simp only [HNW.out, Bool.not_true, Bool.and_false, if_true]
          exact HX4.out.set 3 _ rfl
      case rest =>
        have HC := hidd hcut
        generalize ht2 : (hx.t && !newer hx ep) = t2 at *
        generalize hL1 : (if newer hx ep = true then [(⟨2, k, hx.e⟩ : Ev)] else []) = L1 at *
        have HT2 := hidd ht2
        have HL1 := hidd hL1
        have HC3 := hidd (((hcut.set 0 (.bool true) rfl).set 1 (.int .i64 ep) rfl).set 2 (.int .i64 now) rfl)
        have x0 : wc.cell? ⟨w.heap.size, 0, none⟩ = some (.int .i64 ep) := cell_of_heap hcut.box 0
        have x1 : wc.cell? ⟨w.heap.size, 1, none⟩ = some (.slice A E.length c) := cell_of_heap hcut.box 1
        have z0 := cell_of_heap hcut.hd 0
        have z1 := cell_of_heap hcut.hd 1
        have z2 := cell_of_heap hcut.hd 2
        have y0 := free_of_heap hcut.hd 0
        have y1 := free_of_heap hcut.hd 1
        have y2 := free_of_heap hcut.hd 2
        have hlc := hcut.le
        have hqm := hcut.lm
        clear hcut ht2 hL1 b0 q0 q1 q3 f3
        go_upto_region 13 with fail
        clear x0 x1 z0 z1 z2 y0 y1 y2
        generalize World.setCell (World.setCell (World.setCell wc _ _) _ _) _ _ = W3 at *
        have m0 : W3.cell? ⟨w.heap.size, 0, none⟩ = some (.int .i64 ep) := cell_of_heap HC3.out.box 0
        have m1 : W3.cell? ⟨w.heap.size, 1, none⟩ = some (.slice A E.length c) := cell_of_heap HC3.out.box 1
        have m2 : W3.cell? ⟨y, 0, none⟩ = some (.int .i64 st.id) := (HC3.out.keep.cell (p := ⟨y, 0, none⟩) ly).trans hc0
        have hlc3 := HC3.out.le
        go_region_held3 (fun w' => w'.cell? ⟨w.heap.size, 0, none⟩ = some (.int .i64 ep) ∧ w'.cell? ⟨w.heap.size, 1, none⟩ = some (.slice A E.length c) ∧ w'.cell? ⟨y, 0, none⟩ = some (.int .i64 st.id)) (refine ⟨?_, ?_, ?_⟩ <;> (repeat (first | with_reducible assumption | (with_reducible refine drew_cell ?_) | (with_reducible refine alloc_cell ?_))))
          (first | (go_at_call 34; refine (c34 ep st.id (HV.out.below (by repeat (first | exact HC3.out.keep | with_reducible refine Bl_drew ?_ | with_reducible refine Below.drewN ?_ _))) hL).mono ?_; rintro e w5 ⟨rfl, hb5⟩; (have tt0 : w5.cell? ⟨w.heap.size, 0, none⟩ = some (.int .i64 ep) := (hb5.cell (p := ⟨w.heap.size, 0, none⟩) (by first | (simp; done) | (simp; omega))).trans m0); (have tt1 : w5.cell? ⟨w.heap.size, 1, none⟩ = some (.slice A E.length c) := (hb5.cell (p := ⟨w.heap.size, 1, none⟩) (by first | (simp; done) | (simp; omega))).trans m1); (have tt2 : w5.cell? ⟨y, 0, none⟩ = some (.int .i64 st.id) := (hb5.cell (p := ⟨y, 0, none⟩) (by first | (simp; done) | (simp; omega))).trans m2); (have HB5 := hidd hb5); clear hb5))
        have HX5 := hidd (HC3.out.below ((Bl_drew (Below.refl W3.heap.size W3)).trans HB5.out))
        have m3 : w5.cell? ⟨y, 1, none⟩ = some (.int .i64 st.ep) := (HX5.out.keep.cell (p := ⟨y, 1, none⟩) ly).trans hc1
        have m4 : w5.cell? ⟨q, 3, none⟩ = some (.bool t2) := cell_of_heap HX5.out.hd 3
        have HTB := hidd (show thereB st E = (heardO (heardB E st.id) && (heardN (heardB E st.id) == st.ep)) from rfl)
        obtain ⟨tb, htb⟩ : ∃ tb, thereB st E = tb := ⟨_, rfl⟩
        rw [htb] at HTB
        have HTB2 := hidd htb
        generalize heardO (heardB E st.id) = ho0 at *
        generalize heardN (heardB E st.id) = hn0 at *
        clear m0 m1 m2 htb
        go_upto_region 14 with fail
        go_cut [14] (fun v wx => v = .bool tb ∧ wx = w5)
        case first =>
          cases ho0 with
          | false =>
            go_wp2
            go_meet
            exact ⟨by rw [HTB.out]; rfl, rfl⟩
          | true =>
            go_wp2
            go_meet
            exact ⟨by rw [HTB.out]; rfl, rfl⟩
        case rest =>
          obtain ⟨rfl, hww⟩ := hcut
          have hww' := hww.symm
          clear hww
          subst hww'
          obtain ⟨A5, c5, rfl⟩ := (HX5.out.row.rd ev_len).form
          generalize hl5 : L1.length = l5 at *
          have HL5 := hidd (show l5 ≤ 1 by rw [← hl5, ← HL1.out]; split <;> simp)
          have HL6 := hidd hl5
          have m0 : w5.cell? ⟨w.heap.size, 0, none⟩ = some (.int .i64 ep) := tt0
          have hl6 := HX5.out.le
          clear tt0 tt1 hl5
          go_upto_region 15 with fail
          go_cut [106] (fun v wx => v = .bool (tb && !t2) ∧ wx = w5)
          case first =>
            cases tb with
            | false => go_wp2; go_meet; exact ⟨rfl, rfl⟩
            | true => go_wp2; go_meet; exact ⟨rfl, rfl⟩
          case rest =>
            obtain ⟨rfl, hww⟩ := hcut
            have hww' := hww.symm
            clear hww
            subst hww'
            go_upto_if 106 with fail
            go_cut [11] (fun v wx => HY w wx q true ep now t2 ep A E.length c v (L1 ++ if tb && !t2 then [⟨1, k, ep⟩] else []))
            case first =>
              cases hbb : (tb && !t2) with
              | false =>
                go_wp2
                go_meet
                simpa [hbb] using HX5.out
              | true =>
                have HBB := hidd hbb
                clear hbb
                go_wp2_with (at_builtin; go_loud (refine wpList_app info49 Try.underlying37 rfl (by decide) (by decide) ev_len ev_one rfl (.tmp 107) (.tmp 112) rfl (q + 1) _ L1 rfl (HX5.out.row.alloc _) _ ⟨1, k, ep⟩ rfl ?_ ?_ ?_ ?_; (exact ev_new rfl ⟨1, k, ep⟩ _); (have := HL5.out; have := HL6.out; omega); (simp; omega); intro v' w4 hown4 hg4; (have HX6 := hidd (HX5.out.keeps (((Keeps.refl _ _).alloc _).grown hg4 (fun i hi => .inr (HX5.out.row.base hi))) hown4)); clear hown4 hg4))
                go_meet
                simpa [HBB.out] using HX6.out
            case rest =>
              obtain ⟨w6, hw6⟩ : ∃ x, x = wc := ⟨_, rfl⟩
              subst hw6
              have HX6 := hidd hcut
              generalize hL2 : (L1 ++ if (tb && !t2) = true then [(⟨1, k, ep⟩ : Ev)] else []) = L2 at *
              have HL2 := hidd hL2
              have m5 : w6.cell? ⟨q, 3, none⟩ = some (.bool t2) := cell_of_heap hcut.hd 3
              have m6 : w6.cell? ⟨w.heap.size, 0, none⟩ = some (.int .i64 ep) := cell_of_heap hcut.box 0
              have m7 := free_of_heap hcut.hd 3
              have hl7 := hcut.le
              obtain ⟨A6, c6, rfl⟩ := (hcut.row.rd ev_len).form
              generalize hl8 : L2.length = l8 at *
              have HL8 := hidd (show l8 ≤ 2 by rw [← hl8, ← HL2.out, List.length_append]; have := HL5.out; have := HL6.out; split <;> simp <;> omega)
              have HL9 := hidd hl8
              clear hcut hL2 m4 m0 hl8
              go_upto_region 17 with fail
              go_cut [119] (fun v wx => v = .bool (!tb && t2) ∧ wx = w6)
              case first =>
                cases tb with
                | false => go_wp2; go_meet; exact ⟨rfl, rfl⟩
                | true => go_wp2; go_meet; exact ⟨rfl, rfl⟩
              case rest =>
                obtain ⟨rfl, hww⟩ := hcut
                have hww' := hww.symm
                clear hww
                subst hww'
                go_upto_if 119 with fail
                go_cut [11] (fun v wx => HY w wx q true ep now t2 ep A E.length c v (L2 ++ if !tb && t2 then [⟨2, k, ep⟩] else []))
                case first =>
                  cases hbb : (!tb && t2) with
                  | false =>
                    go_wp2
                    go_meet
                    simpa [hbb] using HX6.out
                  | true =>
                    have HBB := hidd hbb
                    clear hbb
                    go_wp2_with (at_builtin; go_loud (refine wpList_app info49 Try.underlying37 rfl (by decide) (by decide) ev_len ev_one rfl (.tmp 120) (.tmp 125) rfl (q + 1) _ L2 rfl (HX6.out.row.alloc _) _ ⟨2, k, ep⟩ rfl ?_ ?_ ?_ ?_; (exact ev_new rfl ⟨2, k, ep⟩ _); (have := HL8.out; have := HL9.out; omega); (simp; omega); intro v' w4 hown4 hg4; (have HX7 := hidd (HX6.out.keeps (((Keeps.refl _ _).alloc _).grown hg4 (fun i hi => .inr (HX6.out.row.base hi))) hown4)); clear hown4 hg4))
                    go_meet
                    simpa [HBB.out] using HX7.out
                case rest =>
                  obtain ⟨w7, hw7⟩ : ∃ x, x = wc := ⟨_, rfl⟩
                  subst hw7
                  have HX7 := hidd hcut
                  have n3 : w7.cell? ⟨q, 3, none⟩ = some (.bool t2) := cell_of_heap hcut.hd 3
                  have n4 := free_of_heap hcut.hd 3
                  have HX8 := hidd (hcut.set 3 (.bool tb) rfl)
                  clear hcut m5 m6 m7
                  go_upto_region 20 with fail
                  generalize World.setCell w7 _ _ = W8 at *
                  have hq8 := HX8.out.hd
                  have hy8 := (HX8.out.keep.block y ly).trans HCY.out
                  have hr8 := (HX8.out.keep.block r lr).trans HCR.out
                  have a0 : W8.cell? ⟨q, 0, none⟩ = some (.bool true) := cell_of_heap hq8 0
                  have a1 : W8.cell? ⟨q, 1, none⟩ = some (.int .i64 ep) := cell_of_heap hq8 1
                  have a2 : W8.cell? ⟨q, 2, none⟩ = some (.int .i64 now) := cell_of_heap hq8 2
                  have a3 : W8.cell? ⟨q, 3, none⟩ = some (.bool tb) := cell_of_heap hq8 3
                  have a4 : W8.cell? ⟨y, 4, none⟩ = some (.slice (some ⟨r, 0, none⟩) 64 64) := cell_of_heap hy8 4
                  have e0 : W8.cell? ⟨r, k * 4, none⟩ = some (.bool b) := (HX8.out.keep.cell (p := ⟨r, k * 4, none⟩) lr).trans d0
                  have e1 : W8.cell? ⟨r, k * 4 + 1, none⟩ = some (.int .i64 hx.e) := (HX8.out.keep.cell (p := ⟨r, k * 4 + 1, none⟩) lr).trans d1
                  have e2 : W8.cell? ⟨r, k * 4 + 2, none⟩ = some (.int .i64 hx.a) := (HX8.out.keep.cell (p := ⟨r, k * 4 + 2, none⟩) lr).trans d2
                  have e3 : W8.cell? ⟨r, k * 4 + 3, none⟩ = some (.bool hx.t) := (HX8.out.keep.cell (p := ⟨r, k * 4 + 3, none⟩) lr).trans d3
                  have f0 := free_of_heap hr8 (k * 4)
                  have f1 := free_of_heap hr8 (k * 4 + 1)
                  have f2 := free_of_heap hr8 (k * 4 + 2)
                  have f3 := free_of_heap hr8 (k * 4 + 3)
                  have y3 : W8.cell? ⟨y, 3, none⟩ = some (.int .i64 st.now) := cell_of_heap hy8 3
                  have y4 := free_of_heap hy8 3
                  have HQ8 := hidd hq8
                  have HY8 := hidd hy8
                  have HR8 := hidd hr8
                  have hne' : y ≠ r := fun e => hne e.symm
                  clear hq8 hy8 hr8 d0 d1 d2 d3 hc0 hc1 hc4 m3 n3 n4
                  go_still_tail 7, (by kernel_rfl)
                  change wpList _ _ _ _ _ W8.drew
                  go_wp2
                  go_ret2
                  have e0 : hearErr st now k ep E = 0 := by rw [HE.out, if_neg (by omega)]
                  have hout : hearOut st k ep E = L2 ++ (if !tb && t2 then [⟨2, k, ep⟩] else []) := by
                    unfold hearOut
                    rw [HHV.out, HTB2.out, HT2.out, HL1.out, ← HL2.out]
                    cases tb <;> cases t2 <;> simp
                  exact hear_fin HX8.out HY8.out HR8.out HRW.out hk hne ly lr e0 hout HTB2.out
theorem c16 {w : World} {y r : Nat} {st : St} (h : RAtR w y r st) (hok : st.Ok) (now fr ep : Int) {v : Value} {E : List Ec} (hv : RdE w v E) (hL : E.length ≤ 1000) :
    Calls Try.prog 16 #[.pointer (some ⟨y, 0, none⟩), .int .i64 now, .int .i64 fr, .agg #[.int .i64 ep, v]] w (HearRPost w y r st now fr ep E) := by
  cases hg : goodB4 st now fr ep E with
  | false => exact c16bad h now fr ep hv hL hg
  | true => exact c16good h hok now fr ep hv hL hg
end Go.Proofs.Ytocfnimeinongaa
