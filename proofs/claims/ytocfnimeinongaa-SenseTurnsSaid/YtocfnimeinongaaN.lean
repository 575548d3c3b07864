/- The walk of Hear. -/
import Derived.Test.YtocfnimeinongaaM
import Derived.Deep.DeepCutAuto
import Derived.Deep.CutBlock
set_option linter.unusedSimpArgs false
set_option linter.unusedVariables false
namespace Go.Proofs.Ytocfnimeinongaa
open Go.RowKit
attribute [local go_sem ↓] Go.wp_at_zero Go.wp_at_succ
def HearPost (w : World) (s n : Nat) (st : St) (now fr ep : Int) (E : List Ec) (e : Ending) (w' : World) : Prop :=
  (hearErr st now fr ep E ≠ 0 ∧ e = .returned (.tuple #[.slice none 0 0, .int .i64 (hearErr st now fr ep E)]) ∧ Below w.heap.size w w') ∨
  (hearErr st now fr ep E = 0 ∧ ∃ v, e = .returned (.tuple #[v, .int .i64 0]) ∧ OwnV w' w.heap.size v (hearOut st fr ep E) ∧ SAt w' s (n + 1) (st.hear now fr ep E) ∧ Keeps (fun i => i = s) w w')
def goodB4 (st : St) (now fr ep : Int) (E : List Ec) : Bool := timeB st now && nodeB fr && !(fr == st.id) && rightB ep E
theorem hearErr_bad {st : St} {now fr ep : Int} {E : List Ec} (h : goodB4 st now fr ep E = false) : hearErr st now fr ep E = 1 := by
  unfold hearErr; unfold goodB4 at h; rw [if_pos h]
theorem hearErr_good {st : St} {now fr ep : Int} {E : List Ec} (h : goodB4 st now fr ep E = true) : hearErr st now fr ep E = if ep < (st.T.at fr).e then 10 else 0 := by
  unfold hearErr; unfold goodB4 at h; rw [if_neg (by rw [h]; simp)]
set_option maxRecDepth 100000 in
theorem c15n (now fr : Int) (ep : Int) (A : Option Addr) (l c : Nat) (w : World) : Calls Try.prog 15 #[.pointer none, .int .i64 now, .int .i64 fr, .agg #[.int .i64 ep, .slice A l c]] w fun e w' => e = .returned (.tuple #[.slice none 0 0, .int .i64 3]) ∧ Below w.heap.size w w' := by
  go_enter Try.func15, Try.ntmps15
  go_wp2
  go_ret2
  exact ⟨rfl, Bl_alloc (Below.refl _ _) _⟩
set_option maxRecDepth 100000 in
set_option maxHeartbeats 4000000 in
theorem c15bad {w : World} {s n : Nat} {st : St} (h : SAt w s n st) (now fr ep : Int) {v : Value} {E : List Ec} (hv : RdE w v E) (hL : E.length ≤ 1000) (hbad : goodB4 st now fr ep E = false) :
    Calls Try.prog 15 #[.pointer (some ⟨s, 0, none⟩), .int .i64 now, .int .i64 fr, .agg #[.int .i64 ep, v]] w (HearPost w s n st now fr ep E) := by
  have HBAD := hidd (fun W (hW : Below w.heap.size w W) => (.inl ⟨by rw [hearErr_bad hbad]; simp, by rw [hearErr_bad hbad], hW⟩ : HearPost w s n st now fr ep E (.returned (.tuple #[.slice none 0 0, .int .i64 1])) W))
  have HB0 := hidd hbad
  obtain ⟨A, c, rfl⟩ := hv.form
  have ls := h.lt
  have HS := hidd h
  have HV := hidd hv
  have hc0 : w.cell? ⟨s, 0, none⟩ = some (.int .i64 st.id) := by obtain ⟨p, b, h1, _⟩ := h; exact cell_of_heap h1 0
  have C28 := hidd (fun b (ht : timeB st now = b) => (c28 (h.below (Bl_alloc (Below.refl w.heap.size w) (.cells #[.int .i64 ep, .slice A E.length c] 34))) now).mono fun e w' q => (⟨by rw [← ht]; exact q.1, q.2⟩ : e = .returned (.bool b) ∧ World.alloc w (.cells #[.int .i64 ep, .slice A E.length c] 34) = w'))
  clear h hv hbad
  cases ht : timeB st now with
  | false =>
    have C := hidd (C28.out _ ht)
    clear ht
    go_enter Try.func15, Try.ntmps15
    go_wp2_with (go_at_call 28; refine C.out.mono ?_; rintro e w' ⟨rfl, rfl⟩)
    go_ret2
    exact HBAD.out _ (Bl_alloc (Below.refl _ _) _)
  | true =>
    have C := hidd (C28.out _ ht)
    have HT := hidd ht
    clear ht
    by_cases h0 : fr < 0
    · go_enter Try.func15, Try.ntmps15
      go_wp2_with (go_at_call 28; refine C.out.mono ?_; rintro e w' ⟨rfl, rfl⟩)
      go_ret2
      exact HBAD.out _ (Bl_alloc (Below.refl _ _) _)
    by_cases h1 : 64 ≤ fr
    · go_enter Try.func15, Try.ntmps15
      go_wp2_with (go_at_call 28; refine C.out.mono ?_; rintro e w' ⟨rfl, rfl⟩)
      go_ret2
      exact HBAD.out _ (Bl_alloc (Below.refl _ _) _)
    cases h2 : fr == st.id with
    | true =>
      go_enter Try.func15, Try.ntmps15
      go_wp2_with (go_at_call 28; refine C.out.mono ?_; rintro e w' ⟨rfl, rfl⟩)
      go_ret2
      exact HBAD.out _ (Bl_alloc (Below.refl _ _) _)
    | false =>
      have hr : rightB ep E = false := by
        have := HB0.out
        have hn : nodeB fr = true := nodeB_iff.2 ⟨by omega, by omega⟩
        simp only [goodB4, HT.out, hn, h2, Bool.not_false, Bool.and_true, Bool.true_and] at this
        exact this
      have HR := hidd (show errB (rightB ep E) = 1 by rw [hr]; rfl)
      have j0 : decide (fr < 0) = false := by simp; omega
      have j1 : decide (64 ≤ fr) = false := by simp; omega
      clear hr
      go_enter Try.func15, Try.ntmps15
      go_wp2_with (first
        | (go_at_call 28; refine C.out.mono ?_; rintro e w' ⟨rfl, rfl⟩)
        | (go_at_call 25; refine (c25 ep (HV.out.below (Bl_alloc (Below.refl _ _) _)) hL).mono ?_; rw [HR.out]; rintro e w1 ⟨rfl, hb⟩))
      go_ret2
      exact HBAD.out _ (Bl_then (Bl_alloc (Below.refl _ _) _) hb)
theorem goodB4_iff {st : St} {now fr ep : Int} {E : List Ec} (h : goodB4 st now fr ep E = true) : timeB st now = true ∧ (0 ≤ fr ∧ fr < 64) ∧ (fr == st.id) = false ∧ rightB ep E = true := by
  simp only [goodB4, Bool.and_eq_true, nodeB_iff, Bool.not_eq_true'] at h
  exact ⟨h.1.1.1, h.1.1.2, h.1.2, h.2⟩
/-- What is known of the sensor's memory while Hear goes. -/
structure HW (w W : World) (s m q n : Nat) (st : St) (hv : Hd) (ep : Int) (A : Option Addr) (l c : Nat) : Prop where
  keep : Below w.heap.size w W
  box : W.heap[w.heap.size]? = some (.cells #[.int .i64 ep, .slice A l c] 34 (0, 0))
  own : OwnT W m n st.T
  mp : W.heap[q]? = some (.cells #[.map (some m)] 68 (0, 0))
  hd : W.heap[q + 1]? = some (.cells #[.int .i64 hv.e, .int .i64 hv.a, .bool hv.t] 75 (0, 0))
  lm : w.heap.size < m
  lq : m < q
  le : W.heap.size = q + 2
/-- The same, with the events so far. -/
structure HX (w W : World) (m q n : Nat) (st : St) (e a : Int) (t : Bool) (ep : Int) (A : Option Addr) (l c : Nat) (v : Value) (L : List Ev) : Prop where
  keep : Below w.heap.size w W
  box : W.heap[w.heap.size]? = some (.cells #[.int .i64 ep, .slice A l c] 34 (0, 0))
  own : OwnT W m n st.T
  mp : W.heap[q]? = some (.cells #[.map (some m)] 68 (0, 0))
  hd : W.heap[q + 1]? = some (.cells #[.int .i64 e, .int .i64 a, .bool t] 75 (0, 0))
  lm : w.heap.size < m
  lq : m < q
  le : q + 2 ≤ W.heap.size
  row : OwnV W (q + 2) v L
theorem HX.keeps {w W W' : World} {m q n : Nat} {st : St} {e a : Int} {t : Bool} {ep : Int} {A : Option Addr} {l c : Nat} {v v' : Value} {L L' : List Ev} (h : HX w W m q n st e a t ep A l c v L) (k : Keeps (fun i => q + 2 ≤ i) W W') (row : OwnV W' (q + 2) v' L') : HX w W' m q n st e a t ep A l c v' L' := by
  have h1 := h.lm; have h2 := h.lq
  exact ⟨((Keeps.below (S := fun i => q + 2 ≤ i) h.keep).andThen k (fun i _ e => e)).toBelow (Nat.le_refl _) (fun i e => by omega), k.heapAt h.box (by omega), h.own.keeps k (by omega), k.heapAt h.mp (by omega), k.heapAt h.hd (by omega), h1, h2, Nat.le_trans h.le k.size, row⟩
theorem HX.below {w W W' : World} {m q n : Nat} {st : St} {e a : Int} {t : Bool} {ep : Int} {A : Option Addr} {l c : Nat} {v : Value} {L : List Ev} (h : HX w W m q n st e a t ep A l c v L) (k : Below W.heap.size W W') : HX w W' m q n st e a t ep A l c v L :=
  h.keeps (Keeps.below k) (h.row.below k)
theorem HX.set {w W : World} {m q n : Nat} {st : St} {e a : Int} {t : Bool} {ep : Int} {A : Option Addr} {l c : Nat} {v : Value} {L : List Ev} (h : HX w W m q n st e a t ep A l c v L) (t' : Bool) : HX w (W.setCell ⟨q + 1, 2, none⟩ (.bool t')) m q n st e a t' ep A l c v L := by
  have h1 := h.lm; have h2 := h.lq
  have k : Keeps (fun i => i = q + 1) W (W.setCell ⟨q + 1, 2, none⟩ (.bool t')) := (Keeps.refl (fun i => i = q + 1) W).setCell (p := ⟨q + 1, 2, none⟩) (.inr rfl) _
  exact ⟨((Keeps.below (S := fun i => i = q + 1) h.keep).andThen k (fun i _ e => e)).toBelow (Nat.le_refl _) (fun i e => by omega), k.heapAt h.box (by omega), h.own.keeps k (by omega), k.heapAt h.mp (by omega), heap_set h.hd 2 _, h1, h2, Nat.le_trans h.le k.size, h.row.keeps k (fun g hg e => by have := h.row.base hg; omega)⟩
theorem HW.hx {w W : World} {s m q n : Nat} {st : St} {hv : Hd} {ep : Int} {A : Option Addr} {l c : Nat} (h : HW w W s m q n st hv ep A l c) : HX w W m q n st hv.e hv.a hv.t ep A l c (.slice none 0 0) [] :=
  ⟨h.keep, h.box, h.own, h.mp, h.hd, h.lm, h.lq, Nat.le_of_eq h.le.symm, OwnG.nil _ _ _ _ _⟩
set_option maxRecDepth 100000 in
set_option maxHeartbeats 4000000 in
theorem c15good {w : World} {s n : Nat} {st : St} (h : SAt w s n st) (hok : st.Ok) (hn : n ≤ 100000) (now fr ep : Int) {v : Value} {E : List Ec} (hv : RdE w v E) (hL : E.length ≤ 1000) (hgood : goodB4 st now fr ep E = true) :
    Calls Try.prog 15 #[.pointer (some ⟨s, 0, none⟩), .int .i64 now, .int .i64 fr, .agg #[.int .i64 ep, v]] w (HearPost w s n st now fr ep E) := by
  obtain ⟨htm, ⟨hf0, hf1⟩, hid, hr⟩ := goodB4_iff hgood
  have HE := hidd (hearErr_good hgood)
  obtain ⟨A, c, rfl⟩ := hv.form
  obtain ⟨p, b, h4, hp, hp0, hown, ls, lp⟩ := h.parts
  have HS := hidd h
  have HV := hidd hv
  have HOK := hidd hok
  have HP := hidd hp
  have HO := hidd hown
  have HR := hidd (show errB (rightB ep E) = 0 by rw [hr]; rfl)
  have hc0 : w.cell? ⟨s, 0, none⟩ = some (.int .i64 st.id) := by obtain ⟨p, b, h1, _⟩ := h; exact cell_of_heap h1 0
  have C28 := hidd ((c28 (h.below (Bl_alloc (Below.refl w.heap.size w) (.cells #[.int .i64 ep, .slice A E.length c] 34))) now).mono fun e w' q => (⟨by rw [← htm]; exact q.1, q.2⟩ : e = .returned (.bool true) ∧ World.alloc w (.cells #[.int .i64 ep, .slice A E.length c] 34) = w'))
  have j0 : decide (fr < 0) = false := by simp; omega
  have j1 : decide (64 ≤ fr) = false := by simp; omega
  have HNB := hidd (show (0 ≤ fr ∧ fr < 64) from ⟨hf0, hf1⟩)
  generalize hhv : st.T.at fr = hx
  have HHV := hidd hhv
  clear h hv hgood hok hp hown hr htm hhv
  go_enter Try.func15, Try.ntmps15
  go_upto_region 7 with (first
    | (go_at_call 28; refine C28.out.mono ?_; rintro e w' ⟨rfl, rfl⟩)
    | (go_at_call 25; refine (c25 ep (HV.out.below (Bl_alloc (Below.refl _ _) _)) hL).mono ?_; rw [HR.out]; rintro e w1 ⟨rfl, hb⟩; (have HB := hidd (Bl_then (Bl_alloc (Below.refl w.heap.size w) _) hb)); (have HBX := hidd ((hb.block w.heap.size (by simp)).trans (heap_new w _))); (have g4 := (HB.out.cell (p := ⟨s, 4, none⟩) ls).trans h4); (have g0 := (HB.out.cell (p := ⟨p, 0, none⟩) lp).trans hp0); clear hb)
    | (go_at_call 30; refine (c30 s 4 p _ _ g4 ((HB.out.block p lp).trans HP.out)).mono ?_; rintro e w2 ⟨rfl, rfl⟩)
    | (go_at_call 32; refine (c32 (HO.out.below HB.out)).mono ?_; rintro e w3 ⟨rfl, hT3, hb3⟩; (have HT3 := hidd hT3); (have HB3 := hidd hb3); (have hmL : ∀ o, (Instr.lookup 68 (.map (some w1.heap.size)) (.int .i64 fr) false).run Try.prog (w3.alloc o) = .ok (.agg #[.int .i64 hx.e, .int .i64 hx.a, .bool hx.t]) (w3.alloc o) := fun o => by have := (HT3.out.alloc o).lookup HNB.out.1 HNB.out.2; rw [HHV.out] at this; exact this); clear hT3 hb3))
  have hl3 := HB3.out.size
  have hl1 := HB.out.size
  have hl2 : w.heap.size < w1.heap.size := (Array.getElem?_eq_some_iff.1 HBX.out).1
  have hm1 := HT3.out.lt
  generalize hW : World.alloc (World.alloc w3 _) _ = W
  have hHW : HW w W s w1.heap.size w3.heap.size n st hx ep A E.length c := by
    rw [← hW]
    exact ⟨Bl_alloc (Bl_alloc (Bl_then HB.out HB3.out) _) _, heap_alloc (heap_alloc ((HB3.out.block _ hl2).trans HBX.out) _) _, (HT3.out.alloc _).alloc _, heap_alloc (heap_new _ _) _, heap_new_at (by simp), hl2, hm1, by simp⟩
  have HHW := hidd hHW
  have b0 : W.cell? ⟨w.heap.size, 0, none⟩ = some (.int .i64 ep) := cell_of_heap hHW.box 0
  have b1 : W.cell? ⟨w.heap.size, 1, none⟩ = some (.slice A E.length c) := cell_of_heap hHW.box 1
  have q0 : W.cell? ⟨w3.heap.size + 1, 0, none⟩ = some (.int .i64 hx.e) := cell_of_heap hHW.hd 0
  have q1 : W.cell? ⟨w3.heap.size + 1, 1, none⟩ = some (.int .i64 hx.a) := cell_of_heap hHW.hd 1
  have q2 : W.cell? ⟨w3.heap.size + 1, 2, none⟩ = some (.bool hx.t) := cell_of_heap hHW.hd 2
  have q3 : W.frozen? ⟨w3.heap.size + 1, 2, none⟩ = false := free_of_heap hHW.hd 2
  have hsz := hHW.keep.size
  generalize w3.heap.size = q at *
  generalize w1.heap.size = m at *
  clear hmL hW hHW hl3 hl1 hl2 hm1
  by_cases hold : ep < hx.e
  · go_wp2
    go_ret2
    have e10 : hearErr st now fr ep E = 10 := by rw [HE.out, HHV.out, if_pos hold]
    exact .inl ⟨by rw [e10]; simp, by rw [e10]; rfl, HHW.out.keep⟩
  go_upto_region 10 with fail
  go_cut [66] (fun v wx => v = .bool (newer hx ep) ∧ wx = W)
  case first =>
    cases ht : hx.t with
    | false =>
      go_wp2
      go_meet
      exact ⟨by simp [newer, ht], rfl⟩
    | true =>
      go_wp2
      go_meet
      exact ⟨by simp [newer, ht], rfl⟩
  case rest =>
    obtain ⟨rfl, hww⟩ := hcut
    have hww' := hww.symm
    clear hww
    subst hww'
    go_upto_if 66 with fail
    go_cut [12] (fun v wx => HX w wx m q n st hx.e hx.a (hx.t && !newer hx ep) ep A E.length c v (if newer hx ep then [⟨2, fr, hx.e⟩] else []))
    case first =>
      cases hnw : newer hx ep with
      | false =>
        go_wp2
        go_meet
        simpa [hnw] using HHW.out.hx
      | true =>
        have hnt : hx.t = true := by unfold newer at hnw; simp at hnw; exact hnw.1
        have HN := hidd hnw
        clear hnw
        go_wp2_with (at_builtin; go_loud (refine wpList_app info49 Try.underlying37 rfl (by decide) (by decide) ev_len ev_one rfl (.tmp 67) (.tmp 72) rfl (q + 2) _ [] rfl (OwnG.nil _ _ _ _ _) _ ⟨2, fr, hx.e⟩ rfl ?_ ?_ ?_ ?_; (exact ev_new rfl ⟨2, fr, hx.e⟩ _); (simp); (have := HHW.out.le; simp; omega); intro v' w4 hown4 hg4; (have hk4 : Keeps (fun i => q + 2 ≤ i) W w4 := ((Keeps.refl _ _).alloc _).grown hg4 (fun i hi => by cases hi)); (have HX4 := hidd (HHW.out.hx.keeps hk4 hown4)); (have c1 : w4.cell? ⟨q + 1, 2, none⟩ = some (.bool hx.t) := cell_of_heap HX4.out.hd 2); (have c2 : w4.frozen? ⟨q + 1, 2, none⟩ = false := free_of_heap HX4.out.hd 2); clear hown4 hg4 hk4))
        go_meet
        simp only [HN.out, Bool.not_true, Bool.and_false, if_true]
        exact HX4.out.set false
    case rest =>
      have HC := hidd hcut
      generalize ht2 : (hx.t && !newer hx ep) = t2 at *
      generalize hL1 : (if newer hx ep = true then [(⟨2, fr, hx.e⟩ : Ev)] else []) = L1 at *
      have HT2 := hidd ht2
      have HL1 := hidd hL1
      have m0 : wc.cell? ⟨w.heap.size, 0, none⟩ = some (.int .i64 ep) := cell_of_heap hcut.box 0
      have m1 : wc.cell? ⟨w.heap.size, 1, none⟩ = some (.slice A E.length c) := cell_of_heap hcut.box 1
      have m2 : wc.cell? ⟨s, 0, none⟩ = some (.int .i64 st.id) := (hcut.keep.cell (p := ⟨s, 0, none⟩) ls).trans hc0
      have hlc := hcut.le
      have hqm := hcut.lq
      have hqm2 := hcut.lm
      clear hcut ht2 hL1 b0 b1 q0 q1 q2 q3
      go_upto_region 13 with fail
      go_region_held3 (fun w' => w'.cell? ⟨w.heap.size, 0, none⟩ = some (.int .i64 ep) ∧ w'.cell? ⟨w.heap.size, 1, none⟩ = some (.slice A E.length c) ∧ w'.cell? ⟨s, 0, none⟩ = some (.int .i64 st.id)) (refine ⟨?_, ?_, ?_⟩ <;> (repeat (first | with_reducible assumption | (with_reducible refine drew_cell ?_) | (with_reducible refine alloc_cell ?_))))
        (first | (go_at_call 24; refine (c24 ep st.id (HV.out.below (by repeat (first | exact HC.out.keep | with_reducible refine Bl_drew ?_ | with_reducible refine Below.drewN ?_ _))) hL).mono ?_; rintro e w5 ⟨rfl, hb5⟩; (have tt0 : w5.cell? ⟨w.heap.size, 0, none⟩ = some (.int .i64 ep) := (hb5.cell (p := ⟨w.heap.size, 0, none⟩) (by first | (simp; done) | (simp; omega))).trans m0); (have tt1 : w5.cell? ⟨w.heap.size, 1, none⟩ = some (.slice A E.length c) := (hb5.cell (p := ⟨w.heap.size, 1, none⟩) (by first | (simp; done) | (simp; omega))).trans m1); (have tt2 : w5.cell? ⟨s, 0, none⟩ = some (.int .i64 st.id) := (hb5.cell (p := ⟨s, 0, none⟩) (by first | (simp; done) | (simp; omega))).trans m2); (have HB5 := hidd hb5); clear hb5))
      have HX5 := hidd (HC.out.below ((Bl_drew (Below.refl wc.heap.size wc)).trans HB5.out))
      have m3 : w5.cell? ⟨s, 1, none⟩ = some (.int .i64 st.ep) := (HX5.out.keep.cell (p := ⟨s, 1, none⟩) ls).trans (by obtain ⟨p, b, h1, _⟩ := HS.out; exact cell_of_heap h1 1)
      have m4 : w5.cell? ⟨q + 1, 2, none⟩ = some (.bool t2) := cell_of_heap HX5.out.hd 2
      have HTB := hidd (show thereB st E = (heardO (heardB E st.id) && (heardN (heardB E st.id) == st.ep)) from rfl)
      obtain ⟨tb, htb⟩ : ∃ tb, thereB st E = tb := ⟨_, rfl⟩
      rw [htb] at HTB
      have HTB2 := hidd htb
      generalize heardO (heardB E st.id) = ho0 at *
      generalize heardN (heardB E st.id) = hn0 at *
      clear m0 m1 m2 htb
      go_upto_region 14 with fail
      go_cut [15] (fun v wx => v = .bool tb ∧ wx = w5)
      case first =>
        cases ho0 with
        | false =>
          go_wp2
          go_meet
          exact ⟨by rw [HTB.out]; rfl, rfl⟩
        | true =>
          go_wp2
          go_meet
          exact ⟨by rw [HTB.out]; rfl, rfl⟩
      case rest =>
        obtain ⟨rfl, hww⟩ := hcut
        have hww' := hww.symm
        clear hww
        subst hww'
        obtain ⟨A5, c5, rfl⟩ := (HX5.out.row.rd ev_len).form
        generalize hl5 : L1.length = l5 at *
        have HL5 := hidd (show l5 ≤ 1 by rw [← hl5, ← HL1.out]; split <;> simp)
        have HL6 := hidd hl5
        have m0 : w5.cell? ⟨w.heap.size, 0, none⟩ = some (.int .i64 ep) := tt0
        have hl6 := HX5.out.le
        clear tt0 tt1 hl5
        go_upto_block 0 with fail
        go_cut [12] (fun v wx => HX w wx m q n st hx.e hx.a t2 ep A E.length c v (L1 ++ if tb then (if t2 then [] else [⟨1, fr, ep⟩]) else (if t2 then [⟨2, fr, ep⟩] else [])))
        case first =>
          cases tb <;> cases t2
          all_goals
            go_wp2_with (first | (at_builtin; refine wpList_app info49 Try.underlying37 rfl (by decide) (by decide) ev_len ev_one rfl (.tmp 100) (.tmp 105) rfl (q + 2) _ L1 rfl (HX5.out.row.alloc _) _ ⟨1, fr, ep⟩ rfl ?_ ?_ ?_ ?_; (exact ev_new rfl ⟨1, fr, ep⟩ _); (have := HL5.out; have := HL6.out; omega); (simp; omega); intro v' w4 hown4 hg4; (have HX6 := hidd (HX5.out.keeps (((Keeps.refl _ _).alloc _).grown hg4 (fun i hi => .inr (HX5.out.row.base hi))) hown4)); clear hown4 hg4) | (at_builtin; refine wpList_app info49 Try.underlying37 rfl (by decide) (by decide) ev_len ev_one rfl (.tmp 114) (.tmp 119) rfl (q + 2) _ L1 rfl (HX5.out.row.alloc _) _ ⟨2, fr, ep⟩ rfl ?_ ?_ ?_ ?_; (exact ev_new rfl ⟨2, fr, ep⟩ _); (have := HL5.out; have := HL6.out; omega); (simp; omega); intro v' w4 hown4 hg4; (have HX6 := hidd (HX5.out.keeps (((Keeps.refl _ _).alloc _).grown hg4 (fun i hi => .inr (HX5.out.row.base hi))) hown4)); clear hown4 hg4))
            go_meet
            first | (simpa using HX6.out) | (simpa using HX5.out)
        case rest =>
          have HC6 := hidd hcut
          obtain ⟨p', b', hs1, hp1, hown1⟩ := HS.out
          have hs6 := (hcut.keep.block s ls).trans hs1
          have z0 : wc.cell? ⟨q, 0, none⟩ = some (.map (some m)) := cell_of_heap hcut.mp 0
          have z1 : wc.cell? ⟨w.heap.size, 0, none⟩ = some (.int .i64 ep) := cell_of_heap hcut.box 0
          have hmp := hcut.mp
          have hle := hcut.le
          have HS6 := hidd hs6
          have HMP := hidd hmp
          have hfr := HNB.out
          clear hcut hs1 hp1 hown1 hs6 hmp m0 m3 m4
          go_wp2_with (first | (at_mapUpdate; refine wpList_put rfl _ _ _ rfl m n st.T rfl HC6.out.own fr ⟨ep, now, tb⟩ rfl rfl hfr.1 hfr.2 hn ?_; intro w7 hown7 hk7; (have HO7 := hidd hown7); (have HK7 := hidd hk7); (have hs7 := hk7.heapAt HS6.out (by omega)); (have hq7 := hk7.heapAt HMP.out (by omega)); clear hown7 hk7) | (go_at_call 26; refine Calls.mono (c26 s 4 q _ _ _ (cell_of_heap hs7 4) (free_of_heap hs7 4) (cell_of_heap hq7 0)) ?_; rintro e w8 ⟨rfl, hw8⟩; (have y1 : w8.cell? ⟨s, 3, none⟩ = some (.int .i64 st.now) := by rw [← hw8]; exact cell_of_heap (heap_set hs7 4 _) 3); (have y2 : w8.frozen? ⟨s, 3, none⟩ = false := by rw [← hw8]; exact free_of_heap (heap_set hs7 4 _) 3); (have HW8 := hidd hw8); clear hw8))
          go_ret2
          have e0 : hearErr st now fr ep E = 0 := by rw [HE.out, HHV.out, if_neg (by omega)]
          have hout : hearOut st fr ep E = L1 ++ (if tb then (if t2 then [] else [⟨1, fr, ep⟩]) else (if t2 then [⟨2, fr, ep⟩] else [])) := by
            unfold hearOut
            rw [HHV.out, HTB2.out, HT2.out, HL1.out]
          have hs3 : s ≠ m := by omega
          have hs4 : q ≠ s := by omega
          have hs5 : m ≠ s := by omega
          refine .inr ⟨e0, _, rfl, ?_, ?_, ?_⟩
          · rw [← HW8.out, hout]
            have h1 := HC6.out.row.keeps HK7.out (fun g hg e => by have := HC6.out.row.base hg; omega)
            have h2 := h1.keeps (((Keeps.refl (fun i => i = s) w7).setCell (p := ⟨s, 4, none⟩) (.inr rfl) (.pointer (some ⟨q, 0, none⟩))).setCell (p := ⟨s, 3, none⟩) (.inr rfl) (.int .i64 now)) (fun g hg e => by have := h1.base hg; omega)
            exact h2.lower (by omega)
          · rw [← HW8.out]
            refine ⟨q, m, heap_set (heap_set hs7 4 _) 3 _, heap_set_ne (heap_set_ne hq7 hs4 _ _) hs4 _ _, ?_⟩
            have h1 := HO7.out.keeps (((Keeps.refl (fun i => i = s) w7).setCell (p := ⟨s, 4, none⟩) (.inr rfl) (.pointer (some ⟨q, 0, none⟩))).setCell (p := ⟨s, 3, none⟩) (.inr rfl) (.int .i64 now)) hs5
            simpa [St.hear, HTB2.out] using h1
          · rw [← HW8.out]
            exact (((Keeps.below (S := fun i => i = s) HC6.out.keep).andThen HK7.out (fun i hi e => by omega)).setCell (.inr rfl) _).setCell (.inr rfl) _
theorem c15 {w : World} {s n : Nat} {st : St} (h : SAt w s n st) (hok : st.Ok) (hn : n ≤ 100000) (now fr ep : Int) {v : Value} {E : List Ec} (hv : RdE w v E) (hL : E.length ≤ 1000) :
    Calls Try.prog 15 #[.pointer (some ⟨s, 0, none⟩), .int .i64 now, .int .i64 fr, .agg #[.int .i64 ep, v]] w (HearPost w s n st now fr ep E) := by
  cases hg : goodB4 st now fr ep E with
  | false => exact c15bad h now fr ep hv hL hg
  | true => exact c15good h hok hn now fr ep hv hL hg
end Go.Proofs.Ytocfnimeinongaa
