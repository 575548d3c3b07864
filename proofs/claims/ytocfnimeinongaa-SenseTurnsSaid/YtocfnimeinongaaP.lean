/- The walk of awake; of SenseNil. -/
import Derived.Test.YtocfnimeinongaaO
set_option linter.unusedSimpArgs false
set_option linter.unusedVariables false
namespace Go.Proofs.Ytocfnimeinongaa
open Go.RowKit
attribute [local go_sem ↓] Go.wp_at_zero Go.wp_at_succ
theorem HearPost.ok {w : World} {s n : Nat} {st : St} {now fr ep : Int} {E : List Ec} {e : Ending} {w' : World} (h : HearPost w s n st now fr ep E e w') (he : hearErr st now fr ep E = 0) :
    ∃ A c, e = .returned (.tuple #[.slice A (hearOut st fr ep E).length c, .int .i64 0]) ∧ OwnV w' w.heap.size (.slice A (hearOut st fr ep E).length c) (hearOut st fr ep E) ∧ SAt w' s (n + 1) (st.hear now fr ep E) ∧ Keeps (fun i => i = s) w w' := by
  rcases h with ⟨h, _⟩ | ⟨_, v, rfl, h1, h2, h3⟩
  · exact absurd he h
  · obtain ⟨A, c, rfl⟩ := (h1.rd ev_len).form
    exact ⟨A, c, rfl, h1, h2, h3⟩
theorem TickPost.ok {w : World} {s n : Nat} {st : St} {now : Int} {e : Ending} {w' : World} (h : TickPost w s n st now e w') (he : timeB st now = true) :
    ∃ A c, e = .returned (.tuple #[.slice A (tickOut st now).length c, .int .i64 0]) ∧ OwnV w' w.heap.size (.slice A (tickOut st now).length c) (tickOut st now) ∧ SAt w' s 64 (st.tick now) ∧ Keeps (fun i => i = s) w w' := by
  rcases h with ⟨h, _⟩ | ⟨_, v, rfl, h1, h2, h3⟩
  · rw [he] at h; cases h
  · obtain ⟨A, c, rfl⟩ := (h1.rd ev_len).form
    exact ⟨A, c, rfl, h1, h2, h3⟩
theorem rd_new_v {w : World} {g : Nat} (hg : g = w.heap.size) (x : Ev) (T : TypeId) (m : Nat × Nat) : RdV (w.alloc (.cells #[.int .i64 x.k, .int .i64 x.n, .int .i64 x.e] T m)) (.slice (some ⟨g, 0, none⟩) 1 1) [x] := by
  refine ⟨_, 1, rfl, .inr ⟨g, 0, rfl, by simp [hg], fun k a ha i u hu => ?_⟩⟩
  have hk : k = 0 := by
    have := (List.getElem?_eq_some_iff.1 ha).1
    simp at this; exact this
  subst hk
  simp at ha
  subst ha
  rw [cell_of_heap (heap_new_at hg)]
  simpa [Ev.cells] using hu
theorem rd_new_e {w : World} {g : Nat} (hg : g = w.heap.size) (x : Ec) (T : TypeId) (m : Nat × Nat) : RdE (w.alloc (.cells #[.int .i64 x.i, .int .i64 x.e] T m)) (.slice (some ⟨g, 0, none⟩) 1 1) [x] := by
  refine ⟨_, 1, rfl, .inr ⟨g, 0, rfl, by simp [hg], fun k a ha i u hu => ?_⟩⟩
  have hk : k = 0 := by
    have := (List.getElem?_eq_some_iff.1 ha).1
    simp at this; exact this
  subst hk
  simp at ha
  subst ha
  rw [cell_of_heap (heap_new_at hg)]
  simpa [Ec.cells] using hu
theorem NewPost.ok {w : World} {id ep hold : Int} {e : Ending} {w' : World} (h : NewPost w id ep hold e w') (hn : newB id ep hold = true) : ∃ s, e = .returned (.tuple #[.pointer (some ⟨s, 0, none⟩), .int .i64 0]) ∧ SAt w' s 0 (St.new id ep hold) ∧ w.heap.size ≤ s ∧ Below w.heap.size w w' := by
  rcases h with ⟨hb, ⟨h, _⟩ | ⟨_, s, rfl, h1, h2⟩⟩
  · rw [hn] at h; cases h
  · exact ⟨s, rfl, h1, h2, hb⟩
theorem Keeps.bl {s : Nat} {w0 w w' : World} (h : Below w0.heap.size w0 w) (k : Keeps (fun i => i = s) w w') (hs : w0.heap.size ≤ s) : Below w0.heap.size w0 w' :=
  h.trans (k.toBelow h.size (fun i e => by omega))
/-- The example's sensors. -/
def aw0 : St := St.new 1 5 10
def aw1 : St := aw0.hear 0 2 7 []
def aw2 : St := aw1.hear 1 2 7 [⟨1, 5⟩]
def aw3 : St := aw2.tick 11
theorem awn : newB 1 5 10 = true := by decide
theorem awk0 : aw0.Ok := St.Ok.new awn
theorem awe1 : hearErr aw0 0 2 7 [] = 0 := by decide
theorem awk1 : aw1.Ok := awk0.hear awe1
theorem awo1 : hearOut aw0 2 7 [] = [] := by decide
theorem awe2 : hearErr aw1 1 2 7 [⟨1, 5⟩] = 0 := by decide
theorem awk2 : aw2.Ok := awk1.hear awe2
theorem awo2 : hearOut aw1 2 7 [⟨1, 5⟩] = [⟨1, 2, 7⟩] := by rfl
theorem awe3 : timeB aw2 11 = true := by decide
theorem awk3 : aw3.Ok := awk2.tick awe3
theorem awo3 : tickOut aw2 11 = [] := by rfl
theorem awe4 : timeB aw3 12 = true := by decide
theorem awo4 : tickOut aw3 12 = [⟨2, 2, 7⟩] := by rfl
set_option maxRecDepth 100000 in
set_option maxHeartbeats 4000000 in
theorem c12 (w : World) : Calls Try.prog 12 #[] w fun e w' => e = .returned (.bool true) ∧ Below w.heap.size w w' := by
  go_enter Try.func12, Try.ntmps12
  go_wp2_with fail
  refine (c10 1 5 10 w).mono ?_
  rintro e w1 h1
  obtain ⟨s, rfl, hs1, hls, hb1⟩ := h1.ok awn
  have HS1 := hidd hs1
  have HB1 := hidd hb1
  clear hs1 hb1 h1
  go_wp2_with fail
  refine (c15 (st := aw0) HS1.out awk0 (by omega) 0 2 7 (RdG.nil _ _ _) (by simp)).mono ?_
  rintro e w2 h2
  obtain ⟨A2, k2, rfl, ho2, hs2, hk2⟩ := h2.ok awe1
  rw [awo1]
  have HS2 := hidd hs2
  have HB2 := hidd (Keeps.bl HB1.out hk2 hls)
  clear ho2 hs2 hk2 h2
  go_wp2_with fail
  refine (c15 (st := aw1) (E := [⟨1, 5⟩]) (HS2.out.below (Bl_alloc (Below.refl _ _) _)) awk1 (by omega) 1 2 7 (rd_new_e rfl ⟨1, 5⟩ _ _) (by simp)).mono ?_
  rintro e w3 h3
  obtain ⟨A3, k3, rfl, ho3, hs3, hk3⟩ := h3.ok awe2
  rw [awo2] at ho3 ⊢
  have ls2 := HS2.out.lt
  have HS3 := hidd (show SAt w3 s 2 aw2 from hs3)
  have HO3 := hidd ho3
  have HB3 := hidd (Keeps.bl (Bl_alloc HB2.out _) hk3 hls)
  clear ho3 hs3 hk3 h3
  go_wp2_with fail
  refine (c13 HS3.out awk2 (by omega) 11).mono ?_
  rintro e w4 h4
  obtain ⟨A4, k4, rfl, ho4, hs4, hk4⟩ := h4.ok awe3
  rw [awo3]
  have HS4 := hidd (show SAt w4 s 64 aw3 from hs4)
  have ho34 := HO3.out.keeps hk4 (fun g hg e => by have := HO3.out.base hg; simp at this; omega)
  have HO4 := hidd ho34
  have HB4 := hidd (Keeps.bl HB3.out hk4 hls)
  clear ho4 hs4 hk4 h4 ho34
  go_wp2_with fail
  refine (c13 HS4.out awk3 (by omega) 12).mono ?_
  rintro e w5 h5
  obtain ⟨A5, k5, rfl, ho5, hs5, hk5⟩ := h5.ok awe4
  rw [awo4] at ho5 ⊢
  have ho45 := HO4.out.keeps hk5 (fun g hg e => by have := HO4.out.base hg; simp at this; omega)
  have HO5 := hidd ho45
  have HV5 := hidd ho5
  have HB5 := hidd (Keeps.bl HB4.out hk5 hls)
  clear ho5 hs5 hk5 h5 ho45
  go_wp2_with fail
  refine (c17 (L := [⟨1, 2, 7⟩]) (((HO5.out.rd ev_len)).below (Bl_alloc (Below.refl _ _) _)) (rd_new_v rfl ⟨1, 2, 7⟩ _ _) (by simp)).mono ?_
  rintro e w6 ⟨rfl, hb6⟩
  have HB6 := hidd hb6
  clear hb6
  go_wp2_with fail
  refine (c17 (L := [⟨2, 2, 7⟩]) ((((HV5.out.rd ev_len).below (Bl_alloc (Below.refl _ _) _)).below HB6.out).below (Bl_alloc (Below.refl _ _) _)) (rd_new_v rfl ⟨2, 2, 7⟩ _ _) (by simp)).mono ?_
  rintro e w7 ⟨rfl, hb7⟩
  have HB7 := hidd (Bl_then (Bl_alloc (Bl_then (Bl_alloc HB5.out _) HB6.out) _) hb7)
  clear hb7
  go_wp2_with fail
  go_ret
  exact ⟨rfl, HB7.out⟩
set_option maxRecDepth 100000 in
set_option maxHeartbeats 4000000 in
theorem law7 (now fr ep : Int) (A : Option Addr) (l c : Nat) (w : World) (hl : l ≤ 9223372036854775807) :
    Calls Try.prog 7 #[.int .i64 now, .int .i64 fr, .agg #[.int .i64 ep, .slice A l c]] w fun e w' => e = .returned (.bool true) ∧ Below w.heap.size w w' := by
  by_cases h80 : 80 < l
  · have hd : (80 : Int) < l := by omega
    go_enter Try.func7, Try.ntmps7
    go_wp2
    go_ret
    exact ⟨rfl, Bl_alloc (Below.refl _ _) _⟩
  · have hd : ¬ (80 : Int) < l := by omega
    go_enter Try.func7, Try.ntmps7
    go_wp2_with fail
    refine (c15n now fr ep A l c _).mono ?_
    rintro e w1 ⟨rfl, hb1⟩
    have HB1 := hidd (Bl_then (Bl_alloc (Below.refl w.heap.size w) (.cells #[.int .i64 ep, .slice A l c] 34)) hb1)
    clear hb1
    go_wp2_with fail
    refine (c13n now _).mono ?_
    rintro e w2 ⟨rfl, rfl⟩
    go_wp2_with fail
    refine (c12 _).mono ?_
    rintro e w3 ⟨rfl, hb3⟩
    have HB3 := hidd (Bl_then HB1.out hb3)
    clear hb3
    go_wp2_with fail
    refine (c22n _).mono ?_
    rintro e w4 ⟨rfl, hb4⟩
    have HB4 := hidd (Bl_then HB3.out hb4)
    clear hb4
    go_wp2_with fail
    refine (c19n _).mono ?_
    rintro e w5 ⟨rfl, hb5⟩
    have HB5 := hidd (Bl_then HB4.out hb5)
    clear hb5
    go_wp2_with fail
    refine (c18 (L := []) 0 (RdG.nil _ _ _) (RdG.nil _ _ _) (by simp)).mono ?_
    rintro e w6 ⟨rfl, hb6⟩
    have HB6 := hidd (Bl_then HB5.out hb6)
    clear hb6
    go_wp2_with fail
    go_ret
    exact ⟨rfl, HB6.out⟩
theorem law7' (now fr ep : Int) (v : Value) (E : List Ec) (w : World) (h : RdE w v E) (hl : E.length ≤ maxLen) :
    Calls Try.prog 7 #[.int .i64 now, .int .i64 fr, .agg #[.int .i64 ep, v]] w fun e w' => e = .returned (.bool true) ∧ Below w.heap.size w w' := by
  obtain ⟨A, c, rfl⟩ := h.form
  exact law7 now fr ep A _ c w (by unfold maxLen at hl; omega)
end Go.Proofs.Ytocfnimeinongaa
