/- What a sensor is said to do; the walks of New and of time. -/
import Derived.Test.YtocfnimeinongaaD
set_option linter.unusedSimpArgs false
set_option linter.unusedVariables false
namespace Go.Proofs.Ytocfnimeinongaa
open Go.RowKit
attribute [local go_sem ↓] Go.wp_at_zero Go.wp_at_succ
structure Ev where
  (k n e : Int)
def Ev.cells (x : Ev) : List Value := [.int .i64 x.k, .int .i64 x.n, .int .i64 x.e]
abbrev RdV := RdG Ev.cells 3
abbrev OwnV := OwnG Ev.cells 3 49
abbrev OwnE := OwnG Ec.cells 2 51
def timeB (st : St) (now : Int) : Bool := decide (st.now ≤ now) && decide (now ≤ 1000000000000)
def newB (id ep hold : Int) : Bool := nodeB id && epB ep && decide (1 ≤ hold) && decide (hold ≤ 1000000)
def hearErr (st : St) (now fr ep : Int) (E : List Ec) : Int :=
  if (timeB st now && nodeB fr && !(fr == st.id) && rightB ep E) = false then 1 else if ep < (st.T.at fr).e then 10 else 0
def thereB (st : St) (E : List Ec) : Bool := heardO (heardB E st.id) && (heardN (heardB E st.id) == st.ep)
def newer (h : Hd) (ep : Int) : Bool := h.t && decide (h.e < ep)
def hearOut (st : St) (fr ep : Int) (E : List Ec) : List Ev :=
  (if newer (st.T.at fr) ep then [⟨2, fr, (st.T.at fr).e⟩] else []) ++
  (if thereB st E then (if (st.T.at fr).t && !newer (st.T.at fr) ep then [] else [⟨1, fr, ep⟩])
    else (if (st.T.at fr).t && !newer (st.T.at fr) ep then [⟨2, fr, ep⟩] else []))
def St.hear (st : St) (now fr ep : Int) (E : List Ec) : St := ⟨st.id, st.ep, st.hold, now, st.T.put fr ⟨ep, now, thereB st E⟩⟩
def keepB (st : St) (now : Int) (h : Hd) : Bool := decide (now - h.a ≤ st.hold)
def evAt (T : Tab) (k : Int) : Ev := ⟨2, k, (T.at k).e⟩
def goneB (st : St) (now : Int) (k : Int) : Bool := !keepB st now (st.T.at k) && (st.T.at k).t
def tickOut (st : St) (now : Int) : List Ev := ((keysL st.T).filter (goneB st now)).map (evAt st.T)
def St.tick (st : St) (now : Int) : St := ⟨st.id, st.ep, st.hold, now, fun k => (st.T k).filter (keepB st now)⟩
def ecAt (T : Tab) (k : Int) : Ec := ⟨k, (T.at k).e⟩
def echoL (T : Tab) : List Ec := (keysL T).map (ecAt T)
def linkL (T : Tab) : List Ec := (echoL T).filter fun x => (T.at x.i).t
def St.new (id ep hold : Int) : St := ⟨id, ep, hold, 0, fun _ => none⟩
structure St.Ok (st : St) : Prop where
  id0 : 0 ≤ st.id
  id1 : st.id < 64
  ep : epB st.ep = true
  h0 : 1 ≤ st.hold
  h1 : st.hold ≤ 1000000
  n0 : 0 ≤ st.now
  n1 : st.now ≤ 1000000000000
  tab : ∀ k h, st.T k = some h → (0 ≤ k ∧ k < 64 ∧ k ≠ st.id) ∧ epB h.e = true ∧ 0 ≤ h.a ∧ h.a ≤ st.now
theorem St.Ok.tabOk {st : St} (h : st.Ok) : TabOk st.T := fun k x e => ⟨(h.tab k x e).1.1, (h.tab k x e).1.2.1⟩
theorem epB_iff {x : Int} : epB x = true ↔ 0 ≤ x ∧ x ≤ 4294967295 := by simp [epB]
theorem nodeB_iff {x : Int} : nodeB x = true ↔ 0 ≤ x ∧ x < 64 := by simp [nodeB]
theorem St.Ok.new {id ep hold : Int} (h : newB id ep hold = true) : (St.new id ep hold).Ok := by
  simp only [newB, Bool.and_eq_true, decide_eq_true_eq, nodeB_iff] at h
  obtain ⟨⟨⟨⟨h1, h2⟩, h3⟩, h4⟩, h5⟩ := h
  exact ⟨h1, h2, h3, h4, h5, by simp [St.new], by simp [St.new], fun k x e => by cases e⟩
theorem St.Ok.at {st : St} (h : st.Ok) (k : Int) : 0 ≤ (st.T.at k).e ∧ (st.T.at k).e ≤ 4294967295 ∧ 0 ≤ (st.T.at k).a ∧ (st.T.at k).a ≤ st.now := by
  unfold Tab.at
  cases e : st.T k with
  | none => simp [hdz]; exact h.n0
  | some x =>
    have := h.tab k x e
    have h2 := epB_iff.1 this.2.1
    exact ⟨h2.1, h2.2, this.2.2.1, this.2.2.2⟩
theorem St.Ok.tick {st : St} (h : st.Ok) {now : Int} (ht : timeB st now = true) : (st.tick now).Ok := by
  simp only [timeB, Bool.and_eq_true, decide_eq_true_eq] at ht
  refine ⟨h.id0, h.id1, h.ep, h.h0, h.h1, by have := h.n0; simp [St.tick]; omega, ht.2, fun k x e => ?_⟩
  have e' : st.T k = some x := (Option.filter_eq_some_iff.1 e).1
  have := h.tab k x e'
  exact ⟨this.1, this.2.1, this.2.2.1, by have := this.2.2.2; simp [St.tick]; omega⟩
theorem hearErr_zero {st : St} {now fr ep : Int} {E : List Ec} (h : hearErr st now fr ep E = 0) : timeB st now = true ∧ nodeB fr = true ∧ fr ≠ st.id ∧ rightB ep E = true ∧ (st.T.at fr).e ≤ ep := by
  unfold hearErr at h
  split at h
  · cases h
  · rename_i h1
    split at h
    · cases h
    · rename_i h2
      simp at h1
      exact ⟨h1.1, h1.2.1, h1.2.2.1, h1.2.2.2, by omega⟩
theorem rightB_ep {ep : Int} {E : List Ec} (h : rightB ep E = true) : epB ep = true := by
  unfold rightB at h
  simp only [Bool.and_eq_true] at h
  exact h.1
theorem St.Ok.hear {st : St} (h : st.Ok) {now fr ep : Int} {E : List Ec} (ht : hearErr st now fr ep E = 0) : (st.hear now fr ep E).Ok := by
  obtain ⟨h1, h2, h3, h4, h5⟩ := hearErr_zero ht
  simp only [timeB, Bool.and_eq_true, decide_eq_true_eq] at h1
  have hn := h.n0
  refine ⟨h.id0, h.id1, h.ep, h.h0, h.h1, by simp [St.hear]; omega, h1.2, fun k x e => ?_⟩
  simp only [St.hear, Tab.put] at e
  by_cases hk : k = fr
  · rw [if_pos hk] at e
    cases e
    have := nodeB_iff.1 h2
    exact ⟨⟨by omega, by omega, by simp [St.hear]; rw [hk]; exact h3⟩, rightB_ep h4, by simp; omega, by simp [St.hear]⟩
  · rw [if_neg hk] at e
    have := h.tab k x e
    exact ⟨this.1, this.2.1, this.2.2.1, by have := this.2.2.2; simp [St.hear]; omega⟩
/-- The reference's sensor in memory: block y, its row in block r. -/
def rowR (T : Tab) (k : Int) : List Value := [.bool (T k).isSome, .int .i64 (T.at k).e, .int .i64 (T.at k).a, .bool (T.at k).t]
def RAt (w : World) (y : Nat) (st : St) : Prop := ∃ r cs,
  w.heap[y]? = some (.cells #[.int .i64 st.id, .int .i64 st.ep, .int .i64 st.hold, .int .i64 st.now, .slice (some ⟨r, 0, none⟩) 64 64] 72 (0, 0)) ∧ w.heap[r]? = some (.cells cs 78 (0, 0)) ∧
  ∀ k : Nat, k < 64 → ∀ i u, (rowR st.T k)[i]? = some u → cs[k * 4 + i]? = some u
theorem RAt.keeps {w w' : World} {y : Nat} {st : St} (h : RAt w y st) {S : Nat → Prop} (k : Keeps S w w') (hS : ∀ i, i < w.heap.size → ¬ S i) : RAt w' y st := by
  obtain ⟨r, cs, h1, h2, h3⟩ := h
  exact ⟨r, cs, k.heapAt h1 (hS _ (Array.getElem?_eq_some_iff.1 h1).1), k.heapAt h2 (hS _ (Array.getElem?_eq_some_iff.1 h2).1), h3⟩
theorem RAt.below {w w' : World} {y : Nat} {st : St} (h : RAt w y st) (k : Below w.heap.size w w') : RAt w' y st :=
  h.keeps (Keeps.below (S := fun _ => False) k) (fun _ _ x => x)
theorem c28 {w : World} {s n : Nat} {st : St} (h : SAt w s n st) (now : Int) :
    Calls Try.prog 28 #[.pointer (some ⟨s, 0, none⟩), .int .i64 now] w fun e w' => e = .returned (.bool (timeB st now)) ∧ w = w' := by
  obtain ⟨p, b, hs, hp, hown⟩ := h
  have hc : w.cell? ⟨s, 3, none⟩ = some (.int .i64 st.now) := cell_of_heap hs 3
  clear hs hp hown
  cases h0 : decide (st.now ≤ now) with
  | true =>
    go_enter Try.func28, Try.ntmps28
    go_wp2
    go_ret
    exact ⟨by simp [timeB, h0], rfl⟩
  | false =>
    go_enter Try.func28, Try.ntmps28
    go_wp2
    go_ret
    exact ⟨by simp [timeB, h0], rfl⟩
theorem c31 {w : World} {y : Nat} {st : St} (h : RAt w y st) (now : Int) :
    Calls Try.prog 31 #[.pointer (some ⟨y, 0, none⟩), .int .i64 now] w fun e w' => e = .returned (.bool (timeB st now)) ∧ w = w' := by
  obtain ⟨r, cs, hs, hp, hown⟩ := h
  have hc : w.cell? ⟨y, 3, none⟩ = some (.int .i64 st.now) := cell_of_heap hs 3
  clear hs hp hown
  cases h0 : decide (st.now ≤ now) with
  | true =>
    go_enter Try.func31, Try.ntmps31
    go_wp2
    go_ret
    exact ⟨by simp [timeB, h0], rfl⟩
  | false =>
    go_enter Try.func31, Try.ntmps31
    go_wp2
    go_ret
    exact ⟨by simp [timeB, h0], rfl⟩
theorem heap_new_at {W : World} {k : Nat} {o : Obj} (h : k = W.heap.size) : (W.alloc o).heap[k]? = some o := h ▸ heap_new W o
theorem Bl_set {w W : World} (h : Below w.heap.size w W) {b : Nat} (hb : w.heap.size ≤ b) (o : Nat) (v : Value) : Below w.heap.size w (W.setCell ⟨b, o, none⟩ v) :=
  ((Keeps.below (S := fun _ => False) h).setCell (.inl hb) v).toBelow (Nat.le_refl _) (fun _ f => f.elim)
theorem rightB_nil (ep : Int) : rightB ep [] = epB ep := by simp [rightB, goodTo]
/-- What New gives back. -/
def NewPost (w : World) (id ep hold : Int) (e : Ending) (w' : World) : Prop :=
  Below w.heap.size w w' ∧ ((newB id ep hold = false ∧ e = .returned (.tuple #[.pointer none, .int .i64 1])) ∨ (newB id ep hold = true ∧ ∃ s, e = .returned (.tuple #[.pointer (some ⟨s, 0, none⟩), .int .i64 0]) ∧ SAt w' s 0 (St.new id ep hold) ∧ w.heap.size ≤ s))
theorem new_at {W : World} {id ep hold : Int} {p b s : Nat} (hs : W.heap[s]? = some (.cells #[.int .i64 id, .int .i64 ep, .int .i64 hold, .int .i64 0, .pointer none] 66 (0, 0))) (hp : W.heap[p]? = some (.cells #[.map (some b)] 68 (0, 0))) (hb : W.heap[b]? = some (.map #[] 0)) :
    SAt (W.setCell ⟨s, 4, none⟩ (.pointer (some ⟨p, 0, none⟩))) s 0 (St.new id ep hold) := by
  have h1 : p ≠ s := by rintro rfl; rw [hp] at hs; cases hs
  have h2 : b ≠ s := by rintro rfl; rw [hb] at hs; cases hs
  exact ⟨p, b, heap_set hs 4 _, heap_set_ne hp h1 _ _, OwnT.new_at (heap_set_ne hb h2 _ _)⟩
set_option maxHeartbeats 1000000 in
theorem c10 (id ep hold : Int) (w : World) :
    Calls Try.prog 10 #[.int .i64 id, .int .i64 ep, .int .i64 hold] w (NewPost w id ep hold) := by
  have HN := hidd (show newB id ep hold = (decide (0 ≤ id) && decide (id < 64) && epB ep && decide (1 ≤ hold) && decide (hold ≤ 1000000)) by simp [newB, nodeB])
  have bad : newB id ep hold = false → ∀ W, Below w.heap.size w W → NewPost w id ep hold (.returned (.tuple #[.pointer none, .int .i64 1])) W := fun h W hb => ⟨hb, .inl ⟨h, rfl⟩⟩
  have HBAD := hidd bad
  clear bad
  by_cases h0 : id < 0
  · go_enter Try.func10, Try.ntmps10
    go_wp2
    go_ret2
    exact HBAD.out (by rw [HN.out]; simp; omega) _ (Bl_alloc (Below.refl _ _) _)
  by_cases h1 : 64 ≤ id
  · go_enter Try.func10, Try.ntmps10
    go_wp2
    go_ret2
    exact HBAD.out (by rw [HN.out]; simp; omega) _ (Bl_alloc (Below.refl _ _) _)
  have j0 : decide (0 ≤ id) = true := by simp; omega
  have j1 : decide (id < 64) = true := by simp; omega
  obtain ⟨q, hq⟩ : ∃ q, epB ep = q := ⟨_, rfl⟩
  have hr := rightB_nil ep
  rw [hq] at hr
  have HQ := hidd hq
  have HR := hidd hr
  clear hq hr
  cases q with
  | false =>
    go_enter Try.func10, Try.ntmps10
    go_wp2_with (go_at_call 25; refine (c25 ep (RdG.nil _ _ _) (by simp)).mono ?_; rw [HR.out]; rintro e w1 ⟨rfl, hb⟩)
    go_ret2
    exact HBAD.out (by rw [HN.out, HQ.out]; simp) _ (Bl_then (Bl_alloc (Below.refl _ _) _) hb)
  | true =>
    by_cases h2 : hold < 1
    · go_enter Try.func10, Try.ntmps10
      go_wp2_with (go_at_call 25; refine (c25 ep (RdG.nil _ _ _) (by simp)).mono ?_; rw [HR.out]; rintro e w1 ⟨rfl, hb⟩)
      go_ret2
      exact HBAD.out (by rw [HN.out]; simp; omega) _ (Bl_then (Bl_alloc (Below.refl _ _) _) hb)
    by_cases h3 : 1000000 < hold
    · go_enter Try.func10, Try.ntmps10
      go_wp2_with (go_at_call 25; refine (c25 ep (RdG.nil _ _ _) (by simp)).mono ?_; rw [HR.out]; rintro e w1 ⟨rfl, hb⟩)
      go_ret2
      exact HBAD.out (by rw [HN.out]; simp; omega) _ (Bl_then (Bl_alloc (Below.refl _ _) _) hb)
    have hmk := fun W => run_makeMap (P := Try.prog) 68 W
    have HG := hidd (show newB id ep hold = true by rw [HN.out, j0, j1, HQ.out]; simp; omega)
    go_enter Try.func10, Try.ntmps10
    go_wp2_with (first
      | (go_at_call 25; refine (c25 ep (RdG.nil _ _ _) (by simp)).mono ?_; rw [HR.out]; rintro e w1 ⟨rfl, hb⟩)
      | (go_at_call 26; go_loud (refine Calls.mono (c26 w1.heap.size 4 (w1.heap.size + 1 + 1) (.pointer none) (.map (some (w1.heap.size + 1))) _ ?_ ?_ ?_) ?_; (exact cell_of_heap (heap_alloc (heap_alloc (heap_new w1 _) _) _) 4); (exact free_of_heap (heap_alloc (heap_alloc (heap_new w1 _) _) _) 4); (exact cell_of_heap (heap_new_at (by simp)) 0); rintro e w2 ⟨rfl, hw2⟩)))
    subst hw2
    go_ret2
    have hb1 := Bl_then (Bl_alloc (Below.refl w.heap.size w) (.cells #[.int .i64 ep, .slice none 0 0] 34)) hb
    have hlt : w.heap.size ≤ w1.heap.size := hb1.size
    exact ⟨Bl_set (Bl_alloc (Bl_alloc (Bl_alloc hb1 _) _) _) hlt _ _, .inr ⟨HG.out, _, rfl, new_at (heap_alloc (heap_alloc (heap_new w1 _) _) _) (by simpa using heap_new (World.alloc (World.alloc w1 _) _) _) (heap_alloc (by simpa using heap_new (World.alloc w1 _) (.map #[] 0)) _), hlt⟩⟩
end Go.Proofs.Ytocfnimeinongaa
