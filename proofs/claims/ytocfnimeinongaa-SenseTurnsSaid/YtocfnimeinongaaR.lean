/- SenseMeets: two sensors. -/
import Derived.Test.YtocfnimeinongaaP
import Derived.Test.YtocfnimeinongaaQ
set_option linter.unusedSimpArgs false
set_option linter.unusedVariables false
namespace Go.Proofs.Ytocfnimeinongaa
open Go.RowKit
attribute [local go_sem ↓] Go.wp_at_zero Go.wp_at_succ
def tabZ : Tab := fun _ => none
theorem put_put (T : Tab) (k : Int) (h h' : Hd) : (T.put k h).put k h' = T.put k h' := by
  funext j; unfold Tab.put; split <;> rfl
theorem put_at (T : Tab) (k : Int) (h : Hd) : (T.put k h).at k = h := by simp [Tab.at, Tab.put]
theorem keys_none : keysL tabZ = [] := by
  unfold keysL tabZ
  rw [List.filter_eq_nil_iff]
  intro x _
  simp
theorem keys_one {k : Int} (h0 : 0 ≤ k) (h1 : k < 64) (h : Hd) : keysL (tabZ.put k h) = [k] := by
  refine up_unique (keysL_up _) (by simp) fun x => ?_
  rw [keysL_mem]
  simp only [Tab.put, tabZ, List.mem_singleton]
  constructor
  · rintro ⟨_, hx⟩
    by_cases e : x = k
    · exact e
    · rw [if_neg e] at hx; cases hx
  · rintro rfl
    exact ⟨⟨h0, h1⟩, by rw [if_pos rfl]; rfl⟩
theorem echo_none : echoL tabZ = [] := by unfold echoL; rw [keys_none]; rfl
theorem echo_one {k : Int} (h0 : 0 ≤ k) (h1 : k < 64) (h : Hd) : echoL (tabZ.put k h) = [⟨k, h.e⟩] := by
  unfold echoL; rw [keys_one h0 h1]; simp [ecAt, put_at]
theorem link_one {k : Int} (h0 : 0 ≤ k) (h1 : k < 64) (h : Hd) : linkL (tabZ.put k h) = if h.t then [⟨k, h.e⟩] else [] := by
  unfold linkL; rw [echo_one h0 h1]
  cases e : h.t <;> simp [put_at, e]
theorem link_none : linkL tabZ = [] := by unfold linkL; rw [echo_none]; rfl
theorem right_one {ep : Int} {x : Ec} (he : epB ep = true) (hi : nodeB x.i = true) (hx : epB x.e = true) : rightB ep [x] = true := by
  simp [rightB, goodTo, goodB, he, hi, hx, List.range_succ]
theorem heard_one (x : Ec) : heardB [x] x.i = some x.e := by simp [heardB]
theorem heard_nil (i : Int) : heardB [] i = none := rfl
structure MtOk (a b f g h o : Int) : Prop where
  ha : nodeB a = true
  hb : nodeB b = true
  hab : a ≠ b
  hf : epB f = true
  hg : epB g = true
  hh0 : 1 ≤ h
  hh1 : h ≤ 1000000
def mt1 (a b f g o : Int) : St := ⟨b, g, o, 0, tabZ.put a ⟨f, 0, false⟩⟩
def ms1 (a b f g h : Int) : St := ⟨a, f, h, 0, tabZ.put b ⟨g, 0, true⟩⟩
def mt2 (a b f g o : Int) : St := ⟨b, g, o, 0, tabZ.put a ⟨f, 0, true⟩⟩
theorem me1 {a b f g h o : Int} (m : MtOk a b f g h o) : hearErr (St.new b g o) 0 a f [] = 0 := by
  have h1 := epB_iff.1 m.hf
  have h2 : (a == b) = false := by simpa using m.hab
  simp [hearErr, timeB, St.new, m.ha, rightB_nil, m.hf, h2, Tab.at, hdz]; omega
theorem mh1 {a b f g h o : Int} (m : MtOk a b f g h o) : (St.new b g o).hear 0 a f [] = mt1 a b f g o := by
  simp [St.hear, St.new, mt1, thereB, heard_nil, heardO]
  rfl
theorem me2 {a b f g h o : Int} (m : MtOk a b f g h o) : hearErr (St.new a f h) 0 b g [⟨a, f⟩] = 0 := by
  have h1 := epB_iff.1 m.hg
  have h2 : (b == a) = false := by simpa using fun e => m.hab e.symm
  simp [hearErr, timeB, St.new, m.hb, right_one (x := ⟨a, f⟩) m.hg m.ha m.hf, h2, Tab.at, hdz]; omega
theorem mh2 {a b f g h o : Int} (m : MtOk a b f g h o) : (St.new a f h).hear 0 b g [⟨a, f⟩] = ms1 a b f g h := by
  have e : heardB [⟨a, f⟩] a = some f := heard_one ⟨a, f⟩
  simp [St.hear, St.new, ms1, thereB, e, heardO, heardN]
  rfl
theorem mo2 {a b f g h o : Int} (m : MtOk a b f g h o) : hearOut (St.new a f h) b g [⟨a, f⟩] = [⟨1, b, g⟩] := by
  have e : heardB [⟨a, f⟩] a = some f := heard_one ⟨a, f⟩
  simp [hearOut, St.new, thereB, e, heardO, heardN, newer, Tab.at, hdz]
theorem me3 {a b f g h o : Int} (m : MtOk a b f g h o) : hearErr (mt1 a b f g o) 0 a f [⟨b, g⟩] = 0 := by
  have h1 := epB_iff.1 m.hf
  have h2 : (a == b) = false := by simpa using m.hab
  simp [hearErr, timeB, mt1, m.ha, right_one (x := ⟨b, g⟩) m.hf m.hb m.hg, h2, put_at]
theorem mh3 {a b f g h o : Int} (m : MtOk a b f g h o) : (mt1 a b f g o).hear 0 a f [⟨b, g⟩] = mt2 a b f g o := by
  have e : heardB [⟨b, g⟩] b = some g := heard_one ⟨b, g⟩
  simp [St.hear, mt1, mt2, thereB, e, heardO, heardN, put_put]
theorem mo3 {a b f g h o : Int} (m : MtOk a b f g h o) : hearOut (mt1 a b f g o) a f [⟨b, g⟩] = [⟨1, a, f⟩] := by
  have e : heardB [⟨b, g⟩] b = some g := heard_one ⟨b, g⟩
  simp [hearOut, mt1, thereB, e, heardO, heardN, newer, put_at]
theorem me4 {a b f g h o : Int} (m : MtOk a b f g h o) : timeB (ms1 a b f g h) h = true := by
  have := m.hh0; have := m.hh1
  unfold timeB ms1; simp only [Bool.and_eq_true, decide_eq_true_eq]; omega
theorem mt4 {a b f g h o : Int} (m : MtOk a b f g h o) : (ms1 a b f g h).tick h = ⟨a, f, h, h, tabZ.put b ⟨g, 0, true⟩⟩ := by
  simp only [St.tick, ms1]
  congr 1
  funext j
  simp only [Tab.put, tabZ]
  split
  · simp [keepB]
  · rfl
theorem mo4 {a b f g h o : Int} (m : MtOk a b f g h o) : tickOut (ms1 a b f g h) h = [] := by
  unfold tickOut
  rw [show (ms1 a b f g h).T = tabZ.put b ⟨g, 0, true⟩ from rfl, keys_one (nodeB_iff.1 m.hb).1 (nodeB_iff.1 m.hb).2]
  simp [goneB, keepB, ms1, put_at]
theorem me5 {a b f g h o : Int} (m : MtOk a b f g h o) : timeB ⟨a, f, h, h, tabZ.put b ⟨g, 0, true⟩⟩ (h + 1) = true := by
  have := m.hh0; have := m.hh1
  unfold timeB; simp only [Bool.and_eq_true, decide_eq_true_eq]; omega
theorem mt5 {a b f g h o : Int} (m : MtOk a b f g h o) : (⟨a, f, h, h, tabZ.put b ⟨g, 0, true⟩⟩ : St).tick (h + 1) = ⟨a, f, h, h + 1, tabZ⟩ := by
  simp only [St.tick]
  congr 1
  funext j
  simp only [Tab.put, tabZ]
  split
  · simp [keepB]; omega
  · rfl
theorem mo5 {a b f g h o : Int} (m : MtOk a b f g h o) : tickOut ⟨a, f, h, h, tabZ.put b ⟨g, 0, true⟩⟩ (h + 1) = [⟨2, b, g⟩] := by
  unfold tickOut
  rw [keys_one (nodeB_iff.1 m.hb).1 (nodeB_iff.1 m.hb).2]
  have : ¬ (h + 1 ≤ h) := by omega
  simp [goneB, keepB, put_at, evAt, this]
theorem SAt.keepsOther {w w' : World} {s t n m : Nat} {st su : St} (h : SAt w s n st) (h2 : SAt w t m su) (hne : s ≠ t) (k : Keeps (fun i => i = t) w w') : SAt w' s n st := by
  obtain ⟨p, b, h1, hp, hb⟩ := h
  obtain ⟨q, c, g1, _, _⟩ := h2
  have h3 : p ≠ t := by rintro rfl; rw [hp] at g1; cases g1
  have h4 : b ≠ t := by
    rintro rfl
    obtain ⟨es, cl, e⟩ := hb.isMap
    rw [e] at g1; cases g1
  exact ⟨p, b, k.heapAt h1 hne, k.heapAt hp h3, hb.keeps k h4⟩
theorem NewPost.bad {w : World} {id ep hold : Int} {e : Ending} {w' : World} (h : NewPost w id ep hold e w') (hn : newB id ep hold = false) : e = .returned (.tuple #[.pointer none, .int .i64 1]) ∧ Below w.heap.size w w' := by
  rcases h with ⟨hb, ⟨_, h⟩ | ⟨h, _⟩⟩
  · exact ⟨h, hb⟩
  · rw [hn] at h; cases h
theorem newB_parts {id ep hold : Int} (h : newB id ep hold = true) : nodeB id = true ∧ epB ep = true ∧ 1 ≤ hold ∧ hold ≤ 1000000 := by
  simp only [newB, Bool.and_eq_true, decide_eq_true_eq] at h
  exact ⟨h.1.1.1, h.1.1.2, h.1.2, h.2⟩
set_option maxRecDepth 100000 in
set_option maxHeartbeats 4000000 in
theorem law5 (a b f g h o : Int) (w : World) :
    Calls Try.prog 5 #[.int .i64 a, .int .i64 b, .int .i64 f, .int .i64 g, .int .i64 h, .int .i64 o] w fun e w' => e = .returned (.bool true) ∧ Below w.heap.size w w' := by
  cases hs : newB a f h with
  | false =>
    cases ht : newB b g o with
    | false =>
      go_enter Try.func5, Try.ntmps5
      go_wp2_with fail
      refine (c10 a f h w).mono ?_
      rintro e w1 h1
      obtain ⟨rfl, hb1⟩ := h1.bad hs
      go_wp2_with fail
      refine (c10 b g o w1).mono ?_
      rintro e w2 h2
      obtain ⟨rfl, hb2⟩ := h2.bad ht
      go_wp2_with fail
      refine (c12 w2).mono ?_
      rintro e w3 ⟨rfl, hb3⟩
      go_wp2_with fail
      go_ret
      exact ⟨rfl, Bl_then (Bl_then hb1 hb2) hb3⟩
    | true =>
      go_enter Try.func5, Try.ntmps5
      go_wp2_with fail
      refine (c10 a f h w).mono ?_
      rintro e w1 h1
      obtain ⟨rfl, hb1⟩ := h1.bad hs
      go_wp2_with fail
      refine (c10 b g o w1).mono ?_
      rintro e w2 h2
      obtain ⟨t, rfl, -, -, hb2⟩ := h2.ok ht
      go_wp2_with fail
      refine (c12 w2).mono ?_
      rintro e w3 ⟨rfl, hb3⟩
      go_wp2_with fail
      go_ret
      exact ⟨rfl, Bl_then (Bl_then hb1 hb2) hb3⟩
  | true =>
    cases ht : newB b g o with
    | false =>
      go_enter Try.func5, Try.ntmps5
      go_wp2_with fail
      refine (c10 a f h w).mono ?_
      rintro e w1 h1
      obtain ⟨s, rfl, -, -, hb1⟩ := h1.ok hs
      go_wp2_with fail
      refine (c10 b g o w1).mono ?_
      rintro e w2 h2
      obtain ⟨rfl, hb2⟩ := h2.bad ht
      go_wp2_with fail
      refine (c12 w2).mono ?_
      rintro e w3 ⟨rfl, hb3⟩
      go_wp2_with fail
      go_ret
      exact ⟨rfl, Bl_then (Bl_then hb1 hb2) hb3⟩
    | true =>
      by_cases hab : a = b
      · have hab' : (a == b) = true := by simpa using hab
        have HNS := hidd hs
        have HNT := hidd ht
        clear hab hs ht
        go_enter Try.func5, Try.ntmps5
        go_wp2_with fail
        refine (c10 a f h w).mono ?_
        rintro e w1 h1
        obtain ⟨s, rfl, -, -, hb1⟩ := h1.ok HNS.out
        go_wp2_with fail
        refine (c10 b g o w1).mono ?_
        rintro e w2 h2
        obtain ⟨t, rfl, -, -, hb2⟩ := h2.ok HNT.out
        go_wp2_with fail
        refine (c12 w2).mono ?_
        rintro e w3 ⟨rfl, hb3⟩
        go_wp2_with fail
        go_ret
        exact ⟨rfl, Bl_then (Bl_then hb1 hb2) hb3⟩
      · obtain ⟨q1, q2, q3, q4⟩ := newB_parts hs
        obtain ⟨q5, q6, q7, q8⟩ := newB_parts ht
        have M := hidd (⟨q1, q5, hab, q2, q6, q3, q4⟩ : MtOk a b f g h o)
        have hab' : (a == b) = false := by simpa using hab
        have KS := hidd (St.Ok.new hs)
        have KT := hidd (St.Ok.new ht)
        have HNS := hidd hs
        have HNT := hidd ht
        have hw1 : h + 1 ≤ 1000001 := by omega
        have hw0 : 1 ≤ h := q3
        clear q1 q2 q3 q4 q5 q6 q7 q8 hs ht hab
        go_enter Try.func5, Try.ntmps5
        go_wp2_with fail
        refine (c10 a f h w).mono ?_
        rintro e w1 h1
        obtain ⟨s, rfl, hs1, ls1, hb1⟩ := h1.ok HNS.out
        have HS1 := hidd hs1
        have HB1 := hidd hb1
        clear h1 hs1 hb1
        go_wp2_with fail
        refine (c10 b g o w1).mono ?_
        rintro e w2 h2
        obtain ⟨t, rfl, ht2, lt2, hb2⟩ := h2.ok HNT.out
        have HT2 := hidd ht2
        have HS2 := hidd (HS1.out.below hb2)
        have HB2 := hidd (Bl_then HB1.out hb2)
        have hne : s ≠ t := by have := HS1.out.lt; omega
        have hls : w.heap.size ≤ s := ls1
        have hlt : w.heap.size ≤ t := by have := HB1.out.size; omega
        clear h2 ht2 hb2
        go_wp2_with fail
        refine (c19 HS2.out KS.out.tabOk (by omega)).mono ?_
        rintro e w3 ⟨v3, rfl, hv3, hb3⟩
        rw [show echoL (St.new a f h).T = [] from echo_none] at hv3
        have HV3 := hidd (hv3.rd ec_len)
        have HS3 := hidd (HS2.out.below hb3)
        have HT3 := hidd (HT2.out.below hb3)
        have HB3 := hidd (Bl_then HB2.out hb3)
        clear hv3 hb3
        go_wp2_with fail
        refine (c15 (st := St.new b g o) (E := []) HT3.out KT.out (by omega) 0 a f HV3.out (by simp)).mono ?_
        rintro e w4 h4
        obtain ⟨A4, k4, rfl, -, ht4, hk4⟩ := h4.ok (me1 M.out)
        generalize (hearOut (St.new b g o) a f []).length = l4
        have KT4 := hidd (mh1 M.out ▸ KT.out.hear (me1 M.out) : (mt1 a b f g o).Ok)
        rw [mh1 M.out] at ht4
        have HT4 := hidd ht4
        have HS4 := hidd (HS3.out.keepsOther HT3.out hne hk4)
        have HB4 := hidd (Keeps.bl HB3.out hk4 hlt)
        clear h4 ht4 hk4
        go_wp2_with fail
        refine (c19 HT4.out KT4.out.tabOk (by omega)).mono ?_
        rintro e w5 ⟨v5, rfl, hv5, hb5⟩
        rw [show echoL (mt1 a b f g o).T = [⟨a, f⟩] from echo_one (nodeB_iff.1 M.out.ha).1 (nodeB_iff.1 M.out.ha).2 _] at hv5
        have HV5 := hidd (hv5.rd ec_len)
        have HS5 := hidd (HS4.out.below hb5)
        have HT5 := hidd (HT4.out.below hb5)
        have HB5 := hidd (Bl_then HB4.out hb5)
        clear hv5 hb5
        go_wp2_with fail
        refine (c15 (st := St.new a f h) (E := [⟨a, f⟩]) HS5.out KS.out (by omega) 0 b g HV5.out (by simp)).mono ?_
        rintro e w6 h6
        obtain ⟨A6, k6, rfl, hr6, hs6, hk6⟩ := h6.ok (me2 M.out)
        rw [mo2 M.out] at hr6 ⊢
        have KS6 := hidd (mh2 M.out ▸ KS.out.hear (me2 M.out) : (ms1 a b f g h).Ok)
        rw [mh2 M.out] at hs6
        have HS6 := hidd hs6
        have HR6 := hidd hr6
        have HT6 := hidd (HT5.out.keepsOther HS5.out (fun e => hne e.symm) hk6)
        have HB6 := hidd (Keeps.bl HB5.out hk6 hls)
        have ls5 := HS5.out.lt
        have lt5 := HT5.out.lt
        clear h6 hs6 hk6 hr6
        go_wp2_with fail
        refine (c19 HS6.out KS6.out.tabOk (by omega)).mono ?_
        rintro e w7 ⟨v7, rfl, hv7, hb7⟩
        rw [show echoL (ms1 a b f g h).T = [⟨b, g⟩] from echo_one (nodeB_iff.1 M.out.hb).1 (nodeB_iff.1 M.out.hb).2 _] at hv7
        have HV7 := hidd (hv7.rd ec_len)
        have HS7 := hidd (HS6.out.below hb7)
        have HT7 := hidd (HT6.out.below hb7)
        have HR7 := hidd (HR6.out.below hb7)
        have HB7 := hidd (Bl_then HB6.out hb7)
        clear hv7 hb7
        go_wp2_with fail
        refine (c15 (st := mt1 a b f g o) (E := [⟨b, g⟩]) HT7.out KT4.out (by omega) 0 a f HV7.out (by simp)).mono ?_
        rintro e w8 h8
        obtain ⟨A8, k8, rfl, hr8, ht8, hk8⟩ := h8.ok (me3 M.out)
        rw [mo3 M.out] at hr8 ⊢
        have KT8 := hidd (mh3 M.out ▸ KT4.out.hear (me3 M.out) : (mt2 a b f g o).Ok)
        rw [mh3 M.out] at ht8
        have HT8 := hidd ht8
        have HR8 := hidd hr8
        have HS8 := hidd (HS7.out.keepsOther HT7.out hne hk8)
        have HQ8 := hidd (HR7.out.keeps hk8 (fun j hj e => by have := HR7.out.base hj; omega))
        have HB8 := hidd (Keeps.bl HB7.out hk8 hlt)
        have ls7 := HS7.out.lt
        have lt7 := HT7.out.lt
        clear h8 ht8 hk8 hr8
        go_wp2_with fail
        refine (c17 (L := [⟨1, b, g⟩]) ((HQ8.out.rd ev_len).below (Bl_alloc (Below.refl _ _) _)) (rd_new_v rfl ⟨1, b, g⟩ _ _) (by simp)).mono ?_
        rintro e w9 ⟨rfl, hb9⟩
        have HB9 := hidd ((Bl_alloc (Below.refl w8.heap.size w8) (.cells #[.int .i64 1, .int .i64 b, .int .i64 g] 49)).trans (hb9.mono (by simp)))
        clear hb9
        go_wp2_with fail
        refine (c17 (L := [⟨1, a, f⟩]) (((HR8.out.rd ev_len).below HB9.out).below (Bl_alloc (Below.refl _ _) _)) (rd_new_v rfl ⟨1, a, f⟩ _ _) (by simp)).mono ?_
        rintro e wa ⟨rfl, hba⟩
        have hb8a : Below w8.heap.size w8 wa := HB9.out.trans (((Bl_alloc (Below.refl w9.heap.size w9) _).trans (hba.mono (by simp))).mono HB9.out.size)
        have HSa := hidd (HS8.out.below hb8a)
        have HTa := hidd (HT8.out.below hb8a)
        have HBa := hidd (Bl_then HB8.out hb8a)
        clear hba hb8a
        go_wp2_with fail
        refine (c13 (st := ms1 a b f g h) HSa.out KS6.out (by omega) h).mono ?_
        rintro e wb hb
        obtain ⟨Ab, kb, rfl, -, hsb, hkb⟩ := hb.ok (me4 M.out)
        rw [mo4 M.out]
        have KSb := hidd (mt4 M.out ▸ KS6.out.tick (me4 M.out) : (⟨a, f, h, h, tabZ.put b ⟨g, 0, true⟩⟩ : St).Ok)
        rw [mt4 M.out] at hsb
        have HSb := hidd hsb
        have HTb := hidd (HTa.out.keepsOther HSa.out (fun e => hne e.symm) hkb)
        have HBb := hidd (Keeps.bl HBa.out hkb hls)
        clear hb hsb hkb
        go_wp2_with fail
        refine (c13 (st := ⟨a, f, h, h, tabZ.put b ⟨g, 0, true⟩⟩) HSb.out KSb.out (by omega) (h + 1)).mono ?_
        rintro e wc hc
        obtain ⟨Ac, kc, rfl, hrc, hsc, hkc⟩ := hc.ok (me5 M.out)
        rw [mo5 M.out] at hrc ⊢
        have KSc := hidd (mt5 M.out ▸ KSb.out.tick (me5 M.out) : (⟨a, f, h, h + 1, tabZ⟩ : St).Ok)
        rw [mt5 M.out] at hsc
        have HSc := hidd hsc
        have HRc := hidd hrc
        have HTc := hidd (HTb.out.keepsOther HSb.out (fun e => hne e.symm) hkc)
        have HBc := hidd (Keeps.bl HBb.out hkc hls)
        clear hc hsc hkc hrc
        go_wp2_with fail
        refine (c12 wc).mono ?_
        rintro e wd ⟨rfl, hbd⟩
        have HSd := hidd (HSc.out.below hbd)
        have HTd := hidd (HTc.out.below hbd)
        have HRd := hidd (HRc.out.below hbd)
        have HBd := hidd (Bl_then HBc.out hbd)
        clear hbd
        go_wp2_with fail
        refine (c17 (L := [⟨2, b, g⟩]) ((HRd.out.rd ev_len).below (Bl_alloc (Below.refl _ _) _)) (rd_new_v rfl ⟨2, b, g⟩ _ _) (by simp)).mono ?_
        rintro e we ⟨rfl, hbe⟩
        have hbde : Below wd.heap.size wd we := (Bl_alloc (Below.refl wd.heap.size wd) _).trans (hbe.mono (by simp))
        have HSe := hidd (HSd.out.below hbde)
        have HTe := hidd (HTd.out.below hbde)
        have HBe := hidd (Bl_then HBd.out hbde)
        clear hbe hbde
        go_wp2_with fail
        refine (c22 HSe.out KSc.out.tabOk (by omega)).mono ?_
        rintro e wf ⟨vf, rfl, hvf, hbf⟩
        rw [show linkL (St.T ⟨a, f, h, h + 1, tabZ⟩) = [] from link_none] at hvf
        obtain ⟨Af, cf, rfl⟩ := (hvf.rd ec_len).form
        have HTf := hidd (HTe.out.below hbf)
        have HBf := hidd (Bl_then HBe.out hbf)
        clear hvf hbf
        go_wp2_with fail
        refine (c22 HTf.out KT8.out.tabOk (by omega)).mono ?_
        rintro e wg ⟨vg, rfl, hvg, hbg⟩
        rw [show linkL (mt2 a b f g o).T = [⟨a, f⟩] from link_one (nodeB_iff.1 M.out.ha).1 (nodeB_iff.1 M.out.ha).2 _] at hvg
        obtain ⟨Ag, cg, rfl⟩ := (hvg.rd ec_len).form
        have HBg := hidd (Bl_then HBf.out hbg)
        clear hvg hbg
        go_wp2_with fail
        go_ret
        exact ⟨rfl, HBg.out⟩
end Go.Proofs.Ytocfnimeinongaa
