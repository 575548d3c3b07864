/- What the sensor hears, in memory: the table of nodes; its keys, rising. -/
import Derived.Test.YtocfnimeinongaaC
import Derived.Test.YtocfnimeinongaaShelf
import Derived.Deep.RegionLaw
import Derived.Deep.AppendLies
import Derived.Maps.OwnOps
import Derived.Maps.Views
set_option linter.unusedSimpArgs false
set_option linter.unusedVariables false
namespace Go.Proofs.Ytocfnimeinongaa
open Go.RowKit
theorem info_parts {o : Option TypeInfo} {x : Option Value} {s b : Nat} (h : o.map (fun i => (i.zero, i.size, i.bytes)) = some (x, s, b)) : ∃ i, o = some i ∧ i.zero = x ∧ i.size = s ∧ i.bytes = b := by
  cases o with
  | none => cases h
  | some i => simp only [Option.map_some, Option.some.injEq, Prod.mk.injEq] at h; exact ⟨i, rfl, h.1, h.2.1, h.2.2⟩
/-- A row of the call's own (from block 'base' on) that holds the elements L. -/
def OwnG {α : Type} (enc : α → List Value) (m : Nat) (e : TypeId) (w : World) (base : Nat) (v : Value) (L : List α) : Prop := w.ownsRow base e m v L.length (L.flatMap enc)
theorem OwnG.nil {α : Type} (enc : α → List Value) (m : Nat) (e : TypeId) (w : World) (base : Nat) : OwnG enc m e w base (.slice none 0 0) [] := World.ownsRow_nil _ _ _ _
theorem OwnG.base {α : Type} {enc : α → List Value} {m : Nat} {e : TypeId} {w : World} {base : Nat} {v : Value} {L : List α} (h : OwnG enc m e w base v L) {g : Nat} (hg : v.ownBlock = some g) : base ≤ g := by
  rcases h.2 with ⟨rfl, _⟩ | ⟨g', cap, cur, rfl, hb, _⟩
  · simp [Value.ownBlock] at hg
  · simp [Value.ownBlock] at hg; omega
theorem OwnG.lt {α : Type} {enc : α → List Value} {m : Nat} {e : TypeId} {w : World} {base : Nat} {v : Value} {L : List α} (h : OwnG enc m e w base v L) {g : Nat} (hg : v.ownBlock = some g) : g < w.heap.size := (World.ownsRow.lt h g hg).2
theorem OwnG.keeps {α : Type} {enc : α → List Value} {m : Nat} {e : TypeId} {w w' : World} {base : Nat} {v : Value} {L : List α} (h : OwnG enc m e w base v L) {S : Nat → Prop} (k : Keeps S w w') (hs : ∀ g, v.ownBlock = some g → ¬ S g) : OwnG enc m e w' base v L := by
  obtain ⟨h1, h2⟩ := h
  refine ⟨h1, ?_⟩
  rcases h2 with h2 | ⟨g, cap, cur, rfl, hb, hh, h3⟩
  · exact .inl h2
  · exact .inr ⟨g, cap, cur, rfl, hb, k.heapAt hh (hs g rfl), h3⟩
theorem OwnG.below {α : Type} {enc : α → List Value} {m : Nat} {e : TypeId} {w w' : World} {base : Nat} {v : Value} {L : List α} (h : OwnG enc m e w base v L) (k : Below w.heap.size w w') : OwnG enc m e w' base v L :=
  h.keeps (Keeps.below (S := fun _ => False) k) (fun _ _ x => x)
theorem flat_length {α : Type} {enc : α → List Value} {m : Nat} (he : ∀ x, (enc x).length = m) (L : List α) : (L.flatMap enc).length = L.length * m := by
  induction L with
  | nil => simp
  | cons x L ih => rw [List.flatMap_cons, List.length_append, ih, he, List.length_cons, Nat.succ_mul, Nat.add_comm]
theorem flat_at {α : Type} {enc : α → List Value} {m : Nat} (he : ∀ x, (enc x).length = m) {L : List α} {k : Nat} {a : α} (h : L[k]? = some a) {i : Nat} {u : Value} (hu : (enc a)[i]? = some u) : (L.flatMap enc)[k * m + i]? = some u := by
  have hi : i < m := by rw [← he a]; exact (List.getElem?_eq_some_iff.1 hu).1
  induction L generalizing k with
  | nil => simp at h
  | cons x L ih =>
    rw [List.flatMap_cons]
    cases k with
    | zero =>
      simp at h
      subst h
      rw [Nat.zero_mul, Nat.zero_add, List.getElem?_append_left (by rw [he]; exact hi)]
      exact hu
    | succ k =>
      have e : (k + 1) * m + i = m + (k * m + i) := by rw [Nat.succ_mul]; omega
      rw [e, List.getElem?_append_right (by rw [he]; omega), he, Nat.add_sub_cancel_left]
      exact ih (by simpa using h)
theorem OwnG.rd {α : Type} {enc : α → List Value} {m : Nat} {e : TypeId} {w : World} {base : Nat} {v : Value} {L : List α} (h : OwnG enc m e w base v L) (he : ∀ x, (enc x).length = m) : RdG enc m w v L := by
  obtain ⟨h1, h2⟩ := h
  rcases h2 with ⟨rfl, h2⟩ | ⟨g, cap, cur, rfl, hb, hh, hnc, hcm, hcs, htake⟩
  · refine ⟨none, 0, by rw [h2], .inl (List.eq_nil_of_length_eq_zero h2)⟩
  · refine ⟨some ⟨g, 0, none⟩, cap, rfl, .inr ⟨g, 0, rfl, (Array.getElem?_eq_some_iff.1 hh).1, fun k a ha i u hu => ?_⟩⟩
    have h3 := flat_at he ha hu
    rw [← htake, List.getElem?_take] at h3
    rw [Nat.zero_add, cell_of_heap hh]
    split at h3
    · simpa using h3
    · cases h3
theorem RdG.form {α : Type} {enc : α → List Value} {m : Nat} {w : World} {v : Value} {L : List α} (h : RdG enc m w v L) : ∃ A c, v = .slice A L.length c := by
  obtain ⟨A, c, e, _⟩ := h
  exact ⟨A, c, e⟩
/-- What is known of a node. -/
structure Hd where
  (e a : Int)
  t : Bool
def Hd.val (h : Hd) : Value := .agg #[.int .i64 h.e, .int .i64 h.a, .bool h.t]
def hdz : Hd := ⟨0, 0, false⟩
abbrev Tab := Int → Option Hd
def Tab.put (T : Tab) (k : Int) (h : Hd) : Tab := fun j => if j = k then some h else T j
def Tab.at (T : Tab) (k : Int) : Hd := (T k).getD hdz
def Rv : Value → Option (DataW Value × List MemPlace) := fun v => some (.held v, [])
/-- Block b is a map of at most n entries that holds the table T. -/
def OwnT (w : World) (b n : Nat) (T : Tab) : Prop :=
  ∃ D : DataW Value, w.ownsMap Try.prog 3 Rv b n D ∧ ∀ k : Int, Maps.has D (.int .i64 k) = (T k).isSome ∧ ∀ h, T k = some h → ∀ z, D.atKey (.int .i64 k) z = .held h.val
theorem OwnT.lt {w : World} {b n : Nat} {T : Tab} (h : OwnT w b n T) : b < w.heap.size := by obtain ⟨D, h, _⟩ := h; exact h.lt
theorem OwnT.mono {w : World} {b n m : Nat} {T : Tab} (h : OwnT w b n T) (hm : n ≤ m) : OwnT w b m T := by obtain ⟨D, h, k⟩ := h; exact ⟨D, h.mono hm, k⟩
theorem OwnT.keeps {w w' : World} {b n : Nat} {T : Tab} (h : OwnT w b n T) {S : Nat → Prop} (k : Keeps S w w') (hs : ¬ S b) : OwnT w' b n T := by
  have hlt := h.lt
  obtain ⟨D, ⟨es, clock, hb, r⟩, h2⟩ := h
  exact ⟨D, ⟨es, clock, (k.block b hlt hs).trans hb, r⟩, h2⟩
theorem OwnT.below {w w' : World} {b n : Nat} {T : Tab} (h : OwnT w b n T) (k : Below w.heap.size w w') : OwnT w' b n T := h.keeps (Keeps.below (S := fun _ => False) k) (fun x => x)
theorem OwnT.isMap {w : World} {b n : Nat} {T : Tab} (h : OwnT w b n T) : ∃ es c, w.heap[b]? = some (.map es c) := by
  obtain ⟨D, ⟨es, clock, hb, r⟩, h2⟩ := h
  exact ⟨es, clock, hb⟩
theorem OwnT.new (w : World) : OwnT (w.alloc (.map #[] 0)) w.heap.size 0 (fun _ => none) :=
  ⟨_, World.ownsMap_made w _ _ _, fun k => ⟨rfl, fun h e => by cases e⟩⟩
theorem OwnT.new_at {w : World} {b : Nat} (h : w.heap[b]? = some (.map #[] 0)) : OwnT w b 0 (fun _ => none) :=
  ⟨_, (⟨#[], 0, h, ⟨by simp, MapKept.stamped_empty 0, by simp⟩, Nat.le_refl _, rfl⟩ : w.ownsMap Try.prog 3 Rv b 0 (.map [])), fun k => ⟨rfl, fun h e => by cases e⟩⟩
theorem wf64 {k : Int} (h0 : 0 ≤ k) (h1 : k < 64) : (Lit.int .i64 k).wf = true := by
  simp [Lit.wf, IntKind.min, IntKind.max, IntKind.bits, IntKind.signed]
  omega
theorem zero75 (w : World) : (zeroValue 75).run Try.prog w = .ok hdz.val w := Try.zeroValue75 w
set_option maxRecDepth 100000 in
theorem OwnT.lookup {w : World} {b n : Nat} {T : Tab} (h : OwnT w b n T) {k : Int} (h0 : 0 ≤ k) (h1 : k < 64) :
    (Instr.lookup 68 (.map (some b)) (.int .i64 k) false).run Try.prog w = .ok (T.at k).val w := by
  obtain ⟨D, ho, hs⟩ := h
  obtain ⟨v, ps, hr, hv⟩ := ho.lookup (Maps.int_keyed Try.underlying3) Try.underlying68 (zero75 w) (zd := .held hdz.val) (zp := []) rfl (Maps.keyOf_int_mk Try.underlying3 (wf64 h0 h1))
  rw [hr]
  simp only [Rv, Option.some.injEq, Prod.mk.injEq] at hv
  congr 1
  have h2 := hv.1
  cases hT : T k with
  | none =>
    have hh := (hs k).1
    rw [hT] at hh
    rw [Maps.atKey_of_not_has hh] at h2
    simp [Tab.at, hT]
    exact DataW.held.inj h2
  | some x =>
    rw [(hs k).2 x hT] at h2
    simp [Tab.at, hT]
    exact DataW.held.inj h2
set_option maxRecDepth 100000 in
theorem OwnT.update {w : World} {b n : Nat} {T : Tab} (h : OwnT w b n T) {k : Int} (h0 : 0 ≤ k) (h1 : k < 64) (hn : n ≤ 100000) (x : Hd) :
    ∃ w', (Instr.mapUpdate 68 (.map (some b)) (.int .i64 k) x.val).run Try.prog w = .ok () w' ∧ OwnT w' b (n + 1) (T.put k x) ∧ Keeps (fun i => i = b) w w' := by
  obtain ⟨D, ho, hs⟩ := h
  have K := Maps.int_keyed Try.underlying3
  have hk := Maps.keyOf_int_mk Try.underlying3 (wf64 h0 h1)
  obtain ⟨w', hr, h2, h3⟩ := ho.update K Try.underlying68 (by unfold maxLen; omega) hk (d := .held x.val) (ps := []) (val := x.val) rfl
  refine ⟨w', hr, ⟨_, h2, fun j => ?_⟩, ⟨h3.os, h3.tape, h3.output, h3.size, fun i hi hne => h3.block i hi (fun e => hne (by simpa using e))⟩⟩
  by_cases hj : j = k
  · subst hj
    refine ⟨by rw [Maps.has_put_same ho.isMap (K.key hk)]; simp [Tab.put], fun h e z => ?_⟩
    rw [Maps.atKey_put_same ho.isMap (K.key hk)]
    simp [Tab.put] at e
    rw [e]
  · have hne : (Lit.int .i64 j) ≠ .int .i64 k := fun e => hj (by simpa using e)
    refine ⟨by rw [Maps.has_put_other hne, (hs j).1]; simp [Tab.put, hj], fun h e z => ?_⟩
    rw [Maps.atKey_put_other hne]
    simp [Tab.put, hj] at e
    exact (hs j).2 h e z
theorem wpList_put {w : World} {ops : Array Oper} {rest : List Oper} {o : Oper} {a : Act} {Q : Exit → Act → World → Prop}
    (hg : o.guard = none) (m x v : Operand) (hop : o.op = Op.mapUpdate 68 m x v) (b n : Nat) (T : Tab) (hm : a.eval m = .map (some b)) (hown : OwnT w b n T) (k : Int) (h : Hd) (hx : a.eval x = .int .i64 k) (hv : a.eval v = h.val) (h0 : 0 ≤ k) (h1 : k < 64) (hn : n ≤ 100000)
    (hK : ∀ w', OwnT w' b (n + 1) (T.put k h) → Keeps (fun i => i = b) w w' → wpList Try.prog ops Q rest (a.put o.dst undef) w') :
    wpList Try.prog ops Q (o :: rest) a w := by
  refine wpList_plain hg fun K' hK' => ?_
  obtain ⟨w', hrun, r1, r2⟩ := hown.update h0 h1 hn h
  unfold Oper.wp
  simp [execOp, hop, hm, hx, hv, hrun, Result.andThen]
  exact hK' _ _ (hK w' r1 r2)
/-! ### The keys, rising. -/
def nums (n : Nat) : List Int := (List.range n).map fun (k : Nat) => (k : Int)
def keysL (T : Tab) : List Int := (nums 64).filter fun k => (T k).isSome
theorem nums_mem {n : Nat} {x : Int} : x ∈ nums n ↔ 0 ≤ x ∧ x < n := by
  unfold nums
  rw [List.mem_map]
  constructor
  · rintro ⟨k, hk, rfl⟩
    have := List.mem_range.1 hk
    omega
  · rintro ⟨h0, h1⟩
    exact ⟨x.toNat, List.mem_range.2 (by omega), by omega⟩
theorem nums_up (n : Nat) : (nums n).Pairwise (· < ·) := by
  unfold nums
  rw [List.pairwise_map]
  exact List.pairwise_lt_range.imp fun h => by omega
theorem up_unique {S T : List Int} (hS : S.Pairwise (· < ·)) (hT : T.Pairwise (· < ·)) (h : ∀ x, x ∈ S ↔ x ∈ T) : S = T := by
  refine List.Perm.eq_of_pairwise (le := (· < ·)) (fun a b _ _ h1 h2 => by omega) hS hT ?_
  exact (List.perm_ext_iff_of_nodup (hS.imp fun h => by omega) (hT.imp fun h => by omega)).2 h
theorem keysL_len (T : Tab) : (keysL T).length ≤ 64 := by
  unfold keysL
  refine Nat.le_trans (List.length_filter_le _ _) ?_
  simp [nums]
theorem keysL_mem {T : Tab} {k : Int} : k ∈ keysL T ↔ (0 ≤ k ∧ k < 64) ∧ (T k).isSome = true := by
  unfold keysL
  rw [List.mem_filter, nums_mem]
  rfl
theorem keysL_up (T : Tab) : (keysL T).Pairwise (· < ·) := (nums_up 64).filter _
/-- The table speaks of nodes alone. -/
def TabOk (T : Tab) : Prop := ∀ k h, T k = some h → 0 ≤ k ∧ k < 64
theorem OwnT.keys {w : World} {b n : Nat} {T : Tab} {D : DataW Value} (ho : w.ownsMap Try.prog 3 Rv b n D) (hs : ∀ k : Int, Maps.has D (.int .i64 k) = (T k).isSome) (hT : TabOk T) {ss : List Int} (hp : ss.Perm (intKeys D)) :
    ss.mergeSort leI = keysL T := by
  obtain ⟨es, rfl, hpw, hkl⟩ := ho.entries (Maps.int_keyed Try.underlying3)
  obtain ⟨es', hD', hko⟩ := ho.keysOf
  obtain rfl : es = es' := by simpa using hD'
  have hk : ∀ p ∈ es, ∃ x, p.1 = Lit.int .i64 x := fun p hp => by
    obtain ⟨v, hv⟩ := hko p hp
    obtain ⟨x, _, hx, _⟩ := Maps.keyOf_i64 Try.underlying3 hv
    exact ⟨x, hx⟩
  have tr : ∀ a b c : Int, leI a b = true → leI b c = true → leI a c = true := fun a b c h1 h2 => by simp only [leI, decide_eq_true_eq] at *; exact Int.le_trans h1 h2
  have tt : ∀ a b : Int, (leI a b || leI b a) = true := fun a b => by simp only [leI, Bool.or_eq_true, decide_eq_true_eq]; exact Int.le_total a b
  have hperm : (keysL T).Perm (intKeys (.map es)) := perm_intKeys hpw hk ((keysL_up T).imp fun h => by omega) (fun x => by
    rw [keysL_mem, hs x]
    constructor
    · exact fun h => h.2
    · intro h
      obtain ⟨y, hy⟩ := Option.isSome_iff_exists.1 h
      exact ⟨hT x y hy, h⟩)
  rw [mergeSort_of_perm_i (hp.trans hperm.symm)]
  refine List.Perm.eq_of_pairwise (le := fun a b => leI a b = true) (fun a b _ _ h1 h2 => ?_) (List.pairwise_mergeSort tr tt _) ((keysL_up T).imp fun h => by simp [leI]; omega) (List.mergeSort_perm _ _)
  simp only [leI, decide_eq_true_eq] at h1 h2
  exact Int.le_antisymm h1 h2
def encI (x : Int) : List Value := [.int .i64 x]
theorem flat_encI (L : List Int) : L.flatMap encI = L.map encZ := by
  induction L with
  | nil => rfl
  | cons x L ih => rw [List.flatMap_cons, ih]; rfl
abbrev RdI := RdG encI 1
theorem Try.sortsAt (m : Nat) : AnyZI.SortsIn Try.prog Try.laysSorted_ren Fence.wide m :=
  ⟨fun blk off cap ss W hH hblk hsz => callsIn_wide.2 (AnyM.slices_Sort_int Try.laysSort blk off cap ss W hH hblk hsz),
   fun p cap W => callsIn_wide.2 (AnyM.slices_Sort_int_none Try.laysSort p cap W)⟩
/-- The sensor in memory. -/
structure St where
  (id ep hold now : Int)
  T : Tab
def SAt (w : World) (s n : Nat) (st : St) : Prop := ∃ p b,
  w.heap[s]? = some (.cells #[.int .i64 st.id, .int .i64 st.ep, .int .i64 st.hold, .int .i64 st.now, .pointer (some ⟨p, 0, none⟩)] 66 (0, 0)) ∧ w.heap[p]? = some (.cells #[.map (some b)] 68 (0, 0)) ∧ OwnT w b n st.T
theorem SAt.keeps {w w' : World} {s n : Nat} {st : St} (h : SAt w s n st) {S : Nat → Prop} (k : Keeps S w w') (hS : ∀ i, i < w.heap.size → ¬ S i) : SAt w' s n st := by
  obtain ⟨p, b, h1, h2, h3⟩ := h
  exact ⟨p, b, k.heapAt h1 (hS _ (Array.getElem?_eq_some_iff.1 h1).1), k.heapAt h2 (hS _ (Array.getElem?_eq_some_iff.1 h2).1), h3.keeps k (hS _ h3.lt)⟩
theorem SAt.below {w w' : World} {s n : Nat} {st : St} (h : SAt w s n st) (k : Below w.heap.size w w') : SAt w' s n st :=
  h.keeps (Keeps.below (S := fun _ => False) k) (fun _ _ x => x)
theorem SAt.lt {w : World} {s n : Nat} {st : St} (h : SAt w s n st) : s < w.heap.size := by
  obtain ⟨p, b, h1, _⟩ := h
  exact (Array.getElem?_eq_some_iff.1 h1).1
set_option maxHeartbeats 2000000 in
theorem c29 {w : World} {s n : Nat} {st : St} (h : SAt w s n st) (hT : TabOk st.T) (hn : n ≤ 100000) :
    Calls Try.prog 29 #[.pointer (some ⟨s, 0, none⟩)] w fun e w' => ∃ v, e = .returned v ∧ OwnG encI 1 3 w' w.heap.size v (keysL st.T) ∧ Below w.heap.size w w' := by
  obtain ⟨p, b, hs, hp, D, hown, hsee⟩ := h
  have hc4 : w.cell? ⟨s, 4, none⟩ = some (.pointer (some ⟨p, 0, none⟩)) := cell_of_heap hs 4
  have hcp : w.cell? ⟨p, 0, none⟩ = some (.map (some b)) := cell_of_heap hp 0
  have c30' := c30 s 4 p (.map (some b)) w hc4 hp
  have hsz := hown.size_le
  have HK := hidd (fun ss hp => OwnT.keys hown (fun k => (hsee k).1) hT (ss := ss) hp)
  have hmax : Maps.size D ≤ maxLen := by unfold maxLen; omega
  have hbytes : Maps.size D * 8 ≤ 140737488355328 := by omega
  have hbl := hown.lt
  clear hs hp hsee
  refine (callsIn_wide (n := 6)).1 ?_
  have hseq : SeqGives Fence.wide 2 Try.prog 47 #[.pointer (some ⟨w.heap.size, 0, none⟩)] encZ (fun ss => ss.Perm (intKeys D)) (Maps.size D) (w.alloc (.cells #[.map (some b)] 68)) :=
    AnyZI.keys_gives (ρ := Try.laysKeys_ren) { Try.laysKeys with } Fence.wide _ trivial rfl (by omega) w.heap.size b n D _ (by simp) (by simp) (by
      obtain ⟨es, clock, hb, Ft, hs, hD⟩ := hown
      exact ⟨es, clock, (Below.heap_alloc _ _ b hbl).trans hb, Ft, hs, hD⟩)
  have cK : ∀ mb W, CallsIn Fence.wide 5 Try.prog 42 #[.map mb] W fun e w' => e = .returned (.func (.func 47) #[] #[.pointer (some ⟨W.heap.size, 0, none⟩)]) ∧ w' = W.alloc (.cells #[.map mb] 68) := fun mb W => AnyZI.keys_in Try.laysKeys Fence.wide 5 trivial rfl mb W
  have cS := AnyZI.sorted_in Try.laysSorted Fence.wide 5 trivial trivial trivial trivial rfl (by omega) (Try.sortsAt _) (enters_of Try.func46 (by kernel_rfl) rfl) 47 #[.pointer (some ⟨w.heap.size, 0, none⟩)] trivial (enters_of Try.func47 (by kernel_rfl) rfl) _ _ hmax hbytes _ hseq
  change CallsIn _ _ Try.prog 41 _ _ _ at cS
  have cL : CallsIn Fence.wide 5 Try.prog 30 #[.pointer (some ⟨s, 4, none⟩)] w fun e w' => e = .returned (.pointer (some ⟨p, 0, none⟩)) ∧ w = w' := callsIn_wide.2 c30'
  have hfL : Fence.wide.fn 30 := trivial
  have hfK : Fence.wide.fn 42 := trivial
  have hfS : Fence.wide.fn 41 := trivial
  clear hown hsz hmax hbytes hseq c30'
  refine callsIn_of_wp Try.func29 rfl trivial ?_ rfl
  simp only [Try.ntmps29, List.size_toArray, List.length_cons, List.length_nil, Nat.reduceAdd, Nat.reduceSub, Array.replicate_succ, Array.replicate_zero, List.push_toArray, List.append_toArray, List.nil_append, List.cons_append]
  gi_wp2_with (first
    | (gi_at_call 30; refine cL.mono ?_; rintro e w' ⟨rfl, rfl⟩)
    | (gi_at_call 42; refine (cK _ _).mono ?_; rintro e w' ⟨rfl, rfl⟩)
    | (gi_at_call 41; refine cS.mono ?_; rintro e w' ⟨v, ss, rfl, hS, hrow, hnil, hb⟩))
  go_ret
  have hk := HK.out ss hS
  refine ⟨v, rfl, ?_, ((Below.refl _ w).alloc (Nat.le_refl _) _).trans (hb.mono (by simp))⟩
  have hl : ss.length = (keysL st.T).length := by rw [← hk, List.length_mergeSort]
  unfold OwnG
  rw [flat_encI, ← hk, List.length_mergeSort]
  exact ownsRow_base_a hrow (by simp)
end Go.Proofs.Ytocfnimeinongaa
