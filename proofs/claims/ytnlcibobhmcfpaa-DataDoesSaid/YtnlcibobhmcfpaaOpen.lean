/- How the arguments of this seat's laws are opened: a packet by value. -/
import Derived.Test.YtnlcibobhmcfpaaBase
import Derived.ProofKit
import Derived.Deep.Slices
import Derived.Deep.Fields
namespace Go.Proofs.Ytnlcibobhmcfpaa
open Go.ChangeShapes Go.WideShapes Go.RowKit Go.Deep
theorem cells23 : Try.prog.cellsOf 23 = 5 := by kernel_rfl
theorem cells3 : Try.prog.cellsOf 3 = 1 := by kernel_rfl
theorem cells9 : Try.prog.cellsOf 9 = 1 := by kernel_rfl
theorem cells4 : Try.prog.cellsOf 4 = 1 := by kernel_rfl
def I64 (n : Int) : Prop := -9223372036854775808 ≤ n ∧ n ≤ 9223372036854775807
theorem i64_of_wf {n : Int} (h : (Lit.int .i64 n).wf = true) : I64 n := by
  simpa [Lit.wf, IntKind.min, IntKind.max, IntKind.signed, IntKind.bits, I64] using h
/-- What a packet's numbers are. -/
def PkOk (s d t n : Int) (x : ByteArray) : Prop := I64 s ∧ I64 d ∧ I64 t ∧ I64 n ∧ x.size ≤ maxLen
theorem list5 {α : Type} {l : List α} (h : l.length = 5) : ∃ a b c d e, l = [a, b, c, d, e] := by
  match l, h with
  | [a, b, c, d, e], _ => exact ⟨a, b, c, d, e, rfl⟩
theorem array_of {α : Type} {cs : Array α} {l : List α} (h : cs.toList = l) : cs = l.toArray := by cases cs; simp_all
section
variable {H : Type} {enc : TypeId × Value → H} {w : World} {base : Nat} {spare : Nat → Bool} {held : Bool}
theorem pk_of_trod {fuel : Nat} {cs : List Value} {y : DataW H × List MemPlace} (h : DataW.trod enc Try.prog w base spare held fuel 23 cs = some y) :
    ∃ s d t n x, cs = [.int .i64 s, .int .i64 d, .int .i64 t, .int .i64 n, .string x] ∧ PkOk s d t n x := by
  obtain ⟨xs, m, _, _, hl, hx, hf⟩ := DataW.trod_struct Try.underlying23 h
  have hl5 : cs.length = 5 := hl.trans cells23
  clear hl
  obtain ⟨c0, c1, c2, c3, c4, rfl⟩ := list5 hl5
  have l5 : xs.length = 5 := hx
  clear hx hl5 h
  have g0 := (hf 0 _ rfl).trans (List.getElem?_eq_getElem (by omega))
  have g1 := (hf 1 _ rfl).trans (List.getElem?_eq_getElem (by omega))
  have g2 := (hf 2 _ rfl).trans (List.getElem?_eq_getElem (by omega))
  have g3 := (hf 3 _ rfl).trans (List.getElem?_eq_getElem (by omega))
  have g4 := (hf 4 _ rfl).trans (List.getElem?_eq_getElem (by omega))
  obtain ⟨s, e0, _, w0⟩ := DataW.trod_int Try.underlying3 g0
  obtain ⟨d, e1, _, w1⟩ := DataW.trod_int Try.underlying3 g1
  obtain ⟨t, e2, _, w2⟩ := DataW.trod_int Try.underlying3 g2
  obtain ⟨n, e3, _, w3⟩ := DataW.trod_int Try.underlying3 g3
  obtain ⟨x, e4, _, w4⟩ := DataW.trod_string Try.underlying9 g4
  clear g0 g1 g2 g3 g4 hf
  simp [cells3, cells9] at e0 e1 e2 e3 e4
  exact ⟨s, d, t, n, x, by simp [e0, e1, e2, e3, e4], i64_of_wf w0, i64_of_wf w1, i64_of_wf w2, i64_of_wf w3, w4⟩
theorem agg_of {P : Program} {t : TypeId} {fs : Array Field} (hs : P.underlying t = some (.struct fs)) {r : Reach} {b0 : Nat} {v : Value} {d : DataW H} {p : List MemPlace} (hv : Value.okWide P w r b0 t v) (h : DataW.Trod enc P w base spare held t v d p) :
    ∃ cs fuel, v = .agg cs ∧ DataW.trod enc P w base spare held fuel t cs.toList = some (d, p) := by
  obtain ⟨cs, rfl, _⟩ := okWide_struct hs hv
  obtain ⟨fuel, hf⟩ := h
  exact ⟨cs, fuel, rfl, hf⟩
set_option maxRecDepth 100000 in
theorem open_pk {r : Reach} {b0 : Nat} {v : Value} {d : DataW H} {p : List MemPlace} (hv : Value.okWide Try.prog w r b0 23 v) (h : DataW.Trod enc Try.prog w base spare held 23 v d p) :
    ∃ s d t n x, v = .agg #[.int .i64 s, .int .i64 d, .int .i64 t, .int .i64 n, .string x] ∧ PkOk s d t n x := by
  have ho := agg_of Try.underlying23 hv h
  clear hv h
  obtain ⟨cs, fuel, hc, hf⟩ := ho
  subst hc
  obtain ⟨s, d, t, n, x, e, k⟩ := pk_of_trod hf
  exact ⟨s, d, t, n, x, congrArg Value.agg (array_of e), k⟩
end
end Go.Proofs.Ytnlcibobhmcfpaa
