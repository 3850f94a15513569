/- The grids by numbers and the arrays of numbers among the arguments of the laws of layer 6: how they are read. -/
import Derived.Test.YtldjmacnokkjdaaDoorLet
import Derived.Test.YtldjmacnokkjdaaDoorLawBase
namespace Go.Proofs.YtldjmacnokkjdaaDoor
open Go.RowKit Go.ChangeShapes Go.WideShapes
theorem list_by_parts3 {cs : List Value} {x y z : Value} (h : cs.length = 3) (h0 : (cs.drop 0).take 1 = [x]) (h1 : (cs.drop 1).take 1 = [y]) (h2 : (cs.drop 2).take 1 = [z]) : cs = [x, y, z] := by
  match cs, h with
  | [a, b, c], _ => simp at h0 h1 h2; simp [h0, h1, h2]
set_option maxRecDepth 100000
/-- A grid by numbers. -/
theorem arg_num {H : Type} {enc : TypeId × Value → H} {w : World} {base b0 : Nat} {spare : Nat → Bool} {held : Bool} {v : Value} {d : DataW H} {p : List MemPlace}
    (h : DataW.Trod enc Tryd.prog w base spare held 46 v d p) (o : Value.okWide Tryd.prog w .any b0 46 v) :
    ∃ (nx ny : Int) (A : Option Addr) (k c : Nat) (l : List Int), v = .agg #[.int .i64 nx, .int .i64 ny, .slice A k c] ∧ ReadsRows w A k 1 intV l ∧ (-9223372036854775808 ≤ nx ∧ nx ≤ 9223372036854775807) ∧ (-9223372036854775808 ≤ ny ∧ ny ≤ 9223372036854775807) := by
  obtain ⟨cs, rfl, hsz⟩ := okWide_struct Tryd.underlying46 o
  obtain ⟨fuel, hf⟩ := h
  obtain ⟨hl, n, hx⟩ := trod_fields Tryd.underlying46 hf
  obtain ⟨y0, h0⟩ := hx 0 _ rfl
  obtain ⟨y1, h1⟩ := hx 1 _ rfl
  obtain ⟨y2, h2⟩ := hx 2 _ rfl
  obtain ⟨nx, e0, w0⟩ := trod_i Tryd.underlying3 h0
  obtain ⟨ny, e1, w1⟩ := trod_i Tryd.underlying3 h1
  obtain ⟨A, k, c, l, e2, _, hr, _⟩ := trod_reads Tryd.underlying34 (size := 1) (by kernel_rfl) intV (fun _ => True) (fun fuel cs x h => by obtain ⟨n, e, _⟩ := trod_i Tryd.underlying3 h; exact ⟨n, e, trivial⟩) h2
  refine ⟨nx, ny, A, k, c, l, ?_, hr, bounds_i64 w0, bounds_i64 w1⟩
  congr 1
  refine Array.ext' ?_
  have hl3 : (Value.cells (.agg cs)).toList.length = 3 := by rw [hl]; kernel_rfl
  have := list_by_parts3 hl3 e0 e1 e2
  simpa [Value.cells] using this
/-- An array of numbers: its numbers. -/
theorem arg_ints {H : Type} {enc : TypeId × Value → H} {w : World} {base b0 : Nat} {spare : Nat → Bool} {held : Bool} {v : Value} {d : DataW H} {p : List MemPlace} {t : TypeId} {n : Nat}
    (ht : Tryd.prog.underlying t = some (.array n 3)) (hc : Tryd.prog.cellsOf t = n)
    (h : DataW.Trod enc Tryd.prog w base spare held t v d p) (o : Value.okWide Tryd.prog w .any b0 t v) :
    ∃ l : List Int, l.length = n ∧ v = .agg (l.map (Value.int .i64)).toArray ∧ ∀ x ∈ l, -9223372036854775808 ≤ x ∧ x ≤ 9223372036854775807 := by
  obtain ⟨cs, rfl, hsz⟩ : ∃ cs, v = .agg cs ∧ cs.size = Tryd.prog.cellsOf t := by
    simp only [Value.okWide, ht] at o
    obtain ⟨cs, h1, h2, _⟩ := o
    exact ⟨cs, h1, h2⟩
  obtain ⟨fuel, hf⟩ := h
  obtain ⟨xs, m, rfl, _, hl, hn, hx⟩ := DataW.trod_array ht hf
  have hc1 : Tryd.prog.cellsOf 3 = 1 := by kernel_rfl
  have key : ∀ i, i < n → ∃ z, cs[i]? = some (.int .i64 z) ∧ (Lit.int .i64 z).wf = true := by
    intro i hi
    have := hx i hi
    rw [hc1, List.getElem?_eq_getElem (by omega)] at this
    obtain ⟨z, hz, hw⟩ := trod_i Tryd.underlying3 this
    refine ⟨z, ?_, hw⟩
    have h2 : (((Value.cells (.agg cs)).toList.drop (i * 1)).take 1)[0]? = some (.int .i64 z) := by rw [hz]; rfl
    rw [List.getElem?_take, if_pos (by omega), List.getElem?_drop] at h2
    simpa [Value.cells] using h2
  obtain ⟨f, hfz⟩ : ∃ f : Nat → Int, ∀ i, i < n → cs[i]? = some (.int .i64 (f i)) ∧ (Lit.int .i64 (f i)).wf = true := by
    refine ⟨fun i => if h : i < n then (key i h).choose else 0, fun i hi => ?_⟩
    simp only [hi, dif_pos]
    exact (key i hi).choose_spec
  refine ⟨(List.range n).map f, by simp, ?_, ?_⟩
  · congr 1
    refine Array.ext' ?_
    refine List.ext_getElem? fun i => ?_
    by_cases hi : i < n
    · have := (hfz i hi).1
      simp [hi]
      simpa using this
    · have : cs.size = n := by rw [hsz, hc]
      rw [List.getElem?_eq_none (by simp; omega), List.getElem?_eq_none (by simp; omega)]
  · intro x hx
    simp at hx
    obtain ⟨i, hi, rfl⟩ := hx
    exact bounds_i64 (hfz i hi).2
end Go.Proofs.YtldjmacnokkjdaaDoor
