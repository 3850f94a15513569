/- GridScrolls's walk over arguments that can be read. -/
import Derived.Test.YtldjmacnokkjdaaDoorWGridScrolls
import Derived.Test.YtldjmacnokkjdaaDoorArg6
namespace Go.Proofs.YtldjmacnokkjdaaDoor
open Go.RowKit
theorem list3' {α : Type} {l : List α} (h : l.length = 3) : ∃ a b c, l = [a, b, c] := by
  match l, h with
  | [a, b, c], _ => exact ⟨a, b, c, rfl⟩
set_option maxRecDepth 100000 in
theorem gridScrolls_argwalk {H : Type} {enc : TypeId × Value → H} {base b0 : Nat} {spare : Nat → Bool} {held : Bool} {v0 v1 : Value} {d0 d1 : DataW H} {p0 p1 : List MemPlace} (w : World)
    (h0 : DataW.Trod enc Tryd.prog w base spare held 46 v0 d0 p0) (o0 : Value.okWide Tryd.prog w .any b0 46 v0)
    (h1 : DataW.Trod enc Tryd.prog w base spare held 54 v1 d1 p1) (o1 : Value.okWide Tryd.prog w .any b0 54 v1) :
    Calls Tryd.prog 7 #[v0, v1] w fun e w' => e = .returned (.bool true) ∧ Below w.heap.size w w' := by
  obtain ⟨nx, ny, A, k, c, l, rfl, hl, hnx, hny⟩ := arg_num h0 o0
  obtain ⟨q, hq, rfl, _⟩ := arg_ints Tryd.underlying54 (by kernel_rfl) h1 o1
  obtain ⟨q0, q1, q2, rfl⟩ := list3' hq
  exact (gridScrolls_walk w nx ny A k c l hl hnx hny q0 q1 q2).mono fun e w' h => ⟨h.1, h.2.below⟩
end Go.Proofs.YtldjmacnokkjdaaDoor
