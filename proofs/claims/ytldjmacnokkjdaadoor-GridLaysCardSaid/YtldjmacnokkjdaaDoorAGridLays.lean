/- GridLays's walk over arguments that can be read. -/
import Derived.Test.YtldjmacnokkjdaaDoorWGridLays
import Derived.Test.YtldjmacnokkjdaaDoorArg6
namespace Go.Proofs.YtldjmacnokkjdaaDoor
open Go.RowKit
theorem list2' {α : Type} {l : List α} (h : l.length = 2) : ∃ a b, l = [a, b] := by
  match l, h with
  | [a, b], _ => exact ⟨a, b, rfl⟩
set_option maxRecDepth 100000 in
theorem gridLays_argwalk {H : Type} {enc : TypeId × Value → H} {base b0 : Nat} {spare : Nat → Bool} {held : Bool} {v0 v1 v2 : Value} {d0 d1 d2 : DataW H} {p0 p1 p2 : List MemPlace} (w : World)
    (h0 : DataW.Trod enc Tryd.prog w base spare held 46 v0 d0 p0) (o0 : Value.okWide Tryd.prog w .any b0 46 v0)
    (h1 : DataW.Trod enc Tryd.prog w base spare held 46 v1 d1 p1) (o1 : Value.okWide Tryd.prog w .any b0 46 v1)
    (h2 : DataW.Trod enc Tryd.prog w base spare held 57 v2 d2 p2) (o2 : Value.okWide Tryd.prog w .any b0 57 v2) :
    Calls Tryd.prog 8 #[v0, v1, v2] w fun e w' => e = .returned (.bool true) ∧ Below w.heap.size w w' := by
  obtain ⟨nx, ny, A, k, c, l, rfl, hl, hnx, hny⟩ := arg_num h0 o0
  obtain ⟨px, py, B, j, c', m, rfl, hm, _, _⟩ := arg_num h1 o1
  obtain ⟨q, hq, rfl, _⟩ := arg_ints Tryd.underlying57 (by kernel_rfl) h2 o2
  obtain ⟨q0, q1, rfl⟩ := list2' hq
  exact (gridLays_walk w nx ny A k c l hl hnx hny px py B j c' m hm q0 q1).mono fun e w' h => ⟨h.1, h.2.below⟩
end Go.Proofs.YtldjmacnokkjdaaDoor
