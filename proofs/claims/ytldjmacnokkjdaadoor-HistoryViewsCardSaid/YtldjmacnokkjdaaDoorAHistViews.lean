/- HistoryViews's walk over arguments that can be read. -/
import Derived.Test.YtldjmacnokkjdaaDoorWHistViews
import Derived.Test.YtldjmacnokkjdaaDoorGa
namespace Go.Proofs.YtldjmacnokkjdaaDoor
open Go.RowKit
set_option maxRecDepth 100000 in
theorem historyViews_argwalk {H : Type} {enc : TypeId × Value → H} {base b0 : Nat} {spare : Nat → Bool} {held : Bool} {v0 v1 v2 : Value} {d0 d1 d2 : DataW H} {p0 p1 p2 : List MemPlace} (w : World)
    (h0 : DataW.Trod enc Tryd.prog w base spare held 34 v0 d0 p0) (o0 : Value.okWide Tryd.prog w .any b0 34 v0)
    (h1 : DataW.Trod enc Tryd.prog w base spare held 3 v1 d1 p1) (o1 : Value.okWide Tryd.prog w .any b0 3 v1)
    (h2 : DataW.Trod enc Tryd.prog w base spare held 3 v2 d2 p2) (o2 : Value.okWide Tryd.prog w .any b0 3 v2) :
    Calls Tryd.prog 5 #[v0, v1, v2] w fun e w' => e = .returned (.bool true) ∧ Below w.heap.size w w' := by
  obtain ⟨A, n, c, l, rfl, _, hl, _⟩ := arg_rows Tryd.underlying34 (size := 1) (by kernel_rfl) intV (fun _ => True) (fun fuel cs x h => by obtain ⟨n, e, _⟩ := trod_i Tryd.underlying3 h; exact ⟨n, e, trivial⟩) h0 o0
  obtain ⟨high, rfl, rfl, rfl, _⟩ := Go.ChangeShapes.open_int Tryd.underlying3 o1 h1
  obtain ⟨back, rfl, rfl, rfl, _⟩ := Go.ChangeShapes.open_int Tryd.underlying3 o2 h2
  exact (historyViews_walk w A n c l hl high back).mono fun e w' h => ⟨h.1, h.2.below⟩
end Go.Proofs.YtldjmacnokkjdaaDoor
