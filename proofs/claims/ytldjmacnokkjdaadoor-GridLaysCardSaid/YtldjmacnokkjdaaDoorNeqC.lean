/- Cells that are compared by '!='. -/
import Derived.Test.YtldjmacnokkjdaaDoorCellS
namespace Go.Proofs.YtldjmacnokkjdaaDoor
open Go.RowKit
set_option linter.unusedVariables false
set_option linter.unusedSimpArgs false

theorem run_neq_cell (W : World) (c d : Cell) : (binOp .neq 27 c.val d.val).run Tryd.prog W = .ok (.bool (!decide (c = d))) W := by
  have u1 : Tryd.prog.underlying 27 = some (.struct (Tryd.prog.fieldsOf 27)) := by kernel_rfl
  have u2 : Tryd.prog.stoodInHeld 27 = false := by kernel_rfl
  have u3 : (Tryd.prog.fieldsOf 27).toList = [{ name := "R", type := 21, offset := 0, embedded := false, tag := "", pkgPath := "", byteOffset := 0 }, { name := "Fg", type := 5, offset := 1, embedded := false, tag := "", pkgPath := "", byteOffset := 4 }, { name := "Bg", type := 5, offset := 2, embedded := false, tag := "", pkgPath := "", byteOffset := 5 }, { name := "Attr", type := 5, offset := 3, embedded := false, tag := "", pkgPath := "", byteOffset := 6 }] := by kernel_rfl
  obtain ⟨r, fg, bg, a⟩ := c
  obtain ⟨r', fg', bg', a'⟩ := d
  simp only [Cell.val]
  rw [run_neq_struct, show (10000 : Nat) = 9999 + 1 from rfl, run_equalIn_agg _ _ _ _ _ u1 u2, u3]
  have v1 := Tryd.underlying21
  have v2 := Tryd.underlying5
  simp [go_sem]
  have ha : ((a.val : Int) = (a'.val : Int)) ↔ a = a' := by rw [Fin.ext_iff]; omega
  by_cases h1 : r = r' <;> by_cases h2 : fg = fg' <;> by_cases h3 : bg = bg' <;> by_cases h4 : a = a' <;> simp [h1, h2, h3, h4, ha]

end Go.Proofs.YtldjmacnokkjdaaDoor
