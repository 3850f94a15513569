/- An operation of a region, found by its number; for walks in the text's order (written out by hsx.py). -/
import Derived.Test.YtldjmacnokkjdaaDoorShift
import Derived.Deep.RegionHeld3
namespace Go.Proofs.YtldjmacnokkjdaaDoor
theorem op_at0 {o : Oper} {l : List Oper} : (o :: l).toArray[0]? = some o := by simp
theorem op_atS {x o : Oper} {l : List Oper} {i : Nat} (h : l.toArray[i]? = some o) : (x :: l).toArray[i + 1]? = some o := by simpa using h
end Go.Proofs.YtldjmacnokkjdaaDoor
