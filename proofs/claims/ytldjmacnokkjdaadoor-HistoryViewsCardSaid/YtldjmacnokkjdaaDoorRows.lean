/-
  NARROWER THAN 'FOR EVERY INPUT', by the rows' own cells (each row's printed sentence says how): HistoryOrder: laid · HistoryRoom: laid · HistoryViews: laid · GridBeside: laid · GridScrolls: laid · GridLays: laid.
  DERIVED. THE GIVEN ROWS OF THIS SEAT. 6 by the template 'for every input the law returns true; each argument reads behind the call as it read before'; 0 by the template 'total and deterministic' (their statements: YtldjmacnokkjdaaDoorTotals.lean).
  GIVEN WITH THE SEED: the statements are not yours to turn. If you find one false, say at which input.
  Laid BY PROGRAM, IN A SANDBOX (cutbox-rows.mjs): the forced cells as the released guide's own fill.sh prints them over the translation 29cdd50222c10197… (all of the seat's roots in one cut). By AI agents, Wed Nov 11 2026. No macro, syntax, notation, axiom, sorry.
-/
import Derived.Test.YtldjmacnokkjdaaDoorChecked
import GoSem.PinnedTables
import GoSem.Claim
import GoSem.ClaimJoined
import GoSem.ClaimMapViews
import Derived.JoinedTies
import Derived.KernelRfl
namespace Go.Proofs.YtldjmacnokkjdaaDoor
/- THE CELL 'sum', in the pinned program and in every row, IS THE sha256 OF THE DUMP (.gsa) THAT YtldjmacnokkjdaaDoorProg.lean LOADS. Nothing in Lean hashes anything: it is a label: what it is worth is what the hold of that sum in a sandbox is worth. -/
noncomputable def Tryd.pinned : Pinned := { name := "ytldjmacnokkjdaadoor", sum := "29cdd50222c101971e2ca4e041c8b96c434e29347099be2749a31a9f6480c328", checked := Tryd.checked }
namespace Rows
def none {H : Type} : Left H := { results := [], args := [] }

/- WHAT THE LISTED PACKAGE-LEVEL VARIABLES READ AS WHEN THE CALL BEGINS. Each datum BY PROGRAM (the guide's laid-datum.mjs) off the statement by which the dump's own 'gosem.cut.vars' lays the variable. In a bare row this is a premise. The card (YtldjmacnokkjdaaDoorCards.lean) ties it to the program's text. -/
def laid_unicode_utf8_acceptRanges {H : Type} : DataW H := .agg [.agg [.lit (.int .u8 128), .lit (.int .u8 191)], .agg [.lit (.int .u8 160), .lit (.int .u8 191)], .agg [.lit (.int .u8 128), .lit (.int .u8 159)], .agg [.lit (.int .u8 144), .lit (.int .u8 191)], .agg [.lit (.int .u8 128), .lit (.int .u8 143)], .agg [.lit (.int .u8 0), .lit (.int .u8 0)], .agg [.lit (.int .u8 0), .lit (.int .u8 0)], .agg [.lit (.int .u8 0), .lit (.int .u8 0)], .agg [.lit (.int .u8 0), .lit (.int .u8 0)], .agg [.lit (.int .u8 0), .lit (.int .u8 0)], .agg [.lit (.int .u8 0), .lit (.int .u8 0)], .agg [.lit (.int .u8 0), .lit (.int .u8 0)], .agg [.lit (.int .u8 0), .lit (.int .u8 0)], .agg [.lit (.int .u8 0), .lit (.int .u8 0)], .agg [.lit (.int .u8 0), .lit (.int .u8 0)], .agg [.lit (.int .u8 0), .lit (.int .u8 0)]]
/-- One of Go's own tables, pinned by name: the form's constant. -/
def laid_unicode_utf8_first : DataW Unit := Go.Pinned.utf8First

/-- 'lyceumlaw10.HistoryOrder': WHATEVER THE INPUT: true; the input reads as it did. -/
def historyOrderSpec : ChangeSpec := { name := "historyOrder", fn := fun _ => fun
  | [d1, d2] => { results := [.lit (.bool true)], args := [d1, d2] }
  | _ => none }
def historyOrderRow : OpenClaim := { program := "ytldjmacnokkjdaadoor", sum := "29cdd50222c101971e2ca4e041c8b96c434e29347099be2749a31a9f6480c328", func := "lyceum/lyceumlaw10.HistoryOrder", spec := "historyOrder", inPlace := ["internal/abi.NoEscape", "internal/bytealg.IndexByteString", "internal/bytealg.IndexString"], named := ["unicode/utf8.first", "unicode/utf8.acceptRanges", "internal/bytealg.MaxLen"], apart := false, laid := [("unicode/utf8.acceptRanges", laid_unicode_utf8_acceptRanges), ("unicode/utf8.first", laid_unicode_utf8_first)] }
def HistoryOrderSaid : Prop := historyOrderRow.holds Tryd.pinned (OpenSpec.ofChange historyOrderSpec)

/-- ITS FALSE NEIGHBOUR: 'it returns false'. Refute it at one input. -/
def historyOrderWrong : ChangeSpec := { name := "historyOrder", fn := fun _ => fun
  | [d1, d2] => { results := [.lit (.bool false)], args := [d1, d2] }
  | _ => none }
def HistoryOrderWrongFalsely : Prop := historyOrderRow.holds Tryd.pinned (OpenSpec.ofChange historyOrderWrong)

/-- 'lyceumlaw10.HistoryRoom': WHATEVER THE INPUT: true; the input reads as it did. -/
def historyRoomSpec : ChangeSpec := { name := "historyRoom", fn := fun _ => fun
  | [d1, d2] => { results := [.lit (.bool true)], args := [d1, d2] }
  | _ => none }
def historyRoomRow : OpenClaim := { program := "ytldjmacnokkjdaadoor", sum := "29cdd50222c101971e2ca4e041c8b96c434e29347099be2749a31a9f6480c328", func := "lyceum/lyceumlaw10.HistoryRoom", spec := "historyRoom", inPlace := ["internal/abi.NoEscape", "internal/bytealg.IndexByteString", "internal/bytealg.IndexString"], named := ["unicode/utf8.first", "unicode/utf8.acceptRanges", "internal/bytealg.MaxLen"], apart := false, laid := [("unicode/utf8.acceptRanges", laid_unicode_utf8_acceptRanges), ("unicode/utf8.first", laid_unicode_utf8_first)] }
def HistoryRoomSaid : Prop := historyRoomRow.holds Tryd.pinned (OpenSpec.ofChange historyRoomSpec)

/-- ITS FALSE NEIGHBOUR: 'it returns false'. Refute it at one input. -/
def historyRoomWrong : ChangeSpec := { name := "historyRoom", fn := fun _ => fun
  | [d1, d2] => { results := [.lit (.bool false)], args := [d1, d2] }
  | _ => none }
def HistoryRoomWrongFalsely : Prop := historyRoomRow.holds Tryd.pinned (OpenSpec.ofChange historyRoomWrong)

/-- 'lyceumlaw10.HistoryViews': WHATEVER THE INPUT: true; the input reads as it did. -/
def historyViewsSpec : ChangeSpec := { name := "historyViews", fn := fun _ => fun
  | [d1, d2, d3] => { results := [.lit (.bool true)], args := [d1, d2, d3] }
  | _ => none }
def historyViewsRow : OpenClaim := { program := "ytldjmacnokkjdaadoor", sum := "29cdd50222c101971e2ca4e041c8b96c434e29347099be2749a31a9f6480c328", func := "lyceum/lyceumlaw10.HistoryViews", spec := "historyViews", inPlace := ["internal/abi.NoEscape", "internal/bytealg.IndexByteString", "internal/bytealg.IndexString"], unfollowed := true, recurses := true, named := ["unicode/utf8.first", "unicode/utf8.acceptRanges", "internal/bytealg.MaxLen"], apart := false, laid := [("unicode/utf8.acceptRanges", laid_unicode_utf8_acceptRanges), ("unicode/utf8.first", laid_unicode_utf8_first)] }
def HistoryViewsSaid : Prop := historyViewsRow.holds Tryd.pinned (OpenSpec.ofChange historyViewsSpec)

/-- ITS FALSE NEIGHBOUR: 'it returns false'. Refute it at one input. -/
def historyViewsWrong : ChangeSpec := { name := "historyViews", fn := fun _ => fun
  | [d1, d2, d3] => { results := [.lit (.bool false)], args := [d1, d2, d3] }
  | _ => none }
def HistoryViewsWrongFalsely : Prop := historyViewsRow.holds Tryd.pinned (OpenSpec.ofChange historyViewsWrong)

/-- 'lyceumlaw06.GridBeside': WHATEVER THE INPUT: true; the input reads as it did. -/
def gridBesideSpec : ChangeSpec := { name := "gridBeside", fn := fun _ => fun
  | [d1, d2, d3] => { results := [.lit (.bool true)], args := [d1, d2, d3] }
  | _ => none }
def gridBesideRow : OpenClaim := { program := "ytldjmacnokkjdaadoor", sum := "29cdd50222c101971e2ca4e041c8b96c434e29347099be2749a31a9f6480c328", func := "lyceum/lyceumlaw06.GridBeside", spec := "gridBeside", inPlace := ["internal/abi.NoEscape", "internal/bytealg.IndexByteString", "internal/bytealg.IndexString"], unfollowed := true, recurses := true, named := ["unicode/utf8.first", "unicode/utf8.acceptRanges", "internal/bytealg.MaxLen"], apart := false, laid := [("unicode/utf8.acceptRanges", laid_unicode_utf8_acceptRanges), ("unicode/utf8.first", laid_unicode_utf8_first)] }
def GridBesideSaid : Prop := gridBesideRow.holds Tryd.pinned (OpenSpec.ofChange gridBesideSpec)

/-- ITS FALSE NEIGHBOUR: 'it returns false'. Refute it at one input. -/
def gridBesideWrong : ChangeSpec := { name := "gridBeside", fn := fun _ => fun
  | [d1, d2, d3] => { results := [.lit (.bool false)], args := [d1, d2, d3] }
  | _ => none }
def GridBesideWrongFalsely : Prop := gridBesideRow.holds Tryd.pinned (OpenSpec.ofChange gridBesideWrong)

/-- 'lyceumlaw06.GridScrolls': WHATEVER THE INPUT: true; the input reads as it did. -/
def gridScrollsSpec : ChangeSpec := { name := "gridScrolls", fn := fun _ => fun
  | [d1, d2] => { results := [.lit (.bool true)], args := [d1, d2] }
  | _ => none }
def gridScrollsRow : OpenClaim := { program := "ytldjmacnokkjdaadoor", sum := "29cdd50222c101971e2ca4e041c8b96c434e29347099be2749a31a9f6480c328", func := "lyceum/lyceumlaw06.GridScrolls", spec := "gridScrolls", inPlace := ["internal/abi.NoEscape", "internal/bytealg.IndexByteString", "internal/bytealg.IndexString"], unfollowed := true, recurses := true, named := ["unicode/utf8.first", "unicode/utf8.acceptRanges", "internal/bytealg.MaxLen"], apart := false, laid := [("unicode/utf8.acceptRanges", laid_unicode_utf8_acceptRanges), ("unicode/utf8.first", laid_unicode_utf8_first)] }
def GridScrollsSaid : Prop := gridScrollsRow.holds Tryd.pinned (OpenSpec.ofChange gridScrollsSpec)

/-- ITS FALSE NEIGHBOUR: 'it returns false'. Refute it at one input. -/
def gridScrollsWrong : ChangeSpec := { name := "gridScrolls", fn := fun _ => fun
  | [d1, d2] => { results := [.lit (.bool false)], args := [d1, d2] }
  | _ => none }
def GridScrollsWrongFalsely : Prop := gridScrollsRow.holds Tryd.pinned (OpenSpec.ofChange gridScrollsWrong)

/-- 'lyceumlaw06.GridLays': WHATEVER THE INPUT: true; the input reads as it did. -/
def gridLaysSpec : ChangeSpec := { name := "gridLays", fn := fun _ => fun
  | [d1, d2, d3] => { results := [.lit (.bool true)], args := [d1, d2, d3] }
  | _ => none }
def gridLaysRow : OpenClaim := { program := "ytldjmacnokkjdaadoor", sum := "29cdd50222c101971e2ca4e041c8b96c434e29347099be2749a31a9f6480c328", func := "lyceum/lyceumlaw06.GridLays", spec := "gridLays", inPlace := ["internal/abi.NoEscape", "internal/bytealg.IndexByteString", "internal/bytealg.IndexString"], unfollowed := true, recurses := true, named := ["unicode/utf8.first", "unicode/utf8.acceptRanges", "internal/bytealg.MaxLen"], apart := false, laid := [("unicode/utf8.acceptRanges", laid_unicode_utf8_acceptRanges), ("unicode/utf8.first", laid_unicode_utf8_first)] }
def GridLaysSaid : Prop := gridLaysRow.holds Tryd.pinned (OpenSpec.ofChange gridLaysSpec)

/-- ITS FALSE NEIGHBOUR: 'it returns false'. Refute it at one input. -/
def gridLaysWrong : ChangeSpec := { name := "gridLays", fn := fun _ => fun
  | [d1, d2, d3] => { results := [.lit (.bool false)], args := [d1, d2, d3] }
  | _ => none }
def GridLaysWrongFalsely : Prop := gridLaysRow.holds Tryd.pinned (OpenSpec.ofChange gridLaysWrong)

/- THE SECOND FORM. 'bulk': how many values and letters a reading holds, each counted each time it is reached (what is shared counts as often as it is met; a slice's spare places count too). A statement '..UptoSaid' is the law's where the arguments, and the package variables that the reading takes, are together of bulk at most 1048576: NARROWER than '..Said'. Prove '..Said' where nothing that the law and all that it calls make is longer than what came in: it says more and counts as full. Else prove '..UptoSaid'. A law counts once. -/
mutual
def uptoBulk {H : Type} : DataW H → Nat
  | .lit (.string bytes) => bytes.length + 1
  | .lit _ => 1
  | .nil => 1
  | .ptr d => uptoBulk d + 1
  | .slice elems spare => uptoBulkAll elems + uptoBulkAll spare + 1
  | .agg parts => uptoBulkAll parts + 1
  | .iface _ d => uptoBulk d + 1
  | .map entries => uptoBulkEntries entries + 1
  | .held _ => 1
def uptoBulkAll {H : Type} : List (DataW H) → Nat
  | [] => 0
  | d :: r => uptoBulk d + uptoBulkAll r
def uptoBulkEntries {H : Type} : List (Lit × DataW H) → Nat
  | [] => 0
  | x :: r => uptoBulkEntry x + uptoBulkEntries r
def uptoBulkEntry {H : Type} : Lit × DataW H → Nat
  | (.string bytes, d) => bytes.length + uptoBulk d + 1
  | (_, d) => uptoBulk d + 1
 end
def uptoSmall : (H : Type) → List (DataW H) → Bool := fun _ ds => decide (uptoBulkAll ds ≤ 1048576)
def OpenSpec.upto (s : _root_.Go.ChangeSpec) : _root_.Go.OpenSpec := { _root_.Go.OpenSpec.ofChange s with cond := some uptoSmall }

/-- 'lyceumlaw10.HistoryOrder', WHERE WHAT IT READS IS OF BULK AT MOST 1048576: true; the input reads as it did. -/
def historyOrderUptoRow : OpenClaim := { program := "ytldjmacnokkjdaadoor", sum := "29cdd50222c101971e2ca4e041c8b96c434e29347099be2749a31a9f6480c328", func := "lyceum/lyceumlaw10.HistoryOrder", spec := "historyOrder", inPlace := ["internal/abi.NoEscape", "internal/bytealg.IndexByteString", "internal/bytealg.IndexString"], named := ["unicode/utf8.first", "unicode/utf8.acceptRanges", "internal/bytealg.MaxLen"], apart := false, laid := [("unicode/utf8.acceptRanges", laid_unicode_utf8_acceptRanges), ("unicode/utf8.first", laid_unicode_utf8_first)], narrowed := true }
def HistoryOrderUptoSaid : Prop := historyOrderUptoRow.holds Tryd.pinned (OpenSpec.upto historyOrderSpec)

/-- 'lyceumlaw10.HistoryRoom', WHERE WHAT IT READS IS OF BULK AT MOST 1048576: true; the input reads as it did. -/
def historyRoomUptoRow : OpenClaim := { program := "ytldjmacnokkjdaadoor", sum := "29cdd50222c101971e2ca4e041c8b96c434e29347099be2749a31a9f6480c328", func := "lyceum/lyceumlaw10.HistoryRoom", spec := "historyRoom", inPlace := ["internal/abi.NoEscape", "internal/bytealg.IndexByteString", "internal/bytealg.IndexString"], named := ["unicode/utf8.first", "unicode/utf8.acceptRanges", "internal/bytealg.MaxLen"], apart := false, laid := [("unicode/utf8.acceptRanges", laid_unicode_utf8_acceptRanges), ("unicode/utf8.first", laid_unicode_utf8_first)], narrowed := true }
def HistoryRoomUptoSaid : Prop := historyRoomUptoRow.holds Tryd.pinned (OpenSpec.upto historyRoomSpec)

/-- 'lyceumlaw10.HistoryViews', WHERE WHAT IT READS IS OF BULK AT MOST 1048576: true; the input reads as it did. -/
def historyViewsUptoRow : OpenClaim := { program := "ytldjmacnokkjdaadoor", sum := "29cdd50222c101971e2ca4e041c8b96c434e29347099be2749a31a9f6480c328", func := "lyceum/lyceumlaw10.HistoryViews", spec := "historyViews", inPlace := ["internal/abi.NoEscape", "internal/bytealg.IndexByteString", "internal/bytealg.IndexString"], unfollowed := true, recurses := true, named := ["unicode/utf8.first", "unicode/utf8.acceptRanges", "internal/bytealg.MaxLen"], apart := false, laid := [("unicode/utf8.acceptRanges", laid_unicode_utf8_acceptRanges), ("unicode/utf8.first", laid_unicode_utf8_first)], narrowed := true }
def HistoryViewsUptoSaid : Prop := historyViewsUptoRow.holds Tryd.pinned (OpenSpec.upto historyViewsSpec)

/-- 'lyceumlaw06.GridBeside', WHERE WHAT IT READS IS OF BULK AT MOST 1048576: true; the input reads as it did. -/
def gridBesideUptoRow : OpenClaim := { program := "ytldjmacnokkjdaadoor", sum := "29cdd50222c101971e2ca4e041c8b96c434e29347099be2749a31a9f6480c328", func := "lyceum/lyceumlaw06.GridBeside", spec := "gridBeside", inPlace := ["internal/abi.NoEscape", "internal/bytealg.IndexByteString", "internal/bytealg.IndexString"], unfollowed := true, recurses := true, named := ["unicode/utf8.first", "unicode/utf8.acceptRanges", "internal/bytealg.MaxLen"], apart := false, laid := [("unicode/utf8.acceptRanges", laid_unicode_utf8_acceptRanges), ("unicode/utf8.first", laid_unicode_utf8_first)], narrowed := true }
def GridBesideUptoSaid : Prop := gridBesideUptoRow.holds Tryd.pinned (OpenSpec.upto gridBesideSpec)

/-- 'lyceumlaw06.GridScrolls', WHERE WHAT IT READS IS OF BULK AT MOST 1048576: true; the input reads as it did. -/
def gridScrollsUptoRow : OpenClaim := { program := "ytldjmacnokkjdaadoor", sum := "29cdd50222c101971e2ca4e041c8b96c434e29347099be2749a31a9f6480c328", func := "lyceum/lyceumlaw06.GridScrolls", spec := "gridScrolls", inPlace := ["internal/abi.NoEscape", "internal/bytealg.IndexByteString", "internal/bytealg.IndexString"], unfollowed := true, recurses := true, named := ["unicode/utf8.first", "unicode/utf8.acceptRanges", "internal/bytealg.MaxLen"], apart := false, laid := [("unicode/utf8.acceptRanges", laid_unicode_utf8_acceptRanges), ("unicode/utf8.first", laid_unicode_utf8_first)], narrowed := true }
def GridScrollsUptoSaid : Prop := gridScrollsUptoRow.holds Tryd.pinned (OpenSpec.upto gridScrollsSpec)

/-- 'lyceumlaw06.GridLays', WHERE WHAT IT READS IS OF BULK AT MOST 1048576: true; the input reads as it did. -/
def gridLaysUptoRow : OpenClaim := { program := "ytldjmacnokkjdaadoor", sum := "29cdd50222c101971e2ca4e041c8b96c434e29347099be2749a31a9f6480c328", func := "lyceum/lyceumlaw06.GridLays", spec := "gridLays", inPlace := ["internal/abi.NoEscape", "internal/bytealg.IndexByteString", "internal/bytealg.IndexString"], unfollowed := true, recurses := true, named := ["unicode/utf8.first", "unicode/utf8.acceptRanges", "internal/bytealg.MaxLen"], apart := false, laid := [("unicode/utf8.acceptRanges", laid_unicode_utf8_acceptRanges), ("unicode/utf8.first", laid_unicode_utf8_first)], narrowed := true }
def GridLaysUptoSaid : Prop := gridLaysUptoRow.holds Tryd.pinned (OpenSpec.upto gridLaysSpec)

end Rows
end Go.Proofs.YtldjmacnokkjdaaDoor
