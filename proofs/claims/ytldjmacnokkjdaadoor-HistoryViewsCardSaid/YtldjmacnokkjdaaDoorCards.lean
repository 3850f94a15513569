/-
  DERIVED. GIVEN WITH THE SEED: THE CARDS: each row of YtldjmacnokkjdaaDoorRows.lean that lists a variable, with what it lists TIED to the program's text (the seventh form; the later family's looks); each row that meets fmt, with fmt's text TOLD by the authors' own Lean function (tested against real Go, not proved from fmt's source: count such statements apart). THE CARD IS WHAT COUNTS. Prove the row's statement (the work); the ties are given (YtldjmacnokkjdaaDoorTie.lean); close each card by the builder's one call (the guide's Derived/Test/ToyasCard.lean, 'card_holds'). Laid BY PROGRAM, IN A SANDBOX (cutbox-door.mjs). By AI agents, Wed Nov 11 2026. No macro, syntax, notation, axiom, sorry.
-/
import Derived.Test.YtldjmacnokkjdaaDoorRows
import GoSem.ClaimSeven
namespace Go.Proofs.YtldjmacnokkjdaaDoor
namespace Rows

/-- THE TIED CARD OF 'lyceumlaw10.HistoryOrder'. -/
def historyOrderCard : Claim7 := { stood := { row := historyOrderRow, standIns := [], harness := (true, "36bd38b94000b9af4a44e683120f33f4db881bea79a35596fbafe4ce7dd2bba1"), looks := false }, kinds := [], alts := [], laidByText := true, laidKinds := [.data, .pinned], laidTests := true, laidLooks := .later }
def HistoryOrderCardSaid : Prop := Claim7.holds Tryd.pinned (.plain (OpenSpec.ofChange historyOrderSpec)) historyOrderCard

/-- THE TIED CARD OF 'lyceumlaw10.HistoryRoom'. -/
def historyRoomCard : Claim7 := { stood := { row := historyRoomRow, standIns := [], harness := (true, "36bd38b94000b9af4a44e683120f33f4db881bea79a35596fbafe4ce7dd2bba1"), looks := false }, kinds := [], alts := [], laidByText := true, laidKinds := [.data, .pinned], laidTests := true, laidLooks := .later }
def HistoryRoomCardSaid : Prop := Claim7.holds Tryd.pinned (.plain (OpenSpec.ofChange historyRoomSpec)) historyRoomCard

/-- THE TIED CARD OF 'lyceumlaw10.HistoryViews'. -/
def historyViewsCard : Claim7 := { stood := { row := historyViewsRow, standIns := [], harness := (true, "36bd38b94000b9af4a44e683120f33f4db881bea79a35596fbafe4ce7dd2bba1"), looks := false }, kinds := [], alts := [], laidByText := true, laidKinds := [.data, .pinned], laidTests := true, laidLooks := .later }
def HistoryViewsCardSaid : Prop := Claim7.holds Tryd.pinned (.plain (OpenSpec.ofChange historyViewsSpec)) historyViewsCard

/-- THE TIED CARD OF 'lyceumlaw06.GridBeside'. -/
def gridBesideCard : Claim7 := { stood := { row := gridBesideRow, standIns := [], harness := (true, "36bd38b94000b9af4a44e683120f33f4db881bea79a35596fbafe4ce7dd2bba1"), looks := false }, kinds := [], alts := [], laidByText := true, laidKinds := [.data, .pinned], laidTests := true, laidLooks := .later }
def GridBesideCardSaid : Prop := Claim7.holds Tryd.pinned (.plain (OpenSpec.ofChange gridBesideSpec)) gridBesideCard

/-- THE TIED CARD OF 'lyceumlaw06.GridScrolls'. -/
def gridScrollsCard : Claim7 := { stood := { row := gridScrollsRow, standIns := [], harness := (true, "36bd38b94000b9af4a44e683120f33f4db881bea79a35596fbafe4ce7dd2bba1"), looks := false }, kinds := [], alts := [], laidByText := true, laidKinds := [.data, .pinned], laidTests := true, laidLooks := .later }
def GridScrollsCardSaid : Prop := Claim7.holds Tryd.pinned (.plain (OpenSpec.ofChange gridScrollsSpec)) gridScrollsCard

/-- THE TIED CARD OF 'lyceumlaw06.GridLays'. -/
def gridLaysCard : Claim7 := { stood := { row := gridLaysRow, standIns := [], harness := (true, "36bd38b94000b9af4a44e683120f33f4db881bea79a35596fbafe4ce7dd2bba1"), looks := false }, kinds := [], alts := [], laidByText := true, laidKinds := [.data, .pinned], laidTests := true, laidLooks := .later }
def GridLaysCardSaid : Prop := Claim7.holds Tryd.pinned (.plain (OpenSpec.ofChange gridLaysSpec)) gridLaysCard

/-- THE SECOND FORM's CARD OF 'lyceumlaw10.HistoryOrder'. -/
def historyOrderUptoCard : Claim7 := { stood := { row := historyOrderUptoRow, standIns := [], harness := (true, "36bd38b94000b9af4a44e683120f33f4db881bea79a35596fbafe4ce7dd2bba1"), looks := false }, kinds := [], alts := [], laidByText := true, laidKinds := [.data, .pinned], laidTests := true, laidLooks := .later }
def HistoryOrderUptoCardSaid : Prop := Claim7.holds Tryd.pinned (.plain (OpenSpec.upto historyOrderSpec)) historyOrderUptoCard

/-- THE SECOND FORM's CARD OF 'lyceumlaw10.HistoryRoom'. -/
def historyRoomUptoCard : Claim7 := { stood := { row := historyRoomUptoRow, standIns := [], harness := (true, "36bd38b94000b9af4a44e683120f33f4db881bea79a35596fbafe4ce7dd2bba1"), looks := false }, kinds := [], alts := [], laidByText := true, laidKinds := [.data, .pinned], laidTests := true, laidLooks := .later }
def HistoryRoomUptoCardSaid : Prop := Claim7.holds Tryd.pinned (.plain (OpenSpec.upto historyRoomSpec)) historyRoomUptoCard

/-- THE SECOND FORM's CARD OF 'lyceumlaw10.HistoryViews'. -/
def historyViewsUptoCard : Claim7 := { stood := { row := historyViewsUptoRow, standIns := [], harness := (true, "36bd38b94000b9af4a44e683120f33f4db881bea79a35596fbafe4ce7dd2bba1"), looks := false }, kinds := [], alts := [], laidByText := true, laidKinds := [.data, .pinned], laidTests := true, laidLooks := .later }
def HistoryViewsUptoCardSaid : Prop := Claim7.holds Tryd.pinned (.plain (OpenSpec.upto historyViewsSpec)) historyViewsUptoCard

/-- THE SECOND FORM's CARD OF 'lyceumlaw06.GridBeside'. -/
def gridBesideUptoCard : Claim7 := { stood := { row := gridBesideUptoRow, standIns := [], harness := (true, "36bd38b94000b9af4a44e683120f33f4db881bea79a35596fbafe4ce7dd2bba1"), looks := false }, kinds := [], alts := [], laidByText := true, laidKinds := [.data, .pinned], laidTests := true, laidLooks := .later }
def GridBesideUptoCardSaid : Prop := Claim7.holds Tryd.pinned (.plain (OpenSpec.upto gridBesideSpec)) gridBesideUptoCard

/-- THE SECOND FORM's CARD OF 'lyceumlaw06.GridScrolls'. -/
def gridScrollsUptoCard : Claim7 := { stood := { row := gridScrollsUptoRow, standIns := [], harness := (true, "36bd38b94000b9af4a44e683120f33f4db881bea79a35596fbafe4ce7dd2bba1"), looks := false }, kinds := [], alts := [], laidByText := true, laidKinds := [.data, .pinned], laidTests := true, laidLooks := .later }
def GridScrollsUptoCardSaid : Prop := Claim7.holds Tryd.pinned (.plain (OpenSpec.upto gridScrollsSpec)) gridScrollsUptoCard

/-- THE SECOND FORM's CARD OF 'lyceumlaw06.GridLays'. -/
def gridLaysUptoCard : Claim7 := { stood := { row := gridLaysUptoRow, standIns := [], harness := (true, "36bd38b94000b9af4a44e683120f33f4db881bea79a35596fbafe4ce7dd2bba1"), looks := false }, kinds := [], alts := [], laidByText := true, laidKinds := [.data, .pinned], laidTests := true, laidLooks := .later }
def GridLaysUptoCardSaid : Prop := Claim7.holds Tryd.pinned (.plain (OpenSpec.upto gridLaysSpec)) gridLaysUptoCard
end Rows
end Go.Proofs.YtldjmacnokkjdaaDoor
