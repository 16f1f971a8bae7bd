/-
  DERIVED. GIVEN WITH THE SEED: THE CARDS: each row of YtekpbjiahlnknaaDoorRows.lean that lists a variable, with what it lists TIED to the program's text (the seventh form; the later family's looks); each row that meets fmt, with fmt's text TOLD by the authors' own Lean function (tested against real Go, not proved from fmt's source: count such statements apart). THE CARD IS WHAT COUNTS. Prove the row's statement (the work); the ties are given (YtekpbjiahlnknaaDoorTie.lean); close each card by the builder's one call (the guide's Derived/Test/ToyasCard.lean, 'card_holds'). Laid BY PROGRAM, IN A SANDBOX (cutbox-door.mjs). By AI agents, Wed Nov 11 2026. No macro, syntax, notation, axiom, sorry.
-/
import Derived.Test.YtekpbjiahlnknaaDoorRows
import GoSem.ClaimSeven
namespace Go.Proofs.YtekpbjiahlnknaaDoor
namespace Rows

/-- THE TIED CARD OF 'belvederelaw20.OutboxOrder'. -/
def outboxOrderCard : Claim7 := { stood := { row := outboxOrderRow, standIns := [], harness := (true, "5b5b043f38ce7e416c8e0fdb9b71a88dd61a0c8cf93e9ad6cefb66067c84a322"), looks := true }, kinds := [], alts := [], laidByText := true, laidKinds := [.handle], laidTests := true, laidLooks := .later }
def OutboxOrderCardSaid : Prop := Claim7.holds Tryd.pinned (.plain (OpenSpec.ofChange outboxOrderSpec)) outboxOrderCard

/-- THE TIED CARD OF 'belvederelaw11.ClockAdds'. -/
def clockAddsCard : Claim7 := { stood := { row := clockAddsRow, standIns := [], harness := (true, "5b5b043f38ce7e416c8e0fdb9b71a88dd61a0c8cf93e9ad6cefb66067c84a322"), looks := true }, kinds := [], alts := [], laidByText := true, laidKinds := [.data], laidTests := true, laidLooks := .later }
def ClockAddsCardSaid : Prop := Claim7.holds Tryd.pinned (.plain (OpenSpec.ofChange clockAddsSpec)) clockAddsCard

/-- THE TIED CARD OF 'belvederelaw16.DirtyArgs'. -/
def dirtyArgsCard : Claim7 := { stood := { row := dirtyArgsRow, standIns := [], harness := (true, "5b5b043f38ce7e416c8e0fdb9b71a88dd61a0c8cf93e9ad6cefb66067c84a322"), looks := true }, kinds := [], alts := [], laidByText := true, laidKinds := [.handle], laidTests := true, laidLooks := .later }
def DirtyArgsCardSaid : Prop := Claim7.holds Tryd.pinned (.plain (OpenSpec.ofChange dirtyArgsSpec)) dirtyArgsCard

/-- THE TIED CARD OF 'belvederelaw11.ClockArgs'. -/
def clockArgsCard : Claim7 := { stood := { row := clockArgsRow, standIns := [], harness := (true, "5b5b043f38ce7e416c8e0fdb9b71a88dd61a0c8cf93e9ad6cefb66067c84a322"), looks := true }, kinds := [], alts := [], laidByText := true, laidKinds := [.data], laidTests := true, laidLooks := .later }
def ClockArgsCardSaid : Prop := Claim7.holds Tryd.pinned (.plain (OpenSpec.ofChange clockArgsSpec)) clockArgsCard

/-- THE TIED CARD OF 'belvederelaw11.ClockRoom'. -/
def clockRoomCard : Claim7 := { stood := { row := clockRoomRow, standIns := [], harness := (true, "5b5b043f38ce7e416c8e0fdb9b71a88dd61a0c8cf93e9ad6cefb66067c84a322"), looks := true }, kinds := [], alts := [], laidByText := true, laidKinds := [.data], laidTests := true, laidLooks := .later }
def ClockRoomCardSaid : Prop := Claim7.holds Tryd.pinned (.plain (OpenSpec.ofChange clockRoomSpec)) clockRoomCard

/-- THE TIED CARD OF 'belvederelaw11.ClockSteps'. -/
def clockStepsCard : Claim7 := { stood := { row := clockStepsRow, standIns := [], harness := (true, "5b5b043f38ce7e416c8e0fdb9b71a88dd61a0c8cf93e9ad6cefb66067c84a322"), looks := true }, kinds := [], alts := [], laidByText := true, laidKinds := [.data], laidTests := true, laidLooks := .later }
def ClockStepsCardSaid : Prop := Claim7.holds Tryd.pinned (.plain (OpenSpec.ofChange clockStepsSpec)) clockStepsCard

/-- THE TIED CARD OF 'belvederelaw12.RootsActs'. -/
def rootsActsCard : Claim7 := { stood := { row := rootsActsRow, standIns := [], harness := (true, "5b5b043f38ce7e416c8e0fdb9b71a88dd61a0c8cf93e9ad6cefb66067c84a322"), looks := true }, kinds := [], alts := [], laidByText := true, laidKinds := [.handle], laidTests := true, laidLooks := .later }
def RootsActsCardSaid : Prop := Claim7.holds Tryd.pinned (.plain (OpenSpec.ofChange rootsActsSpec)) rootsActsCard

/-- THE TIED CARD OF 'belvederelaw19.ViewActs'. -/
def viewActsCard : Claim7 := { stood := { row := viewActsRow, standIns := [], harness := (true, "5b5b043f38ce7e416c8e0fdb9b71a88dd61a0c8cf93e9ad6cefb66067c84a322"), looks := true }, kinds := [], alts := [], laidByText := true, laidKinds := [.handle], laidTests := true, laidLooks := .later }
def ViewActsCardSaid : Prop := Claim7.holds Tryd.pinned (.plain (OpenSpec.ofChange viewActsSpec)) viewActsCard

/-- THE SECOND FORM's CARD OF 'belvederelaw20.OutboxOrder'. -/
def outboxOrderUptoCard : Claim7 := { stood := { row := outboxOrderUptoRow, standIns := [], harness := (true, "5b5b043f38ce7e416c8e0fdb9b71a88dd61a0c8cf93e9ad6cefb66067c84a322"), looks := true }, kinds := [], alts := [], laidByText := true, laidKinds := [.handle], laidTests := true, laidLooks := .later }
def OutboxOrderUptoCardSaid : Prop := Claim7.holds Tryd.pinned (.plain (OpenSpec.upto outboxOrderSpec)) outboxOrderUptoCard

/-- THE SECOND FORM's CARD OF 'belvederelaw11.ClockAdds'. -/
def clockAddsUptoCard : Claim7 := { stood := { row := clockAddsUptoRow, standIns := [], harness := (true, "5b5b043f38ce7e416c8e0fdb9b71a88dd61a0c8cf93e9ad6cefb66067c84a322"), looks := true }, kinds := [], alts := [], laidByText := true, laidKinds := [.data], laidTests := true, laidLooks := .later }
def ClockAddsUptoCardSaid : Prop := Claim7.holds Tryd.pinned (.plain (OpenSpec.upto clockAddsSpec)) clockAddsUptoCard

/-- THE SECOND FORM's CARD OF 'belvederelaw16.DirtyArgs'. -/
def dirtyArgsUptoCard : Claim7 := { stood := { row := dirtyArgsUptoRow, standIns := [], harness := (true, "5b5b043f38ce7e416c8e0fdb9b71a88dd61a0c8cf93e9ad6cefb66067c84a322"), looks := true }, kinds := [], alts := [], laidByText := true, laidKinds := [.handle], laidTests := true, laidLooks := .later }
def DirtyArgsUptoCardSaid : Prop := Claim7.holds Tryd.pinned (.plain (OpenSpec.upto dirtyArgsSpec)) dirtyArgsUptoCard

/-- THE SECOND FORM's CARD OF 'belvederelaw11.ClockArgs'. -/
def clockArgsUptoCard : Claim7 := { stood := { row := clockArgsUptoRow, standIns := [], harness := (true, "5b5b043f38ce7e416c8e0fdb9b71a88dd61a0c8cf93e9ad6cefb66067c84a322"), looks := true }, kinds := [], alts := [], laidByText := true, laidKinds := [.data], laidTests := true, laidLooks := .later }
def ClockArgsUptoCardSaid : Prop := Claim7.holds Tryd.pinned (.plain (OpenSpec.upto clockArgsSpec)) clockArgsUptoCard

/-- THE SECOND FORM's CARD OF 'belvederelaw11.ClockRoom'. -/
def clockRoomUptoCard : Claim7 := { stood := { row := clockRoomUptoRow, standIns := [], harness := (true, "5b5b043f38ce7e416c8e0fdb9b71a88dd61a0c8cf93e9ad6cefb66067c84a322"), looks := true }, kinds := [], alts := [], laidByText := true, laidKinds := [.data], laidTests := true, laidLooks := .later }
def ClockRoomUptoCardSaid : Prop := Claim7.holds Tryd.pinned (.plain (OpenSpec.upto clockRoomSpec)) clockRoomUptoCard

/-- THE SECOND FORM's CARD OF 'belvederelaw11.ClockSteps'. -/
def clockStepsUptoCard : Claim7 := { stood := { row := clockStepsUptoRow, standIns := [], harness := (true, "5b5b043f38ce7e416c8e0fdb9b71a88dd61a0c8cf93e9ad6cefb66067c84a322"), looks := true }, kinds := [], alts := [], laidByText := true, laidKinds := [.data], laidTests := true, laidLooks := .later }
def ClockStepsUptoCardSaid : Prop := Claim7.holds Tryd.pinned (.plain (OpenSpec.upto clockStepsSpec)) clockStepsUptoCard

/-- THE SECOND FORM's CARD OF 'belvederelaw12.RootsActs'. -/
def rootsActsUptoCard : Claim7 := { stood := { row := rootsActsUptoRow, standIns := [], harness := (true, "5b5b043f38ce7e416c8e0fdb9b71a88dd61a0c8cf93e9ad6cefb66067c84a322"), looks := true }, kinds := [], alts := [], laidByText := true, laidKinds := [.handle], laidTests := true, laidLooks := .later }
def RootsActsUptoCardSaid : Prop := Claim7.holds Tryd.pinned (.plain (OpenSpec.upto rootsActsSpec)) rootsActsUptoCard

/-- THE SECOND FORM's CARD OF 'belvederelaw19.ViewActs'. -/
def viewActsUptoCard : Claim7 := { stood := { row := viewActsUptoRow, standIns := [], harness := (true, "5b5b043f38ce7e416c8e0fdb9b71a88dd61a0c8cf93e9ad6cefb66067c84a322"), looks := true }, kinds := [], alts := [], laidByText := true, laidKinds := [.handle], laidTests := true, laidLooks := .later }
def ViewActsUptoCardSaid : Prop := Claim7.holds Tryd.pinned (.plain (OpenSpec.upto viewActsSpec)) viewActsUptoCard
end Rows
end Go.Proofs.YtekpbjiahlnknaaDoor
