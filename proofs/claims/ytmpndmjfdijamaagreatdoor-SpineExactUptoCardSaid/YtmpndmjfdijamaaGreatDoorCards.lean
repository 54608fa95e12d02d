/-
  DERIVED. GIVEN WITH THE SEED: THE CARDS: each row of YtmpndmjfdijamaaGreatDoorRows.lean that lists a variable, with what it lists TIED to the program's text (the seventh form; the later family's looks); each row that meets fmt, with fmt's text TOLD by the authors' own Lean function (tested against real Go, not proved from fmt's source: count such statements apart). THE CARD IS WHAT COUNTS. Prove the row's statement (the work); the ties are given (YtmpndmjfdijamaaGreatDoorTie.lean); close each card by the builder's one call (the guide's Derived/Test/ToyasCard.lean, 'card_holds'). Laid BY PROGRAM, IN A SANDBOX (cutbox-door.mjs). By AI agents, Wed Nov 11 2026. No macro, syntax, notation, axiom, sorry.
-/
import Derived.Test.YtmpndmjfdijamaaGreatDoorRows
import GoSem.ClaimSeven
namespace Go.Proofs.YtmpndmjfdijamaaGreatDoor
namespace Rows

/-- THE TIED CARD OF 'freshetlaw04.SpineExact'. -/
def spineExactCard : Claim7 := { stood := { row := spineExactRow, standIns := [], harness := (true, "967e3af3db2ad06d7d54c4a378e05d5140a823fe8d6e9f7c6fdb1110a822f13b"), looks := false }, kinds := [], alts := [], laidByText := true, laidKinds := [.data, .pinned], laidTests := true, laidLooks := .later }
def SpineExactCardSaid : Prop := Claim7.holds Tryz.pinned (.plain (OpenSpec.ofChange spineExactSpec)) spineExactCard

/-- THE TIED CARD OF 'freshetlaw04.SpineHeld'. -/
def spineHeldCard : Claim7 := { stood := { row := spineHeldRow, standIns := [], harness := (true, "967e3af3db2ad06d7d54c4a378e05d5140a823fe8d6e9f7c6fdb1110a822f13b"), looks := false }, kinds := [], alts := [], laidByText := true, laidKinds := [.data, .pinned], laidTests := true, laidLooks := .later }
def SpineHeldCardSaid : Prop := Claim7.holds Tryz.pinned (.plain (OpenSpec.ofChange spineHeldSpec)) spineHeldCard

/-- THE TIED CARD OF 'freshetlaw04.SpineParts'. -/
def spinePartsCard : Claim7 := { stood := { row := spinePartsRow, standIns := [], harness := (true, "967e3af3db2ad06d7d54c4a378e05d5140a823fe8d6e9f7c6fdb1110a822f13b"), looks := false }, kinds := [], alts := [], laidByText := true, laidKinds := [.data, .pinned], laidTests := true, laidLooks := .later }
def SpinePartsCardSaid : Prop := Claim7.holds Tryz.pinned (.plain (OpenSpec.ofChange spinePartsSpec)) spinePartsCard

/-- THE TIED CARD OF 'freshetlaw04.SpineMemory'. -/
def spineMemoryCard : Claim7 := { stood := { row := spineMemoryRow, standIns := [], harness := (true, "967e3af3db2ad06d7d54c4a378e05d5140a823fe8d6e9f7c6fdb1110a822f13b"), looks := false }, kinds := [], alts := [], laidByText := true, laidKinds := [.data, .pinned], laidTests := true, laidLooks := .later }
def SpineMemoryCardSaid : Prop := Claim7.holds Tryz.pinned (.plain (OpenSpec.ofChange spineMemorySpec)) spineMemoryCard

/-- THE TIED CARD OF 'freshetlaw04.SpineSum'. -/
def spineSumCard : Claim7 := { stood := { row := spineSumRow, standIns := [], harness := (true, "967e3af3db2ad06d7d54c4a378e05d5140a823fe8d6e9f7c6fdb1110a822f13b"), looks := false }, kinds := [], alts := [], laidByText := true, laidKinds := [.data, .pinned], laidTests := true, laidLooks := .later }
def SpineSumCardSaid : Prop := Claim7.holds Tryz.pinned (.plain (OpenSpec.ofChange spineSumSpec)) spineSumCard

/-- THE SECOND FORM's CARD OF 'freshetlaw04.SpineExact'. -/
def spineExactUptoCard : Claim7 := { stood := { row := spineExactUptoRow, standIns := [], harness := (true, "967e3af3db2ad06d7d54c4a378e05d5140a823fe8d6e9f7c6fdb1110a822f13b"), looks := false }, kinds := [], alts := [], laidByText := true, laidKinds := [.data, .pinned], laidTests := true, laidLooks := .later }
def SpineExactUptoCardSaid : Prop := Claim7.holds Tryz.pinned (.plain (OpenSpec.upto spineExactSpec)) spineExactUptoCard

/-- THE SECOND FORM's CARD OF 'freshetlaw04.SpineHeld'. -/
def spineHeldUptoCard : Claim7 := { stood := { row := spineHeldUptoRow, standIns := [], harness := (true, "967e3af3db2ad06d7d54c4a378e05d5140a823fe8d6e9f7c6fdb1110a822f13b"), looks := false }, kinds := [], alts := [], laidByText := true, laidKinds := [.data, .pinned], laidTests := true, laidLooks := .later }
def SpineHeldUptoCardSaid : Prop := Claim7.holds Tryz.pinned (.plain (OpenSpec.upto spineHeldSpec)) spineHeldUptoCard

/-- THE SECOND FORM's CARD OF 'freshetlaw04.SpineParts'. -/
def spinePartsUptoCard : Claim7 := { stood := { row := spinePartsUptoRow, standIns := [], harness := (true, "967e3af3db2ad06d7d54c4a378e05d5140a823fe8d6e9f7c6fdb1110a822f13b"), looks := false }, kinds := [], alts := [], laidByText := true, laidKinds := [.data, .pinned], laidTests := true, laidLooks := .later }
def SpinePartsUptoCardSaid : Prop := Claim7.holds Tryz.pinned (.plain (OpenSpec.upto spinePartsSpec)) spinePartsUptoCard

/-- THE SECOND FORM's CARD OF 'freshetlaw04.SpineMemory'. -/
def spineMemoryUptoCard : Claim7 := { stood := { row := spineMemoryUptoRow, standIns := [], harness := (true, "967e3af3db2ad06d7d54c4a378e05d5140a823fe8d6e9f7c6fdb1110a822f13b"), looks := false }, kinds := [], alts := [], laidByText := true, laidKinds := [.data, .pinned], laidTests := true, laidLooks := .later }
def SpineMemoryUptoCardSaid : Prop := Claim7.holds Tryz.pinned (.plain (OpenSpec.upto spineMemorySpec)) spineMemoryUptoCard

/-- THE SECOND FORM's CARD OF 'freshetlaw04.SpineSum'. -/
def spineSumUptoCard : Claim7 := { stood := { row := spineSumUptoRow, standIns := [], harness := (true, "967e3af3db2ad06d7d54c4a378e05d5140a823fe8d6e9f7c6fdb1110a822f13b"), looks := false }, kinds := [], alts := [], laidByText := true, laidKinds := [.data, .pinned], laidTests := true, laidLooks := .later }
def SpineSumUptoCardSaid : Prop := Claim7.holds Tryz.pinned (.plain (OpenSpec.upto spineSumSpec)) spineSumUptoCard
end Rows
end Go.Proofs.YtmpndmjfdijamaaGreatDoor
