/-
  DERIVED. GIVEN WITH THE SEED: THE CARDS: each row of YtflckpfpgpfjlaaGreatDoorRows.lean that lists a variable, with what it lists TIED to the program's text (the seventh form; the later family's looks); each row that meets fmt, with fmt's text TOLD by the authors' own Lean function (tested against real Go, not proved from fmt's source: count such statements apart). THE CARD IS WHAT COUNTS. Prove the row's statement (the work); the ties are given (YtflckpfpgpfjlaaGreatDoorTie.lean); close each card by the builder's one call (the guide's Derived/Test/ToyasCard.lean, 'card_holds'). Laid BY PROGRAM, IN A SANDBOX (cutbox-door.mjs). By AI agents, Wed Nov 11 2026. No macro, syntax, notation, axiom, sorry.
-/
import Derived.Test.YtflckpfpgpfjlaaGreatDoorRows
import GoSem.ClaimSeven
namespace Go.Proofs.YtflckpfpgpfjlaaGreatDoor
namespace Rows

/-- THE TIED CARD OF 'freshetlaw09.JoinPairs'. -/
def joinPairsCard : Claim7 := { stood := { row := joinPairsRow, standIns := [], harness := (true, "23b62a56c36c64aa18941a229f27a5d0706137f8d8f5e305d6cacd9631791028"), looks := true }, kinds := [], alts := [], laidByText := true, laidKinds := [.data, .pinned], laidTests := true, laidLooks := .later }
def JoinPairsCardSaid : Prop := Claim7.holds Tryz.pinned (.plain (OpenSpec.ofChange joinPairsSpec)) joinPairsCard

/-- THE TIED CARD OF 'freshetlaw09.JoinTurned'. -/
def joinTurnedCard : Claim7 := { stood := { row := joinTurnedRow, standIns := [], harness := (true, "23b62a56c36c64aa18941a229f27a5d0706137f8d8f5e305d6cacd9631791028"), looks := true }, kinds := [], alts := [], laidByText := true, laidKinds := [.data, .pinned], laidTests := true, laidLooks := .later }
def JoinTurnedCardSaid : Prop := Claim7.holds Tryz.pinned (.plain (OpenSpec.ofChange joinTurnedSpec)) joinTurnedCard

/-- THE TIED CARD OF 'freshetlaw09.JoinAlone'. -/
def joinAloneCard : Claim7 := { stood := { row := joinAloneRow, standIns := [], harness := (true, "23b62a56c36c64aa18941a229f27a5d0706137f8d8f5e305d6cacd9631791028"), looks := true }, kinds := [], alts := [], laidByText := true, laidKinds := [.data, .pinned], laidTests := true, laidLooks := .later }
def JoinAloneCardSaid : Prop := Claim7.holds Tryz.pinned (.plain (OpenSpec.ofChange joinAloneSpec)) joinAloneCard

/-- THE TIED CARD OF 'freshetlaw09.JoinExact'. -/
def joinExactCard : Claim7 := { stood := { row := joinExactRow, standIns := [], harness := (true, "23b62a56c36c64aa18941a229f27a5d0706137f8d8f5e305d6cacd9631791028"), looks := true }, kinds := [], alts := [], laidByText := true, laidKinds := [.data, .pinned], laidTests := true, laidLooks := .later }
def JoinExactCardSaid : Prop := Claim7.holds Tryz.pinned (.plain (OpenSpec.ofChange joinExactSpec)) joinExactCard

/-- THE TIED CARD OF 'freshetlaw09.JoinHeld'. -/
def joinHeldCard : Claim7 := { stood := { row := joinHeldRow, standIns := [], harness := (true, "23b62a56c36c64aa18941a229f27a5d0706137f8d8f5e305d6cacd9631791028"), looks := true }, kinds := [], alts := [], laidByText := true, laidKinds := [.data, .pinned], laidTests := true, laidLooks := .later }
def JoinHeldCardSaid : Prop := Claim7.holds Tryz.pinned (.plain (OpenSpec.ofChange joinHeldSpec)) joinHeldCard

/-- THE SECOND FORM's CARD OF 'freshetlaw09.JoinPairs'. -/
def joinPairsUptoCard : Claim7 := { stood := { row := joinPairsUptoRow, standIns := [], harness := (true, "23b62a56c36c64aa18941a229f27a5d0706137f8d8f5e305d6cacd9631791028"), looks := true }, kinds := [], alts := [], laidByText := true, laidKinds := [.data, .pinned], laidTests := true, laidLooks := .later }
def JoinPairsUptoCardSaid : Prop := Claim7.holds Tryz.pinned (.plain (OpenSpec.upto joinPairsSpec)) joinPairsUptoCard

/-- THE SECOND FORM's CARD OF 'freshetlaw09.JoinTurned'. -/
def joinTurnedUptoCard : Claim7 := { stood := { row := joinTurnedUptoRow, standIns := [], harness := (true, "23b62a56c36c64aa18941a229f27a5d0706137f8d8f5e305d6cacd9631791028"), looks := true }, kinds := [], alts := [], laidByText := true, laidKinds := [.data, .pinned], laidTests := true, laidLooks := .later }
def JoinTurnedUptoCardSaid : Prop := Claim7.holds Tryz.pinned (.plain (OpenSpec.upto joinTurnedSpec)) joinTurnedUptoCard

/-- THE SECOND FORM's CARD OF 'freshetlaw09.JoinAlone'. -/
def joinAloneUptoCard : Claim7 := { stood := { row := joinAloneUptoRow, standIns := [], harness := (true, "23b62a56c36c64aa18941a229f27a5d0706137f8d8f5e305d6cacd9631791028"), looks := true }, kinds := [], alts := [], laidByText := true, laidKinds := [.data, .pinned], laidTests := true, laidLooks := .later }
def JoinAloneUptoCardSaid : Prop := Claim7.holds Tryz.pinned (.plain (OpenSpec.upto joinAloneSpec)) joinAloneUptoCard

/-- THE SECOND FORM's CARD OF 'freshetlaw09.JoinExact'. -/
def joinExactUptoCard : Claim7 := { stood := { row := joinExactUptoRow, standIns := [], harness := (true, "23b62a56c36c64aa18941a229f27a5d0706137f8d8f5e305d6cacd9631791028"), looks := true }, kinds := [], alts := [], laidByText := true, laidKinds := [.data, .pinned], laidTests := true, laidLooks := .later }
def JoinExactUptoCardSaid : Prop := Claim7.holds Tryz.pinned (.plain (OpenSpec.upto joinExactSpec)) joinExactUptoCard

/-- THE SECOND FORM's CARD OF 'freshetlaw09.JoinHeld'. -/
def joinHeldUptoCard : Claim7 := { stood := { row := joinHeldUptoRow, standIns := [], harness := (true, "23b62a56c36c64aa18941a229f27a5d0706137f8d8f5e305d6cacd9631791028"), looks := true }, kinds := [], alts := [], laidByText := true, laidKinds := [.data, .pinned], laidTests := true, laidLooks := .later }
def JoinHeldUptoCardSaid : Prop := Claim7.holds Tryz.pinned (.plain (OpenSpec.upto joinHeldSpec)) joinHeldUptoCard
end Rows
end Go.Proofs.YtflckpfpgpfjlaaGreatDoor
