/-
  DERIVED. GIVEN WITH THE SEED: THE CARDS: each row of YtddbbfonkgccnaaDoorRows.lean that lists a variable, with what it lists TIED to the program's text (the seventh form; the later family's looks); each row that meets fmt, with fmt's text TOLD by the authors' own Lean function (tested against real Go, not proved from fmt's source: count such statements apart). THE CARD IS WHAT COUNTS. Prove the row's statement (the work); the ties are given (YtddbbfonkgccnaaDoorTie.lean); close each card by the builder's one call (the guide's Derived/Test/ToyasCard.lean, 'card_holds'). Laid BY PROGRAM, IN A SANDBOX (cutbox-door.mjs). By AI agents, Wed Nov 11 2026. No macro, syntax, notation, axiom, sorry.
-/
import Derived.Test.YtddbbfonkgccnaaDoorRows
import GoSem.ClaimSeven
namespace Go.Proofs.YtddbbfonkgccnaaDoor
namespace Rows

/-- THE TIED CARD OF 'whittlelaw06.LexWhite'. -/
def lexWhiteCard : Claim7 := { stood := { row := lexWhiteRow, standIns := [], harness := (true, "7304eeba3a606dcb6639fdf183f0679c48be58b29b96d4705d687348c528b280"), looks := true }, kinds := [], alts := [], laidByText := true, laidKinds := [.data, .data, .data, .sentinel, .sentinel], laidTests := true, laidLooks := .later }
def LexWhiteCardSaid : Prop := Claim7.holds Tryd.pinned (.plain (OpenSpec.ofChange lexWhiteSpec)) lexWhiteCard

/-- THE TIED CARD OF 'whittlelaw06.LexJoin'. -/
def lexJoinCard : Claim7 := { stood := { row := lexJoinRow, standIns := [], harness := (true, "7304eeba3a606dcb6639fdf183f0679c48be58b29b96d4705d687348c528b280"), looks := true }, kinds := [], alts := [], laidByText := true, laidKinds := [.data, .data, .data, .sentinel, .sentinel], laidTests := true, laidLooks := .later }
def LexJoinCardSaid : Prop := Claim7.holds Tryd.pinned (.plain (OpenSpec.ofChange lexJoinSpec)) lexJoinCard

/-- THE TIED CARD OF 'whittlelaw06.LexShows'. -/
def lexShowsCard : Claim7 := { stood := { row := lexShowsRow, standIns := [], harness := (true, "7304eeba3a606dcb6639fdf183f0679c48be58b29b96d4705d687348c528b280"), looks := true }, kinds := [], alts := [], laidByText := true, laidKinds := [.data, .data, .data, .sentinel, .sentinel], laidTests := true, laidLooks := .later }
def LexShowsCardSaid : Prop := Claim7.holds Tryd.pinned (.plain (OpenSpec.ofChange lexShowsSpec)) lexShowsCard

/-- THE TIED CARD OF 'whittlelaw06.LexBack'. -/
def lexBackCard : Claim7 := { stood := { row := lexBackRow, standIns := [], harness := (true, "7304eeba3a606dcb6639fdf183f0679c48be58b29b96d4705d687348c528b280"), looks := true }, kinds := [], alts := [], laidByText := true, laidKinds := [.data, .data, .data, .sentinel, .sentinel], laidTests := true, laidLooks := .later }
def LexBackCardSaid : Prop := Claim7.holds Tryd.pinned (.plain (OpenSpec.ofChange lexBackSpec)) lexBackCard

/-- THE SECOND FORM's CARD OF 'whittlelaw06.LexWhite'. -/
def lexWhiteUptoCard : Claim7 := { stood := { row := lexWhiteUptoRow, standIns := [], harness := (true, "7304eeba3a606dcb6639fdf183f0679c48be58b29b96d4705d687348c528b280"), looks := true }, kinds := [], alts := [], laidByText := true, laidKinds := [.data, .data, .data, .sentinel, .sentinel], laidTests := true, laidLooks := .later }
def LexWhiteUptoCardSaid : Prop := Claim7.holds Tryd.pinned (.plain (OpenSpec.upto lexWhiteSpec)) lexWhiteUptoCard

/-- THE SECOND FORM's CARD OF 'whittlelaw06.LexJoin'. -/
def lexJoinUptoCard : Claim7 := { stood := { row := lexJoinUptoRow, standIns := [], harness := (true, "7304eeba3a606dcb6639fdf183f0679c48be58b29b96d4705d687348c528b280"), looks := true }, kinds := [], alts := [], laidByText := true, laidKinds := [.data, .data, .data, .sentinel, .sentinel], laidTests := true, laidLooks := .later }
def LexJoinUptoCardSaid : Prop := Claim7.holds Tryd.pinned (.plain (OpenSpec.upto lexJoinSpec)) lexJoinUptoCard

/-- THE SECOND FORM's CARD OF 'whittlelaw06.LexShows'. -/
def lexShowsUptoCard : Claim7 := { stood := { row := lexShowsUptoRow, standIns := [], harness := (true, "7304eeba3a606dcb6639fdf183f0679c48be58b29b96d4705d687348c528b280"), looks := true }, kinds := [], alts := [], laidByText := true, laidKinds := [.data, .data, .data, .sentinel, .sentinel], laidTests := true, laidLooks := .later }
def LexShowsUptoCardSaid : Prop := Claim7.holds Tryd.pinned (.plain (OpenSpec.upto lexShowsSpec)) lexShowsUptoCard

/-- THE SECOND FORM's CARD OF 'whittlelaw06.LexBack'. -/
def lexBackUptoCard : Claim7 := { stood := { row := lexBackUptoRow, standIns := [], harness := (true, "7304eeba3a606dcb6639fdf183f0679c48be58b29b96d4705d687348c528b280"), looks := true }, kinds := [], alts := [], laidByText := true, laidKinds := [.data, .data, .data, .sentinel, .sentinel], laidTests := true, laidLooks := .later }
def LexBackUptoCardSaid : Prop := Claim7.holds Tryd.pinned (.plain (OpenSpec.upto lexBackSpec)) lexBackUptoCard
end Rows
end Go.Proofs.YtddbbfonkgccnaaDoor
