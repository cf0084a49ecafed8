/-
  DERIVED. GIVEN WITH THE SEED: THE CARDS: each row of YtclnfgmcpodeaaaDoorRows.lean that lists a variable, with what it lists TIED to the program's text (the seventh form; the later family's looks); each row that meets fmt, with fmt's text TOLD by the authors' own Lean function (tested against real Go, not proved from fmt's source: count such statements apart). THE CARD IS WHAT COUNTS. Prove the row's statement (the work); the ties are given (YtclnfgmcpodeaaaDoorTie.lean); close each card by the builder's one call (the guide's Derived/Test/ToyasCard.lean, 'card_holds'). Laid BY PROGRAM, IN A SANDBOX (cutbox-door.mjs). By AI agents, Wed Nov 11 2026. No macro, syntax, notation, axiom, sorry.
-/
import Derived.Test.YtclnfgmcpodeaaaDoorRows
import GoSem.ClaimSeven
namespace Go.Proofs.YtclnfgmcpodeaaaDoor
namespace Rows

/-- THE TIED CARD OF 'whittlelaw11.DfaParts'. -/
def dfaPartsCard : Claim7 := { stood := { row := dfaPartsRow, standIns := [], harness := (true, "a2ce791bc10b6a13eebf4c3cf3ba17827c92ce45528993321a5a7a7c178e0c95"), looks := false }, kinds := [], alts := [], laidByText := true, laidKinds := [.data, .data, .data], laidTests := true, laidLooks := .later }
def DfaPartsCardSaid : Prop := Claim7.holds Tryd.pinned (.plain (OpenSpec.ofChange dfaPartsSpec)) dfaPartsCard

/-- THE TIED CARD OF 'whittlelaw11.DfaRuns'. -/
def dfaRunsCard : Claim7 := { stood := { row := dfaRunsRow, standIns := [], harness := (true, "a2ce791bc10b6a13eebf4c3cf3ba17827c92ce45528993321a5a7a7c178e0c95"), looks := false }, kinds := [], alts := [], laidByText := true, laidKinds := [.data, .data, .data], laidTests := true, laidLooks := .later }
def DfaRunsCardSaid : Prop := Claim7.holds Tryd.pinned (.plain (OpenSpec.ofChange dfaRunsSpec)) dfaRunsCard

/-- THE TIED CARD OF 'whittlelaw11.DfaTakes'. -/
def dfaTakesCard : Claim7 := { stood := { row := dfaTakesRow, standIns := [], harness := (true, "a2ce791bc10b6a13eebf4c3cf3ba17827c92ce45528993321a5a7a7c178e0c95"), looks := false }, kinds := [], alts := [], laidByText := true, laidKinds := [.data, .data, .data], laidTests := true, laidLooks := .later }
def DfaTakesCardSaid : Prop := Claim7.holds Tryd.pinned (.plain (OpenSpec.ofChange dfaTakesSpec)) dfaTakesCard

/-- THE TIED CARD OF 'whittlelaw11.DfaBack'. -/
def dfaBackCard : Claim7 := { stood := { row := dfaBackRow, standIns := [], harness := (true, "a2ce791bc10b6a13eebf4c3cf3ba17827c92ce45528993321a5a7a7c178e0c95"), looks := false }, kinds := [], alts := [], laidByText := true, laidKinds := [.data, .data, .data], laidTests := true, laidLooks := .later }
def DfaBackCardSaid : Prop := Claim7.holds Tryd.pinned (.plain (OpenSpec.ofChange dfaBackSpec)) dfaBackCard

/-- THE SECOND FORM's CARD OF 'whittlelaw11.DfaParts'. -/
def dfaPartsUptoCard : Claim7 := { stood := { row := dfaPartsUptoRow, standIns := [], harness := (true, "a2ce791bc10b6a13eebf4c3cf3ba17827c92ce45528993321a5a7a7c178e0c95"), looks := false }, kinds := [], alts := [], laidByText := true, laidKinds := [.data, .data, .data], laidTests := true, laidLooks := .later }
def DfaPartsUptoCardSaid : Prop := Claim7.holds Tryd.pinned (.plain (OpenSpec.upto dfaPartsSpec)) dfaPartsUptoCard

/-- THE SECOND FORM's CARD OF 'whittlelaw11.DfaRuns'. -/
def dfaRunsUptoCard : Claim7 := { stood := { row := dfaRunsUptoRow, standIns := [], harness := (true, "a2ce791bc10b6a13eebf4c3cf3ba17827c92ce45528993321a5a7a7c178e0c95"), looks := false }, kinds := [], alts := [], laidByText := true, laidKinds := [.data, .data, .data], laidTests := true, laidLooks := .later }
def DfaRunsUptoCardSaid : Prop := Claim7.holds Tryd.pinned (.plain (OpenSpec.upto dfaRunsSpec)) dfaRunsUptoCard

/-- THE SECOND FORM's CARD OF 'whittlelaw11.DfaTakes'. -/
def dfaTakesUptoCard : Claim7 := { stood := { row := dfaTakesUptoRow, standIns := [], harness := (true, "a2ce791bc10b6a13eebf4c3cf3ba17827c92ce45528993321a5a7a7c178e0c95"), looks := false }, kinds := [], alts := [], laidByText := true, laidKinds := [.data, .data, .data], laidTests := true, laidLooks := .later }
def DfaTakesUptoCardSaid : Prop := Claim7.holds Tryd.pinned (.plain (OpenSpec.upto dfaTakesSpec)) dfaTakesUptoCard

/-- THE SECOND FORM's CARD OF 'whittlelaw11.DfaBack'. -/
def dfaBackUptoCard : Claim7 := { stood := { row := dfaBackUptoRow, standIns := [], harness := (true, "a2ce791bc10b6a13eebf4c3cf3ba17827c92ce45528993321a5a7a7c178e0c95"), looks := false }, kinds := [], alts := [], laidByText := true, laidKinds := [.data, .data, .data], laidTests := true, laidLooks := .later }
def DfaBackUptoCardSaid : Prop := Claim7.holds Tryd.pinned (.plain (OpenSpec.upto dfaBackSpec)) dfaBackUptoCard
end Rows
end Go.Proofs.YtclnfgmcpodeaaaDoor
