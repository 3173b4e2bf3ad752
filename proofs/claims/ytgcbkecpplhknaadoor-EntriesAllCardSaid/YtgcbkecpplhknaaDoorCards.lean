/-
  DERIVED. GIVEN WITH THE SEED: THE CARDS: each row of YtgcbkecpplhknaaDoorRows.lean that lists a variable, with what it lists TIED to the program's text (the seventh form; the later family's looks); each row that meets fmt, with fmt's text TOLD by the authors' own Lean function (tested against real Go, not proved from fmt's source: count such statements apart). THE CARD IS WHAT COUNTS. Prove the row's statement (the work); the ties are given (YtgcbkecpplhknaaDoorTie.lean); close each card by the builder's one call (the guide's Derived/Test/ToyasCard.lean, 'card_holds'). Laid BY PROGRAM, IN A SANDBOX (cutbox-door.mjs). By AI agents, Wed Nov 11 2026. No macro, syntax, notation, axiom, sorry.
-/
import Derived.Test.YtgcbkecpplhknaaDoorRows
import GoSem.ClaimSeven
namespace Go.Proofs.YtgcbkecpplhknaaDoor
namespace Rows

/-- THE TIED CARD OF 'munimentlaw17.EntriesForms'. -/
def entriesFormsCard : Claim7 := { stood := { row := entriesFormsRow, standIns := [], harness := (true, "2c5ccb9240f76cd69977f8f3dd4ec3eda7b16a46f2dacf0657622f452294bf25"), looks := false }, kinds := [], alts := [], laidByText := true, laidKinds := [.data, .pinned, .pinned], laidTests := true, laidLooks := .later }
def EntriesFormsCardSaid : Prop := Claim7.holds Tryd.pinned (.plain (OpenSpec.ofChange entriesFormsSpec)) entriesFormsCard

/-- THE TIED CARD OF 'munimentlaw17.EntriesShow'. -/
def entriesShowCard : Claim7 := { stood := { row := entriesShowRow, standIns := [], harness := (true, "2c5ccb9240f76cd69977f8f3dd4ec3eda7b16a46f2dacf0657622f452294bf25"), looks := false }, kinds := [], alts := [], laidByText := true, laidKinds := [.data, .pinned, .pinned], laidTests := true, laidLooks := .later }
def EntriesShowCardSaid : Prop := Claim7.holds Tryd.pinned (.plain (OpenSpec.ofChange entriesShowSpec)) entriesShowCard

/-- THE TIED CARD OF 'munimentlaw17.EntriesKeys'. -/
def entriesKeysCard : Claim7 := { stood := { row := entriesKeysRow, standIns := [], harness := (true, "2c5ccb9240f76cd69977f8f3dd4ec3eda7b16a46f2dacf0657622f452294bf25"), looks := false }, kinds := [], alts := [], laidByText := true, laidKinds := [.data, .pinned, .pinned], laidTests := true, laidLooks := .later }
def EntriesKeysCardSaid : Prop := Claim7.holds Tryd.pinned (.plain (OpenSpec.ofChange entriesKeysSpec)) entriesKeysCard

/-- THE TIED CARD OF 'munimentlaw17.EntriesAll'. -/
def entriesAllCard : Claim7 := { stood := { row := entriesAllRow, standIns := [], harness := (true, "2c5ccb9240f76cd69977f8f3dd4ec3eda7b16a46f2dacf0657622f452294bf25"), looks := false }, kinds := [], alts := [], laidByText := true, laidKinds := [.data, .pinned, .pinned], laidTests := true, laidLooks := .later }
def EntriesAllCardSaid : Prop := Claim7.holds Tryd.pinned (.plain (OpenSpec.ofChange entriesAllSpec)) entriesAllCard

/-- THE TIED CARD OF 'munimentlaw17.EntriesOrder'. -/
def entriesOrderCard : Claim7 := { stood := { row := entriesOrderRow, standIns := [], harness := (true, "2c5ccb9240f76cd69977f8f3dd4ec3eda7b16a46f2dacf0657622f452294bf25"), looks := false }, kinds := [], alts := [], laidByText := true, laidKinds := [.data, .pinned, .pinned], laidTests := true, laidLooks := .later }
def EntriesOrderCardSaid : Prop := Claim7.holds Tryd.pinned (.plain (OpenSpec.ofChange entriesOrderSpec)) entriesOrderCard

/-- THE TIED CARD OF 'munimentlaw18.PlanWithin'. -/
def planWithinCard : Claim7 := { stood := { row := planWithinRow, standIns := [], harness := (true, "2c5ccb9240f76cd69977f8f3dd4ec3eda7b16a46f2dacf0657622f452294bf25"), looks := false }, kinds := [], alts := [], laidByText := true, laidKinds := [.data, .pinned, .pinned], laidTests := true, laidLooks := .later }
def PlanWithinCardSaid : Prop := Claim7.holds Tryd.pinned (.plain (OpenSpec.ofChange planWithinSpec)) planWithinCard

/-- THE TIED CARD OF 'munimentlaw18.PlanBest'. -/
def planBestCard : Claim7 := { stood := { row := planBestRow, standIns := [], harness := (true, "2c5ccb9240f76cd69977f8f3dd4ec3eda7b16a46f2dacf0657622f452294bf25"), looks := false }, kinds := [], alts := [], laidByText := true, laidKinds := [.data, .pinned, .pinned], laidTests := true, laidLooks := .later }
def PlanBestCardSaid : Prop := Claim7.holds Tryd.pinned (.plain (OpenSpec.ofChange planBestSpec)) planBestCard

/-- THE SECOND FORM's CARD OF 'munimentlaw17.EntriesForms'. -/
def entriesFormsUptoCard : Claim7 := { stood := { row := entriesFormsUptoRow, standIns := [], harness := (true, "2c5ccb9240f76cd69977f8f3dd4ec3eda7b16a46f2dacf0657622f452294bf25"), looks := false }, kinds := [], alts := [], laidByText := true, laidKinds := [.data, .pinned, .pinned], laidTests := true, laidLooks := .later }
def EntriesFormsUptoCardSaid : Prop := Claim7.holds Tryd.pinned (.plain (OpenSpec.upto entriesFormsSpec)) entriesFormsUptoCard

/-- THE SECOND FORM's CARD OF 'munimentlaw17.EntriesShow'. -/
def entriesShowUptoCard : Claim7 := { stood := { row := entriesShowUptoRow, standIns := [], harness := (true, "2c5ccb9240f76cd69977f8f3dd4ec3eda7b16a46f2dacf0657622f452294bf25"), looks := false }, kinds := [], alts := [], laidByText := true, laidKinds := [.data, .pinned, .pinned], laidTests := true, laidLooks := .later }
def EntriesShowUptoCardSaid : Prop := Claim7.holds Tryd.pinned (.plain (OpenSpec.upto entriesShowSpec)) entriesShowUptoCard

/-- THE SECOND FORM's CARD OF 'munimentlaw17.EntriesKeys'. -/
def entriesKeysUptoCard : Claim7 := { stood := { row := entriesKeysUptoRow, standIns := [], harness := (true, "2c5ccb9240f76cd69977f8f3dd4ec3eda7b16a46f2dacf0657622f452294bf25"), looks := false }, kinds := [], alts := [], laidByText := true, laidKinds := [.data, .pinned, .pinned], laidTests := true, laidLooks := .later }
def EntriesKeysUptoCardSaid : Prop := Claim7.holds Tryd.pinned (.plain (OpenSpec.upto entriesKeysSpec)) entriesKeysUptoCard

/-- THE SECOND FORM's CARD OF 'munimentlaw17.EntriesAll'. -/
def entriesAllUptoCard : Claim7 := { stood := { row := entriesAllUptoRow, standIns := [], harness := (true, "2c5ccb9240f76cd69977f8f3dd4ec3eda7b16a46f2dacf0657622f452294bf25"), looks := false }, kinds := [], alts := [], laidByText := true, laidKinds := [.data, .pinned, .pinned], laidTests := true, laidLooks := .later }
def EntriesAllUptoCardSaid : Prop := Claim7.holds Tryd.pinned (.plain (OpenSpec.upto entriesAllSpec)) entriesAllUptoCard

/-- THE SECOND FORM's CARD OF 'munimentlaw17.EntriesOrder'. -/
def entriesOrderUptoCard : Claim7 := { stood := { row := entriesOrderUptoRow, standIns := [], harness := (true, "2c5ccb9240f76cd69977f8f3dd4ec3eda7b16a46f2dacf0657622f452294bf25"), looks := false }, kinds := [], alts := [], laidByText := true, laidKinds := [.data, .pinned, .pinned], laidTests := true, laidLooks := .later }
def EntriesOrderUptoCardSaid : Prop := Claim7.holds Tryd.pinned (.plain (OpenSpec.upto entriesOrderSpec)) entriesOrderUptoCard

/-- THE SECOND FORM's CARD OF 'munimentlaw18.PlanWithin'. -/
def planWithinUptoCard : Claim7 := { stood := { row := planWithinUptoRow, standIns := [], harness := (true, "2c5ccb9240f76cd69977f8f3dd4ec3eda7b16a46f2dacf0657622f452294bf25"), looks := false }, kinds := [], alts := [], laidByText := true, laidKinds := [.data, .pinned, .pinned], laidTests := true, laidLooks := .later }
def PlanWithinUptoCardSaid : Prop := Claim7.holds Tryd.pinned (.plain (OpenSpec.upto planWithinSpec)) planWithinUptoCard

/-- THE SECOND FORM's CARD OF 'munimentlaw18.PlanBest'. -/
def planBestUptoCard : Claim7 := { stood := { row := planBestUptoRow, standIns := [], harness := (true, "2c5ccb9240f76cd69977f8f3dd4ec3eda7b16a46f2dacf0657622f452294bf25"), looks := false }, kinds := [], alts := [], laidByText := true, laidKinds := [.data, .pinned, .pinned], laidTests := true, laidLooks := .later }
def PlanBestUptoCardSaid : Prop := Claim7.holds Tryd.pinned (.plain (OpenSpec.upto planBestSpec)) planBestUptoCard
end Rows
end Go.Proofs.YtgcbkecpplhknaaDoor
