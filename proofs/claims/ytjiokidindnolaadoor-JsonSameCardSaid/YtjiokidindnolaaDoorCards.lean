/-
  DERIVED. GIVEN WITH THE SEED: THE CARDS: each row of YtjiokidindnolaaDoorRows.lean that lists a variable, with what it lists TIED to the program's text (the seventh form; the later family's looks); each row that meets fmt, with fmt's text TOLD by the authors' own Lean function (tested against real Go, not proved from fmt's source: count such statements apart). THE CARD IS WHAT COUNTS. Prove the row's statement (the work); the ties are given (YtjiokidindnolaaDoorTie.lean); close each card by the builder's one call (the guide's Derived/Test/ToyasCard.lean, 'card_holds'). Laid BY PROGRAM, IN A SANDBOX (cutbox-door.mjs). By AI agents, Wed Nov 11 2026. No macro, syntax, notation, axiom, sorry.
-/
import Derived.Test.YtjiokidindnolaaDoorRows
import GoSem.ClaimSeven
namespace Go.Proofs.YtjiokidindnolaaDoor
namespace Rows

/-- THE TIED CARD OF 'munimentlaw01.JsonForms'. -/
def jsonFormsCard : Claim7 := { stood := { row := jsonFormsRow, standIns := [], harness := (true, "2cfe8415a42ba939d3474e27171ae574aaec64fa44b79ba7b3f04fb4a7cb4c5e"), looks := false }, kinds := [], alts := [], laidByText := true, laidKinds := [.data, .pinned], laidTests := true, laidLooks := .later }
def JsonFormsCardSaid : Prop := Claim7.holds Tryd.pinned (.plain (OpenSpec.ofChange jsonFormsSpec)) jsonFormsCard

/-- THE TIED CARD OF 'munimentlaw01.JsonDeep'. -/
def jsonDeepCard : Claim7 := { stood := { row := jsonDeepRow, standIns := [], harness := (true, "2cfe8415a42ba939d3474e27171ae574aaec64fa44b79ba7b3f04fb4a7cb4c5e"), looks := false }, kinds := [], alts := [], laidByText := true, laidKinds := [.data, .pinned], laidTests := true, laidLooks := .later }
def JsonDeepCardSaid : Prop := Claim7.holds Tryd.pinned (.plain (OpenSpec.ofChange jsonDeepSpec)) jsonDeepCard

/-- THE TIED CARD OF 'munimentlaw01.JsonPrints'. -/
def jsonPrintsCard : Claim7 := { stood := { row := jsonPrintsRow, standIns := [], harness := (true, "2cfe8415a42ba939d3474e27171ae574aaec64fa44b79ba7b3f04fb4a7cb4c5e"), looks := false }, kinds := [], alts := [], laidByText := true, laidKinds := [.data, .data, .data, .data, .pinned], laidTests := true, laidLooks := .later }
def JsonPrintsCardSaid : Prop := Claim7.holds Tryd.pinned (.plain (OpenSpec.ofChange jsonPrintsSpec)) jsonPrintsCard

/-- THE TIED CARD OF 'munimentlaw01.JsonSame'. -/
def jsonSameCard : Claim7 := { stood := { row := jsonSameRow, standIns := [], harness := (true, "2cfe8415a42ba939d3474e27171ae574aaec64fa44b79ba7b3f04fb4a7cb4c5e"), looks := false }, kinds := [], alts := [], laidByText := true, laidKinds := [.data, .data, .data, .data, .pinned], laidTests := true, laidLooks := .later }
def JsonSameCardSaid : Prop := Claim7.holds Tryd.pinned (.plain (OpenSpec.ofChange jsonSameSpec)) jsonSameCard

/-- THE SECOND FORM's CARD OF 'munimentlaw01.JsonForms'. -/
def jsonFormsUptoCard : Claim7 := { stood := { row := jsonFormsUptoRow, standIns := [], harness := (true, "2cfe8415a42ba939d3474e27171ae574aaec64fa44b79ba7b3f04fb4a7cb4c5e"), looks := false }, kinds := [], alts := [], laidByText := true, laidKinds := [.data, .pinned], laidTests := true, laidLooks := .later }
def JsonFormsUptoCardSaid : Prop := Claim7.holds Tryd.pinned (.plain (OpenSpec.upto jsonFormsSpec)) jsonFormsUptoCard

/-- THE SECOND FORM's CARD OF 'munimentlaw01.JsonDeep'. -/
def jsonDeepUptoCard : Claim7 := { stood := { row := jsonDeepUptoRow, standIns := [], harness := (true, "2cfe8415a42ba939d3474e27171ae574aaec64fa44b79ba7b3f04fb4a7cb4c5e"), looks := false }, kinds := [], alts := [], laidByText := true, laidKinds := [.data, .pinned], laidTests := true, laidLooks := .later }
def JsonDeepUptoCardSaid : Prop := Claim7.holds Tryd.pinned (.plain (OpenSpec.upto jsonDeepSpec)) jsonDeepUptoCard

/-- THE SECOND FORM's CARD OF 'munimentlaw01.JsonPrints'. -/
def jsonPrintsUptoCard : Claim7 := { stood := { row := jsonPrintsUptoRow, standIns := [], harness := (true, "2cfe8415a42ba939d3474e27171ae574aaec64fa44b79ba7b3f04fb4a7cb4c5e"), looks := false }, kinds := [], alts := [], laidByText := true, laidKinds := [.data, .data, .data, .data, .pinned], laidTests := true, laidLooks := .later }
def JsonPrintsUptoCardSaid : Prop := Claim7.holds Tryd.pinned (.plain (OpenSpec.upto jsonPrintsSpec)) jsonPrintsUptoCard

/-- THE SECOND FORM's CARD OF 'munimentlaw01.JsonSame'. -/
def jsonSameUptoCard : Claim7 := { stood := { row := jsonSameUptoRow, standIns := [], harness := (true, "2cfe8415a42ba939d3474e27171ae574aaec64fa44b79ba7b3f04fb4a7cb4c5e"), looks := false }, kinds := [], alts := [], laidByText := true, laidKinds := [.data, .data, .data, .data, .pinned], laidTests := true, laidLooks := .later }
def JsonSameUptoCardSaid : Prop := Claim7.holds Tryd.pinned (.plain (OpenSpec.upto jsonSameSpec)) jsonSameUptoCard
end Rows
end Go.Proofs.YtjiokidindnolaaDoor
