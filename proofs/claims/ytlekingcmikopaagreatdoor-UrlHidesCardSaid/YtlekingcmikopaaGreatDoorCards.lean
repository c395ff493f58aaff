/-
  DERIVED. GIVEN WITH THE SEED: THE CARDS: each row of YtlekingcmikopaaGreatDoorRows.lean that lists a variable, with what it lists TIED to the program's text (the seventh form; the later family's looks); each row that meets fmt, with fmt's text TOLD by the authors' own Lean function (tested against real Go, not proved from fmt's source: count such statements apart). THE CARD IS WHAT COUNTS. Prove the row's statement (the work); the ties are given (YtlekingcmikopaaGreatDoorTie.lean); close each card by the builder's one call (the guide's Derived/Test/ToyasCard.lean, 'card_holds'). Laid BY PROGRAM, IN A SANDBOX (cutbox-door.mjs). By AI agents, Wed Nov 11 2026. No macro, syntax, notation, axiom, sorry.
-/
import Derived.Test.YtlekingcmikopaaGreatDoorRows
import GoSem.ClaimSeven
namespace Go.Proofs.YtlekingcmikopaaGreatDoor
namespace Rows

/-- THE TIED CARD OF 'decanterlaw19.UrlHides'. -/
def urlHidesCard : Claim7 := { stood := { row := urlHidesRow, standIns := [], harness := (true, "bfbb48eda69081855730be4552467ce91dafce9b32e54f8cc1ef0956b379fc15"), looks := true }, kinds := [], alts := [], laidByText := true, laidKinds := [.data, .pinned], laidTests := true, laidLooks := .later }
def UrlHidesCardSaid : Prop := Claim7.holds Tryz.pinned (.plain (OpenSpec.ofChange urlHidesSpec)) urlHidesCard

/-- THE TIED CARD OF 'decanterlaw19.UrlMore'. -/
def urlMoreCard : Claim7 := { stood := { row := urlMoreRow, standIns := [], harness := (true, "bfbb48eda69081855730be4552467ce91dafce9b32e54f8cc1ef0956b379fc15"), looks := true }, kinds := [], alts := [], laidByText := true, laidKinds := [.data, .pinned], laidTests := true, laidLooks := .later }
def UrlMoreCardSaid : Prop := Claim7.holds Tryz.pinned (.plain (OpenSpec.ofChange urlMoreSpec)) urlMoreCard

/-- THE TIED CARD OF 'decanterlaw19.UrlSchemes'. -/
def urlSchemesCard : Claim7 := { stood := { row := urlSchemesRow, standIns := [], harness := (true, "bfbb48eda69081855730be4552467ce91dafce9b32e54f8cc1ef0956b379fc15"), looks := true }, kinds := [], alts := [], laidByText := true, laidKinds := [.data, .pinned], laidTests := true, laidLooks := .later }
def UrlSchemesCardSaid : Prop := Claim7.holds Tryz.pinned (.plain (OpenSpec.ofChange urlSchemesSpec)) urlSchemesCard

/-- THE TIED CARD OF 'decanterlaw19.UrlBare'. -/
def urlBareCard : Claim7 := { stood := { row := urlBareRow, standIns := [], harness := (true, "bfbb48eda69081855730be4552467ce91dafce9b32e54f8cc1ef0956b379fc15"), looks := true }, kinds := [], alts := [], laidByText := true, laidKinds := [.data, .pinned], laidTests := true, laidLooks := .later }
def UrlBareCardSaid : Prop := Claim7.holds Tryz.pinned (.plain (OpenSpec.ofChange urlBareSpec)) urlBareCard

/-- THE SECOND FORM's CARD OF 'decanterlaw19.UrlHides'. -/
def urlHidesUptoCard : Claim7 := { stood := { row := urlHidesUptoRow, standIns := [], harness := (true, "bfbb48eda69081855730be4552467ce91dafce9b32e54f8cc1ef0956b379fc15"), looks := true }, kinds := [], alts := [], laidByText := true, laidKinds := [.data, .pinned], laidTests := true, laidLooks := .later }
def UrlHidesUptoCardSaid : Prop := Claim7.holds Tryz.pinned (.plain (OpenSpec.upto urlHidesSpec)) urlHidesUptoCard

/-- THE SECOND FORM's CARD OF 'decanterlaw19.UrlMore'. -/
def urlMoreUptoCard : Claim7 := { stood := { row := urlMoreUptoRow, standIns := [], harness := (true, "bfbb48eda69081855730be4552467ce91dafce9b32e54f8cc1ef0956b379fc15"), looks := true }, kinds := [], alts := [], laidByText := true, laidKinds := [.data, .pinned], laidTests := true, laidLooks := .later }
def UrlMoreUptoCardSaid : Prop := Claim7.holds Tryz.pinned (.plain (OpenSpec.upto urlMoreSpec)) urlMoreUptoCard

/-- THE SECOND FORM's CARD OF 'decanterlaw19.UrlSchemes'. -/
def urlSchemesUptoCard : Claim7 := { stood := { row := urlSchemesUptoRow, standIns := [], harness := (true, "bfbb48eda69081855730be4552467ce91dafce9b32e54f8cc1ef0956b379fc15"), looks := true }, kinds := [], alts := [], laidByText := true, laidKinds := [.data, .pinned], laidTests := true, laidLooks := .later }
def UrlSchemesUptoCardSaid : Prop := Claim7.holds Tryz.pinned (.plain (OpenSpec.upto urlSchemesSpec)) urlSchemesUptoCard

/-- THE SECOND FORM's CARD OF 'decanterlaw19.UrlBare'. -/
def urlBareUptoCard : Claim7 := { stood := { row := urlBareUptoRow, standIns := [], harness := (true, "bfbb48eda69081855730be4552467ce91dafce9b32e54f8cc1ef0956b379fc15"), looks := true }, kinds := [], alts := [], laidByText := true, laidKinds := [.data, .pinned], laidTests := true, laidLooks := .later }
def UrlBareUptoCardSaid : Prop := Claim7.holds Tryz.pinned (.plain (OpenSpec.upto urlBareSpec)) urlBareUptoCard
end Rows
end Go.Proofs.YtlekingcmikopaaGreatDoor
