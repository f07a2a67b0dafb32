/-
  DERIVED. GIVEN WITH THE SEED: THE CARDS: each row of YtanmlgliibgpcaaDoorRows.lean that lists a variable, with what it lists TIED to the program's text (the seventh form; the later family's looks); each row that meets fmt, with fmt's text TOLD by the authors' own Lean function (tested against real Go, not proved from fmt's source: count such statements apart). THE CARD IS WHAT COUNTS. Prove the row's statement (the work); the ties are given (YtanmlgliibgpcaaDoorTie.lean); close each card by the builder's one call (the guide's Derived/Test/ToyasCard.lean, 'card_holds'). Laid BY PROGRAM, IN A SANDBOX (cutbox-door.mjs). By AI agents, Wed Nov 11 2026. No macro, syntax, notation, axiom, sorry.
-/
import Derived.Test.YtanmlgliibgpcaaDoorRows
import GoSem.ClaimSeven
namespace Go.Proofs.YtanmlgliibgpcaaDoor
namespace Rows

/-- THE TIED CARD OF 'thresherlaw10.NfaCompiles'. -/
def nfaCompilesCard : Claim7 := { stood := { row := nfaCompilesRow, standIns := [], harness := (true, "a3710effdc1e3f0895447a8e8a768be1629044227cc9100b6371bab178515853"), looks := true }, kinds := [], alts := [], laidByText := true, laidKinds := [.data, .pinned], laidTests := true, laidLooks := .later }
def NfaCompilesCardSaid : Prop := Claim7.holds Tryd.pinned (.plain (OpenSpec.ofChange nfaCompilesSpec)) nfaCompilesCard

/-- THE TIED CARD OF 'thresherlaw10.NfaChoice'. -/
def nfaChoiceCard : Claim7 := { stood := { row := nfaChoiceRow, standIns := [], harness := (true, "a3710effdc1e3f0895447a8e8a768be1629044227cc9100b6371bab178515853"), looks := true }, kinds := [], alts := [], laidByText := true, laidKinds := [.data, .pinned], laidTests := true, laidLooks := .later }
def NfaChoiceCardSaid : Prop := Claim7.holds Tryd.pinned (.plain (OpenSpec.ofChange nfaChoiceSpec)) nfaChoiceCard

/-- THE TIED CARD OF 'thresherlaw10.NfaLiteral'. -/
def nfaLiteralCard : Claim7 := { stood := { row := nfaLiteralRow, standIns := [], harness := (true, "a3710effdc1e3f0895447a8e8a768be1629044227cc9100b6371bab178515853"), looks := true }, kinds := [], alts := [], laidByText := true, laidKinds := [.data, .pinned], laidTests := true, laidLooks := .later }
def NfaLiteralCardSaid : Prop := Claim7.holds Tryd.pinned (.plain (OpenSpec.ofChange nfaLiteralSpec)) nfaLiteralCard

/-- THE SECOND FORM's CARD OF 'thresherlaw10.NfaCompiles'. -/
def nfaCompilesUptoCard : Claim7 := { stood := { row := nfaCompilesUptoRow, standIns := [], harness := (true, "a3710effdc1e3f0895447a8e8a768be1629044227cc9100b6371bab178515853"), looks := true }, kinds := [], alts := [], laidByText := true, laidKinds := [.data, .pinned], laidTests := true, laidLooks := .later }
def NfaCompilesUptoCardSaid : Prop := Claim7.holds Tryd.pinned (.plain (OpenSpec.upto nfaCompilesSpec)) nfaCompilesUptoCard

/-- THE SECOND FORM's CARD OF 'thresherlaw10.NfaChoice'. -/
def nfaChoiceUptoCard : Claim7 := { stood := { row := nfaChoiceUptoRow, standIns := [], harness := (true, "a3710effdc1e3f0895447a8e8a768be1629044227cc9100b6371bab178515853"), looks := true }, kinds := [], alts := [], laidByText := true, laidKinds := [.data, .pinned], laidTests := true, laidLooks := .later }
def NfaChoiceUptoCardSaid : Prop := Claim7.holds Tryd.pinned (.plain (OpenSpec.upto nfaChoiceSpec)) nfaChoiceUptoCard

/-- THE SECOND FORM's CARD OF 'thresherlaw10.NfaLiteral'. -/
def nfaLiteralUptoCard : Claim7 := { stood := { row := nfaLiteralUptoRow, standIns := [], harness := (true, "a3710effdc1e3f0895447a8e8a768be1629044227cc9100b6371bab178515853"), looks := true }, kinds := [], alts := [], laidByText := true, laidKinds := [.data, .pinned], laidTests := true, laidLooks := .later }
def NfaLiteralUptoCardSaid : Prop := Claim7.holds Tryd.pinned (.plain (OpenSpec.upto nfaLiteralSpec)) nfaLiteralUptoCard
end Rows
end Go.Proofs.YtanmlgliibgpcaaDoor
