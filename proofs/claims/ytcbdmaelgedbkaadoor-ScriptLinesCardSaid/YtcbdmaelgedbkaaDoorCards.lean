/-
  DERIVED. GIVEN WITH THE SEED: THE CARDS: each row of YtcbdmaelgedbkaaDoorRows.lean that lists a variable, with what it lists TIED to the program's text (the seventh form; the later family's looks); each row that meets fmt, with fmt's text TOLD by the authors' own Lean function (tested against real Go, not proved from fmt's source: count such statements apart). THE CARD IS WHAT COUNTS. Prove the row's statement (the work); the ties are given (YtcbdmaelgedbkaaDoorTie.lean); close each card by the builder's one call (the guide's Derived/Test/ToyasCard.lean, 'card_holds'). Laid BY PROGRAM, IN A SANDBOX (cutbox-door.mjs). By AI agents, Wed Nov 11 2026. No macro, syntax, notation, axiom, sorry.
-/
import Derived.Test.YtcbdmaelgedbkaaDoorRows
import GoSem.ClaimSeven
namespace Go.Proofs.YtcbdmaelgedbkaaDoor
namespace Rows

/-- THE TIED CARD OF 'turnkeylaw29.ScriptWhole'. -/
def scriptWholeCard : Claim7 := { stood := { row := scriptWholeRow, standIns := [], harness := (true, "ad718dbfb2c46de573b1ebd000e7629b82eec73e1f450af6c0b7b8f34748086d"), looks := true }, kinds := [], alts := [], laidByText := true, laidKinds := [.data, .data, .data, .handle], laidTests := true, laidLooks := .later }
def ScriptWholeCardSaid : Prop := Claim7.holds Tryd.pinned (.plain (OpenSpec.ofChange scriptWholeSpec)) scriptWholeCard

/-- THE TIED CARD OF 'turnkeylaw29.ScriptLines'. -/
def scriptLinesCard : Claim7 := { stood := { row := scriptLinesRow, standIns := [], harness := (true, "ad718dbfb2c46de573b1ebd000e7629b82eec73e1f450af6c0b7b8f34748086d"), looks := true }, kinds := [], alts := [], laidByText := true, laidKinds := [.data, .data, .data, .handle], laidTests := true, laidLooks := .later }
def ScriptLinesCardSaid : Prop := Claim7.holds Tryd.pinned (.plain (OpenSpec.ofChange scriptLinesSpec)) scriptLinesCard

/-- THE SECOND FORM's CARD OF 'turnkeylaw29.ScriptWhole'. -/
def scriptWholeUptoCard : Claim7 := { stood := { row := scriptWholeUptoRow, standIns := [], harness := (true, "ad718dbfb2c46de573b1ebd000e7629b82eec73e1f450af6c0b7b8f34748086d"), looks := true }, kinds := [], alts := [], laidByText := true, laidKinds := [.data, .data, .data, .handle], laidTests := true, laidLooks := .later }
def ScriptWholeUptoCardSaid : Prop := Claim7.holds Tryd.pinned (.plain (OpenSpec.upto scriptWholeSpec)) scriptWholeUptoCard

/-- THE SECOND FORM's CARD OF 'turnkeylaw29.ScriptLines'. -/
def scriptLinesUptoCard : Claim7 := { stood := { row := scriptLinesUptoRow, standIns := [], harness := (true, "ad718dbfb2c46de573b1ebd000e7629b82eec73e1f450af6c0b7b8f34748086d"), looks := true }, kinds := [], alts := [], laidByText := true, laidKinds := [.data, .data, .data, .handle], laidTests := true, laidLooks := .later }
def ScriptLinesUptoCardSaid : Prop := Claim7.holds Tryd.pinned (.plain (OpenSpec.upto scriptLinesSpec)) scriptLinesUptoCard
end Rows
end Go.Proofs.YtcbdmaelgedbkaaDoor
