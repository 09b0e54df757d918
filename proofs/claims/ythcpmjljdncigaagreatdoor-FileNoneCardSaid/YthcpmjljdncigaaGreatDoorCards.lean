/-
  DERIVED. GIVEN WITH THE SEED: THE CARDS: each row of YthcpmjljdncigaaGreatDoorRows.lean that lists a variable, with what it lists TIED to the program's text (the seventh form; the later family's looks); each row that meets fmt, with fmt's text TOLD by the authors' own Lean function (tested against real Go, not proved from fmt's source: count such statements apart). THE CARD IS WHAT COUNTS. Prove the row's statement (the work); the ties are given (YthcpmjljdncigaaGreatDoorTie.lean); close each card by the builder's one call (the guide's Derived/Test/ToyasCard.lean, 'card_holds'). Laid BY PROGRAM, IN A SANDBOX (cutbox-door.mjs). By AI agents, Wed Nov 11 2026. No macro, syntax, notation, axiom, sorry.
-/
import Derived.Test.YthcpmjljdncigaaGreatDoorRows
import GoSem.ClaimSeven
namespace Go.Proofs.YthcpmjljdncigaaGreatDoor
namespace Rows

/-- THE TIED CARD OF 'raddlelaw15.FileOne'. -/
def fileOneCard : Claim7 := { stood := { row := fileOneRow, standIns := [], harness := (true, "d4376aaed4b4f1dc88947e66b8f572bb476402700523eb33f8d7fbdb373289d2"), looks := false }, kinds := [], alts := [], laidByText := true, laidKinds := [.data, .pinned], laidTests := true, laidLooks := .later }
def FileOneCardSaid : Prop := Claim7.holds Tryz.pinned (.plain (OpenSpec.ofChange fileOneSpec)) fileOneCard

/-- THE TIED CARD OF 'raddlelaw15.FileNone'. -/
def fileNoneCard : Claim7 := { stood := { row := fileNoneRow, standIns := [], harness := (true, "d4376aaed4b4f1dc88947e66b8f572bb476402700523eb33f8d7fbdb373289d2"), looks := false }, kinds := [], alts := [], laidByText := true, laidKinds := [.data, .pinned], laidTests := true, laidLooks := .later }
def FileNoneCardSaid : Prop := Claim7.holds Tryz.pinned (.plain (OpenSpec.ofChange fileNoneSpec)) fileNoneCard

/-- THE TIED CARD OF 'raddlelaw15.FileRights'. -/
def fileRightsCard : Claim7 := { stood := { row := fileRightsRow, standIns := [], harness := (true, "d4376aaed4b4f1dc88947e66b8f572bb476402700523eb33f8d7fbdb373289d2"), looks := false }, kinds := [], alts := [], laidByText := true, laidKinds := [.data, .data, .pinned], laidTests := true, laidLooks := .later }
def FileRightsCardSaid : Prop := Claim7.holds Tryz.pinned (.plain (OpenSpec.ofChange fileRightsSpec)) fileRightsCard

/-- THE TIED CARD OF 'raddlelaw15.FileRight'. -/
def fileRightCard : Claim7 := { stood := { row := fileRightRow, standIns := [], harness := (true, "d4376aaed4b4f1dc88947e66b8f572bb476402700523eb33f8d7fbdb373289d2"), looks := false }, kinds := [], alts := [], laidByText := true, laidKinds := [.data, .data, .pinned], laidTests := true, laidLooks := .later }
def FileRightCardSaid : Prop := Claim7.holds Tryz.pinned (.plain (OpenSpec.ofChange fileRightSpec)) fileRightCard

/-- THE SECOND FORM's CARD OF 'raddlelaw15.FileOne'. -/
def fileOneUptoCard : Claim7 := { stood := { row := fileOneUptoRow, standIns := [], harness := (true, "d4376aaed4b4f1dc88947e66b8f572bb476402700523eb33f8d7fbdb373289d2"), looks := false }, kinds := [], alts := [], laidByText := true, laidKinds := [.data, .pinned], laidTests := true, laidLooks := .later }
def FileOneUptoCardSaid : Prop := Claim7.holds Tryz.pinned (.plain (OpenSpec.upto fileOneSpec)) fileOneUptoCard

/-- THE SECOND FORM's CARD OF 'raddlelaw15.FileNone'. -/
def fileNoneUptoCard : Claim7 := { stood := { row := fileNoneUptoRow, standIns := [], harness := (true, "d4376aaed4b4f1dc88947e66b8f572bb476402700523eb33f8d7fbdb373289d2"), looks := false }, kinds := [], alts := [], laidByText := true, laidKinds := [.data, .pinned], laidTests := true, laidLooks := .later }
def FileNoneUptoCardSaid : Prop := Claim7.holds Tryz.pinned (.plain (OpenSpec.upto fileNoneSpec)) fileNoneUptoCard

/-- THE SECOND FORM's CARD OF 'raddlelaw15.FileRights'. -/
def fileRightsUptoCard : Claim7 := { stood := { row := fileRightsUptoRow, standIns := [], harness := (true, "d4376aaed4b4f1dc88947e66b8f572bb476402700523eb33f8d7fbdb373289d2"), looks := false }, kinds := [], alts := [], laidByText := true, laidKinds := [.data, .data, .pinned], laidTests := true, laidLooks := .later }
def FileRightsUptoCardSaid : Prop := Claim7.holds Tryz.pinned (.plain (OpenSpec.upto fileRightsSpec)) fileRightsUptoCard

/-- THE SECOND FORM's CARD OF 'raddlelaw15.FileRight'. -/
def fileRightUptoCard : Claim7 := { stood := { row := fileRightUptoRow, standIns := [], harness := (true, "d4376aaed4b4f1dc88947e66b8f572bb476402700523eb33f8d7fbdb373289d2"), looks := false }, kinds := [], alts := [], laidByText := true, laidKinds := [.data, .data, .pinned], laidTests := true, laidLooks := .later }
def FileRightUptoCardSaid : Prop := Claim7.holds Tryz.pinned (.plain (OpenSpec.upto fileRightSpec)) fileRightUptoCard
end Rows
end Go.Proofs.YthcpmjljdncigaaGreatDoor
