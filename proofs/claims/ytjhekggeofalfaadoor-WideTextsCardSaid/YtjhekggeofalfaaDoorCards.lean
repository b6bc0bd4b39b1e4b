/-
  DERIVED. GIVEN WITH THE SEED: THE CARDS: each row of YtjhekggeofalfaaDoorRows.lean that lists a variable, with what it lists TIED to the program's text (the seventh form; the later family's looks); each row that meets fmt, with fmt's text TOLD by the authors' own Lean function (tested against real Go, not proved from fmt's source: count such statements apart). THE CARD IS WHAT COUNTS. Prove the row's statement (the work); the ties are given (YtjhekggeofalfaaDoorTie.lean); close each card by the builder's one call (the guide's Derived/Test/ToyasCard.lean, 'card_holds'). Laid BY PROGRAM, IN A SANDBOX (cutbox-door.mjs). By AI agents, Wed Nov 11 2026. No macro, syntax, notation, axiom, sorry.
-/
import Derived.Test.YtjhekggeofalfaaDoorRows
import GoSem.ClaimSeven
namespace Go.Proofs.YtjhekggeofalfaaDoor
namespace Rows

/-- THE TIED CARD OF 'noonmarklaw02.WideAnswers'. -/
def wideAnswersCard : Claim7 := { stood := { row := wideAnswersRow, standIns := [], harness := (true, "cc16273b22215d2dfb3ee451da85a8e5714509e6475730f3ccdc36ea8f9b044d"), looks := false }, kinds := [], alts := [], laidByText := true, laidKinds := [.data, .data, .data], laidTests := true, laidLooks := .later }
def WideAnswersCardSaid : Prop := Claim7.holds Tryd.pinned (.plain (OpenSpec.ofChange wideAnswersSpec)) wideAnswersCard

/-- THE TIED CARD OF 'noonmarklaw02.WideSums'. -/
def wideSumsCard : Claim7 := { stood := { row := wideSumsRow, standIns := [], harness := (true, "cc16273b22215d2dfb3ee451da85a8e5714509e6475730f3ccdc36ea8f9b044d"), looks := false }, kinds := [], alts := [], laidByText := true, laidKinds := [.data, .data, .data], laidTests := true, laidLooks := .later }
def WideSumsCardSaid : Prop := Claim7.holds Tryd.pinned (.plain (OpenSpec.ofChange wideSumsSpec)) wideSumsCard

/-- THE TIED CARD OF 'noonmarklaw02.WideTexts'. -/
def wideTextsCard : Claim7 := { stood := { row := wideTextsRow, standIns := [], harness := (true, "cc16273b22215d2dfb3ee451da85a8e5714509e6475730f3ccdc36ea8f9b044d"), looks := false }, kinds := [], alts := [], laidByText := true, laidKinds := [.data, .data, .data], laidTests := true, laidLooks := .later }
def WideTextsCardSaid : Prop := Claim7.holds Tryd.pinned (.plain (OpenSpec.ofChange wideTextsSpec)) wideTextsCard

/-- THE TIED CARD OF 'noonmarklaw02.WideBytes'. -/
def wideBytesCard : Claim7 := { stood := { row := wideBytesRow, standIns := [], harness := (true, "cc16273b22215d2dfb3ee451da85a8e5714509e6475730f3ccdc36ea8f9b044d"), looks := false }, kinds := [], alts := [], laidByText := true, laidKinds := [.data, .data, .data], laidTests := true, laidLooks := .later }
def WideBytesCardSaid : Prop := Claim7.holds Tryd.pinned (.plain (OpenSpec.ofChange wideBytesSpec)) wideBytesCard

/-- THE TIED CARD OF 'noonmarklaw02.WideSwaps'. -/
def wideSwapsCard : Claim7 := { stood := { row := wideSwapsRow, standIns := [], harness := (true, "cc16273b22215d2dfb3ee451da85a8e5714509e6475730f3ccdc36ea8f9b044d"), looks := false }, kinds := [], alts := [], laidByText := true, laidKinds := [.data, .data, .data], laidTests := true, laidLooks := .later }
def WideSwapsCardSaid : Prop := Claim7.holds Tryd.pinned (.plain (OpenSpec.ofChange wideSwapsSpec)) wideSwapsCard

/-- THE SECOND FORM's CARD OF 'noonmarklaw02.WideAnswers'. -/
def wideAnswersUptoCard : Claim7 := { stood := { row := wideAnswersUptoRow, standIns := [], harness := (true, "cc16273b22215d2dfb3ee451da85a8e5714509e6475730f3ccdc36ea8f9b044d"), looks := false }, kinds := [], alts := [], laidByText := true, laidKinds := [.data, .data, .data], laidTests := true, laidLooks := .later }
def WideAnswersUptoCardSaid : Prop := Claim7.holds Tryd.pinned (.plain (OpenSpec.upto wideAnswersSpec)) wideAnswersUptoCard

/-- THE SECOND FORM's CARD OF 'noonmarklaw02.WideSums'. -/
def wideSumsUptoCard : Claim7 := { stood := { row := wideSumsUptoRow, standIns := [], harness := (true, "cc16273b22215d2dfb3ee451da85a8e5714509e6475730f3ccdc36ea8f9b044d"), looks := false }, kinds := [], alts := [], laidByText := true, laidKinds := [.data, .data, .data], laidTests := true, laidLooks := .later }
def WideSumsUptoCardSaid : Prop := Claim7.holds Tryd.pinned (.plain (OpenSpec.upto wideSumsSpec)) wideSumsUptoCard

/-- THE SECOND FORM's CARD OF 'noonmarklaw02.WideTexts'. -/
def wideTextsUptoCard : Claim7 := { stood := { row := wideTextsUptoRow, standIns := [], harness := (true, "cc16273b22215d2dfb3ee451da85a8e5714509e6475730f3ccdc36ea8f9b044d"), looks := false }, kinds := [], alts := [], laidByText := true, laidKinds := [.data, .data, .data], laidTests := true, laidLooks := .later }
def WideTextsUptoCardSaid : Prop := Claim7.holds Tryd.pinned (.plain (OpenSpec.upto wideTextsSpec)) wideTextsUptoCard

/-- THE SECOND FORM's CARD OF 'noonmarklaw02.WideBytes'. -/
def wideBytesUptoCard : Claim7 := { stood := { row := wideBytesUptoRow, standIns := [], harness := (true, "cc16273b22215d2dfb3ee451da85a8e5714509e6475730f3ccdc36ea8f9b044d"), looks := false }, kinds := [], alts := [], laidByText := true, laidKinds := [.data, .data, .data], laidTests := true, laidLooks := .later }
def WideBytesUptoCardSaid : Prop := Claim7.holds Tryd.pinned (.plain (OpenSpec.upto wideBytesSpec)) wideBytesUptoCard

/-- THE SECOND FORM's CARD OF 'noonmarklaw02.WideSwaps'. -/
def wideSwapsUptoCard : Claim7 := { stood := { row := wideSwapsUptoRow, standIns := [], harness := (true, "cc16273b22215d2dfb3ee451da85a8e5714509e6475730f3ccdc36ea8f9b044d"), looks := false }, kinds := [], alts := [], laidByText := true, laidKinds := [.data, .data, .data], laidTests := true, laidLooks := .later }
def WideSwapsUptoCardSaid : Prop := Claim7.holds Tryd.pinned (.plain (OpenSpec.upto wideSwapsSpec)) wideSwapsUptoCard
end Rows
end Go.Proofs.YtjhekggeofalfaaDoor
