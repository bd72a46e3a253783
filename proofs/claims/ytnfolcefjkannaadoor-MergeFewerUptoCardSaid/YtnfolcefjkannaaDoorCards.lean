/-
  DERIVED. GIVEN WITH THE SEED: THE CARDS: each row of YtnfolcefjkannaaDoorRows.lean that lists a variable, with what it lists TIED to the program's text (the seventh form; the later family's looks); each row that meets fmt, with fmt's text TOLD by the authors' own Lean function (tested against real Go, not proved from fmt's source: count such statements apart). THE CARD IS WHAT COUNTS. Prove the row's statement (the work); the ties are given (YtnfolcefjkannaaDoorTie.lean); close each card by the builder's one call (the guide's Derived/Test/ToyasCard.lean, 'card_holds'). Laid BY PROGRAM, IN A SANDBOX (cutbox-door.mjs). By AI agents, Wed Nov 11 2026. No macro, syntax, notation, axiom, sorry.
-/
import Derived.Test.YtnfolcefjkannaaDoorRows
import GoSem.ClaimSeven
namespace Go.Proofs.YtnfolcefjkannaaDoor
namespace Rows

/-- THE TIED CARD OF 'copselaw16.MergeAll'. -/
def mergeAllCard : Claim7 := { stood := { row := mergeAllRow, standIns := [], harness := (true, "8f1f06c378dfed96816ffabea2f9d1fc331fe6ea7a206f16247e9edca749ad70"), looks := false }, kinds := [], alts := [], laidByText := true, laidKinds := [.data, .pinned], laidTests := true, laidLooks := .later }
def MergeAllCardSaid : Prop := Claim7.holds Tryd.pinned (.plain (OpenSpec.ofChange mergeAllSpec)) mergeAllCard

/-- THE TIED CARD OF 'copselaw16.MergeKeeps'. -/
def mergeKeepsCard : Claim7 := { stood := { row := mergeKeepsRow, standIns := [], harness := (true, "8f1f06c378dfed96816ffabea2f9d1fc331fe6ea7a206f16247e9edca749ad70"), looks := false }, kinds := [], alts := [], laidByText := true, laidKinds := [.data, .pinned], laidTests := true, laidLooks := .later }
def MergeKeepsCardSaid : Prop := Claim7.holds Tryd.pinned (.plain (OpenSpec.ofChange mergeKeepsSpec)) mergeKeepsCard

/-- THE TIED CARD OF 'copselaw16.MergeFewer'. -/
def mergeFewerCard : Claim7 := { stood := { row := mergeFewerRow, standIns := [], harness := (true, "8f1f06c378dfed96816ffabea2f9d1fc331fe6ea7a206f16247e9edca749ad70"), looks := false }, kinds := [], alts := [], laidByText := true, laidKinds := [.data, .pinned], laidTests := true, laidLooks := .later }
def MergeFewerCardSaid : Prop := Claim7.holds Tryd.pinned (.plain (OpenSpec.ofChange mergeFewerSpec)) mergeFewerCard

/-- THE SECOND FORM's CARD OF 'copselaw16.MergeAll'. -/
def mergeAllUptoCard : Claim7 := { stood := { row := mergeAllUptoRow, standIns := [], harness := (true, "8f1f06c378dfed96816ffabea2f9d1fc331fe6ea7a206f16247e9edca749ad70"), looks := false }, kinds := [], alts := [], laidByText := true, laidKinds := [.data, .pinned], laidTests := true, laidLooks := .later }
def MergeAllUptoCardSaid : Prop := Claim7.holds Tryd.pinned (.plain (OpenSpec.upto mergeAllSpec)) mergeAllUptoCard

/-- THE SECOND FORM's CARD OF 'copselaw16.MergeKeeps'. -/
def mergeKeepsUptoCard : Claim7 := { stood := { row := mergeKeepsUptoRow, standIns := [], harness := (true, "8f1f06c378dfed96816ffabea2f9d1fc331fe6ea7a206f16247e9edca749ad70"), looks := false }, kinds := [], alts := [], laidByText := true, laidKinds := [.data, .pinned], laidTests := true, laidLooks := .later }
def MergeKeepsUptoCardSaid : Prop := Claim7.holds Tryd.pinned (.plain (OpenSpec.upto mergeKeepsSpec)) mergeKeepsUptoCard

/-- THE SECOND FORM's CARD OF 'copselaw16.MergeFewer'. -/
def mergeFewerUptoCard : Claim7 := { stood := { row := mergeFewerUptoRow, standIns := [], harness := (true, "8f1f06c378dfed96816ffabea2f9d1fc331fe6ea7a206f16247e9edca749ad70"), looks := false }, kinds := [], alts := [], laidByText := true, laidKinds := [.data, .pinned], laidTests := true, laidLooks := .later }
def MergeFewerUptoCardSaid : Prop := Claim7.holds Tryd.pinned (.plain (OpenSpec.upto mergeFewerSpec)) mergeFewerUptoCard
end Rows
end Go.Proofs.YtnfolcefjkannaaDoor
