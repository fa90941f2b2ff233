/-
  DERIVED. GIVEN WITH THE SEED: THE CARDS: each row of YtpipbkalkkagpaaDoorRows.lean that lists a variable, with what it lists TIED to the program's text (the seventh form; the later family's looks); each row that meets fmt, with fmt's text TOLD by the authors' own Lean function (tested against real Go, not proved from fmt's source: count such statements apart). THE CARD IS WHAT COUNTS. Prove the row's statement (the work); the ties are given (YtpipbkalkkagpaaDoorTie.lean); close each card by the builder's one call (the guide's Derived/Test/ToyasCard.lean, 'card_holds'). Laid BY PROGRAM, IN A SANDBOX (cutbox-door.mjs). By AI agents, Wed Nov 11 2026. No macro, syntax, notation, axiom, sorry.
-/
import Derived.Test.YtpipbkalkkagpaaDoorRows
import GoSem.ClaimSeven
namespace Go.Proofs.YtpipbkalkkagpaaDoor
namespace Rows

/-- THE TIED CARD OF 'pyxlaw09.TreeTells'. -/
def treeTellsCard : Claim7 := { stood := { row := treeTellsRow, standIns := [], harness := (true, "31c2b10743f451b0813ab61c5177a2a6e53ea5e454f0f29f3b4d11689a66ed18"), looks := false }, kinds := [], alts := [], laidByText := true, laidKinds := [.data, .data], laidTests := true, laidLooks := .later }
def TreeTellsCardSaid : Prop := Claim7.holds Tryd.pinned (.plain (OpenSpec.ofChange treeTellsSpec)) treeTellsCard

/-- THE TIED CARD OF 'pyxlaw09.TreeCovers'. -/
def treeCoversCard : Claim7 := { stood := { row := treeCoversRow, standIns := [], harness := (true, "31c2b10743f451b0813ab61c5177a2a6e53ea5e454f0f29f3b4d11689a66ed18"), looks := false }, kinds := [], alts := [], laidByText := true, laidKinds := [.data, .data], laidTests := true, laidLooks := .later }
def TreeCoversCardSaid : Prop := Claim7.holds Tryd.pinned (.plain (OpenSpec.ofChange treeCoversSpec)) treeCoversCard

/-- THE TIED CARD OF 'pyxlaw09.TreeFinds'. -/
def treeFindsCard : Claim7 := { stood := { row := treeFindsRow, standIns := [], harness := (true, "31c2b10743f451b0813ab61c5177a2a6e53ea5e454f0f29f3b4d11689a66ed18"), looks := false }, kinds := [], alts := [], laidByText := true, laidKinds := [.data, .data], laidTests := true, laidLooks := .later }
def TreeFindsCardSaid : Prop := Claim7.holds Tryd.pinned (.plain (OpenSpec.ofChange treeFindsSpec)) treeFindsCard

/-- THE TIED CARD OF 'pyxlaw09.TreeWide'. -/
def treeWideCard : Claim7 := { stood := { row := treeWideRow, standIns := [], harness := (true, "31c2b10743f451b0813ab61c5177a2a6e53ea5e454f0f29f3b4d11689a66ed18"), looks := false }, kinds := [], alts := [], laidByText := true, laidKinds := [.data, .data], laidTests := true, laidLooks := .later }
def TreeWideCardSaid : Prop := Claim7.holds Tryd.pinned (.plain (OpenSpec.ofChange treeWideSpec)) treeWideCard

/-- THE TIED CARD OF 'pyxlaw09.TreeDoes'. -/
def treeDoesCard : Claim7 := { stood := { row := treeDoesRow, standIns := [], harness := (true, "31c2b10743f451b0813ab61c5177a2a6e53ea5e454f0f29f3b4d11689a66ed18"), looks := false }, kinds := [], alts := [], laidByText := true, laidKinds := [.data, .data], laidTests := true, laidLooks := .later }
def TreeDoesCardSaid : Prop := Claim7.holds Tryd.pinned (.plain (OpenSpec.ofChange treeDoesSpec)) treeDoesCard

/-- THE TIED CARD OF 'pyxlaw09.TreeStays'. -/
def treeStaysCard : Claim7 := { stood := { row := treeStaysRow, standIns := [], harness := (true, "31c2b10743f451b0813ab61c5177a2a6e53ea5e454f0f29f3b4d11689a66ed18"), looks := false }, kinds := [], alts := [], laidByText := true, laidKinds := [.data, .data], laidTests := true, laidLooks := .later }
def TreeStaysCardSaid : Prop := Claim7.holds Tryd.pinned (.plain (OpenSpec.ofChange treeStaysSpec)) treeStaysCard

/-- THE TIED CARD OF 'pyxlaw09.TreeBack'. -/
def treeBackCard : Claim7 := { stood := { row := treeBackRow, standIns := [], harness := (true, "31c2b10743f451b0813ab61c5177a2a6e53ea5e454f0f29f3b4d11689a66ed18"), looks := false }, kinds := [], alts := [], laidByText := true, laidKinds := [.data, .data], laidTests := true, laidLooks := .later }
def TreeBackCardSaid : Prop := Claim7.holds Tryd.pinned (.plain (OpenSpec.ofChange treeBackSpec)) treeBackCard

/-- THE TIED CARD OF 'pyxlaw09.TreeClean'. -/
def treeCleanCard : Claim7 := { stood := { row := treeCleanRow, standIns := [], harness := (true, "31c2b10743f451b0813ab61c5177a2a6e53ea5e454f0f29f3b4d11689a66ed18"), looks := false }, kinds := [], alts := [], laidByText := true, laidKinds := [.data, .data], laidTests := true, laidLooks := .later }
def TreeCleanCardSaid : Prop := Claim7.holds Tryd.pinned (.plain (OpenSpec.ofChange treeCleanSpec)) treeCleanCard

/-- THE SECOND FORM's CARD OF 'pyxlaw09.TreeTells'. -/
def treeTellsUptoCard : Claim7 := { stood := { row := treeTellsUptoRow, standIns := [], harness := (true, "31c2b10743f451b0813ab61c5177a2a6e53ea5e454f0f29f3b4d11689a66ed18"), looks := false }, kinds := [], alts := [], laidByText := true, laidKinds := [.data, .data], laidTests := true, laidLooks := .later }
def TreeTellsUptoCardSaid : Prop := Claim7.holds Tryd.pinned (.plain (OpenSpec.upto treeTellsSpec)) treeTellsUptoCard

/-- THE SECOND FORM's CARD OF 'pyxlaw09.TreeCovers'. -/
def treeCoversUptoCard : Claim7 := { stood := { row := treeCoversUptoRow, standIns := [], harness := (true, "31c2b10743f451b0813ab61c5177a2a6e53ea5e454f0f29f3b4d11689a66ed18"), looks := false }, kinds := [], alts := [], laidByText := true, laidKinds := [.data, .data], laidTests := true, laidLooks := .later }
def TreeCoversUptoCardSaid : Prop := Claim7.holds Tryd.pinned (.plain (OpenSpec.upto treeCoversSpec)) treeCoversUptoCard

/-- THE SECOND FORM's CARD OF 'pyxlaw09.TreeFinds'. -/
def treeFindsUptoCard : Claim7 := { stood := { row := treeFindsUptoRow, standIns := [], harness := (true, "31c2b10743f451b0813ab61c5177a2a6e53ea5e454f0f29f3b4d11689a66ed18"), looks := false }, kinds := [], alts := [], laidByText := true, laidKinds := [.data, .data], laidTests := true, laidLooks := .later }
def TreeFindsUptoCardSaid : Prop := Claim7.holds Tryd.pinned (.plain (OpenSpec.upto treeFindsSpec)) treeFindsUptoCard

/-- THE SECOND FORM's CARD OF 'pyxlaw09.TreeWide'. -/
def treeWideUptoCard : Claim7 := { stood := { row := treeWideUptoRow, standIns := [], harness := (true, "31c2b10743f451b0813ab61c5177a2a6e53ea5e454f0f29f3b4d11689a66ed18"), looks := false }, kinds := [], alts := [], laidByText := true, laidKinds := [.data, .data], laidTests := true, laidLooks := .later }
def TreeWideUptoCardSaid : Prop := Claim7.holds Tryd.pinned (.plain (OpenSpec.upto treeWideSpec)) treeWideUptoCard

/-- THE SECOND FORM's CARD OF 'pyxlaw09.TreeDoes'. -/
def treeDoesUptoCard : Claim7 := { stood := { row := treeDoesUptoRow, standIns := [], harness := (true, "31c2b10743f451b0813ab61c5177a2a6e53ea5e454f0f29f3b4d11689a66ed18"), looks := false }, kinds := [], alts := [], laidByText := true, laidKinds := [.data, .data], laidTests := true, laidLooks := .later }
def TreeDoesUptoCardSaid : Prop := Claim7.holds Tryd.pinned (.plain (OpenSpec.upto treeDoesSpec)) treeDoesUptoCard

/-- THE SECOND FORM's CARD OF 'pyxlaw09.TreeStays'. -/
def treeStaysUptoCard : Claim7 := { stood := { row := treeStaysUptoRow, standIns := [], harness := (true, "31c2b10743f451b0813ab61c5177a2a6e53ea5e454f0f29f3b4d11689a66ed18"), looks := false }, kinds := [], alts := [], laidByText := true, laidKinds := [.data, .data], laidTests := true, laidLooks := .later }
def TreeStaysUptoCardSaid : Prop := Claim7.holds Tryd.pinned (.plain (OpenSpec.upto treeStaysSpec)) treeStaysUptoCard

/-- THE SECOND FORM's CARD OF 'pyxlaw09.TreeBack'. -/
def treeBackUptoCard : Claim7 := { stood := { row := treeBackUptoRow, standIns := [], harness := (true, "31c2b10743f451b0813ab61c5177a2a6e53ea5e454f0f29f3b4d11689a66ed18"), looks := false }, kinds := [], alts := [], laidByText := true, laidKinds := [.data, .data], laidTests := true, laidLooks := .later }
def TreeBackUptoCardSaid : Prop := Claim7.holds Tryd.pinned (.plain (OpenSpec.upto treeBackSpec)) treeBackUptoCard

/-- THE SECOND FORM's CARD OF 'pyxlaw09.TreeClean'. -/
def treeCleanUptoCard : Claim7 := { stood := { row := treeCleanUptoRow, standIns := [], harness := (true, "31c2b10743f451b0813ab61c5177a2a6e53ea5e454f0f29f3b4d11689a66ed18"), looks := false }, kinds := [], alts := [], laidByText := true, laidKinds := [.data, .data], laidTests := true, laidLooks := .later }
def TreeCleanUptoCardSaid : Prop := Claim7.holds Tryd.pinned (.plain (OpenSpec.upto treeCleanSpec)) treeCleanUptoCard
end Rows
end Go.Proofs.YtpipbkalkkagpaaDoor
