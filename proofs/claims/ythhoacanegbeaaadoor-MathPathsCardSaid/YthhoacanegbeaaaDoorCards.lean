/-
  DERIVED. GIVEN WITH THE SEED: THE CARDS: each row of YthhoacanegbeaaaDoorRows.lean that lists a variable, with what it lists TIED to the program's text (the seventh form; the later family's looks); each row that meets fmt, with fmt's text TOLD by the authors' own Lean function (tested against real Go, not proved from fmt's source: count such statements apart). THE CARD IS WHAT COUNTS. Prove the row's statement (the work); the ties are given (YthhoacanegbeaaaDoorTie.lean); close each card by the builder's one call (the guide's Derived/Test/ToyasCard.lean, 'card_holds'). Laid BY PROGRAM, IN A SANDBOX (cutbox-door.mjs). By AI agents, Wed Nov 11 2026. No macro, syntax, notation, axiom, sorry.
-/
import Derived.Test.YthhoacanegbeaaaDoorRows
import GoSem.ClaimSeven
namespace Go.Proofs.YthhoacanegbeaaaDoor
namespace Rows

/-- THE TIED CARD OF 'pyxlaw08.MathPaths'. -/
def mathPathsCard : Claim7 := { stood := { row := mathPathsRow, standIns := [], harness := (true, "dd828a5ee6325f284fdce47d62c52c79b8526ec2a1c7618fba3c17ba1585de00"), looks := false }, kinds := [], alts := [], laidByText := true, laidKinds := [.data, .data], laidTests := true, laidLooks := .later }
def MathPathsCardSaid : Prop := Claim7.holds Tryd.pinned (.plain (OpenSpec.ofChange mathPathsSpec)) mathPathsCard

/-- THE TIED CARD OF 'pyxlaw08.MathLeaves'. -/
def mathLeavesCard : Claim7 := { stood := { row := mathLeavesRow, standIns := [], harness := (true, "dd828a5ee6325f284fdce47d62c52c79b8526ec2a1c7618fba3c17ba1585de00"), looks := false }, kinds := [], alts := [], laidByText := true, laidKinds := [.data, .data], laidTests := true, laidLooks := .later }
def MathLeavesCardSaid : Prop := Claim7.holds Tryd.pinned (.plain (OpenSpec.ofChange mathLeavesSpec)) mathLeavesCard

/-- THE TIED CARD OF 'pyxlaw08.MathTwice'. -/
def mathTwiceCard : Claim7 := { stood := { row := mathTwiceRow, standIns := [], harness := (true, "dd828a5ee6325f284fdce47d62c52c79b8526ec2a1c7618fba3c17ba1585de00"), looks := false }, kinds := [], alts := [], laidByText := true, laidKinds := [.data, .data], laidTests := true, laidLooks := .later }
def MathTwiceCardSaid : Prop := Claim7.holds Tryd.pinned (.plain (OpenSpec.ofChange mathTwiceSpec)) mathTwiceCard

/-- THE TIED CARD OF 'pyxlaw08.MathWays'. -/
def mathWaysCard : Claim7 := { stood := { row := mathWaysRow, standIns := [], harness := (true, "dd828a5ee6325f284fdce47d62c52c79b8526ec2a1c7618fba3c17ba1585de00"), looks := false }, kinds := [], alts := [], laidByText := true, laidKinds := [.data, .data], laidTests := true, laidLooks := .later }
def MathWaysCardSaid : Prop := Claim7.holds Tryd.pinned (.plain (OpenSpec.ofChange mathWaysSpec)) mathWaysCard

/-- THE TIED CARD OF 'pyxlaw08.MathMeets'. -/
def mathMeetsCard : Claim7 := { stood := { row := mathMeetsRow, standIns := [], harness := (true, "dd828a5ee6325f284fdce47d62c52c79b8526ec2a1c7618fba3c17ba1585de00"), looks := false }, kinds := [], alts := [], laidByText := true, laidKinds := [.data, .data], laidTests := true, laidLooks := .later }
def MathMeetsCardSaid : Prop := Claim7.holds Tryd.pinned (.plain (OpenSpec.ofChange mathMeetsSpec)) mathMeetsCard

/-- THE TIED CARD OF 'pyxlaw08.MathTells'. -/
def mathTellsCard : Claim7 := { stood := { row := mathTellsRow, standIns := [], harness := (true, "dd828a5ee6325f284fdce47d62c52c79b8526ec2a1c7618fba3c17ba1585de00"), looks := false }, kinds := [], alts := [], laidByText := true, laidKinds := [.data, .data], laidTests := true, laidLooks := .later }
def MathTellsCardSaid : Prop := Claim7.holds Tryd.pinned (.plain (OpenSpec.ofChange mathTellsSpec)) mathTellsCard

/-- THE TIED CARD OF 'pyxlaw08.MathUp'. -/
def mathUpCard : Claim7 := { stood := { row := mathUpRow, standIns := [], harness := (true, "dd828a5ee6325f284fdce47d62c52c79b8526ec2a1c7618fba3c17ba1585de00"), looks := false }, kinds := [], alts := [], laidByText := true, laidKinds := [.data, .data], laidTests := true, laidLooks := .later }
def MathUpCardSaid : Prop := Claim7.holds Tryd.pinned (.plain (OpenSpec.ofChange mathUpSpec)) mathUpCard

/-- THE SECOND FORM's CARD OF 'pyxlaw08.MathPaths'. -/
def mathPathsUptoCard : Claim7 := { stood := { row := mathPathsUptoRow, standIns := [], harness := (true, "dd828a5ee6325f284fdce47d62c52c79b8526ec2a1c7618fba3c17ba1585de00"), looks := false }, kinds := [], alts := [], laidByText := true, laidKinds := [.data, .data], laidTests := true, laidLooks := .later }
def MathPathsUptoCardSaid : Prop := Claim7.holds Tryd.pinned (.plain (OpenSpec.upto mathPathsSpec)) mathPathsUptoCard

/-- THE SECOND FORM's CARD OF 'pyxlaw08.MathLeaves'. -/
def mathLeavesUptoCard : Claim7 := { stood := { row := mathLeavesUptoRow, standIns := [], harness := (true, "dd828a5ee6325f284fdce47d62c52c79b8526ec2a1c7618fba3c17ba1585de00"), looks := false }, kinds := [], alts := [], laidByText := true, laidKinds := [.data, .data], laidTests := true, laidLooks := .later }
def MathLeavesUptoCardSaid : Prop := Claim7.holds Tryd.pinned (.plain (OpenSpec.upto mathLeavesSpec)) mathLeavesUptoCard

/-- THE SECOND FORM's CARD OF 'pyxlaw08.MathTwice'. -/
def mathTwiceUptoCard : Claim7 := { stood := { row := mathTwiceUptoRow, standIns := [], harness := (true, "dd828a5ee6325f284fdce47d62c52c79b8526ec2a1c7618fba3c17ba1585de00"), looks := false }, kinds := [], alts := [], laidByText := true, laidKinds := [.data, .data], laidTests := true, laidLooks := .later }
def MathTwiceUptoCardSaid : Prop := Claim7.holds Tryd.pinned (.plain (OpenSpec.upto mathTwiceSpec)) mathTwiceUptoCard

/-- THE SECOND FORM's CARD OF 'pyxlaw08.MathWays'. -/
def mathWaysUptoCard : Claim7 := { stood := { row := mathWaysUptoRow, standIns := [], harness := (true, "dd828a5ee6325f284fdce47d62c52c79b8526ec2a1c7618fba3c17ba1585de00"), looks := false }, kinds := [], alts := [], laidByText := true, laidKinds := [.data, .data], laidTests := true, laidLooks := .later }
def MathWaysUptoCardSaid : Prop := Claim7.holds Tryd.pinned (.plain (OpenSpec.upto mathWaysSpec)) mathWaysUptoCard

/-- THE SECOND FORM's CARD OF 'pyxlaw08.MathMeets'. -/
def mathMeetsUptoCard : Claim7 := { stood := { row := mathMeetsUptoRow, standIns := [], harness := (true, "dd828a5ee6325f284fdce47d62c52c79b8526ec2a1c7618fba3c17ba1585de00"), looks := false }, kinds := [], alts := [], laidByText := true, laidKinds := [.data, .data], laidTests := true, laidLooks := .later }
def MathMeetsUptoCardSaid : Prop := Claim7.holds Tryd.pinned (.plain (OpenSpec.upto mathMeetsSpec)) mathMeetsUptoCard

/-- THE SECOND FORM's CARD OF 'pyxlaw08.MathTells'. -/
def mathTellsUptoCard : Claim7 := { stood := { row := mathTellsUptoRow, standIns := [], harness := (true, "dd828a5ee6325f284fdce47d62c52c79b8526ec2a1c7618fba3c17ba1585de00"), looks := false }, kinds := [], alts := [], laidByText := true, laidKinds := [.data, .data], laidTests := true, laidLooks := .later }
def MathTellsUptoCardSaid : Prop := Claim7.holds Tryd.pinned (.plain (OpenSpec.upto mathTellsSpec)) mathTellsUptoCard

/-- THE SECOND FORM's CARD OF 'pyxlaw08.MathUp'. -/
def mathUpUptoCard : Claim7 := { stood := { row := mathUpUptoRow, standIns := [], harness := (true, "dd828a5ee6325f284fdce47d62c52c79b8526ec2a1c7618fba3c17ba1585de00"), looks := false }, kinds := [], alts := [], laidByText := true, laidKinds := [.data, .data], laidTests := true, laidLooks := .later }
def MathUpUptoCardSaid : Prop := Claim7.holds Tryd.pinned (.plain (OpenSpec.upto mathUpSpec)) mathUpUptoCard
end Rows
end Go.Proofs.YthhoacanegbeaaaDoor
