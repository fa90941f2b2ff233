/-
  NARROWER THAN 'FOR EVERY INPUT', by the rows' own cells (each row's printed sentence says how): MathPaths: laid · MathLeaves: laid · MathTwice: laid · MathWays: laid · MathMeets: laid · MathTells: laid · MathUp: laid.
  DERIVED. THE GIVEN ROWS OF THIS SEAT. 7 by the template 'for every input the law returns true; each argument reads behind the call as it read before'; 0 by the template 'total and deterministic' (their statements: YthhoacanegbeaaaDoorTotals.lean).
  GIVEN WITH THE SEED: the statements are not yours to turn. If you find one false, say at which input.
  Laid BY PROGRAM, IN A SANDBOX (cutbox-rows.mjs): the forced cells as the released guide's own fill.sh prints them over the translation 3a9fc6c26713f37a… (all of the seat's roots in one cut). By AI agents, Wed Nov 11 2026. No macro, syntax, notation, axiom, sorry.
-/
import Derived.Test.YthhoacanegbeaaaDoorChecked
import GoSem.Claim
import GoSem.ClaimJoined
import GoSem.ClaimMapViews
import Derived.JoinedTies
import Derived.KernelRfl
namespace Go.Proofs.YthhoacanegbeaaaDoor
/- THE CELL 'sum', in the pinned program and in every row, IS THE sha256 OF THE DUMP (.gsa) THAT YthhoacanegbeaaaDoorProg.lean LOADS. Nothing in Lean hashes anything: it is a label: what it is worth is what the hold of that sum in a sandbox is worth. -/
noncomputable def Tryd.pinned : Pinned := { name := "ythhoacanegbeaaadoor", sum := "3a9fc6c26713f37ab10afceab4ec041df5156019428217591c9f697a5cbc339f", checked := Tryd.checked }
namespace Rows
def none {H : Type} : Left H := { results := [], args := [] }

/- WHAT THE LISTED PACKAGE-LEVEL VARIABLES READ AS WHEN THE CALL BEGINS. Each datum BY PROGRAM (the guide's laid-datum.mjs) off the statement by which the dump's own 'gosem.cut.vars' lays the variable. In a bare row this is a premise. The card (YthhoacanegbeaaaDoorCards.lean) ties it to the program's text. -/
def laid_math_bits_deBruijn32tab {H : Type} : DataW H := .agg [.lit (.int .u8 0), .lit (.int .u8 1), .lit (.int .u8 28), .lit (.int .u8 2), .lit (.int .u8 29), .lit (.int .u8 14), .lit (.int .u8 24), .lit (.int .u8 3), .lit (.int .u8 30), .lit (.int .u8 22), .lit (.int .u8 20), .lit (.int .u8 15), .lit (.int .u8 25), .lit (.int .u8 17), .lit (.int .u8 4), .lit (.int .u8 8), .lit (.int .u8 31), .lit (.int .u8 27), .lit (.int .u8 13), .lit (.int .u8 23), .lit (.int .u8 21), .lit (.int .u8 19), .lit (.int .u8 16), .lit (.int .u8 7), .lit (.int .u8 26), .lit (.int .u8 12), .lit (.int .u8 18), .lit (.int .u8 6), .lit (.int .u8 11), .lit (.int .u8 5), .lit (.int .u8 10), .lit (.int .u8 9)]
def laid_math_bits_deBruijn64tab {H : Type} : DataW H := .agg [.lit (.int .u8 0), .lit (.int .u8 1), .lit (.int .u8 56), .lit (.int .u8 2), .lit (.int .u8 57), .lit (.int .u8 49), .lit (.int .u8 28), .lit (.int .u8 3), .lit (.int .u8 61), .lit (.int .u8 58), .lit (.int .u8 42), .lit (.int .u8 50), .lit (.int .u8 38), .lit (.int .u8 29), .lit (.int .u8 17), .lit (.int .u8 4), .lit (.int .u8 62), .lit (.int .u8 47), .lit (.int .u8 59), .lit (.int .u8 36), .lit (.int .u8 45), .lit (.int .u8 43), .lit (.int .u8 51), .lit (.int .u8 22), .lit (.int .u8 53), .lit (.int .u8 39), .lit (.int .u8 33), .lit (.int .u8 30), .lit (.int .u8 24), .lit (.int .u8 18), .lit (.int .u8 12), .lit (.int .u8 5), .lit (.int .u8 63), .lit (.int .u8 55), .lit (.int .u8 48), .lit (.int .u8 27), .lit (.int .u8 60), .lit (.int .u8 41), .lit (.int .u8 37), .lit (.int .u8 16), .lit (.int .u8 46), .lit (.int .u8 35), .lit (.int .u8 44), .lit (.int .u8 21), .lit (.int .u8 52), .lit (.int .u8 32), .lit (.int .u8 23), .lit (.int .u8 11), .lit (.int .u8 54), .lit (.int .u8 26), .lit (.int .u8 40), .lit (.int .u8 15), .lit (.int .u8 34), .lit (.int .u8 20), .lit (.int .u8 31), .lit (.int .u8 10), .lit (.int .u8 25), .lit (.int .u8 14), .lit (.int .u8 19), .lit (.int .u8 9), .lit (.int .u8 13), .lit (.int .u8 8), .lit (.int .u8 7), .lit (.int .u8 6)]

/-- 'pyxlaw08.MathPaths': WHATEVER THE INPUT: true; the input reads as it did. -/
def mathPathsSpec : ChangeSpec := { name := "mathPaths", fn := fun _ => fun
  | [d1, d2, d3] => { results := [.lit (.bool true)], args := [d1, d2, d3] }
  | _ => none }
def mathPathsRow : OpenClaim := { program := "ythhoacanegbeaaadoor", sum := "3a9fc6c26713f37ab10afceab4ec041df5156019428217591c9f697a5cbc339f", func := "pyx/pyxlaw08.MathPaths", spec := "mathPaths", unfollowed := true, recurses := true, named := ["math/bits.deBruijn32tab", "math/bits.deBruijn64tab"], apart := false, laid := [("math/bits.deBruijn32tab", laid_math_bits_deBruijn32tab), ("math/bits.deBruijn64tab", laid_math_bits_deBruijn64tab)] }
def MathPathsSaid : Prop := mathPathsRow.holds Tryd.pinned (OpenSpec.ofChange mathPathsSpec)

/-- ITS FALSE NEIGHBOUR: 'it returns false'. Refute it at one input. -/
def mathPathsWrong : ChangeSpec := { name := "mathPaths", fn := fun _ => fun
  | [d1, d2, d3] => { results := [.lit (.bool false)], args := [d1, d2, d3] }
  | _ => none }
def MathPathsWrongFalsely : Prop := mathPathsRow.holds Tryd.pinned (OpenSpec.ofChange mathPathsWrong)

/-- 'pyxlaw08.MathLeaves': WHATEVER THE INPUT: true; the input reads as it did. -/
def mathLeavesSpec : ChangeSpec := { name := "mathLeaves", fn := fun _ => fun
  | [d1, d2, d3] => { results := [.lit (.bool true)], args := [d1, d2, d3] }
  | _ => none }
def mathLeavesRow : OpenClaim := { program := "ythhoacanegbeaaadoor", sum := "3a9fc6c26713f37ab10afceab4ec041df5156019428217591c9f697a5cbc339f", func := "pyx/pyxlaw08.MathLeaves", spec := "mathLeaves", unfollowed := true, recurses := true, named := ["math/bits.deBruijn32tab", "math/bits.deBruijn64tab"], apart := false, laid := [("math/bits.deBruijn32tab", laid_math_bits_deBruijn32tab), ("math/bits.deBruijn64tab", laid_math_bits_deBruijn64tab)] }
def MathLeavesSaid : Prop := mathLeavesRow.holds Tryd.pinned (OpenSpec.ofChange mathLeavesSpec)

/-- ITS FALSE NEIGHBOUR: 'it returns false'. Refute it at one input. -/
def mathLeavesWrong : ChangeSpec := { name := "mathLeaves", fn := fun _ => fun
  | [d1, d2, d3] => { results := [.lit (.bool false)], args := [d1, d2, d3] }
  | _ => none }
def MathLeavesWrongFalsely : Prop := mathLeavesRow.holds Tryd.pinned (OpenSpec.ofChange mathLeavesWrong)

/-- 'pyxlaw08.MathTwice': WHATEVER THE INPUT: true; the input reads as it did. -/
def mathTwiceSpec : ChangeSpec := { name := "mathTwice", fn := fun _ => fun
  | [d1, d2] => { results := [.lit (.bool true)], args := [d1, d2] }
  | _ => none }
def mathTwiceRow : OpenClaim := { program := "ythhoacanegbeaaadoor", sum := "3a9fc6c26713f37ab10afceab4ec041df5156019428217591c9f697a5cbc339f", func := "pyx/pyxlaw08.MathTwice", spec := "mathTwice", unfollowed := true, recurses := true, named := ["math/bits.deBruijn32tab", "math/bits.deBruijn64tab"], apart := false, laid := [("math/bits.deBruijn32tab", laid_math_bits_deBruijn32tab), ("math/bits.deBruijn64tab", laid_math_bits_deBruijn64tab)] }
def MathTwiceSaid : Prop := mathTwiceRow.holds Tryd.pinned (OpenSpec.ofChange mathTwiceSpec)

/-- ITS FALSE NEIGHBOUR: 'it returns false'. Refute it at one input. -/
def mathTwiceWrong : ChangeSpec := { name := "mathTwice", fn := fun _ => fun
  | [d1, d2] => { results := [.lit (.bool false)], args := [d1, d2] }
  | _ => none }
def MathTwiceWrongFalsely : Prop := mathTwiceRow.holds Tryd.pinned (OpenSpec.ofChange mathTwiceWrong)

/-- 'pyxlaw08.MathWays': WHATEVER THE INPUT: true; the input reads as it did. -/
def mathWaysSpec : ChangeSpec := { name := "mathWays", fn := fun _ => fun
  | [d1, d2] => { results := [.lit (.bool true)], args := [d1, d2] }
  | _ => none }
def mathWaysRow : OpenClaim := { program := "ythhoacanegbeaaadoor", sum := "3a9fc6c26713f37ab10afceab4ec041df5156019428217591c9f697a5cbc339f", func := "pyx/pyxlaw08.MathWays", spec := "mathWays", unfollowed := true, recurses := true, named := ["math/bits.deBruijn32tab", "math/bits.deBruijn64tab"], apart := false, laid := [("math/bits.deBruijn32tab", laid_math_bits_deBruijn32tab), ("math/bits.deBruijn64tab", laid_math_bits_deBruijn64tab)] }
def MathWaysSaid : Prop := mathWaysRow.holds Tryd.pinned (OpenSpec.ofChange mathWaysSpec)

/-- ITS FALSE NEIGHBOUR: 'it returns false'. Refute it at one input. -/
def mathWaysWrong : ChangeSpec := { name := "mathWays", fn := fun _ => fun
  | [d1, d2] => { results := [.lit (.bool false)], args := [d1, d2] }
  | _ => none }
def MathWaysWrongFalsely : Prop := mathWaysRow.holds Tryd.pinned (OpenSpec.ofChange mathWaysWrong)

/-- 'pyxlaw08.MathMeets': WHATEVER THE INPUT: true; the input reads as it did. -/
def mathMeetsSpec : ChangeSpec := { name := "mathMeets", fn := fun _ => fun
  | [d1, d2, d3] => { results := [.lit (.bool true)], args := [d1, d2, d3] }
  | _ => none }
def mathMeetsRow : OpenClaim := { program := "ythhoacanegbeaaadoor", sum := "3a9fc6c26713f37ab10afceab4ec041df5156019428217591c9f697a5cbc339f", func := "pyx/pyxlaw08.MathMeets", spec := "mathMeets", unfollowed := true, recurses := true, named := ["math/bits.deBruijn32tab", "math/bits.deBruijn64tab"], apart := false, laid := [("math/bits.deBruijn32tab", laid_math_bits_deBruijn32tab), ("math/bits.deBruijn64tab", laid_math_bits_deBruijn64tab)] }
def MathMeetsSaid : Prop := mathMeetsRow.holds Tryd.pinned (OpenSpec.ofChange mathMeetsSpec)

/-- ITS FALSE NEIGHBOUR: 'it returns false'. Refute it at one input. -/
def mathMeetsWrong : ChangeSpec := { name := "mathMeets", fn := fun _ => fun
  | [d1, d2, d3] => { results := [.lit (.bool false)], args := [d1, d2, d3] }
  | _ => none }
def MathMeetsWrongFalsely : Prop := mathMeetsRow.holds Tryd.pinned (OpenSpec.ofChange mathMeetsWrong)

/-- 'pyxlaw08.MathTells': WHATEVER THE INPUT: true; the input reads as it did. -/
def mathTellsSpec : ChangeSpec := { name := "mathTells", fn := fun _ => fun
  | [d1, d2] => { results := [.lit (.bool true)], args := [d1, d2] }
  | _ => none }
def mathTellsRow : OpenClaim := { program := "ythhoacanegbeaaadoor", sum := "3a9fc6c26713f37ab10afceab4ec041df5156019428217591c9f697a5cbc339f", func := "pyx/pyxlaw08.MathTells", spec := "mathTells", unfollowed := true, recurses := true, named := ["math/bits.deBruijn32tab", "math/bits.deBruijn64tab"], apart := false, laid := [("math/bits.deBruijn32tab", laid_math_bits_deBruijn32tab), ("math/bits.deBruijn64tab", laid_math_bits_deBruijn64tab)] }
def MathTellsSaid : Prop := mathTellsRow.holds Tryd.pinned (OpenSpec.ofChange mathTellsSpec)

/-- ITS FALSE NEIGHBOUR: 'it returns false'. Refute it at one input. -/
def mathTellsWrong : ChangeSpec := { name := "mathTells", fn := fun _ => fun
  | [d1, d2] => { results := [.lit (.bool false)], args := [d1, d2] }
  | _ => none }
def MathTellsWrongFalsely : Prop := mathTellsRow.holds Tryd.pinned (OpenSpec.ofChange mathTellsWrong)

/-- 'pyxlaw08.MathUp': WHATEVER THE INPUT: true; the input reads as it did. -/
def mathUpSpec : ChangeSpec := { name := "mathUp", fn := fun _ => fun
  | [d1, d2] => { results := [.lit (.bool true)], args := [d1, d2] }
  | _ => none }
def mathUpRow : OpenClaim := { program := "ythhoacanegbeaaadoor", sum := "3a9fc6c26713f37ab10afceab4ec041df5156019428217591c9f697a5cbc339f", func := "pyx/pyxlaw08.MathUp", spec := "mathUp", unfollowed := true, recurses := true, named := ["math/bits.deBruijn32tab", "math/bits.deBruijn64tab"], apart := false, laid := [("math/bits.deBruijn32tab", laid_math_bits_deBruijn32tab), ("math/bits.deBruijn64tab", laid_math_bits_deBruijn64tab)] }
def MathUpSaid : Prop := mathUpRow.holds Tryd.pinned (OpenSpec.ofChange mathUpSpec)

/-- ITS FALSE NEIGHBOUR: 'it returns false'. Refute it at one input. -/
def mathUpWrong : ChangeSpec := { name := "mathUp", fn := fun _ => fun
  | [d1, d2] => { results := [.lit (.bool false)], args := [d1, d2] }
  | _ => none }
def MathUpWrongFalsely : Prop := mathUpRow.holds Tryd.pinned (OpenSpec.ofChange mathUpWrong)

/- THE SECOND FORM. 'bulk': how many values and letters a reading holds, each counted each time it is reached (what is shared counts as often as it is met; a slice's spare places count too). A statement '..UptoSaid' is the law's where the arguments, and the package variables that the reading takes, are together of bulk at most 1048576: NARROWER than '..Said'. Prove '..Said' where nothing that the law and all that it calls make is longer than what came in: it says more and counts as full. Else prove '..UptoSaid'. A law counts once. -/
mutual
def uptoBulk {H : Type} : DataW H → Nat
  | .lit (.string bytes) => bytes.length + 1
  | .lit _ => 1
  | .nil => 1
  | .ptr d => uptoBulk d + 1
  | .slice elems spare => uptoBulkAll elems + uptoBulkAll spare + 1
  | .agg parts => uptoBulkAll parts + 1
  | .iface _ d => uptoBulk d + 1
  | .map entries => uptoBulkEntries entries + 1
  | .held _ => 1
def uptoBulkAll {H : Type} : List (DataW H) → Nat
  | [] => 0
  | d :: r => uptoBulk d + uptoBulkAll r
def uptoBulkEntries {H : Type} : List (Lit × DataW H) → Nat
  | [] => 0
  | x :: r => uptoBulkEntry x + uptoBulkEntries r
def uptoBulkEntry {H : Type} : Lit × DataW H → Nat
  | (.string bytes, d) => bytes.length + uptoBulk d + 1
  | (_, d) => uptoBulk d + 1
 end
def uptoSmall : (H : Type) → List (DataW H) → Bool := fun _ ds => decide (uptoBulkAll ds ≤ 1048576)
def OpenSpec.upto (s : _root_.Go.ChangeSpec) : _root_.Go.OpenSpec := { _root_.Go.OpenSpec.ofChange s with cond := some uptoSmall }

/-- 'pyxlaw08.MathPaths', WHERE WHAT IT READS IS OF BULK AT MOST 1048576: true; the input reads as it did. -/
def mathPathsUptoRow : OpenClaim := { program := "ythhoacanegbeaaadoor", sum := "3a9fc6c26713f37ab10afceab4ec041df5156019428217591c9f697a5cbc339f", func := "pyx/pyxlaw08.MathPaths", spec := "mathPaths", unfollowed := true, recurses := true, named := ["math/bits.deBruijn32tab", "math/bits.deBruijn64tab"], apart := false, laid := [("math/bits.deBruijn32tab", laid_math_bits_deBruijn32tab), ("math/bits.deBruijn64tab", laid_math_bits_deBruijn64tab)], narrowed := true }
def MathPathsUptoSaid : Prop := mathPathsUptoRow.holds Tryd.pinned (OpenSpec.upto mathPathsSpec)

/-- 'pyxlaw08.MathLeaves', WHERE WHAT IT READS IS OF BULK AT MOST 1048576: true; the input reads as it did. -/
def mathLeavesUptoRow : OpenClaim := { program := "ythhoacanegbeaaadoor", sum := "3a9fc6c26713f37ab10afceab4ec041df5156019428217591c9f697a5cbc339f", func := "pyx/pyxlaw08.MathLeaves", spec := "mathLeaves", unfollowed := true, recurses := true, named := ["math/bits.deBruijn32tab", "math/bits.deBruijn64tab"], apart := false, laid := [("math/bits.deBruijn32tab", laid_math_bits_deBruijn32tab), ("math/bits.deBruijn64tab", laid_math_bits_deBruijn64tab)], narrowed := true }
def MathLeavesUptoSaid : Prop := mathLeavesUptoRow.holds Tryd.pinned (OpenSpec.upto mathLeavesSpec)

/-- 'pyxlaw08.MathTwice', WHERE WHAT IT READS IS OF BULK AT MOST 1048576: true; the input reads as it did. -/
def mathTwiceUptoRow : OpenClaim := { program := "ythhoacanegbeaaadoor", sum := "3a9fc6c26713f37ab10afceab4ec041df5156019428217591c9f697a5cbc339f", func := "pyx/pyxlaw08.MathTwice", spec := "mathTwice", unfollowed := true, recurses := true, named := ["math/bits.deBruijn32tab", "math/bits.deBruijn64tab"], apart := false, laid := [("math/bits.deBruijn32tab", laid_math_bits_deBruijn32tab), ("math/bits.deBruijn64tab", laid_math_bits_deBruijn64tab)], narrowed := true }
def MathTwiceUptoSaid : Prop := mathTwiceUptoRow.holds Tryd.pinned (OpenSpec.upto mathTwiceSpec)

/-- 'pyxlaw08.MathWays', WHERE WHAT IT READS IS OF BULK AT MOST 1048576: true; the input reads as it did. -/
def mathWaysUptoRow : OpenClaim := { program := "ythhoacanegbeaaadoor", sum := "3a9fc6c26713f37ab10afceab4ec041df5156019428217591c9f697a5cbc339f", func := "pyx/pyxlaw08.MathWays", spec := "mathWays", unfollowed := true, recurses := true, named := ["math/bits.deBruijn32tab", "math/bits.deBruijn64tab"], apart := false, laid := [("math/bits.deBruijn32tab", laid_math_bits_deBruijn32tab), ("math/bits.deBruijn64tab", laid_math_bits_deBruijn64tab)], narrowed := true }
def MathWaysUptoSaid : Prop := mathWaysUptoRow.holds Tryd.pinned (OpenSpec.upto mathWaysSpec)

/-- 'pyxlaw08.MathMeets', WHERE WHAT IT READS IS OF BULK AT MOST 1048576: true; the input reads as it did. -/
def mathMeetsUptoRow : OpenClaim := { program := "ythhoacanegbeaaadoor", sum := "3a9fc6c26713f37ab10afceab4ec041df5156019428217591c9f697a5cbc339f", func := "pyx/pyxlaw08.MathMeets", spec := "mathMeets", unfollowed := true, recurses := true, named := ["math/bits.deBruijn32tab", "math/bits.deBruijn64tab"], apart := false, laid := [("math/bits.deBruijn32tab", laid_math_bits_deBruijn32tab), ("math/bits.deBruijn64tab", laid_math_bits_deBruijn64tab)], narrowed := true }
def MathMeetsUptoSaid : Prop := mathMeetsUptoRow.holds Tryd.pinned (OpenSpec.upto mathMeetsSpec)

/-- 'pyxlaw08.MathTells', WHERE WHAT IT READS IS OF BULK AT MOST 1048576: true; the input reads as it did. -/
def mathTellsUptoRow : OpenClaim := { program := "ythhoacanegbeaaadoor", sum := "3a9fc6c26713f37ab10afceab4ec041df5156019428217591c9f697a5cbc339f", func := "pyx/pyxlaw08.MathTells", spec := "mathTells", unfollowed := true, recurses := true, named := ["math/bits.deBruijn32tab", "math/bits.deBruijn64tab"], apart := false, laid := [("math/bits.deBruijn32tab", laid_math_bits_deBruijn32tab), ("math/bits.deBruijn64tab", laid_math_bits_deBruijn64tab)], narrowed := true }
def MathTellsUptoSaid : Prop := mathTellsUptoRow.holds Tryd.pinned (OpenSpec.upto mathTellsSpec)

/-- 'pyxlaw08.MathUp', WHERE WHAT IT READS IS OF BULK AT MOST 1048576: true; the input reads as it did. -/
def mathUpUptoRow : OpenClaim := { program := "ythhoacanegbeaaadoor", sum := "3a9fc6c26713f37ab10afceab4ec041df5156019428217591c9f697a5cbc339f", func := "pyx/pyxlaw08.MathUp", spec := "mathUp", unfollowed := true, recurses := true, named := ["math/bits.deBruijn32tab", "math/bits.deBruijn64tab"], apart := false, laid := [("math/bits.deBruijn32tab", laid_math_bits_deBruijn32tab), ("math/bits.deBruijn64tab", laid_math_bits_deBruijn64tab)], narrowed := true }
def MathUpUptoSaid : Prop := mathUpUptoRow.holds Tryd.pinned (OpenSpec.upto mathUpSpec)

end Rows
end Go.Proofs.YthhoacanegbeaaaDoor
