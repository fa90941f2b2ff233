/-
  No cell of these rows narrows 'for every input' (looked for: loops, veiled, ifaces, maps, wideKeys, modest, calm, conditions, laid).
  DERIVED. THE GIVEN ROWS OF THIS SEAT. 6 by the template 'for every input the law returns true; each argument reads behind the call as it read before'; 0 by the template 'total and deterministic' (their statements: YtfjkplemepcmeaaTotals.lean).
  GIVEN WITH THE SEED: the statements are not yours to turn. If you find one false, say at which input.
  Laid BY PROGRAM, IN A SANDBOX (cutbox-rows.mjs): the forced cells as the released guide's own fill.sh prints them over the translation 89ca86cb51006313… (all of the seat's roots in one cut). By AI agents, Wed Nov 11 2026. No macro, syntax, notation, axiom, sorry.
-/
import Derived.Test.YtfjkplemepcmeaaChecked
import GoSem.Claim
import GoSem.ClaimJoined
import GoSem.ClaimMapViews
import Derived.JoinedTies
import Derived.KernelRfl
namespace Go.Proofs.Ytfjkplemepcmeaa
/- THE CELL 'sum', in the pinned program and in every row, IS THE sha256 OF THE DUMP (.gsa) THAT YtfjkplemepcmeaaProg.lean LOADS. Nothing in Lean hashes anything: it is a label: what it is worth is what the hold of that sum in a sandbox is worth. -/
noncomputable def Try.pinned : Pinned := { name := "ytfjkplemepcmeaa", sum := "89ca86cb5100631348d3594e4a81588668629dbe3204911dcf6528e57beca3e7", checked := Try.checked }
namespace Rows
def none {H : Type} : Left H := { results := [], args := [] }

/-- 'pyxlaw05.AesParts': WHATEVER THE INPUT: true; the input reads as it did. -/
def aesPartsSpec : ChangeSpec := { name := "aesParts", fn := fun _ => fun
  | [d1, d2, d3] => { results := [.lit (.bool true)], args := [d1, d2, d3] }
  | _ => none }
def aesPartsRow : OpenClaim := { program := "ytfjkplemepcmeaa", sum := "89ca86cb5100631348d3594e4a81588668629dbe3204911dcf6528e57beca3e7", func := "pyx/pyxlaw05.AesParts", spec := "aesParts", unfollowed := true, recurses := true, apart := false }
def AesPartsSaid : Prop := aesPartsRow.holds Try.pinned (OpenSpec.ofChange aesPartsSpec)

/-- ITS FALSE NEIGHBOUR: 'it returns false'. Refute it at one input. -/
def aesPartsWrong : ChangeSpec := { name := "aesParts", fn := fun _ => fun
  | [d1, d2, d3] => { results := [.lit (.bool false)], args := [d1, d2, d3] }
  | _ => none }
def AesPartsWrongFalsely : Prop := aesPartsRow.holds Try.pinned (OpenSpec.ofChange aesPartsWrong)

/-- 'pyxlaw05.AesBlocks': WHATEVER THE INPUT: true; the input reads as it did. -/
def aesBlocksSpec : ChangeSpec := { name := "aesBlocks", fn := fun _ => fun
  | [d1, d2] => { results := [.lit (.bool true)], args := [d1, d2] }
  | _ => none }
def aesBlocksRow : OpenClaim := { program := "ytfjkplemepcmeaa", sum := "89ca86cb5100631348d3594e4a81588668629dbe3204911dcf6528e57beca3e7", func := "pyx/pyxlaw05.AesBlocks", spec := "aesBlocks", unfollowed := true, recurses := true, apart := false }
def AesBlocksSaid : Prop := aesBlocksRow.holds Try.pinned (OpenSpec.ofChange aesBlocksSpec)

/-- ITS FALSE NEIGHBOUR: 'it returns false'. Refute it at one input. -/
def aesBlocksWrong : ChangeSpec := { name := "aesBlocks", fn := fun _ => fun
  | [d1, d2] => { results := [.lit (.bool false)], args := [d1, d2] }
  | _ => none }
def AesBlocksWrongFalsely : Prop := aesBlocksRow.holds Try.pinned (OpenSpec.ofChange aesBlocksWrong)

/-- 'pyxlaw05.AesStreams': WHATEVER THE INPUT: true; the input reads as it did. -/
def aesStreamsSpec : ChangeSpec := { name := "aesStreams", fn := fun _ => fun
  | [d1, d2, d3] => { results := [.lit (.bool true)], args := [d1, d2, d3] }
  | _ => none }
def aesStreamsRow : OpenClaim := { program := "ytfjkplemepcmeaa", sum := "89ca86cb5100631348d3594e4a81588668629dbe3204911dcf6528e57beca3e7", func := "pyx/pyxlaw05.AesStreams", spec := "aesStreams", unfollowed := true, recurses := true, apart := false }
def AesStreamsSaid : Prop := aesStreamsRow.holds Try.pinned (OpenSpec.ofChange aesStreamsSpec)

/-- ITS FALSE NEIGHBOUR: 'it returns false'. Refute it at one input. -/
def aesStreamsWrong : ChangeSpec := { name := "aesStreams", fn := fun _ => fun
  | [d1, d2, d3] => { results := [.lit (.bool false)], args := [d1, d2, d3] }
  | _ => none }
def AesStreamsWrongFalsely : Prop := aesStreamsRow.holds Try.pinned (OpenSpec.ofChange aesStreamsWrong)

/-- 'pyxlaw05.AesMuls': WHATEVER THE INPUT: true; the input reads as it did. -/
def aesMulsSpec : ChangeSpec := { name := "aesMuls", fn := fun _ => fun
  | [d1, d2, d3] => { results := [.lit (.bool true)], args := [d1, d2, d3] }
  | _ => none }
def aesMulsRow : OpenClaim := { program := "ytfjkplemepcmeaa", sum := "89ca86cb5100631348d3594e4a81588668629dbe3204911dcf6528e57beca3e7", func := "pyx/pyxlaw05.AesMuls", spec := "aesMuls", unfollowed := true, recurses := true, apart := false }
def AesMulsSaid : Prop := aesMulsRow.holds Try.pinned (OpenSpec.ofChange aesMulsSpec)

/-- ITS FALSE NEIGHBOUR: 'it returns false'. Refute it at one input. -/
def aesMulsWrong : ChangeSpec := { name := "aesMuls", fn := fun _ => fun
  | [d1, d2, d3] => { results := [.lit (.bool false)], args := [d1, d2, d3] }
  | _ => none }
def AesMulsWrongFalsely : Prop := aesMulsRow.holds Try.pinned (OpenSpec.ofChange aesMulsWrong)

/-- 'pyxlaw05.AesBack': WHATEVER THE INPUT: true; the input reads as it did. -/
def aesBackSpec : ChangeSpec := { name := "aesBack", fn := fun _ => fun
  | [d] => { results := [.lit (.bool true)], args := [d] }
  | _ => none }
def aesBackRow : OpenClaim := { program := "ytfjkplemepcmeaa", sum := "89ca86cb5100631348d3594e4a81588668629dbe3204911dcf6528e57beca3e7", func := "pyx/pyxlaw05.AesBack", spec := "aesBack", unfollowed := true, recurses := true, apart := false }
def AesBackSaid : Prop := aesBackRow.holds Try.pinned (OpenSpec.ofChange aesBackSpec)

/-- ITS FALSE NEIGHBOUR: 'it returns false'. Refute it at one input. -/
def aesBackWrong : ChangeSpec := { name := "aesBack", fn := fun _ => fun
  | [d] => { results := [.lit (.bool false)], args := [d] }
  | _ => none }
def AesBackWrongFalsely : Prop := aesBackRow.holds Try.pinned (OpenSpec.ofChange aesBackWrong)

/-- 'pyxlaw05.AesApart': WHATEVER THE INPUT: true; the input reads as it did. -/
def aesApartSpec : ChangeSpec := { name := "aesApart", fn := fun _ => fun
  | [d1, d2, d3] => { results := [.lit (.bool true)], args := [d1, d2, d3] }
  | _ => none }
def aesApartRow : OpenClaim := { program := "ytfjkplemepcmeaa", sum := "89ca86cb5100631348d3594e4a81588668629dbe3204911dcf6528e57beca3e7", func := "pyx/pyxlaw05.AesApart", spec := "aesApart", unfollowed := true, recurses := true, apart := false }
def AesApartSaid : Prop := aesApartRow.holds Try.pinned (OpenSpec.ofChange aesApartSpec)

/-- ITS FALSE NEIGHBOUR: 'it returns false'. Refute it at one input. -/
def aesApartWrong : ChangeSpec := { name := "aesApart", fn := fun _ => fun
  | [d1, d2, d3] => { results := [.lit (.bool false)], args := [d1, d2, d3] }
  | _ => none }
def AesApartWrongFalsely : Prop := aesApartRow.holds Try.pinned (OpenSpec.ofChange aesApartWrong)

/- THE SECOND FORM. 'bulk': how many values and letters a reading holds, each counted each time it is reached (what is shared counts as often as it is met; a slice's spare places count too). A statement '..UptoSaid' is the law's where the arguments, and the package variables that the reading takes, are together of bulk at most 1048576: NARROWER than '..Said'. Prove '..Said' where nothing that the law and all that it calls make is longer than what came in: it says more and counts as full. Else prove '..UptoSaid'. A law counts once. -/
mutual
def uptoBulk {H : Type} : DataW H → Nat
  | .lit (.string bytes) => bytes.length + 1
  | .lit _ => 1
  | .nil => 1
  | .ptr d => uptoBulk d + 1
  | .slice elems spare => uptoBulkAll elems + uptoBulkAll spare + 1
  | .agg parts => uptoBulkAll parts + 1
  | .iface _ d => uptoBulk d + 1
  | .map entries => uptoBulkEntries entries + 1
  | .held _ => 1
def uptoBulkAll {H : Type} : List (DataW H) → Nat
  | [] => 0
  | d :: r => uptoBulk d + uptoBulkAll r
def uptoBulkEntries {H : Type} : List (Lit × DataW H) → Nat
  | [] => 0
  | x :: r => uptoBulkEntry x + uptoBulkEntries r
def uptoBulkEntry {H : Type} : Lit × DataW H → Nat
  | (.string bytes, d) => bytes.length + uptoBulk d + 1
  | (_, d) => uptoBulk d + 1
 end
def uptoSmall : (H : Type) → List (DataW H) → Bool := fun _ ds => decide (uptoBulkAll ds ≤ 1048576)
def OpenSpec.upto (s : _root_.Go.ChangeSpec) : _root_.Go.OpenSpec := { _root_.Go.OpenSpec.ofChange s with cond := some uptoSmall }

/-- 'pyxlaw05.AesParts', WHERE WHAT IT READS IS OF BULK AT MOST 1048576: true; the input reads as it did. -/
def aesPartsUptoRow : OpenClaim := { program := "ytfjkplemepcmeaa", sum := "89ca86cb5100631348d3594e4a81588668629dbe3204911dcf6528e57beca3e7", func := "pyx/pyxlaw05.AesParts", spec := "aesParts", unfollowed := true, recurses := true, apart := false, narrowed := true }
def AesPartsUptoSaid : Prop := aesPartsUptoRow.holds Try.pinned (OpenSpec.upto aesPartsSpec)

/-- 'pyxlaw05.AesBlocks', WHERE WHAT IT READS IS OF BULK AT MOST 1048576: true; the input reads as it did. -/
def aesBlocksUptoRow : OpenClaim := { program := "ytfjkplemepcmeaa", sum := "89ca86cb5100631348d3594e4a81588668629dbe3204911dcf6528e57beca3e7", func := "pyx/pyxlaw05.AesBlocks", spec := "aesBlocks", unfollowed := true, recurses := true, apart := false, narrowed := true }
def AesBlocksUptoSaid : Prop := aesBlocksUptoRow.holds Try.pinned (OpenSpec.upto aesBlocksSpec)

/-- 'pyxlaw05.AesStreams', WHERE WHAT IT READS IS OF BULK AT MOST 1048576: true; the input reads as it did. -/
def aesStreamsUptoRow : OpenClaim := { program := "ytfjkplemepcmeaa", sum := "89ca86cb5100631348d3594e4a81588668629dbe3204911dcf6528e57beca3e7", func := "pyx/pyxlaw05.AesStreams", spec := "aesStreams", unfollowed := true, recurses := true, apart := false, narrowed := true }
def AesStreamsUptoSaid : Prop := aesStreamsUptoRow.holds Try.pinned (OpenSpec.upto aesStreamsSpec)

/-- 'pyxlaw05.AesMuls', WHERE WHAT IT READS IS OF BULK AT MOST 1048576: true; the input reads as it did. -/
def aesMulsUptoRow : OpenClaim := { program := "ytfjkplemepcmeaa", sum := "89ca86cb5100631348d3594e4a81588668629dbe3204911dcf6528e57beca3e7", func := "pyx/pyxlaw05.AesMuls", spec := "aesMuls", unfollowed := true, recurses := true, apart := false, narrowed := true }
def AesMulsUptoSaid : Prop := aesMulsUptoRow.holds Try.pinned (OpenSpec.upto aesMulsSpec)

/-- 'pyxlaw05.AesBack', WHERE WHAT IT READS IS OF BULK AT MOST 1048576: true; the input reads as it did. -/
def aesBackUptoRow : OpenClaim := { program := "ytfjkplemepcmeaa", sum := "89ca86cb5100631348d3594e4a81588668629dbe3204911dcf6528e57beca3e7", func := "pyx/pyxlaw05.AesBack", spec := "aesBack", unfollowed := true, recurses := true, apart := false, narrowed := true }
def AesBackUptoSaid : Prop := aesBackUptoRow.holds Try.pinned (OpenSpec.upto aesBackSpec)

/-- 'pyxlaw05.AesApart', WHERE WHAT IT READS IS OF BULK AT MOST 1048576: true; the input reads as it did. -/
def aesApartUptoRow : OpenClaim := { program := "ytfjkplemepcmeaa", sum := "89ca86cb5100631348d3594e4a81588668629dbe3204911dcf6528e57beca3e7", func := "pyx/pyxlaw05.AesApart", spec := "aesApart", unfollowed := true, recurses := true, apart := false, narrowed := true }
def AesApartUptoSaid : Prop := aesApartUptoRow.holds Try.pinned (OpenSpec.upto aesApartSpec)

end Rows
end Go.Proofs.Ytfjkplemepcmeaa
