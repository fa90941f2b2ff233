import Derived.Test.YtfjkplemepcmeaaG16
import Derived.Test.YtfjkplemepcmeaaRows
import Derived.ProofKit
import Derived.OpenShut
set_option linter.unusedSimpArgs false
set_option linter.unusedSectionVars false
/- Aes: AesBack's struct of arguments, as it comes in. -/
set_option maxRecDepth 100000
set_option linter.unusedVariables false
namespace Go.Proofs.Aes
open Go Go.Pv Go.Proofs
theorem u16_wf {a : Int} (h : (Lit.int .u16 a).wf = true) : 0 ≤ a ∧ a < 65536 := by
  simp [Lit.wf, IntKind.min, IntKind.max, IntKind.signed, IntKind.bits] at h; omega
theorem opnB (W : World) : Opn Try.prog W 22 gB (fun _ => True) := Opn.bytes (e := 5) (by kernel_rfl) (by kernel_rfl) (by kernel_rfl)
theorem opnH (W : World) : Opn Try.prog W 42 (V.int .u16) (fun n => 0 ≤ n ∧ n < 65536) := Opn.map (Opn.int (by kernel_rfl)) id (fun _ _ => rfl) (fun _ h => u16_wf h)
def gBack (p : List UInt8 × List UInt8 × List UInt8 × Int × Unit) : V := .agg [gB p.1, gB p.2.1, gB p.2.2.1, .int .u16 p.2.2.2.1]
theorem opnBack (W : World) : Opn Try.prog W 44 gBack (fun p => 0 ≤ p.2.2.2.1 ∧ p.2.2.2.1 < 65536) :=
  Opn.map (Opn.struct rfl (OpnL.cons rfl rfl (opnB W) (fun _ => rfl) (OpnL.cons rfl rfl (opnB W) (fun _ => rfl) (OpnL.cons rfl rfl (opnB W) (fun _ => rfl) (OpnL.cons rfl rfl (opnH W) (fun _ => rfl) OpnL.nil)))) (fun _ => rfl))
    id (fun _ _ => rfl) (fun _ h => h.2.2.2.1)
end Go.Proofs.Aes
