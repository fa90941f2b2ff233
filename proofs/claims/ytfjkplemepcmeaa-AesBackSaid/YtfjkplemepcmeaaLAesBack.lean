import Derived.Test.YtfjkplemepcmeaaRows
import Derived.Test.YtfjkplemepcmeaaD5
import Derived.Test.YtfjkplemepcmeaaG4
import Derived.ProofKit
import Derived.OpenShut
import Derived.Stop.Joined
set_option linter.unusedSimpArgs false
set_option linter.unusedSectionVars false
/- pyxlaw05.AesBack returns true at every input; no condition beyond the row. -/
set_option linter.unusedVariables false
namespace Go.Proofs.Aes.AesBack
open Go Go.Pv Go.Proofs Go.Proofs.Aes Go.ChangeShapes Go.WideShapes Go.ChangeAt Go.RowKit Go.Proofs.Ytfjkplemepcmeaa
theorem own : ownKnob Try.prog.godebug = none := by kernel_rfl
theorem cells5 : Try.prog.cellsOf 5 = 1 := by kernel_rfl
theorem u8_wf {a : Int} (h : (Lit.int .u8 a).wf = true) : 0 ≤ a ∧ a < 256 := by
  simp [Lit.wf, IntKind.min, IntKind.max, IntKind.signed, IntKind.bits] at h; omega
theorem to_g8 {G : Gh} {a : Int} (h : (Lit.int .u8 a).wf = true) : VR G (g8 (UInt8.ofNat a.toNat)) (.int .u8 a) := by
  have := u8_wf h
  unfold g8
  rw [UInt8.toNat_ofNat', Nat.mod_eq_of_lt (by omega), Int.toNat_of_nonneg (by omega)]
  exact .int .u8 a
def Zn (_ : Nat) (_ : Go.Obj) : Prop := False
theorem Zn_ok : ZC Zn := fun _ _ h => h.elim
theorem laidOut : laidOutB Try.prog = true := by kernel_rfl
set_option maxRecDepth 100000 in
theorem lifted (os : Os) (started : os.Started) (H : Type) (enc : TypeId × Value → H) :
    ReturnsInHanded {} Try.checked os 7 .any (Rows.aesBackSpec.pre6 enc Try.prog Try.f7 Rows.aesBackRow.domain false) (Rows.aesBackSpec.post enc Try.prog Try.f7 false true false false) := by
  refine returnsInHanded_of_change (C := Try.checked) own started (by kernel_rfl) Try.func7
    (ChangeSpec.witness6 (enc := enc) (C := Try.checked) false ⟨#[], #[.agg #[.slice none 0 0, .slice none 0 0, .slice none 0 0, .int .u16 0]], []⟩ 8 (by kernel_rfl) (by kernel_rfl) (by kernel_rfl) (by kernel_rfl)) ?_
  intro W base args ds gs before hval0 hW _ _
  have hval : ∀ (j : Nat) t v, Try.f7.params[j]? = some t → args[j]? = some v → Value.okWide Try.prog W .any base t v := hval0
  have hW' := hW
  obtain ⟨p, q, hA0, hV, rfl, hfz, hnd⟩ := hW
  have hA : DataW.TrodAll enc Try.prog W 0 (fun _ => true) true Try.f7.params.toList args.toList ds p := hA0
  rw [Try.params7] at hA hval
  obtain ⟨v0, vs0, d0, ds0, p0, q0, hargs, rfl, rfl, h0, r0⟩ := trodAll_cons hA
  obtain ⟨rfl, rfl, rfl⟩ := trodAll_nil r0
  obtain rfl : args = #[v0] := by cases args; simp_all
  obtain ⟨rfl, rfl⟩ := trodVars_none hV
  obtain ⟨a0, c0, w0, b0⟩ := (opnBack W).valA rfl (fun _ => rfl) (hval 0 44 v0 rfl rfl) h0
  clear hA0 hval0
  have hw := (back.out a0.1 a0.2.1 a0.2.2.1 a0.2.2.2.1 c0 ⟨Zn_ok⟩ [])
  refine (SE.lawA (rargs := #[v0]) hw (fun _ _ h => h.elim) (VRL.one w0)).mono fun e W' ⟨he, bel⟩ => ?_
  subst he
  exact ⟨_, rfl, _, _, _, [], _, [], hW', trodAll_mk1 (shut_bool Try.underlying4 _), (trodAll_cons_mk (Kept.trod laidOut (by kernel_rfl) (of_decide_eq_true (by kernel_rfl)) h0 bel b0) trodAll_mk0), rfl, bel.frame _, fun h => by cases h⟩
end Go.Proofs.Aes.AesBack
namespace Go.Proofs.Ytfjkplemepcmeaa
theorem aesBack_holds : Rows.AesBackSaid :=
  OpenClaim.holds_of_wide 7 Try.f7 rfl rfl rfl rfl rfl rfl rfl ⟨rfl, rfl, rfl, rfl, rfl⟩ rfl rfl rfl rfl rfl (by kernel_rfl) Try.func7 (by kernel_rfl)
    (of_decide_eq_true (by kernel_rfl)) (by unfold Func.isWrapper; first | (rw [if_pos (by decide +kernel)]; kernel_rfl) | (rw [if_neg (by decide +kernel)]; exact ⟨rfl, rfl⟩))
    (fun os started H enc _ => Go.Proofs.Aes.AesBack.lifted os started H enc)
-- axioms of aesBack_holds
end Go.Proofs.Ytfjkplemepcmeaa
