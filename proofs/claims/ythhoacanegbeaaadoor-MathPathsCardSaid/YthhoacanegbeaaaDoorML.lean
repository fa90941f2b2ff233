import Derived.Test.YthhoacanegbeaaaDoorTie
import Derived.Test.YthhoacanegbeaaaDoorCards
import Derived.Test.YthhoacanegbeaaaDoorPv24
import Derived.Test.YthhoacanegbeaaaDoorM5
import Derived.ProofKit
import Derived.LaidMore
import Derived.OpenShut
import Derived.Stop.Joined
set_option linter.unusedSimpArgs false
set_option linter.unusedVariables false
namespace Go.Proofs.Mth
open Go Go.Pv Go.Proofs Go.ChangeShapes Go.WideShapes Go.ChangeAt Go.RowKit Go.Proofs.YthhoacanegbeaaaDoor
theorem own : ownKnob Tryd.prog.godebug = none := by kernel_rfl
def theLaid : List (String × DataW Unit) := [("math/bits.deBruijn32tab", Rows.laid_math_bits_deBruijn32tab), ("math/bits.deBruijn64tab", Rows.laid_math_bits_deBruijn64tab)]
theorem g0 : Tryd.prog.globalNamed "math/bits.deBruijn32tab" = some 0 := by kernel_rfl
theorem g1 : Tryd.prog.globalNamed "math/bits.deBruijn64tab" = some 1 := by kernel_rfl
theorem u1 : ((Tryd.prog.globals[1]?).map (·.type)).bind Tryd.prog.underlying = some (.array 64 5) := by kernel_rfl
theorem door_met (os : Os) (args : Array Value) : laidMetH Tryd.prog theLaid ((World.doorLaid Tryd.prog 400 os).forCall (fun _ _ => 0) ⟨#[], args, []⟩).memory :=
  laidMetH_of_parts3 (fuel := 8) (laidMet_of_run' 8 (by kernel_rfl) (by kernel_rfl)) (by kernel_rfl) (by kernel_rfl)
def items : DataW Unit → List (DataW Unit)
  | .agg l => l
  | _ => []
def isU8 : Option (DataW Unit) → Nat → Bool
  | some (.lit (.int .u8 n)), m => n == (m : Int)
  | _, _ => false
theorem of_laid {W : World} (h : laidMetH Tryd.prog theLaid W) : TabAt 1 Lib.deBruijn64tab W := by
  rw [MakeChecks.laidMetH_plain _ _ _ (by kernel_rfl)] at h
  obtain ⟨ps, ⟨g0', t0, cs0, f0, p0, q0, hg0, ht0, hv0, hd0, ⟨g1', t1', cs1, f1, p1, q1, hg1, ht1, hv1, hd1, _, _⟩, _⟩, _, _⟩ := h
  obtain rfl := Option.some.inj (g1.symm.trans hg1)
  have u1' : Tryd.prog.underlying t1' = some (.array 64 5) := by
    have := u1
    rwa [ht1] at this
  obtain ⟨xs, m1, rfl, hx1, hlen, hn3, hel⟩ := DataW.trod_array u1' hd1
  have c5 : Tryd.prog.cellsOf 5 = 1 := by kernel_rfl
  have hall : ∀ i (hi : i < 64), ∃ k : Int, cs1.toList[i]? = some (.int .u8 k) ∧ (xs[i]'(by omega)).1 = .lit (.int .u8 k) := by
    intro i hi
    have h0 := hel i hi
    rw [c5, Nat.mul_one, List.getElem?_eq_getElem (by omega)] at h0
    obtain ⟨k, e1, e2, _⟩ := DataW.trod_int (k := .u8) (by kernel_rfl) h0
    refine ⟨k, ?_, by rw [e2]⟩
    have : ((cs1.toList.drop i).take 1)[0]? = some (.int .u8 k) := by rw [e1]; rfl
    simpa using this
  intro j hj
  have hj' : j < 64 := hj
  obtain ⟨k, h1, h2⟩ := hall j hj'
  have h3 := World.var?_cell hg1 hv1 j
  have h4 : cs1[j]? = some (.int .u8 k) := by rw [← Array.getElem?_toList]; exact h1
  rw [h4] at h3
  rw [h3]
  have hx2 : (xs.map (·.1))[j]? = some (.lit (.int .u8 k)) := by rw [List.getElem?_map, List.getElem?_eq_getElem (by omega), Option.map_some, h2]
  have hx3 : DataW.agg (xs.map (·.1)) = (Rows.laid_math_bits_deBruijn64tab : DataW Unit) := by
    have := congrArg Prod.fst hx1
    simpa using this.symm
  have key : ∀ i, i < 64 → ∀ k : Int, xs.map (·.1) = items Rows.laid_math_bits_deBruijn64tab := by
    intro i hi k; rw [← hx3]; rfl
  have hx4 := key 0 (by decide) 0
  rw [hx4] at hx2
  have tab : ((List.range 64).all fun i => isU8 (items Rows.laid_math_bits_deBruijn64tab)[i]? (Lib.deBruijn64tab.getD i 0)) = true := by kernel_rfl
  have := all_lt tab j hj'
  rw [hx2] at this
  rw [eq_of_beq (show (k == ((Lib.deBruijn64tab.getD j 0 : Nat) : Int)) = true from this)]
/-- The blocks that nobody turns: the table. -/
def Zl (W : World) (B : Nat) (o : Go.Obj) : Prop := B = 1 ∧ W.heap[B]? = some o
theorem Zl_ok {W : World} (h : TabAt 1 Lib.deBruijn64tab W) : ZT (Zl W) where
  z := by
    rintro B o ⟨rfl, ho⟩
    have := h 0 (by decide)
    unfold World.cell? at this
    rw [ho] at this
    cases o <;> first | exact ⟨_, _, _, rfl⟩ | (simp at this)
  t := by
    intro G L w hr j hj
    have hc := h j hj
    cases hh : W.heap[1]? with
    | none => simp [World.cell?, hh] at hc
    | some o =>
      have := hr.zc 1 o ⟨rfl, hh⟩
      rw [World.cell_congr (w := W) (by rw [this, hh])]
      exact hc
theorem u16_wf {a : Int} (h : (Lit.int .u16 a).wf = true) : 0 ≤ a ∧ a < 65536 := by
  simp [Lit.wf, IntKind.min, IntKind.max, IntKind.signed, IntKind.bits] at h; omega
theorem u8_wf {a : Int} (h : (Lit.int .u8 a).wf = true) : 0 ≤ a ∧ a < 256 := by
  simp [Lit.wf, IntKind.min, IntKind.max, IntKind.signed, IntKind.bits] at h; omega
theorem i64_wf {a : Int} (h : (Lit.int .i64 a).wf = true) : -9223372036854775808 ≤ a ∧ a ≤ 9223372036854775807 := by
  simp [Lit.wf, IntKind.min, IntKind.max, IntKind.signed, IntKind.bits] at h; omega
theorem hasBlock {W : World} : ∀ B o, Zl W B o → W.heap[B]? = some o := fun _ _ h => h.2
end Go.Proofs.Mth
