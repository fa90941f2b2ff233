import Derived.Test.YtfjkplemepcmeaaG2
import Derived.Test.YtfjkplemepcmeaaG8
set_option linter.unusedVariables false
set_option linter.unusedSimpArgs false
set_option linter.unusedSectionVars false
section
set_option linter.unusedVariables false
set_option linter.unusedSimpArgs false
set_option maxHeartbeats 4000000
set_option maxRecDepth 100000
namespace Go.Proofs.Aes
open Go Go.Pv Go.Proofs
variable {Z : Nat → Go.Obj → Prop}

theorem rot1 (H : ZC Z) (x : UInt8) (L : List Go.Pv.Obj) : SE Try.prog Z 29 [g8 x, .int .i64 1] L (g8 (rotU x 1)) L := by
  refine SE.data H Try.func29 rfl ?_
  repeat' first
    | (show XO _ _ _ (Oper.mk (some _) (Op.move _) _ _ _ none :: _) _ _ _; refine X.mv ?_)
    | (show XO _ _ _ (Oper.mk (some _) (Op.assign _) _ _ _ none :: _) _ _ _; refine X.as ?_)
    | (show XO _ _ _ (Oper.mk (some _) (Op.binOp BinOp.sub _ _ _ _) _ _ _ none :: _) _ _ _; refine X.go rfl ?_)
    | (show XO _ _ _ (Oper.mk (some _) (Op.convert _ _ _) _ _ _ none :: _) _ _ _; refine X.go rfl ?_)
    | (show XO _ _ _ (Oper.mk (some _) (_) _ _ _ none :: _) _ _ _; refine X.go rfl ?_)
    | (show XO _ _ _ [] _ _ _; refine X.nil ?_)
    | (show CW _ _ _ _ (Code.seq (Code.region _ _ false) _) _ _ _; refine W.rq ?_)
    | (show CW _ _ _ _ _ _ _ _; refine W.kr ?_)
    | refine K.nx ?_
  refine end_data rfl rfl (vI ?_)
  revert x
  refine all_u8' ?_
  kernel_rfl
theorem refLeft1 (H : ZC Z) (x : UInt8) (L : List Go.Pv.Obj) : SE Try.prog Z 37 [g8 x, .int .u8 1] L (g8 (rotU x 1)) L := by
  refine SE.data H Try.func37 rfl ?_
  repeat' first
    | (show XO _ _ _ (Oper.mk (some _) (Op.move _) _ _ _ none :: _) _ _ _; refine X.mv ?_)
    | (show XO _ _ _ (Oper.mk (some _) (Op.assign _) _ _ _ none :: _) _ _ _; refine X.as ?_)
    | (show XO _ _ _ (Oper.mk (some _) (Op.binOp BinOp.sub _ _ _ _) _ _ _ none :: _) _ _ _; refine X.go rfl ?_)
    | (show XO _ _ _ (Oper.mk (some _) (_) _ _ _ none :: _) _ _ _; refine X.go rfl ?_)
    | (show XO _ _ _ [] _ _ _; refine X.nil ?_)
    | (show CW _ _ _ _ (Code.seq (Code.region _ _ false) _) _ _ _; refine W.rq ?_)
    | (show CW _ _ _ _ _ _ _ _; refine W.kr ?_)
    | refine K.nx ?_
  refine end_data rfl rfl (vI ?_)
  revert x
  refine all_u8' ?_
  kernel_rfl

theorem rot2 (H : ZC Z) (x : UInt8) (L : List Go.Pv.Obj) : SE Try.prog Z 29 [g8 x, .int .i64 2] L (g8 (rotU x 2)) L := by
  refine SE.data H Try.func29 rfl ?_
  repeat' first
    | (show XO _ _ _ (Oper.mk (some _) (Op.move _) _ _ _ none :: _) _ _ _; refine X.mv ?_)
    | (show XO _ _ _ (Oper.mk (some _) (Op.assign _) _ _ _ none :: _) _ _ _; refine X.as ?_)
    | (show XO _ _ _ (Oper.mk (some _) (Op.binOp BinOp.sub _ _ _ _) _ _ _ none :: _) _ _ _; refine X.go rfl ?_)
    | (show XO _ _ _ (Oper.mk (some _) (Op.convert _ _ _) _ _ _ none :: _) _ _ _; refine X.go rfl ?_)
    | (show XO _ _ _ (Oper.mk (some _) (_) _ _ _ none :: _) _ _ _; refine X.go rfl ?_)
    | (show XO _ _ _ [] _ _ _; refine X.nil ?_)
    | (show CW _ _ _ _ (Code.seq (Code.region _ _ false) _) _ _ _; refine W.rq ?_)
    | (show CW _ _ _ _ _ _ _ _; refine W.kr ?_)
    | refine K.nx ?_
  refine end_data rfl rfl (vI ?_)
  revert x
  refine all_u8' ?_
  kernel_rfl
theorem refLeft2 (H : ZC Z) (x : UInt8) (L : List Go.Pv.Obj) : SE Try.prog Z 37 [g8 x, .int .u8 2] L (g8 (rotU x 2)) L := by
  refine SE.data H Try.func37 rfl ?_
  repeat' first
    | (show XO _ _ _ (Oper.mk (some _) (Op.move _) _ _ _ none :: _) _ _ _; refine X.mv ?_)
    | (show XO _ _ _ (Oper.mk (some _) (Op.assign _) _ _ _ none :: _) _ _ _; refine X.as ?_)
    | (show XO _ _ _ (Oper.mk (some _) (Op.binOp BinOp.sub _ _ _ _) _ _ _ none :: _) _ _ _; refine X.go rfl ?_)
    | (show XO _ _ _ (Oper.mk (some _) (_) _ _ _ none :: _) _ _ _; refine X.go rfl ?_)
    | (show XO _ _ _ [] _ _ _; refine X.nil ?_)
    | (show CW _ _ _ _ (Code.seq (Code.region _ _ false) _) _ _ _; refine W.rq ?_)
    | (show CW _ _ _ _ _ _ _ _; refine W.kr ?_)
    | refine K.nx ?_
  refine end_data rfl rfl (vI ?_)
  revert x
  refine all_u8' ?_
  kernel_rfl

theorem rot3 (H : ZC Z) (x : UInt8) (L : List Go.Pv.Obj) : SE Try.prog Z 29 [g8 x, .int .i64 3] L (g8 (rotU x 3)) L := by
  refine SE.data H Try.func29 rfl ?_
  repeat' first
    | (show XO _ _ _ (Oper.mk (some _) (Op.move _) _ _ _ none :: _) _ _ _; refine X.mv ?_)
    | (show XO _ _ _ (Oper.mk (some _) (Op.assign _) _ _ _ none :: _) _ _ _; refine X.as ?_)
    | (show XO _ _ _ (Oper.mk (some _) (Op.binOp BinOp.sub _ _ _ _) _ _ _ none :: _) _ _ _; refine X.go rfl ?_)
    | (show XO _ _ _ (Oper.mk (some _) (Op.convert _ _ _) _ _ _ none :: _) _ _ _; refine X.go rfl ?_)
    | (show XO _ _ _ (Oper.mk (some _) (_) _ _ _ none :: _) _ _ _; refine X.go rfl ?_)
    | (show XO _ _ _ [] _ _ _; refine X.nil ?_)
    | (show CW _ _ _ _ (Code.seq (Code.region _ _ false) _) _ _ _; refine W.rq ?_)
    | (show CW _ _ _ _ _ _ _ _; refine W.kr ?_)
    | refine K.nx ?_
  refine end_data rfl rfl (vI ?_)
  revert x
  refine all_u8' ?_
  kernel_rfl
theorem refLeft3 (H : ZC Z) (x : UInt8) (L : List Go.Pv.Obj) : SE Try.prog Z 37 [g8 x, .int .u8 3] L (g8 (rotU x 3)) L := by
  refine SE.data H Try.func37 rfl ?_
  repeat' first
    | (show XO _ _ _ (Oper.mk (some _) (Op.move _) _ _ _ none :: _) _ _ _; refine X.mv ?_)
    | (show XO _ _ _ (Oper.mk (some _) (Op.assign _) _ _ _ none :: _) _ _ _; refine X.as ?_)
    | (show XO _ _ _ (Oper.mk (some _) (Op.binOp BinOp.sub _ _ _ _) _ _ _ none :: _) _ _ _; refine X.go rfl ?_)
    | (show XO _ _ _ (Oper.mk (some _) (_) _ _ _ none :: _) _ _ _; refine X.go rfl ?_)
    | (show XO _ _ _ [] _ _ _; refine X.nil ?_)
    | (show CW _ _ _ _ (Code.seq (Code.region _ _ false) _) _ _ _; refine W.rq ?_)
    | (show CW _ _ _ _ _ _ _ _; refine W.kr ?_)
    | refine K.nx ?_
  refine end_data rfl rfl (vI ?_)
  revert x
  refine all_u8' ?_
  kernel_rfl

theorem rot4 (H : ZC Z) (x : UInt8) (L : List Go.Pv.Obj) : SE Try.prog Z 29 [g8 x, .int .i64 4] L (g8 (rotU x 4)) L := by
  refine SE.data H Try.func29 rfl ?_
  repeat' first
    | (show XO _ _ _ (Oper.mk (some _) (Op.move _) _ _ _ none :: _) _ _ _; refine X.mv ?_)
    | (show XO _ _ _ (Oper.mk (some _) (Op.assign _) _ _ _ none :: _) _ _ _; refine X.as ?_)
    | (show XO _ _ _ (Oper.mk (some _) (Op.binOp BinOp.sub _ _ _ _) _ _ _ none :: _) _ _ _; refine X.go rfl ?_)
    | (show XO _ _ _ (Oper.mk (some _) (Op.convert _ _ _) _ _ _ none :: _) _ _ _; refine X.go rfl ?_)
    | (show XO _ _ _ (Oper.mk (some _) (_) _ _ _ none :: _) _ _ _; refine X.go rfl ?_)
    | (show XO _ _ _ [] _ _ _; refine X.nil ?_)
    | (show CW _ _ _ _ (Code.seq (Code.region _ _ false) _) _ _ _; refine W.rq ?_)
    | (show CW _ _ _ _ _ _ _ _; refine W.kr ?_)
    | refine K.nx ?_
  refine end_data rfl rfl (vI ?_)
  revert x
  refine all_u8' ?_
  kernel_rfl
theorem refLeft4 (H : ZC Z) (x : UInt8) (L : List Go.Pv.Obj) : SE Try.prog Z 37 [g8 x, .int .u8 4] L (g8 (rotU x 4)) L := by
  refine SE.data H Try.func37 rfl ?_
  repeat' first
    | (show XO _ _ _ (Oper.mk (some _) (Op.move _) _ _ _ none :: _) _ _ _; refine X.mv ?_)
    | (show XO _ _ _ (Oper.mk (some _) (Op.assign _) _ _ _ none :: _) _ _ _; refine X.as ?_)
    | (show XO _ _ _ (Oper.mk (some _) (Op.binOp BinOp.sub _ _ _ _) _ _ _ none :: _) _ _ _; refine X.go rfl ?_)
    | (show XO _ _ _ (Oper.mk (some _) (_) _ _ _ none :: _) _ _ _; refine X.go rfl ?_)
    | (show XO _ _ _ [] _ _ _; refine X.nil ?_)
    | (show CW _ _ _ _ (Code.seq (Code.region _ _ false) _) _ _ _; refine W.rq ?_)
    | (show CW _ _ _ _ _ _ _ _; refine W.kr ?_)
    | refine K.nx ?_
  refine end_data rfl rfl (vI ?_)
  revert x
  refine all_u8' ?_
  kernel_rfl

theorem box (H : ZC Z) (x : UInt8) (L : List Go.Pv.Obj) : SE Try.prog Z 15 [g8 x] L (g8 (boxU x)) L := by
  have hinv := inverse H x
  refine SE.data H Try.func15 rfl ?_
  unfold boxU
  generalize invU x = y at *
  repeat' first
    | (show XO _ _ _ (Oper.mk _ _ _ _ _ none :: _) _ _ _; refine X.xor8 (b := 99) rfl rfl ?_)
    | (show XO _ _ _ (Oper.mk (some _) (Op.move _) _ _ _ none :: _) _ _ _; refine X.mv ?_)
    | (show XO _ _ _ (Oper.mk (some _) (Op.assign _) _ _ _ none :: _) _ _ _; refine X.as ?_)
    | (show XO _ _ _ (Oper.mk (some _) (Op.call _) _ _ _ none :: _) _ _ _; refine X.call (hinv _) ?_)
    | (show XO _ _ _ [] _ _ _; refine X.nil ?_)
    | (show CW _ _ _ _ (Code.seq (Code.region _ _ false) _) _ _ _; refine W.rq ?_)
    | (show CW _ _ _ _ _ _ _ _; first | refine W.bl ?_ | refine W.sq ?_)
    | refine K.nx ?_
  refine W.lq (fun mz st => ∃ (i : Nat) (o : UInt8), st.env 3 = g8 y ∧ st.env 4 = g8 o ∧ st.env 10 = .int .i64 i ∧ st.L = L ∧ (i ≤ 4 ∧ [y ^^^ 99, y ^^^ 99 ^^^ rotU y 1, y ^^^ 99 ^^^ rotU y 1 ^^^ rotU y 2, y ^^^ 99 ^^^ rotU y 1 ^^^ rotU y 2 ^^^ rotU y 3, turnU y][i]? = some o) ∧ mz = 4 - i) ?_ ?_
  · refine ⟨_, 0, y ^^^ 99, rfl, rfl, rfl, rfl, ?_, rfl⟩
    exact ⟨by omega, rfl⟩
  rintro mz env L ⟨i, o, e3, e4, e10, eL, hI, hm⟩
  dsimp only at e3 e4 e10 eL
  subst eL
  refine W.ev 3 e3 ?_
  refine W.ev 4 e4 ?_
  refine W.ev 10 e10 ?_
  obtain ⟨h1, h2⟩ := hI
  have hc : i = 0 ∨ i = 1 ∨ i = 2 ∨ i = 3 ∨ i = 4 := by omega
  rcases hc with rfl | rfl | rfl | rfl | rfl

  · obtain rfl := Option.some.inj h2
    repeat' first
      | (show XO _ _ _ (Oper.mk _ _ _ _ _ none :: _) _ _ _; first | refine X.xor8 rfl rfl ?_ | refine X.addI (a := 0) (b := 1) rfl rfl (by omega) ?_)
      | (show XO _ _ _ (Oper.mk (some _) (Op.move _) _ _ _ none :: _) _ _ _; refine X.mv ?_)
      | (show XO _ _ _ (Oper.mk (some _) (Op.assign _) _ _ _ none :: _) _ _ _; refine X.as ?_)
      | (show XO _ _ _ (Oper.mk (some _) (Op.call _) _ _ _ none :: _) _ _ _; refine X.call (rot1 H y _) ?_)
      | (show XO _ _ _ (Oper.mk (some _) (_) _ _ _ none :: _) _ _ _; refine X.go rfl ?_)
      | (show XO _ _ _ [] _ _ _; refine X.nil ?_)
      | (show CW _ _ _ _ (Code.seq (Code.region _ _ false) _) _ _ _; refine W.rq ?_)
      | (show CW _ _ _ _ (Code.region _ _ false) _ _ _; refine W.rz ?_)
      | (show CW _ _ _ _ (Code.cond _ _ _) _ _ _; refine W.jpt (by (conv => lhs; whnf) <;> rfl) (by with_reducible rfl) (by first | omega | decide) ?_)
      | (show CW _ _ _ _ _ _ _ _; first | refine W.kn ?_ | refine W.bl ?_ | refine W.sq ?_)
      | (show KO _ _ _ _; first | refine K.sn ?_ | refine K.bn ?_ | refine K.ln _ ?_ ⟨1, _, rfl, rfl, rfl, rfl, ?_, rfl⟩)
      | refine K.nx ?_
      | refine K.re ?_
    · omega
    · exact ⟨by omega, rfl⟩
  · obtain rfl := Option.some.inj h2
    repeat' first
      | (show XO _ _ _ (Oper.mk _ _ _ _ _ none :: _) _ _ _; first | refine X.xor8 rfl rfl ?_ | refine X.addI (a := 1) (b := 1) rfl rfl (by omega) ?_)
      | (show XO _ _ _ (Oper.mk (some _) (Op.move _) _ _ _ none :: _) _ _ _; refine X.mv ?_)
      | (show XO _ _ _ (Oper.mk (some _) (Op.assign _) _ _ _ none :: _) _ _ _; refine X.as ?_)
      | (show XO _ _ _ (Oper.mk (some _) (Op.call _) _ _ _ none :: _) _ _ _; refine X.call (rot2 H y _) ?_)
      | (show XO _ _ _ (Oper.mk (some _) (_) _ _ _ none :: _) _ _ _; refine X.go rfl ?_)
      | (show XO _ _ _ [] _ _ _; refine X.nil ?_)
      | (show CW _ _ _ _ (Code.seq (Code.region _ _ false) _) _ _ _; refine W.rq ?_)
      | (show CW _ _ _ _ (Code.region _ _ false) _ _ _; refine W.rz ?_)
      | (show CW _ _ _ _ (Code.cond _ _ _) _ _ _; refine W.jpt (by (conv => lhs; whnf) <;> rfl) (by with_reducible rfl) (by first | omega | decide) ?_)
      | (show CW _ _ _ _ _ _ _ _; first | refine W.kn ?_ | refine W.bl ?_ | refine W.sq ?_)
      | (show KO _ _ _ _; first | refine K.sn ?_ | refine K.bn ?_ | refine K.ln _ ?_ ⟨2, _, rfl, rfl, rfl, rfl, ?_, rfl⟩)
      | refine K.nx ?_
      | refine K.re ?_
    · omega
    · exact ⟨by omega, rfl⟩
  · obtain rfl := Option.some.inj h2
    repeat' first
      | (show XO _ _ _ (Oper.mk _ _ _ _ _ none :: _) _ _ _; first | refine X.xor8 rfl rfl ?_ | refine X.addI (a := 2) (b := 1) rfl rfl (by omega) ?_)
      | (show XO _ _ _ (Oper.mk (some _) (Op.move _) _ _ _ none :: _) _ _ _; refine X.mv ?_)
      | (show XO _ _ _ (Oper.mk (some _) (Op.assign _) _ _ _ none :: _) _ _ _; refine X.as ?_)
      | (show XO _ _ _ (Oper.mk (some _) (Op.call _) _ _ _ none :: _) _ _ _; refine X.call (rot3 H y _) ?_)
      | (show XO _ _ _ (Oper.mk (some _) (_) _ _ _ none :: _) _ _ _; refine X.go rfl ?_)
      | (show XO _ _ _ [] _ _ _; refine X.nil ?_)
      | (show CW _ _ _ _ (Code.seq (Code.region _ _ false) _) _ _ _; refine W.rq ?_)
      | (show CW _ _ _ _ (Code.region _ _ false) _ _ _; refine W.rz ?_)
      | (show CW _ _ _ _ (Code.cond _ _ _) _ _ _; refine W.jpt (by (conv => lhs; whnf) <;> rfl) (by with_reducible rfl) (by first | omega | decide) ?_)
      | (show CW _ _ _ _ _ _ _ _; first | refine W.kn ?_ | refine W.bl ?_ | refine W.sq ?_)
      | (show KO _ _ _ _; first | refine K.sn ?_ | refine K.bn ?_ | refine K.ln _ ?_ ⟨3, _, rfl, rfl, rfl, rfl, ?_, rfl⟩)
      | refine K.nx ?_
      | refine K.re ?_
    · omega
    · exact ⟨by omega, rfl⟩
  · obtain rfl := Option.some.inj h2
    repeat' first
      | (show XO _ _ _ (Oper.mk _ _ _ _ _ none :: _) _ _ _; first | refine X.xor8 rfl rfl ?_ | refine X.addI (a := 3) (b := 1) rfl rfl (by omega) ?_)
      | (show XO _ _ _ (Oper.mk (some _) (Op.move _) _ _ _ none :: _) _ _ _; refine X.mv ?_)
      | (show XO _ _ _ (Oper.mk (some _) (Op.assign _) _ _ _ none :: _) _ _ _; refine X.as ?_)
      | (show XO _ _ _ (Oper.mk (some _) (Op.call _) _ _ _ none :: _) _ _ _; refine X.call (rot4 H y _) ?_)
      | (show XO _ _ _ (Oper.mk (some _) (_) _ _ _ none :: _) _ _ _; refine X.go rfl ?_)
      | (show XO _ _ _ [] _ _ _; refine X.nil ?_)
      | (show CW _ _ _ _ (Code.seq (Code.region _ _ false) _) _ _ _; refine W.rq ?_)
      | (show CW _ _ _ _ (Code.region _ _ false) _ _ _; refine W.rz ?_)
      | (show CW _ _ _ _ (Code.cond _ _ _) _ _ _; refine W.jpt (by (conv => lhs; whnf) <;> rfl) (by with_reducible rfl) (by first | omega | decide) ?_)
      | (show CW _ _ _ _ _ _ _ _; first | refine W.kn ?_ | refine W.bl ?_ | refine W.sq ?_)
      | (show KO _ _ _ _; first | refine K.sn ?_ | refine K.bn ?_ | refine K.ln _ ?_ ⟨4, _, rfl, rfl, rfl, rfl, ?_, rfl⟩)
      | refine K.nx ?_
      | refine K.re ?_
    · omega
    · exact ⟨by omega, rfl⟩
  · obtain rfl := Option.some.inj h2
    repeat' first
      | (show XO _ _ _ (Oper.mk (some _) (Op.move _) _ _ _ none :: _) _ _ _; refine X.mv ?_)
      | (show XO _ _ _ (Oper.mk (some _) (Op.assign _) _ _ _ none :: _) _ _ _; refine X.as ?_)
      | (show XO _ _ _ (Oper.mk (some _) (_) _ _ _ none :: _) _ _ _; refine X.go rfl ?_)
      | (show XO _ _ _ [] _ _ _; refine X.nil ?_)
      | (show CW _ _ _ _ (Code.seq (Code.region _ _ false) _) _ _ _; refine W.rq ?_)
      | (show CW _ _ _ _ (Code.cond _ _ _) _ _ _; refine W.jpf (by (conv => lhs; whnf) <;> rfl) (by with_reducible rfl) (by first | omega | decide) ?_)
      | (show CW _ _ _ _ _ _ _ _; first | refine W.kr ?_ | refine W.ke ?_ | refine W.sq ?_)
      | (show KO _ _ _ _; first | refine K.sn ?_ | refine K.se ?_ | refine K.be ?_ | refine K.le ?_)
      | refine K.nx ?_
    exact end_data rfl rfl rfl
theorem refTurned (H : ZC Z) (y : UInt8) (L : List Go.Pv.Obj) : SE Try.prog Z 30 [g8 y] L (g8 (turnU y)) L := by
  refine SE.data H Try.func30 rfl ?_
  repeat' first
    | (show XO _ _ _ (Oper.mk _ _ _ _ _ none :: _) _ _ _; first | refine X.xor8 rfl rfl ?_ | refine X.xor8 (b := 99) rfl rfl ?_)
    | (show XO _ _ _ (Oper.mk (some _) (Op.move _) _ _ _ none :: _) _ _ _; refine X.mv ?_)
    | (show XO _ _ _ (Oper.mk (some _) (Op.assign _) _ _ _ none :: _) _ _ _; refine X.as ?_)
    | (show XO _ _ _ (Oper.mk (some _) (Op.call _) _ _ _ none :: _) _ _ _; first | refine X.call (refLeft1 H y _) ?_ | refine X.call (refLeft2 H y _) ?_ | refine X.call (refLeft3 H y _) ?_ | refine X.call (refLeft4 H y _) ?_)
    | (show XO _ _ _ [] _ _ _; refine X.nil ?_)
    | (show CW _ _ _ _ (Code.seq (Code.region _ _ false) _) _ _ _; refine W.rq ?_)
    | (show CW _ _ _ _ _ _ _ _; refine W.kr ?_)
    | refine K.nx ?_
  refine end_data rfl rfl ?_
  show g8 _ = g8 _
  congr 1
  unfold turnU
  generalize rotU y 1 = a
  generalize rotU y 2 = b
  generalize rotU y 3 = c
  generalize rotU y 4 = d
  have e : ∀ p q r : UInt8, p ^^^ q ^^^ r = p ^^^ r ^^^ q := fun p q r => by rw [UInt8.xor_assoc, UInt8.xor_comm q r, ← UInt8.xor_assoc]
  rw [e _ d 99, e _ c 99, e _ b 99, e y a 99]
theorem refBox (H : ZC Z) (x : UInt8) (L : List Go.Pv.Obj) : SE Try.prog Z 16 [g8 x] L (g8 (boxU x)) L := by
  refine SE.data H Try.func16 rfl ?_
  repeat' first
    | (show XO _ _ _ (Oper.mk (some _) (Op.move _) _ _ _ none :: _) _ _ _; refine X.mv ?_)
    | (show XO _ _ _ (Oper.mk (some _) (Op.assign _) _ _ _ none :: _) _ _ _; refine X.as ?_)
    | (show XO _ _ _ (Oper.mk (some _) (Op.call _) _ _ _ none :: _) _ _ _; first | refine X.call (refInverse H x _) ?_ | refine X.call (refTurned H _ _) ?_)
    | (show XO _ _ _ [] _ _ _; refine X.nil ?_)
    | (show CW _ _ _ _ (Code.seq (Code.region _ _ false) _) _ _ _; refine W.rq ?_)
    | (show CW _ _ _ _ _ _ _ _; refine W.kr ?_)
    | refine K.nx ?_
  exact end_data rfl rfl rfl

theorem boxes0 (H : ZC Z) : SE Try.prog Z 25 [] [] (.ref 0 0) [.box (boxL.map g8)] := by
  refine SE.full H Try.func25 rfl ?_
  repeat' first
    | (show XO _ _ _ (Oper.mk (some _) (Op.move _) _ _ _ none :: _) _ _ _; refine X.mv ?_)
    | (show XO _ _ _ (Oper.mk (some _) (Op.assign _) _ _ _ none :: _) _ _ _; refine X.as ?_)
    | (show XO _ _ _ (Oper.mk (some _) (_) _ _ _ none :: _) _ _ _; refine X.go rfl ?_)
    | (show XO _ _ _ [] _ _ _; refine X.nil ?_)
    | (show CW _ _ _ _ (Code.seq (Code.region _ _ false) _) _ _ _; refine W.rq ?_)
    | (show CW _ _ _ _ _ _ _ _; first | refine W.bl ?_ | refine W.sq ?_)
    | refine K.nx ?_
  refine W.lq (fun mz st => ∃ (i : Nat), st.env 1 = .ref 0 0 ∧ st.env 3 = .int .i64 i ∧ st.L = [Go.Pv.Obj.box ((fill (fun q => boxU (UInt8.ofNat q)) (List.replicate 256 0) i).map g8)] ∧ (i ≤ 256) ∧ mz = 256 - i) ?_ ?_
  · refine ⟨_, 0, rfl, rfl, rfl, ?_, rfl⟩
    omega
  rintro mz env L ⟨i, e1, e3, eL, hI, hm⟩
  dsimp only at e1 e3 eL
  subst eL
  refine W.ev 1 e1 ?_
  refine W.ev 3 e3 ?_
  by_cases h : i = 256
  · subst h
    repeat' first
      | (show XO _ _ _ (Oper.mk (some _) (Op.assign _) _ _ _ none :: _) _ _ _; refine X.as ?_)
      | (show XO _ _ _ (Oper.mk (some _) (_) _ _ _ none :: _) _ _ _; refine X.go rfl ?_)
      | (show XO _ _ _ [] _ _ _; refine X.nil ?_)
      | (show CW _ _ _ _ (Code.seq (Code.region _ _ false) _) _ _ _; refine W.rq ?_)
      | (show CW _ _ _ _ (Code.cond _ _ _) _ _ _; refine W.jpf (by (conv => lhs; whnf) <;> rfl) (by with_reducible rfl) (by first | omega | decide) ?_)
      | (show CW _ _ _ _ _ _ _ _; first | refine W.kr ?_ | refine W.ke ?_ | refine W.sq ?_)
      | (show KO _ _ _ _; first | refine K.sn ?_ | refine K.se ?_ | refine K.be ?_ | refine K.le ?_)
      | refine K.nx ?_
    refine K.fin rfl ⟨rfl, ?_⟩
    rw [fill_all _ _ _ (by simp), List.length_replicate]; rfl
  · have hb := box H (UInt8.ofNat i)
    rw [← g8_of i (by omega)] at hb
    repeat' first
      | (show XO _ _ _ (Oper.mk _ _ _ _ _ none :: _) _ _ _; first | refine X.stR (boxU (UInt8.ofNat i)) rfl rfl rfl (by rw [fill_len, List.length_replicate]; omega) ?_ | refine X.iaR1 (n := 256) rfl rfl (by omega) ?_)
      | (show XO _ _ _ (Oper.mk (some _) (Op.move _) _ _ _ none :: _) _ _ _; refine X.mv ?_)
      | (show XO _ _ _ (Oper.mk (some _) (Op.assign _) _ _ _ none :: _) _ _ _; refine X.as ?_)
      | (show XO _ _ _ (Oper.mk (some _) (Op.call _) _ _ _ none :: _) _ _ _; refine X.call (hb _) ?_)
      | (show XO _ _ _ (Oper.mk (some _) (Op.binOp BinOp.add _ _ _ _) _ _ _ none :: _) _ _ _; refine X.addI rfl rfl (by omega) ?_)
      | (show XO _ _ _ (Oper.mk (some _) (Op.convert _ _ _) _ _ _ none :: _) _ _ _; refine X.cvI rfl rfl rfl (wU8 (by omega)) ?_)
      | (show XO _ _ _ (Oper.mk (some _) (_) _ _ _ none :: _) _ _ _; refine X.go rfl ?_)
      | (show XO _ _ _ [] _ _ _; refine X.nil ?_)
      | (show CW _ _ _ _ (Code.seq (Code.region _ _ false) _) _ _ _; refine W.rq ?_)
      | (show CW _ _ _ _ (Code.region _ _ false) _ _ _; refine W.rz ?_)
      | (show CW _ _ _ _ (Code.cond _ _ _) _ _ _; refine W.jpt (by (conv => lhs; whnf) <;> rfl) (by with_reducible rfl) (by first | omega | decide) ?_)
      | (show CW _ _ _ _ _ _ _ _; first | refine W.kn ?_ | refine W.bl ?_ | refine W.sq ?_)
      | (show KO _ _ _ _; first | refine K.sn ?_ | refine K.bn ?_ | refine K.ln _ ?_ ⟨i + 1, rfl, vI (by omega), by rw [fill_set _ _ _ _ _ rfl rfl], ?_, rfl⟩)
      | refine K.nx ?_
      | refine K.re ?_
    · omega
    · omega
theorem boxes (H : ZC Z) (L : List Go.Pv.Obj) : SE Try.prog Z 25 [] L (.ref L.length 0) (L ++ [.box (boxL.map g8)]) :=
  SE.lift_box (boxes0 H) L rfl (map_data g8_data _)

end Go.Proofs.Aes
end
section
set_option linter.unusedVariables false
set_option linter.unusedSimpArgs false
set_option maxHeartbeats 4000000
set_option maxRecDepth 100000
namespace Go.Proofs.Aes
open Go Go.Pv Go.Proofs
variable {Z : Nat → Go.Obj → Prop}
attribute [local irreducible] boxL mulU
def ag (l : List UInt8) : V := .agg (l.map g8)
theorem ag_data (l : List UInt8) : V.lt 0 (ag l) = true := agg_data (map_data g8_data _)
theorem one8 (l : List UInt8) : (l.map g8).all V.one = true := ones_map (fun _ => rfl)
theorem rd_fill {f : Nat → UInt8} {r : List UInt8} {i : Nat} (h : i < r.length) : rd (fill f r i) (i : Int) = rd r (i : Int) := by
  rw [rd_nat, fill_get f r i i h, if_neg (by omega)]; rfl

theorem with0 (H : ZC Z) (s k : List UInt8) (hs : s.length = 16) (hk : k.length = 16) : SE Try.prog Z 38 [ag s, ag k] [] (ag (addS s k)) [] := by
  refine SE.data H Try.func38 rfl ?_
  repeat' first
    | (show XO _ _ _ (Oper.mk _ _ _ _ _ none :: _) _ _ _; refine X.bx rfl (by (conv => lhs; whnf) <;> rfl) (one8 _) ?_)
    | (show XO _ _ _ (Oper.mk (some _) (Op.move _) _ _ _ none :: _) _ _ _; refine X.mv ?_)
    | (show XO _ _ _ (Oper.mk (some _) (_) _ _ _ none :: _) _ _ _; refine X.go rfl ?_)
    | (show XO _ _ _ [] _ _ _; refine X.nil ?_)
    | (show CW _ _ _ _ (Code.seq (Code.region _ _ false) _) _ _ _; refine W.rq ?_)
    | (show CW _ _ _ _ _ _ _ _; first | refine W.bl ?_ | refine W.sq ?_)
    | refine K.nx ?_
  refine W.lq (fun mz st => ∃ (i : Nat), st.env 2 = .ref 0 0 ∧ st.env 3 = .ref 1 0 ∧ st.env 4 = .ref 2 0 ∧ st.env 6 = .int .i64 i ∧ st.L = [Go.Pv.Obj.box ((fill (fun q => rd s q ^^^ rd k q) s i).map g8), .box (k.map g8), .box ((List.replicate 16 0).map g8)] ∧ (i ≤ 16) ∧ mz = 16 - i) ?_ ?_
  · refine ⟨_, 0, rfl, rfl, rfl, rfl, by rw [fill_zero]; rfl, ?_, rfl⟩
    omega
  rintro mz env L ⟨i, e2, e3, e4, e6, eL, hI, hm⟩
  dsimp only at e2 e3 e4 e6 eL
  subst eL
  refine W.ev 2 e2 ?_
  refine W.ev 3 e3 ?_
  refine W.ev 4 e4 ?_
  refine W.ev 6 e6 ?_
  by_cases h : i = 16
  · subst h
    repeat' first
      | (show XO _ _ _ (Oper.mk _ _ _ _ _ none :: _) _ _ _; first | refine X.ldW (n := 16) rfl rfl (by rw [List.length_map, fill_len, hs]) ?_ | refine X.stW (n := 16) rfl rfl rfl (by rw [List.length_map, fill_len, hs]) (by simp) (one8 _) ?_)
      | (show XO _ _ _ (Oper.mk (some _) (_) _ _ _ none :: _) _ _ _; refine X.go rfl ?_)
      | (show XO _ _ _ [] _ _ _; refine X.nil ?_)
      | (show CW _ _ _ _ (Code.seq (Code.region _ _ false) _) _ _ _; refine W.rq ?_)
      | (show CW _ _ _ _ (Code.cond _ _ _) _ _ _; refine W.jpf (by (conv => lhs; whnf) <;> rfl) (by with_reducible rfl) (by first | omega | decide) ?_)
      | (show CW _ _ _ _ _ _ _ _; first | refine W.kr ?_ | refine W.ke ?_ | refine W.sq ?_)
      | (show KO _ _ _ _; first | refine K.sn ?_ | refine K.se ?_ | refine K.be ?_ | refine K.le ?_)
      | refine K.nx ?_
    refine K.fin (resV_cell (n := 16) rfl rfl (by rw [List.length_map, fill_len, hs])) ⟨_, rfl, (frz_agg (map_data g8_data _)).trans ?_⟩
    rw [fill_all _ _ _ (by omega), hs]; rfl
  · have hfl := fill_len (fun q => rd s q ^^^ rd k q) s i
    repeat' first
      | (show XO _ _ _ (Oper.mk _ _ _ _ _ none :: _) _ _ _; first | refine X.iaR1 (n := 16) rfl rfl (by omega) ?_ | refine X.xor8 rfl rfl ?_ | refine X.stR (rd s i ^^^ rd k i) rfl rfl (by rw [rd_fill (by omega)]; rfl) (by omega) ?_)
      | (show XO _ _ _ (Oper.mk (some _) (Op.move _) _ _ _ none :: _) _ _ _; refine X.mv ?_)
      | (show XO _ _ _ (Oper.mk (some _) (Op.assign _) _ _ _ none :: _) _ _ _; refine X.as ?_)
      | (show XO _ _ _ (Oper.mk (some _) (Op.binOp BinOp.add _ _ _ _) _ _ _ none :: _) _ _ _; refine X.addI rfl rfl (by omega) ?_)
      | (show XO _ _ _ (Oper.mk (some _) (_) _ _ _ none :: _) _ _ _; refine X.go rfl ?_)
      | (show XO _ _ _ [] _ _ _; refine X.nil ?_)
      | (show AO _ _ _ (Oper.mk _ _ _ _ _ none :: _) _ _ _; first | refine A.iaR1 (n := 16) rfl rfl (by omega) ?_ | refine A.ldR rfl rfl (by omega) ?_)
      | (show AO _ _ _ (Oper.mk (some _) (Op.move _) _ _ _ none :: _) _ _ _; refine A.mv ?_)
      | (show AO _ _ _ [] _ _ _; refine A.nil ?_)
      | (show CW _ _ _ _ (Code.seq (Code.region _ _ false) _) _ _ _; refine W.rq ?_)
      | (show CW _ _ _ _ (Code.region _ _ false) _ _ _; refine W.rz ?_)
      | (show CW _ _ _ _ (Code.region _ _ true) _ _ _; refine W.dz 6 ?_)
      | (show CW _ _ _ _ (Code.cond _ _ _) _ _ _; refine W.jpt (by (conv => lhs; whnf) <;> rfl) (by with_reducible rfl) (by first | omega | decide) ?_)
      | (show CW _ _ _ _ _ _ _ _; first | refine W.kn ?_ | refine W.bl ?_ | refine W.sq ?_)
      | (show KO _ _ _ _; first | refine K.sn ?_ | refine K.bn ?_ | refine K.ln _ ?_ ⟨i + 1, rfl, rfl, rfl, vI (by omega), by rw [fill_set _ _ _ _ _ rfl rfl], ?_, rfl⟩)
      | refine K.nx ?_
      | refine K.re ?_
      | refine K.dr ?_
    · omega
    · omega

theorem shifted0 (H : ZC Z) (s : List UInt8) (hs : s.length = 16) : SE Try.prog Z 39 [ag s, .cref (boxL.map g8)] [] (ag (shiftS s)) [] := by
  refine SE.data H Try.func39 rfl ?_
  repeat' first
    | (show XO _ _ _ (Oper.mk _ _ _ _ _ none :: _) _ _ _; refine X.bx rfl (by (conv => lhs; whnf) <;> rfl) (one8 _) ?_)
    | (show XO _ _ _ (Oper.mk (some _) (Op.move _) _ _ _ none :: _) _ _ _; refine X.mv ?_)
    | (show XO _ _ _ (Oper.mk (some _) (_) _ _ _ none :: _) _ _ _; refine X.go rfl ?_)
    | (show XO _ _ _ [] _ _ _; refine X.nil ?_)
    | (show CW _ _ _ _ (Code.seq (Code.region _ _ false) _) _ _ _; refine W.rq ?_)
    | (show CW _ _ _ _ _ _ _ _; first | refine W.bl ?_ | refine W.sq ?_)
    | refine K.nx ?_
  refine W.lq (fun mz st => ∃ (i : Nat), st.env 1 = .cref (boxL.map g8) ∧ st.env 2 = .ref 0 0 ∧ st.env 4 = .ref 1 0 ∧ st.env 5 = .ref 2 0 ∧ st.env 7 = .int .i64 i ∧ st.L = [Go.Pv.Obj.box (s.map g8), .box ((List.replicate 16 0).map g8), .box ((fill (shiftB s) (List.replicate 16 0) i).map g8)] ∧ (i ≤ 16) ∧ mz = 16 - i) ?_ ?_
  · refine ⟨_, 0, rfl, rfl, rfl, rfl, rfl, by rw [fill_zero]; rfl, ?_, rfl⟩
    omega
  rintro mz env L ⟨i, e1, e2, e4, e5, e7, eL, hI, hm⟩
  dsimp only at e1 e2 e4 e5 e7 eL
  subst eL
  refine W.ev 1 e1 ?_
  refine W.ev 2 e2 ?_
  refine W.ev 4 e4 ?_
  refine W.ev 5 e5 ?_
  refine W.ev 7 e7 ?_
  by_cases h : i = 16
  · subst h
    repeat' first
      | (show XO _ _ _ (Oper.mk _ _ _ _ _ none :: _) _ _ _; first | refine X.ldW (n := 16) rfl rfl (by simp [fill_len]) ?_ | refine X.stW (n := 16) rfl rfl rfl (by simp [fill_len]) (by simp) (one8 _) ?_)
      | (show XO _ _ _ (Oper.mk (some _) (_) _ _ _ none :: _) _ _ _; refine X.go rfl ?_)
      | (show XO _ _ _ [] _ _ _; refine X.nil ?_)
      | (show CW _ _ _ _ (Code.seq (Code.region _ _ false) _) _ _ _; refine W.rq ?_)
      | (show CW _ _ _ _ (Code.cond _ _ _) _ _ _; refine W.jpf (by (conv => lhs; whnf) <;> rfl) (by with_reducible rfl) (by first | omega | decide) ?_)
      | (show CW _ _ _ _ _ _ _ _; first | refine W.kr ?_ | refine W.ke ?_ | refine W.sq ?_)
      | (show KO _ _ _ _; first | refine K.sn ?_ | refine K.se ?_ | refine K.be ?_ | refine K.le ?_)
      | refine K.nx ?_
    refine K.fin (resV_cell (n := 16) rfl rfl (by simp [fill_len])) ⟨_, rfl, (frz_agg (map_data g8_data _)).trans ?_⟩
    rw [fill_all _ _ _ (by simp)]; rfl
  · have hfl := fill_len (shiftB s) (List.replicate 16 0) i
    rw [List.length_replicate] at hfl
    have hbl := boxL_len
    have hb := (rd s (((i : Int) + 4 * ((i : Int) % 4)) % 16)).toNat_lt
    repeat' first
      | (show XO _ _ _ (Oper.mk _ _ _ _ _ none :: _) _ _ _; first | refine X.iaR1 (n := 16) rfl rfl (by omega) ?_ | refine X.stR (shiftB s i) rfl rfl rfl (by omega) ?_)
      | (show XO _ _ _ (Oper.mk (some _) (Op.move _) _ _ _ none :: _) _ _ _; refine X.mv ?_)
      | (show XO _ _ _ (Oper.mk (some _) (Op.assign _) _ _ _ none :: _) _ _ _; refine X.as ?_)
      | (show XO _ _ _ (Oper.mk (some _) (Op.binOp BinOp.add _ _ _ _) _ _ _ none :: _) _ _ _; refine X.addI rfl rfl (by omega) ?_)
      | (show XO _ _ _ (Oper.mk (some _) (_) _ _ _ none :: _) _ _ _; refine X.go rfl ?_)
      | (show XO _ _ _ [] _ _ _; refine X.nil ?_)
      | (show AO _ _ _ (Oper.mk _ _ _ _ _ none :: _) _ _ _; first | refine A.iaR1 (n := 16) rfl rfl (by omega) ?_ | refine A.iaC1 (n := 256) rfl rfl (by omega) (by omega) ?_ | refine A.ldR rfl rfl (by omega) ?_ | refine A.ldC rfl (by omega) ?_)
      | (show AO _ _ _ (Oper.mk (some _) (Op.move _) _ _ _ none :: _) _ _ _; refine A.mv ?_)
      | (show AO _ _ _ (Oper.mk (some _) (Op.binOp BinOp.add _ _ _ _) _ _ _ none :: _) _ _ _; refine A.addI rfl rfl (by omega) ?_)
      | (show AO _ _ _ (Oper.mk (some _) (Op.binOp BinOp.mul _ _ _ _) _ _ _ none :: _) _ _ _; refine A.mulI rfl rfl (by omega) ?_)
      | (show AO _ _ _ (Oper.mk (some _) (Op.binOp BinOp.rem _ _ _ _) _ _ _ none :: _) _ _ _; refine A.remI rfl rfl (by omega) ?_)
      | (show AO _ _ _ (Oper.mk (some _) (_) _ _ _ none :: _) _ _ _; refine A.go rfl ?_)
      | (show AO _ _ _ [] _ _ _; refine A.nil ?_)
      | (show CW _ _ _ _ (Code.seq (Code.region _ _ false) _) _ _ _; refine W.rq ?_)
      | (show CW _ _ _ _ (Code.region _ _ false) _ _ _; refine W.rz ?_)
      | (show CW _ _ _ _ (Code.region _ _ true) _ _ _; refine W.dz 13 ?_)
      | (show CW _ _ _ _ (Code.cond _ _ _) _ _ _; refine W.jpt (by (conv => lhs; whnf) <;> rfl) (by with_reducible rfl) (by first | omega | decide) ?_)
      | (show CW _ _ _ _ _ _ _ _; first | refine W.kn ?_ | refine W.bl ?_ | refine W.sq ?_)
      | (show KO _ _ _ _; first | refine K.sn ?_ | refine K.bn ?_ | refine K.ln _ ?_ ⟨i + 1, rfl, rfl, rfl, rfl, vI (by omega), by rw [fill_set _ _ _ _ _ rfl rfl], ?_, rfl⟩)
      | refine K.nx ?_
      | refine K.re ?_
      | refine K.dr ?_
    · omega
    · omega
theorem mixAt (H : ZC Z) (s : List UInt8) (hs : s.length = 16) (i c n : Int) (h1 : 0 ≤ i ∧ i < 16) (h2 : 0 ≤ c ∧ c ≤ 12) (h3 : 0 ≤ n ∧ n < 4) (R1 R2 : Go.Pv.Obj) :
    SE Try.prog Z 41 [.int .i64 n, .ref 0 0, .ref 4 0, .ref 3 0] [.box (s.map g8), R1, R2, .box [.int .i64 i], .box [.int .i64 c]] (g8 (rd s (c + (i + n) % 4))) [.box (s.map g8), R1, R2, .box [.int .i64 i], .box [.int .i64 c]] := by
  refine SE.data H Try.func41 rfl ?_
  repeat' first
    | (show XO _ _ _ (Oper.mk _ _ _ _ _ none :: _) _ _ _; first | refine X.iaR1 (n := 16) rfl rfl (by omega) ?_ | refine X.ldR (g := g8) rfl rfl (by omega) ?_)
    | (show XO _ _ _ (Oper.mk (some _) (Op.move _) _ _ _ none :: _) _ _ _; refine X.mv ?_)
    | (show XO _ _ _ (Oper.mk (some _) (Op.assign _) _ _ _ none :: _) _ _ _; refine X.as ?_)
    | (show XO _ _ _ (Oper.mk (some _) (Op.binOp BinOp.add _ _ _ _) _ _ _ none :: _) _ _ _; refine X.addI rfl rfl (by omega) ?_)
    | (show XO _ _ _ (Oper.mk (some _) (Op.binOp BinOp.rem _ _ _ _) _ _ _ none :: _) _ _ _; refine X.remI rfl rfl (by omega) ?_)
    | (show XO _ _ _ (Oper.mk (some _) (Op.load _ _) _ _ _ none :: _) _ _ _; refine X.go rfl ?_)
    | (show XO _ _ _ [] _ _ _; refine X.nil ?_)
    | (show CW _ _ _ _ (Code.seq (Code.region _ _ false) _) _ _ _; refine W.rq ?_)
    | (show CW _ _ _ _ _ _ _ _; refine W.kr ?_)
    | refine K.nx ?_
  exact end_data rfl rfl rfl

theorem mixed0 (H : ZC Z) (s : List UInt8) (hs : s.length = 16) : SE Try.prog Z 40 [ag s] [] (ag (mixS s)) [] := by
  refine SE.data H Try.func40 rfl ?_
  repeat' first
    | (show XO _ _ _ (Oper.mk _ _ _ _ _ none :: _) _ _ _; first | refine X.bx rfl (by (conv => lhs; whnf) <;> rfl) (one8 _) ?_ | refine X.ldW (n := 16) rfl rfl (by simp [hs]) ?_ | refine X.stW (n := 16) rfl rfl rfl (by simp [hs]) (by simp) (one8 _) ?_)
    | (show XO _ _ _ (Oper.mk (some _) (Op.move _) _ _ _ none :: _) _ _ _; refine X.mv ?_)
    | (show XO _ _ _ (Oper.mk (some _) (_) _ _ _ none :: _) _ _ _; refine X.go rfl ?_)
    | (show XO _ _ _ [] _ _ _; refine X.nil ?_)
    | (show CW _ _ _ _ (Code.seq (Code.region _ _ false) _) _ _ _; refine W.rq ?_)
    | (show CW _ _ _ _ _ _ _ _; first | refine W.bl ?_ | refine W.sq ?_)
    | refine K.nx ?_
  refine W.lqF 3 (fun mz st => ∃ (i : Nat), st.env 1 = .ref 0 0 ∧ st.env 2 = .ref 1 0 ∧ st.env 3 = .ref 2 0 ∧ st.env 8 = .int .i64 i ∧ st.L = [Go.Pv.Obj.box (s.map g8), .box ((List.replicate 16 0).map g8), .box ((fill (mixB s) s i).map g8)] ∧ (i ≤ 16) ∧ mz = 16 - i) ?_ ?_
  · refine ⟨_, 0, rfl, rfl, rfl, rfl, by rw [fill_zero]; rfl, ?_, rfl⟩
    omega
  rintro mz env L ⟨i, e1, e2, e3, e8, eL, hI, hm⟩
  dsimp only at e1 e2 e3 e8 eL
  subst eL
  refine W.ev 1 e1 ?_
  refine W.ev 2 e2 ?_
  refine W.ev 3 e3 ?_
  refine W.ev 8 e8 ?_
  by_cases h : i = 16
  · subst h
    repeat' first
      | (show XO _ _ _ (Oper.mk _ _ _ _ _ none :: _) _ _ _; first | refine X.ldW (n := 16) rfl rfl (by simp [fill_len, hs]) ?_ | refine X.stW (n := 16) rfl rfl rfl (by simp [fill_len, hs]) (by simp) (one8 _) ?_)
      | (show XO _ _ _ (Oper.mk (some _) (_) _ _ _ none :: _) _ _ _; refine X.go rfl ?_)
      | (show XO _ _ _ [] _ _ _; refine X.nil ?_)
      | (show CW _ _ _ _ (Code.seq (Code.region _ _ false) _) _ _ _; refine W.rq ?_)
      | (show CW _ _ _ _ (Code.cond _ _ _) _ _ _; refine W.jpf (by (conv => lhs; whnf) <;> rfl) (by with_reducible rfl) (by first | omega | decide) ?_)
      | (show CW _ _ _ _ _ _ _ _; first | refine W.kr ?_ | refine W.ke ?_ | refine W.sq ?_)
      | (show KO _ _ _ _; first | refine K.sn ?_ | refine K.se ?_ | refine K.be ?_ | refine K.le ?_)
      | refine K.nx ?_
    refine K.fin (resV_cell (n := 16) rfl rfl (by simp [fill_len, hs])) ⟨_, rfl, (frz_agg (map_data g8_data _)).trans ?_⟩
    rw [fill_all _ _ _ (by omega), hs]; rfl
  · have hfl := fill_len (mixB s) s i
    have hat : ∀ n : Int, 0 ≤ n ∧ n < 4 → _ := fun n hn => mixAt H s hs (i : Int) ((i : Int) / 4 * 4) n (by omega) (by omega) hn (.box ((List.replicate 16 0).map g8)) (.box ((fill (mixB s) s i).map g8))
    repeat' first
      | (show XO _ _ _ (Oper.mk _ _ _ _ _ none :: _) _ _ _; first | refine X.iaR1 (n := 16) rfl rfl (by omega) ?_ | refine X.stR (mixB s i) rfl rfl rfl (by omega) ?_)
      | (show XO _ _ _ (Oper.mk (some _) (Op.move _) _ _ _ none :: _) _ _ _; refine X.mv ?_)
      | (show XO _ _ _ (Oper.mk (some _) (Op.assign _) _ _ _ none :: _) _ _ _; refine X.as ?_)
      | (show XO _ _ _ (Oper.mk (some _) (Op.binOp BinOp.add _ _ _ _) _ _ _ none :: _) _ _ _; refine X.addI rfl rfl (by omega) ?_)
      | (show XO _ _ _ (Oper.mk (some _) (Op.binOp BinOp.mul _ _ _ _) _ _ _ none :: _) _ _ _; refine X.mulI rfl rfl (by omega) ?_)
      | (show XO _ _ _ (Oper.mk (some _) (Op.binOp BinOp.quo _ _ _ _) _ _ _ none :: _) _ _ _; refine X.quoI rfl rfl (by omega) ?_)
      | (show XO _ _ _ (Oper.mk (some _) (Op.load _ _) _ _ _ none :: _) _ _ _; refine X.go rfl ?_)
      | (show XO _ _ _ (Oper.mk (some _) (_) _ _ _ none :: _) _ _ _; refine X.go rfl ?_)
      | (show XO _ _ _ (Oper.mk none _ _ _ _ none :: _) _ _ _; refine X.st rfl ?_)
      | (show XO _ _ _ [] _ _ _; refine X.nil ?_)
      | (show AO _ _ _ (Oper.mk _ _ _ _ _ none :: _) _ _ _; refine A.xor8 rfl rfl ?_)
      | (show AO _ _ _ (Oper.mk (some _) (Op.move _) _ _ _ none :: _) _ _ _; refine A.mv ?_)
      | (show AO _ _ _ (Oper.mk (some _) (Op.call _) _ _ _ none :: _) _ _ _; first | refine A.call (mul H _ 2 _) ?_ | refine A.call (mul H _ 3 _) ?_ | refine A.callf rfl rfl (hat 0 (by omega)) ?_ | refine A.callf rfl rfl (hat 1 (by omega)) ?_ | refine A.callf rfl rfl (hat 2 (by omega)) ?_ | refine A.callf rfl rfl (hat 3 (by omega)) ?_)
      | (show AO _ _ _ (Oper.mk (some _) (Op.load _ _) _ _ _ none :: _) _ _ _; refine A.go rfl ?_)
      | (show AO _ _ _ [] _ _ _; refine A.nil ?_)
      | (show CW _ _ _ _ (Code.seq (Code.region _ _ false) _) _ _ _; refine W.rq ?_)
      | (show CW _ _ _ _ (Code.region _ _ false) _ _ _; refine W.rz ?_)
      | (show CW _ _ _ _ (Code.region _ _ true) _ _ _; refine W.dz 14 ?_)
      | (show CW _ _ _ _ (Code.cond _ _ _) _ _ _; refine W.jpt (by (conv => lhs; whnf) <;> rfl) (by with_reducible rfl) (by first | omega | decide) ?_)
      | (show CW _ _ _ _ _ _ _ _; first | refine W.kn ?_ | refine W.bl ?_ | refine W.sq ?_)
      | (show KO _ _ _ _; first | refine K.sn ?_ | refine K.bn ?_ | refine K.fn _ ?_ [_, _, _] _ rfl rfl (by repeat' first | exact obs_nil | refine obs_cons ?_ ?_ | exact ob_box (map_data g8_data _) | exact ob_buf (map_data g8_data _) | exact ob_box rfl | exact ob_buf rfl) ⟨i + 1, rfl, rfl, rfl, vI (by omega), by rw [fill_set _ _ _ _ _ rfl rfl], ?_, rfl⟩)
      | refine K.nx ?_
      | refine K.re ?_
      | refine K.dr ?_
    · omega
    · omega

end Go.Proofs.Aes
end
