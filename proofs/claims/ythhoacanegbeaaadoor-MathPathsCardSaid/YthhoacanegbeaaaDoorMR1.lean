import Derived.Test.YthhoacanegbeaaaDoorM10
import Derived.Test.YthhoacanegbeaaaDoorPv28
set_option linter.unusedVariables false
set_option linter.unusedSimpArgs false
set_option maxHeartbeats 4000000
namespace Go.Proofs.Mth
open Go Go.Pv Go.Proofs Go.Shelf
variable {Z : Nat → Go.Obj → Prop}
theorem dbl (i : Nat) : (2 : Int) * ((2 ^ i : Nat) : Int) = ((2 ^ (i + 1) : Nat) : Int) := by
  rw [Nat.pow_succ]; push_cast; omega
theorem pow_mono {i j : Nat} (h : i < j) : 2 ^ i < 2 ^ j := Nat.pow_lt_pow_right (by omega) h
theorem isT_iff {n : Int} : isT n = true ↔ ∃ j, j < 11 ∧ n = ((2 ^ j : Nat) : Int) := ⟨isT_pow, fun ⟨j, h, e⟩ => e ▸ isT_of h⟩

theorem refTree (H : ZT Z) (n : Int) (L : List Go.Pv.Obj) : SE Tryd.prog Z 39 [.int .i64 n] L (.bool (isT n)) L := by
  refine SE.data H.z Tryd.func39 rfl ?_
  repeat' first
    | (show XO _ _ _ (Oper.mk (some _) (Op.move _) _ _ _ none :: _) _ _ _; refine X.mv ?_)
    | (show XO _ _ _ (Oper.mk (some _) (Op.assign _) _ _ _ none :: _) _ _ _; refine X.as ?_)
    | (show XO _ _ _ (Oper.mk (some _) (Op.call (Call.mk (Callee.builtin Builtin.len) _ _)) _ _ _ none :: _) _ _ _; first | refine X.lnS rfl ?_ | refine X.lnO rfl ?_ | refine X.go rfl ?_)
    | (show XO _ _ _ (Oper.mk (some _) (Op.call _) _ _ _ none :: _) _ _ _; first | refine X.go rfl ?_)
    | (show XO _ _ _ (Oper.mk (some _) (Op.binOp BinOp.add _ _ _ _) _ _ _ none :: _) _ _ _; first | refine X.addI rfl rfl (by omega) ?_ | refine X.go rfl ?_)
    | (show XO _ _ _ (Oper.mk (some _) (Op.binOp BinOp.sub _ _ _ _) _ _ _ none :: _) _ _ _; first | refine X.subI rfl rfl (by omega) ?_ | refine X.go rfl ?_)
    | (show XO _ _ _ (Oper.mk (some _) (Op.binOp BinOp.mul _ _ _ _) _ _ _ none :: _) _ _ _; first | refine X.mulI rfl rfl (by omega) ?_ | refine X.go rfl ?_)
    | (show XO _ _ _ (Oper.mk (some _) (Op.binOp BinOp.quo _ _ _ _) _ _ _ none :: _) _ _ _; first | refine X.quoI rfl rfl (by omega) ?_ | refine X.go rfl ?_)
    | (show XO _ _ _ (Oper.mk (some _) (Op.binOp BinOp.rem _ _ _ _) _ _ _ none :: _) _ _ _; first | refine X.remI rfl rfl (by omega) ?_ | refine X.go rfl ?_)
    | (show XO _ _ _ (Oper.mk (some _) (Op.convert _ _ _) _ _ _ none :: _) _ _ _; first | refine X.cvI rfl rfl rfl (w64R (by omega)) ?_ | refine X.cvI rfl rfl rfl (wU8 (by omega)) ?_ | refine X.cvI rfl rfl rfl (wU16 (by omega)) ?_ | refine X.cvI rfl rfl rfl (wU32 (by omega)) ?_ | refine X.cvI rfl rfl rfl (wU64 (by omega)) ?_ | refine X.go rfl ?_)
    | (show XO _ _ _ (Oper.mk (some _) (Op.indexAddr _ _ _) _ _ _ none :: _) _ _ _; first | refine X.iaS rfl rfl (by omega) ?_ | refine X.iaO rfl rfl (by omega) rfl ?_ | refine X.go rfl ?_)
    | (show XO _ _ _ (Oper.mk (some _) (Op.load _ _) _ _ _ none :: _) _ _ _; first | refine X.go rfl ?_ | refine X.ldO rfl rfl (by omega) ?_ | refine X.ldA rfl rfl (by omega) rfl ?_)
    | (show XO _ _ _ (Oper.mk (some _) (_) _ _ _ none :: _) _ _ _; first | refine X.go rfl ?_ | refine X.shl rfl rfl (by first | omega | exact Int.natCast_nonneg _) ?_ | refine X.shr rfl rfl (by first | omega | exact Int.natCast_nonneg _) ?_)
    | (show XO _ _ _ (Oper.mk _ _ _ _ _ (some _) :: _) _ _ _; first | refine X.hy rfl (by (conv => lhs; whnf) <;> rfl) (by first | with_reducible rfl | with_reducible exact notT | with_reducible exact notF) ?_ | refine X.hnt rfl (by (conv => lhs; whnf) <;> rfl) (by first | with_reducible rfl | with_reducible exact notT | with_reducible exact notF) ?_ | refine X.hnf rfl (by (conv => lhs; whnf) <;> rfl) (by first | with_reducible rfl | with_reducible exact notT | with_reducible exact notF) ?_ | refine X.hu rfl (by (conv => lhs; whnf) <;> rfl) (by with_reducible rfl) ?_ | refine X.hpt rfl (by (conv => lhs; whnf) <;> rfl) (by with_reducible rfl) (by first | omega | decide) ?_ | refine X.hpf rfl (by (conv => lhs; whnf) <;> rfl) (by with_reducible rfl) (by first | omega | decide) ?_ | refine X.hqt rfl (by (conv => lhs; whnf) <;> rfl) (by with_reducible rfl) (by first | omega | decide) ?_ | refine X.hqf rfl (by (conv => lhs; whnf) <;> rfl) (by with_reducible rfl) (by first | omega | decide) ?_ | refine X.hp rfl (by (conv => lhs; whnf) <;> rfl) (by with_reducible rfl) (fun h => ?_) (fun h => ?_) | refine X.hq rfl (by (conv => lhs; whnf) <;> rfl) (by with_reducible rfl) (fun h => ?_) (fun h => ?_) | refine X.hb rfl (by (conv => lhs; whnf) <;> rfl) (by with_reducible rfl) (fun h => ?_) (fun h => ?_))
    | (show XO _ _ _ (Oper.mk none _ _ _ _ none :: _) _ _ _; refine X.st rfl ?_)
    | (show XO _ _ _ [] _ _ _; refine X.nil ?_)
    | (show AO _ _ _ (Oper.mk (some _) (Op.move _) _ _ _ none :: _) _ _ _; refine A.mv ?_)
    | (show AO _ _ _ (Oper.mk (some _) (Op.assign _) _ _ _ none :: _) _ _ _; refine A.as ?_)
    | (show AO _ _ _ (Oper.mk (some _) (Op.call (Call.mk (Callee.builtin Builtin.len) _ _)) _ _ _ none :: _) _ _ _; first | refine A.lnS rfl ?_ | refine A.lnO rfl ?_ | refine A.go rfl ?_)
    | (show AO _ _ _ (Oper.mk (some _) (Op.call _) _ _ _ none :: _) _ _ _; first | refine A.go rfl ?_)
    | (show AO _ _ _ (Oper.mk (some _) (Op.binOp BinOp.add _ _ _ _) _ _ _ none :: _) _ _ _; first | refine A.addI rfl rfl (by omega) ?_ | refine A.go rfl ?_)
    | (show AO _ _ _ (Oper.mk (some _) (Op.binOp BinOp.sub _ _ _ _) _ _ _ none :: _) _ _ _; first | refine A.subI rfl rfl (by omega) ?_ | refine A.go rfl ?_)
    | (show AO _ _ _ (Oper.mk (some _) (Op.binOp BinOp.mul _ _ _ _) _ _ _ none :: _) _ _ _; first | refine A.mulI rfl rfl (by omega) ?_ | refine A.go rfl ?_)
    | (show AO _ _ _ (Oper.mk (some _) (Op.binOp BinOp.quo _ _ _ _) _ _ _ none :: _) _ _ _; first | refine A.quoI rfl rfl (by omega) ?_ | refine A.go rfl ?_)
    | (show AO _ _ _ (Oper.mk (some _) (Op.binOp BinOp.rem _ _ _ _) _ _ _ none :: _) _ _ _; first | refine A.remI rfl rfl (by omega) ?_ | refine A.go rfl ?_)
    | (show AO _ _ _ (Oper.mk (some _) (Op.convert _ _ _) _ _ _ none :: _) _ _ _; first | refine A.cvI rfl rfl rfl (w64R (by omega)) ?_ | refine A.cvI rfl rfl rfl (wU8 (by omega)) ?_ | refine A.cvI rfl rfl rfl (wU16 (by omega)) ?_ | refine A.cvI rfl rfl rfl (wU32 (by omega)) ?_ | refine A.cvI rfl rfl rfl (wU64 (by omega)) ?_ | refine A.go rfl ?_)
    | (show AO _ _ _ (Oper.mk (some _) (Op.indexAddr _ _ _) _ _ _ none :: _) _ _ _; first | refine A.iaS rfl rfl (by omega) ?_ | refine A.iaO rfl rfl (by omega) rfl ?_ | refine A.go rfl ?_)
    | (show AO _ _ _ (Oper.mk (some _) (Op.load _ _) _ _ _ none :: _) _ _ _; first | refine A.go rfl ?_ | refine A.ldO rfl rfl (by omega) ?_ | refine A.ldA rfl rfl (by omega) rfl ?_)
    | (show AO _ _ _ (Oper.mk (some _) (_) _ _ _ none :: _) _ _ _; first | refine A.go rfl ?_ | refine A.shl rfl rfl (by first | omega | exact Int.natCast_nonneg _) ?_ | refine A.shr rfl rfl (by first | omega | exact Int.natCast_nonneg _) ?_)
    | (show AO _ _ _ (Oper.mk _ _ _ _ _ (some _) :: _) _ _ _; first | refine A.hy rfl (by (conv => lhs; whnf) <;> rfl) (by first | with_reducible rfl | with_reducible exact notT | with_reducible exact notF) ?_ | refine A.hnt rfl (by (conv => lhs; whnf) <;> rfl) (by first | with_reducible rfl | with_reducible exact notT | with_reducible exact notF) ?_ | refine A.hnf rfl (by (conv => lhs; whnf) <;> rfl) (by first | with_reducible rfl | with_reducible exact notT | with_reducible exact notF) ?_ | refine A.hu rfl (by (conv => lhs; whnf) <;> rfl) (by with_reducible rfl) ?_ | refine A.hpt rfl (by (conv => lhs; whnf) <;> rfl) (by with_reducible rfl) (by first | omega | decide) ?_ | refine A.hpf rfl (by (conv => lhs; whnf) <;> rfl) (by with_reducible rfl) (by first | omega | decide) ?_ | refine A.hqt rfl (by (conv => lhs; whnf) <;> rfl) (by with_reducible rfl) (by first | omega | decide) ?_ | refine A.hqf rfl (by (conv => lhs; whnf) <;> rfl) (by with_reducible rfl) (by first | omega | decide) ?_ | refine A.hp rfl (by (conv => lhs; whnf) <;> rfl) (by with_reducible rfl) (fun h => ?_) (fun h => ?_) | refine A.hq rfl (by (conv => lhs; whnf) <;> rfl) (by with_reducible rfl) (fun h => ?_) (fun h => ?_) | refine A.hb rfl (by (conv => lhs; whnf) <;> rfl) (by with_reducible rfl) (fun h => ?_) (fun h => ?_))
    | (show AO _ _ _ [] _ _ _; refine A.nil ?_)
    | (show CW _ _ _ _ (Code.seq (Code.region _ _ false) _) _ _ _; refine W.rq ?_)
    | (show CW _ _ _ _ (Code.region _ _ false) _ _ _; refine W.rz ?_)
    | (show CW _ _ _ _ (Code.seq (Code.region _ _ true) _) _ _ _; first | refine W.dq 0 ?_ | refine W.dq 1 ?_ | refine W.dq 2 ?_ | refine W.dq 3 ?_ | refine W.dq 4 ?_ | refine W.dq 5 ?_ | refine W.dq 6 ?_ | refine W.dq 7 ?_ | refine W.dq 8 ?_ | refine W.dq 9 ?_ | refine W.dq 10 ?_ | refine W.dq 11 ?_)
    | (show CW _ _ _ _ (Code.region _ _ true) _ _ _; first | refine W.dz 0 ?_ | refine W.dz 1 ?_ | refine W.dz 2 ?_ | refine W.dz 3 ?_ | refine W.dz 4 ?_ | refine W.dz 5 ?_ | refine W.dz 6 ?_ | refine W.dz 7 ?_ | refine W.dz 8 ?_ | refine W.dz 9 ?_ | refine W.dz 10 ?_ | refine W.dz 11 ?_)
    | (show CW _ _ _ _ (Code.cond _ _ _) _ _ _; first | refine W.jt (by (conv => lhs; whnf) <;> rfl) (by first | with_reducible rfl | with_reducible exact notT | with_reducible exact notF) ?_ | refine W.jf (by (conv => lhs; whnf) <;> rfl) (by first | with_reducible rfl | with_reducible exact notT | with_reducible exact notF) ?_ | refine W.jpt (by (conv => lhs; whnf) <;> rfl) (by with_reducible rfl) (by first | omega | decide) ?_ | refine W.jpf (by (conv => lhs; whnf) <;> rfl) (by with_reducible rfl) (by first | omega | decide) ?_ | refine W.jqt (by (conv => lhs; whnf) <;> rfl) (by with_reducible rfl) (by first | omega | decide) ?_ | refine W.jqf (by (conv => lhs; whnf) <;> rfl) (by with_reducible rfl) (by first | omega | decide) ?_ | refine W.jp (by (conv => lhs; whnf) <;> rfl) (by with_reducible rfl) (fun h => ?_) (fun h => ?_) | refine W.jq (by (conv => lhs; whnf) <;> rfl) (by with_reducible rfl) (fun h => ?_) (fun h => ?_) | refine W.jb (by (conv => lhs; whnf) <;> rfl) (by with_reducible rfl) (fun h => ?_) (fun h => ?_))
    | (show CW _ _ _ _ _ _ _ _; first | refine W.kr ?_ | refine W.kn ?_ | refine W.ke ?_ | refine W.bl ?_ | refine W.sq ?_)
    | (show KO _ _ _ _; first | refine K.sn ?_ | refine K.sr ?_ | refine K.se ?_ | refine K.bn ?_ | refine K.br ?_ | refine K.be ?_ | refine K.bx rfl ?_ | refine K.lr ?_ | refine K.le ?_)
    | (show KO _ _ _ _; first | refine K.ya rfl ?_)
    | refine K.nx ?_
    | refine K.re ?_
    | refine K.dr ?_
  refine W.lp (fun m st => ∃ (i : Nat), st.env 0 = .int .i64 n ∧ st.env 3 = .int .i64 ((2 ^ i : Nat) : Int) ∧ st.L = L ∧ (i ≤ 10 ∧ ∀ q, q < i → n ≠ ((2 ^ q : Nat) : Int)) ∧ m = 10 - i) _ ⟨0, rfl, rfl, rfl, ?_, rfl⟩ ?_
  · exact ⟨by omega, fun q hq => absurd hq (Nat.not_lt_zero q)⟩
  rintro m env L ⟨i, e0, e3, eL, hI, hm⟩
  dsimp only at e0 e3 eL
  subst eL
  refine W.ev 0 e0 ?_
  refine W.ev 3 e3 ?_
  obtain ⟨hi, hq⟩ := hI
  have hb := two_pow_bound (j := i) (by omega)
  repeat' first
    | (show XO _ _ _ (Oper.mk (some _) (Op.move _) _ _ _ none :: _) _ _ _; refine X.mv ?_)
    | (show XO _ _ _ (Oper.mk (some _) (Op.assign _) _ _ _ none :: _) _ _ _; refine X.as ?_)
    | (show XO _ _ _ (Oper.mk (some _) (Op.call (Call.mk (Callee.builtin Builtin.len) _ _)) _ _ _ none :: _) _ _ _; first | refine X.lnS rfl ?_ | refine X.lnO rfl ?_ | refine X.go rfl ?_)
    | (show XO _ _ _ (Oper.mk (some _) (Op.call _) _ _ _ none :: _) _ _ _; first | refine X.go rfl ?_)
    | (show XO _ _ _ (Oper.mk (some _) (Op.binOp BinOp.add _ _ _ _) _ _ _ none :: _) _ _ _; first | refine X.addI rfl rfl (by omega) ?_ | refine X.go rfl ?_)
    | (show XO _ _ _ (Oper.mk (some _) (Op.binOp BinOp.sub _ _ _ _) _ _ _ none :: _) _ _ _; first | refine X.subI rfl rfl (by omega) ?_ | refine X.go rfl ?_)
    | (show XO _ _ _ (Oper.mk (some _) (Op.binOp BinOp.mul _ _ _ _) _ _ _ none :: _) _ _ _; first | refine X.mulI rfl rfl (by omega) ?_ | refine X.go rfl ?_)
    | (show XO _ _ _ (Oper.mk (some _) (Op.binOp BinOp.quo _ _ _ _) _ _ _ none :: _) _ _ _; first | refine X.quoI rfl rfl (by omega) ?_ | refine X.go rfl ?_)
    | (show XO _ _ _ (Oper.mk (some _) (Op.binOp BinOp.rem _ _ _ _) _ _ _ none :: _) _ _ _; first | refine X.remI rfl rfl (by omega) ?_ | refine X.go rfl ?_)
    | (show XO _ _ _ (Oper.mk (some _) (Op.convert _ _ _) _ _ _ none :: _) _ _ _; first | refine X.cvI rfl rfl rfl (w64R (by omega)) ?_ | refine X.cvI rfl rfl rfl (wU8 (by omega)) ?_ | refine X.cvI rfl rfl rfl (wU16 (by omega)) ?_ | refine X.cvI rfl rfl rfl (wU32 (by omega)) ?_ | refine X.cvI rfl rfl rfl (wU64 (by omega)) ?_ | refine X.go rfl ?_)
    | (show XO _ _ _ (Oper.mk (some _) (Op.indexAddr _ _ _) _ _ _ none :: _) _ _ _; first | refine X.iaS rfl rfl (by omega) ?_ | refine X.iaO rfl rfl (by omega) rfl ?_ | refine X.go rfl ?_)
    | (show XO _ _ _ (Oper.mk (some _) (Op.load _ _) _ _ _ none :: _) _ _ _; first | refine X.go rfl ?_ | refine X.ldO rfl rfl (by omega) ?_ | refine X.ldA rfl rfl (by omega) rfl ?_)
    | (show XO _ _ _ (Oper.mk (some _) (_) _ _ _ none :: _) _ _ _; first | refine X.go rfl ?_ | refine X.shl rfl rfl (by first | omega | exact Int.natCast_nonneg _) ?_ | refine X.shr rfl rfl (by first | omega | exact Int.natCast_nonneg _) ?_)
    | (show XO _ _ _ (Oper.mk _ _ _ _ _ (some _) :: _) _ _ _; first | refine X.hy rfl (by (conv => lhs; whnf) <;> rfl) (by first | with_reducible rfl | with_reducible exact notT | with_reducible exact notF) ?_ | refine X.hnt rfl (by (conv => lhs; whnf) <;> rfl) (by first | with_reducible rfl | with_reducible exact notT | with_reducible exact notF) ?_ | refine X.hnf rfl (by (conv => lhs; whnf) <;> rfl) (by first | with_reducible rfl | with_reducible exact notT | with_reducible exact notF) ?_ | refine X.hu rfl (by (conv => lhs; whnf) <;> rfl) (by with_reducible rfl) ?_ | refine X.hpt rfl (by (conv => lhs; whnf) <;> rfl) (by with_reducible rfl) (by first | omega | decide) ?_ | refine X.hpf rfl (by (conv => lhs; whnf) <;> rfl) (by with_reducible rfl) (by first | omega | decide) ?_ | refine X.hqt rfl (by (conv => lhs; whnf) <;> rfl) (by with_reducible rfl) (by first | omega | decide) ?_ | refine X.hqf rfl (by (conv => lhs; whnf) <;> rfl) (by with_reducible rfl) (by first | omega | decide) ?_ | refine X.hp rfl (by (conv => lhs; whnf) <;> rfl) (by with_reducible rfl) (fun h => ?_) (fun h => ?_) | refine X.hq rfl (by (conv => lhs; whnf) <;> rfl) (by with_reducible rfl) (fun h => ?_) (fun h => ?_) | refine X.hb rfl (by (conv => lhs; whnf) <;> rfl) (by with_reducible rfl) (fun h => ?_) (fun h => ?_))
    | (show XO _ _ _ (Oper.mk none _ _ _ _ none :: _) _ _ _; refine X.st rfl ?_)
    | (show XO _ _ _ [] _ _ _; refine X.nil ?_)
    | (show AO _ _ _ (Oper.mk (some _) (Op.move _) _ _ _ none :: _) _ _ _; refine A.mv ?_)
    | (show AO _ _ _ (Oper.mk (some _) (Op.assign _) _ _ _ none :: _) _ _ _; refine A.as ?_)
    | (show AO _ _ _ (Oper.mk (some _) (Op.call (Call.mk (Callee.builtin Builtin.len) _ _)) _ _ _ none :: _) _ _ _; first | refine A.lnS rfl ?_ | refine A.lnO rfl ?_ | refine A.go rfl ?_)
    | (show AO _ _ _ (Oper.mk (some _) (Op.call _) _ _ _ none :: _) _ _ _; first | refine A.go rfl ?_)
    | (show AO _ _ _ (Oper.mk (some _) (Op.binOp BinOp.add _ _ _ _) _ _ _ none :: _) _ _ _; first | refine A.addI rfl rfl (by omega) ?_ | refine A.go rfl ?_)
    | (show AO _ _ _ (Oper.mk (some _) (Op.binOp BinOp.sub _ _ _ _) _ _ _ none :: _) _ _ _; first | refine A.subI rfl rfl (by omega) ?_ | refine A.go rfl ?_)
    | (show AO _ _ _ (Oper.mk (some _) (Op.binOp BinOp.mul _ _ _ _) _ _ _ none :: _) _ _ _; first | refine A.mulI rfl rfl (by omega) ?_ | refine A.go rfl ?_)
    | (show AO _ _ _ (Oper.mk (some _) (Op.binOp BinOp.quo _ _ _ _) _ _ _ none :: _) _ _ _; first | refine A.quoI rfl rfl (by omega) ?_ | refine A.go rfl ?_)
    | (show AO _ _ _ (Oper.mk (some _) (Op.binOp BinOp.rem _ _ _ _) _ _ _ none :: _) _ _ _; first | refine A.remI rfl rfl (by omega) ?_ | refine A.go rfl ?_)
    | (show AO _ _ _ (Oper.mk (some _) (Op.convert _ _ _) _ _ _ none :: _) _ _ _; first | refine A.cvI rfl rfl rfl (w64R (by omega)) ?_ | refine A.cvI rfl rfl rfl (wU8 (by omega)) ?_ | refine A.cvI rfl rfl rfl (wU16 (by omega)) ?_ | refine A.cvI rfl rfl rfl (wU32 (by omega)) ?_ | refine A.cvI rfl rfl rfl (wU64 (by omega)) ?_ | refine A.go rfl ?_)
    | (show AO _ _ _ (Oper.mk (some _) (Op.indexAddr _ _ _) _ _ _ none :: _) _ _ _; first | refine A.iaS rfl rfl (by omega) ?_ | refine A.iaO rfl rfl (by omega) rfl ?_ | refine A.go rfl ?_)
    | (show AO _ _ _ (Oper.mk (some _) (Op.load _ _) _ _ _ none :: _) _ _ _; first | refine A.go rfl ?_ | refine A.ldO rfl rfl (by omega) ?_ | refine A.ldA rfl rfl (by omega) rfl ?_)
    | (show AO _ _ _ (Oper.mk (some _) (_) _ _ _ none :: _) _ _ _; first | refine A.go rfl ?_ | refine A.shl rfl rfl (by first | omega | exact Int.natCast_nonneg _) ?_ | refine A.shr rfl rfl (by first | omega | exact Int.natCast_nonneg _) ?_)
    | (show AO _ _ _ (Oper.mk _ _ _ _ _ (some _) :: _) _ _ _; first | refine A.hy rfl (by (conv => lhs; whnf) <;> rfl) (by first | with_reducible rfl | with_reducible exact notT | with_reducible exact notF) ?_ | refine A.hnt rfl (by (conv => lhs; whnf) <;> rfl) (by first | with_reducible rfl | with_reducible exact notT | with_reducible exact notF) ?_ | refine A.hnf rfl (by (conv => lhs; whnf) <;> rfl) (by first | with_reducible rfl | with_reducible exact notT | with_reducible exact notF) ?_ | refine A.hu rfl (by (conv => lhs; whnf) <;> rfl) (by with_reducible rfl) ?_ | refine A.hpt rfl (by (conv => lhs; whnf) <;> rfl) (by with_reducible rfl) (by first | omega | decide) ?_ | refine A.hpf rfl (by (conv => lhs; whnf) <;> rfl) (by with_reducible rfl) (by first | omega | decide) ?_ | refine A.hqt rfl (by (conv => lhs; whnf) <;> rfl) (by with_reducible rfl) (by first | omega | decide) ?_ | refine A.hqf rfl (by (conv => lhs; whnf) <;> rfl) (by with_reducible rfl) (by first | omega | decide) ?_ | refine A.hp rfl (by (conv => lhs; whnf) <;> rfl) (by with_reducible rfl) (fun h => ?_) (fun h => ?_) | refine A.hq rfl (by (conv => lhs; whnf) <;> rfl) (by with_reducible rfl) (fun h => ?_) (fun h => ?_) | refine A.hb rfl (by (conv => lhs; whnf) <;> rfl) (by with_reducible rfl) (fun h => ?_) (fun h => ?_))
    | (show AO _ _ _ [] _ _ _; refine A.nil ?_)
    | (show CW _ _ _ _ (Code.seq (Code.region _ _ false) _) _ _ _; refine W.rq ?_)
    | (show CW _ _ _ _ (Code.region _ _ false) _ _ _; refine W.rz ?_)
    | (show CW _ _ _ _ (Code.seq (Code.region _ _ true) _) _ _ _; first | refine W.dq 0 ?_ | refine W.dq 1 ?_ | refine W.dq 2 ?_ | refine W.dq 3 ?_ | refine W.dq 4 ?_ | refine W.dq 5 ?_ | refine W.dq 6 ?_ | refine W.dq 7 ?_ | refine W.dq 8 ?_ | refine W.dq 9 ?_ | refine W.dq 10 ?_ | refine W.dq 11 ?_)
    | (show CW _ _ _ _ (Code.region _ _ true) _ _ _; first | refine W.dz 0 ?_ | refine W.dz 1 ?_ | refine W.dz 2 ?_ | refine W.dz 3 ?_ | refine W.dz 4 ?_ | refine W.dz 5 ?_ | refine W.dz 6 ?_ | refine W.dz 7 ?_ | refine W.dz 8 ?_ | refine W.dz 9 ?_ | refine W.dz 10 ?_ | refine W.dz 11 ?_)
    | (show CW _ _ _ _ (Code.cond _ _ _) _ _ _; first | refine W.jt (by (conv => lhs; whnf) <;> rfl) (by first | with_reducible rfl | with_reducible exact notT | with_reducible exact notF) ?_ | refine W.jf (by (conv => lhs; whnf) <;> rfl) (by first | with_reducible rfl | with_reducible exact notT | with_reducible exact notF) ?_ | refine W.jpt (by (conv => lhs; whnf) <;> rfl) (by with_reducible rfl) (by first | omega | decide) ?_ | refine W.jpf (by (conv => lhs; whnf) <;> rfl) (by with_reducible rfl) (by first | omega | decide) ?_ | refine W.jqt (by (conv => lhs; whnf) <;> rfl) (by with_reducible rfl) (by first | omega | decide) ?_ | refine W.jqf (by (conv => lhs; whnf) <;> rfl) (by with_reducible rfl) (by first | omega | decide) ?_ | refine W.jp (by (conv => lhs; whnf) <;> rfl) (by with_reducible rfl) (fun h => ?_) (fun h => ?_) | refine W.jq (by (conv => lhs; whnf) <;> rfl) (by with_reducible rfl) (fun h => ?_) (fun h => ?_) | refine W.jb (by (conv => lhs; whnf) <;> rfl) (by with_reducible rfl) (fun h => ?_) (fun h => ?_))
    | (show CW _ _ _ _ _ _ _ _; first | refine W.kr ?_ | refine W.kn ?_ | refine W.ke ?_ | refine W.bl ?_ | refine W.sq ?_)
    | (show KO _ _ _ _; first | refine K.sn ?_ | refine K.sr ?_ | refine K.se ?_ | refine K.bn ?_ | refine K.br ?_ | refine K.be ?_ | refine K.bx rfl ?_ | refine K.lr ?_ | refine K.le ?_ | refine K.ln _ ?_ ⟨i + 1, rfl, vI (dbl i), rfl, ?_, rfl⟩)
    | (show KO _ _ _ _; first | refine K.ya rfl ?_)
    | refine K.nx ?_
    | refine K.re ?_
    | refine K.dr ?_
  · have : i < 10 := by
      by_cases h10 : i = 10
      · subst h10; simp at *
      · omega
    omega
  · refine ⟨?_, fun q hq' => ?_⟩
    · by_cases h10 : i = 10
      · subst h10; simp at *
      · omega
    · by_cases hqi : q = i
      · subst hqi; exact fun h' => ‹¬ _ = n› h'.symm
      · exact hq q (by omega)
  · refine end_data rfl rfl (vB ?_)
    rw [decide_eq_true ‹_›, ← ‹_ = n›]
    exact (isT_of (by omega)).symm
  · refine end_data rfl rfl (vB ?_)
    have h10 : i = 10 := by
      by_cases h10 : i = 10
      · exact h10
      · have := pow_mono (show i < 10 by omega)
        omega
    subst h10
    by_cases hn : ((2 ^ 10 : Nat) : Int) = n
    · rw [decide_eq_true hn, ← hn]; exact (isT_of (by omega)).symm
    · rw [decide_eq_false hn]
      symm
      rw [Bool.eq_false_iff]
      intro ht
      obtain ⟨j, hj, e⟩ := isT_pow ht
      by_cases hj10 : j = 10
      · subst hj10; exact hn e.symm
      · exact hq j (by omega) e

theorem refNode (H : ZT Z) (x n : Int) (L : List Go.Pv.Obj) : SE Tryd.prog Z 35 [.int .i64 x, .int .i64 n] L (.bool (isN x n)) L := by
  have ht : isT n = true → n ≤ 1024 ∧ 1 ≤ n := fun h => (isT_le h).symm
  refine SE.data H.z Tryd.func35 rfl ?_
  cases hT : isT n with
  | true =>
    obtain ⟨h1, h2⟩ := ht hT
    have hc := refTree H n
    rw [hT] at hc
    repeat' first
      | (show XO _ _ _ (Oper.mk (some _) (Op.move _) _ _ _ none :: _) _ _ _; refine X.mv ?_)
      | (show XO _ _ _ (Oper.mk (some _) (Op.assign _) _ _ _ none :: _) _ _ _; refine X.as ?_)
      | (show XO _ _ _ (Oper.mk (some _) (Op.call (Call.mk (Callee.builtin Builtin.len) _ _)) _ _ _ none :: _) _ _ _; first | refine X.lnS rfl ?_ | refine X.lnO rfl ?_ | refine X.go rfl ?_)
      | (show XO _ _ _ (Oper.mk (some _) (Op.call _) _ _ _ none :: _) _ _ _; first | refine X.call (hc _) ?_ | refine X.go rfl ?_)
      | (show XO _ _ _ (Oper.mk (some _) (Op.binOp BinOp.add _ _ _ _) _ _ _ none :: _) _ _ _; first | refine X.addI rfl rfl (by omega) ?_ | refine X.go rfl ?_)
      | (show XO _ _ _ (Oper.mk (some _) (Op.binOp BinOp.sub _ _ _ _) _ _ _ none :: _) _ _ _; first | refine X.subI rfl rfl (by omega) ?_ | refine X.go rfl ?_)
      | (show XO _ _ _ (Oper.mk (some _) (Op.binOp BinOp.mul _ _ _ _) _ _ _ none :: _) _ _ _; first | refine X.mulI rfl rfl (by omega) ?_ | refine X.go rfl ?_)
      | (show XO _ _ _ (Oper.mk (some _) (Op.binOp BinOp.quo _ _ _ _) _ _ _ none :: _) _ _ _; first | refine X.quoI rfl rfl (by omega) ?_ | refine X.go rfl ?_)
      | (show XO _ _ _ (Oper.mk (some _) (Op.binOp BinOp.rem _ _ _ _) _ _ _ none :: _) _ _ _; first | refine X.remI rfl rfl (by omega) ?_ | refine X.go rfl ?_)
      | (show XO _ _ _ (Oper.mk (some _) (Op.convert _ _ _) _ _ _ none :: _) _ _ _; first | refine X.cvI rfl rfl rfl (w64R (by omega)) ?_ | refine X.cvI rfl rfl rfl (wU8 (by omega)) ?_ | refine X.cvI rfl rfl rfl (wU16 (by omega)) ?_ | refine X.cvI rfl rfl rfl (wU32 (by omega)) ?_ | refine X.cvI rfl rfl rfl (wU64 (by omega)) ?_ | refine X.go rfl ?_)
      | (show XO _ _ _ (Oper.mk (some _) (Op.indexAddr _ _ _) _ _ _ none :: _) _ _ _; first | refine X.iaS rfl rfl (by omega) ?_ | refine X.iaO rfl rfl (by omega) rfl ?_ | refine X.go rfl ?_)
      | (show XO _ _ _ (Oper.mk (some _) (Op.load _ _) _ _ _ none :: _) _ _ _; first | refine X.go rfl ?_ | refine X.ldO rfl rfl (by omega) ?_ | refine X.ldA rfl rfl (by omega) rfl ?_)
      | (show XO _ _ _ (Oper.mk (some _) (_) _ _ _ none :: _) _ _ _; first | refine X.go rfl ?_ | refine X.shl rfl rfl (by first | omega | exact Int.natCast_nonneg _) ?_ | refine X.shr rfl rfl (by first | omega | exact Int.natCast_nonneg _) ?_)
      | (show XO _ _ _ (Oper.mk _ _ _ _ _ (some _) :: _) _ _ _; first | refine X.hy rfl (by (conv => lhs; whnf) <;> rfl) (by first | with_reducible rfl | with_reducible exact notT | with_reducible exact notF) ?_ | refine X.hnt rfl (by (conv => lhs; whnf) <;> rfl) (by first | with_reducible rfl | with_reducible exact notT | with_reducible exact notF) ?_ | refine X.hnf rfl (by (conv => lhs; whnf) <;> rfl) (by first | with_reducible rfl | with_reducible exact notT | with_reducible exact notF) ?_ | refine X.hu rfl (by (conv => lhs; whnf) <;> rfl) (by with_reducible rfl) ?_ | refine X.hpt rfl (by (conv => lhs; whnf) <;> rfl) (by with_reducible rfl) (by first | omega | decide) ?_ | refine X.hpf rfl (by (conv => lhs; whnf) <;> rfl) (by with_reducible rfl) (by first | omega | decide) ?_ | refine X.hqt rfl (by (conv => lhs; whnf) <;> rfl) (by with_reducible rfl) (by first | omega | decide) ?_ | refine X.hqf rfl (by (conv => lhs; whnf) <;> rfl) (by with_reducible rfl) (by first | omega | decide) ?_ | refine X.hp rfl (by (conv => lhs; whnf) <;> rfl) (by with_reducible rfl) (fun h => ?_) (fun h => ?_) | refine X.hq rfl (by (conv => lhs; whnf) <;> rfl) (by with_reducible rfl) (fun h => ?_) (fun h => ?_) | refine X.hb rfl (by (conv => lhs; whnf) <;> rfl) (by with_reducible rfl) (fun h => ?_) (fun h => ?_))
      | (show XO _ _ _ (Oper.mk none _ _ _ _ none :: _) _ _ _; refine X.st rfl ?_)
      | (show XO _ _ _ [] _ _ _; refine X.nil ?_)
      | (show AO _ _ _ (Oper.mk (some _) (Op.move _) _ _ _ none :: _) _ _ _; refine A.mv ?_)
      | (show AO _ _ _ (Oper.mk (some _) (Op.assign _) _ _ _ none :: _) _ _ _; refine A.as ?_)
      | (show AO _ _ _ (Oper.mk (some _) (Op.call (Call.mk (Callee.builtin Builtin.len) _ _)) _ _ _ none :: _) _ _ _; first | refine A.lnS rfl ?_ | refine A.lnO rfl ?_ | refine A.go rfl ?_)
      | (show AO _ _ _ (Oper.mk (some _) (Op.call _) _ _ _ none :: _) _ _ _; first | refine A.call (hc _) ?_ | refine A.go rfl ?_)
      | (show AO _ _ _ (Oper.mk (some _) (Op.binOp BinOp.add _ _ _ _) _ _ _ none :: _) _ _ _; first | refine A.addI rfl rfl (by omega) ?_ | refine A.go rfl ?_)
      | (show AO _ _ _ (Oper.mk (some _) (Op.binOp BinOp.sub _ _ _ _) _ _ _ none :: _) _ _ _; first | refine A.subI rfl rfl (by omega) ?_ | refine A.go rfl ?_)
      | (show AO _ _ _ (Oper.mk (some _) (Op.binOp BinOp.mul _ _ _ _) _ _ _ none :: _) _ _ _; first | refine A.mulI rfl rfl (by omega) ?_ | refine A.go rfl ?_)
      | (show AO _ _ _ (Oper.mk (some _) (Op.binOp BinOp.quo _ _ _ _) _ _ _ none :: _) _ _ _; first | refine A.quoI rfl rfl (by omega) ?_ | refine A.go rfl ?_)
      | (show AO _ _ _ (Oper.mk (some _) (Op.binOp BinOp.rem _ _ _ _) _ _ _ none :: _) _ _ _; first | refine A.remI rfl rfl (by omega) ?_ | refine A.go rfl ?_)
      | (show AO _ _ _ (Oper.mk (some _) (Op.convert _ _ _) _ _ _ none :: _) _ _ _; first | refine A.cvI rfl rfl rfl (w64R (by omega)) ?_ | refine A.cvI rfl rfl rfl (wU8 (by omega)) ?_ | refine A.cvI rfl rfl rfl (wU16 (by omega)) ?_ | refine A.cvI rfl rfl rfl (wU32 (by omega)) ?_ | refine A.cvI rfl rfl rfl (wU64 (by omega)) ?_ | refine A.go rfl ?_)
      | (show AO _ _ _ (Oper.mk (some _) (Op.indexAddr _ _ _) _ _ _ none :: _) _ _ _; first | refine A.iaS rfl rfl (by omega) ?_ | refine A.iaO rfl rfl (by omega) rfl ?_ | refine A.go rfl ?_)
      | (show AO _ _ _ (Oper.mk (some _) (Op.load _ _) _ _ _ none :: _) _ _ _; first | refine A.go rfl ?_ | refine A.ldO rfl rfl (by omega) ?_ | refine A.ldA rfl rfl (by omega) rfl ?_)
      | (show AO _ _ _ (Oper.mk (some _) (_) _ _ _ none :: _) _ _ _; first | refine A.go rfl ?_ | refine A.shl rfl rfl (by first | omega | exact Int.natCast_nonneg _) ?_ | refine A.shr rfl rfl (by first | omega | exact Int.natCast_nonneg _) ?_)
      | (show AO _ _ _ (Oper.mk _ _ _ _ _ (some _) :: _) _ _ _; first | refine A.hy rfl (by (conv => lhs; whnf) <;> rfl) (by first | with_reducible rfl | with_reducible exact notT | with_reducible exact notF) ?_ | refine A.hnt rfl (by (conv => lhs; whnf) <;> rfl) (by first | with_reducible rfl | with_reducible exact notT | with_reducible exact notF) ?_ | refine A.hnf rfl (by (conv => lhs; whnf) <;> rfl) (by first | with_reducible rfl | with_reducible exact notT | with_reducible exact notF) ?_ | refine A.hu rfl (by (conv => lhs; whnf) <;> rfl) (by with_reducible rfl) ?_ | refine A.hpt rfl (by (conv => lhs; whnf) <;> rfl) (by with_reducible rfl) (by first | omega | decide) ?_ | refine A.hpf rfl (by (conv => lhs; whnf) <;> rfl) (by with_reducible rfl) (by first | omega | decide) ?_ | refine A.hqt rfl (by (conv => lhs; whnf) <;> rfl) (by with_reducible rfl) (by first | omega | decide) ?_ | refine A.hqf rfl (by (conv => lhs; whnf) <;> rfl) (by with_reducible rfl) (by first | omega | decide) ?_ | refine A.hp rfl (by (conv => lhs; whnf) <;> rfl) (by with_reducible rfl) (fun h => ?_) (fun h => ?_) | refine A.hq rfl (by (conv => lhs; whnf) <;> rfl) (by with_reducible rfl) (fun h => ?_) (fun h => ?_) | refine A.hb rfl (by (conv => lhs; whnf) <;> rfl) (by with_reducible rfl) (fun h => ?_) (fun h => ?_))
      | (show AO _ _ _ [] _ _ _; refine A.nil ?_)
      | (show CW _ _ _ _ (Code.seq (Code.region _ _ false) _) _ _ _; refine W.rq ?_)
      | (show CW _ _ _ _ (Code.region _ _ false) _ _ _; refine W.rz ?_)
      | (show CW _ _ _ _ (Code.seq (Code.region _ _ true) _) _ _ _; first | refine W.dq 0 ?_ | refine W.dq 1 ?_ | refine W.dq 2 ?_ | refine W.dq 3 ?_ | refine W.dq 4 ?_ | refine W.dq 5 ?_ | refine W.dq 6 ?_ | refine W.dq 7 ?_ | refine W.dq 8 ?_ | refine W.dq 9 ?_ | refine W.dq 10 ?_ | refine W.dq 11 ?_)
      | (show CW _ _ _ _ (Code.region _ _ true) _ _ _; first | refine W.dz 0 ?_ | refine W.dz 1 ?_ | refine W.dz 2 ?_ | refine W.dz 3 ?_ | refine W.dz 4 ?_ | refine W.dz 5 ?_ | refine W.dz 6 ?_ | refine W.dz 7 ?_ | refine W.dz 8 ?_ | refine W.dz 9 ?_ | refine W.dz 10 ?_ | refine W.dz 11 ?_)
      | (show CW _ _ _ _ (Code.cond _ _ _) _ _ _; first | refine W.jt (by (conv => lhs; whnf) <;> rfl) (by first | with_reducible rfl | with_reducible exact notT | with_reducible exact notF) ?_ | refine W.jf (by (conv => lhs; whnf) <;> rfl) (by first | with_reducible rfl | with_reducible exact notT | with_reducible exact notF) ?_ | refine W.jpt (by (conv => lhs; whnf) <;> rfl) (by with_reducible rfl) (by first | omega | decide) ?_ | refine W.jpf (by (conv => lhs; whnf) <;> rfl) (by with_reducible rfl) (by first | omega | decide) ?_ | refine W.jqt (by (conv => lhs; whnf) <;> rfl) (by with_reducible rfl) (by first | omega | decide) ?_ | refine W.jqf (by (conv => lhs; whnf) <;> rfl) (by with_reducible rfl) (by first | omega | decide) ?_ | refine W.jp (by (conv => lhs; whnf) <;> rfl) (by with_reducible rfl) (fun h => ?_) (fun h => ?_) | refine W.jq (by (conv => lhs; whnf) <;> rfl) (by with_reducible rfl) (fun h => ?_) (fun h => ?_) | refine W.jb (by (conv => lhs; whnf) <;> rfl) (by with_reducible rfl) (fun h => ?_) (fun h => ?_))
      | (show CW _ _ _ _ _ _ _ _; first | refine W.kr ?_ | refine W.kn ?_ | refine W.ke ?_ | refine W.bl ?_ | refine W.sq ?_)
      | (show KO _ _ _ _; first | refine K.sn ?_ | refine K.sr ?_ | refine K.se ?_ | refine K.bn ?_ | refine K.br ?_ | refine K.be ?_ | refine K.bx rfl ?_ | refine K.lr ?_ | refine K.le ?_)
      | (show KO _ _ _ _; first | refine K.ya rfl ?_)
      | refine K.nx ?_
      | refine K.re ?_
      | refine K.dr ?_
    all_goals refine end_data rfl rfl (vB ?_)
    all_goals unfold isN
    all_goals simp [*]
  | false =>
    have hc := refTree H n
    rw [hT] at hc
    repeat' first
      | (show XO _ _ _ (Oper.mk (some _) (Op.move _) _ _ _ none :: _) _ _ _; refine X.mv ?_)
      | (show XO _ _ _ (Oper.mk (some _) (Op.assign _) _ _ _ none :: _) _ _ _; refine X.as ?_)
      | (show XO _ _ _ (Oper.mk (some _) (Op.call (Call.mk (Callee.builtin Builtin.len) _ _)) _ _ _ none :: _) _ _ _; first | refine X.lnS rfl ?_ | refine X.lnO rfl ?_ | refine X.go rfl ?_)
      | (show XO _ _ _ (Oper.mk (some _) (Op.call _) _ _ _ none :: _) _ _ _; first | refine X.call (hc _) ?_ | refine X.go rfl ?_)
      | (show XO _ _ _ (Oper.mk (some _) (Op.binOp BinOp.add _ _ _ _) _ _ _ none :: _) _ _ _; first | refine X.addI rfl rfl (by omega) ?_ | refine X.go rfl ?_)
      | (show XO _ _ _ (Oper.mk (some _) (Op.binOp BinOp.sub _ _ _ _) _ _ _ none :: _) _ _ _; first | refine X.subI rfl rfl (by omega) ?_ | refine X.go rfl ?_)
      | (show XO _ _ _ (Oper.mk (some _) (Op.binOp BinOp.mul _ _ _ _) _ _ _ none :: _) _ _ _; first | refine X.mulI rfl rfl (by omega) ?_ | refine X.go rfl ?_)
      | (show XO _ _ _ (Oper.mk (some _) (Op.binOp BinOp.quo _ _ _ _) _ _ _ none :: _) _ _ _; first | refine X.quoI rfl rfl (by omega) ?_ | refine X.go rfl ?_)
      | (show XO _ _ _ (Oper.mk (some _) (Op.binOp BinOp.rem _ _ _ _) _ _ _ none :: _) _ _ _; first | refine X.remI rfl rfl (by omega) ?_ | refine X.go rfl ?_)
      | (show XO _ _ _ (Oper.mk (some _) (Op.convert _ _ _) _ _ _ none :: _) _ _ _; first | refine X.cvI rfl rfl rfl (w64R (by omega)) ?_ | refine X.cvI rfl rfl rfl (wU8 (by omega)) ?_ | refine X.cvI rfl rfl rfl (wU16 (by omega)) ?_ | refine X.cvI rfl rfl rfl (wU32 (by omega)) ?_ | refine X.cvI rfl rfl rfl (wU64 (by omega)) ?_ | refine X.go rfl ?_)
      | (show XO _ _ _ (Oper.mk (some _) (Op.indexAddr _ _ _) _ _ _ none :: _) _ _ _; first | refine X.iaS rfl rfl (by omega) ?_ | refine X.iaO rfl rfl (by omega) rfl ?_ | refine X.go rfl ?_)
      | (show XO _ _ _ (Oper.mk (some _) (Op.load _ _) _ _ _ none :: _) _ _ _; first | refine X.go rfl ?_ | refine X.ldO rfl rfl (by omega) ?_ | refine X.ldA rfl rfl (by omega) rfl ?_)
      | (show XO _ _ _ (Oper.mk (some _) (_) _ _ _ none :: _) _ _ _; first | refine X.go rfl ?_ | refine X.shl rfl rfl (by first | omega | exact Int.natCast_nonneg _) ?_ | refine X.shr rfl rfl (by first | omega | exact Int.natCast_nonneg _) ?_)
      | (show XO _ _ _ (Oper.mk _ _ _ _ _ (some _) :: _) _ _ _; first | refine X.hy rfl (by (conv => lhs; whnf) <;> rfl) (by first | with_reducible rfl | with_reducible exact notT | with_reducible exact notF) ?_ | refine X.hnt rfl (by (conv => lhs; whnf) <;> rfl) (by first | with_reducible rfl | with_reducible exact notT | with_reducible exact notF) ?_ | refine X.hnf rfl (by (conv => lhs; whnf) <;> rfl) (by first | with_reducible rfl | with_reducible exact notT | with_reducible exact notF) ?_ | refine X.hu rfl (by (conv => lhs; whnf) <;> rfl) (by with_reducible rfl) ?_ | refine X.hpt rfl (by (conv => lhs; whnf) <;> rfl) (by with_reducible rfl) (by first | omega | decide) ?_ | refine X.hpf rfl (by (conv => lhs; whnf) <;> rfl) (by with_reducible rfl) (by first | omega | decide) ?_ | refine X.hqt rfl (by (conv => lhs; whnf) <;> rfl) (by with_reducible rfl) (by first | omega | decide) ?_ | refine X.hqf rfl (by (conv => lhs; whnf) <;> rfl) (by with_reducible rfl) (by first | omega | decide) ?_ | refine X.hp rfl (by (conv => lhs; whnf) <;> rfl) (by with_reducible rfl) (fun h => ?_) (fun h => ?_) | refine X.hq rfl (by (conv => lhs; whnf) <;> rfl) (by with_reducible rfl) (fun h => ?_) (fun h => ?_) | refine X.hb rfl (by (conv => lhs; whnf) <;> rfl) (by with_reducible rfl) (fun h => ?_) (fun h => ?_))
      | (show XO _ _ _ (Oper.mk none _ _ _ _ none :: _) _ _ _; refine X.st rfl ?_)
      | (show XO _ _ _ [] _ _ _; refine X.nil ?_)
      | (show AO _ _ _ (Oper.mk (some _) (Op.move _) _ _ _ none :: _) _ _ _; refine A.mv ?_)
      | (show AO _ _ _ (Oper.mk (some _) (Op.assign _) _ _ _ none :: _) _ _ _; refine A.as ?_)
      | (show AO _ _ _ (Oper.mk (some _) (Op.call (Call.mk (Callee.builtin Builtin.len) _ _)) _ _ _ none :: _) _ _ _; first | refine A.lnS rfl ?_ | refine A.lnO rfl ?_ | refine A.go rfl ?_)
      | (show AO _ _ _ (Oper.mk (some _) (Op.call _) _ _ _ none :: _) _ _ _; first | refine A.call (hc _) ?_ | refine A.go rfl ?_)
      | (show AO _ _ _ (Oper.mk (some _) (Op.binOp BinOp.add _ _ _ _) _ _ _ none :: _) _ _ _; first | refine A.addI rfl rfl (by omega) ?_ | refine A.go rfl ?_)
      | (show AO _ _ _ (Oper.mk (some _) (Op.binOp BinOp.sub _ _ _ _) _ _ _ none :: _) _ _ _; first | refine A.subI rfl rfl (by omega) ?_ | refine A.go rfl ?_)
      | (show AO _ _ _ (Oper.mk (some _) (Op.binOp BinOp.mul _ _ _ _) _ _ _ none :: _) _ _ _; first | refine A.mulI rfl rfl (by omega) ?_ | refine A.go rfl ?_)
      | (show AO _ _ _ (Oper.mk (some _) (Op.binOp BinOp.quo _ _ _ _) _ _ _ none :: _) _ _ _; first | refine A.quoI rfl rfl (by omega) ?_ | refine A.go rfl ?_)
      | (show AO _ _ _ (Oper.mk (some _) (Op.binOp BinOp.rem _ _ _ _) _ _ _ none :: _) _ _ _; first | refine A.remI rfl rfl (by omega) ?_ | refine A.go rfl ?_)
      | (show AO _ _ _ (Oper.mk (some _) (Op.convert _ _ _) _ _ _ none :: _) _ _ _; first | refine A.cvI rfl rfl rfl (w64R (by omega)) ?_ | refine A.cvI rfl rfl rfl (wU8 (by omega)) ?_ | refine A.cvI rfl rfl rfl (wU16 (by omega)) ?_ | refine A.cvI rfl rfl rfl (wU32 (by omega)) ?_ | refine A.cvI rfl rfl rfl (wU64 (by omega)) ?_ | refine A.go rfl ?_)
      | (show AO _ _ _ (Oper.mk (some _) (Op.indexAddr _ _ _) _ _ _ none :: _) _ _ _; first | refine A.iaS rfl rfl (by omega) ?_ | refine A.iaO rfl rfl (by omega) rfl ?_ | refine A.go rfl ?_)
      | (show AO _ _ _ (Oper.mk (some _) (Op.load _ _) _ _ _ none :: _) _ _ _; first | refine A.go rfl ?_ | refine A.ldO rfl rfl (by omega) ?_ | refine A.ldA rfl rfl (by omega) rfl ?_)
      | (show AO _ _ _ (Oper.mk (some _) (_) _ _ _ none :: _) _ _ _; first | refine A.go rfl ?_ | refine A.shl rfl rfl (by first | omega | exact Int.natCast_nonneg _) ?_ | refine A.shr rfl rfl (by first | omega | exact Int.natCast_nonneg _) ?_)
      | (show AO _ _ _ (Oper.mk _ _ _ _ _ (some _) :: _) _ _ _; first | refine A.hy rfl (by (conv => lhs; whnf) <;> rfl) (by first | with_reducible rfl | with_reducible exact notT | with_reducible exact notF) ?_ | refine A.hnt rfl (by (conv => lhs; whnf) <;> rfl) (by first | with_reducible rfl | with_reducible exact notT | with_reducible exact notF) ?_ | refine A.hnf rfl (by (conv => lhs; whnf) <;> rfl) (by first | with_reducible rfl | with_reducible exact notT | with_reducible exact notF) ?_ | refine A.hu rfl (by (conv => lhs; whnf) <;> rfl) (by with_reducible rfl) ?_ | refine A.hpt rfl (by (conv => lhs; whnf) <;> rfl) (by with_reducible rfl) (by first | omega | decide) ?_ | refine A.hpf rfl (by (conv => lhs; whnf) <;> rfl) (by with_reducible rfl) (by first | omega | decide) ?_ | refine A.hqt rfl (by (conv => lhs; whnf) <;> rfl) (by with_reducible rfl) (by first | omega | decide) ?_ | refine A.hqf rfl (by (conv => lhs; whnf) <;> rfl) (by with_reducible rfl) (by first | omega | decide) ?_ | refine A.hp rfl (by (conv => lhs; whnf) <;> rfl) (by with_reducible rfl) (fun h => ?_) (fun h => ?_) | refine A.hq rfl (by (conv => lhs; whnf) <;> rfl) (by with_reducible rfl) (fun h => ?_) (fun h => ?_) | refine A.hb rfl (by (conv => lhs; whnf) <;> rfl) (by with_reducible rfl) (fun h => ?_) (fun h => ?_))
      | (show AO _ _ _ [] _ _ _; refine A.nil ?_)
      | (show CW _ _ _ _ (Code.seq (Code.region _ _ false) _) _ _ _; refine W.rq ?_)
      | (show CW _ _ _ _ (Code.region _ _ false) _ _ _; refine W.rz ?_)
      | (show CW _ _ _ _ (Code.seq (Code.region _ _ true) _) _ _ _; first | refine W.dq 0 ?_ | refine W.dq 1 ?_ | refine W.dq 2 ?_ | refine W.dq 3 ?_ | refine W.dq 4 ?_ | refine W.dq 5 ?_ | refine W.dq 6 ?_ | refine W.dq 7 ?_ | refine W.dq 8 ?_ | refine W.dq 9 ?_ | refine W.dq 10 ?_ | refine W.dq 11 ?_)
      | (show CW _ _ _ _ (Code.region _ _ true) _ _ _; first | refine W.dz 0 ?_ | refine W.dz 1 ?_ | refine W.dz 2 ?_ | refine W.dz 3 ?_ | refine W.dz 4 ?_ | refine W.dz 5 ?_ | refine W.dz 6 ?_ | refine W.dz 7 ?_ | refine W.dz 8 ?_ | refine W.dz 9 ?_ | refine W.dz 10 ?_ | refine W.dz 11 ?_)
      | (show CW _ _ _ _ (Code.cond _ _ _) _ _ _; first | refine W.jt (by (conv => lhs; whnf) <;> rfl) (by first | with_reducible rfl | with_reducible exact notT | with_reducible exact notF) ?_ | refine W.jf (by (conv => lhs; whnf) <;> rfl) (by first | with_reducible rfl | with_reducible exact notT | with_reducible exact notF) ?_ | refine W.jpt (by (conv => lhs; whnf) <;> rfl) (by with_reducible rfl) (by first | omega | decide) ?_ | refine W.jpf (by (conv => lhs; whnf) <;> rfl) (by with_reducible rfl) (by first | omega | decide) ?_ | refine W.jqt (by (conv => lhs; whnf) <;> rfl) (by with_reducible rfl) (by first | omega | decide) ?_ | refine W.jqf (by (conv => lhs; whnf) <;> rfl) (by with_reducible rfl) (by first | omega | decide) ?_ | refine W.jp (by (conv => lhs; whnf) <;> rfl) (by with_reducible rfl) (fun h => ?_) (fun h => ?_) | refine W.jq (by (conv => lhs; whnf) <;> rfl) (by with_reducible rfl) (fun h => ?_) (fun h => ?_) | refine W.jb (by (conv => lhs; whnf) <;> rfl) (by with_reducible rfl) (fun h => ?_) (fun h => ?_))
      | (show CW _ _ _ _ _ _ _ _; first | refine W.kr ?_ | refine W.kn ?_ | refine W.ke ?_ | refine W.bl ?_ | refine W.sq ?_)
      | (show KO _ _ _ _; first | refine K.sn ?_ | refine K.sr ?_ | refine K.se ?_ | refine K.bn ?_ | refine K.br ?_ | refine K.be ?_ | refine K.bx rfl ?_ | refine K.lr ?_ | refine K.le ?_)
      | (show KO _ _ _ _; first | refine K.ya rfl ?_)
      | refine K.nx ?_
      | refine K.re ?_
      | refine K.dr ?_
    all_goals refine end_data rfl rfl (vB ?_)
    all_goals unfold isN
    all_goals simp [*]
theorem refWidth (H : ZT Z) (n : Int) (L : List Go.Pv.Obj) : SE Tryd.prog Z 26 [.int .i64 n] L (.tup [.int .i64 (widthV n).1, .int .i64 (widthV n).2]) L := by
  have ht : isT n = true → n ≤ 1024 ∧ 1 ≤ n := fun h => (isT_le h).symm
  refine SE.data H.z Tryd.func26 rfl ?_
  cases hT : isT n with
  | true =>
    obtain ⟨h1, h2⟩ := ht hT
    have hc := refTree H n
    rw [hT] at hc
    repeat' first
      | (show XO _ _ _ (Oper.mk (some _) (Op.move _) _ _ _ none :: _) _ _ _; refine X.mv ?_)
      | (show XO _ _ _ (Oper.mk (some _) (Op.assign _) _ _ _ none :: _) _ _ _; refine X.as ?_)
      | (show XO _ _ _ (Oper.mk (some _) (Op.call (Call.mk (Callee.builtin Builtin.len) _ _)) _ _ _ none :: _) _ _ _; first | refine X.lnS rfl ?_ | refine X.lnO rfl ?_ | refine X.go rfl ?_)
      | (show XO _ _ _ (Oper.mk (some _) (Op.call _) _ _ _ none :: _) _ _ _; first | refine X.call (hc _) ?_ | refine X.go rfl ?_)
      | (show XO _ _ _ (Oper.mk (some _) (Op.binOp BinOp.add _ _ _ _) _ _ _ none :: _) _ _ _; first | refine X.addI rfl rfl (by omega) ?_ | refine X.go rfl ?_)
      | (show XO _ _ _ (Oper.mk (some _) (Op.binOp BinOp.sub _ _ _ _) _ _ _ none :: _) _ _ _; first | refine X.subI rfl rfl (by omega) ?_ | refine X.go rfl ?_)
      | (show XO _ _ _ (Oper.mk (some _) (Op.binOp BinOp.mul _ _ _ _) _ _ _ none :: _) _ _ _; first | refine X.mulI rfl rfl (by omega) ?_ | refine X.go rfl ?_)
      | (show XO _ _ _ (Oper.mk (some _) (Op.binOp BinOp.quo _ _ _ _) _ _ _ none :: _) _ _ _; first | refine X.quoI rfl rfl (by omega) ?_ | refine X.go rfl ?_)
      | (show XO _ _ _ (Oper.mk (some _) (Op.binOp BinOp.rem _ _ _ _) _ _ _ none :: _) _ _ _; first | refine X.remI rfl rfl (by omega) ?_ | refine X.go rfl ?_)
      | (show XO _ _ _ (Oper.mk (some _) (Op.convert _ _ _) _ _ _ none :: _) _ _ _; first | refine X.cvI rfl rfl rfl (w64R (by omega)) ?_ | refine X.cvI rfl rfl rfl (wU8 (by omega)) ?_ | refine X.cvI rfl rfl rfl (wU16 (by omega)) ?_ | refine X.cvI rfl rfl rfl (wU32 (by omega)) ?_ | refine X.cvI rfl rfl rfl (wU64 (by omega)) ?_ | refine X.go rfl ?_)
      | (show XO _ _ _ (Oper.mk (some _) (Op.indexAddr _ _ _) _ _ _ none :: _) _ _ _; first | refine X.iaS rfl rfl (by omega) ?_ | refine X.iaO rfl rfl (by omega) rfl ?_ | refine X.go rfl ?_)
      | (show XO _ _ _ (Oper.mk (some _) (Op.load _ _) _ _ _ none :: _) _ _ _; first | refine X.go rfl ?_ | refine X.ldO rfl rfl (by omega) ?_ | refine X.ldA rfl rfl (by omega) rfl ?_)
      | (show XO _ _ _ (Oper.mk (some _) (_) _ _ _ none :: _) _ _ _; first | refine X.go rfl ?_ | refine X.shl rfl rfl (by first | omega | exact Int.natCast_nonneg _) ?_ | refine X.shr rfl rfl (by first | omega | exact Int.natCast_nonneg _) ?_)
      | (show XO _ _ _ (Oper.mk _ _ _ _ _ (some _) :: _) _ _ _; first | refine X.hy rfl (by (conv => lhs; whnf) <;> rfl) (by first | with_reducible rfl | with_reducible exact notT | with_reducible exact notF) ?_ | refine X.hnt rfl (by (conv => lhs; whnf) <;> rfl) (by first | with_reducible rfl | with_reducible exact notT | with_reducible exact notF) ?_ | refine X.hnf rfl (by (conv => lhs; whnf) <;> rfl) (by first | with_reducible rfl | with_reducible exact notT | with_reducible exact notF) ?_ | refine X.hu rfl (by (conv => lhs; whnf) <;> rfl) (by with_reducible rfl) ?_ | refine X.hpt rfl (by (conv => lhs; whnf) <;> rfl) (by with_reducible rfl) (by first | omega | decide) ?_ | refine X.hpf rfl (by (conv => lhs; whnf) <;> rfl) (by with_reducible rfl) (by first | omega | decide) ?_ | refine X.hqt rfl (by (conv => lhs; whnf) <;> rfl) (by with_reducible rfl) (by first | omega | decide) ?_ | refine X.hqf rfl (by (conv => lhs; whnf) <;> rfl) (by with_reducible rfl) (by first | omega | decide) ?_ | refine X.hp rfl (by (conv => lhs; whnf) <;> rfl) (by with_reducible rfl) (fun h => ?_) (fun h => ?_) | refine X.hq rfl (by (conv => lhs; whnf) <;> rfl) (by with_reducible rfl) (fun h => ?_) (fun h => ?_) | refine X.hb rfl (by (conv => lhs; whnf) <;> rfl) (by with_reducible rfl) (fun h => ?_) (fun h => ?_))
      | (show XO _ _ _ (Oper.mk none _ _ _ _ none :: _) _ _ _; refine X.st rfl ?_)
      | (show XO _ _ _ [] _ _ _; refine X.nil ?_)
      | (show AO _ _ _ (Oper.mk (some _) (Op.move _) _ _ _ none :: _) _ _ _; refine A.mv ?_)
      | (show AO _ _ _ (Oper.mk (some _) (Op.assign _) _ _ _ none :: _) _ _ _; refine A.as ?_)
      | (show AO _ _ _ (Oper.mk (some _) (Op.call (Call.mk (Callee.builtin Builtin.len) _ _)) _ _ _ none :: _) _ _ _; first | refine A.lnS rfl ?_ | refine A.lnO rfl ?_ | refine A.go rfl ?_)
      | (show AO _ _ _ (Oper.mk (some _) (Op.call _) _ _ _ none :: _) _ _ _; first | refine A.call (hc _) ?_ | refine A.go rfl ?_)
      | (show AO _ _ _ (Oper.mk (some _) (Op.binOp BinOp.add _ _ _ _) _ _ _ none :: _) _ _ _; first | refine A.addI rfl rfl (by omega) ?_ | refine A.go rfl ?_)
      | (show AO _ _ _ (Oper.mk (some _) (Op.binOp BinOp.sub _ _ _ _) _ _ _ none :: _) _ _ _; first | refine A.subI rfl rfl (by omega) ?_ | refine A.go rfl ?_)
      | (show AO _ _ _ (Oper.mk (some _) (Op.binOp BinOp.mul _ _ _ _) _ _ _ none :: _) _ _ _; first | refine A.mulI rfl rfl (by omega) ?_ | refine A.go rfl ?_)
      | (show AO _ _ _ (Oper.mk (some _) (Op.binOp BinOp.quo _ _ _ _) _ _ _ none :: _) _ _ _; first | refine A.quoI rfl rfl (by omega) ?_ | refine A.go rfl ?_)
      | (show AO _ _ _ (Oper.mk (some _) (Op.binOp BinOp.rem _ _ _ _) _ _ _ none :: _) _ _ _; first | refine A.remI rfl rfl (by omega) ?_ | refine A.go rfl ?_)
      | (show AO _ _ _ (Oper.mk (some _) (Op.convert _ _ _) _ _ _ none :: _) _ _ _; first | refine A.cvI rfl rfl rfl (w64R (by omega)) ?_ | refine A.cvI rfl rfl rfl (wU8 (by omega)) ?_ | refine A.cvI rfl rfl rfl (wU16 (by omega)) ?_ | refine A.cvI rfl rfl rfl (wU32 (by omega)) ?_ | refine A.cvI rfl rfl rfl (wU64 (by omega)) ?_ | refine A.go rfl ?_)
      | (show AO _ _ _ (Oper.mk (some _) (Op.indexAddr _ _ _) _ _ _ none :: _) _ _ _; first | refine A.iaS rfl rfl (by omega) ?_ | refine A.iaO rfl rfl (by omega) rfl ?_ | refine A.go rfl ?_)
      | (show AO _ _ _ (Oper.mk (some _) (Op.load _ _) _ _ _ none :: _) _ _ _; first | refine A.go rfl ?_ | refine A.ldO rfl rfl (by omega) ?_ | refine A.ldA rfl rfl (by omega) rfl ?_)
      | (show AO _ _ _ (Oper.mk (some _) (_) _ _ _ none :: _) _ _ _; first | refine A.go rfl ?_ | refine A.shl rfl rfl (by first | omega | exact Int.natCast_nonneg _) ?_ | refine A.shr rfl rfl (by first | omega | exact Int.natCast_nonneg _) ?_)
      | (show AO _ _ _ (Oper.mk _ _ _ _ _ (some _) :: _) _ _ _; first | refine A.hy rfl (by (conv => lhs; whnf) <;> rfl) (by first | with_reducible rfl | with_reducible exact notT | with_reducible exact notF) ?_ | refine A.hnt rfl (by (conv => lhs; whnf) <;> rfl) (by first | with_reducible rfl | with_reducible exact notT | with_reducible exact notF) ?_ | refine A.hnf rfl (by (conv => lhs; whnf) <;> rfl) (by first | with_reducible rfl | with_reducible exact notT | with_reducible exact notF) ?_ | refine A.hu rfl (by (conv => lhs; whnf) <;> rfl) (by with_reducible rfl) ?_ | refine A.hpt rfl (by (conv => lhs; whnf) <;> rfl) (by with_reducible rfl) (by first | omega | decide) ?_ | refine A.hpf rfl (by (conv => lhs; whnf) <;> rfl) (by with_reducible rfl) (by first | omega | decide) ?_ | refine A.hqt rfl (by (conv => lhs; whnf) <;> rfl) (by with_reducible rfl) (by first | omega | decide) ?_ | refine A.hqf rfl (by (conv => lhs; whnf) <;> rfl) (by with_reducible rfl) (by first | omega | decide) ?_ | refine A.hp rfl (by (conv => lhs; whnf) <;> rfl) (by with_reducible rfl) (fun h => ?_) (fun h => ?_) | refine A.hq rfl (by (conv => lhs; whnf) <;> rfl) (by with_reducible rfl) (fun h => ?_) (fun h => ?_) | refine A.hb rfl (by (conv => lhs; whnf) <;> rfl) (by with_reducible rfl) (fun h => ?_) (fun h => ?_))
      | (show AO _ _ _ [] _ _ _; refine A.nil ?_)
      | (show CW _ _ _ _ (Code.seq (Code.region _ _ false) _) _ _ _; refine W.rq ?_)
      | (show CW _ _ _ _ (Code.region _ _ false) _ _ _; refine W.rz ?_)
      | (show CW _ _ _ _ (Code.seq (Code.region _ _ true) _) _ _ _; first | refine W.dq 0 ?_ | refine W.dq 1 ?_ | refine W.dq 2 ?_ | refine W.dq 3 ?_ | refine W.dq 4 ?_ | refine W.dq 5 ?_ | refine W.dq 6 ?_ | refine W.dq 7 ?_ | refine W.dq 8 ?_ | refine W.dq 9 ?_ | refine W.dq 10 ?_ | refine W.dq 11 ?_)
      | (show CW _ _ _ _ (Code.region _ _ true) _ _ _; first | refine W.dz 0 ?_ | refine W.dz 1 ?_ | refine W.dz 2 ?_ | refine W.dz 3 ?_ | refine W.dz 4 ?_ | refine W.dz 5 ?_ | refine W.dz 6 ?_ | refine W.dz 7 ?_ | refine W.dz 8 ?_ | refine W.dz 9 ?_ | refine W.dz 10 ?_ | refine W.dz 11 ?_)
      | (show CW _ _ _ _ (Code.cond _ _ _) _ _ _; first | refine W.jt (by (conv => lhs; whnf) <;> rfl) (by first | with_reducible rfl | with_reducible exact notT | with_reducible exact notF) ?_ | refine W.jf (by (conv => lhs; whnf) <;> rfl) (by first | with_reducible rfl | with_reducible exact notT | with_reducible exact notF) ?_ | refine W.jpt (by (conv => lhs; whnf) <;> rfl) (by with_reducible rfl) (by first | omega | decide) ?_ | refine W.jpf (by (conv => lhs; whnf) <;> rfl) (by with_reducible rfl) (by first | omega | decide) ?_ | refine W.jqt (by (conv => lhs; whnf) <;> rfl) (by with_reducible rfl) (by first | omega | decide) ?_ | refine W.jqf (by (conv => lhs; whnf) <;> rfl) (by with_reducible rfl) (by first | omega | decide) ?_ | refine W.jp (by (conv => lhs; whnf) <;> rfl) (by with_reducible rfl) (fun h => ?_) (fun h => ?_) | refine W.jq (by (conv => lhs; whnf) <;> rfl) (by with_reducible rfl) (fun h => ?_) (fun h => ?_) | refine W.jb (by (conv => lhs; whnf) <;> rfl) (by with_reducible rfl) (fun h => ?_) (fun h => ?_))
      | (show CW _ _ _ _ _ _ _ _; first | refine W.kr ?_ | refine W.kn ?_ | refine W.ke ?_ | refine W.bl ?_ | refine W.sq ?_)
      | (show KO _ _ _ _; first | refine K.sn ?_ | refine K.sr ?_ | refine K.se ?_ | refine K.bn ?_ | refine K.br ?_ | refine K.be ?_ | refine K.bx rfl ?_ | refine K.lr ?_ | refine K.le ?_)
      | (show KO _ _ _ _; first | refine K.ya rfl ?_)
      | refine K.nx ?_
      | refine K.re ?_
      | refine K.dr ?_
    refine end_data rfl rfl (vII ?_ ?_)
    all_goals unfold widthV; rw [if_pos hT]
  | false =>
    have hc := refTree H n
    rw [hT] at hc
    repeat' first
      | (show XO _ _ _ (Oper.mk (some _) (Op.move _) _ _ _ none :: _) _ _ _; refine X.mv ?_)
      | (show XO _ _ _ (Oper.mk (some _) (Op.assign _) _ _ _ none :: _) _ _ _; refine X.as ?_)
      | (show XO _ _ _ (Oper.mk (some _) (Op.call (Call.mk (Callee.builtin Builtin.len) _ _)) _ _ _ none :: _) _ _ _; first | refine X.lnS rfl ?_ | refine X.lnO rfl ?_ | refine X.go rfl ?_)
      | (show XO _ _ _ (Oper.mk (some _) (Op.call _) _ _ _ none :: _) _ _ _; first | refine X.call (hc _) ?_ | refine X.go rfl ?_)
      | (show XO _ _ _ (Oper.mk (some _) (Op.binOp BinOp.add _ _ _ _) _ _ _ none :: _) _ _ _; first | refine X.addI rfl rfl (by omega) ?_ | refine X.go rfl ?_)
      | (show XO _ _ _ (Oper.mk (some _) (Op.binOp BinOp.sub _ _ _ _) _ _ _ none :: _) _ _ _; first | refine X.subI rfl rfl (by omega) ?_ | refine X.go rfl ?_)
      | (show XO _ _ _ (Oper.mk (some _) (Op.binOp BinOp.mul _ _ _ _) _ _ _ none :: _) _ _ _; first | refine X.mulI rfl rfl (by omega) ?_ | refine X.go rfl ?_)
      | (show XO _ _ _ (Oper.mk (some _) (Op.binOp BinOp.quo _ _ _ _) _ _ _ none :: _) _ _ _; first | refine X.quoI rfl rfl (by omega) ?_ | refine X.go rfl ?_)
      | (show XO _ _ _ (Oper.mk (some _) (Op.binOp BinOp.rem _ _ _ _) _ _ _ none :: _) _ _ _; first | refine X.remI rfl rfl (by omega) ?_ | refine X.go rfl ?_)
      | (show XO _ _ _ (Oper.mk (some _) (Op.convert _ _ _) _ _ _ none :: _) _ _ _; first | refine X.cvI rfl rfl rfl (w64R (by omega)) ?_ | refine X.cvI rfl rfl rfl (wU8 (by omega)) ?_ | refine X.cvI rfl rfl rfl (wU16 (by omega)) ?_ | refine X.cvI rfl rfl rfl (wU32 (by omega)) ?_ | refine X.cvI rfl rfl rfl (wU64 (by omega)) ?_ | refine X.go rfl ?_)
      | (show XO _ _ _ (Oper.mk (some _) (Op.indexAddr _ _ _) _ _ _ none :: _) _ _ _; first | refine X.iaS rfl rfl (by omega) ?_ | refine X.iaO rfl rfl (by omega) rfl ?_ | refine X.go rfl ?_)
      | (show XO _ _ _ (Oper.mk (some _) (Op.load _ _) _ _ _ none :: _) _ _ _; first | refine X.go rfl ?_ | refine X.ldO rfl rfl (by omega) ?_ | refine X.ldA rfl rfl (by omega) rfl ?_)
      | (show XO _ _ _ (Oper.mk (some _) (_) _ _ _ none :: _) _ _ _; first | refine X.go rfl ?_ | refine X.shl rfl rfl (by first | omega | exact Int.natCast_nonneg _) ?_ | refine X.shr rfl rfl (by first | omega | exact Int.natCast_nonneg _) ?_)
      | (show XO _ _ _ (Oper.mk _ _ _ _ _ (some _) :: _) _ _ _; first | refine X.hy rfl (by (conv => lhs; whnf) <;> rfl) (by first | with_reducible rfl | with_reducible exact notT | with_reducible exact notF) ?_ | refine X.hnt rfl (by (conv => lhs; whnf) <;> rfl) (by first | with_reducible rfl | with_reducible exact notT | with_reducible exact notF) ?_ | refine X.hnf rfl (by (conv => lhs; whnf) <;> rfl) (by first | with_reducible rfl | with_reducible exact notT | with_reducible exact notF) ?_ | refine X.hu rfl (by (conv => lhs; whnf) <;> rfl) (by with_reducible rfl) ?_ | refine X.hpt rfl (by (conv => lhs; whnf) <;> rfl) (by with_reducible rfl) (by first | omega | decide) ?_ | refine X.hpf rfl (by (conv => lhs; whnf) <;> rfl) (by with_reducible rfl) (by first | omega | decide) ?_ | refine X.hqt rfl (by (conv => lhs; whnf) <;> rfl) (by with_reducible rfl) (by first | omega | decide) ?_ | refine X.hqf rfl (by (conv => lhs; whnf) <;> rfl) (by with_reducible rfl) (by first | omega | decide) ?_ | refine X.hp rfl (by (conv => lhs; whnf) <;> rfl) (by with_reducible rfl) (fun h => ?_) (fun h => ?_) | refine X.hq rfl (by (conv => lhs; whnf) <;> rfl) (by with_reducible rfl) (fun h => ?_) (fun h => ?_) | refine X.hb rfl (by (conv => lhs; whnf) <;> rfl) (by with_reducible rfl) (fun h => ?_) (fun h => ?_))
      | (show XO _ _ _ (Oper.mk none _ _ _ _ none :: _) _ _ _; refine X.st rfl ?_)
      | (show XO _ _ _ [] _ _ _; refine X.nil ?_)
      | (show AO _ _ _ (Oper.mk (some _) (Op.move _) _ _ _ none :: _) _ _ _; refine A.mv ?_)
      | (show AO _ _ _ (Oper.mk (some _) (Op.assign _) _ _ _ none :: _) _ _ _; refine A.as ?_)
      | (show AO _ _ _ (Oper.mk (some _) (Op.call (Call.mk (Callee.builtin Builtin.len) _ _)) _ _ _ none :: _) _ _ _; first | refine A.lnS rfl ?_ | refine A.lnO rfl ?_ | refine A.go rfl ?_)
      | (show AO _ _ _ (Oper.mk (some _) (Op.call _) _ _ _ none :: _) _ _ _; first | refine A.call (hc _) ?_ | refine A.go rfl ?_)
      | (show AO _ _ _ (Oper.mk (some _) (Op.binOp BinOp.add _ _ _ _) _ _ _ none :: _) _ _ _; first | refine A.addI rfl rfl (by omega) ?_ | refine A.go rfl ?_)
      | (show AO _ _ _ (Oper.mk (some _) (Op.binOp BinOp.sub _ _ _ _) _ _ _ none :: _) _ _ _; first | refine A.subI rfl rfl (by omega) ?_ | refine A.go rfl ?_)
      | (show AO _ _ _ (Oper.mk (some _) (Op.binOp BinOp.mul _ _ _ _) _ _ _ none :: _) _ _ _; first | refine A.mulI rfl rfl (by omega) ?_ | refine A.go rfl ?_)
      | (show AO _ _ _ (Oper.mk (some _) (Op.binOp BinOp.quo _ _ _ _) _ _ _ none :: _) _ _ _; first | refine A.quoI rfl rfl (by omega) ?_ | refine A.go rfl ?_)
      | (show AO _ _ _ (Oper.mk (some _) (Op.binOp BinOp.rem _ _ _ _) _ _ _ none :: _) _ _ _; first | refine A.remI rfl rfl (by omega) ?_ | refine A.go rfl ?_)
      | (show AO _ _ _ (Oper.mk (some _) (Op.convert _ _ _) _ _ _ none :: _) _ _ _; first | refine A.cvI rfl rfl rfl (w64R (by omega)) ?_ | refine A.cvI rfl rfl rfl (wU8 (by omega)) ?_ | refine A.cvI rfl rfl rfl (wU16 (by omega)) ?_ | refine A.cvI rfl rfl rfl (wU32 (by omega)) ?_ | refine A.cvI rfl rfl rfl (wU64 (by omega)) ?_ | refine A.go rfl ?_)
      | (show AO _ _ _ (Oper.mk (some _) (Op.indexAddr _ _ _) _ _ _ none :: _) _ _ _; first | refine A.iaS rfl rfl (by omega) ?_ | refine A.iaO rfl rfl (by omega) rfl ?_ | refine A.go rfl ?_)
      | (show AO _ _ _ (Oper.mk (some _) (Op.load _ _) _ _ _ none :: _) _ _ _; first | refine A.go rfl ?_ | refine A.ldO rfl rfl (by omega) ?_ | refine A.ldA rfl rfl (by omega) rfl ?_)
      | (show AO _ _ _ (Oper.mk (some _) (_) _ _ _ none :: _) _ _ _; first | refine A.go rfl ?_ | refine A.shl rfl rfl (by first | omega | exact Int.natCast_nonneg _) ?_ | refine A.shr rfl rfl (by first | omega | exact Int.natCast_nonneg _) ?_)
      | (show AO _ _ _ (Oper.mk _ _ _ _ _ (some _) :: _) _ _ _; first | refine A.hy rfl (by (conv => lhs; whnf) <;> rfl) (by first | with_reducible rfl | with_reducible exact notT | with_reducible exact notF) ?_ | refine A.hnt rfl (by (conv => lhs; whnf) <;> rfl) (by first | with_reducible rfl | with_reducible exact notT | with_reducible exact notF) ?_ | refine A.hnf rfl (by (conv => lhs; whnf) <;> rfl) (by first | with_reducible rfl | with_reducible exact notT | with_reducible exact notF) ?_ | refine A.hu rfl (by (conv => lhs; whnf) <;> rfl) (by with_reducible rfl) ?_ | refine A.hpt rfl (by (conv => lhs; whnf) <;> rfl) (by with_reducible rfl) (by first | omega | decide) ?_ | refine A.hpf rfl (by (conv => lhs; whnf) <;> rfl) (by with_reducible rfl) (by first | omega | decide) ?_ | refine A.hqt rfl (by (conv => lhs; whnf) <;> rfl) (by with_reducible rfl) (by first | omega | decide) ?_ | refine A.hqf rfl (by (conv => lhs; whnf) <;> rfl) (by with_reducible rfl) (by first | omega | decide) ?_ | refine A.hp rfl (by (conv => lhs; whnf) <;> rfl) (by with_reducible rfl) (fun h => ?_) (fun h => ?_) | refine A.hq rfl (by (conv => lhs; whnf) <;> rfl) (by with_reducible rfl) (fun h => ?_) (fun h => ?_) | refine A.hb rfl (by (conv => lhs; whnf) <;> rfl) (by with_reducible rfl) (fun h => ?_) (fun h => ?_))
      | (show AO _ _ _ [] _ _ _; refine A.nil ?_)
      | (show CW _ _ _ _ (Code.seq (Code.region _ _ false) _) _ _ _; refine W.rq ?_)
      | (show CW _ _ _ _ (Code.region _ _ false) _ _ _; refine W.rz ?_)
      | (show CW _ _ _ _ (Code.seq (Code.region _ _ true) _) _ _ _; first | refine W.dq 0 ?_ | refine W.dq 1 ?_ | refine W.dq 2 ?_ | refine W.dq 3 ?_ | refine W.dq 4 ?_ | refine W.dq 5 ?_ | refine W.dq 6 ?_ | refine W.dq 7 ?_ | refine W.dq 8 ?_ | refine W.dq 9 ?_ | refine W.dq 10 ?_ | refine W.dq 11 ?_)
      | (show CW _ _ _ _ (Code.region _ _ true) _ _ _; first | refine W.dz 0 ?_ | refine W.dz 1 ?_ | refine W.dz 2 ?_ | refine W.dz 3 ?_ | refine W.dz 4 ?_ | refine W.dz 5 ?_ | refine W.dz 6 ?_ | refine W.dz 7 ?_ | refine W.dz 8 ?_ | refine W.dz 9 ?_ | refine W.dz 10 ?_ | refine W.dz 11 ?_)
      | (show CW _ _ _ _ (Code.cond _ _ _) _ _ _; first | refine W.jt (by (conv => lhs; whnf) <;> rfl) (by first | with_reducible rfl | with_reducible exact notT | with_reducible exact notF) ?_ | refine W.jf (by (conv => lhs; whnf) <;> rfl) (by first | with_reducible rfl | with_reducible exact notT | with_reducible exact notF) ?_ | refine W.jpt (by (conv => lhs; whnf) <;> rfl) (by with_reducible rfl) (by first | omega | decide) ?_ | refine W.jpf (by (conv => lhs; whnf) <;> rfl) (by with_reducible rfl) (by first | omega | decide) ?_ | refine W.jqt (by (conv => lhs; whnf) <;> rfl) (by with_reducible rfl) (by first | omega | decide) ?_ | refine W.jqf (by (conv => lhs; whnf) <;> rfl) (by with_reducible rfl) (by first | omega | decide) ?_ | refine W.jp (by (conv => lhs; whnf) <;> rfl) (by with_reducible rfl) (fun h => ?_) (fun h => ?_) | refine W.jq (by (conv => lhs; whnf) <;> rfl) (by with_reducible rfl) (fun h => ?_) (fun h => ?_) | refine W.jb (by (conv => lhs; whnf) <;> rfl) (by with_reducible rfl) (fun h => ?_) (fun h => ?_))
      | (show CW _ _ _ _ _ _ _ _; first | refine W.kr ?_ | refine W.kn ?_ | refine W.ke ?_ | refine W.bl ?_ | refine W.sq ?_)
      | (show KO _ _ _ _; first | refine K.sn ?_ | refine K.sr ?_ | refine K.se ?_ | refine K.bn ?_ | refine K.br ?_ | refine K.be ?_ | refine K.bx rfl ?_ | refine K.lr ?_ | refine K.le ?_)
      | (show KO _ _ _ _; first | refine K.ya rfl ?_)
      | refine K.nx ?_
      | refine K.re ?_
      | refine K.dr ?_
    refine end_data rfl rfl (vII ?_ ?_)
    all_goals unfold widthV; rw [if_neg (by simp [hT])]

theorem refHalf (H : ZT Z) (k : Nat) (hk : k ≤ 10) (L : List Go.Pv.Obj) : SE Tryd.prog Z 43 [.int .i64 k] L (.int .i64 ((2 ^ k : Nat) : Int)) L := by
  refine SE.data H.z Tryd.func43 rfl ?_
  repeat' first
    | (show XO _ _ _ (Oper.mk (some _) (Op.move _) _ _ _ none :: _) _ _ _; refine X.mv ?_)
    | (show XO _ _ _ (Oper.mk (some _) (Op.assign _) _ _ _ none :: _) _ _ _; refine X.as ?_)
    | (show XO _ _ _ (Oper.mk (some _) (Op.call (Call.mk (Callee.builtin Builtin.len) _ _)) _ _ _ none :: _) _ _ _; first | refine X.lnS rfl ?_ | refine X.lnO rfl ?_ | refine X.go rfl ?_)
    | (show XO _ _ _ (Oper.mk (some _) (Op.call _) _ _ _ none :: _) _ _ _; first | refine X.go rfl ?_)
    | (show XO _ _ _ (Oper.mk (some _) (Op.binOp BinOp.add _ _ _ _) _ _ _ none :: _) _ _ _; first | refine X.addI rfl rfl (by omega) ?_ | refine X.go rfl ?_)
    | (show XO _ _ _ (Oper.mk (some _) (Op.binOp BinOp.sub _ _ _ _) _ _ _ none :: _) _ _ _; first | refine X.subI rfl rfl (by omega) ?_ | refine X.go rfl ?_)
    | (show XO _ _ _ (Oper.mk (some _) (Op.binOp BinOp.mul _ _ _ _) _ _ _ none :: _) _ _ _; first | refine X.mulI rfl rfl (by omega) ?_ | refine X.go rfl ?_)
    | (show XO _ _ _ (Oper.mk (some _) (Op.binOp BinOp.quo _ _ _ _) _ _ _ none :: _) _ _ _; first | refine X.quoI rfl rfl (by omega) ?_ | refine X.go rfl ?_)
    | (show XO _ _ _ (Oper.mk (some _) (Op.binOp BinOp.rem _ _ _ _) _ _ _ none :: _) _ _ _; first | refine X.remI rfl rfl (by omega) ?_ | refine X.go rfl ?_)
    | (show XO _ _ _ (Oper.mk (some _) (Op.convert _ _ _) _ _ _ none :: _) _ _ _; first | refine X.cvI rfl rfl rfl (w64R (by omega)) ?_ | refine X.cvI rfl rfl rfl (wU8 (by omega)) ?_ | refine X.cvI rfl rfl rfl (wU16 (by omega)) ?_ | refine X.cvI rfl rfl rfl (wU32 (by omega)) ?_ | refine X.cvI rfl rfl rfl (wU64 (by omega)) ?_ | refine X.go rfl ?_)
    | (show XO _ _ _ (Oper.mk (some _) (Op.indexAddr _ _ _) _ _ _ none :: _) _ _ _; first | refine X.iaS rfl rfl (by omega) ?_ | refine X.iaO rfl rfl (by omega) rfl ?_ | refine X.go rfl ?_)
    | (show XO _ _ _ (Oper.mk (some _) (Op.load _ _) _ _ _ none :: _) _ _ _; first | refine X.go rfl ?_ | refine X.ldO rfl rfl (by omega) ?_ | refine X.ldA rfl rfl (by omega) rfl ?_)
    | (show XO _ _ _ (Oper.mk (some _) (_) _ _ _ none :: _) _ _ _; first | refine X.go rfl ?_ | refine X.shl rfl rfl (by first | omega | exact Int.natCast_nonneg _) ?_ | refine X.shr rfl rfl (by first | omega | exact Int.natCast_nonneg _) ?_)
    | (show XO _ _ _ (Oper.mk _ _ _ _ _ (some _) :: _) _ _ _; first | refine X.hy rfl (by (conv => lhs; whnf) <;> rfl) (by first | with_reducible rfl | with_reducible exact notT | with_reducible exact notF) ?_ | refine X.hnt rfl (by (conv => lhs; whnf) <;> rfl) (by first | with_reducible rfl | with_reducible exact notT | with_reducible exact notF) ?_ | refine X.hnf rfl (by (conv => lhs; whnf) <;> rfl) (by first | with_reducible rfl | with_reducible exact notT | with_reducible exact notF) ?_ | refine X.hu rfl (by (conv => lhs; whnf) <;> rfl) (by with_reducible rfl) ?_ | refine X.hpt rfl (by (conv => lhs; whnf) <;> rfl) (by with_reducible rfl) (by first | omega | decide) ?_ | refine X.hpf rfl (by (conv => lhs; whnf) <;> rfl) (by with_reducible rfl) (by first | omega | decide) ?_ | refine X.hqt rfl (by (conv => lhs; whnf) <;> rfl) (by with_reducible rfl) (by first | omega | decide) ?_ | refine X.hqf rfl (by (conv => lhs; whnf) <;> rfl) (by with_reducible rfl) (by first | omega | decide) ?_ | refine X.hp rfl (by (conv => lhs; whnf) <;> rfl) (by with_reducible rfl) (fun h => ?_) (fun h => ?_) | refine X.hq rfl (by (conv => lhs; whnf) <;> rfl) (by with_reducible rfl) (fun h => ?_) (fun h => ?_) | refine X.hb rfl (by (conv => lhs; whnf) <;> rfl) (by with_reducible rfl) (fun h => ?_) (fun h => ?_))
    | (show XO _ _ _ (Oper.mk none _ _ _ _ none :: _) _ _ _; refine X.st rfl ?_)
    | (show XO _ _ _ [] _ _ _; refine X.nil ?_)
    | (show AO _ _ _ (Oper.mk (some _) (Op.move _) _ _ _ none :: _) _ _ _; refine A.mv ?_)
    | (show AO _ _ _ (Oper.mk (some _) (Op.assign _) _ _ _ none :: _) _ _ _; refine A.as ?_)
    | (show AO _ _ _ (Oper.mk (some _) (Op.call (Call.mk (Callee.builtin Builtin.len) _ _)) _ _ _ none :: _) _ _ _; first | refine A.lnS rfl ?_ | refine A.lnO rfl ?_ | refine A.go rfl ?_)
    | (show AO _ _ _ (Oper.mk (some _) (Op.call _) _ _ _ none :: _) _ _ _; first | refine A.go rfl ?_)
    | (show AO _ _ _ (Oper.mk (some _) (Op.binOp BinOp.add _ _ _ _) _ _ _ none :: _) _ _ _; first | refine A.addI rfl rfl (by omega) ?_ | refine A.go rfl ?_)
    | (show AO _ _ _ (Oper.mk (some _) (Op.binOp BinOp.sub _ _ _ _) _ _ _ none :: _) _ _ _; first | refine A.subI rfl rfl (by omega) ?_ | refine A.go rfl ?_)
    | (show AO _ _ _ (Oper.mk (some _) (Op.binOp BinOp.mul _ _ _ _) _ _ _ none :: _) _ _ _; first | refine A.mulI rfl rfl (by omega) ?_ | refine A.go rfl ?_)
    | (show AO _ _ _ (Oper.mk (some _) (Op.binOp BinOp.quo _ _ _ _) _ _ _ none :: _) _ _ _; first | refine A.quoI rfl rfl (by omega) ?_ | refine A.go rfl ?_)
    | (show AO _ _ _ (Oper.mk (some _) (Op.binOp BinOp.rem _ _ _ _) _ _ _ none :: _) _ _ _; first | refine A.remI rfl rfl (by omega) ?_ | refine A.go rfl ?_)
    | (show AO _ _ _ (Oper.mk (some _) (Op.convert _ _ _) _ _ _ none :: _) _ _ _; first | refine A.cvI rfl rfl rfl (w64R (by omega)) ?_ | refine A.cvI rfl rfl rfl (wU8 (by omega)) ?_ | refine A.cvI rfl rfl rfl (wU16 (by omega)) ?_ | refine A.cvI rfl rfl rfl (wU32 (by omega)) ?_ | refine A.cvI rfl rfl rfl (wU64 (by omega)) ?_ | refine A.go rfl ?_)
    | (show AO _ _ _ (Oper.mk (some _) (Op.indexAddr _ _ _) _ _ _ none :: _) _ _ _; first | refine A.iaS rfl rfl (by omega) ?_ | refine A.iaO rfl rfl (by omega) rfl ?_ | refine A.go rfl ?_)
    | (show AO _ _ _ (Oper.mk (some _) (Op.load _ _) _ _ _ none :: _) _ _ _; first | refine A.go rfl ?_ | refine A.ldO rfl rfl (by omega) ?_ | refine A.ldA rfl rfl (by omega) rfl ?_)
    | (show AO _ _ _ (Oper.mk (some _) (_) _ _ _ none :: _) _ _ _; first | refine A.go rfl ?_ | refine A.shl rfl rfl (by first | omega | exact Int.natCast_nonneg _) ?_ | refine A.shr rfl rfl (by first | omega | exact Int.natCast_nonneg _) ?_)
    | (show AO _ _ _ (Oper.mk _ _ _ _ _ (some _) :: _) _ _ _; first | refine A.hy rfl (by (conv => lhs; whnf) <;> rfl) (by first | with_reducible rfl | with_reducible exact notT | with_reducible exact notF) ?_ | refine A.hnt rfl (by (conv => lhs; whnf) <;> rfl) (by first | with_reducible rfl | with_reducible exact notT | with_reducible exact notF) ?_ | refine A.hnf rfl (by (conv => lhs; whnf) <;> rfl) (by first | with_reducible rfl | with_reducible exact notT | with_reducible exact notF) ?_ | refine A.hu rfl (by (conv => lhs; whnf) <;> rfl) (by with_reducible rfl) ?_ | refine A.hpt rfl (by (conv => lhs; whnf) <;> rfl) (by with_reducible rfl) (by first | omega | decide) ?_ | refine A.hpf rfl (by (conv => lhs; whnf) <;> rfl) (by with_reducible rfl) (by first | omega | decide) ?_ | refine A.hqt rfl (by (conv => lhs; whnf) <;> rfl) (by with_reducible rfl) (by first | omega | decide) ?_ | refine A.hqf rfl (by (conv => lhs; whnf) <;> rfl) (by with_reducible rfl) (by first | omega | decide) ?_ | refine A.hp rfl (by (conv => lhs; whnf) <;> rfl) (by with_reducible rfl) (fun h => ?_) (fun h => ?_) | refine A.hq rfl (by (conv => lhs; whnf) <;> rfl) (by with_reducible rfl) (fun h => ?_) (fun h => ?_) | refine A.hb rfl (by (conv => lhs; whnf) <;> rfl) (by with_reducible rfl) (fun h => ?_) (fun h => ?_))
    | (show AO _ _ _ [] _ _ _; refine A.nil ?_)
    | (show CW _ _ _ _ (Code.seq (Code.region _ _ false) _) _ _ _; refine W.rq ?_)
    | (show CW _ _ _ _ (Code.region _ _ false) _ _ _; refine W.rz ?_)
    | (show CW _ _ _ _ (Code.seq (Code.region _ _ true) _) _ _ _; first | refine W.dq 0 ?_ | refine W.dq 1 ?_ | refine W.dq 2 ?_ | refine W.dq 3 ?_ | refine W.dq 4 ?_ | refine W.dq 5 ?_ | refine W.dq 6 ?_ | refine W.dq 7 ?_ | refine W.dq 8 ?_ | refine W.dq 9 ?_ | refine W.dq 10 ?_ | refine W.dq 11 ?_)
    | (show CW _ _ _ _ (Code.region _ _ true) _ _ _; first | refine W.dz 0 ?_ | refine W.dz 1 ?_ | refine W.dz 2 ?_ | refine W.dz 3 ?_ | refine W.dz 4 ?_ | refine W.dz 5 ?_ | refine W.dz 6 ?_ | refine W.dz 7 ?_ | refine W.dz 8 ?_ | refine W.dz 9 ?_ | refine W.dz 10 ?_ | refine W.dz 11 ?_)
    | (show CW _ _ _ _ (Code.cond _ _ _) _ _ _; first | refine W.jt (by (conv => lhs; whnf) <;> rfl) (by first | with_reducible rfl | with_reducible exact notT | with_reducible exact notF) ?_ | refine W.jf (by (conv => lhs; whnf) <;> rfl) (by first | with_reducible rfl | with_reducible exact notT | with_reducible exact notF) ?_ | refine W.jpt (by (conv => lhs; whnf) <;> rfl) (by with_reducible rfl) (by first | omega | decide) ?_ | refine W.jpf (by (conv => lhs; whnf) <;> rfl) (by with_reducible rfl) (by first | omega | decide) ?_ | refine W.jqt (by (conv => lhs; whnf) <;> rfl) (by with_reducible rfl) (by first | omega | decide) ?_ | refine W.jqf (by (conv => lhs; whnf) <;> rfl) (by with_reducible rfl) (by first | omega | decide) ?_ | refine W.jp (by (conv => lhs; whnf) <;> rfl) (by with_reducible rfl) (fun h => ?_) (fun h => ?_) | refine W.jq (by (conv => lhs; whnf) <;> rfl) (by with_reducible rfl) (fun h => ?_) (fun h => ?_) | refine W.jb (by (conv => lhs; whnf) <;> rfl) (by with_reducible rfl) (fun h => ?_) (fun h => ?_))
    | (show CW _ _ _ _ _ _ _ _; first | refine W.kr ?_ | refine W.kn ?_ | refine W.ke ?_ | refine W.bl ?_ | refine W.sq ?_)
    | (show KO _ _ _ _; first | refine K.sn ?_ | refine K.sr ?_ | refine K.se ?_ | refine K.bn ?_ | refine K.br ?_ | refine K.be ?_ | refine K.bx rfl ?_ | refine K.lr ?_ | refine K.le ?_)
    | (show KO _ _ _ _; first | refine K.ya rfl ?_)
    | refine K.nx ?_
    | refine K.re ?_
    | refine K.dr ?_
  refine W.lp (fun m st => ∃ (i : Nat), st.env 0 = .int .i64 k ∧ st.env 3 = .int .i64 ((2 ^ i : Nat) : Int) ∧ st.env 4 = .int .i64 i ∧ st.L = L ∧ (i ≤ k) ∧ m = k - i) _ ⟨0, rfl, rfl, rfl, rfl, ?_, rfl⟩ ?_
  · omega
  rintro m env L ⟨i, e0, e3, e4, eL, hI, hm⟩
  dsimp only at e0 e3 e4 eL
  subst eL
  refine W.ev 0 e0 ?_
  refine W.ev 3 e3 ?_
  refine W.ev 4 e4 ?_
  have hb := two_pow_bound (j := i) (by omega)
  repeat' first
    | (show XO _ _ _ (Oper.mk (some _) (Op.move _) _ _ _ none :: _) _ _ _; refine X.mv ?_)
    | (show XO _ _ _ (Oper.mk (some _) (Op.assign _) _ _ _ none :: _) _ _ _; refine X.as ?_)
    | (show XO _ _ _ (Oper.mk (some _) (Op.call (Call.mk (Callee.builtin Builtin.len) _ _)) _ _ _ none :: _) _ _ _; first | refine X.lnS rfl ?_ | refine X.lnO rfl ?_ | refine X.go rfl ?_)
    | (show XO _ _ _ (Oper.mk (some _) (Op.call _) _ _ _ none :: _) _ _ _; first | refine X.go rfl ?_)
    | (show XO _ _ _ (Oper.mk (some _) (Op.binOp BinOp.add _ _ _ _) _ _ _ none :: _) _ _ _; first | refine X.addI rfl rfl (by omega) ?_ | refine X.go rfl ?_)
    | (show XO _ _ _ (Oper.mk (some _) (Op.binOp BinOp.sub _ _ _ _) _ _ _ none :: _) _ _ _; first | refine X.subI rfl rfl (by omega) ?_ | refine X.go rfl ?_)
    | (show XO _ _ _ (Oper.mk (some _) (Op.binOp BinOp.mul _ _ _ _) _ _ _ none :: _) _ _ _; first | refine X.mulI rfl rfl (by omega) ?_ | refine X.go rfl ?_)
    | (show XO _ _ _ (Oper.mk (some _) (Op.binOp BinOp.quo _ _ _ _) _ _ _ none :: _) _ _ _; first | refine X.quoI rfl rfl (by omega) ?_ | refine X.go rfl ?_)
    | (show XO _ _ _ (Oper.mk (some _) (Op.binOp BinOp.rem _ _ _ _) _ _ _ none :: _) _ _ _; first | refine X.remI rfl rfl (by omega) ?_ | refine X.go rfl ?_)
    | (show XO _ _ _ (Oper.mk (some _) (Op.convert _ _ _) _ _ _ none :: _) _ _ _; first | refine X.cvI rfl rfl rfl (w64R (by omega)) ?_ | refine X.cvI rfl rfl rfl (wU8 (by omega)) ?_ | refine X.cvI rfl rfl rfl (wU16 (by omega)) ?_ | refine X.cvI rfl rfl rfl (wU32 (by omega)) ?_ | refine X.cvI rfl rfl rfl (wU64 (by omega)) ?_ | refine X.go rfl ?_)
    | (show XO _ _ _ (Oper.mk (some _) (Op.indexAddr _ _ _) _ _ _ none :: _) _ _ _; first | refine X.iaS rfl rfl (by omega) ?_ | refine X.iaO rfl rfl (by omega) rfl ?_ | refine X.go rfl ?_)
    | (show XO _ _ _ (Oper.mk (some _) (Op.load _ _) _ _ _ none :: _) _ _ _; first | refine X.go rfl ?_ | refine X.ldO rfl rfl (by omega) ?_ | refine X.ldA rfl rfl (by omega) rfl ?_)
    | (show XO _ _ _ (Oper.mk (some _) (_) _ _ _ none :: _) _ _ _; first | refine X.go rfl ?_ | refine X.shl rfl rfl (by first | omega | exact Int.natCast_nonneg _) ?_ | refine X.shr rfl rfl (by first | omega | exact Int.natCast_nonneg _) ?_)
    | (show XO _ _ _ (Oper.mk _ _ _ _ _ (some _) :: _) _ _ _; first | refine X.hy rfl (by (conv => lhs; whnf) <;> rfl) (by first | with_reducible rfl | with_reducible exact notT | with_reducible exact notF) ?_ | refine X.hnt rfl (by (conv => lhs; whnf) <;> rfl) (by first | with_reducible rfl | with_reducible exact notT | with_reducible exact notF) ?_ | refine X.hnf rfl (by (conv => lhs; whnf) <;> rfl) (by first | with_reducible rfl | with_reducible exact notT | with_reducible exact notF) ?_ | refine X.hu rfl (by (conv => lhs; whnf) <;> rfl) (by with_reducible rfl) ?_ | refine X.hpt rfl (by (conv => lhs; whnf) <;> rfl) (by with_reducible rfl) (by first | omega | decide) ?_ | refine X.hpf rfl (by (conv => lhs; whnf) <;> rfl) (by with_reducible rfl) (by first | omega | decide) ?_ | refine X.hqt rfl (by (conv => lhs; whnf) <;> rfl) (by with_reducible rfl) (by first | omega | decide) ?_ | refine X.hqf rfl (by (conv => lhs; whnf) <;> rfl) (by with_reducible rfl) (by first | omega | decide) ?_ | refine X.hp rfl (by (conv => lhs; whnf) <;> rfl) (by with_reducible rfl) (fun h => ?_) (fun h => ?_) | refine X.hq rfl (by (conv => lhs; whnf) <;> rfl) (by with_reducible rfl) (fun h => ?_) (fun h => ?_) | refine X.hb rfl (by (conv => lhs; whnf) <;> rfl) (by with_reducible rfl) (fun h => ?_) (fun h => ?_))
    | (show XO _ _ _ (Oper.mk none _ _ _ _ none :: _) _ _ _; refine X.st rfl ?_)
    | (show XO _ _ _ [] _ _ _; refine X.nil ?_)
    | (show AO _ _ _ (Oper.mk (some _) (Op.move _) _ _ _ none :: _) _ _ _; refine A.mv ?_)
    | (show AO _ _ _ (Oper.mk (some _) (Op.assign _) _ _ _ none :: _) _ _ _; refine A.as ?_)
    | (show AO _ _ _ (Oper.mk (some _) (Op.call (Call.mk (Callee.builtin Builtin.len) _ _)) _ _ _ none :: _) _ _ _; first | refine A.lnS rfl ?_ | refine A.lnO rfl ?_ | refine A.go rfl ?_)
    | (show AO _ _ _ (Oper.mk (some _) (Op.call _) _ _ _ none :: _) _ _ _; first | refine A.go rfl ?_)
    | (show AO _ _ _ (Oper.mk (some _) (Op.binOp BinOp.add _ _ _ _) _ _ _ none :: _) _ _ _; first | refine A.addI rfl rfl (by omega) ?_ | refine A.go rfl ?_)
    | (show AO _ _ _ (Oper.mk (some _) (Op.binOp BinOp.sub _ _ _ _) _ _ _ none :: _) _ _ _; first | refine A.subI rfl rfl (by omega) ?_ | refine A.go rfl ?_)
    | (show AO _ _ _ (Oper.mk (some _) (Op.binOp BinOp.mul _ _ _ _) _ _ _ none :: _) _ _ _; first | refine A.mulI rfl rfl (by omega) ?_ | refine A.go rfl ?_)
    | (show AO _ _ _ (Oper.mk (some _) (Op.binOp BinOp.quo _ _ _ _) _ _ _ none :: _) _ _ _; first | refine A.quoI rfl rfl (by omega) ?_ | refine A.go rfl ?_)
    | (show AO _ _ _ (Oper.mk (some _) (Op.binOp BinOp.rem _ _ _ _) _ _ _ none :: _) _ _ _; first | refine A.remI rfl rfl (by omega) ?_ | refine A.go rfl ?_)
    | (show AO _ _ _ (Oper.mk (some _) (Op.convert _ _ _) _ _ _ none :: _) _ _ _; first | refine A.cvI rfl rfl rfl (w64R (by omega)) ?_ | refine A.cvI rfl rfl rfl (wU8 (by omega)) ?_ | refine A.cvI rfl rfl rfl (wU16 (by omega)) ?_ | refine A.cvI rfl rfl rfl (wU32 (by omega)) ?_ | refine A.cvI rfl rfl rfl (wU64 (by omega)) ?_ | refine A.go rfl ?_)
    | (show AO _ _ _ (Oper.mk (some _) (Op.indexAddr _ _ _) _ _ _ none :: _) _ _ _; first | refine A.iaS rfl rfl (by omega) ?_ | refine A.iaO rfl rfl (by omega) rfl ?_ | refine A.go rfl ?_)
    | (show AO _ _ _ (Oper.mk (some _) (Op.load _ _) _ _ _ none :: _) _ _ _; first | refine A.go rfl ?_ | refine A.ldO rfl rfl (by omega) ?_ | refine A.ldA rfl rfl (by omega) rfl ?_)
    | (show AO _ _ _ (Oper.mk (some _) (_) _ _ _ none :: _) _ _ _; first | refine A.go rfl ?_ | refine A.shl rfl rfl (by first | omega | exact Int.natCast_nonneg _) ?_ | refine A.shr rfl rfl (by first | omega | exact Int.natCast_nonneg _) ?_)
    | (show AO _ _ _ (Oper.mk _ _ _ _ _ (some _) :: _) _ _ _; first | refine A.hy rfl (by (conv => lhs; whnf) <;> rfl) (by first | with_reducible rfl | with_reducible exact notT | with_reducible exact notF) ?_ | refine A.hnt rfl (by (conv => lhs; whnf) <;> rfl) (by first | with_reducible rfl | with_reducible exact notT | with_reducible exact notF) ?_ | refine A.hnf rfl (by (conv => lhs; whnf) <;> rfl) (by first | with_reducible rfl | with_reducible exact notT | with_reducible exact notF) ?_ | refine A.hu rfl (by (conv => lhs; whnf) <;> rfl) (by with_reducible rfl) ?_ | refine A.hpt rfl (by (conv => lhs; whnf) <;> rfl) (by with_reducible rfl) (by first | omega | decide) ?_ | refine A.hpf rfl (by (conv => lhs; whnf) <;> rfl) (by with_reducible rfl) (by first | omega | decide) ?_ | refine A.hqt rfl (by (conv => lhs; whnf) <;> rfl) (by with_reducible rfl) (by first | omega | decide) ?_ | refine A.hqf rfl (by (conv => lhs; whnf) <;> rfl) (by with_reducible rfl) (by first | omega | decide) ?_ | refine A.hp rfl (by (conv => lhs; whnf) <;> rfl) (by with_reducible rfl) (fun h => ?_) (fun h => ?_) | refine A.hq rfl (by (conv => lhs; whnf) <;> rfl) (by with_reducible rfl) (fun h => ?_) (fun h => ?_) | refine A.hb rfl (by (conv => lhs; whnf) <;> rfl) (by with_reducible rfl) (fun h => ?_) (fun h => ?_))
    | (show AO _ _ _ [] _ _ _; refine A.nil ?_)
    | (show CW _ _ _ _ (Code.seq (Code.region _ _ false) _) _ _ _; refine W.rq ?_)
    | (show CW _ _ _ _ (Code.region _ _ false) _ _ _; refine W.rz ?_)
    | (show CW _ _ _ _ (Code.seq (Code.region _ _ true) _) _ _ _; first | refine W.dq 0 ?_ | refine W.dq 1 ?_ | refine W.dq 2 ?_ | refine W.dq 3 ?_ | refine W.dq 4 ?_ | refine W.dq 5 ?_ | refine W.dq 6 ?_ | refine W.dq 7 ?_ | refine W.dq 8 ?_ | refine W.dq 9 ?_ | refine W.dq 10 ?_ | refine W.dq 11 ?_)
    | (show CW _ _ _ _ (Code.region _ _ true) _ _ _; first | refine W.dz 0 ?_ | refine W.dz 1 ?_ | refine W.dz 2 ?_ | refine W.dz 3 ?_ | refine W.dz 4 ?_ | refine W.dz 5 ?_ | refine W.dz 6 ?_ | refine W.dz 7 ?_ | refine W.dz 8 ?_ | refine W.dz 9 ?_ | refine W.dz 10 ?_ | refine W.dz 11 ?_)
    | (show CW _ _ _ _ (Code.cond _ _ _) _ _ _; first | refine W.jt (by (conv => lhs; whnf) <;> rfl) (by first | with_reducible rfl | with_reducible exact notT | with_reducible exact notF) ?_ | refine W.jf (by (conv => lhs; whnf) <;> rfl) (by first | with_reducible rfl | with_reducible exact notT | with_reducible exact notF) ?_ | refine W.jpt (by (conv => lhs; whnf) <;> rfl) (by with_reducible rfl) (by first | omega | decide) ?_ | refine W.jpf (by (conv => lhs; whnf) <;> rfl) (by with_reducible rfl) (by first | omega | decide) ?_ | refine W.jqt (by (conv => lhs; whnf) <;> rfl) (by with_reducible rfl) (by first | omega | decide) ?_ | refine W.jqf (by (conv => lhs; whnf) <;> rfl) (by with_reducible rfl) (by first | omega | decide) ?_ | refine W.jp (by (conv => lhs; whnf) <;> rfl) (by with_reducible rfl) (fun h => ?_) (fun h => ?_) | refine W.jq (by (conv => lhs; whnf) <;> rfl) (by with_reducible rfl) (fun h => ?_) (fun h => ?_) | refine W.jb (by (conv => lhs; whnf) <;> rfl) (by with_reducible rfl) (fun h => ?_) (fun h => ?_))
    | (show CW _ _ _ _ _ _ _ _; first | refine W.kr ?_ | refine W.kn ?_ | refine W.ke ?_ | refine W.bl ?_ | refine W.sq ?_)
    | (show KO _ _ _ _; first | refine K.sn ?_ | refine K.sr ?_ | refine K.se ?_ | refine K.bn ?_ | refine K.br ?_ | refine K.be ?_ | refine K.bx rfl ?_ | refine K.lr ?_ | refine K.le ?_ | refine K.ln _ ?_ ⟨i + 1, rfl, vI (dbl i), rfl, rfl, ?_, rfl⟩)
    | (show KO _ _ _ _; first | refine K.ya rfl ?_)
    | refine K.nx ?_
    | refine K.re ?_
    | refine K.dr ?_
  · omega
  · omega
  · refine end_data rfl rfl (vI ?_)
    rw [show i = k by omega]

theorem refLevel0 (H : ZT Z) (x : Nat) (hx : x < 2047) (L : List Go.Pv.Obj) : SE Tryd.prog Z 30 [.int .i64 x] L (.int .i64 (lev x)) L := by
  refine SE.data H.z Tryd.func30 rfl ?_
  repeat' first
    | (show XO _ _ _ (Oper.mk (some _) (Op.move _) _ _ _ none :: _) _ _ _; refine X.mv ?_)
    | (show XO _ _ _ (Oper.mk (some _) (Op.assign _) _ _ _ none :: _) _ _ _; refine X.as ?_)
    | (show XO _ _ _ (Oper.mk (some _) (Op.call (Call.mk (Callee.builtin Builtin.len) _ _)) _ _ _ none :: _) _ _ _; first | refine X.lnS rfl ?_ | refine X.lnO rfl ?_ | refine X.go rfl ?_)
    | (show XO _ _ _ (Oper.mk (some _) (Op.call _) _ _ _ none :: _) _ _ _; first | refine X.go rfl ?_)
    | (show XO _ _ _ (Oper.mk (some _) (Op.binOp BinOp.add _ _ _ _) _ _ _ none :: _) _ _ _; first | refine X.addI rfl rfl (by omega) ?_ | refine X.go rfl ?_)
    | (show XO _ _ _ (Oper.mk (some _) (Op.binOp BinOp.sub _ _ _ _) _ _ _ none :: _) _ _ _; first | refine X.subI rfl rfl (by omega) ?_ | refine X.go rfl ?_)
    | (show XO _ _ _ (Oper.mk (some _) (Op.binOp BinOp.mul _ _ _ _) _ _ _ none :: _) _ _ _; first | refine X.mulI rfl rfl (by omega) ?_ | refine X.go rfl ?_)
    | (show XO _ _ _ (Oper.mk (some _) (Op.binOp BinOp.quo _ _ _ _) _ _ _ none :: _) _ _ _; first | refine X.quoI rfl rfl (by omega) ?_ | refine X.go rfl ?_)
    | (show XO _ _ _ (Oper.mk (some _) (Op.binOp BinOp.rem _ _ _ _) _ _ _ none :: _) _ _ _; first | refine X.remI rfl rfl (by omega) ?_ | refine X.go rfl ?_)
    | (show XO _ _ _ (Oper.mk (some _) (Op.convert _ _ _) _ _ _ none :: _) _ _ _; first | refine X.cvI rfl rfl rfl (w64R (by omega)) ?_ | refine X.cvI rfl rfl rfl (wU8 (by omega)) ?_ | refine X.cvI rfl rfl rfl (wU16 (by omega)) ?_ | refine X.cvI rfl rfl rfl (wU32 (by omega)) ?_ | refine X.cvI rfl rfl rfl (wU64 (by omega)) ?_ | refine X.go rfl ?_)
    | (show XO _ _ _ (Oper.mk (some _) (Op.indexAddr _ _ _) _ _ _ none :: _) _ _ _; first | refine X.iaS rfl rfl (by omega) ?_ | refine X.iaO rfl rfl (by omega) rfl ?_ | refine X.go rfl ?_)
    | (show XO _ _ _ (Oper.mk (some _) (Op.load _ _) _ _ _ none :: _) _ _ _; first | refine X.go rfl ?_ | refine X.ldO rfl rfl (by omega) ?_ | refine X.ldA rfl rfl (by omega) rfl ?_)
    | (show XO _ _ _ (Oper.mk (some _) (_) _ _ _ none :: _) _ _ _; first | refine X.go rfl ?_ | refine X.shl rfl rfl (by first | omega | exact Int.natCast_nonneg _) ?_ | refine X.shr rfl rfl (by first | omega | exact Int.natCast_nonneg _) ?_)
    | (show XO _ _ _ (Oper.mk _ _ _ _ _ (some _) :: _) _ _ _; first | refine X.hy rfl (by (conv => lhs; whnf) <;> rfl) (by first | with_reducible rfl | with_reducible exact notT | with_reducible exact notF) ?_ | refine X.hnt rfl (by (conv => lhs; whnf) <;> rfl) (by first | with_reducible rfl | with_reducible exact notT | with_reducible exact notF) ?_ | refine X.hnf rfl (by (conv => lhs; whnf) <;> rfl) (by first | with_reducible rfl | with_reducible exact notT | with_reducible exact notF) ?_ | refine X.hu rfl (by (conv => lhs; whnf) <;> rfl) (by with_reducible rfl) ?_ | refine X.hpt rfl (by (conv => lhs; whnf) <;> rfl) (by with_reducible rfl) (by first | omega | decide) ?_ | refine X.hpf rfl (by (conv => lhs; whnf) <;> rfl) (by with_reducible rfl) (by first | omega | decide) ?_ | refine X.hqt rfl (by (conv => lhs; whnf) <;> rfl) (by with_reducible rfl) (by first | omega | decide) ?_ | refine X.hqf rfl (by (conv => lhs; whnf) <;> rfl) (by with_reducible rfl) (by first | omega | decide) ?_ | refine X.hp rfl (by (conv => lhs; whnf) <;> rfl) (by with_reducible rfl) (fun h => ?_) (fun h => ?_) | refine X.hq rfl (by (conv => lhs; whnf) <;> rfl) (by with_reducible rfl) (fun h => ?_) (fun h => ?_) | refine X.hb rfl (by (conv => lhs; whnf) <;> rfl) (by with_reducible rfl) (fun h => ?_) (fun h => ?_))
    | (show XO _ _ _ (Oper.mk none _ _ _ _ none :: _) _ _ _; refine X.st rfl ?_)
    | (show XO _ _ _ [] _ _ _; refine X.nil ?_)
    | (show AO _ _ _ (Oper.mk (some _) (Op.move _) _ _ _ none :: _) _ _ _; refine A.mv ?_)
    | (show AO _ _ _ (Oper.mk (some _) (Op.assign _) _ _ _ none :: _) _ _ _; refine A.as ?_)
    | (show AO _ _ _ (Oper.mk (some _) (Op.call (Call.mk (Callee.builtin Builtin.len) _ _)) _ _ _ none :: _) _ _ _; first | refine A.lnS rfl ?_ | refine A.lnO rfl ?_ | refine A.go rfl ?_)
    | (show AO _ _ _ (Oper.mk (some _) (Op.call _) _ _ _ none :: _) _ _ _; first | refine A.go rfl ?_)
    | (show AO _ _ _ (Oper.mk (some _) (Op.binOp BinOp.add _ _ _ _) _ _ _ none :: _) _ _ _; first | refine A.addI rfl rfl (by omega) ?_ | refine A.go rfl ?_)
    | (show AO _ _ _ (Oper.mk (some _) (Op.binOp BinOp.sub _ _ _ _) _ _ _ none :: _) _ _ _; first | refine A.subI rfl rfl (by omega) ?_ | refine A.go rfl ?_)
    | (show AO _ _ _ (Oper.mk (some _) (Op.binOp BinOp.mul _ _ _ _) _ _ _ none :: _) _ _ _; first | refine A.mulI rfl rfl (by omega) ?_ | refine A.go rfl ?_)
    | (show AO _ _ _ (Oper.mk (some _) (Op.binOp BinOp.quo _ _ _ _) _ _ _ none :: _) _ _ _; first | refine A.quoI rfl rfl (by omega) ?_ | refine A.go rfl ?_)
    | (show AO _ _ _ (Oper.mk (some _) (Op.binOp BinOp.rem _ _ _ _) _ _ _ none :: _) _ _ _; first | refine A.remI rfl rfl (by omega) ?_ | refine A.go rfl ?_)
    | (show AO _ _ _ (Oper.mk (some _) (Op.convert _ _ _) _ _ _ none :: _) _ _ _; first | refine A.cvI rfl rfl rfl (w64R (by omega)) ?_ | refine A.cvI rfl rfl rfl (wU8 (by omega)) ?_ | refine A.cvI rfl rfl rfl (wU16 (by omega)) ?_ | refine A.cvI rfl rfl rfl (wU32 (by omega)) ?_ | refine A.cvI rfl rfl rfl (wU64 (by omega)) ?_ | refine A.go rfl ?_)
    | (show AO _ _ _ (Oper.mk (some _) (Op.indexAddr _ _ _) _ _ _ none :: _) _ _ _; first | refine A.iaS rfl rfl (by omega) ?_ | refine A.iaO rfl rfl (by omega) rfl ?_ | refine A.go rfl ?_)
    | (show AO _ _ _ (Oper.mk (some _) (Op.load _ _) _ _ _ none :: _) _ _ _; first | refine A.go rfl ?_ | refine A.ldO rfl rfl (by omega) ?_ | refine A.ldA rfl rfl (by omega) rfl ?_)
    | (show AO _ _ _ (Oper.mk (some _) (_) _ _ _ none :: _) _ _ _; first | refine A.go rfl ?_ | refine A.shl rfl rfl (by first | omega | exact Int.natCast_nonneg _) ?_ | refine A.shr rfl rfl (by first | omega | exact Int.natCast_nonneg _) ?_)
    | (show AO _ _ _ (Oper.mk _ _ _ _ _ (some _) :: _) _ _ _; first | refine A.hy rfl (by (conv => lhs; whnf) <;> rfl) (by first | with_reducible rfl | with_reducible exact notT | with_reducible exact notF) ?_ | refine A.hnt rfl (by (conv => lhs; whnf) <;> rfl) (by first | with_reducible rfl | with_reducible exact notT | with_reducible exact notF) ?_ | refine A.hnf rfl (by (conv => lhs; whnf) <;> rfl) (by first | with_reducible rfl | with_reducible exact notT | with_reducible exact notF) ?_ | refine A.hu rfl (by (conv => lhs; whnf) <;> rfl) (by with_reducible rfl) ?_ | refine A.hpt rfl (by (conv => lhs; whnf) <;> rfl) (by with_reducible rfl) (by first | omega | decide) ?_ | refine A.hpf rfl (by (conv => lhs; whnf) <;> rfl) (by with_reducible rfl) (by first | omega | decide) ?_ | refine A.hqt rfl (by (conv => lhs; whnf) <;> rfl) (by with_reducible rfl) (by first | omega | decide) ?_ | refine A.hqf rfl (by (conv => lhs; whnf) <;> rfl) (by with_reducible rfl) (by first | omega | decide) ?_ | refine A.hp rfl (by (conv => lhs; whnf) <;> rfl) (by with_reducible rfl) (fun h => ?_) (fun h => ?_) | refine A.hq rfl (by (conv => lhs; whnf) <;> rfl) (by with_reducible rfl) (fun h => ?_) (fun h => ?_) | refine A.hb rfl (by (conv => lhs; whnf) <;> rfl) (by with_reducible rfl) (fun h => ?_) (fun h => ?_))
    | (show AO _ _ _ [] _ _ _; refine A.nil ?_)
    | (show CW _ _ _ _ (Code.seq (Code.region _ _ false) _) _ _ _; refine W.rq ?_)
    | (show CW _ _ _ _ (Code.region _ _ false) _ _ _; refine W.rz ?_)
    | (show CW _ _ _ _ (Code.seq (Code.region _ _ true) _) _ _ _; first | refine W.dq 0 ?_ | refine W.dq 1 ?_ | refine W.dq 2 ?_ | refine W.dq 3 ?_ | refine W.dq 4 ?_ | refine W.dq 5 ?_ | refine W.dq 6 ?_ | refine W.dq 7 ?_ | refine W.dq 8 ?_ | refine W.dq 9 ?_ | refine W.dq 10 ?_ | refine W.dq 11 ?_)
    | (show CW _ _ _ _ (Code.region _ _ true) _ _ _; first | refine W.dz 0 ?_ | refine W.dz 1 ?_ | refine W.dz 2 ?_ | refine W.dz 3 ?_ | refine W.dz 4 ?_ | refine W.dz 5 ?_ | refine W.dz 6 ?_ | refine W.dz 7 ?_ | refine W.dz 8 ?_ | refine W.dz 9 ?_ | refine W.dz 10 ?_ | refine W.dz 11 ?_)
    | (show CW _ _ _ _ (Code.cond _ _ _) _ _ _; first | refine W.jt (by (conv => lhs; whnf) <;> rfl) (by first | with_reducible rfl | with_reducible exact notT | with_reducible exact notF) ?_ | refine W.jf (by (conv => lhs; whnf) <;> rfl) (by first | with_reducible rfl | with_reducible exact notT | with_reducible exact notF) ?_ | refine W.jpt (by (conv => lhs; whnf) <;> rfl) (by with_reducible rfl) (by first | omega | decide) ?_ | refine W.jpf (by (conv => lhs; whnf) <;> rfl) (by with_reducible rfl) (by first | omega | decide) ?_ | refine W.jqt (by (conv => lhs; whnf) <;> rfl) (by with_reducible rfl) (by first | omega | decide) ?_ | refine W.jqf (by (conv => lhs; whnf) <;> rfl) (by with_reducible rfl) (by first | omega | decide) ?_ | refine W.jp (by (conv => lhs; whnf) <;> rfl) (by with_reducible rfl) (fun h => ?_) (fun h => ?_) | refine W.jq (by (conv => lhs; whnf) <;> rfl) (by with_reducible rfl) (fun h => ?_) (fun h => ?_) | refine W.jb (by (conv => lhs; whnf) <;> rfl) (by with_reducible rfl) (fun h => ?_) (fun h => ?_))
    | (show CW _ _ _ _ _ _ _ _; first | refine W.kr ?_ | refine W.kn ?_ | refine W.ke ?_ | refine W.bl ?_ | refine W.sq ?_)
    | (show KO _ _ _ _; first | refine K.sn ?_ | refine K.sr ?_ | refine K.se ?_ | refine K.bn ?_ | refine K.br ?_ | refine K.be ?_ | refine K.bx rfl ?_ | refine K.lr ?_ | refine K.le ?_)
    | (show KO _ _ _ _; first | refine K.ya rfl ?_)
    | refine K.nx ?_
    | refine K.re ?_
    | refine K.dr ?_
  refine W.lp (fun m st => ∃ (i y : Nat), st.env 0 = .int .i64 (x : Nat) ∧ st.env 3 = .int .i64 i ∧ st.env 4 = .int .i64 y ∧ st.L = L ∧ (y ≤ x ∧ i + levF (11 - i) y = lev x ∧ i ≤ 11 ∧ y < 2 ^ (11 - i)) ∧ m = y) _ ⟨0, x, rfl, rfl, rfl, rfl, ?_, rfl⟩ ?_
  · exact ⟨Nat.le_refl _, by simp [lev], by omega, by omega⟩
  rintro m env L ⟨i, y, e0, e3, e4, eL, hI, hm⟩
  dsimp only at e0 e3 e4 eL
  subst eL
  refine W.ev 0 e0 ?_
  refine W.ev 3 e3 ?_
  refine W.ev 4 e4 ?_
  obtain ⟨h1, h2, h3, h4⟩ := hI
  repeat' first
    | (show XO _ _ _ (Oper.mk (some _) (Op.move _) _ _ _ none :: _) _ _ _; refine X.mv ?_)
    | (show XO _ _ _ (Oper.mk (some _) (Op.assign _) _ _ _ none :: _) _ _ _; refine X.as ?_)
    | (show XO _ _ _ (Oper.mk (some _) (Op.call (Call.mk (Callee.builtin Builtin.len) _ _)) _ _ _ none :: _) _ _ _; first | refine X.lnS rfl ?_ | refine X.lnO rfl ?_ | refine X.go rfl ?_)
    | (show XO _ _ _ (Oper.mk (some _) (Op.call _) _ _ _ none :: _) _ _ _; first | refine X.go rfl ?_)
    | (show XO _ _ _ (Oper.mk (some _) (Op.binOp BinOp.add _ _ _ _) _ _ _ none :: _) _ _ _; first | refine X.addI rfl rfl (by omega) ?_ | refine X.go rfl ?_)
    | (show XO _ _ _ (Oper.mk (some _) (Op.binOp BinOp.sub _ _ _ _) _ _ _ none :: _) _ _ _; first | refine X.subI rfl rfl (by omega) ?_ | refine X.go rfl ?_)
    | (show XO _ _ _ (Oper.mk (some _) (Op.binOp BinOp.mul _ _ _ _) _ _ _ none :: _) _ _ _; first | refine X.mulI rfl rfl (by omega) ?_ | refine X.go rfl ?_)
    | (show XO _ _ _ (Oper.mk (some _) (Op.binOp BinOp.quo _ _ _ _) _ _ _ none :: _) _ _ _; first | refine X.quoI rfl rfl (by omega) ?_ | refine X.go rfl ?_)
    | (show XO _ _ _ (Oper.mk (some _) (Op.binOp BinOp.rem _ _ _ _) _ _ _ none :: _) _ _ _; first | refine X.remI rfl rfl (by omega) ?_ | refine X.go rfl ?_)
    | (show XO _ _ _ (Oper.mk (some _) (Op.convert _ _ _) _ _ _ none :: _) _ _ _; first | refine X.cvI rfl rfl rfl (w64R (by omega)) ?_ | refine X.cvI rfl rfl rfl (wU8 (by omega)) ?_ | refine X.cvI rfl rfl rfl (wU16 (by omega)) ?_ | refine X.cvI rfl rfl rfl (wU32 (by omega)) ?_ | refine X.cvI rfl rfl rfl (wU64 (by omega)) ?_ | refine X.go rfl ?_)
    | (show XO _ _ _ (Oper.mk (some _) (Op.indexAddr _ _ _) _ _ _ none :: _) _ _ _; first | refine X.iaS rfl rfl (by omega) ?_ | refine X.iaO rfl rfl (by omega) rfl ?_ | refine X.go rfl ?_)
    | (show XO _ _ _ (Oper.mk (some _) (Op.load _ _) _ _ _ none :: _) _ _ _; first | refine X.go rfl ?_ | refine X.ldO rfl rfl (by omega) ?_ | refine X.ldA rfl rfl (by omega) rfl ?_)
    | (show XO _ _ _ (Oper.mk (some _) (_) _ _ _ none :: _) _ _ _; first | refine X.go rfl ?_ | refine X.shl rfl rfl (by first | omega | exact Int.natCast_nonneg _) ?_ | refine X.shr rfl rfl (by first | omega | exact Int.natCast_nonneg _) ?_)
    | (show XO _ _ _ (Oper.mk _ _ _ _ _ (some _) :: _) _ _ _; first | refine X.hy rfl (by (conv => lhs; whnf) <;> rfl) (by first | with_reducible rfl | with_reducible exact notT | with_reducible exact notF) ?_ | refine X.hnt rfl (by (conv => lhs; whnf) <;> rfl) (by first | with_reducible rfl | with_reducible exact notT | with_reducible exact notF) ?_ | refine X.hnf rfl (by (conv => lhs; whnf) <;> rfl) (by first | with_reducible rfl | with_reducible exact notT | with_reducible exact notF) ?_ | refine X.hu rfl (by (conv => lhs; whnf) <;> rfl) (by with_reducible rfl) ?_ | refine X.hpt rfl (by (conv => lhs; whnf) <;> rfl) (by with_reducible rfl) (by first | omega | decide) ?_ | refine X.hpf rfl (by (conv => lhs; whnf) <;> rfl) (by with_reducible rfl) (by first | omega | decide) ?_ | refine X.hqt rfl (by (conv => lhs; whnf) <;> rfl) (by with_reducible rfl) (by first | omega | decide) ?_ | refine X.hqf rfl (by (conv => lhs; whnf) <;> rfl) (by with_reducible rfl) (by first | omega | decide) ?_ | refine X.hp rfl (by (conv => lhs; whnf) <;> rfl) (by with_reducible rfl) (fun h => ?_) (fun h => ?_) | refine X.hq rfl (by (conv => lhs; whnf) <;> rfl) (by with_reducible rfl) (fun h => ?_) (fun h => ?_) | refine X.hb rfl (by (conv => lhs; whnf) <;> rfl) (by with_reducible rfl) (fun h => ?_) (fun h => ?_))
    | (show XO _ _ _ (Oper.mk none _ _ _ _ none :: _) _ _ _; refine X.st rfl ?_)
    | (show XO _ _ _ [] _ _ _; refine X.nil ?_)
    | (show AO _ _ _ (Oper.mk (some _) (Op.move _) _ _ _ none :: _) _ _ _; refine A.mv ?_)
    | (show AO _ _ _ (Oper.mk (some _) (Op.assign _) _ _ _ none :: _) _ _ _; refine A.as ?_)
    | (show AO _ _ _ (Oper.mk (some _) (Op.call (Call.mk (Callee.builtin Builtin.len) _ _)) _ _ _ none :: _) _ _ _; first | refine A.lnS rfl ?_ | refine A.lnO rfl ?_ | refine A.go rfl ?_)
    | (show AO _ _ _ (Oper.mk (some _) (Op.call _) _ _ _ none :: _) _ _ _; first | refine A.go rfl ?_)
    | (show AO _ _ _ (Oper.mk (some _) (Op.binOp BinOp.add _ _ _ _) _ _ _ none :: _) _ _ _; first | refine A.addI rfl rfl (by omega) ?_ | refine A.go rfl ?_)
    | (show AO _ _ _ (Oper.mk (some _) (Op.binOp BinOp.sub _ _ _ _) _ _ _ none :: _) _ _ _; first | refine A.subI rfl rfl (by omega) ?_ | refine A.go rfl ?_)
    | (show AO _ _ _ (Oper.mk (some _) (Op.binOp BinOp.mul _ _ _ _) _ _ _ none :: _) _ _ _; first | refine A.mulI rfl rfl (by omega) ?_ | refine A.go rfl ?_)
    | (show AO _ _ _ (Oper.mk (some _) (Op.binOp BinOp.quo _ _ _ _) _ _ _ none :: _) _ _ _; first | refine A.quoI rfl rfl (by omega) ?_ | refine A.go rfl ?_)
    | (show AO _ _ _ (Oper.mk (some _) (Op.binOp BinOp.rem _ _ _ _) _ _ _ none :: _) _ _ _; first | refine A.remI rfl rfl (by omega) ?_ | refine A.go rfl ?_)
    | (show AO _ _ _ (Oper.mk (some _) (Op.convert _ _ _) _ _ _ none :: _) _ _ _; first | refine A.cvI rfl rfl rfl (w64R (by omega)) ?_ | refine A.cvI rfl rfl rfl (wU8 (by omega)) ?_ | refine A.cvI rfl rfl rfl (wU16 (by omega)) ?_ | refine A.cvI rfl rfl rfl (wU32 (by omega)) ?_ | refine A.cvI rfl rfl rfl (wU64 (by omega)) ?_ | refine A.go rfl ?_)
    | (show AO _ _ _ (Oper.mk (some _) (Op.indexAddr _ _ _) _ _ _ none :: _) _ _ _; first | refine A.iaS rfl rfl (by omega) ?_ | refine A.iaO rfl rfl (by omega) rfl ?_ | refine A.go rfl ?_)
    | (show AO _ _ _ (Oper.mk (some _) (Op.load _ _) _ _ _ none :: _) _ _ _; first | refine A.go rfl ?_ | refine A.ldO rfl rfl (by omega) ?_ | refine A.ldA rfl rfl (by omega) rfl ?_)
    | (show AO _ _ _ (Oper.mk (some _) (_) _ _ _ none :: _) _ _ _; first | refine A.go rfl ?_ | refine A.shl rfl rfl (by first | omega | exact Int.natCast_nonneg _) ?_ | refine A.shr rfl rfl (by first | omega | exact Int.natCast_nonneg _) ?_)
    | (show AO _ _ _ (Oper.mk _ _ _ _ _ (some _) :: _) _ _ _; first | refine A.hy rfl (by (conv => lhs; whnf) <;> rfl) (by first | with_reducible rfl | with_reducible exact notT | with_reducible exact notF) ?_ | refine A.hnt rfl (by (conv => lhs; whnf) <;> rfl) (by first | with_reducible rfl | with_reducible exact notT | with_reducible exact notF) ?_ | refine A.hnf rfl (by (conv => lhs; whnf) <;> rfl) (by first | with_reducible rfl | with_reducible exact notT | with_reducible exact notF) ?_ | refine A.hu rfl (by (conv => lhs; whnf) <;> rfl) (by with_reducible rfl) ?_ | refine A.hpt rfl (by (conv => lhs; whnf) <;> rfl) (by with_reducible rfl) (by first | omega | decide) ?_ | refine A.hpf rfl (by (conv => lhs; whnf) <;> rfl) (by with_reducible rfl) (by first | omega | decide) ?_ | refine A.hqt rfl (by (conv => lhs; whnf) <;> rfl) (by with_reducible rfl) (by first | omega | decide) ?_ | refine A.hqf rfl (by (conv => lhs; whnf) <;> rfl) (by with_reducible rfl) (by first | omega | decide) ?_ | refine A.hp rfl (by (conv => lhs; whnf) <;> rfl) (by with_reducible rfl) (fun h => ?_) (fun h => ?_) | refine A.hq rfl (by (conv => lhs; whnf) <;> rfl) (by with_reducible rfl) (fun h => ?_) (fun h => ?_) | refine A.hb rfl (by (conv => lhs; whnf) <;> rfl) (by with_reducible rfl) (fun h => ?_) (fun h => ?_))
    | (show AO _ _ _ [] _ _ _; refine A.nil ?_)
    | (show CW _ _ _ _ (Code.seq (Code.region _ _ false) _) _ _ _; refine W.rq ?_)
    | (show CW _ _ _ _ (Code.region _ _ false) _ _ _; refine W.rz ?_)
    | (show CW _ _ _ _ (Code.seq (Code.region _ _ true) _) _ _ _; first | refine W.dq 0 ?_ | refine W.dq 1 ?_ | refine W.dq 2 ?_ | refine W.dq 3 ?_ | refine W.dq 4 ?_ | refine W.dq 5 ?_ | refine W.dq 6 ?_ | refine W.dq 7 ?_ | refine W.dq 8 ?_ | refine W.dq 9 ?_ | refine W.dq 10 ?_ | refine W.dq 11 ?_)
    | (show CW _ _ _ _ (Code.region _ _ true) _ _ _; first | refine W.dz 0 ?_ | refine W.dz 1 ?_ | refine W.dz 2 ?_ | refine W.dz 3 ?_ | refine W.dz 4 ?_ | refine W.dz 5 ?_ | refine W.dz 6 ?_ | refine W.dz 7 ?_ | refine W.dz 8 ?_ | refine W.dz 9 ?_ | refine W.dz 10 ?_ | refine W.dz 11 ?_)
    | (show CW _ _ _ _ (Code.cond _ _ _) _ _ _; first | refine W.jt (by (conv => lhs; whnf) <;> rfl) (by first | with_reducible rfl | with_reducible exact notT | with_reducible exact notF) ?_ | refine W.jf (by (conv => lhs; whnf) <;> rfl) (by first | with_reducible rfl | with_reducible exact notT | with_reducible exact notF) ?_ | refine W.jpt (by (conv => lhs; whnf) <;> rfl) (by with_reducible rfl) (by first | omega | decide) ?_ | refine W.jpf (by (conv => lhs; whnf) <;> rfl) (by with_reducible rfl) (by first | omega | decide) ?_ | refine W.jqt (by (conv => lhs; whnf) <;> rfl) (by with_reducible rfl) (by first | omega | decide) ?_ | refine W.jqf (by (conv => lhs; whnf) <;> rfl) (by with_reducible rfl) (by first | omega | decide) ?_ | refine W.jp (by (conv => lhs; whnf) <;> rfl) (by with_reducible rfl) (fun h => ?_) (fun h => ?_) | refine W.jq (by (conv => lhs; whnf) <;> rfl) (by with_reducible rfl) (fun h => ?_) (fun h => ?_) | refine W.jb (by (conv => lhs; whnf) <;> rfl) (by with_reducible rfl) (fun h => ?_) (fun h => ?_))
    | (show CW _ _ _ _ _ _ _ _; first | refine W.kr ?_ | refine W.kn ?_ | refine W.ke ?_ | refine W.bl ?_ | refine W.sq ?_)
    | (show KO _ _ _ _; first | refine K.sn ?_ | refine K.sr ?_ | refine K.se ?_ | refine K.bn ?_ | refine K.br ?_ | refine K.be ?_ | refine K.bx rfl ?_ | refine K.lr ?_ | refine K.le ?_ | refine K.ln _ ?_ ⟨i + 1, y / 2, rfl, vI (by omega), vI (by omega), rfl, ?_, rfl⟩)
    | (show KO _ _ _ _; first | refine K.ya rfl ?_)
    | refine K.nx ?_
    | refine K.re ?_
    | refine K.dr ?_
  · omega
  · have hi : i < 11 := by
      by_cases h : i = 11
      · subst h; simp at h4; omega
      · omega
    refine ⟨by omega, ?_, by omega, ?_⟩
    · rw [show 11 - i = (11 - (i + 1)) + 1 by omega, levF, if_pos (by omega)] at h2
      omega
    · rw [show 11 - i = (11 - (i + 1)) + 1 by omega, Nat.pow_succ] at h4
      omega
  · refine end_data rfl rfl (vI ?_)
    rw [← h2]
    by_cases hi : i = 11
    · subst hi; simp [levF]
    · rw [show 11 - i = (11 - (i + 1)) + 1 by omega, levF, if_neg (by omega)]; omega
theorem refLevel (H : ZT Z) (x : Int) (L : List Go.Pv.Obj) : SE Tryd.prog Z 30 [.int .i64 x] L (.int .i64 (lv x)) L := by
  by_cases h : x < 0 ∨ 2047 ≤ x
  · rw [show lv x = 0 by unfold lv; rw [if_pos h]]
    refine SE.data H.z Tryd.func30 rfl ?_
    repeat' first
      | (show XO _ _ _ (Oper.mk (some _) (Op.move _) _ _ _ none :: _) _ _ _; refine X.mv ?_)
      | (show XO _ _ _ (Oper.mk (some _) (Op.assign _) _ _ _ none :: _) _ _ _; refine X.as ?_)
      | (show XO _ _ _ (Oper.mk (some _) (Op.call (Call.mk (Callee.builtin Builtin.len) _ _)) _ _ _ none :: _) _ _ _; first | refine X.lnS rfl ?_ | refine X.lnO rfl ?_ | refine X.go rfl ?_)
      | (show XO _ _ _ (Oper.mk (some _) (Op.call _) _ _ _ none :: _) _ _ _; first | refine X.go rfl ?_)
      | (show XO _ _ _ (Oper.mk (some _) (Op.binOp BinOp.add _ _ _ _) _ _ _ none :: _) _ _ _; first | refine X.addI rfl rfl (by omega) ?_ | refine X.go rfl ?_)
      | (show XO _ _ _ (Oper.mk (some _) (Op.binOp BinOp.sub _ _ _ _) _ _ _ none :: _) _ _ _; first | refine X.subI rfl rfl (by omega) ?_ | refine X.go rfl ?_)
      | (show XO _ _ _ (Oper.mk (some _) (Op.binOp BinOp.mul _ _ _ _) _ _ _ none :: _) _ _ _; first | refine X.mulI rfl rfl (by omega) ?_ | refine X.go rfl ?_)
      | (show XO _ _ _ (Oper.mk (some _) (Op.binOp BinOp.quo _ _ _ _) _ _ _ none :: _) _ _ _; first | refine X.quoI rfl rfl (by omega) ?_ | refine X.go rfl ?_)
      | (show XO _ _ _ (Oper.mk (some _) (Op.binOp BinOp.rem _ _ _ _) _ _ _ none :: _) _ _ _; first | refine X.remI rfl rfl (by omega) ?_ | refine X.go rfl ?_)
      | (show XO _ _ _ (Oper.mk (some _) (Op.convert _ _ _) _ _ _ none :: _) _ _ _; first | refine X.cvI rfl rfl rfl (w64R (by omega)) ?_ | refine X.cvI rfl rfl rfl (wU8 (by omega)) ?_ | refine X.cvI rfl rfl rfl (wU16 (by omega)) ?_ | refine X.cvI rfl rfl rfl (wU32 (by omega)) ?_ | refine X.cvI rfl rfl rfl (wU64 (by omega)) ?_ | refine X.go rfl ?_)
      | (show XO _ _ _ (Oper.mk (some _) (Op.indexAddr _ _ _) _ _ _ none :: _) _ _ _; first | refine X.iaS rfl rfl (by omega) ?_ | refine X.iaO rfl rfl (by omega) rfl ?_ | refine X.go rfl ?_)
      | (show XO _ _ _ (Oper.mk (some _) (Op.load _ _) _ _ _ none :: _) _ _ _; first | refine X.go rfl ?_ | refine X.ldO rfl rfl (by omega) ?_ | refine X.ldA rfl rfl (by omega) rfl ?_)
      | (show XO _ _ _ (Oper.mk (some _) (_) _ _ _ none :: _) _ _ _; first | refine X.go rfl ?_ | refine X.shl rfl rfl (by first | omega | exact Int.natCast_nonneg _) ?_ | refine X.shr rfl rfl (by first | omega | exact Int.natCast_nonneg _) ?_)
      | (show XO _ _ _ (Oper.mk _ _ _ _ _ (some _) :: _) _ _ _; first | refine X.hy rfl (by (conv => lhs; whnf) <;> rfl) (by first | with_reducible rfl | with_reducible exact notT | with_reducible exact notF) ?_ | refine X.hnt rfl (by (conv => lhs; whnf) <;> rfl) (by first | with_reducible rfl | with_reducible exact notT | with_reducible exact notF) ?_ | refine X.hnf rfl (by (conv => lhs; whnf) <;> rfl) (by first | with_reducible rfl | with_reducible exact notT | with_reducible exact notF) ?_ | refine X.hu rfl (by (conv => lhs; whnf) <;> rfl) (by with_reducible rfl) ?_ | refine X.hpt rfl (by (conv => lhs; whnf) <;> rfl) (by with_reducible rfl) (by first | omega | decide) ?_ | refine X.hpf rfl (by (conv => lhs; whnf) <;> rfl) (by with_reducible rfl) (by first | omega | decide) ?_ | refine X.hqt rfl (by (conv => lhs; whnf) <;> rfl) (by with_reducible rfl) (by first | omega | decide) ?_ | refine X.hqf rfl (by (conv => lhs; whnf) <;> rfl) (by with_reducible rfl) (by first | omega | decide) ?_ | refine X.hp rfl (by (conv => lhs; whnf) <;> rfl) (by with_reducible rfl) (fun h => ?_) (fun h => ?_) | refine X.hq rfl (by (conv => lhs; whnf) <;> rfl) (by with_reducible rfl) (fun h => ?_) (fun h => ?_) | refine X.hb rfl (by (conv => lhs; whnf) <;> rfl) (by with_reducible rfl) (fun h => ?_) (fun h => ?_))
      | (show XO _ _ _ (Oper.mk none _ _ _ _ none :: _) _ _ _; refine X.st rfl ?_)
      | (show XO _ _ _ [] _ _ _; refine X.nil ?_)
      | (show AO _ _ _ (Oper.mk (some _) (Op.move _) _ _ _ none :: _) _ _ _; refine A.mv ?_)
      | (show AO _ _ _ (Oper.mk (some _) (Op.assign _) _ _ _ none :: _) _ _ _; refine A.as ?_)
      | (show AO _ _ _ (Oper.mk (some _) (Op.call (Call.mk (Callee.builtin Builtin.len) _ _)) _ _ _ none :: _) _ _ _; first | refine A.lnS rfl ?_ | refine A.lnO rfl ?_ | refine A.go rfl ?_)
      | (show AO _ _ _ (Oper.mk (some _) (Op.call _) _ _ _ none :: _) _ _ _; first | refine A.go rfl ?_)
      | (show AO _ _ _ (Oper.mk (some _) (Op.binOp BinOp.add _ _ _ _) _ _ _ none :: _) _ _ _; first | refine A.addI rfl rfl (by omega) ?_ | refine A.go rfl ?_)
      | (show AO _ _ _ (Oper.mk (some _) (Op.binOp BinOp.sub _ _ _ _) _ _ _ none :: _) _ _ _; first | refine A.subI rfl rfl (by omega) ?_ | refine A.go rfl ?_)
      | (show AO _ _ _ (Oper.mk (some _) (Op.binOp BinOp.mul _ _ _ _) _ _ _ none :: _) _ _ _; first | refine A.mulI rfl rfl (by omega) ?_ | refine A.go rfl ?_)
      | (show AO _ _ _ (Oper.mk (some _) (Op.binOp BinOp.quo _ _ _ _) _ _ _ none :: _) _ _ _; first | refine A.quoI rfl rfl (by omega) ?_ | refine A.go rfl ?_)
      | (show AO _ _ _ (Oper.mk (some _) (Op.binOp BinOp.rem _ _ _ _) _ _ _ none :: _) _ _ _; first | refine A.remI rfl rfl (by omega) ?_ | refine A.go rfl ?_)
      | (show AO _ _ _ (Oper.mk (some _) (Op.convert _ _ _) _ _ _ none :: _) _ _ _; first | refine A.cvI rfl rfl rfl (w64R (by omega)) ?_ | refine A.cvI rfl rfl rfl (wU8 (by omega)) ?_ | refine A.cvI rfl rfl rfl (wU16 (by omega)) ?_ | refine A.cvI rfl rfl rfl (wU32 (by omega)) ?_ | refine A.cvI rfl rfl rfl (wU64 (by omega)) ?_ | refine A.go rfl ?_)
      | (show AO _ _ _ (Oper.mk (some _) (Op.indexAddr _ _ _) _ _ _ none :: _) _ _ _; first | refine A.iaS rfl rfl (by omega) ?_ | refine A.iaO rfl rfl (by omega) rfl ?_ | refine A.go rfl ?_)
      | (show AO _ _ _ (Oper.mk (some _) (Op.load _ _) _ _ _ none :: _) _ _ _; first | refine A.go rfl ?_ | refine A.ldO rfl rfl (by omega) ?_ | refine A.ldA rfl rfl (by omega) rfl ?_)
      | (show AO _ _ _ (Oper.mk (some _) (_) _ _ _ none :: _) _ _ _; first | refine A.go rfl ?_ | refine A.shl rfl rfl (by first | omega | exact Int.natCast_nonneg _) ?_ | refine A.shr rfl rfl (by first | omega | exact Int.natCast_nonneg _) ?_)
      | (show AO _ _ _ (Oper.mk _ _ _ _ _ (some _) :: _) _ _ _; first | refine A.hy rfl (by (conv => lhs; whnf) <;> rfl) (by first | with_reducible rfl | with_reducible exact notT | with_reducible exact notF) ?_ | refine A.hnt rfl (by (conv => lhs; whnf) <;> rfl) (by first | with_reducible rfl | with_reducible exact notT | with_reducible exact notF) ?_ | refine A.hnf rfl (by (conv => lhs; whnf) <;> rfl) (by first | with_reducible rfl | with_reducible exact notT | with_reducible exact notF) ?_ | refine A.hu rfl (by (conv => lhs; whnf) <;> rfl) (by with_reducible rfl) ?_ | refine A.hpt rfl (by (conv => lhs; whnf) <;> rfl) (by with_reducible rfl) (by first | omega | decide) ?_ | refine A.hpf rfl (by (conv => lhs; whnf) <;> rfl) (by with_reducible rfl) (by first | omega | decide) ?_ | refine A.hqt rfl (by (conv => lhs; whnf) <;> rfl) (by with_reducible rfl) (by first | omega | decide) ?_ | refine A.hqf rfl (by (conv => lhs; whnf) <;> rfl) (by with_reducible rfl) (by first | omega | decide) ?_ | refine A.hp rfl (by (conv => lhs; whnf) <;> rfl) (by with_reducible rfl) (fun h => ?_) (fun h => ?_) | refine A.hq rfl (by (conv => lhs; whnf) <;> rfl) (by with_reducible rfl) (fun h => ?_) (fun h => ?_) | refine A.hb rfl (by (conv => lhs; whnf) <;> rfl) (by with_reducible rfl) (fun h => ?_) (fun h => ?_))
      | (show AO _ _ _ [] _ _ _; refine A.nil ?_)
      | (show CW _ _ _ _ (Code.seq (Code.region _ _ false) _) _ _ _; refine W.rq ?_)
      | (show CW _ _ _ _ (Code.region _ _ false) _ _ _; refine W.rz ?_)
      | (show CW _ _ _ _ (Code.seq (Code.region _ _ true) _) _ _ _; first | refine W.dq 0 ?_ | refine W.dq 1 ?_ | refine W.dq 2 ?_ | refine W.dq 3 ?_ | refine W.dq 4 ?_ | refine W.dq 5 ?_ | refine W.dq 6 ?_ | refine W.dq 7 ?_ | refine W.dq 8 ?_ | refine W.dq 9 ?_ | refine W.dq 10 ?_ | refine W.dq 11 ?_)
      | (show CW _ _ _ _ (Code.region _ _ true) _ _ _; first | refine W.dz 0 ?_ | refine W.dz 1 ?_ | refine W.dz 2 ?_ | refine W.dz 3 ?_ | refine W.dz 4 ?_ | refine W.dz 5 ?_ | refine W.dz 6 ?_ | refine W.dz 7 ?_ | refine W.dz 8 ?_ | refine W.dz 9 ?_ | refine W.dz 10 ?_ | refine W.dz 11 ?_)
      | (show CW _ _ _ _ (Code.cond _ _ _) _ _ _; first | refine W.jt (by (conv => lhs; whnf) <;> rfl) (by first | with_reducible rfl | with_reducible exact notT | with_reducible exact notF) ?_ | refine W.jf (by (conv => lhs; whnf) <;> rfl) (by first | with_reducible rfl | with_reducible exact notT | with_reducible exact notF) ?_ | refine W.jpt (by (conv => lhs; whnf) <;> rfl) (by with_reducible rfl) (by first | omega | decide) ?_ | refine W.jpf (by (conv => lhs; whnf) <;> rfl) (by with_reducible rfl) (by first | omega | decide) ?_ | refine W.jqt (by (conv => lhs; whnf) <;> rfl) (by with_reducible rfl) (by first | omega | decide) ?_ | refine W.jqf (by (conv => lhs; whnf) <;> rfl) (by with_reducible rfl) (by first | omega | decide) ?_ | refine W.jp (by (conv => lhs; whnf) <;> rfl) (by with_reducible rfl) (fun h => ?_) (fun h => ?_) | refine W.jq (by (conv => lhs; whnf) <;> rfl) (by with_reducible rfl) (fun h => ?_) (fun h => ?_) | refine W.jb (by (conv => lhs; whnf) <;> rfl) (by with_reducible rfl) (fun h => ?_) (fun h => ?_))
      | (show CW _ _ _ _ _ _ _ _; first | refine W.kr ?_ | refine W.kn ?_ | refine W.ke ?_ | refine W.bl ?_ | refine W.sq ?_)
      | (show KO _ _ _ _; first | refine K.sn ?_ | refine K.sr ?_ | refine K.se ?_ | refine K.bn ?_ | refine K.br ?_ | refine K.be ?_ | refine K.bx rfl ?_ | refine K.lr ?_ | refine K.le ?_)
      | (show KO _ _ _ _; first | refine K.ya rfl ?_)
      | refine K.nx ?_
      | refine K.re ?_
      | refine K.dr ?_
    have hx := h
    refine W.lp (fun m st => st.env 0 = .int .i64 x ∧ st.env 3 = .int .i64 0 ∧ st.env 4 = .int .i64 x ∧ st.L = L ∧ (True) ∧ m = 0) _ ⟨rfl, rfl, rfl, rfl, ?_, rfl⟩ ?_
    · trivial
    rintro m env L ⟨e0, e3, e4, eL, hI, hm⟩
    dsimp only at e0 e3 e4 eL
    subst eL
    refine W.ev 0 e0 ?_
    refine W.ev 3 e3 ?_
    refine W.ev 4 e4 ?_
    repeat' first
      | (show XO _ _ _ (Oper.mk (some _) (Op.move _) _ _ _ none :: _) _ _ _; refine X.mv ?_)
      | (show XO _ _ _ (Oper.mk (some _) (Op.assign _) _ _ _ none :: _) _ _ _; refine X.as ?_)
      | (show XO _ _ _ (Oper.mk (some _) (Op.call (Call.mk (Callee.builtin Builtin.len) _ _)) _ _ _ none :: _) _ _ _; first | refine X.lnS rfl ?_ | refine X.lnO rfl ?_ | refine X.go rfl ?_)
      | (show XO _ _ _ (Oper.mk (some _) (Op.call _) _ _ _ none :: _) _ _ _; first | refine X.go rfl ?_)
      | (show XO _ _ _ (Oper.mk (some _) (Op.binOp BinOp.add _ _ _ _) _ _ _ none :: _) _ _ _; first | refine X.addI rfl rfl (by omega) ?_ | refine X.go rfl ?_)
      | (show XO _ _ _ (Oper.mk (some _) (Op.binOp BinOp.sub _ _ _ _) _ _ _ none :: _) _ _ _; first | refine X.subI rfl rfl (by omega) ?_ | refine X.go rfl ?_)
      | (show XO _ _ _ (Oper.mk (some _) (Op.binOp BinOp.mul _ _ _ _) _ _ _ none :: _) _ _ _; first | refine X.mulI rfl rfl (by omega) ?_ | refine X.go rfl ?_)
      | (show XO _ _ _ (Oper.mk (some _) (Op.binOp BinOp.quo _ _ _ _) _ _ _ none :: _) _ _ _; first | refine X.quoI rfl rfl (by omega) ?_ | refine X.go rfl ?_)
      | (show XO _ _ _ (Oper.mk (some _) (Op.binOp BinOp.rem _ _ _ _) _ _ _ none :: _) _ _ _; first | refine X.remI rfl rfl (by omega) ?_ | refine X.go rfl ?_)
      | (show XO _ _ _ (Oper.mk (some _) (Op.convert _ _ _) _ _ _ none :: _) _ _ _; first | refine X.cvI rfl rfl rfl (w64R (by omega)) ?_ | refine X.cvI rfl rfl rfl (wU8 (by omega)) ?_ | refine X.cvI rfl rfl rfl (wU16 (by omega)) ?_ | refine X.cvI rfl rfl rfl (wU32 (by omega)) ?_ | refine X.cvI rfl rfl rfl (wU64 (by omega)) ?_ | refine X.go rfl ?_)
      | (show XO _ _ _ (Oper.mk (some _) (Op.indexAddr _ _ _) _ _ _ none :: _) _ _ _; first | refine X.iaS rfl rfl (by omega) ?_ | refine X.iaO rfl rfl (by omega) rfl ?_ | refine X.go rfl ?_)
      | (show XO _ _ _ (Oper.mk (some _) (Op.load _ _) _ _ _ none :: _) _ _ _; first | refine X.go rfl ?_ | refine X.ldO rfl rfl (by omega) ?_ | refine X.ldA rfl rfl (by omega) rfl ?_)
      | (show XO _ _ _ (Oper.mk (some _) (_) _ _ _ none :: _) _ _ _; first | refine X.go rfl ?_ | refine X.shl rfl rfl (by first | omega | exact Int.natCast_nonneg _) ?_ | refine X.shr rfl rfl (by first | omega | exact Int.natCast_nonneg _) ?_)
      | (show XO _ _ _ (Oper.mk _ _ _ _ _ (some _) :: _) _ _ _; first | refine X.hy rfl (by (conv => lhs; whnf) <;> rfl) (by first | with_reducible rfl | with_reducible exact notT | with_reducible exact notF) ?_ | refine X.hnt rfl (by (conv => lhs; whnf) <;> rfl) (by first | with_reducible rfl | with_reducible exact notT | with_reducible exact notF) ?_ | refine X.hnf rfl (by (conv => lhs; whnf) <;> rfl) (by first | with_reducible rfl | with_reducible exact notT | with_reducible exact notF) ?_ | refine X.hu rfl (by (conv => lhs; whnf) <;> rfl) (by with_reducible rfl) ?_ | refine X.hpt rfl (by (conv => lhs; whnf) <;> rfl) (by with_reducible rfl) (by first | omega | decide) ?_ | refine X.hpf rfl (by (conv => lhs; whnf) <;> rfl) (by with_reducible rfl) (by first | omega | decide) ?_ | refine X.hqt rfl (by (conv => lhs; whnf) <;> rfl) (by with_reducible rfl) (by first | omega | decide) ?_ | refine X.hqf rfl (by (conv => lhs; whnf) <;> rfl) (by with_reducible rfl) (by first | omega | decide) ?_ | refine X.hp rfl (by (conv => lhs; whnf) <;> rfl) (by with_reducible rfl) (fun h => ?_) (fun h => ?_) | refine X.hq rfl (by (conv => lhs; whnf) <;> rfl) (by with_reducible rfl) (fun h => ?_) (fun h => ?_) | refine X.hb rfl (by (conv => lhs; whnf) <;> rfl) (by with_reducible rfl) (fun h => ?_) (fun h => ?_))
      | (show XO _ _ _ (Oper.mk none _ _ _ _ none :: _) _ _ _; refine X.st rfl ?_)
      | (show XO _ _ _ [] _ _ _; refine X.nil ?_)
      | (show AO _ _ _ (Oper.mk (some _) (Op.move _) _ _ _ none :: _) _ _ _; refine A.mv ?_)
      | (show AO _ _ _ (Oper.mk (some _) (Op.assign _) _ _ _ none :: _) _ _ _; refine A.as ?_)
      | (show AO _ _ _ (Oper.mk (some _) (Op.call (Call.mk (Callee.builtin Builtin.len) _ _)) _ _ _ none :: _) _ _ _; first | refine A.lnS rfl ?_ | refine A.lnO rfl ?_ | refine A.go rfl ?_)
      | (show AO _ _ _ (Oper.mk (some _) (Op.call _) _ _ _ none :: _) _ _ _; first | refine A.go rfl ?_)
      | (show AO _ _ _ (Oper.mk (some _) (Op.binOp BinOp.add _ _ _ _) _ _ _ none :: _) _ _ _; first | refine A.addI rfl rfl (by omega) ?_ | refine A.go rfl ?_)
      | (show AO _ _ _ (Oper.mk (some _) (Op.binOp BinOp.sub _ _ _ _) _ _ _ none :: _) _ _ _; first | refine A.subI rfl rfl (by omega) ?_ | refine A.go rfl ?_)
      | (show AO _ _ _ (Oper.mk (some _) (Op.binOp BinOp.mul _ _ _ _) _ _ _ none :: _) _ _ _; first | refine A.mulI rfl rfl (by omega) ?_ | refine A.go rfl ?_)
      | (show AO _ _ _ (Oper.mk (some _) (Op.binOp BinOp.quo _ _ _ _) _ _ _ none :: _) _ _ _; first | refine A.quoI rfl rfl (by omega) ?_ | refine A.go rfl ?_)
      | (show AO _ _ _ (Oper.mk (some _) (Op.binOp BinOp.rem _ _ _ _) _ _ _ none :: _) _ _ _; first | refine A.remI rfl rfl (by omega) ?_ | refine A.go rfl ?_)
      | (show AO _ _ _ (Oper.mk (some _) (Op.convert _ _ _) _ _ _ none :: _) _ _ _; first | refine A.cvI rfl rfl rfl (w64R (by omega)) ?_ | refine A.cvI rfl rfl rfl (wU8 (by omega)) ?_ | refine A.cvI rfl rfl rfl (wU16 (by omega)) ?_ | refine A.cvI rfl rfl rfl (wU32 (by omega)) ?_ | refine A.cvI rfl rfl rfl (wU64 (by omega)) ?_ | refine A.go rfl ?_)
      | (show AO _ _ _ (Oper.mk (some _) (Op.indexAddr _ _ _) _ _ _ none :: _) _ _ _; first | refine A.iaS rfl rfl (by omega) ?_ | refine A.iaO rfl rfl (by omega) rfl ?_ | refine A.go rfl ?_)
      | (show AO _ _ _ (Oper.mk (some _) (Op.load _ _) _ _ _ none :: _) _ _ _; first | refine A.go rfl ?_ | refine A.ldO rfl rfl (by omega) ?_ | refine A.ldA rfl rfl (by omega) rfl ?_)
      | (show AO _ _ _ (Oper.mk (some _) (_) _ _ _ none :: _) _ _ _; first | refine A.go rfl ?_ | refine A.shl rfl rfl (by first | omega | exact Int.natCast_nonneg _) ?_ | refine A.shr rfl rfl (by first | omega | exact Int.natCast_nonneg _) ?_)
      | (show AO _ _ _ (Oper.mk _ _ _ _ _ (some _) :: _) _ _ _; first | refine A.hy rfl (by (conv => lhs; whnf) <;> rfl) (by first | with_reducible rfl | with_reducible exact notT | with_reducible exact notF) ?_ | refine A.hnt rfl (by (conv => lhs; whnf) <;> rfl) (by first | with_reducible rfl | with_reducible exact notT | with_reducible exact notF) ?_ | refine A.hnf rfl (by (conv => lhs; whnf) <;> rfl) (by first | with_reducible rfl | with_reducible exact notT | with_reducible exact notF) ?_ | refine A.hu rfl (by (conv => lhs; whnf) <;> rfl) (by with_reducible rfl) ?_ | refine A.hpt rfl (by (conv => lhs; whnf) <;> rfl) (by with_reducible rfl) (by first | omega | decide) ?_ | refine A.hpf rfl (by (conv => lhs; whnf) <;> rfl) (by with_reducible rfl) (by first | omega | decide) ?_ | refine A.hqt rfl (by (conv => lhs; whnf) <;> rfl) (by with_reducible rfl) (by first | omega | decide) ?_ | refine A.hqf rfl (by (conv => lhs; whnf) <;> rfl) (by with_reducible rfl) (by first | omega | decide) ?_ | refine A.hp rfl (by (conv => lhs; whnf) <;> rfl) (by with_reducible rfl) (fun h => ?_) (fun h => ?_) | refine A.hq rfl (by (conv => lhs; whnf) <;> rfl) (by with_reducible rfl) (fun h => ?_) (fun h => ?_) | refine A.hb rfl (by (conv => lhs; whnf) <;> rfl) (by with_reducible rfl) (fun h => ?_) (fun h => ?_))
      | (show AO _ _ _ [] _ _ _; refine A.nil ?_)
      | (show CW _ _ _ _ (Code.seq (Code.region _ _ false) _) _ _ _; refine W.rq ?_)
      | (show CW _ _ _ _ (Code.region _ _ false) _ _ _; refine W.rz ?_)
      | (show CW _ _ _ _ (Code.seq (Code.region _ _ true) _) _ _ _; first | refine W.dq 0 ?_ | refine W.dq 1 ?_ | refine W.dq 2 ?_ | refine W.dq 3 ?_ | refine W.dq 4 ?_ | refine W.dq 5 ?_ | refine W.dq 6 ?_ | refine W.dq 7 ?_ | refine W.dq 8 ?_ | refine W.dq 9 ?_ | refine W.dq 10 ?_ | refine W.dq 11 ?_)
      | (show CW _ _ _ _ (Code.region _ _ true) _ _ _; first | refine W.dz 0 ?_ | refine W.dz 1 ?_ | refine W.dz 2 ?_ | refine W.dz 3 ?_ | refine W.dz 4 ?_ | refine W.dz 5 ?_ | refine W.dz 6 ?_ | refine W.dz 7 ?_ | refine W.dz 8 ?_ | refine W.dz 9 ?_ | refine W.dz 10 ?_ | refine W.dz 11 ?_)
      | (show CW _ _ _ _ (Code.cond _ _ _) _ _ _; first | refine W.jt (by (conv => lhs; whnf) <;> rfl) (by first | with_reducible rfl | with_reducible exact notT | with_reducible exact notF) ?_ | refine W.jf (by (conv => lhs; whnf) <;> rfl) (by first | with_reducible rfl | with_reducible exact notT | with_reducible exact notF) ?_ | refine W.jpt (by (conv => lhs; whnf) <;> rfl) (by with_reducible rfl) (by first | omega | decide) ?_ | refine W.jpf (by (conv => lhs; whnf) <;> rfl) (by with_reducible rfl) (by first | omega | decide) ?_ | refine W.jqt (by (conv => lhs; whnf) <;> rfl) (by with_reducible rfl) (by first | omega | decide) ?_ | refine W.jqf (by (conv => lhs; whnf) <;> rfl) (by with_reducible rfl) (by first | omega | decide) ?_ | refine W.jp (by (conv => lhs; whnf) <;> rfl) (by with_reducible rfl) (fun h => ?_) (fun h => ?_) | refine W.jq (by (conv => lhs; whnf) <;> rfl) (by with_reducible rfl) (fun h => ?_) (fun h => ?_) | refine W.jb (by (conv => lhs; whnf) <;> rfl) (by with_reducible rfl) (fun h => ?_) (fun h => ?_))
      | (show CW _ _ _ _ _ _ _ _; first | refine W.kr ?_ | refine W.kn ?_ | refine W.ke ?_ | refine W.bl ?_ | refine W.sq ?_)
      | (show KO _ _ _ _; first | refine K.sn ?_ | refine K.sr ?_ | refine K.se ?_ | refine K.bn ?_ | refine K.br ?_ | refine K.be ?_ | refine K.bx rfl ?_ | refine K.lr ?_ | refine K.le ?_)
      | (show KO _ _ _ _; first | refine K.ya rfl ?_)
      | refine K.nx ?_
      | refine K.re ?_
      | refine K.dr ?_
    all_goals exact end_data rfl rfl rfl
  · obtain ⟨y, rfl⟩ := Int.eq_ofNat_of_zero_le (show 0 ≤ x by omega)
    rw [lv_of y (by omega)]
    exact refLevel0 H y (by omega) L
end Go.Proofs.Mth
