import Derived.Test.YthhoacanegbeaaaDoorMR2
set_option linter.unusedVariables false
set_option linter.unusedSimpArgs false
set_option maxHeartbeats 4000000
namespace Go.Proofs.Mth
open Go Go.Pv Go.Proofs Go.Shelf
variable {Z : Nat → Go.Obj → Prop}
theorem sibV_nat {j y : Nat} (hj : j < 11) (hy : y < 2 * 2 ^ j - 1) : sibV (y : Int) ((2 ^ j : Nat) : Int) = if y + 1 = 2 ^ j then (0, 11) else (2 * ((upN y : Nat) : Int) - y, 0) := by
  unfold sibV
  rw [parV_nat hj hy]
  by_cases h : y + 1 = 2 ^ j
  · rw [if_pos h, if_pos h, if_neg (by decide)]
  · rw [if_neg h, if_neg h, if_pos rfl]
theorem refSibling (H : ZT Z) (x n : Int) (L : List Go.Pv.Obj) : SE Tryd.prog Z 32 [.int .i64 x, .int .i64 n] L (.tup [.int .i64 (sibV x n).1, .int .i64 (sibV x n).2]) L := by
  have hpar := refParent H x n
  refine SE.data H.z Tryd.func32 rfl ?_
  cases hN : isN x n with
  | false =>
    have hv : parV x n = (0, 1) := by unfold parV; rw [if_neg (by simp [hN])]
    rw [hv] at hpar
    repeat' first
      | (show XO _ _ _ (Oper.mk (some _) (Op.move _) _ _ _ none :: _) _ _ _; refine X.mv ?_)
      | (show XO _ _ _ (Oper.mk (some _) (Op.assign _) _ _ _ none :: _) _ _ _; refine X.as ?_)
      | (show XO _ _ _ (Oper.mk (some _) (Op.call (Call.mk (Callee.builtin Builtin.len) _ _)) _ _ _ none :: _) _ _ _; first | refine X.lnS rfl ?_ | refine X.lnO rfl ?_ | refine X.go rfl ?_)
      | (show XO _ _ _ (Oper.mk (some _) (Op.call _) _ _ _ none :: _) _ _ _; first | refine X.call (hpar _) ?_ | refine X.go rfl ?_)
      | (show XO _ _ _ (Oper.mk (some _) (Op.binOp BinOp.add _ _ _ _) _ _ _ none :: _) _ _ _; first | refine X.addI rfl rfl (by omega) ?_ | refine X.go rfl ?_)
      | (show XO _ _ _ (Oper.mk (some _) (Op.binOp BinOp.sub _ _ _ _) _ _ _ none :: _) _ _ _; first | refine X.subI rfl rfl (by omega) ?_ | refine X.go rfl ?_)
      | (show XO _ _ _ (Oper.mk (some _) (Op.binOp BinOp.mul _ _ _ _) _ _ _ none :: _) _ _ _; first | refine X.mulI rfl rfl (by omega) ?_ | refine X.go rfl ?_)
      | (show XO _ _ _ (Oper.mk (some _) (Op.binOp BinOp.quo _ _ _ _) _ _ _ none :: _) _ _ _; first | refine X.quoI rfl rfl (by omega) ?_ | refine X.go rfl ?_)
      | (show XO _ _ _ (Oper.mk (some _) (Op.binOp BinOp.rem _ _ _ _) _ _ _ none :: _) _ _ _; first | refine X.remI rfl rfl (by omega) ?_ | refine X.go rfl ?_)
      | (show XO _ _ _ (Oper.mk (some _) (Op.convert _ _ _) _ _ _ none :: _) _ _ _; first | refine X.cvI rfl rfl rfl (w64R (by omega)) ?_ | refine X.cvI rfl rfl rfl (wU8 (by omega)) ?_ | refine X.cvI rfl rfl rfl (wU16 (by omega)) ?_ | refine X.cvI rfl rfl rfl (wU32 (by omega)) ?_ | refine X.cvI rfl rfl rfl (wU64 (by omega)) ?_ | refine X.go rfl ?_)
      | (show XO _ _ _ (Oper.mk (some _) (Op.indexAddr _ _ _) _ _ _ none :: _) _ _ _; first | refine X.iaS rfl rfl (by omega) ?_ | refine X.iaO rfl rfl (by omega) rfl ?_ | refine X.go rfl ?_)
      | (show XO _ _ _ (Oper.mk (some _) (Op.load _ _) _ _ _ none :: _) _ _ _; first | refine X.go rfl ?_ | refine X.ldO rfl rfl (by omega) ?_ | refine X.ldA rfl rfl (by omega) rfl ?_)
      | (show XO _ _ _ (Oper.mk (some _) (_) _ _ _ none :: _) _ _ _; first | refine X.go rfl ?_ | refine X.shl rfl rfl (by first | omega | exact Int.natCast_nonneg _) ?_ | refine X.shr rfl rfl (by first | omega | exact Int.natCast_nonneg _) ?_)
      | (show XO _ _ _ (Oper.mk _ _ _ _ _ (some _) :: _) _ _ _; first | refine X.hy rfl (by (conv => lhs; whnf) <;> rfl) (by first | with_reducible rfl | with_reducible exact notT | with_reducible exact notF) ?_ | refine X.hnt rfl (by (conv => lhs; whnf) <;> rfl) (by first | with_reducible rfl | with_reducible exact notT | with_reducible exact notF) ?_ | refine X.hnf rfl (by (conv => lhs; whnf) <;> rfl) (by first | with_reducible rfl | with_reducible exact notT | with_reducible exact notF) ?_ | refine X.hu rfl (by (conv => lhs; whnf) <;> rfl) (by with_reducible rfl) ?_ | refine X.hpt rfl (by (conv => lhs; whnf) <;> rfl) (by with_reducible rfl) (by first | omega | decide) ?_ | refine X.hpf rfl (by (conv => lhs; whnf) <;> rfl) (by with_reducible rfl) (by first | omega | decide) ?_ | refine X.hqt rfl (by (conv => lhs; whnf) <;> rfl) (by with_reducible rfl) (by first | omega | decide) ?_ | refine X.hqf rfl (by (conv => lhs; whnf) <;> rfl) (by with_reducible rfl) (by first | omega | decide) ?_ | refine X.hp rfl (by (conv => lhs; whnf) <;> rfl) (by with_reducible rfl) (fun h => ?_) (fun h => ?_) | refine X.hq rfl (by (conv => lhs; whnf) <;> rfl) (by with_reducible rfl) (fun h => ?_) (fun h => ?_) | refine X.hb rfl (by (conv => lhs; whnf) <;> rfl) (by with_reducible rfl) (fun h => ?_) (fun h => ?_))
      | (show XO _ _ _ (Oper.mk none _ _ _ _ none :: _) _ _ _; refine X.st rfl ?_)
      | (show XO _ _ _ [] _ _ _; refine X.nil ?_)
      | (show AO _ _ _ (Oper.mk (some _) (Op.move _) _ _ _ none :: _) _ _ _; refine A.mv ?_)
      | (show AO _ _ _ (Oper.mk (some _) (Op.assign _) _ _ _ none :: _) _ _ _; refine A.as ?_)
      | (show AO _ _ _ (Oper.mk (some _) (Op.call (Call.mk (Callee.builtin Builtin.len) _ _)) _ _ _ none :: _) _ _ _; first | refine A.lnS rfl ?_ | refine A.lnO rfl ?_ | refine A.go rfl ?_)
      | (show AO _ _ _ (Oper.mk (some _) (Op.call _) _ _ _ none :: _) _ _ _; first | refine A.call (hpar _) ?_ | refine A.go rfl ?_)
      | (show AO _ _ _ (Oper.mk (some _) (Op.binOp BinOp.add _ _ _ _) _ _ _ none :: _) _ _ _; first | refine A.addI rfl rfl (by omega) ?_ | refine A.go rfl ?_)
      | (show AO _ _ _ (Oper.mk (some _) (Op.binOp BinOp.sub _ _ _ _) _ _ _ none :: _) _ _ _; first | refine A.subI rfl rfl (by omega) ?_ | refine A.go rfl ?_)
      | (show AO _ _ _ (Oper.mk (some _) (Op.binOp BinOp.mul _ _ _ _) _ _ _ none :: _) _ _ _; first | refine A.mulI rfl rfl (by omega) ?_ | refine A.go rfl ?_)
      | (show AO _ _ _ (Oper.mk (some _) (Op.binOp BinOp.quo _ _ _ _) _ _ _ none :: _) _ _ _; first | refine A.quoI rfl rfl (by omega) ?_ | refine A.go rfl ?_)
      | (show AO _ _ _ (Oper.mk (some _) (Op.binOp BinOp.rem _ _ _ _) _ _ _ none :: _) _ _ _; first | refine A.remI rfl rfl (by omega) ?_ | refine A.go rfl ?_)
      | (show AO _ _ _ (Oper.mk (some _) (Op.convert _ _ _) _ _ _ none :: _) _ _ _; first | refine A.cvI rfl rfl rfl (w64R (by omega)) ?_ | refine A.cvI rfl rfl rfl (wU8 (by omega)) ?_ | refine A.cvI rfl rfl rfl (wU16 (by omega)) ?_ | refine A.cvI rfl rfl rfl (wU32 (by omega)) ?_ | refine A.cvI rfl rfl rfl (wU64 (by omega)) ?_ | refine A.go rfl ?_)
      | (show AO _ _ _ (Oper.mk (some _) (Op.indexAddr _ _ _) _ _ _ none :: _) _ _ _; first | refine A.iaS rfl rfl (by omega) ?_ | refine A.iaO rfl rfl (by omega) rfl ?_ | refine A.go rfl ?_)
      | (show AO _ _ _ (Oper.mk (some _) (Op.load _ _) _ _ _ none :: _) _ _ _; first | refine A.go rfl ?_ | refine A.ldO rfl rfl (by omega) ?_ | refine A.ldA rfl rfl (by omega) rfl ?_)
      | (show AO _ _ _ (Oper.mk (some _) (_) _ _ _ none :: _) _ _ _; first | refine A.go rfl ?_ | refine A.shl rfl rfl (by first | omega | exact Int.natCast_nonneg _) ?_ | refine A.shr rfl rfl (by first | omega | exact Int.natCast_nonneg _) ?_)
      | (show AO _ _ _ (Oper.mk _ _ _ _ _ (some _) :: _) _ _ _; first | refine A.hy rfl (by (conv => lhs; whnf) <;> rfl) (by first | with_reducible rfl | with_reducible exact notT | with_reducible exact notF) ?_ | refine A.hnt rfl (by (conv => lhs; whnf) <;> rfl) (by first | with_reducible rfl | with_reducible exact notT | with_reducible exact notF) ?_ | refine A.hnf rfl (by (conv => lhs; whnf) <;> rfl) (by first | with_reducible rfl | with_reducible exact notT | with_reducible exact notF) ?_ | refine A.hu rfl (by (conv => lhs; whnf) <;> rfl) (by with_reducible rfl) ?_ | refine A.hpt rfl (by (conv => lhs; whnf) <;> rfl) (by with_reducible rfl) (by first | omega | decide) ?_ | refine A.hpf rfl (by (conv => lhs; whnf) <;> rfl) (by with_reducible rfl) (by first | omega | decide) ?_ | refine A.hqt rfl (by (conv => lhs; whnf) <;> rfl) (by with_reducible rfl) (by first | omega | decide) ?_ | refine A.hqf rfl (by (conv => lhs; whnf) <;> rfl) (by with_reducible rfl) (by first | omega | decide) ?_ | refine A.hp rfl (by (conv => lhs; whnf) <;> rfl) (by with_reducible rfl) (fun h => ?_) (fun h => ?_) | refine A.hq rfl (by (conv => lhs; whnf) <;> rfl) (by with_reducible rfl) (fun h => ?_) (fun h => ?_) | refine A.hb rfl (by (conv => lhs; whnf) <;> rfl) (by with_reducible rfl) (fun h => ?_) (fun h => ?_))
      | (show AO _ _ _ [] _ _ _; refine A.nil ?_)
      | (show CW _ _ _ _ (Code.seq (Code.region _ _ false) _) _ _ _; refine W.rq ?_)
      | (show CW _ _ _ _ (Code.region _ _ false) _ _ _; refine W.rz ?_)
      | (show CW _ _ _ _ (Code.seq (Code.region _ _ true) _) _ _ _; first | refine W.dq 0 ?_ | refine W.dq 1 ?_ | refine W.dq 2 ?_ | refine W.dq 3 ?_ | refine W.dq 4 ?_ | refine W.dq 5 ?_ | refine W.dq 6 ?_ | refine W.dq 7 ?_ | refine W.dq 8 ?_ | refine W.dq 9 ?_ | refine W.dq 10 ?_ | refine W.dq 11 ?_)
      | (show CW _ _ _ _ (Code.region _ _ true) _ _ _; first | refine W.dz 0 ?_ | refine W.dz 1 ?_ | refine W.dz 2 ?_ | refine W.dz 3 ?_ | refine W.dz 4 ?_ | refine W.dz 5 ?_ | refine W.dz 6 ?_ | refine W.dz 7 ?_ | refine W.dz 8 ?_ | refine W.dz 9 ?_ | refine W.dz 10 ?_ | refine W.dz 11 ?_)
      | (show CW _ _ _ _ (Code.cond _ _ _) _ _ _; first | refine W.jt (by (conv => lhs; whnf) <;> rfl) (by first | with_reducible rfl | with_reducible exact notT | with_reducible exact notF) ?_ | refine W.jf (by (conv => lhs; whnf) <;> rfl) (by first | with_reducible rfl | with_reducible exact notT | with_reducible exact notF) ?_ | refine W.jpt (by (conv => lhs; whnf) <;> rfl) (by with_reducible rfl) (by first | omega | decide) ?_ | refine W.jpf (by (conv => lhs; whnf) <;> rfl) (by with_reducible rfl) (by first | omega | decide) ?_ | refine W.jqt (by (conv => lhs; whnf) <;> rfl) (by with_reducible rfl) (by first | omega | decide) ?_ | refine W.jqf (by (conv => lhs; whnf) <;> rfl) (by with_reducible rfl) (by first | omega | decide) ?_ | refine W.jp (by (conv => lhs; whnf) <;> rfl) (by with_reducible rfl) (fun h => ?_) (fun h => ?_) | refine W.jq (by (conv => lhs; whnf) <;> rfl) (by with_reducible rfl) (fun h => ?_) (fun h => ?_) | refine W.jb (by (conv => lhs; whnf) <;> rfl) (by with_reducible rfl) (fun h => ?_) (fun h => ?_))
      | (show CW _ _ _ _ _ _ _ _; first | refine W.kr ?_ | refine W.kn ?_ | refine W.ke ?_ | refine W.bl ?_ | refine W.sq ?_)
      | (show KO _ _ _ _; first | refine K.sn ?_ | refine K.sr ?_ | refine K.se ?_ | refine K.bn ?_ | refine K.br ?_ | refine K.be ?_ | refine K.bx rfl ?_ | refine K.lr ?_ | refine K.le ?_)
      | (show KO _ _ _ _; first | refine K.ya rfl ?_)
      | refine K.nx ?_
      | refine K.re ?_
      | refine K.dr ?_
    refine end_data rfl rfl (vII ?_ ?_)
    all_goals unfold sibV; rw [hv, if_neg (by decide)]
  | true =>
    obtain ⟨j, y, hj, hy, rfl, rfl⟩ := isN_nat hN
    have hb := two_pow_bound hj
    rw [parV_nat hj hy] at hpar
    have hs := sibV_nat hj hy
    by_cases h : y + 1 = 2 ^ j
    · rw [if_pos h] at hpar hs
      repeat' first
        | (show XO _ _ _ (Oper.mk (some _) (Op.move _) _ _ _ none :: _) _ _ _; refine X.mv ?_)
        | (show XO _ _ _ (Oper.mk (some _) (Op.assign _) _ _ _ none :: _) _ _ _; refine X.as ?_)
        | (show XO _ _ _ (Oper.mk (some _) (Op.call (Call.mk (Callee.builtin Builtin.len) _ _)) _ _ _ none :: _) _ _ _; first | refine X.lnS rfl ?_ | refine X.lnO rfl ?_ | refine X.go rfl ?_)
        | (show XO _ _ _ (Oper.mk (some _) (Op.call _) _ _ _ none :: _) _ _ _; first | refine X.call (hpar _) ?_ | refine X.go rfl ?_)
        | (show XO _ _ _ (Oper.mk (some _) (Op.binOp BinOp.add _ _ _ _) _ _ _ none :: _) _ _ _; first | refine X.addI rfl rfl (by omega) ?_ | refine X.go rfl ?_)
        | (show XO _ _ _ (Oper.mk (some _) (Op.binOp BinOp.sub _ _ _ _) _ _ _ none :: _) _ _ _; first | refine X.subI rfl rfl (by omega) ?_ | refine X.go rfl ?_)
        | (show XO _ _ _ (Oper.mk (some _) (Op.binOp BinOp.mul _ _ _ _) _ _ _ none :: _) _ _ _; first | refine X.mulI rfl rfl (by omega) ?_ | refine X.go rfl ?_)
        | (show XO _ _ _ (Oper.mk (some _) (Op.binOp BinOp.quo _ _ _ _) _ _ _ none :: _) _ _ _; first | refine X.quoI rfl rfl (by omega) ?_ | refine X.go rfl ?_)
        | (show XO _ _ _ (Oper.mk (some _) (Op.binOp BinOp.rem _ _ _ _) _ _ _ none :: _) _ _ _; first | refine X.remI rfl rfl (by omega) ?_ | refine X.go rfl ?_)
        | (show XO _ _ _ (Oper.mk (some _) (Op.convert _ _ _) _ _ _ none :: _) _ _ _; first | refine X.cvI rfl rfl rfl (w64R (by omega)) ?_ | refine X.cvI rfl rfl rfl (wU8 (by omega)) ?_ | refine X.cvI rfl rfl rfl (wU16 (by omega)) ?_ | refine X.cvI rfl rfl rfl (wU32 (by omega)) ?_ | refine X.cvI rfl rfl rfl (wU64 (by omega)) ?_ | refine X.go rfl ?_)
        | (show XO _ _ _ (Oper.mk (some _) (Op.indexAddr _ _ _) _ _ _ none :: _) _ _ _; first | refine X.iaS rfl rfl (by omega) ?_ | refine X.iaO rfl rfl (by omega) rfl ?_ | refine X.go rfl ?_)
        | (show XO _ _ _ (Oper.mk (some _) (Op.load _ _) _ _ _ none :: _) _ _ _; first | refine X.go rfl ?_ | refine X.ldO rfl rfl (by omega) ?_ | refine X.ldA rfl rfl (by omega) rfl ?_)
        | (show XO _ _ _ (Oper.mk (some _) (_) _ _ _ none :: _) _ _ _; first | refine X.go rfl ?_ | refine X.shl rfl rfl (by first | omega | exact Int.natCast_nonneg _) ?_ | refine X.shr rfl rfl (by first | omega | exact Int.natCast_nonneg _) ?_)
        | (show XO _ _ _ (Oper.mk _ _ _ _ _ (some _) :: _) _ _ _; first | refine X.hy rfl (by (conv => lhs; whnf) <;> rfl) (by first | with_reducible rfl | with_reducible exact notT | with_reducible exact notF) ?_ | refine X.hnt rfl (by (conv => lhs; whnf) <;> rfl) (by first | with_reducible rfl | with_reducible exact notT | with_reducible exact notF) ?_ | refine X.hnf rfl (by (conv => lhs; whnf) <;> rfl) (by first | with_reducible rfl | with_reducible exact notT | with_reducible exact notF) ?_ | refine X.hu rfl (by (conv => lhs; whnf) <;> rfl) (by with_reducible rfl) ?_ | refine X.hpt rfl (by (conv => lhs; whnf) <;> rfl) (by with_reducible rfl) (by first | omega | decide) ?_ | refine X.hpf rfl (by (conv => lhs; whnf) <;> rfl) (by with_reducible rfl) (by first | omega | decide) ?_ | refine X.hqt rfl (by (conv => lhs; whnf) <;> rfl) (by with_reducible rfl) (by first | omega | decide) ?_ | refine X.hqf rfl (by (conv => lhs; whnf) <;> rfl) (by with_reducible rfl) (by first | omega | decide) ?_ | refine X.hp rfl (by (conv => lhs; whnf) <;> rfl) (by with_reducible rfl) (fun h => ?_) (fun h => ?_) | refine X.hq rfl (by (conv => lhs; whnf) <;> rfl) (by with_reducible rfl) (fun h => ?_) (fun h => ?_) | refine X.hb rfl (by (conv => lhs; whnf) <;> rfl) (by with_reducible rfl) (fun h => ?_) (fun h => ?_))
        | (show XO _ _ _ (Oper.mk none _ _ _ _ none :: _) _ _ _; refine X.st rfl ?_)
        | (show XO _ _ _ [] _ _ _; refine X.nil ?_)
        | (show AO _ _ _ (Oper.mk (some _) (Op.move _) _ _ _ none :: _) _ _ _; refine A.mv ?_)
        | (show AO _ _ _ (Oper.mk (some _) (Op.assign _) _ _ _ none :: _) _ _ _; refine A.as ?_)
        | (show AO _ _ _ (Oper.mk (some _) (Op.call (Call.mk (Callee.builtin Builtin.len) _ _)) _ _ _ none :: _) _ _ _; first | refine A.lnS rfl ?_ | refine A.lnO rfl ?_ | refine A.go rfl ?_)
        | (show AO _ _ _ (Oper.mk (some _) (Op.call _) _ _ _ none :: _) _ _ _; first | refine A.call (hpar _) ?_ | refine A.go rfl ?_)
        | (show AO _ _ _ (Oper.mk (some _) (Op.binOp BinOp.add _ _ _ _) _ _ _ none :: _) _ _ _; first | refine A.addI rfl rfl (by omega) ?_ | refine A.go rfl ?_)
        | (show AO _ _ _ (Oper.mk (some _) (Op.binOp BinOp.sub _ _ _ _) _ _ _ none :: _) _ _ _; first | refine A.subI rfl rfl (by omega) ?_ | refine A.go rfl ?_)
        | (show AO _ _ _ (Oper.mk (some _) (Op.binOp BinOp.mul _ _ _ _) _ _ _ none :: _) _ _ _; first | refine A.mulI rfl rfl (by omega) ?_ | refine A.go rfl ?_)
        | (show AO _ _ _ (Oper.mk (some _) (Op.binOp BinOp.quo _ _ _ _) _ _ _ none :: _) _ _ _; first | refine A.quoI rfl rfl (by omega) ?_ | refine A.go rfl ?_)
        | (show AO _ _ _ (Oper.mk (some _) (Op.binOp BinOp.rem _ _ _ _) _ _ _ none :: _) _ _ _; first | refine A.remI rfl rfl (by omega) ?_ | refine A.go rfl ?_)
        | (show AO _ _ _ (Oper.mk (some _) (Op.convert _ _ _) _ _ _ none :: _) _ _ _; first | refine A.cvI rfl rfl rfl (w64R (by omega)) ?_ | refine A.cvI rfl rfl rfl (wU8 (by omega)) ?_ | refine A.cvI rfl rfl rfl (wU16 (by omega)) ?_ | refine A.cvI rfl rfl rfl (wU32 (by omega)) ?_ | refine A.cvI rfl rfl rfl (wU64 (by omega)) ?_ | refine A.go rfl ?_)
        | (show AO _ _ _ (Oper.mk (some _) (Op.indexAddr _ _ _) _ _ _ none :: _) _ _ _; first | refine A.iaS rfl rfl (by omega) ?_ | refine A.iaO rfl rfl (by omega) rfl ?_ | refine A.go rfl ?_)
        | (show AO _ _ _ (Oper.mk (some _) (Op.load _ _) _ _ _ none :: _) _ _ _; first | refine A.go rfl ?_ | refine A.ldO rfl rfl (by omega) ?_ | refine A.ldA rfl rfl (by omega) rfl ?_)
        | (show AO _ _ _ (Oper.mk (some _) (_) _ _ _ none :: _) _ _ _; first | refine A.go rfl ?_ | refine A.shl rfl rfl (by first | omega | exact Int.natCast_nonneg _) ?_ | refine A.shr rfl rfl (by first | omega | exact Int.natCast_nonneg _) ?_)
        | (show AO _ _ _ (Oper.mk _ _ _ _ _ (some _) :: _) _ _ _; first | refine A.hy rfl (by (conv => lhs; whnf) <;> rfl) (by first | with_reducible rfl | with_reducible exact notT | with_reducible exact notF) ?_ | refine A.hnt rfl (by (conv => lhs; whnf) <;> rfl) (by first | with_reducible rfl | with_reducible exact notT | with_reducible exact notF) ?_ | refine A.hnf rfl (by (conv => lhs; whnf) <;> rfl) (by first | with_reducible rfl | with_reducible exact notT | with_reducible exact notF) ?_ | refine A.hu rfl (by (conv => lhs; whnf) <;> rfl) (by with_reducible rfl) ?_ | refine A.hpt rfl (by (conv => lhs; whnf) <;> rfl) (by with_reducible rfl) (by first | omega | decide) ?_ | refine A.hpf rfl (by (conv => lhs; whnf) <;> rfl) (by with_reducible rfl) (by first | omega | decide) ?_ | refine A.hqt rfl (by (conv => lhs; whnf) <;> rfl) (by with_reducible rfl) (by first | omega | decide) ?_ | refine A.hqf rfl (by (conv => lhs; whnf) <;> rfl) (by with_reducible rfl) (by first | omega | decide) ?_ | refine A.hp rfl (by (conv => lhs; whnf) <;> rfl) (by with_reducible rfl) (fun h => ?_) (fun h => ?_) | refine A.hq rfl (by (conv => lhs; whnf) <;> rfl) (by with_reducible rfl) (fun h => ?_) (fun h => ?_) | refine A.hb rfl (by (conv => lhs; whnf) <;> rfl) (by with_reducible rfl) (fun h => ?_) (fun h => ?_))
        | (show AO _ _ _ [] _ _ _; refine A.nil ?_)
        | (show CW _ _ _ _ (Code.seq (Code.region _ _ false) _) _ _ _; refine W.rq ?_)
        | (show CW _ _ _ _ (Code.region _ _ false) _ _ _; refine W.rz ?_)
        | (show CW _ _ _ _ (Code.seq (Code.region _ _ true) _) _ _ _; first | refine W.dq 0 ?_ | refine W.dq 1 ?_ | refine W.dq 2 ?_ | refine W.dq 3 ?_ | refine W.dq 4 ?_ | refine W.dq 5 ?_ | refine W.dq 6 ?_ | refine W.dq 7 ?_ | refine W.dq 8 ?_ | refine W.dq 9 ?_ | refine W.dq 10 ?_ | refine W.dq 11 ?_)
        | (show CW _ _ _ _ (Code.region _ _ true) _ _ _; first | refine W.dz 0 ?_ | refine W.dz 1 ?_ | refine W.dz 2 ?_ | refine W.dz 3 ?_ | refine W.dz 4 ?_ | refine W.dz 5 ?_ | refine W.dz 6 ?_ | refine W.dz 7 ?_ | refine W.dz 8 ?_ | refine W.dz 9 ?_ | refine W.dz 10 ?_ | refine W.dz 11 ?_)
        | (show CW _ _ _ _ (Code.cond _ _ _) _ _ _; first | refine W.jt (by (conv => lhs; whnf) <;> rfl) (by first | with_reducible rfl | with_reducible exact notT | with_reducible exact notF) ?_ | refine W.jf (by (conv => lhs; whnf) <;> rfl) (by first | with_reducible rfl | with_reducible exact notT | with_reducible exact notF) ?_ | refine W.jpt (by (conv => lhs; whnf) <;> rfl) (by with_reducible rfl) (by first | omega | decide) ?_ | refine W.jpf (by (conv => lhs; whnf) <;> rfl) (by with_reducible rfl) (by first | omega | decide) ?_ | refine W.jqt (by (conv => lhs; whnf) <;> rfl) (by with_reducible rfl) (by first | omega | decide) ?_ | refine W.jqf (by (conv => lhs; whnf) <;> rfl) (by with_reducible rfl) (by first | omega | decide) ?_ | refine W.jp (by (conv => lhs; whnf) <;> rfl) (by with_reducible rfl) (fun h => ?_) (fun h => ?_) | refine W.jq (by (conv => lhs; whnf) <;> rfl) (by with_reducible rfl) (fun h => ?_) (fun h => ?_) | refine W.jb (by (conv => lhs; whnf) <;> rfl) (by with_reducible rfl) (fun h => ?_) (fun h => ?_))
        | (show CW _ _ _ _ _ _ _ _; first | refine W.kr ?_ | refine W.kn ?_ | refine W.ke ?_ | refine W.bl ?_ | refine W.sq ?_)
        | (show KO _ _ _ _; first | refine K.sn ?_ | refine K.sr ?_ | refine K.se ?_ | refine K.bn ?_ | refine K.br ?_ | refine K.be ?_ | refine K.bx rfl ?_ | refine K.lr ?_ | refine K.le ?_)
        | (show KO _ _ _ _; first | refine K.ya rfl ?_)
        | refine K.nx ?_
        | refine K.re ?_
        | refine K.dr ?_
      refine end_data rfl rfl (vII ?_ ?_)
      all_goals rw [hs]
    · rw [if_neg h] at hpar hs
      have hu := up_in j hj y hy h
      have hup := (up_node j hj y hy h).1
      have hk := kids j hj _ hup hu.1
      have h1 := refLeft H (upN y : Nat)
      have h2 := refRight H (upN y : Nat)
      rw [childL hj hup hu.1] at h1
      rw [childR hj hup hu.1] at h2
      repeat' first
        | (show XO _ _ _ (Oper.mk (some _) (Op.move _) _ _ _ none :: _) _ _ _; refine X.mv ?_)
        | (show XO _ _ _ (Oper.mk (some _) (Op.assign _) _ _ _ none :: _) _ _ _; refine X.as ?_)
        | (show XO _ _ _ (Oper.mk (some _) (Op.call (Call.mk (Callee.builtin Builtin.len) _ _)) _ _ _ none :: _) _ _ _; first | refine X.lnS rfl ?_ | refine X.lnO rfl ?_ | refine X.go rfl ?_)
        | (show XO _ _ _ (Oper.mk (some _) (Op.call _) _ _ _ none :: _) _ _ _; first | refine X.call (hpar _) ?_ | refine X.call (h1 _) ?_ | refine X.call (h2 _) ?_ | refine X.go rfl ?_)
        | (show XO _ _ _ (Oper.mk (some _) (Op.binOp BinOp.add _ _ _ _) _ _ _ none :: _) _ _ _; first | refine X.addI rfl rfl (by omega) ?_ | refine X.go rfl ?_)
        | (show XO _ _ _ (Oper.mk (some _) (Op.binOp BinOp.sub _ _ _ _) _ _ _ none :: _) _ _ _; first | refine X.subI rfl rfl (by omega) ?_ | refine X.go rfl ?_)
        | (show XO _ _ _ (Oper.mk (some _) (Op.binOp BinOp.mul _ _ _ _) _ _ _ none :: _) _ _ _; first | refine X.mulI rfl rfl (by omega) ?_ | refine X.go rfl ?_)
        | (show XO _ _ _ (Oper.mk (some _) (Op.binOp BinOp.quo _ _ _ _) _ _ _ none :: _) _ _ _; first | refine X.quoI rfl rfl (by omega) ?_ | refine X.go rfl ?_)
        | (show XO _ _ _ (Oper.mk (some _) (Op.binOp BinOp.rem _ _ _ _) _ _ _ none :: _) _ _ _; first | refine X.remI rfl rfl (by omega) ?_ | refine X.go rfl ?_)
        | (show XO _ _ _ (Oper.mk (some _) (Op.convert _ _ _) _ _ _ none :: _) _ _ _; first | refine X.cvI rfl rfl rfl (w64R (by omega)) ?_ | refine X.cvI rfl rfl rfl (wU8 (by omega)) ?_ | refine X.cvI rfl rfl rfl (wU16 (by omega)) ?_ | refine X.cvI rfl rfl rfl (wU32 (by omega)) ?_ | refine X.cvI rfl rfl rfl (wU64 (by omega)) ?_ | refine X.go rfl ?_)
        | (show XO _ _ _ (Oper.mk (some _) (Op.indexAddr _ _ _) _ _ _ none :: _) _ _ _; first | refine X.iaS rfl rfl (by omega) ?_ | refine X.iaO rfl rfl (by omega) rfl ?_ | refine X.go rfl ?_)
        | (show XO _ _ _ (Oper.mk (some _) (Op.load _ _) _ _ _ none :: _) _ _ _; first | refine X.go rfl ?_ | refine X.ldO rfl rfl (by omega) ?_ | refine X.ldA rfl rfl (by omega) rfl ?_)
        | (show XO _ _ _ (Oper.mk (some _) (_) _ _ _ none :: _) _ _ _; first | refine X.go rfl ?_ | refine X.shl rfl rfl (by first | omega | exact Int.natCast_nonneg _) ?_ | refine X.shr rfl rfl (by first | omega | exact Int.natCast_nonneg _) ?_)
        | (show XO _ _ _ (Oper.mk _ _ _ _ _ (some _) :: _) _ _ _; first | refine X.hy rfl (by (conv => lhs; whnf) <;> rfl) (by first | with_reducible rfl | with_reducible exact notT | with_reducible exact notF) ?_ | refine X.hnt rfl (by (conv => lhs; whnf) <;> rfl) (by first | with_reducible rfl | with_reducible exact notT | with_reducible exact notF) ?_ | refine X.hnf rfl (by (conv => lhs; whnf) <;> rfl) (by first | with_reducible rfl | with_reducible exact notT | with_reducible exact notF) ?_ | refine X.hu rfl (by (conv => lhs; whnf) <;> rfl) (by with_reducible rfl) ?_ | refine X.hpt rfl (by (conv => lhs; whnf) <;> rfl) (by with_reducible rfl) (by first | omega | decide) ?_ | refine X.hpf rfl (by (conv => lhs; whnf) <;> rfl) (by with_reducible rfl) (by first | omega | decide) ?_ | refine X.hqt rfl (by (conv => lhs; whnf) <;> rfl) (by with_reducible rfl) (by first | omega | decide) ?_ | refine X.hqf rfl (by (conv => lhs; whnf) <;> rfl) (by with_reducible rfl) (by first | omega | decide) ?_ | refine X.hp rfl (by (conv => lhs; whnf) <;> rfl) (by with_reducible rfl) (fun h => ?_) (fun h => ?_) | refine X.hq rfl (by (conv => lhs; whnf) <;> rfl) (by with_reducible rfl) (fun h => ?_) (fun h => ?_) | refine X.hb rfl (by (conv => lhs; whnf) <;> rfl) (by with_reducible rfl) (fun h => ?_) (fun h => ?_))
        | (show XO _ _ _ (Oper.mk none _ _ _ _ none :: _) _ _ _; refine X.st rfl ?_)
        | (show XO _ _ _ [] _ _ _; refine X.nil ?_)
        | (show AO _ _ _ (Oper.mk (some _) (Op.move _) _ _ _ none :: _) _ _ _; refine A.mv ?_)
        | (show AO _ _ _ (Oper.mk (some _) (Op.assign _) _ _ _ none :: _) _ _ _; refine A.as ?_)
        | (show AO _ _ _ (Oper.mk (some _) (Op.call (Call.mk (Callee.builtin Builtin.len) _ _)) _ _ _ none :: _) _ _ _; first | refine A.lnS rfl ?_ | refine A.lnO rfl ?_ | refine A.go rfl ?_)
        | (show AO _ _ _ (Oper.mk (some _) (Op.call _) _ _ _ none :: _) _ _ _; first | refine A.call (hpar _) ?_ | refine A.call (h1 _) ?_ | refine A.call (h2 _) ?_ | refine A.go rfl ?_)
        | (show AO _ _ _ (Oper.mk (some _) (Op.binOp BinOp.add _ _ _ _) _ _ _ none :: _) _ _ _; first | refine A.addI rfl rfl (by omega) ?_ | refine A.go rfl ?_)
        | (show AO _ _ _ (Oper.mk (some _) (Op.binOp BinOp.sub _ _ _ _) _ _ _ none :: _) _ _ _; first | refine A.subI rfl rfl (by omega) ?_ | refine A.go rfl ?_)
        | (show AO _ _ _ (Oper.mk (some _) (Op.binOp BinOp.mul _ _ _ _) _ _ _ none :: _) _ _ _; first | refine A.mulI rfl rfl (by omega) ?_ | refine A.go rfl ?_)
        | (show AO _ _ _ (Oper.mk (some _) (Op.binOp BinOp.quo _ _ _ _) _ _ _ none :: _) _ _ _; first | refine A.quoI rfl rfl (by omega) ?_ | refine A.go rfl ?_)
        | (show AO _ _ _ (Oper.mk (some _) (Op.binOp BinOp.rem _ _ _ _) _ _ _ none :: _) _ _ _; first | refine A.remI rfl rfl (by omega) ?_ | refine A.go rfl ?_)
        | (show AO _ _ _ (Oper.mk (some _) (Op.convert _ _ _) _ _ _ none :: _) _ _ _; first | refine A.cvI rfl rfl rfl (w64R (by omega)) ?_ | refine A.cvI rfl rfl rfl (wU8 (by omega)) ?_ | refine A.cvI rfl rfl rfl (wU16 (by omega)) ?_ | refine A.cvI rfl rfl rfl (wU32 (by omega)) ?_ | refine A.cvI rfl rfl rfl (wU64 (by omega)) ?_ | refine A.go rfl ?_)
        | (show AO _ _ _ (Oper.mk (some _) (Op.indexAddr _ _ _) _ _ _ none :: _) _ _ _; first | refine A.iaS rfl rfl (by omega) ?_ | refine A.iaO rfl rfl (by omega) rfl ?_ | refine A.go rfl ?_)
        | (show AO _ _ _ (Oper.mk (some _) (Op.load _ _) _ _ _ none :: _) _ _ _; first | refine A.go rfl ?_ | refine A.ldO rfl rfl (by omega) ?_ | refine A.ldA rfl rfl (by omega) rfl ?_)
        | (show AO _ _ _ (Oper.mk (some _) (_) _ _ _ none :: _) _ _ _; first | refine A.go rfl ?_ | refine A.shl rfl rfl (by first | omega | exact Int.natCast_nonneg _) ?_ | refine A.shr rfl rfl (by first | omega | exact Int.natCast_nonneg _) ?_)
        | (show AO _ _ _ (Oper.mk _ _ _ _ _ (some _) :: _) _ _ _; first | refine A.hy rfl (by (conv => lhs; whnf) <;> rfl) (by first | with_reducible rfl | with_reducible exact notT | with_reducible exact notF) ?_ | refine A.hnt rfl (by (conv => lhs; whnf) <;> rfl) (by first | with_reducible rfl | with_reducible exact notT | with_reducible exact notF) ?_ | refine A.hnf rfl (by (conv => lhs; whnf) <;> rfl) (by first | with_reducible rfl | with_reducible exact notT | with_reducible exact notF) ?_ | refine A.hu rfl (by (conv => lhs; whnf) <;> rfl) (by with_reducible rfl) ?_ | refine A.hpt rfl (by (conv => lhs; whnf) <;> rfl) (by with_reducible rfl) (by first | omega | decide) ?_ | refine A.hpf rfl (by (conv => lhs; whnf) <;> rfl) (by with_reducible rfl) (by first | omega | decide) ?_ | refine A.hqt rfl (by (conv => lhs; whnf) <;> rfl) (by with_reducible rfl) (by first | omega | decide) ?_ | refine A.hqf rfl (by (conv => lhs; whnf) <;> rfl) (by with_reducible rfl) (by first | omega | decide) ?_ | refine A.hp rfl (by (conv => lhs; whnf) <;> rfl) (by with_reducible rfl) (fun h => ?_) (fun h => ?_) | refine A.hq rfl (by (conv => lhs; whnf) <;> rfl) (by with_reducible rfl) (fun h => ?_) (fun h => ?_) | refine A.hb rfl (by (conv => lhs; whnf) <;> rfl) (by with_reducible rfl) (fun h => ?_) (fun h => ?_))
        | (show AO _ _ _ [] _ _ _; refine A.nil ?_)
        | (show CW _ _ _ _ (Code.seq (Code.region _ _ false) _) _ _ _; refine W.rq ?_)
        | (show CW _ _ _ _ (Code.region _ _ false) _ _ _; refine W.rz ?_)
        | (show CW _ _ _ _ (Code.seq (Code.region _ _ true) _) _ _ _; first | refine W.dq 0 ?_ | refine W.dq 1 ?_ | refine W.dq 2 ?_ | refine W.dq 3 ?_ | refine W.dq 4 ?_ | refine W.dq 5 ?_ | refine W.dq 6 ?_ | refine W.dq 7 ?_ | refine W.dq 8 ?_ | refine W.dq 9 ?_ | refine W.dq 10 ?_ | refine W.dq 11 ?_)
        | (show CW _ _ _ _ (Code.region _ _ true) _ _ _; first | refine W.dz 0 ?_ | refine W.dz 1 ?_ | refine W.dz 2 ?_ | refine W.dz 3 ?_ | refine W.dz 4 ?_ | refine W.dz 5 ?_ | refine W.dz 6 ?_ | refine W.dz 7 ?_ | refine W.dz 8 ?_ | refine W.dz 9 ?_ | refine W.dz 10 ?_ | refine W.dz 11 ?_)
        | (show CW _ _ _ _ (Code.cond _ _ _) _ _ _; first | refine W.jt (by (conv => lhs; whnf) <;> rfl) (by first | with_reducible rfl | with_reducible exact notT | with_reducible exact notF) ?_ | refine W.jf (by (conv => lhs; whnf) <;> rfl) (by first | with_reducible rfl | with_reducible exact notT | with_reducible exact notF) ?_ | refine W.jpt (by (conv => lhs; whnf) <;> rfl) (by with_reducible rfl) (by first | omega | decide) ?_ | refine W.jpf (by (conv => lhs; whnf) <;> rfl) (by with_reducible rfl) (by first | omega | decide) ?_ | refine W.jqt (by (conv => lhs; whnf) <;> rfl) (by with_reducible rfl) (by first | omega | decide) ?_ | refine W.jqf (by (conv => lhs; whnf) <;> rfl) (by with_reducible rfl) (by first | omega | decide) ?_ | refine W.jp (by (conv => lhs; whnf) <;> rfl) (by with_reducible rfl) (fun h => ?_) (fun h => ?_) | refine W.jq (by (conv => lhs; whnf) <;> rfl) (by with_reducible rfl) (fun h => ?_) (fun h => ?_) | refine W.jb (by (conv => lhs; whnf) <;> rfl) (by with_reducible rfl) (fun h => ?_) (fun h => ?_))
        | (show CW _ _ _ _ _ _ _ _; first | refine W.kr ?_ | refine W.kn ?_ | refine W.ke ?_ | refine W.bl ?_ | refine W.sq ?_)
        | (show KO _ _ _ _; first | refine K.sn ?_ | refine K.sr ?_ | refine K.se ?_ | refine K.bn ?_ | refine K.br ?_ | refine K.be ?_ | refine K.bx rfl ?_ | refine K.lr ?_ | refine K.le ?_)
        | (show KO _ _ _ _; first | refine K.ya rfl ?_)
        | refine K.nx ?_
        | refine K.re ?_
        | refine K.dr ?_
      all_goals refine end_data rfl rfl (vII ?_ ?_)
      all_goals rw [hs]
      all_goals omega
/-! leaves -/
theorem go_left : ∀ x, x < 2047 → ∀ i, i ≤ lev x → lev (x + 2 ^ i - 2 ^ lev x) = i ∧ 2 ^ lev x ≤ x + 2 ^ i ∧ (0 < i → (x + 2 ^ i - 2 ^ lev x) % 2 = 1 ∧ lN (x + 2 ^ i - 2 ^ lev x) = x + 2 ^ (i - 1) - 2 ^ lev x) ∧ x + 2 ^ i - 2 ^ lev x < 2047 := by
  have h : ((List.range 2047).all fun x => (List.range (lev x + 1)).all fun i => decide (lev (x + 2 ^ i - 2 ^ lev x) = i ∧ 2 ^ lev x ≤ x + 2 ^ i ∧ (0 < i → (x + 2 ^ i - 2 ^ lev x) % 2 = 1 ∧ lN (x + 2 ^ i - 2 ^ lev x) = x + 2 ^ (i - 1) - 2 ^ lev x) ∧ x + 2 ^ i - 2 ^ lev x < 2047)) = true := by kernel_rfl
  intro x hx i hi
  exact of_decide_eq_true (all_lt (all_lt h x hx) i (by omega))
theorem go_right : ∀ x, x < 2047 → ∀ i, i ≤ lev x → lev (x + 2 ^ lev x - 2 ^ i) = i ∧ (0 < i → (x + 2 ^ lev x - 2 ^ i) % 2 = 1 ∧ rN (x + 2 ^ lev x - 2 ^ i) = x + 2 ^ lev x - 2 ^ (i - 1)) ∧ x + 2 ^ lev x - 2 ^ i < 2047 := by
  have h : ((List.range 2047).all fun x => (List.range (lev x + 1)).all fun i => decide (lev (x + 2 ^ lev x - 2 ^ i) = i ∧ (0 < i → (x + 2 ^ lev x - 2 ^ i) % 2 = 1 ∧ rN (x + 2 ^ lev x - 2 ^ i) = x + 2 ^ lev x - 2 ^ (i - 1)) ∧ x + 2 ^ lev x - 2 ^ i < 2047)) = true := by kernel_rfl
  intro x hx i hi
  exact of_decide_eq_true (all_lt (all_lt h x hx) i (by omega))
theorem leaves_nat : ∀ x, x < 2047 → leavesV (x : Nat) = ((((x + 1 - 2 ^ lev x) / 2 : Nat) : Int), (((x + 2 ^ lev x - 1) / 2 : Nat) : Int)) := by
  have h : ((List.range 2047).all fun x => decide (leavesV (x : Nat) = ((((x + 1 - 2 ^ lev x) / 2 : Nat) : Int), (((x + 2 ^ lev x - 1) / 2 : Nat) : Int)))) = true := by kernel_rfl
  intro x hx
  exact of_decide_eq_true (all_lt h x hx)
theorem refLeftN (H : ZT Z) (y : Nat) (hy : y < 2047) (h : y % 2 = 1) (L : List Go.Pv.Obj) : SE Tryd.prog Z 27 [.int .i64 y] L (.tup [.int .i64 (lN y : Nat), .int .i64 0]) L := by
  have := refLeft H y L
  rwa [childL (j := 10) (by omega) (by omega) h] at this
theorem refRightN (H : ZT Z) (y : Nat) (hy : y < 2047) (h : y % 2 = 1) (L : List Go.Pv.Obj) : SE Tryd.prog Z 29 [.int .i64 y] L (.tup [.int .i64 (rN y : Nat), .int .i64 0]) L := by
  have := refRight H y L
  rwa [childR (j := 10) (by omega) (by omega) h] at this

theorem refLeaves0 (H : ZT Z) (x : Nat) (hx : x < 2047) (L : List Go.Pv.Obj) : SE Tryd.prog Z 18 [.int .i64 x] L (.tup [.int .i64 (leavesV x).1, .int .i64 (leavesV x).2]) L := by
  have hlow := lev_low x hx
  have hlx := lev_le x hx
  refine SE.data H.z Tryd.func18 rfl ?_
  repeat' first
    | (show XO _ _ _ (Oper.mk (some _) (Op.move _) _ _ _ none :: _) _ _ _; refine X.mv ?_)
    | (show XO _ _ _ (Oper.mk (some _) (Op.assign _) _ _ _ none :: _) _ _ _; refine X.as ?_)
    | (show XO _ _ _ (Oper.mk (some _) (Op.call (Call.mk (Callee.builtin Builtin.len) _ _)) _ _ _ none :: _) _ _ _; first | refine X.lnS rfl ?_ | refine X.lnO rfl ?_ | refine X.go rfl ?_)
    | (show XO _ _ _ (Oper.mk (some _) (Op.call _) _ _ _ none :: _) _ _ _; first | refine X.go rfl ?_)
    | (show XO _ _ _ (Oper.mk (some _) (Op.binOp BinOp.add _ _ _ _) _ _ _ none :: _) _ _ _; first | refine X.addI rfl rfl (by omega) ?_ | refine X.go rfl ?_)
    | (show XO _ _ _ (Oper.mk (some _) (Op.binOp BinOp.sub _ _ _ _) _ _ _ none :: _) _ _ _; first | refine X.subI rfl rfl (by omega) ?_ | refine X.go rfl ?_)
    | (show XO _ _ _ (Oper.mk (some _) (Op.binOp BinOp.mul _ _ _ _) _ _ _ none :: _) _ _ _; first | refine X.mulI rfl rfl (by omega) ?_ | refine X.go rfl ?_)
    | (show XO _ _ _ (Oper.mk (some _) (Op.binOp BinOp.quo _ _ _ _) _ _ _ none :: _) _ _ _; first | refine X.quoI rfl rfl (by omega) ?_ | refine X.go rfl ?_)
    | (show XO _ _ _ (Oper.mk (some _) (Op.binOp BinOp.rem _ _ _ _) _ _ _ none :: _) _ _ _; first | refine X.remI rfl rfl (by omega) ?_ | refine X.go rfl ?_)
    | (show XO _ _ _ (Oper.mk (some _) (Op.convert _ _ _) _ _ _ none :: _) _ _ _; first | refine X.cvI rfl rfl rfl (w64R (by omega)) ?_ | refine X.cvI rfl rfl rfl (wU8 (by omega)) ?_ | refine X.cvI rfl rfl rfl (wU16 (by omega)) ?_ | refine X.cvI rfl rfl rfl (wU32 (by omega)) ?_ | refine X.cvI rfl rfl rfl (wU64 (by omega)) ?_ | refine X.go rfl ?_)
    | (show XO _ _ _ (Oper.mk (some _) (Op.indexAddr _ _ _) _ _ _ none :: _) _ _ _; first | refine X.iaS rfl rfl (by omega) ?_ | refine X.iaO rfl rfl (by omega) rfl ?_ | refine X.go rfl ?_)
    | (show XO _ _ _ (Oper.mk (some _) (Op.load _ _) _ _ _ none :: _) _ _ _; first | refine X.go rfl ?_ | refine X.ldO rfl rfl (by omega) ?_ | refine X.ldA rfl rfl (by omega) rfl ?_)
    | (show XO _ _ _ (Oper.mk (some _) (_) _ _ _ none :: _) _ _ _; first | refine X.go rfl ?_ | refine X.shl rfl rfl (by first | omega | exact Int.natCast_nonneg _) ?_ | refine X.shr rfl rfl (by first | omega | exact Int.natCast_nonneg _) ?_)
    | (show XO _ _ _ (Oper.mk _ _ _ _ _ (some _) :: _) _ _ _; first | refine X.hy rfl (by (conv => lhs; whnf) <;> rfl) (by first | with_reducible rfl | with_reducible exact notT | with_reducible exact notF) ?_ | refine X.hnt rfl (by (conv => lhs; whnf) <;> rfl) (by first | with_reducible rfl | with_reducible exact notT | with_reducible exact notF) ?_ | refine X.hnf rfl (by (conv => lhs; whnf) <;> rfl) (by first | with_reducible rfl | with_reducible exact notT | with_reducible exact notF) ?_ | refine X.hu rfl (by (conv => lhs; whnf) <;> rfl) (by with_reducible rfl) ?_ | refine X.hpt rfl (by (conv => lhs; whnf) <;> rfl) (by with_reducible rfl) (by first | omega | decide) ?_ | refine X.hpf rfl (by (conv => lhs; whnf) <;> rfl) (by with_reducible rfl) (by first | omega | decide) ?_ | refine X.hqt rfl (by (conv => lhs; whnf) <;> rfl) (by with_reducible rfl) (by first | omega | decide) ?_ | refine X.hqf rfl (by (conv => lhs; whnf) <;> rfl) (by with_reducible rfl) (by first | omega | decide) ?_ | refine X.hp rfl (by (conv => lhs; whnf) <;> rfl) (by with_reducible rfl) (fun h => ?_) (fun h => ?_) | refine X.hq rfl (by (conv => lhs; whnf) <;> rfl) (by with_reducible rfl) (fun h => ?_) (fun h => ?_) | refine X.hb rfl (by (conv => lhs; whnf) <;> rfl) (by with_reducible rfl) (fun h => ?_) (fun h => ?_))
    | (show XO _ _ _ (Oper.mk none _ _ _ _ none :: _) _ _ _; refine X.st rfl ?_)
    | (show XO _ _ _ [] _ _ _; refine X.nil ?_)
    | (show AO _ _ _ (Oper.mk (some _) (Op.move _) _ _ _ none :: _) _ _ _; refine A.mv ?_)
    | (show AO _ _ _ (Oper.mk (some _) (Op.assign _) _ _ _ none :: _) _ _ _; refine A.as ?_)
    | (show AO _ _ _ (Oper.mk (some _) (Op.call (Call.mk (Callee.builtin Builtin.len) _ _)) _ _ _ none :: _) _ _ _; first | refine A.lnS rfl ?_ | refine A.lnO rfl ?_ | refine A.go rfl ?_)
    | (show AO _ _ _ (Oper.mk (some _) (Op.call _) _ _ _ none :: _) _ _ _; first | refine A.go rfl ?_)
    | (show AO _ _ _ (Oper.mk (some _) (Op.binOp BinOp.add _ _ _ _) _ _ _ none :: _) _ _ _; first | refine A.addI rfl rfl (by omega) ?_ | refine A.go rfl ?_)
    | (show AO _ _ _ (Oper.mk (some _) (Op.binOp BinOp.sub _ _ _ _) _ _ _ none :: _) _ _ _; first | refine A.subI rfl rfl (by omega) ?_ | refine A.go rfl ?_)
    | (show AO _ _ _ (Oper.mk (some _) (Op.binOp BinOp.mul _ _ _ _) _ _ _ none :: _) _ _ _; first | refine A.mulI rfl rfl (by omega) ?_ | refine A.go rfl ?_)
    | (show AO _ _ _ (Oper.mk (some _) (Op.binOp BinOp.quo _ _ _ _) _ _ _ none :: _) _ _ _; first | refine A.quoI rfl rfl (by omega) ?_ | refine A.go rfl ?_)
    | (show AO _ _ _ (Oper.mk (some _) (Op.binOp BinOp.rem _ _ _ _) _ _ _ none :: _) _ _ _; first | refine A.remI rfl rfl (by omega) ?_ | refine A.go rfl ?_)
    | (show AO _ _ _ (Oper.mk (some _) (Op.convert _ _ _) _ _ _ none :: _) _ _ _; first | refine A.cvI rfl rfl rfl (w64R (by omega)) ?_ | refine A.cvI rfl rfl rfl (wU8 (by omega)) ?_ | refine A.cvI rfl rfl rfl (wU16 (by omega)) ?_ | refine A.cvI rfl rfl rfl (wU32 (by omega)) ?_ | refine A.cvI rfl rfl rfl (wU64 (by omega)) ?_ | refine A.go rfl ?_)
    | (show AO _ _ _ (Oper.mk (some _) (Op.indexAddr _ _ _) _ _ _ none :: _) _ _ _; first | refine A.iaS rfl rfl (by omega) ?_ | refine A.iaO rfl rfl (by omega) rfl ?_ | refine A.go rfl ?_)
    | (show AO _ _ _ (Oper.mk (some _) (Op.load _ _) _ _ _ none :: _) _ _ _; first | refine A.go rfl ?_ | refine A.ldO rfl rfl (by omega) ?_ | refine A.ldA rfl rfl (by omega) rfl ?_)
    | (show AO _ _ _ (Oper.mk (some _) (_) _ _ _ none :: _) _ _ _; first | refine A.go rfl ?_ | refine A.shl rfl rfl (by first | omega | exact Int.natCast_nonneg _) ?_ | refine A.shr rfl rfl (by first | omega | exact Int.natCast_nonneg _) ?_)
    | (show AO _ _ _ (Oper.mk _ _ _ _ _ (some _) :: _) _ _ _; first | refine A.hy rfl (by (conv => lhs; whnf) <;> rfl) (by first | with_reducible rfl | with_reducible exact notT | with_reducible exact notF) ?_ | refine A.hnt rfl (by (conv => lhs; whnf) <;> rfl) (by first | with_reducible rfl | with_reducible exact notT | with_reducible exact notF) ?_ | refine A.hnf rfl (by (conv => lhs; whnf) <;> rfl) (by first | with_reducible rfl | with_reducible exact notT | with_reducible exact notF) ?_ | refine A.hu rfl (by (conv => lhs; whnf) <;> rfl) (by with_reducible rfl) ?_ | refine A.hpt rfl (by (conv => lhs; whnf) <;> rfl) (by with_reducible rfl) (by first | omega | decide) ?_ | refine A.hpf rfl (by (conv => lhs; whnf) <;> rfl) (by with_reducible rfl) (by first | omega | decide) ?_ | refine A.hqt rfl (by (conv => lhs; whnf) <;> rfl) (by with_reducible rfl) (by first | omega | decide) ?_ | refine A.hqf rfl (by (conv => lhs; whnf) <;> rfl) (by with_reducible rfl) (by first | omega | decide) ?_ | refine A.hp rfl (by (conv => lhs; whnf) <;> rfl) (by with_reducible rfl) (fun h => ?_) (fun h => ?_) | refine A.hq rfl (by (conv => lhs; whnf) <;> rfl) (by with_reducible rfl) (fun h => ?_) (fun h => ?_) | refine A.hb rfl (by (conv => lhs; whnf) <;> rfl) (by with_reducible rfl) (fun h => ?_) (fun h => ?_))
    | (show AO _ _ _ [] _ _ _; refine A.nil ?_)
    | (show CW _ _ _ _ (Code.seq (Code.region _ _ false) _) _ _ _; refine W.rq ?_)
    | (show CW _ _ _ _ (Code.region _ _ false) _ _ _; refine W.rz ?_)
    | (show CW _ _ _ _ (Code.seq (Code.region _ _ true) _) _ _ _; first | refine W.dq 0 ?_ | refine W.dq 1 ?_ | refine W.dq 2 ?_ | refine W.dq 3 ?_ | refine W.dq 4 ?_ | refine W.dq 5 ?_ | refine W.dq 6 ?_ | refine W.dq 7 ?_ | refine W.dq 8 ?_ | refine W.dq 9 ?_ | refine W.dq 10 ?_ | refine W.dq 11 ?_)
    | (show CW _ _ _ _ (Code.region _ _ true) _ _ _; first | refine W.dz 0 ?_ | refine W.dz 1 ?_ | refine W.dz 2 ?_ | refine W.dz 3 ?_ | refine W.dz 4 ?_ | refine W.dz 5 ?_ | refine W.dz 6 ?_ | refine W.dz 7 ?_ | refine W.dz 8 ?_ | refine W.dz 9 ?_ | refine W.dz 10 ?_ | refine W.dz 11 ?_)
    | (show CW _ _ _ _ (Code.cond _ _ _) _ _ _; first | refine W.jt (by (conv => lhs; whnf) <;> rfl) (by first | with_reducible rfl | with_reducible exact notT | with_reducible exact notF) ?_ | refine W.jf (by (conv => lhs; whnf) <;> rfl) (by first | with_reducible rfl | with_reducible exact notT | with_reducible exact notF) ?_ | refine W.jpt (by (conv => lhs; whnf) <;> rfl) (by with_reducible rfl) (by first | omega | decide) ?_ | refine W.jpf (by (conv => lhs; whnf) <;> rfl) (by with_reducible rfl) (by first | omega | decide) ?_ | refine W.jqt (by (conv => lhs; whnf) <;> rfl) (by with_reducible rfl) (by first | omega | decide) ?_ | refine W.jqf (by (conv => lhs; whnf) <;> rfl) (by with_reducible rfl) (by first | omega | decide) ?_ | refine W.jp (by (conv => lhs; whnf) <;> rfl) (by with_reducible rfl) (fun h => ?_) (fun h => ?_) | refine W.jq (by (conv => lhs; whnf) <;> rfl) (by with_reducible rfl) (fun h => ?_) (fun h => ?_) | refine W.jb (by (conv => lhs; whnf) <;> rfl) (by with_reducible rfl) (fun h => ?_) (fun h => ?_))
    | (show CW _ _ _ _ _ _ _ _; first | refine W.kr ?_ | refine W.kn ?_ | refine W.ke ?_ | refine W.bl ?_ | refine W.sq ?_)
    | (show KO _ _ _ _; first | refine K.sn ?_ | refine K.sr ?_ | refine K.se ?_ | refine K.bn ?_ | refine K.br ?_ | refine K.be ?_ | refine K.bx rfl ?_ | refine K.lr ?_ | refine K.le ?_)
    | (show KO _ _ _ _; first | refine K.ya rfl ?_)
    | refine K.nx ?_
    | refine K.re ?_
    | refine K.dr ?_
  refine W.lp (fun m st => ∃ (i : Nat), st.env 0 = .int .i64 (x : Nat) ∧ st.env 4 = .int .i64 ((x + 2 ^ i - 2 ^ lev x : Nat) : Int) ∧ st.env 5 = .int .i64 (x : Nat) ∧ st.L = L ∧ (i ≤ lev x) ∧ m = i) _ ⟨lev x, rfl, vI (by omega), rfl, rfl, ?_, rfl⟩ ?_
  · omega
  rintro m env L ⟨i, e0, e4, e5, eL, hI, hm⟩
  dsimp only at e0 e4 e5 eL
  subst eL
  refine W.ev 0 e0 ?_
  refine W.ev 4 e4 ?_
  refine W.ev 5 e5 ?_
  obtain ⟨g1, g2, g3, g4⟩ := go_left x hx i hI
  have hl := refLevel0 H _ g4
  rw [g1] at hl
  by_cases hi : i = 0
  · subst hi
    repeat' first
      | (show XO _ _ _ (Oper.mk (some _) (Op.move _) _ _ _ none :: _) _ _ _; refine X.mv ?_)
      | (show XO _ _ _ (Oper.mk (some _) (Op.assign _) _ _ _ none :: _) _ _ _; refine X.as ?_)
      | (show XO _ _ _ (Oper.mk (some _) (Op.call (Call.mk (Callee.builtin Builtin.len) _ _)) _ _ _ none :: _) _ _ _; first | refine X.lnS rfl ?_ | refine X.lnO rfl ?_ | refine X.go rfl ?_)
      | (show XO _ _ _ (Oper.mk (some _) (Op.call _) _ _ _ none :: _) _ _ _; first | refine X.call (hl _) ?_ | refine X.go rfl ?_)
      | (show XO _ _ _ (Oper.mk (some _) (Op.binOp BinOp.add _ _ _ _) _ _ _ none :: _) _ _ _; first | refine X.addI rfl rfl (by omega) ?_ | refine X.go rfl ?_)
      | (show XO _ _ _ (Oper.mk (some _) (Op.binOp BinOp.sub _ _ _ _) _ _ _ none :: _) _ _ _; first | refine X.subI rfl rfl (by omega) ?_ | refine X.go rfl ?_)
      | (show XO _ _ _ (Oper.mk (some _) (Op.binOp BinOp.mul _ _ _ _) _ _ _ none :: _) _ _ _; first | refine X.mulI rfl rfl (by omega) ?_ | refine X.go rfl ?_)
      | (show XO _ _ _ (Oper.mk (some _) (Op.binOp BinOp.quo _ _ _ _) _ _ _ none :: _) _ _ _; first | refine X.quoI rfl rfl (by omega) ?_ | refine X.go rfl ?_)
      | (show XO _ _ _ (Oper.mk (some _) (Op.binOp BinOp.rem _ _ _ _) _ _ _ none :: _) _ _ _; first | refine X.remI rfl rfl (by omega) ?_ | refine X.go rfl ?_)
      | (show XO _ _ _ (Oper.mk (some _) (Op.convert _ _ _) _ _ _ none :: _) _ _ _; first | refine X.cvI rfl rfl rfl (w64R (by omega)) ?_ | refine X.cvI rfl rfl rfl (wU8 (by omega)) ?_ | refine X.cvI rfl rfl rfl (wU16 (by omega)) ?_ | refine X.cvI rfl rfl rfl (wU32 (by omega)) ?_ | refine X.cvI rfl rfl rfl (wU64 (by omega)) ?_ | refine X.go rfl ?_)
      | (show XO _ _ _ (Oper.mk (some _) (Op.indexAddr _ _ _) _ _ _ none :: _) _ _ _; first | refine X.iaS rfl rfl (by omega) ?_ | refine X.iaO rfl rfl (by omega) rfl ?_ | refine X.go rfl ?_)
      | (show XO _ _ _ (Oper.mk (some _) (Op.load _ _) _ _ _ none :: _) _ _ _; first | refine X.go rfl ?_ | refine X.ldO rfl rfl (by omega) ?_ | refine X.ldA rfl rfl (by omega) rfl ?_)
      | (show XO _ _ _ (Oper.mk (some _) (_) _ _ _ none :: _) _ _ _; first | refine X.go rfl ?_ | refine X.shl rfl rfl (by first | omega | exact Int.natCast_nonneg _) ?_ | refine X.shr rfl rfl (by first | omega | exact Int.natCast_nonneg _) ?_)
      | (show XO _ _ _ (Oper.mk _ _ _ _ _ (some _) :: _) _ _ _; first | refine X.hy rfl (by (conv => lhs; whnf) <;> rfl) (by first | with_reducible rfl | with_reducible exact notT | with_reducible exact notF) ?_ | refine X.hnt rfl (by (conv => lhs; whnf) <;> rfl) (by first | with_reducible rfl | with_reducible exact notT | with_reducible exact notF) ?_ | refine X.hnf rfl (by (conv => lhs; whnf) <;> rfl) (by first | with_reducible rfl | with_reducible exact notT | with_reducible exact notF) ?_ | refine X.hu rfl (by (conv => lhs; whnf) <;> rfl) (by with_reducible rfl) ?_ | refine X.hpt rfl (by (conv => lhs; whnf) <;> rfl) (by with_reducible rfl) (by first | omega | decide) ?_ | refine X.hpf rfl (by (conv => lhs; whnf) <;> rfl) (by with_reducible rfl) (by first | omega | decide) ?_ | refine X.hqt rfl (by (conv => lhs; whnf) <;> rfl) (by with_reducible rfl) (by first | omega | decide) ?_ | refine X.hqf rfl (by (conv => lhs; whnf) <;> rfl) (by with_reducible rfl) (by first | omega | decide) ?_ | refine X.hp rfl (by (conv => lhs; whnf) <;> rfl) (by with_reducible rfl) (fun h => ?_) (fun h => ?_) | refine X.hq rfl (by (conv => lhs; whnf) <;> rfl) (by with_reducible rfl) (fun h => ?_) (fun h => ?_) | refine X.hb rfl (by (conv => lhs; whnf) <;> rfl) (by with_reducible rfl) (fun h => ?_) (fun h => ?_))
      | (show XO _ _ _ (Oper.mk none _ _ _ _ none :: _) _ _ _; refine X.st rfl ?_)
      | (show XO _ _ _ [] _ _ _; refine X.nil ?_)
      | (show AO _ _ _ (Oper.mk (some _) (Op.move _) _ _ _ none :: _) _ _ _; refine A.mv ?_)
      | (show AO _ _ _ (Oper.mk (some _) (Op.assign _) _ _ _ none :: _) _ _ _; refine A.as ?_)
      | (show AO _ _ _ (Oper.mk (some _) (Op.call (Call.mk (Callee.builtin Builtin.len) _ _)) _ _ _ none :: _) _ _ _; first | refine A.lnS rfl ?_ | refine A.lnO rfl ?_ | refine A.go rfl ?_)
      | (show AO _ _ _ (Oper.mk (some _) (Op.call _) _ _ _ none :: _) _ _ _; first | refine A.call (hl _) ?_ | refine A.go rfl ?_)
      | (show AO _ _ _ (Oper.mk (some _) (Op.binOp BinOp.add _ _ _ _) _ _ _ none :: _) _ _ _; first | refine A.addI rfl rfl (by omega) ?_ | refine A.go rfl ?_)
      | (show AO _ _ _ (Oper.mk (some _) (Op.binOp BinOp.sub _ _ _ _) _ _ _ none :: _) _ _ _; first | refine A.subI rfl rfl (by omega) ?_ | refine A.go rfl ?_)
      | (show AO _ _ _ (Oper.mk (some _) (Op.binOp BinOp.mul _ _ _ _) _ _ _ none :: _) _ _ _; first | refine A.mulI rfl rfl (by omega) ?_ | refine A.go rfl ?_)
      | (show AO _ _ _ (Oper.mk (some _) (Op.binOp BinOp.quo _ _ _ _) _ _ _ none :: _) _ _ _; first | refine A.quoI rfl rfl (by omega) ?_ | refine A.go rfl ?_)
      | (show AO _ _ _ (Oper.mk (some _) (Op.binOp BinOp.rem _ _ _ _) _ _ _ none :: _) _ _ _; first | refine A.remI rfl rfl (by omega) ?_ | refine A.go rfl ?_)
      | (show AO _ _ _ (Oper.mk (some _) (Op.convert _ _ _) _ _ _ none :: _) _ _ _; first | refine A.cvI rfl rfl rfl (w64R (by omega)) ?_ | refine A.cvI rfl rfl rfl (wU8 (by omega)) ?_ | refine A.cvI rfl rfl rfl (wU16 (by omega)) ?_ | refine A.cvI rfl rfl rfl (wU32 (by omega)) ?_ | refine A.cvI rfl rfl rfl (wU64 (by omega)) ?_ | refine A.go rfl ?_)
      | (show AO _ _ _ (Oper.mk (some _) (Op.indexAddr _ _ _) _ _ _ none :: _) _ _ _; first | refine A.iaS rfl rfl (by omega) ?_ | refine A.iaO rfl rfl (by omega) rfl ?_ | refine A.go rfl ?_)
      | (show AO _ _ _ (Oper.mk (some _) (Op.load _ _) _ _ _ none :: _) _ _ _; first | refine A.go rfl ?_ | refine A.ldO rfl rfl (by omega) ?_ | refine A.ldA rfl rfl (by omega) rfl ?_)
      | (show AO _ _ _ (Oper.mk (some _) (_) _ _ _ none :: _) _ _ _; first | refine A.go rfl ?_ | refine A.shl rfl rfl (by first | omega | exact Int.natCast_nonneg _) ?_ | refine A.shr rfl rfl (by first | omega | exact Int.natCast_nonneg _) ?_)
      | (show AO _ _ _ (Oper.mk _ _ _ _ _ (some _) :: _) _ _ _; first | refine A.hy rfl (by (conv => lhs; whnf) <;> rfl) (by first | with_reducible rfl | with_reducible exact notT | with_reducible exact notF) ?_ | refine A.hnt rfl (by (conv => lhs; whnf) <;> rfl) (by first | with_reducible rfl | with_reducible exact notT | with_reducible exact notF) ?_ | refine A.hnf rfl (by (conv => lhs; whnf) <;> rfl) (by first | with_reducible rfl | with_reducible exact notT | with_reducible exact notF) ?_ | refine A.hu rfl (by (conv => lhs; whnf) <;> rfl) (by with_reducible rfl) ?_ | refine A.hpt rfl (by (conv => lhs; whnf) <;> rfl) (by with_reducible rfl) (by first | omega | decide) ?_ | refine A.hpf rfl (by (conv => lhs; whnf) <;> rfl) (by with_reducible rfl) (by first | omega | decide) ?_ | refine A.hqt rfl (by (conv => lhs; whnf) <;> rfl) (by with_reducible rfl) (by first | omega | decide) ?_ | refine A.hqf rfl (by (conv => lhs; whnf) <;> rfl) (by with_reducible rfl) (by first | omega | decide) ?_ | refine A.hp rfl (by (conv => lhs; whnf) <;> rfl) (by with_reducible rfl) (fun h => ?_) (fun h => ?_) | refine A.hq rfl (by (conv => lhs; whnf) <;> rfl) (by with_reducible rfl) (fun h => ?_) (fun h => ?_) | refine A.hb rfl (by (conv => lhs; whnf) <;> rfl) (by with_reducible rfl) (fun h => ?_) (fun h => ?_))
      | (show AO _ _ _ [] _ _ _; refine A.nil ?_)
      | (show CW _ _ _ _ (Code.seq (Code.region _ _ false) _) _ _ _; refine W.rq ?_)
      | (show CW _ _ _ _ (Code.region _ _ false) _ _ _; refine W.rz ?_)
      | (show CW _ _ _ _ (Code.seq (Code.region _ _ true) _) _ _ _; first | refine W.dq 0 ?_ | refine W.dq 1 ?_ | refine W.dq 2 ?_ | refine W.dq 3 ?_ | refine W.dq 4 ?_ | refine W.dq 5 ?_ | refine W.dq 6 ?_ | refine W.dq 7 ?_ | refine W.dq 8 ?_ | refine W.dq 9 ?_ | refine W.dq 10 ?_ | refine W.dq 11 ?_)
      | (show CW _ _ _ _ (Code.region _ _ true) _ _ _; first | refine W.dz 0 ?_ | refine W.dz 1 ?_ | refine W.dz 2 ?_ | refine W.dz 3 ?_ | refine W.dz 4 ?_ | refine W.dz 5 ?_ | refine W.dz 6 ?_ | refine W.dz 7 ?_ | refine W.dz 8 ?_ | refine W.dz 9 ?_ | refine W.dz 10 ?_ | refine W.dz 11 ?_)
      | (show CW _ _ _ _ (Code.cond _ _ _) _ _ _; first | refine W.jt (by (conv => lhs; whnf) <;> rfl) (by first | with_reducible rfl | with_reducible exact notT | with_reducible exact notF) ?_ | refine W.jf (by (conv => lhs; whnf) <;> rfl) (by first | with_reducible rfl | with_reducible exact notT | with_reducible exact notF) ?_ | refine W.jpt (by (conv => lhs; whnf) <;> rfl) (by with_reducible rfl) (by first | omega | decide) ?_ | refine W.jpf (by (conv => lhs; whnf) <;> rfl) (by with_reducible rfl) (by first | omega | decide) ?_ | refine W.jqt (by (conv => lhs; whnf) <;> rfl) (by with_reducible rfl) (by first | omega | decide) ?_ | refine W.jqf (by (conv => lhs; whnf) <;> rfl) (by with_reducible rfl) (by first | omega | decide) ?_ | refine W.jp (by (conv => lhs; whnf) <;> rfl) (by with_reducible rfl) (fun h => ?_) (fun h => ?_) | refine W.jq (by (conv => lhs; whnf) <;> rfl) (by with_reducible rfl) (fun h => ?_) (fun h => ?_) | refine W.jb (by (conv => lhs; whnf) <;> rfl) (by with_reducible rfl) (fun h => ?_) (fun h => ?_))
      | (show CW _ _ _ _ _ _ _ _; first | refine W.kr ?_ | refine W.kn ?_ | refine W.ke ?_ | refine W.bl ?_ | refine W.sq ?_)
      | (show KO _ _ _ _; first | refine K.sn ?_ | refine K.sr ?_ | refine K.se ?_ | refine K.bn ?_ | refine K.br ?_ | refine K.be ?_ | refine K.bx rfl ?_ | refine K.lr ?_ | refine K.le ?_)
      | (show KO _ _ _ _; first | refine K.ya rfl ?_)
      | refine K.nx ?_
      | refine K.re ?_
      | refine K.dr ?_
    refine W.lp (fun m st => ∃ (k : Nat), st.env 0 = .int .i64 (x : Nat) ∧ st.env 4 = .int .i64 (((x + 1 - 2 ^ lev x : Nat)) : Int) ∧ st.env 5 = .int .i64 ((x + 2 ^ lev x - 2 ^ k : Nat) : Int) ∧ st.L = L ∧ (k ≤ lev x) ∧ m = k) _ ⟨lev x, rfl, vI (by omega), vI (by omega), rfl, ?_, rfl⟩ ?_
    · omega
    rintro m env L ⟨k, e0, e4, e5, eL, hk, hm⟩
    dsimp only at e0 e4 e5 eL
    subst eL
    refine W.ev 0 e0 ?_
    refine W.ev 4 e4 ?_
    refine W.ev 5 e5 ?_
    obtain ⟨k1, k3, k4⟩ := go_right x hx k hk
    have hl2 := refLevel0 H _ k4
    rw [k1] at hl2
    by_cases hk0 : k = 0
    · subst hk0
      repeat' first
        | (show XO _ _ _ (Oper.mk (some _) (Op.move _) _ _ _ none :: _) _ _ _; refine X.mv ?_)
        | (show XO _ _ _ (Oper.mk (some _) (Op.assign _) _ _ _ none :: _) _ _ _; refine X.as ?_)
        | (show XO _ _ _ (Oper.mk (some _) (Op.call (Call.mk (Callee.builtin Builtin.len) _ _)) _ _ _ none :: _) _ _ _; first | refine X.lnS rfl ?_ | refine X.lnO rfl ?_ | refine X.go rfl ?_)
        | (show XO _ _ _ (Oper.mk (some _) (Op.call _) _ _ _ none :: _) _ _ _; first | refine X.call (hl2 _) ?_ | refine X.go rfl ?_)
        | (show XO _ _ _ (Oper.mk (some _) (Op.binOp BinOp.add _ _ _ _) _ _ _ none :: _) _ _ _; first | refine X.addI rfl rfl (by omega) ?_ | refine X.go rfl ?_)
        | (show XO _ _ _ (Oper.mk (some _) (Op.binOp BinOp.sub _ _ _ _) _ _ _ none :: _) _ _ _; first | refine X.subI rfl rfl (by omega) ?_ | refine X.go rfl ?_)
        | (show XO _ _ _ (Oper.mk (some _) (Op.binOp BinOp.mul _ _ _ _) _ _ _ none :: _) _ _ _; first | refine X.mulI rfl rfl (by omega) ?_ | refine X.go rfl ?_)
        | (show XO _ _ _ (Oper.mk (some _) (Op.binOp BinOp.quo _ _ _ _) _ _ _ none :: _) _ _ _; first | refine X.quoI rfl rfl (by omega) ?_ | refine X.go rfl ?_)
        | (show XO _ _ _ (Oper.mk (some _) (Op.binOp BinOp.rem _ _ _ _) _ _ _ none :: _) _ _ _; first | refine X.remI rfl rfl (by omega) ?_ | refine X.go rfl ?_)
        | (show XO _ _ _ (Oper.mk (some _) (Op.convert _ _ _) _ _ _ none :: _) _ _ _; first | refine X.cvI rfl rfl rfl (w64R (by omega)) ?_ | refine X.cvI rfl rfl rfl (wU8 (by omega)) ?_ | refine X.cvI rfl rfl rfl (wU16 (by omega)) ?_ | refine X.cvI rfl rfl rfl (wU32 (by omega)) ?_ | refine X.cvI rfl rfl rfl (wU64 (by omega)) ?_ | refine X.go rfl ?_)
        | (show XO _ _ _ (Oper.mk (some _) (Op.indexAddr _ _ _) _ _ _ none :: _) _ _ _; first | refine X.iaS rfl rfl (by omega) ?_ | refine X.iaO rfl rfl (by omega) rfl ?_ | refine X.go rfl ?_)
        | (show XO _ _ _ (Oper.mk (some _) (Op.load _ _) _ _ _ none :: _) _ _ _; first | refine X.go rfl ?_ | refine X.ldO rfl rfl (by omega) ?_ | refine X.ldA rfl rfl (by omega) rfl ?_)
        | (show XO _ _ _ (Oper.mk (some _) (_) _ _ _ none :: _) _ _ _; first | refine X.go rfl ?_ | refine X.shl rfl rfl (by first | omega | exact Int.natCast_nonneg _) ?_ | refine X.shr rfl rfl (by first | omega | exact Int.natCast_nonneg _) ?_)
        | (show XO _ _ _ (Oper.mk _ _ _ _ _ (some _) :: _) _ _ _; first | refine X.hy rfl (by (conv => lhs; whnf) <;> rfl) (by first | with_reducible rfl | with_reducible exact notT | with_reducible exact notF) ?_ | refine X.hnt rfl (by (conv => lhs; whnf) <;> rfl) (by first | with_reducible rfl | with_reducible exact notT | with_reducible exact notF) ?_ | refine X.hnf rfl (by (conv => lhs; whnf) <;> rfl) (by first | with_reducible rfl | with_reducible exact notT | with_reducible exact notF) ?_ | refine X.hu rfl (by (conv => lhs; whnf) <;> rfl) (by with_reducible rfl) ?_ | refine X.hpt rfl (by (conv => lhs; whnf) <;> rfl) (by with_reducible rfl) (by first | omega | decide) ?_ | refine X.hpf rfl (by (conv => lhs; whnf) <;> rfl) (by with_reducible rfl) (by first | omega | decide) ?_ | refine X.hqt rfl (by (conv => lhs; whnf) <;> rfl) (by with_reducible rfl) (by first | omega | decide) ?_ | refine X.hqf rfl (by (conv => lhs; whnf) <;> rfl) (by with_reducible rfl) (by first | omega | decide) ?_ | refine X.hp rfl (by (conv => lhs; whnf) <;> rfl) (by with_reducible rfl) (fun h => ?_) (fun h => ?_) | refine X.hq rfl (by (conv => lhs; whnf) <;> rfl) (by with_reducible rfl) (fun h => ?_) (fun h => ?_) | refine X.hb rfl (by (conv => lhs; whnf) <;> rfl) (by with_reducible rfl) (fun h => ?_) (fun h => ?_))
        | (show XO _ _ _ (Oper.mk none _ _ _ _ none :: _) _ _ _; refine X.st rfl ?_)
        | (show XO _ _ _ [] _ _ _; refine X.nil ?_)
        | (show AO _ _ _ (Oper.mk (some _) (Op.move _) _ _ _ none :: _) _ _ _; refine A.mv ?_)
        | (show AO _ _ _ (Oper.mk (some _) (Op.assign _) _ _ _ none :: _) _ _ _; refine A.as ?_)
        | (show AO _ _ _ (Oper.mk (some _) (Op.call (Call.mk (Callee.builtin Builtin.len) _ _)) _ _ _ none :: _) _ _ _; first | refine A.lnS rfl ?_ | refine A.lnO rfl ?_ | refine A.go rfl ?_)
        | (show AO _ _ _ (Oper.mk (some _) (Op.call _) _ _ _ none :: _) _ _ _; first | refine A.call (hl2 _) ?_ | refine A.go rfl ?_)
        | (show AO _ _ _ (Oper.mk (some _) (Op.binOp BinOp.add _ _ _ _) _ _ _ none :: _) _ _ _; first | refine A.addI rfl rfl (by omega) ?_ | refine A.go rfl ?_)
        | (show AO _ _ _ (Oper.mk (some _) (Op.binOp BinOp.sub _ _ _ _) _ _ _ none :: _) _ _ _; first | refine A.subI rfl rfl (by omega) ?_ | refine A.go rfl ?_)
        | (show AO _ _ _ (Oper.mk (some _) (Op.binOp BinOp.mul _ _ _ _) _ _ _ none :: _) _ _ _; first | refine A.mulI rfl rfl (by omega) ?_ | refine A.go rfl ?_)
        | (show AO _ _ _ (Oper.mk (some _) (Op.binOp BinOp.quo _ _ _ _) _ _ _ none :: _) _ _ _; first | refine A.quoI rfl rfl (by omega) ?_ | refine A.go rfl ?_)
        | (show AO _ _ _ (Oper.mk (some _) (Op.binOp BinOp.rem _ _ _ _) _ _ _ none :: _) _ _ _; first | refine A.remI rfl rfl (by omega) ?_ | refine A.go rfl ?_)
        | (show AO _ _ _ (Oper.mk (some _) (Op.convert _ _ _) _ _ _ none :: _) _ _ _; first | refine A.cvI rfl rfl rfl (w64R (by omega)) ?_ | refine A.cvI rfl rfl rfl (wU8 (by omega)) ?_ | refine A.cvI rfl rfl rfl (wU16 (by omega)) ?_ | refine A.cvI rfl rfl rfl (wU32 (by omega)) ?_ | refine A.cvI rfl rfl rfl (wU64 (by omega)) ?_ | refine A.go rfl ?_)
        | (show AO _ _ _ (Oper.mk (some _) (Op.indexAddr _ _ _) _ _ _ none :: _) _ _ _; first | refine A.iaS rfl rfl (by omega) ?_ | refine A.iaO rfl rfl (by omega) rfl ?_ | refine A.go rfl ?_)
        | (show AO _ _ _ (Oper.mk (some _) (Op.load _ _) _ _ _ none :: _) _ _ _; first | refine A.go rfl ?_ | refine A.ldO rfl rfl (by omega) ?_ | refine A.ldA rfl rfl (by omega) rfl ?_)
        | (show AO _ _ _ (Oper.mk (some _) (_) _ _ _ none :: _) _ _ _; first | refine A.go rfl ?_ | refine A.shl rfl rfl (by first | omega | exact Int.natCast_nonneg _) ?_ | refine A.shr rfl rfl (by first | omega | exact Int.natCast_nonneg _) ?_)
        | (show AO _ _ _ (Oper.mk _ _ _ _ _ (some _) :: _) _ _ _; first | refine A.hy rfl (by (conv => lhs; whnf) <;> rfl) (by first | with_reducible rfl | with_reducible exact notT | with_reducible exact notF) ?_ | refine A.hnt rfl (by (conv => lhs; whnf) <;> rfl) (by first | with_reducible rfl | with_reducible exact notT | with_reducible exact notF) ?_ | refine A.hnf rfl (by (conv => lhs; whnf) <;> rfl) (by first | with_reducible rfl | with_reducible exact notT | with_reducible exact notF) ?_ | refine A.hu rfl (by (conv => lhs; whnf) <;> rfl) (by with_reducible rfl) ?_ | refine A.hpt rfl (by (conv => lhs; whnf) <;> rfl) (by with_reducible rfl) (by first | omega | decide) ?_ | refine A.hpf rfl (by (conv => lhs; whnf) <;> rfl) (by with_reducible rfl) (by first | omega | decide) ?_ | refine A.hqt rfl (by (conv => lhs; whnf) <;> rfl) (by with_reducible rfl) (by first | omega | decide) ?_ | refine A.hqf rfl (by (conv => lhs; whnf) <;> rfl) (by with_reducible rfl) (by first | omega | decide) ?_ | refine A.hp rfl (by (conv => lhs; whnf) <;> rfl) (by with_reducible rfl) (fun h => ?_) (fun h => ?_) | refine A.hq rfl (by (conv => lhs; whnf) <;> rfl) (by with_reducible rfl) (fun h => ?_) (fun h => ?_) | refine A.hb rfl (by (conv => lhs; whnf) <;> rfl) (by with_reducible rfl) (fun h => ?_) (fun h => ?_))
        | (show AO _ _ _ [] _ _ _; refine A.nil ?_)
        | (show CW _ _ _ _ (Code.seq (Code.region _ _ false) _) _ _ _; refine W.rq ?_)
        | (show CW _ _ _ _ (Code.region _ _ false) _ _ _; refine W.rz ?_)
        | (show CW _ _ _ _ (Code.seq (Code.region _ _ true) _) _ _ _; first | refine W.dq 0 ?_ | refine W.dq 1 ?_ | refine W.dq 2 ?_ | refine W.dq 3 ?_ | refine W.dq 4 ?_ | refine W.dq 5 ?_ | refine W.dq 6 ?_ | refine W.dq 7 ?_ | refine W.dq 8 ?_ | refine W.dq 9 ?_ | refine W.dq 10 ?_ | refine W.dq 11 ?_)
        | (show CW _ _ _ _ (Code.region _ _ true) _ _ _; first | refine W.dz 0 ?_ | refine W.dz 1 ?_ | refine W.dz 2 ?_ | refine W.dz 3 ?_ | refine W.dz 4 ?_ | refine W.dz 5 ?_ | refine W.dz 6 ?_ | refine W.dz 7 ?_ | refine W.dz 8 ?_ | refine W.dz 9 ?_ | refine W.dz 10 ?_ | refine W.dz 11 ?_)
        | (show CW _ _ _ _ (Code.cond _ _ _) _ _ _; first | refine W.jt (by (conv => lhs; whnf) <;> rfl) (by first | with_reducible rfl | with_reducible exact notT | with_reducible exact notF) ?_ | refine W.jf (by (conv => lhs; whnf) <;> rfl) (by first | with_reducible rfl | with_reducible exact notT | with_reducible exact notF) ?_ | refine W.jpt (by (conv => lhs; whnf) <;> rfl) (by with_reducible rfl) (by first | omega | decide) ?_ | refine W.jpf (by (conv => lhs; whnf) <;> rfl) (by with_reducible rfl) (by first | omega | decide) ?_ | refine W.jqt (by (conv => lhs; whnf) <;> rfl) (by with_reducible rfl) (by first | omega | decide) ?_ | refine W.jqf (by (conv => lhs; whnf) <;> rfl) (by with_reducible rfl) (by first | omega | decide) ?_ | refine W.jp (by (conv => lhs; whnf) <;> rfl) (by with_reducible rfl) (fun h => ?_) (fun h => ?_) | refine W.jq (by (conv => lhs; whnf) <;> rfl) (by with_reducible rfl) (fun h => ?_) (fun h => ?_) | refine W.jb (by (conv => lhs; whnf) <;> rfl) (by with_reducible rfl) (fun h => ?_) (fun h => ?_))
        | (show CW _ _ _ _ _ _ _ _; first | refine W.kr ?_ | refine W.kn ?_ | refine W.ke ?_ | refine W.bl ?_ | refine W.sq ?_)
        | (show KO _ _ _ _; first | refine K.sn ?_ | refine K.sr ?_ | refine K.se ?_ | refine K.bn ?_ | refine K.br ?_ | refine K.be ?_ | refine K.bx rfl ?_ | refine K.lr ?_ | refine K.le ?_)
        | (show KO _ _ _ _; first | refine K.ya rfl ?_)
        | refine K.nx ?_
        | refine K.re ?_
        | refine K.dr ?_
      refine end_data rfl rfl (vII ?_ ?_)
      all_goals rw [leaves_nat x hx]
      all_goals simp only [Nat.pow_zero]
      all_goals omega
    · obtain ⟨k5, k6⟩ := k3 (by omega)
      have hr := refRightN H _ k4 k5
      rw [k6] at hr
      repeat' first
        | (show XO _ _ _ (Oper.mk (some _) (Op.move _) _ _ _ none :: _) _ _ _; refine X.mv ?_)
        | (show XO _ _ _ (Oper.mk (some _) (Op.assign _) _ _ _ none :: _) _ _ _; refine X.as ?_)
        | (show XO _ _ _ (Oper.mk (some _) (Op.call (Call.mk (Callee.builtin Builtin.len) _ _)) _ _ _ none :: _) _ _ _; first | refine X.lnS rfl ?_ | refine X.lnO rfl ?_ | refine X.go rfl ?_)
        | (show XO _ _ _ (Oper.mk (some _) (Op.call _) _ _ _ none :: _) _ _ _; first | refine X.call (hl2 _) ?_ | refine X.call (hr _) ?_ | refine X.go rfl ?_)
        | (show XO _ _ _ (Oper.mk (some _) (Op.binOp BinOp.add _ _ _ _) _ _ _ none :: _) _ _ _; first | refine X.addI rfl rfl (by omega) ?_ | refine X.go rfl ?_)
        | (show XO _ _ _ (Oper.mk (some _) (Op.binOp BinOp.sub _ _ _ _) _ _ _ none :: _) _ _ _; first | refine X.subI rfl rfl (by omega) ?_ | refine X.go rfl ?_)
        | (show XO _ _ _ (Oper.mk (some _) (Op.binOp BinOp.mul _ _ _ _) _ _ _ none :: _) _ _ _; first | refine X.mulI rfl rfl (by omega) ?_ | refine X.go rfl ?_)
        | (show XO _ _ _ (Oper.mk (some _) (Op.binOp BinOp.quo _ _ _ _) _ _ _ none :: _) _ _ _; first | refine X.quoI rfl rfl (by omega) ?_ | refine X.go rfl ?_)
        | (show XO _ _ _ (Oper.mk (some _) (Op.binOp BinOp.rem _ _ _ _) _ _ _ none :: _) _ _ _; first | refine X.remI rfl rfl (by omega) ?_ | refine X.go rfl ?_)
        | (show XO _ _ _ (Oper.mk (some _) (Op.convert _ _ _) _ _ _ none :: _) _ _ _; first | refine X.cvI rfl rfl rfl (w64R (by omega)) ?_ | refine X.cvI rfl rfl rfl (wU8 (by omega)) ?_ | refine X.cvI rfl rfl rfl (wU16 (by omega)) ?_ | refine X.cvI rfl rfl rfl (wU32 (by omega)) ?_ | refine X.cvI rfl rfl rfl (wU64 (by omega)) ?_ | refine X.go rfl ?_)
        | (show XO _ _ _ (Oper.mk (some _) (Op.indexAddr _ _ _) _ _ _ none :: _) _ _ _; first | refine X.iaS rfl rfl (by omega) ?_ | refine X.iaO rfl rfl (by omega) rfl ?_ | refine X.go rfl ?_)
        | (show XO _ _ _ (Oper.mk (some _) (Op.load _ _) _ _ _ none :: _) _ _ _; first | refine X.go rfl ?_ | refine X.ldO rfl rfl (by omega) ?_ | refine X.ldA rfl rfl (by omega) rfl ?_)
        | (show XO _ _ _ (Oper.mk (some _) (_) _ _ _ none :: _) _ _ _; first | refine X.go rfl ?_ | refine X.shl rfl rfl (by first | omega | exact Int.natCast_nonneg _) ?_ | refine X.shr rfl rfl (by first | omega | exact Int.natCast_nonneg _) ?_)
        | (show XO _ _ _ (Oper.mk _ _ _ _ _ (some _) :: _) _ _ _; first | refine X.hy rfl (by (conv => lhs; whnf) <;> rfl) (by first | with_reducible rfl | with_reducible exact notT | with_reducible exact notF) ?_ | refine X.hnt rfl (by (conv => lhs; whnf) <;> rfl) (by first | with_reducible rfl | with_reducible exact notT | with_reducible exact notF) ?_ | refine X.hnf rfl (by (conv => lhs; whnf) <;> rfl) (by first | with_reducible rfl | with_reducible exact notT | with_reducible exact notF) ?_ | refine X.hu rfl (by (conv => lhs; whnf) <;> rfl) (by with_reducible rfl) ?_ | refine X.hpt rfl (by (conv => lhs; whnf) <;> rfl) (by with_reducible rfl) (by first | omega | decide) ?_ | refine X.hpf rfl (by (conv => lhs; whnf) <;> rfl) (by with_reducible rfl) (by first | omega | decide) ?_ | refine X.hqt rfl (by (conv => lhs; whnf) <;> rfl) (by with_reducible rfl) (by first | omega | decide) ?_ | refine X.hqf rfl (by (conv => lhs; whnf) <;> rfl) (by with_reducible rfl) (by first | omega | decide) ?_ | refine X.hp rfl (by (conv => lhs; whnf) <;> rfl) (by with_reducible rfl) (fun h => ?_) (fun h => ?_) | refine X.hq rfl (by (conv => lhs; whnf) <;> rfl) (by with_reducible rfl) (fun h => ?_) (fun h => ?_) | refine X.hb rfl (by (conv => lhs; whnf) <;> rfl) (by with_reducible rfl) (fun h => ?_) (fun h => ?_))
        | (show XO _ _ _ (Oper.mk none _ _ _ _ none :: _) _ _ _; refine X.st rfl ?_)
        | (show XO _ _ _ [] _ _ _; refine X.nil ?_)
        | (show AO _ _ _ (Oper.mk (some _) (Op.move _) _ _ _ none :: _) _ _ _; refine A.mv ?_)
        | (show AO _ _ _ (Oper.mk (some _) (Op.assign _) _ _ _ none :: _) _ _ _; refine A.as ?_)
        | (show AO _ _ _ (Oper.mk (some _) (Op.call (Call.mk (Callee.builtin Builtin.len) _ _)) _ _ _ none :: _) _ _ _; first | refine A.lnS rfl ?_ | refine A.lnO rfl ?_ | refine A.go rfl ?_)
        | (show AO _ _ _ (Oper.mk (some _) (Op.call _) _ _ _ none :: _) _ _ _; first | refine A.call (hl2 _) ?_ | refine A.call (hr _) ?_ | refine A.go rfl ?_)
        | (show AO _ _ _ (Oper.mk (some _) (Op.binOp BinOp.add _ _ _ _) _ _ _ none :: _) _ _ _; first | refine A.addI rfl rfl (by omega) ?_ | refine A.go rfl ?_)
        | (show AO _ _ _ (Oper.mk (some _) (Op.binOp BinOp.sub _ _ _ _) _ _ _ none :: _) _ _ _; first | refine A.subI rfl rfl (by omega) ?_ | refine A.go rfl ?_)
        | (show AO _ _ _ (Oper.mk (some _) (Op.binOp BinOp.mul _ _ _ _) _ _ _ none :: _) _ _ _; first | refine A.mulI rfl rfl (by omega) ?_ | refine A.go rfl ?_)
        | (show AO _ _ _ (Oper.mk (some _) (Op.binOp BinOp.quo _ _ _ _) _ _ _ none :: _) _ _ _; first | refine A.quoI rfl rfl (by omega) ?_ | refine A.go rfl ?_)
        | (show AO _ _ _ (Oper.mk (some _) (Op.binOp BinOp.rem _ _ _ _) _ _ _ none :: _) _ _ _; first | refine A.remI rfl rfl (by omega) ?_ | refine A.go rfl ?_)
        | (show AO _ _ _ (Oper.mk (some _) (Op.convert _ _ _) _ _ _ none :: _) _ _ _; first | refine A.cvI rfl rfl rfl (w64R (by omega)) ?_ | refine A.cvI rfl rfl rfl (wU8 (by omega)) ?_ | refine A.cvI rfl rfl rfl (wU16 (by omega)) ?_ | refine A.cvI rfl rfl rfl (wU32 (by omega)) ?_ | refine A.cvI rfl rfl rfl (wU64 (by omega)) ?_ | refine A.go rfl ?_)
        | (show AO _ _ _ (Oper.mk (some _) (Op.indexAddr _ _ _) _ _ _ none :: _) _ _ _; first | refine A.iaS rfl rfl (by omega) ?_ | refine A.iaO rfl rfl (by omega) rfl ?_ | refine A.go rfl ?_)
        | (show AO _ _ _ (Oper.mk (some _) (Op.load _ _) _ _ _ none :: _) _ _ _; first | refine A.go rfl ?_ | refine A.ldO rfl rfl (by omega) ?_ | refine A.ldA rfl rfl (by omega) rfl ?_)
        | (show AO _ _ _ (Oper.mk (some _) (_) _ _ _ none :: _) _ _ _; first | refine A.go rfl ?_ | refine A.shl rfl rfl (by first | omega | exact Int.natCast_nonneg _) ?_ | refine A.shr rfl rfl (by first | omega | exact Int.natCast_nonneg _) ?_)
        | (show AO _ _ _ (Oper.mk _ _ _ _ _ (some _) :: _) _ _ _; first | refine A.hy rfl (by (conv => lhs; whnf) <;> rfl) (by first | with_reducible rfl | with_reducible exact notT | with_reducible exact notF) ?_ | refine A.hnt rfl (by (conv => lhs; whnf) <;> rfl) (by first | with_reducible rfl | with_reducible exact notT | with_reducible exact notF) ?_ | refine A.hnf rfl (by (conv => lhs; whnf) <;> rfl) (by first | with_reducible rfl | with_reducible exact notT | with_reducible exact notF) ?_ | refine A.hu rfl (by (conv => lhs; whnf) <;> rfl) (by with_reducible rfl) ?_ | refine A.hpt rfl (by (conv => lhs; whnf) <;> rfl) (by with_reducible rfl) (by first | omega | decide) ?_ | refine A.hpf rfl (by (conv => lhs; whnf) <;> rfl) (by with_reducible rfl) (by first | omega | decide) ?_ | refine A.hqt rfl (by (conv => lhs; whnf) <;> rfl) (by with_reducible rfl) (by first | omega | decide) ?_ | refine A.hqf rfl (by (conv => lhs; whnf) <;> rfl) (by with_reducible rfl) (by first | omega | decide) ?_ | refine A.hp rfl (by (conv => lhs; whnf) <;> rfl) (by with_reducible rfl) (fun h => ?_) (fun h => ?_) | refine A.hq rfl (by (conv => lhs; whnf) <;> rfl) (by with_reducible rfl) (fun h => ?_) (fun h => ?_) | refine A.hb rfl (by (conv => lhs; whnf) <;> rfl) (by with_reducible rfl) (fun h => ?_) (fun h => ?_))
        | (show AO _ _ _ [] _ _ _; refine A.nil ?_)
        | (show CW _ _ _ _ (Code.seq (Code.region _ _ false) _) _ _ _; refine W.rq ?_)
        | (show CW _ _ _ _ (Code.region _ _ false) _ _ _; refine W.rz ?_)
        | (show CW _ _ _ _ (Code.seq (Code.region _ _ true) _) _ _ _; first | refine W.dq 0 ?_ | refine W.dq 1 ?_ | refine W.dq 2 ?_ | refine W.dq 3 ?_ | refine W.dq 4 ?_ | refine W.dq 5 ?_ | refine W.dq 6 ?_ | refine W.dq 7 ?_ | refine W.dq 8 ?_ | refine W.dq 9 ?_ | refine W.dq 10 ?_ | refine W.dq 11 ?_)
        | (show CW _ _ _ _ (Code.region _ _ true) _ _ _; first | refine W.dz 0 ?_ | refine W.dz 1 ?_ | refine W.dz 2 ?_ | refine W.dz 3 ?_ | refine W.dz 4 ?_ | refine W.dz 5 ?_ | refine W.dz 6 ?_ | refine W.dz 7 ?_ | refine W.dz 8 ?_ | refine W.dz 9 ?_ | refine W.dz 10 ?_ | refine W.dz 11 ?_)
        | (show CW _ _ _ _ (Code.cond _ _ _) _ _ _; first | refine W.jt (by (conv => lhs; whnf) <;> rfl) (by first | with_reducible rfl | with_reducible exact notT | with_reducible exact notF) ?_ | refine W.jf (by (conv => lhs; whnf) <;> rfl) (by first | with_reducible rfl | with_reducible exact notT | with_reducible exact notF) ?_ | refine W.jpt (by (conv => lhs; whnf) <;> rfl) (by with_reducible rfl) (by first | omega | decide) ?_ | refine W.jpf (by (conv => lhs; whnf) <;> rfl) (by with_reducible rfl) (by first | omega | decide) ?_ | refine W.jqt (by (conv => lhs; whnf) <;> rfl) (by with_reducible rfl) (by first | omega | decide) ?_ | refine W.jqf (by (conv => lhs; whnf) <;> rfl) (by with_reducible rfl) (by first | omega | decide) ?_ | refine W.jp (by (conv => lhs; whnf) <;> rfl) (by with_reducible rfl) (fun h => ?_) (fun h => ?_) | refine W.jq (by (conv => lhs; whnf) <;> rfl) (by with_reducible rfl) (fun h => ?_) (fun h => ?_) | refine W.jb (by (conv => lhs; whnf) <;> rfl) (by with_reducible rfl) (fun h => ?_) (fun h => ?_))
        | (show CW _ _ _ _ _ _ _ _; first | refine W.kr ?_ | refine W.kn ?_ | refine W.ke ?_ | refine W.bl ?_ | refine W.sq ?_)
        | (show KO _ _ _ _; first | refine K.sn ?_ | refine K.sr ?_ | refine K.se ?_ | refine K.bn ?_ | refine K.br ?_ | refine K.be ?_ | refine K.bx rfl ?_ | refine K.lr ?_ | refine K.le ?_ | refine K.ln _ ?_ ⟨k - 1, rfl, rfl, rfl, rfl, ?_, rfl⟩)
        | (show KO _ _ _ _; first | refine K.ya rfl ?_)
        | refine K.nx ?_
        | refine K.re ?_
        | refine K.dr ?_
      · omega
      · omega
  · obtain ⟨g5, g6⟩ := g3 (by omega)
    have hr := refLeftN H _ g4 g5
    rw [g6] at hr
    repeat' first
      | (show XO _ _ _ (Oper.mk (some _) (Op.move _) _ _ _ none :: _) _ _ _; refine X.mv ?_)
      | (show XO _ _ _ (Oper.mk (some _) (Op.assign _) _ _ _ none :: _) _ _ _; refine X.as ?_)
      | (show XO _ _ _ (Oper.mk (some _) (Op.call (Call.mk (Callee.builtin Builtin.len) _ _)) _ _ _ none :: _) _ _ _; first | refine X.lnS rfl ?_ | refine X.lnO rfl ?_ | refine X.go rfl ?_)
      | (show XO _ _ _ (Oper.mk (some _) (Op.call _) _ _ _ none :: _) _ _ _; first | refine X.call (hl _) ?_ | refine X.call (hr _) ?_ | refine X.go rfl ?_)
      | (show XO _ _ _ (Oper.mk (some _) (Op.binOp BinOp.add _ _ _ _) _ _ _ none :: _) _ _ _; first | refine X.addI rfl rfl (by omega) ?_ | refine X.go rfl ?_)
      | (show XO _ _ _ (Oper.mk (some _) (Op.binOp BinOp.sub _ _ _ _) _ _ _ none :: _) _ _ _; first | refine X.subI rfl rfl (by omega) ?_ | refine X.go rfl ?_)
      | (show XO _ _ _ (Oper.mk (some _) (Op.binOp BinOp.mul _ _ _ _) _ _ _ none :: _) _ _ _; first | refine X.mulI rfl rfl (by omega) ?_ | refine X.go rfl ?_)
      | (show XO _ _ _ (Oper.mk (some _) (Op.binOp BinOp.quo _ _ _ _) _ _ _ none :: _) _ _ _; first | refine X.quoI rfl rfl (by omega) ?_ | refine X.go rfl ?_)
      | (show XO _ _ _ (Oper.mk (some _) (Op.binOp BinOp.rem _ _ _ _) _ _ _ none :: _) _ _ _; first | refine X.remI rfl rfl (by omega) ?_ | refine X.go rfl ?_)
      | (show XO _ _ _ (Oper.mk (some _) (Op.convert _ _ _) _ _ _ none :: _) _ _ _; first | refine X.cvI rfl rfl rfl (w64R (by omega)) ?_ | refine X.cvI rfl rfl rfl (wU8 (by omega)) ?_ | refine X.cvI rfl rfl rfl (wU16 (by omega)) ?_ | refine X.cvI rfl rfl rfl (wU32 (by omega)) ?_ | refine X.cvI rfl rfl rfl (wU64 (by omega)) ?_ | refine X.go rfl ?_)
      | (show XO _ _ _ (Oper.mk (some _) (Op.indexAddr _ _ _) _ _ _ none :: _) _ _ _; first | refine X.iaS rfl rfl (by omega) ?_ | refine X.iaO rfl rfl (by omega) rfl ?_ | refine X.go rfl ?_)
      | (show XO _ _ _ (Oper.mk (some _) (Op.load _ _) _ _ _ none :: _) _ _ _; first | refine X.go rfl ?_ | refine X.ldO rfl rfl (by omega) ?_ | refine X.ldA rfl rfl (by omega) rfl ?_)
      | (show XO _ _ _ (Oper.mk (some _) (_) _ _ _ none :: _) _ _ _; first | refine X.go rfl ?_ | refine X.shl rfl rfl (by first | omega | exact Int.natCast_nonneg _) ?_ | refine X.shr rfl rfl (by first | omega | exact Int.natCast_nonneg _) ?_)
      | (show XO _ _ _ (Oper.mk _ _ _ _ _ (some _) :: _) _ _ _; first | refine X.hy rfl (by (conv => lhs; whnf) <;> rfl) (by first | with_reducible rfl | with_reducible exact notT | with_reducible exact notF) ?_ | refine X.hnt rfl (by (conv => lhs; whnf) <;> rfl) (by first | with_reducible rfl | with_reducible exact notT | with_reducible exact notF) ?_ | refine X.hnf rfl (by (conv => lhs; whnf) <;> rfl) (by first | with_reducible rfl | with_reducible exact notT | with_reducible exact notF) ?_ | refine X.hu rfl (by (conv => lhs; whnf) <;> rfl) (by with_reducible rfl) ?_ | refine X.hpt rfl (by (conv => lhs; whnf) <;> rfl) (by with_reducible rfl) (by first | omega | decide) ?_ | refine X.hpf rfl (by (conv => lhs; whnf) <;> rfl) (by with_reducible rfl) (by first | omega | decide) ?_ | refine X.hqt rfl (by (conv => lhs; whnf) <;> rfl) (by with_reducible rfl) (by first | omega | decide) ?_ | refine X.hqf rfl (by (conv => lhs; whnf) <;> rfl) (by with_reducible rfl) (by first | omega | decide) ?_ | refine X.hp rfl (by (conv => lhs; whnf) <;> rfl) (by with_reducible rfl) (fun h => ?_) (fun h => ?_) | refine X.hq rfl (by (conv => lhs; whnf) <;> rfl) (by with_reducible rfl) (fun h => ?_) (fun h => ?_) | refine X.hb rfl (by (conv => lhs; whnf) <;> rfl) (by with_reducible rfl) (fun h => ?_) (fun h => ?_))
      | (show XO _ _ _ (Oper.mk none _ _ _ _ none :: _) _ _ _; refine X.st rfl ?_)
      | (show XO _ _ _ [] _ _ _; refine X.nil ?_)
      | (show AO _ _ _ (Oper.mk (some _) (Op.move _) _ _ _ none :: _) _ _ _; refine A.mv ?_)
      | (show AO _ _ _ (Oper.mk (some _) (Op.assign _) _ _ _ none :: _) _ _ _; refine A.as ?_)
      | (show AO _ _ _ (Oper.mk (some _) (Op.call (Call.mk (Callee.builtin Builtin.len) _ _)) _ _ _ none :: _) _ _ _; first | refine A.lnS rfl ?_ | refine A.lnO rfl ?_ | refine A.go rfl ?_)
      | (show AO _ _ _ (Oper.mk (some _) (Op.call _) _ _ _ none :: _) _ _ _; first | refine A.call (hl _) ?_ | refine A.call (hr _) ?_ | refine A.go rfl ?_)
      | (show AO _ _ _ (Oper.mk (some _) (Op.binOp BinOp.add _ _ _ _) _ _ _ none :: _) _ _ _; first | refine A.addI rfl rfl (by omega) ?_ | refine A.go rfl ?_)
      | (show AO _ _ _ (Oper.mk (some _) (Op.binOp BinOp.sub _ _ _ _) _ _ _ none :: _) _ _ _; first | refine A.subI rfl rfl (by omega) ?_ | refine A.go rfl ?_)
      | (show AO _ _ _ (Oper.mk (some _) (Op.binOp BinOp.mul _ _ _ _) _ _ _ none :: _) _ _ _; first | refine A.mulI rfl rfl (by omega) ?_ | refine A.go rfl ?_)
      | (show AO _ _ _ (Oper.mk (some _) (Op.binOp BinOp.quo _ _ _ _) _ _ _ none :: _) _ _ _; first | refine A.quoI rfl rfl (by omega) ?_ | refine A.go rfl ?_)
      | (show AO _ _ _ (Oper.mk (some _) (Op.binOp BinOp.rem _ _ _ _) _ _ _ none :: _) _ _ _; first | refine A.remI rfl rfl (by omega) ?_ | refine A.go rfl ?_)
      | (show AO _ _ _ (Oper.mk (some _) (Op.convert _ _ _) _ _ _ none :: _) _ _ _; first | refine A.cvI rfl rfl rfl (w64R (by omega)) ?_ | refine A.cvI rfl rfl rfl (wU8 (by omega)) ?_ | refine A.cvI rfl rfl rfl (wU16 (by omega)) ?_ | refine A.cvI rfl rfl rfl (wU32 (by omega)) ?_ | refine A.cvI rfl rfl rfl (wU64 (by omega)) ?_ | refine A.go rfl ?_)
      | (show AO _ _ _ (Oper.mk (some _) (Op.indexAddr _ _ _) _ _ _ none :: _) _ _ _; first | refine A.iaS rfl rfl (by omega) ?_ | refine A.iaO rfl rfl (by omega) rfl ?_ | refine A.go rfl ?_)
      | (show AO _ _ _ (Oper.mk (some _) (Op.load _ _) _ _ _ none :: _) _ _ _; first | refine A.go rfl ?_ | refine A.ldO rfl rfl (by omega) ?_ | refine A.ldA rfl rfl (by omega) rfl ?_)
      | (show AO _ _ _ (Oper.mk (some _) (_) _ _ _ none :: _) _ _ _; first | refine A.go rfl ?_ | refine A.shl rfl rfl (by first | omega | exact Int.natCast_nonneg _) ?_ | refine A.shr rfl rfl (by first | omega | exact Int.natCast_nonneg _) ?_)
      | (show AO _ _ _ (Oper.mk _ _ _ _ _ (some _) :: _) _ _ _; first | refine A.hy rfl (by (conv => lhs; whnf) <;> rfl) (by first | with_reducible rfl | with_reducible exact notT | with_reducible exact notF) ?_ | refine A.hnt rfl (by (conv => lhs; whnf) <;> rfl) (by first | with_reducible rfl | with_reducible exact notT | with_reducible exact notF) ?_ | refine A.hnf rfl (by (conv => lhs; whnf) <;> rfl) (by first | with_reducible rfl | with_reducible exact notT | with_reducible exact notF) ?_ | refine A.hu rfl (by (conv => lhs; whnf) <;> rfl) (by with_reducible rfl) ?_ | refine A.hpt rfl (by (conv => lhs; whnf) <;> rfl) (by with_reducible rfl) (by first | omega | decide) ?_ | refine A.hpf rfl (by (conv => lhs; whnf) <;> rfl) (by with_reducible rfl) (by first | omega | decide) ?_ | refine A.hqt rfl (by (conv => lhs; whnf) <;> rfl) (by with_reducible rfl) (by first | omega | decide) ?_ | refine A.hqf rfl (by (conv => lhs; whnf) <;> rfl) (by with_reducible rfl) (by first | omega | decide) ?_ | refine A.hp rfl (by (conv => lhs; whnf) <;> rfl) (by with_reducible rfl) (fun h => ?_) (fun h => ?_) | refine A.hq rfl (by (conv => lhs; whnf) <;> rfl) (by with_reducible rfl) (fun h => ?_) (fun h => ?_) | refine A.hb rfl (by (conv => lhs; whnf) <;> rfl) (by with_reducible rfl) (fun h => ?_) (fun h => ?_))
      | (show AO _ _ _ [] _ _ _; refine A.nil ?_)
      | (show CW _ _ _ _ (Code.seq (Code.region _ _ false) _) _ _ _; refine W.rq ?_)
      | (show CW _ _ _ _ (Code.region _ _ false) _ _ _; refine W.rz ?_)
      | (show CW _ _ _ _ (Code.seq (Code.region _ _ true) _) _ _ _; first | refine W.dq 0 ?_ | refine W.dq 1 ?_ | refine W.dq 2 ?_ | refine W.dq 3 ?_ | refine W.dq 4 ?_ | refine W.dq 5 ?_ | refine W.dq 6 ?_ | refine W.dq 7 ?_ | refine W.dq 8 ?_ | refine W.dq 9 ?_ | refine W.dq 10 ?_ | refine W.dq 11 ?_)
      | (show CW _ _ _ _ (Code.region _ _ true) _ _ _; first | refine W.dz 0 ?_ | refine W.dz 1 ?_ | refine W.dz 2 ?_ | refine W.dz 3 ?_ | refine W.dz 4 ?_ | refine W.dz 5 ?_ | refine W.dz 6 ?_ | refine W.dz 7 ?_ | refine W.dz 8 ?_ | refine W.dz 9 ?_ | refine W.dz 10 ?_ | refine W.dz 11 ?_)
      | (show CW _ _ _ _ (Code.cond _ _ _) _ _ _; first | refine W.jt (by (conv => lhs; whnf) <;> rfl) (by first | with_reducible rfl | with_reducible exact notT | with_reducible exact notF) ?_ | refine W.jf (by (conv => lhs; whnf) <;> rfl) (by first | with_reducible rfl | with_reducible exact notT | with_reducible exact notF) ?_ | refine W.jpt (by (conv => lhs; whnf) <;> rfl) (by with_reducible rfl) (by first | omega | decide) ?_ | refine W.jpf (by (conv => lhs; whnf) <;> rfl) (by with_reducible rfl) (by first | omega | decide) ?_ | refine W.jqt (by (conv => lhs; whnf) <;> rfl) (by with_reducible rfl) (by first | omega | decide) ?_ | refine W.jqf (by (conv => lhs; whnf) <;> rfl) (by with_reducible rfl) (by first | omega | decide) ?_ | refine W.jp (by (conv => lhs; whnf) <;> rfl) (by with_reducible rfl) (fun h => ?_) (fun h => ?_) | refine W.jq (by (conv => lhs; whnf) <;> rfl) (by with_reducible rfl) (fun h => ?_) (fun h => ?_) | refine W.jb (by (conv => lhs; whnf) <;> rfl) (by with_reducible rfl) (fun h => ?_) (fun h => ?_))
      | (show CW _ _ _ _ _ _ _ _; first | refine W.kr ?_ | refine W.kn ?_ | refine W.ke ?_ | refine W.bl ?_ | refine W.sq ?_)
      | (show KO _ _ _ _; first | refine K.sn ?_ | refine K.sr ?_ | refine K.se ?_ | refine K.bn ?_ | refine K.br ?_ | refine K.be ?_ | refine K.bx rfl ?_ | refine K.lr ?_ | refine K.le ?_ | refine K.ln _ ?_ ⟨i - 1, rfl, rfl, rfl, rfl, ?_, rfl⟩)
      | (show KO _ _ _ _; first | refine K.ya rfl ?_)
      | refine K.nx ?_
      | refine K.re ?_
      | refine K.dr ?_
    · omega
    · omega
theorem refLeaves (H : ZT Z) (x : Int) (L : List Go.Pv.Obj) : SE Tryd.prog Z 18 [.int .i64 x] L (.tup [.int .i64 (leavesV x).1, .int .i64 (leavesV x).2]) L := by
  by_cases h0 : x < 0 ∨ 2047 ≤ x
  · refine SE.data H.z Tryd.func18 rfl ?_
    repeat' first
      | (show XO _ _ _ (Oper.mk (some _) (Op.move _) _ _ _ none :: _) _ _ _; refine X.mv ?_)
      | (show XO _ _ _ (Oper.mk (some _) (Op.assign _) _ _ _ none :: _) _ _ _; refine X.as ?_)
      | (show XO _ _ _ (Oper.mk (some _) (Op.call (Call.mk (Callee.builtin Builtin.len) _ _)) _ _ _ none :: _) _ _ _; first | refine X.lnS rfl ?_ | refine X.lnO rfl ?_ | refine X.go rfl ?_)
      | (show XO _ _ _ (Oper.mk (some _) (Op.call _) _ _ _ none :: _) _ _ _; first | refine X.go rfl ?_)
      | (show XO _ _ _ (Oper.mk (some _) (Op.binOp BinOp.add _ _ _ _) _ _ _ none :: _) _ _ _; first | refine X.addI rfl rfl (by omega) ?_ | refine X.go rfl ?_)
      | (show XO _ _ _ (Oper.mk (some _) (Op.binOp BinOp.sub _ _ _ _) _ _ _ none :: _) _ _ _; first | refine X.subI rfl rfl (by omega) ?_ | refine X.go rfl ?_)
      | (show XO _ _ _ (Oper.mk (some _) (Op.binOp BinOp.mul _ _ _ _) _ _ _ none :: _) _ _ _; first | refine X.mulI rfl rfl (by omega) ?_ | refine X.go rfl ?_)
      | (show XO _ _ _ (Oper.mk (some _) (Op.binOp BinOp.quo _ _ _ _) _ _ _ none :: _) _ _ _; first | refine X.quoI rfl rfl (by omega) ?_ | refine X.go rfl ?_)
      | (show XO _ _ _ (Oper.mk (some _) (Op.binOp BinOp.rem _ _ _ _) _ _ _ none :: _) _ _ _; first | refine X.remI rfl rfl (by omega) ?_ | refine X.go rfl ?_)
      | (show XO _ _ _ (Oper.mk (some _) (Op.convert _ _ _) _ _ _ none :: _) _ _ _; first | refine X.cvI rfl rfl rfl (w64R (by omega)) ?_ | refine X.cvI rfl rfl rfl (wU8 (by omega)) ?_ | refine X.cvI rfl rfl rfl (wU16 (by omega)) ?_ | refine X.cvI rfl rfl rfl (wU32 (by omega)) ?_ | refine X.cvI rfl rfl rfl (wU64 (by omega)) ?_ | refine X.go rfl ?_)
      | (show XO _ _ _ (Oper.mk (some _) (Op.indexAddr _ _ _) _ _ _ none :: _) _ _ _; first | refine X.iaS rfl rfl (by omega) ?_ | refine X.iaO rfl rfl (by omega) rfl ?_ | refine X.go rfl ?_)
      | (show XO _ _ _ (Oper.mk (some _) (Op.load _ _) _ _ _ none :: _) _ _ _; first | refine X.go rfl ?_ | refine X.ldO rfl rfl (by omega) ?_ | refine X.ldA rfl rfl (by omega) rfl ?_)
      | (show XO _ _ _ (Oper.mk (some _) (_) _ _ _ none :: _) _ _ _; first | refine X.go rfl ?_ | refine X.shl rfl rfl (by first | omega | exact Int.natCast_nonneg _) ?_ | refine X.shr rfl rfl (by first | omega | exact Int.natCast_nonneg _) ?_)
      | (show XO _ _ _ (Oper.mk _ _ _ _ _ (some _) :: _) _ _ _; first | refine X.hy rfl (by (conv => lhs; whnf) <;> rfl) (by first | with_reducible rfl | with_reducible exact notT | with_reducible exact notF) ?_ | refine X.hnt rfl (by (conv => lhs; whnf) <;> rfl) (by first | with_reducible rfl | with_reducible exact notT | with_reducible exact notF) ?_ | refine X.hnf rfl (by (conv => lhs; whnf) <;> rfl) (by first | with_reducible rfl | with_reducible exact notT | with_reducible exact notF) ?_ | refine X.hu rfl (by (conv => lhs; whnf) <;> rfl) (by with_reducible rfl) ?_ | refine X.hpt rfl (by (conv => lhs; whnf) <;> rfl) (by with_reducible rfl) (by first | omega | decide) ?_ | refine X.hpf rfl (by (conv => lhs; whnf) <;> rfl) (by with_reducible rfl) (by first | omega | decide) ?_ | refine X.hqt rfl (by (conv => lhs; whnf) <;> rfl) (by with_reducible rfl) (by first | omega | decide) ?_ | refine X.hqf rfl (by (conv => lhs; whnf) <;> rfl) (by with_reducible rfl) (by first | omega | decide) ?_ | refine X.hp rfl (by (conv => lhs; whnf) <;> rfl) (by with_reducible rfl) (fun h => ?_) (fun h => ?_) | refine X.hq rfl (by (conv => lhs; whnf) <;> rfl) (by with_reducible rfl) (fun h => ?_) (fun h => ?_) | refine X.hb rfl (by (conv => lhs; whnf) <;> rfl) (by with_reducible rfl) (fun h => ?_) (fun h => ?_))
      | (show XO _ _ _ (Oper.mk none _ _ _ _ none :: _) _ _ _; refine X.st rfl ?_)
      | (show XO _ _ _ [] _ _ _; refine X.nil ?_)
      | (show AO _ _ _ (Oper.mk (some _) (Op.move _) _ _ _ none :: _) _ _ _; refine A.mv ?_)
      | (show AO _ _ _ (Oper.mk (some _) (Op.assign _) _ _ _ none :: _) _ _ _; refine A.as ?_)
      | (show AO _ _ _ (Oper.mk (some _) (Op.call (Call.mk (Callee.builtin Builtin.len) _ _)) _ _ _ none :: _) _ _ _; first | refine A.lnS rfl ?_ | refine A.lnO rfl ?_ | refine A.go rfl ?_)
      | (show AO _ _ _ (Oper.mk (some _) (Op.call _) _ _ _ none :: _) _ _ _; first | refine A.go rfl ?_)
      | (show AO _ _ _ (Oper.mk (some _) (Op.binOp BinOp.add _ _ _ _) _ _ _ none :: _) _ _ _; first | refine A.addI rfl rfl (by omega) ?_ | refine A.go rfl ?_)
      | (show AO _ _ _ (Oper.mk (some _) (Op.binOp BinOp.sub _ _ _ _) _ _ _ none :: _) _ _ _; first | refine A.subI rfl rfl (by omega) ?_ | refine A.go rfl ?_)
      | (show AO _ _ _ (Oper.mk (some _) (Op.binOp BinOp.mul _ _ _ _) _ _ _ none :: _) _ _ _; first | refine A.mulI rfl rfl (by omega) ?_ | refine A.go rfl ?_)
      | (show AO _ _ _ (Oper.mk (some _) (Op.binOp BinOp.quo _ _ _ _) _ _ _ none :: _) _ _ _; first | refine A.quoI rfl rfl (by omega) ?_ | refine A.go rfl ?_)
      | (show AO _ _ _ (Oper.mk (some _) (Op.binOp BinOp.rem _ _ _ _) _ _ _ none :: _) _ _ _; first | refine A.remI rfl rfl (by omega) ?_ | refine A.go rfl ?_)
      | (show AO _ _ _ (Oper.mk (some _) (Op.convert _ _ _) _ _ _ none :: _) _ _ _; first | refine A.cvI rfl rfl rfl (w64R (by omega)) ?_ | refine A.cvI rfl rfl rfl (wU8 (by omega)) ?_ | refine A.cvI rfl rfl rfl (wU16 (by omega)) ?_ | refine A.cvI rfl rfl rfl (wU32 (by omega)) ?_ | refine A.cvI rfl rfl rfl (wU64 (by omega)) ?_ | refine A.go rfl ?_)
      | (show AO _ _ _ (Oper.mk (some _) (Op.indexAddr _ _ _) _ _ _ none :: _) _ _ _; first | refine A.iaS rfl rfl (by omega) ?_ | refine A.iaO rfl rfl (by omega) rfl ?_ | refine A.go rfl ?_)
      | (show AO _ _ _ (Oper.mk (some _) (Op.load _ _) _ _ _ none :: _) _ _ _; first | refine A.go rfl ?_ | refine A.ldO rfl rfl (by omega) ?_ | refine A.ldA rfl rfl (by omega) rfl ?_)
      | (show AO _ _ _ (Oper.mk (some _) (_) _ _ _ none :: _) _ _ _; first | refine A.go rfl ?_ | refine A.shl rfl rfl (by first | omega | exact Int.natCast_nonneg _) ?_ | refine A.shr rfl rfl (by first | omega | exact Int.natCast_nonneg _) ?_)
      | (show AO _ _ _ (Oper.mk _ _ _ _ _ (some _) :: _) _ _ _; first | refine A.hy rfl (by (conv => lhs; whnf) <;> rfl) (by first | with_reducible rfl | with_reducible exact notT | with_reducible exact notF) ?_ | refine A.hnt rfl (by (conv => lhs; whnf) <;> rfl) (by first | with_reducible rfl | with_reducible exact notT | with_reducible exact notF) ?_ | refine A.hnf rfl (by (conv => lhs; whnf) <;> rfl) (by first | with_reducible rfl | with_reducible exact notT | with_reducible exact notF) ?_ | refine A.hu rfl (by (conv => lhs; whnf) <;> rfl) (by with_reducible rfl) ?_ | refine A.hpt rfl (by (conv => lhs; whnf) <;> rfl) (by with_reducible rfl) (by first | omega | decide) ?_ | refine A.hpf rfl (by (conv => lhs; whnf) <;> rfl) (by with_reducible rfl) (by first | omega | decide) ?_ | refine A.hqt rfl (by (conv => lhs; whnf) <;> rfl) (by with_reducible rfl) (by first | omega | decide) ?_ | refine A.hqf rfl (by (conv => lhs; whnf) <;> rfl) (by with_reducible rfl) (by first | omega | decide) ?_ | refine A.hp rfl (by (conv => lhs; whnf) <;> rfl) (by with_reducible rfl) (fun h => ?_) (fun h => ?_) | refine A.hq rfl (by (conv => lhs; whnf) <;> rfl) (by with_reducible rfl) (fun h => ?_) (fun h => ?_) | refine A.hb rfl (by (conv => lhs; whnf) <;> rfl) (by with_reducible rfl) (fun h => ?_) (fun h => ?_))
      | (show AO _ _ _ [] _ _ _; refine A.nil ?_)
      | (show CW _ _ _ _ (Code.seq (Code.region _ _ false) _) _ _ _; refine W.rq ?_)
      | (show CW _ _ _ _ (Code.region _ _ false) _ _ _; refine W.rz ?_)
      | (show CW _ _ _ _ (Code.seq (Code.region _ _ true) _) _ _ _; first | refine W.dq 0 ?_ | refine W.dq 1 ?_ | refine W.dq 2 ?_ | refine W.dq 3 ?_ | refine W.dq 4 ?_ | refine W.dq 5 ?_ | refine W.dq 6 ?_ | refine W.dq 7 ?_ | refine W.dq 8 ?_ | refine W.dq 9 ?_ | refine W.dq 10 ?_ | refine W.dq 11 ?_)
      | (show CW _ _ _ _ (Code.region _ _ true) _ _ _; first | refine W.dz 0 ?_ | refine W.dz 1 ?_ | refine W.dz 2 ?_ | refine W.dz 3 ?_ | refine W.dz 4 ?_ | refine W.dz 5 ?_ | refine W.dz 6 ?_ | refine W.dz 7 ?_ | refine W.dz 8 ?_ | refine W.dz 9 ?_ | refine W.dz 10 ?_ | refine W.dz 11 ?_)
      | (show CW _ _ _ _ (Code.cond _ _ _) _ _ _; first | refine W.jt (by (conv => lhs; whnf) <;> rfl) (by first | with_reducible rfl | with_reducible exact notT | with_reducible exact notF) ?_ | refine W.jf (by (conv => lhs; whnf) <;> rfl) (by first | with_reducible rfl | with_reducible exact notT | with_reducible exact notF) ?_ | refine W.jpt (by (conv => lhs; whnf) <;> rfl) (by with_reducible rfl) (by first | omega | decide) ?_ | refine W.jpf (by (conv => lhs; whnf) <;> rfl) (by with_reducible rfl) (by first | omega | decide) ?_ | refine W.jqt (by (conv => lhs; whnf) <;> rfl) (by with_reducible rfl) (by first | omega | decide) ?_ | refine W.jqf (by (conv => lhs; whnf) <;> rfl) (by with_reducible rfl) (by first | omega | decide) ?_ | refine W.jp (by (conv => lhs; whnf) <;> rfl) (by with_reducible rfl) (fun h => ?_) (fun h => ?_) | refine W.jq (by (conv => lhs; whnf) <;> rfl) (by with_reducible rfl) (fun h => ?_) (fun h => ?_) | refine W.jb (by (conv => lhs; whnf) <;> rfl) (by with_reducible rfl) (fun h => ?_) (fun h => ?_))
      | (show CW _ _ _ _ _ _ _ _; first | refine W.kr ?_ | refine W.kn ?_ | refine W.ke ?_ | refine W.bl ?_ | refine W.sq ?_)
      | (show KO _ _ _ _; first | refine K.sn ?_ | refine K.sr ?_ | refine K.se ?_ | refine K.bn ?_ | refine K.br ?_ | refine K.be ?_ | refine K.bx rfl ?_ | refine K.lr ?_ | refine K.le ?_)
      | (show KO _ _ _ _; first | refine K.ya rfl ?_)
      | refine K.nx ?_
      | refine K.re ?_
      | refine K.dr ?_
    all_goals refine end_data rfl rfl (vII ?_ ?_)
    all_goals unfold leavesV; rw [if_pos h0]
  · obtain ⟨y, rfl⟩ := Int.eq_ofNat_of_zero_le (show 0 ≤ x by omega)
    exact refLeaves0 H y (by omega) L
end Go.Proofs.Mth
