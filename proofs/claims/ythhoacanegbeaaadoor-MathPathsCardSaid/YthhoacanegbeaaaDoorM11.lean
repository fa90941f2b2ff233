import Derived.Test.YthhoacanegbeaaaDoorMR4
set_option linter.unusedVariables false
set_option linter.unusedSimpArgs false
set_option maxHeartbeats 4000000
namespace Go.Proofs.Mth
open Go Go.Pv Go.Proofs Go.Shelf
variable {Z : Nat → Go.Obj → Prop}
theorem err_width (n : Int) : 0 ≤ (widthV n).2 ∧ (widthV n).2 ≤ 11 := by unfold widthV; split <;> simp
theorem err_child (x s : Int) : 0 ≤ (childV x s).2 ∧ (childV x s).2 ≤ 11 := by unfold childV; split <;> simp
theorem err_par (x n : Int) : 0 ≤ (parV x n).2 ∧ (parV x n).2 ≤ 11 := by unfold parV; split <;> (try split) <;> simp
theorem err_sib (x n : Int) : 0 ≤ (sibV x n).2 ∧ (sibV x n).2 ≤ 11 := by
  have := err_par x n
  unfold sibV; split <;> simp <;> omega
theorem err_way (g : Nat × Nat → Int) (x n : Int) : 0 ≤ (wayV g x n).2 ∧ (wayV g x n).2 ≤ 11 := by unfold wayV; split <;> simp
theorem err_com (a b n : Int) : 0 ≤ (comV a b n).2 ∧ (comV a b n).2 ≤ 11 := by unfold comV; split <;> simp
theorem intsF (H : ZT Z) (l : List Int) (hl : l.length < 1000000) (L : List Go.Pv.Obj) : SE Tryd.prog Z 19 [slV l, slF l] L (.bool true) L := by
  have := ints0 H l l l.isEmpty l.isEmpty false false hl L
  rw [decide_eq_true rfl] at this
  exact this
theorem tells_walk (H : ZT Z) (x n : Int) (hx : -9223372036854775808 ≤ x ∧ x ≤ 9223372036854775807) (hn : -9223372036854775808 ≤ n ∧ n ≤ 9223372036854775807) : SE Tryd.prog Z 8 [.int .i64 x, .int .i64 n] [] (.bool true) [] := by
  have h1 := err_width n
  have h2 := err_child x (-1)
  have h3 := err_child x 1
  have h4 := err_par x n
  have h5 := err_sib x n
  have c1 := width H n
  have d1 := refWidth H n
  have c2 := left H x
  have d2 := refLeft H x
  have c3 := right H x
  have d3 := refRight H x
  have c4 := parent H x n
  have d4 := refParent H x n
  have c5 := sibling H x n
  have d5 := refSibling H x n
  have c6 := level H x
  have d6 := refLevel H x
  generalize widthV n = w1 at *
  generalize childV x (-1) = w2 at *
  generalize childV x 1 = w3 at *
  generalize parV x n = w4 at *
  generalize sibV x n = w5 at *
  refine SE.data H.z Tryd.func8 rfl ?_
  repeat' first
    | (show XO _ _ _ (Oper.mk (some _) (Op.move _) _ _ _ none :: _) _ _ _; refine X.mv ?_)
    | (show XO _ _ _ (Oper.mk (some _) (Op.assign _) _ _ _ none :: _) _ _ _; refine X.as ?_)
    | (show XO _ _ _ (Oper.mk (some _) (Op.call (Call.mk (Callee.builtin Builtin.len) _ _)) _ _ _ none :: _) _ _ _; first | refine X.lnS rfl ?_ | refine X.lnO rfl ?_ | refine X.go rfl ?_)
    | (show XO _ _ _ (Oper.mk (some _) (Op.call _) _ _ _ none :: _) _ _ _; first | refine X.call (shown H _) ?_ | refine X.call (c1 _) ?_ | refine X.call (d1 _) ?_ | refine X.call (c2 _) ?_ | refine X.call (d2 _) ?_ | refine X.call (c3 _) ?_ | refine X.call (d3 _) ?_ | refine X.call (c4 _) ?_ | refine X.call (d4 _) ?_ | refine X.call (c5 _) ?_ | refine X.call (d5 _) ?_ | refine X.call (c6 _) ?_ | refine X.call (d6 _) ?_ | refine X.go rfl ?_)
    | (show XO _ _ _ (Oper.mk (some _) (Op.binOp BinOp.add _ _ _ _) _ _ _ none :: _) _ _ _; first | refine X.addI rfl rfl (by omega) ?_ | refine X.go rfl ?_)
    | (show XO _ _ _ (Oper.mk (some _) (Op.binOp BinOp.sub _ _ _ _) _ _ _ none :: _) _ _ _; first | refine X.subI rfl rfl (by omega) ?_ | refine X.go rfl ?_)
    | (show XO _ _ _ (Oper.mk (some _) (Op.binOp BinOp.mul _ _ _ _) _ _ _ none :: _) _ _ _; first | refine X.mulI rfl rfl (by omega) ?_ | refine X.go rfl ?_)
    | (show XO _ _ _ (Oper.mk (some _) (Op.binOp BinOp.quo _ _ _ _) _ _ _ none :: _) _ _ _; first | refine X.quoI rfl rfl (by omega) ?_ | refine X.go rfl ?_)
    | (show XO _ _ _ (Oper.mk (some _) (Op.binOp BinOp.rem _ _ _ _) _ _ _ none :: _) _ _ _; first | refine X.remI rfl rfl (by omega) ?_ | refine X.go rfl ?_)
    | (show XO _ _ _ (Oper.mk (some _) (Op.convert _ _ _) _ _ _ none :: _) _ _ _; first | refine X.cvI rfl rfl rfl (w64R (by omega)) ?_ | refine X.cvI rfl rfl rfl (wU8 (by omega)) ?_ | refine X.cvI rfl rfl rfl (wU16 (by omega)) ?_ | refine X.cvI rfl rfl rfl (wU32 (by omega)) ?_ | refine X.cvI rfl rfl rfl (wU64 (by omega)) ?_ | refine X.go rfl ?_)
    | (show XO _ _ _ (Oper.mk (some _) (Op.indexAddr _ _ _) _ _ _ none :: _) _ _ _; first | refine X.iaS rfl rfl (by omega) ?_ | refine X.iaO rfl rfl (by omega) rfl ?_ | refine X.go rfl ?_)
    | (show XO _ _ _ (Oper.mk (some _) (Op.load _ _) _ _ _ none :: _) _ _ _; first | refine X.go rfl ?_ | refine X.ldO rfl rfl (by omega) ?_ | refine X.ldA rfl rfl (by omega) rfl ?_)
    | (show XO _ _ _ (Oper.mk (some _) (_) _ _ _ none :: _) _ _ _; first | refine X.go rfl ?_ | refine X.shl rfl rfl (by first | omega | exact Int.natCast_nonneg _) ?_ | refine X.shr rfl rfl (by first | omega | exact Int.natCast_nonneg _) ?_)
    | (show XO _ _ _ (Oper.mk _ _ _ _ _ (some _) :: _) _ _ _; first | refine X.hy rfl (by (conv => lhs; whnf) <;> rfl) (by first | with_reducible rfl | with_reducible exact notT | with_reducible exact notF) ?_ | refine X.hnt rfl (by (conv => lhs; whnf) <;> rfl) (by first | with_reducible rfl | with_reducible exact notT | with_reducible exact notF) ?_ | refine X.hnf rfl (by (conv => lhs; whnf) <;> rfl) (by first | with_reducible rfl | with_reducible exact notT | with_reducible exact notF) ?_ | refine X.hu rfl (by (conv => lhs; whnf) <;> rfl) (by with_reducible rfl) ?_ | refine X.hpt rfl (by (conv => lhs; whnf) <;> rfl) (by with_reducible rfl) (by first | omega | decide) ?_ | refine X.hpf rfl (by (conv => lhs; whnf) <;> rfl) (by with_reducible rfl) (by first | omega | decide) ?_ | refine X.hqt rfl (by (conv => lhs; whnf) <;> rfl) (by with_reducible rfl) (by first | omega | decide) ?_ | refine X.hqf rfl (by (conv => lhs; whnf) <;> rfl) (by with_reducible rfl) (by first | omega | decide) ?_ | refine X.hp rfl (by (conv => lhs; whnf) <;> rfl) (by with_reducible rfl) (fun h => ?_) (fun h => ?_) | refine X.hq rfl (by (conv => lhs; whnf) <;> rfl) (by with_reducible rfl) (fun h => ?_) (fun h => ?_) | refine X.hb rfl (by (conv => lhs; whnf) <;> rfl) (by with_reducible rfl) (fun h => ?_) (fun h => ?_))
    | (show XO _ _ _ (Oper.mk none _ _ _ _ none :: _) _ _ _; refine X.st rfl ?_)
    | (show XO _ _ _ [] _ _ _; refine X.nil ?_)
    | (show AO _ _ _ (Oper.mk (some _) (Op.move _) _ _ _ none :: _) _ _ _; refine A.mv ?_)
    | (show AO _ _ _ (Oper.mk (some _) (Op.assign _) _ _ _ none :: _) _ _ _; refine A.as ?_)
    | (show AO _ _ _ (Oper.mk (some _) (Op.call (Call.mk (Callee.builtin Builtin.len) _ _)) _ _ _ none :: _) _ _ _; first | refine A.lnS rfl ?_ | refine A.lnO rfl ?_ | refine A.go rfl ?_)
    | (show AO _ _ _ (Oper.mk (some _) (Op.call _) _ _ _ none :: _) _ _ _; first | refine A.call (shown H _) ?_ | refine A.call (c1 _) ?_ | refine A.call (d1 _) ?_ | refine A.call (c2 _) ?_ | refine A.call (d2 _) ?_ | refine A.call (c3 _) ?_ | refine A.call (d3 _) ?_ | refine A.call (c4 _) ?_ | refine A.call (d4 _) ?_ | refine A.call (c5 _) ?_ | refine A.call (d5 _) ?_ | refine A.call (c6 _) ?_ | refine A.call (d6 _) ?_ | refine A.go rfl ?_)
    | (show AO _ _ _ (Oper.mk (some _) (Op.binOp BinOp.add _ _ _ _) _ _ _ none :: _) _ _ _; first | refine A.addI rfl rfl (by omega) ?_ | refine A.go rfl ?_)
    | (show AO _ _ _ (Oper.mk (some _) (Op.binOp BinOp.sub _ _ _ _) _ _ _ none :: _) _ _ _; first | refine A.subI rfl rfl (by omega) ?_ | refine A.go rfl ?_)
    | (show AO _ _ _ (Oper.mk (some _) (Op.binOp BinOp.mul _ _ _ _) _ _ _ none :: _) _ _ _; first | refine A.mulI rfl rfl (by omega) ?_ | refine A.go rfl ?_)
    | (show AO _ _ _ (Oper.mk (some _) (Op.binOp BinOp.quo _ _ _ _) _ _ _ none :: _) _ _ _; first | refine A.quoI rfl rfl (by omega) ?_ | refine A.go rfl ?_)
    | (show AO _ _ _ (Oper.mk (some _) (Op.binOp BinOp.rem _ _ _ _) _ _ _ none :: _) _ _ _; first | refine A.remI rfl rfl (by omega) ?_ | refine A.go rfl ?_)
    | (show AO _ _ _ (Oper.mk (some _) (Op.convert _ _ _) _ _ _ none :: _) _ _ _; first | refine A.cvI rfl rfl rfl (w64R (by omega)) ?_ | refine A.cvI rfl rfl rfl (wU8 (by omega)) ?_ | refine A.cvI rfl rfl rfl (wU16 (by omega)) ?_ | refine A.cvI rfl rfl rfl (wU32 (by omega)) ?_ | refine A.cvI rfl rfl rfl (wU64 (by omega)) ?_ | refine A.go rfl ?_)
    | (show AO _ _ _ (Oper.mk (some _) (Op.indexAddr _ _ _) _ _ _ none :: _) _ _ _; first | refine A.iaS rfl rfl (by omega) ?_ | refine A.iaO rfl rfl (by omega) rfl ?_ | refine A.go rfl ?_)
    | (show AO _ _ _ (Oper.mk (some _) (Op.load _ _) _ _ _ none :: _) _ _ _; first | refine A.go rfl ?_ | refine A.ldO rfl rfl (by omega) ?_ | refine A.ldA rfl rfl (by omega) rfl ?_)
    | (show AO _ _ _ (Oper.mk (some _) (_) _ _ _ none :: _) _ _ _; first | refine A.go rfl ?_ | refine A.shl rfl rfl (by first | omega | exact Int.natCast_nonneg _) ?_ | refine A.shr rfl rfl (by first | omega | exact Int.natCast_nonneg _) ?_)
    | (show AO _ _ _ (Oper.mk _ _ _ _ _ (some _) :: _) _ _ _; first | refine A.hy rfl (by (conv => lhs; whnf) <;> rfl) (by first | with_reducible rfl | with_reducible exact notT | with_reducible exact notF) ?_ | refine A.hnt rfl (by (conv => lhs; whnf) <;> rfl) (by first | with_reducible rfl | with_reducible exact notT | with_reducible exact notF) ?_ | refine A.hnf rfl (by (conv => lhs; whnf) <;> rfl) (by first | with_reducible rfl | with_reducible exact notT | with_reducible exact notF) ?_ | refine A.hu rfl (by (conv => lhs; whnf) <;> rfl) (by with_reducible rfl) ?_ | refine A.hpt rfl (by (conv => lhs; whnf) <;> rfl) (by with_reducible rfl) (by first | omega | decide) ?_ | refine A.hpf rfl (by (conv => lhs; whnf) <;> rfl) (by with_reducible rfl) (by first | omega | decide) ?_ | refine A.hqt rfl (by (conv => lhs; whnf) <;> rfl) (by with_reducible rfl) (by first | omega | decide) ?_ | refine A.hqf rfl (by (conv => lhs; whnf) <;> rfl) (by with_reducible rfl) (by first | omega | decide) ?_ | refine A.hp rfl (by (conv => lhs; whnf) <;> rfl) (by with_reducible rfl) (fun h => ?_) (fun h => ?_) | refine A.hq rfl (by (conv => lhs; whnf) <;> rfl) (by with_reducible rfl) (fun h => ?_) (fun h => ?_) | refine A.hb rfl (by (conv => lhs; whnf) <;> rfl) (by with_reducible rfl) (fun h => ?_) (fun h => ?_))
    | (show AO _ _ _ [] _ _ _; refine A.nil ?_)
    | (show CW _ _ _ _ (Code.seq (Code.region _ _ false) _) _ _ _; refine W.rq ?_)
    | (show CW _ _ _ _ (Code.region _ _ false) _ _ _; refine W.rz ?_)
    | (show CW _ _ _ _ (Code.seq (Code.region _ _ true) _) _ _ _; first | refine W.dq 0 ?_ | refine W.dq 1 ?_ | refine W.dq 2 ?_ | refine W.dq 3 ?_ | refine W.dq 4 ?_ | refine W.dq 5 ?_ | refine W.dq 6 ?_ | refine W.dq 7 ?_ | refine W.dq 8 ?_ | refine W.dq 9 ?_ | refine W.dq 10 ?_ | refine W.dq 11 ?_)
    | (show CW _ _ _ _ (Code.region _ _ true) _ _ _; first | refine W.dz 0 ?_ | refine W.dz 1 ?_ | refine W.dz 2 ?_ | refine W.dz 3 ?_ | refine W.dz 4 ?_ | refine W.dz 5 ?_ | refine W.dz 6 ?_ | refine W.dz 7 ?_ | refine W.dz 8 ?_ | refine W.dz 9 ?_ | refine W.dz 10 ?_ | refine W.dz 11 ?_)
    | (show CW _ _ _ _ (Code.cond _ _ _) _ _ _; first | refine W.jt (by (conv => lhs; whnf) <;> rfl) (by first | with_reducible rfl | with_reducible exact notT | with_reducible exact notF) ?_ | refine W.jf (by (conv => lhs; whnf) <;> rfl) (by first | with_reducible rfl | with_reducible exact notT | with_reducible exact notF) ?_ | refine W.jpt (by (conv => lhs; whnf) <;> rfl) (by with_reducible rfl) (by first | omega | decide) ?_ | refine W.jpf (by (conv => lhs; whnf) <;> rfl) (by with_reducible rfl) (by first | omega | decide) ?_ | refine W.jqt (by (conv => lhs; whnf) <;> rfl) (by with_reducible rfl) (by first | omega | decide) ?_ | refine W.jqf (by (conv => lhs; whnf) <;> rfl) (by with_reducible rfl) (by first | omega | decide) ?_ | refine W.jp (by (conv => lhs; whnf) <;> rfl) (by with_reducible rfl) (fun h => ?_) (fun h => ?_) | refine W.jq (by (conv => lhs; whnf) <;> rfl) (by with_reducible rfl) (fun h => ?_) (fun h => ?_) | refine W.jb (by (conv => lhs; whnf) <;> rfl) (by with_reducible rfl) (fun h => ?_) (fun h => ?_))
    | (show CW _ _ _ _ _ _ _ _; first | refine W.kr ?_ | refine W.kn ?_ | refine W.ke ?_ | refine W.bl ?_ | refine W.sq ?_)
    | (show KO _ _ _ _; first | refine K.sn ?_ | refine K.sr ?_ | refine K.se ?_ | refine K.bn ?_ | refine K.br ?_ | refine K.be ?_ | refine K.bx rfl ?_ | refine K.lr ?_ | refine K.le ?_)
    | (show KO _ _ _ _; first | refine K.ya rfl ?_)
    | refine K.nx ?_
    | refine K.re ?_
    | refine K.dr ?_
  all_goals refine end_data rfl rfl (vB ?_)
  all_goals exact decide_eq_true rfl
theorem paths_walk (H : ZT Z) (x y n : Int) (hx : -9223372036854775808 ≤ x ∧ x ≤ 9223372036854775807) (hy : -9223372036854775808 ≤ y ∧ y ≤ 9223372036854775807) (hn : -9223372036854775808 ≤ n ∧ n ≤ 9223372036854775807) : SE Tryd.prog Z 3 [.int .i64 x, .int .i64 y, .int .i64 n] [] (.bool true) [] := by
  have h1 := err_way gP x n
  have h2 := err_way gC x n
  have h3 := err_com x y n
  have l1 := way_len gP x n
  have l2 := way_len gC x n
  have c1 := path H x n
  have d1 := refPath H x n
  have c2 := copath H x n
  have d2 := refCopath H x n
  have c3 := common H x y n
  have d3 := refCommon H x y n
  have c4 := leaves H x
  have d4 := refLeaves H x
  generalize wayV gP x n = w1 at *
  generalize wayV gC x n = w2 at *
  generalize comV x y n = w3 at *
  generalize leavesV x = w4 at *
  have e1 := intsF H w1.1 (by omega)
  have e2 := intsF H w2.1 (by omega)
  refine SE.data H.z Tryd.func3 rfl ?_
  repeat' first
    | (show XO _ _ _ (Oper.mk (some _) (Op.move _) _ _ _ none :: _) _ _ _; refine X.mv ?_)
    | (show XO _ _ _ (Oper.mk (some _) (Op.assign _) _ _ _ none :: _) _ _ _; refine X.as ?_)
    | (show XO _ _ _ (Oper.mk (some _) (Op.call (Call.mk (Callee.builtin Builtin.len) _ _)) _ _ _ none :: _) _ _ _; first | refine X.lnS rfl ?_ | refine X.lnO rfl ?_ | refine X.go rfl ?_)
    | (show XO _ _ _ (Oper.mk (some _) (Op.call _) _ _ _ none :: _) _ _ _; first | refine X.call (shown H _) ?_ | refine X.call (c1 _) ?_ | refine X.call (d1 _) ?_ | refine X.call (c2 _) ?_ | refine X.call (d2 _) ?_ | refine X.call (c3 _) ?_ | refine X.call (d3 _) ?_ | refine X.call (c4 _) ?_ | refine X.call (d4 _) ?_ | refine X.call (e1 _) ?_ | refine X.call (e2 _) ?_ | refine X.go rfl ?_)
    | (show XO _ _ _ (Oper.mk (some _) (Op.binOp BinOp.add _ _ _ _) _ _ _ none :: _) _ _ _; first | refine X.addI rfl rfl (by omega) ?_ | refine X.go rfl ?_)
    | (show XO _ _ _ (Oper.mk (some _) (Op.binOp BinOp.sub _ _ _ _) _ _ _ none :: _) _ _ _; first | refine X.subI rfl rfl (by omega) ?_ | refine X.go rfl ?_)
    | (show XO _ _ _ (Oper.mk (some _) (Op.binOp BinOp.mul _ _ _ _) _ _ _ none :: _) _ _ _; first | refine X.mulI rfl rfl (by omega) ?_ | refine X.go rfl ?_)
    | (show XO _ _ _ (Oper.mk (some _) (Op.binOp BinOp.quo _ _ _ _) _ _ _ none :: _) _ _ _; first | refine X.quoI rfl rfl (by omega) ?_ | refine X.go rfl ?_)
    | (show XO _ _ _ (Oper.mk (some _) (Op.binOp BinOp.rem _ _ _ _) _ _ _ none :: _) _ _ _; first | refine X.remI rfl rfl (by omega) ?_ | refine X.go rfl ?_)
    | (show XO _ _ _ (Oper.mk (some _) (Op.convert _ _ _) _ _ _ none :: _) _ _ _; first | refine X.cvI rfl rfl rfl (w64R (by omega)) ?_ | refine X.cvI rfl rfl rfl (wU8 (by omega)) ?_ | refine X.cvI rfl rfl rfl (wU16 (by omega)) ?_ | refine X.cvI rfl rfl rfl (wU32 (by omega)) ?_ | refine X.cvI rfl rfl rfl (wU64 (by omega)) ?_ | refine X.go rfl ?_)
    | (show XO _ _ _ (Oper.mk (some _) (Op.indexAddr _ _ _) _ _ _ none :: _) _ _ _; first | refine X.iaS rfl rfl (by omega) ?_ | refine X.iaO rfl rfl (by omega) rfl ?_ | refine X.go rfl ?_)
    | (show XO _ _ _ (Oper.mk (some _) (Op.load _ _) _ _ _ none :: _) _ _ _; first | refine X.go rfl ?_ | refine X.ldO rfl rfl (by omega) ?_ | refine X.ldA rfl rfl (by omega) rfl ?_)
    | (show XO _ _ _ (Oper.mk (some _) (_) _ _ _ none :: _) _ _ _; first | refine X.go rfl ?_ | refine X.shl rfl rfl (by first | omega | exact Int.natCast_nonneg _) ?_ | refine X.shr rfl rfl (by first | omega | exact Int.natCast_nonneg _) ?_)
    | (show XO _ _ _ (Oper.mk _ _ _ _ _ (some _) :: _) _ _ _; first | refine X.hy rfl (by (conv => lhs; whnf) <;> rfl) (by first | with_reducible rfl | with_reducible exact notT | with_reducible exact notF) ?_ | refine X.hnt rfl (by (conv => lhs; whnf) <;> rfl) (by first | with_reducible rfl | with_reducible exact notT | with_reducible exact notF) ?_ | refine X.hnf rfl (by (conv => lhs; whnf) <;> rfl) (by first | with_reducible rfl | with_reducible exact notT | with_reducible exact notF) ?_ | refine X.hu rfl (by (conv => lhs; whnf) <;> rfl) (by with_reducible rfl) ?_ | refine X.hpt rfl (by (conv => lhs; whnf) <;> rfl) (by with_reducible rfl) (by first | omega | decide) ?_ | refine X.hpf rfl (by (conv => lhs; whnf) <;> rfl) (by with_reducible rfl) (by first | omega | decide) ?_ | refine X.hqt rfl (by (conv => lhs; whnf) <;> rfl) (by with_reducible rfl) (by first | omega | decide) ?_ | refine X.hqf rfl (by (conv => lhs; whnf) <;> rfl) (by with_reducible rfl) (by first | omega | decide) ?_ | refine X.hp rfl (by (conv => lhs; whnf) <;> rfl) (by with_reducible rfl) (fun h => ?_) (fun h => ?_) | refine X.hq rfl (by (conv => lhs; whnf) <;> rfl) (by with_reducible rfl) (fun h => ?_) (fun h => ?_) | refine X.hb rfl (by (conv => lhs; whnf) <;> rfl) (by with_reducible rfl) (fun h => ?_) (fun h => ?_))
    | (show XO _ _ _ (Oper.mk none _ _ _ _ none :: _) _ _ _; refine X.st rfl ?_)
    | (show XO _ _ _ [] _ _ _; refine X.nil ?_)
    | (show AO _ _ _ (Oper.mk (some _) (Op.move _) _ _ _ none :: _) _ _ _; refine A.mv ?_)
    | (show AO _ _ _ (Oper.mk (some _) (Op.assign _) _ _ _ none :: _) _ _ _; refine A.as ?_)
    | (show AO _ _ _ (Oper.mk (some _) (Op.call (Call.mk (Callee.builtin Builtin.len) _ _)) _ _ _ none :: _) _ _ _; first | refine A.lnS rfl ?_ | refine A.lnO rfl ?_ | refine A.go rfl ?_)
    | (show AO _ _ _ (Oper.mk (some _) (Op.call _) _ _ _ none :: _) _ _ _; first | refine A.call (shown H _) ?_ | refine A.call (c1 _) ?_ | refine A.call (d1 _) ?_ | refine A.call (c2 _) ?_ | refine A.call (d2 _) ?_ | refine A.call (c3 _) ?_ | refine A.call (d3 _) ?_ | refine A.call (c4 _) ?_ | refine A.call (d4 _) ?_ | refine A.call (e1 _) ?_ | refine A.call (e2 _) ?_ | refine A.go rfl ?_)
    | (show AO _ _ _ (Oper.mk (some _) (Op.binOp BinOp.add _ _ _ _) _ _ _ none :: _) _ _ _; first | refine A.addI rfl rfl (by omega) ?_ | refine A.go rfl ?_)
    | (show AO _ _ _ (Oper.mk (some _) (Op.binOp BinOp.sub _ _ _ _) _ _ _ none :: _) _ _ _; first | refine A.subI rfl rfl (by omega) ?_ | refine A.go rfl ?_)
    | (show AO _ _ _ (Oper.mk (some _) (Op.binOp BinOp.mul _ _ _ _) _ _ _ none :: _) _ _ _; first | refine A.mulI rfl rfl (by omega) ?_ | refine A.go rfl ?_)
    | (show AO _ _ _ (Oper.mk (some _) (Op.binOp BinOp.quo _ _ _ _) _ _ _ none :: _) _ _ _; first | refine A.quoI rfl rfl (by omega) ?_ | refine A.go rfl ?_)
    | (show AO _ _ _ (Oper.mk (some _) (Op.binOp BinOp.rem _ _ _ _) _ _ _ none :: _) _ _ _; first | refine A.remI rfl rfl (by omega) ?_ | refine A.go rfl ?_)
    | (show AO _ _ _ (Oper.mk (some _) (Op.convert _ _ _) _ _ _ none :: _) _ _ _; first | refine A.cvI rfl rfl rfl (w64R (by omega)) ?_ | refine A.cvI rfl rfl rfl (wU8 (by omega)) ?_ | refine A.cvI rfl rfl rfl (wU16 (by omega)) ?_ | refine A.cvI rfl rfl rfl (wU32 (by omega)) ?_ | refine A.cvI rfl rfl rfl (wU64 (by omega)) ?_ | refine A.go rfl ?_)
    | (show AO _ _ _ (Oper.mk (some _) (Op.indexAddr _ _ _) _ _ _ none :: _) _ _ _; first | refine A.iaS rfl rfl (by omega) ?_ | refine A.iaO rfl rfl (by omega) rfl ?_ | refine A.go rfl ?_)
    | (show AO _ _ _ (Oper.mk (some _) (Op.load _ _) _ _ _ none :: _) _ _ _; first | refine A.go rfl ?_ | refine A.ldO rfl rfl (by omega) ?_ | refine A.ldA rfl rfl (by omega) rfl ?_)
    | (show AO _ _ _ (Oper.mk (some _) (_) _ _ _ none :: _) _ _ _; first | refine A.go rfl ?_ | refine A.shl rfl rfl (by first | omega | exact Int.natCast_nonneg _) ?_ | refine A.shr rfl rfl (by first | omega | exact Int.natCast_nonneg _) ?_)
    | (show AO _ _ _ (Oper.mk _ _ _ _ _ (some _) :: _) _ _ _; first | refine A.hy rfl (by (conv => lhs; whnf) <;> rfl) (by first | with_reducible rfl | with_reducible exact notT | with_reducible exact notF) ?_ | refine A.hnt rfl (by (conv => lhs; whnf) <;> rfl) (by first | with_reducible rfl | with_reducible exact notT | with_reducible exact notF) ?_ | refine A.hnf rfl (by (conv => lhs; whnf) <;> rfl) (by first | with_reducible rfl | with_reducible exact notT | with_reducible exact notF) ?_ | refine A.hu rfl (by (conv => lhs; whnf) <;> rfl) (by with_reducible rfl) ?_ | refine A.hpt rfl (by (conv => lhs; whnf) <;> rfl) (by with_reducible rfl) (by first | omega | decide) ?_ | refine A.hpf rfl (by (conv => lhs; whnf) <;> rfl) (by with_reducible rfl) (by first | omega | decide) ?_ | refine A.hqt rfl (by (conv => lhs; whnf) <;> rfl) (by with_reducible rfl) (by first | omega | decide) ?_ | refine A.hqf rfl (by (conv => lhs; whnf) <;> rfl) (by with_reducible rfl) (by first | omega | decide) ?_ | refine A.hp rfl (by (conv => lhs; whnf) <;> rfl) (by with_reducible rfl) (fun h => ?_) (fun h => ?_) | refine A.hq rfl (by (conv => lhs; whnf) <;> rfl) (by with_reducible rfl) (fun h => ?_) (fun h => ?_) | refine A.hb rfl (by (conv => lhs; whnf) <;> rfl) (by with_reducible rfl) (fun h => ?_) (fun h => ?_))
    | (show AO _ _ _ [] _ _ _; refine A.nil ?_)
    | (show CW _ _ _ _ (Code.seq (Code.region _ _ false) _) _ _ _; refine W.rq ?_)
    | (show CW _ _ _ _ (Code.region _ _ false) _ _ _; refine W.rz ?_)
    | (show CW _ _ _ _ (Code.seq (Code.region _ _ true) _) _ _ _; first | refine W.dq 0 ?_ | refine W.dq 1 ?_ | refine W.dq 2 ?_ | refine W.dq 3 ?_ | refine W.dq 4 ?_ | refine W.dq 5 ?_ | refine W.dq 6 ?_ | refine W.dq 7 ?_ | refine W.dq 8 ?_ | refine W.dq 9 ?_ | refine W.dq 10 ?_ | refine W.dq 11 ?_)
    | (show CW _ _ _ _ (Code.region _ _ true) _ _ _; first | refine W.dz 0 ?_ | refine W.dz 1 ?_ | refine W.dz 2 ?_ | refine W.dz 3 ?_ | refine W.dz 4 ?_ | refine W.dz 5 ?_ | refine W.dz 6 ?_ | refine W.dz 7 ?_ | refine W.dz 8 ?_ | refine W.dz 9 ?_ | refine W.dz 10 ?_ | refine W.dz 11 ?_)
    | (show CW _ _ _ _ (Code.cond _ _ _) _ _ _; first | refine W.jt (by (conv => lhs; whnf) <;> rfl) (by first | with_reducible rfl | with_reducible exact notT | with_reducible exact notF) ?_ | refine W.jf (by (conv => lhs; whnf) <;> rfl) (by first | with_reducible rfl | with_reducible exact notT | with_reducible exact notF) ?_ | refine W.jpt (by (conv => lhs; whnf) <;> rfl) (by with_reducible rfl) (by first | omega | decide) ?_ | refine W.jpf (by (conv => lhs; whnf) <;> rfl) (by with_reducible rfl) (by first | omega | decide) ?_ | refine W.jqt (by (conv => lhs; whnf) <;> rfl) (by with_reducible rfl) (by first | omega | decide) ?_ | refine W.jqf (by (conv => lhs; whnf) <;> rfl) (by with_reducible rfl) (by first | omega | decide) ?_ | refine W.jp (by (conv => lhs; whnf) <;> rfl) (by with_reducible rfl) (fun h => ?_) (fun h => ?_) | refine W.jq (by (conv => lhs; whnf) <;> rfl) (by with_reducible rfl) (fun h => ?_) (fun h => ?_) | refine W.jb (by (conv => lhs; whnf) <;> rfl) (by with_reducible rfl) (fun h => ?_) (fun h => ?_))
    | (show CW _ _ _ _ _ _ _ _; first | refine W.kr ?_ | refine W.kn ?_ | refine W.ke ?_ | refine W.bl ?_ | refine W.sq ?_)
    | (show KO _ _ _ _; first | refine K.sn ?_ | refine K.sr ?_ | refine K.se ?_ | refine K.bn ?_ | refine K.br ?_ | refine K.be ?_ | refine K.bx rfl ?_ | refine K.lr ?_ | refine K.le ?_)
    | (show KO _ _ _ _; first | refine K.ya rfl ?_)
    | refine K.nx ?_
    | refine K.re ?_
    | refine K.dr ?_
  all_goals refine end_data rfl rfl (vB ?_)
  all_goals exact decide_eq_true rfl
end Go.Proofs.Mth
