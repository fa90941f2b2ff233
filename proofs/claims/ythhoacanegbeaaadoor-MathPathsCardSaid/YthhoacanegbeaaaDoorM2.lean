import Derived.Test.YthhoacanegbeaaaDoorM1
set_option linter.unusedVariables false
set_option linter.unusedSimpArgs false
namespace Go.Proofs.Mth
open Go Go.Pv Go.Proofs Go.Shelf
variable {Z : Nat → Go.Obj → Prop}
theorem above (H : ZT Z) (x n : Int) (L : List Go.Pv.Obj) : SE Tryd.prog Z 34 [.int .i64 x, .int .i64 n] L (.fn 44 [.ref L.length 0, .ref (L ++ [Go.Pv.Obj.box [.int .i64 x]]).length 0]) ((L ++ [Go.Pv.Obj.box [.int .i64 x]]) ++ [Go.Pv.Obj.box [.int .i64 n]]) := by
  refine SE.full H.z Tryd.func34 rfl ?_
  repeat' first
    | (show XO _ _ _ (Oper.mk (some _) (Op.call _) _ _ _ none :: _) _ _ _; first | fail)
    | (show XO _ _ _ (Oper.mk (some _) _ _ _ _ none :: _) _ _ _; first | refine X.go rfl ?_ | refine X.shl rfl rfl (by first | omega | exact Int.natCast_nonneg _) ?_ | refine X.shr rfl rfl (by first | omega | exact Int.natCast_nonneg _) ?_)
    | (show XO _ _ _ (Oper.mk _ _ _ _ _ (some _) :: _) _ _ _; first | refine X.gy rfl rfl ?_ | refine X.gn rfl rfl rfl ?_ | refine X.gs rfl rfl (fun h => ?_) (fun h => ?_))
    | (show XO _ _ _ (Oper.mk none _ _ _ _ none :: _) _ _ _; refine X.st rfl ?_)
    | (show XO _ _ _ [] _ _ _; refine X.nil ?_)
    | (show AO _ _ _ (Oper.mk (some _) (Op.call _) _ _ _ none :: _) _ _ _; first | fail)
    | (show AO _ _ _ (Oper.mk (some _) _ _ _ _ none :: _) _ _ _; first | refine A.go rfl ?_ | refine A.shl rfl rfl (by first | omega | exact Int.natCast_nonneg _) ?_ | refine A.shr rfl rfl (by first | omega | exact Int.natCast_nonneg _) ?_)
    | (show AO _ _ _ (Oper.mk _ _ _ _ _ (some _) :: _) _ _ _; first | refine A.gy rfl rfl ?_ | refine A.gn rfl rfl rfl ?_ | refine A.gs rfl rfl (fun h => ?_) (fun h => ?_))
    | (show AO _ _ _ [] _ _ _; refine A.nil ?_)
    | (show CW _ _ _ _ (Code.seq (Code.region _ _ false) _) _ _ _; refine W.rq ?_)
    | (show CW _ _ _ _ (Code.region _ _ false) _ _ _; refine W.rz ?_)
    | (show CW _ _ _ _ (Code.seq (Code.region _ _ true) _) _ _ _; first | refine W.dq 0 ?_ | refine W.dq 1 ?_ | refine W.dq 2 ?_ | refine W.dq 3 ?_ | refine W.dq 4 ?_ | refine W.dq 5 ?_ | refine W.dq 6 ?_ | refine W.dq 7 ?_ | refine W.dq 8 ?_ | refine W.dq 9 ?_ | refine W.dq 10 ?_ | refine W.dq 11 ?_ | refine W.dq 12 ?_ | refine W.dq 13 ?_ | refine W.dq 14 ?_ | refine W.dq 15 ?_)
    | (show CW _ _ _ _ (Code.region _ _ true) _ _ _; first | refine W.dz 0 ?_ | refine W.dz 1 ?_ | refine W.dz 2 ?_ | refine W.dz 3 ?_ | refine W.dz 4 ?_ | refine W.dz 5 ?_ | refine W.dz 6 ?_ | refine W.dz 7 ?_ | refine W.dz 8 ?_ | refine W.dz 9 ?_ | refine W.dz 10 ?_ | refine W.dz 11 ?_ | refine W.dz 12 ?_ | refine W.dz 13 ?_ | refine W.dz 14 ?_ | refine W.dz 15 ?_)
    | (show CW _ _ _ _ _ _ _ _; first | refine W.kr ?_ | refine W.kn ?_ | refine W.ke ?_ | refine W.ct rfl ?_ | refine W.cf rfl ?_ | refine W.cd rfl (fun h => ?_) (fun h => ?_) | refine W.bl ?_ | refine W.sq ?_)
    | (show KO _ _ _ _; first | refine K.sn ?_ | refine K.sr ?_ | refine K.se ?_ | refine K.bn ?_ | refine K.br ?_ | refine K.be ?_ | refine K.bx rfl ?_ | refine K.lr ?_ | refine K.le ?_)
    | refine K.nx ?_
    | refine K.re ?_
    | refine K.dr ?_
  refine K.fin rfl ⟨rfl, rfl⟩
abbrev bx (n : Int) : Go.Pv.Obj := .box [.int .i64 n]
theorem above1 (H : ZT Z) (j : Nat) (hj : j < 11) (LP : Go.Pv.Obj) (I : Nat → V → List Go.Pv.Obj → Prop) (x0 : Nat) (o0 : V) (R0 : List Go.Pv.Obj) (hx0 : x0 < 2 * 2 ^ j - 1) (h0 : I x0 o0 R0)
    (hy : ∀ x o R, x < 2 * 2 ^ j - 1 → x + 1 ≠ 2 ^ j → I x o R → ∃ o' R', CallV Tryd.prog Z (.yl 3) [.int .i64 x, .int .i64 (upN x)] (.box [o] :: bx x :: bx ((2 ^ j : Nat) : Int) :: LP :: R)
      (fun v M => v = .bool true ∧ M = .box [o'] :: bx x :: bx ((2 ^ j : Nat) : Int) :: LP :: R') ∧ I (upN x) o' R') :
    SC Tryd.prog Z 44 [.yl 3, .ref 1 0, .ref 2 0] (.box [o0] :: bx x0 :: bx ((2 ^ j : Nat) : Int) :: LP :: R0)
      (fun _ M => ∃ o R, M = .box [o] :: bx ((2 ^ j - 1 : Nat) : Int) :: bx ((2 ^ j : Nat) : Int) :: LP :: R ∧ I (2 ^ j - 1) o R) := by
  have hp := two_pow_bound hj
  refine SC.walk H.z Tryd.func44 rfl ?_
  refine W.bl ?_
  refine W.lp (fun k st => st.env 0 = .yl 3 ∧ st.env 1 = .ref 1 0 ∧ st.env 2 = .ref 2 0 ∧ ∃ (x : Nat) (o : V) (R : List Go.Pv.Obj), x < 2 * 2 ^ j - 1 ∧ k = 11 - lev x ∧ I x o R ∧ st.L = .box [o] :: bx x :: bx ((2 ^ j : Nat) : Int) :: LP :: R) (11 - lev x0) ⟨rfl, rfl, rfl, x0, o0, R0, hx0, rfl, h0, rfl⟩ ?_
  rintro k env L ⟨e0, e1, e2, x, o, R, hx, rfl, hI, rfl⟩
  refine W.ev 2 e2 ?_
  refine W.ev 1 e1 ?_
  refine W.ev 0 e0 ?_
  repeat' first
    | (show XO _ _ _ (Oper.mk (some _) (Op.call _) _ _ _ none :: _) _ _ _; first | refine X.call (up H x (by omega) _) ?_)
    | (show XO _ _ _ (Oper.mk (some _) _ _ _ _ none :: _) _ _ _; first | refine X.go rfl ?_ | refine X.shl rfl rfl (by first | omega | exact Int.natCast_nonneg _) ?_ | refine X.shr rfl rfl (by first | omega | exact Int.natCast_nonneg _) ?_)
    | (show XO _ _ _ (Oper.mk _ _ _ _ _ (some _) :: _) _ _ _; first | refine X.gy rfl rfl ?_ | refine X.gn rfl rfl rfl ?_ | refine X.gs rfl rfl (fun h => ?_) (fun h => ?_))
    | (show XO _ _ _ (Oper.mk none _ _ _ _ none :: _) _ _ _; refine X.st rfl ?_)
    | (show XO _ _ _ [] _ _ _; refine X.nil ?_)
    | (show AO _ _ _ (Oper.mk (some _) (Op.call _) _ _ _ none :: _) _ _ _; first | refine A.call (up H x (by omega) _) ?_)
    | (show AO _ _ _ (Oper.mk (some _) _ _ _ _ none :: _) _ _ _; first | refine A.go rfl ?_ | refine A.shl rfl rfl (by first | omega | exact Int.natCast_nonneg _) ?_ | refine A.shr rfl rfl (by first | omega | exact Int.natCast_nonneg _) ?_)
    | (show AO _ _ _ (Oper.mk _ _ _ _ _ (some _) :: _) _ _ _; first | refine A.gy rfl rfl ?_ | refine A.gn rfl rfl rfl ?_ | refine A.gs rfl rfl (fun h => ?_) (fun h => ?_))
    | (show AO _ _ _ [] _ _ _; refine A.nil ?_)
    | (show CW _ _ _ _ (Code.seq (Code.region _ _ false) _) _ _ _; refine W.rq ?_)
    | (show CW _ _ _ _ (Code.region _ _ false) _ _ _; refine W.rz ?_)
    | (show CW _ _ _ _ (Code.seq (Code.region _ _ true) _) _ _ _; first | refine W.dq 0 ?_ | refine W.dq 1 ?_ | refine W.dq 2 ?_ | refine W.dq 3 ?_ | refine W.dq 4 ?_ | refine W.dq 5 ?_ | refine W.dq 6 ?_ | refine W.dq 7 ?_ | refine W.dq 8 ?_ | refine W.dq 9 ?_ | refine W.dq 10 ?_ | refine W.dq 11 ?_ | refine W.dq 12 ?_ | refine W.dq 13 ?_ | refine W.dq 14 ?_ | refine W.dq 15 ?_)
    | (show CW _ _ _ _ (Code.region _ _ true) _ _ _; first | refine W.dz 0 ?_ | refine W.dz 1 ?_ | refine W.dz 2 ?_ | refine W.dz 3 ?_ | refine W.dz 4 ?_ | refine W.dz 5 ?_ | refine W.dz 6 ?_ | refine W.dz 7 ?_ | refine W.dz 8 ?_ | refine W.dz 9 ?_ | refine W.dz 10 ?_ | refine W.dz 11 ?_ | refine W.dz 12 ?_ | refine W.dz 13 ?_ | refine W.dz 14 ?_ | refine W.dz 15 ?_)
    | (show CW _ _ _ _ _ _ _ _; first | refine W.kr ?_ | refine W.kn ?_ | refine W.ke ?_ | refine W.ct rfl ?_ | refine W.cf rfl ?_ | refine W.cd rfl (fun h => ?_) (fun h => ?_) | refine W.bl ?_ | refine W.sq ?_)
    | (show KO _ _ _ _; first | refine K.sn ?_ | refine K.sr ?_ | refine K.se ?_ | refine K.bn ?_ | refine K.br ?_ | refine K.be ?_ | refine K.bx rfl ?_ | refine K.lr ?_ | refine K.le ?_)
    | refine K.nx ?_
    | refine K.re ?_
    | refine K.dr ?_
  · have h := of_decide_eq_false (Bool.not_eq_true' _ ▸ h : decide ((x : Int) = IntKind.i64.wrap (((2 ^ j : Nat) : Int) - 1)) = false)
    have e : IntKind.i64.wrap (((2 ^ j : Nat) : Int) - 1) = ((2 ^ j : Nat) : Int) - 1 := by rw [IntKind.wrap_i64]; omega
    rw [e] at h
    have hr : x + 1 ≠ 2 ^ j := by omega
    obtain ⟨o', R', hc, hI'⟩ := hy x o R hx hr hI
    have hu := up_node j hj x hx hr
    refine X.callv rfl rfl (CallV.mono hc ?_)
    rintro _ _ ⟨rfl, rfl⟩
    repeat' first
      | (show XO _ _ _ (Oper.mk (some _) (Op.call _) _ _ _ none :: _) _ _ _; first | fail)
      | (show XO _ _ _ (Oper.mk (some _) _ _ _ _ none :: _) _ _ _; first | refine X.go rfl ?_ | refine X.shl rfl rfl (by first | omega | exact Int.natCast_nonneg _) ?_ | refine X.shr rfl rfl (by first | omega | exact Int.natCast_nonneg _) ?_)
      | (show XO _ _ _ (Oper.mk _ _ _ _ _ (some _) :: _) _ _ _; first | refine X.gy rfl rfl ?_ | refine X.gn rfl rfl rfl ?_ | refine X.gs rfl rfl (fun h => ?_) (fun h => ?_))
      | (show XO _ _ _ (Oper.mk none _ _ _ _ none :: _) _ _ _; refine X.st rfl ?_)
      | (show XO _ _ _ [] _ _ _; refine X.nil ?_)
      | (show AO _ _ _ (Oper.mk (some _) (Op.call _) _ _ _ none :: _) _ _ _; first | fail)
      | (show AO _ _ _ (Oper.mk (some _) _ _ _ _ none :: _) _ _ _; first | refine A.go rfl ?_ | refine A.shl rfl rfl (by first | omega | exact Int.natCast_nonneg _) ?_ | refine A.shr rfl rfl (by first | omega | exact Int.natCast_nonneg _) ?_)
      | (show AO _ _ _ (Oper.mk _ _ _ _ _ (some _) :: _) _ _ _; first | refine A.gy rfl rfl ?_ | refine A.gn rfl rfl rfl ?_ | refine A.gs rfl rfl (fun h => ?_) (fun h => ?_))
      | (show AO _ _ _ [] _ _ _; refine A.nil ?_)
      | (show CW _ _ _ _ (Code.seq (Code.region _ _ false) _) _ _ _; refine W.rq ?_)
      | (show CW _ _ _ _ (Code.region _ _ false) _ _ _; refine W.rz ?_)
      | (show CW _ _ _ _ (Code.seq (Code.region _ _ true) _) _ _ _; first | refine W.dq 0 ?_ | refine W.dq 1 ?_ | refine W.dq 2 ?_ | refine W.dq 3 ?_ | refine W.dq 4 ?_ | refine W.dq 5 ?_ | refine W.dq 6 ?_ | refine W.dq 7 ?_ | refine W.dq 8 ?_ | refine W.dq 9 ?_ | refine W.dq 10 ?_ | refine W.dq 11 ?_ | refine W.dq 12 ?_ | refine W.dq 13 ?_ | refine W.dq 14 ?_ | refine W.dq 15 ?_)
      | (show CW _ _ _ _ (Code.region _ _ true) _ _ _; first | refine W.dz 0 ?_ | refine W.dz 1 ?_ | refine W.dz 2 ?_ | refine W.dz 3 ?_ | refine W.dz 4 ?_ | refine W.dz 5 ?_ | refine W.dz 6 ?_ | refine W.dz 7 ?_ | refine W.dz 8 ?_ | refine W.dz 9 ?_ | refine W.dz 10 ?_ | refine W.dz 11 ?_ | refine W.dz 12 ?_ | refine W.dz 13 ?_ | refine W.dz 14 ?_ | refine W.dz 15 ?_)
      | (show CW _ _ _ _ _ _ _ _; first | refine W.kr ?_ | refine W.kn ?_ | refine W.ke ?_ | refine W.ct rfl ?_ | refine W.cf rfl ?_ | refine W.cd rfl (fun h => ?_) (fun h => ?_) | refine W.bl ?_ | refine W.sq ?_)
      | (show KO _ _ _ _; first | refine K.sn ?_ | refine K.sr ?_ | refine K.se ?_ | refine K.bn ?_ | refine K.br ?_ | refine K.be ?_ | refine K.bx rfl ?_ | refine K.lr ?_ | refine K.le ?_)
      | refine K.nx ?_
      | refine K.re ?_
      | refine K.dr ?_
    refine K.ln (11 - lev (upN x)) ?_ ⟨rfl, rfl, rfl, upN x, o', R', hu.1, rfl, hI', rfl⟩
    have := lev_le (upN x) (by omega)
    omega
  · have h := of_decide_eq_true (Bool.not_eq_false' _ ▸ h : decide ((x : Int) = IntKind.i64.wrap (((2 ^ j : Nat) : Int) - 1)) = true)
    have e : IntKind.i64.wrap (((2 ^ j : Nat) : Int) - 1) = ((2 ^ j : Nat) : Int) - 1 := by rw [IntKind.wrap_i64]; omega
    rw [e] at h
    obtain rfl : x = 2 ^ j - 1 := by omega
    refine K.finN rfl ⟨o, R, rfl, hI⟩
end Go.Proofs.Mth
