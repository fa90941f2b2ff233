import Derived.Test.YthhoacanegbeaaaDoorMB
set_option linter.unusedVariables false
set_option linter.unusedSimpArgs false
set_option maxHeartbeats 4000000
namespace Go.Proofs.Mth
open Go Go.Pv Go.Proofs Go.Shelf
variable {Z : Nat → Go.Obj → Prop}
theorem rem_pow {x j : Nat} (hx : x < 65536) : (IntKind.i64.wrap (x : Int)).tmod ((2 ^ j : Nat) : Int) = ((x % 2 ^ j : Nat) : Int) := by
  rw [w64N (by omega)]; rfl

theorem meets_walk (H : ZT Z) (x z k : Nat) (hx : x < 65536) (hz : z < 65536) (hk : k < 256) : SE Tryd.prog Z 7 [.int .u16 x, .int .u16 z, .int .u8 k] [] (.bool true) [] := by
  refine SE.data H.z Tryd.func7 rfl ?_
  repeat' first
    | (show XO _ _ _ (Oper.mk (some _) (Op.call _) _ _ _ none :: _) _ _ _; first | refine X.call (shown H _) ?_)
    | (show XO _ _ _ (Oper.mk (some _) _ _ _ _ none :: _) _ _ _; first | refine X.go rfl ?_ | refine X.shl rfl rfl (by first | omega | exact Int.natCast_nonneg _) ?_ | refine X.shr rfl rfl (by first | omega | exact Int.natCast_nonneg _) ?_)
    | (show XO _ _ _ (Oper.mk _ _ _ _ _ (some _) :: _) _ _ _; first | refine X.gy rfl rfl ?_ | refine X.gn rfl rfl rfl ?_ | refine X.gu rfl rfl ?_ | refine X.gs rfl rfl (fun h => ?_) (fun h => ?_))
    | (show XO _ _ _ (Oper.mk none _ _ _ _ none :: _) _ _ _; refine X.st rfl ?_)
    | (show XO _ _ _ [] _ _ _; refine X.nil ?_)
    | (show AO _ _ _ (Oper.mk (some _) (Op.call _) _ _ _ none :: _) _ _ _; first | refine A.call (shown H _) ?_)
    | (show AO _ _ _ (Oper.mk (some _) _ _ _ _ none :: _) _ _ _; first | refine A.go rfl ?_ | refine A.shl rfl rfl (by first | omega | exact Int.natCast_nonneg _) ?_ | refine A.shr rfl rfl (by first | omega | exact Int.natCast_nonneg _) ?_)
    | (show AO _ _ _ (Oper.mk _ _ _ _ _ (some _) :: _) _ _ _; first | refine A.gy rfl rfl ?_ | refine A.gn rfl rfl rfl ?_ | refine A.gu rfl rfl ?_ | refine A.gs rfl rfl (fun h => ?_) (fun h => ?_))
    | (show AO _ _ _ [] _ _ _; refine A.nil ?_)
    | (show CW _ _ _ _ (Code.seq (Code.region _ _ false) _) _ _ _; refine W.rq ?_)
    | (show CW _ _ _ _ (Code.region _ _ false) _ _ _; refine W.rz ?_)
    | (show CW _ _ _ _ (Code.seq (Code.region _ _ true) _) _ _ _; first | refine W.dq 0 ?_ | refine W.dq 1 ?_ | refine W.dq 2 ?_ | refine W.dq 3 ?_ | refine W.dq 4 ?_ | refine W.dq 5 ?_ | refine W.dq 6 ?_ | refine W.dq 7 ?_ | refine W.dq 8 ?_ | refine W.dq 9 ?_ | refine W.dq 10 ?_ | refine W.dq 11 ?_ | refine W.dq 12 ?_ | refine W.dq 13 ?_ | refine W.dq 14 ?_ | refine W.dq 15 ?_)
    | (show CW _ _ _ _ (Code.region _ _ true) _ _ _; first | refine W.dz 0 ?_ | refine W.dz 1 ?_ | refine W.dz 2 ?_ | refine W.dz 3 ?_ | refine W.dz 4 ?_ | refine W.dz 5 ?_ | refine W.dz 6 ?_ | refine W.dz 7 ?_ | refine W.dz 8 ?_ | refine W.dz 9 ?_ | refine W.dz 10 ?_ | refine W.dz 11 ?_ | refine W.dz 12 ?_ | refine W.dz 13 ?_ | refine W.dz 14 ?_ | refine W.dz 15 ?_)
    | (show CW _ _ _ _ _ _ _ _; first | refine W.kr ?_ | refine W.kn ?_ | refine W.ke ?_ | refine W.ct rfl ?_ | refine W.cf rfl ?_ | refine W.cd rfl (fun h => ?_) (fun h => ?_) | refine W.bl ?_ | refine W.sq ?_)
    | (show KO _ _ _ _; first | refine K.sn ?_ | refine K.sr ?_ | refine K.se ?_ | refine K.bn ?_ | refine K.br ?_ | refine K.be ?_ | refine K.bx rfl ?_ | refine K.lr ?_ | refine K.le ?_)
    | (show KO _ _ _ _; first | refine K.ya rfl ?_)
    | refine K.nx ?_
    | refine K.re ?_
    | refine K.dr ?_
  have hj : k % 11 < 11 := by omega
  refine W.lp (fun m st => st.env 0 = .int .u16 x ∧ st.env 1 = .int .u16 z ∧ st.env 2 = .int .u8 k ∧ st.env 7 = .bool true ∧ st.L = [] ∧ ∃ i : Nat, st.env 9 = .int .i64 i ∧ st.env 8 = .int .i64 ((2 ^ i : Nat) : Int) ∧ i ≤ k % 11 ∧ m = k % 11 - i)
    (k % 11) ⟨rfl, rfl, rfl, rfl, rfl, 0, rfl, rfl, Nat.zero_le _, rfl⟩ ?_
  rintro m env L ⟨e0, e1, e2, eu, rfl, i, ei, en, hi, rfl⟩
  refine W.ev 8 en ?_
  refine W.ev 9 ei ?_
  refine W.ev 7 eu ?_
  refine W.ev 2 e2 ?_
  refine W.ev 1 e1 ?_
  refine W.ev 0 e0 ?_
  repeat' first
    | (show XO _ _ _ (Oper.mk (some _) (Op.call _) _ _ _ none :: _) _ _ _; first | fail)
    | (show XO _ _ _ (Oper.mk (some _) _ _ _ _ none :: _) _ _ _; first | refine X.go rfl ?_ | refine X.shl rfl rfl (by first | omega | exact Int.natCast_nonneg _) ?_ | refine X.shr rfl rfl (by first | omega | exact Int.natCast_nonneg _) ?_)
    | (show XO _ _ _ (Oper.mk _ _ _ _ _ (some _) :: _) _ _ _; first | refine X.gy rfl rfl ?_ | refine X.gn rfl rfl rfl ?_ | refine X.gu rfl rfl ?_ | refine X.gs rfl rfl (fun h => ?_) (fun h => ?_))
    | (show XO _ _ _ (Oper.mk none _ _ _ _ none :: _) _ _ _; refine X.st rfl ?_)
    | (show XO _ _ _ [] _ _ _; refine X.nil ?_)
    | (show AO _ _ _ (Oper.mk (some _) (Op.call _) _ _ _ none :: _) _ _ _; first | fail)
    | (show AO _ _ _ (Oper.mk (some _) _ _ _ _ none :: _) _ _ _; first | refine A.go rfl ?_ | refine A.shl rfl rfl (by first | omega | exact Int.natCast_nonneg _) ?_ | refine A.shr rfl rfl (by first | omega | exact Int.natCast_nonneg _) ?_)
    | (show AO _ _ _ (Oper.mk _ _ _ _ _ (some _) :: _) _ _ _; first | refine A.gy rfl rfl ?_ | refine A.gn rfl rfl rfl ?_ | refine A.gu rfl rfl ?_ | refine A.gs rfl rfl (fun h => ?_) (fun h => ?_))
    | (show AO _ _ _ [] _ _ _; refine A.nil ?_)
    | (show CW _ _ _ _ (Code.seq (Code.region _ _ false) _) _ _ _; refine W.rq ?_)
    | (show CW _ _ _ _ (Code.region _ _ false) _ _ _; refine W.rz ?_)
    | (show CW _ _ _ _ (Code.seq (Code.region _ _ true) _) _ _ _; first | refine W.dq 0 ?_ | refine W.dq 1 ?_ | refine W.dq 2 ?_ | refine W.dq 3 ?_ | refine W.dq 4 ?_ | refine W.dq 5 ?_ | refine W.dq 6 ?_ | refine W.dq 7 ?_ | refine W.dq 8 ?_ | refine W.dq 9 ?_ | refine W.dq 10 ?_ | refine W.dq 11 ?_ | refine W.dq 12 ?_ | refine W.dq 13 ?_ | refine W.dq 14 ?_ | refine W.dq 15 ?_)
    | (show CW _ _ _ _ (Code.region _ _ true) _ _ _; first | refine W.dz 0 ?_ | refine W.dz 1 ?_ | refine W.dz 2 ?_ | refine W.dz 3 ?_ | refine W.dz 4 ?_ | refine W.dz 5 ?_ | refine W.dz 6 ?_ | refine W.dz 7 ?_ | refine W.dz 8 ?_ | refine W.dz 9 ?_ | refine W.dz 10 ?_ | refine W.dz 11 ?_ | refine W.dz 12 ?_ | refine W.dz 13 ?_ | refine W.dz 14 ?_ | refine W.dz 15 ?_)
    | (show CW _ _ _ _ _ _ _ _; first | refine W.kr ?_ | refine W.kn ?_ | refine W.ke ?_ | refine W.ct rfl ?_ | refine W.cf rfl ?_ | refine W.cd rfl (fun h => ?_) (fun h => ?_) | refine W.bl ?_ | refine W.sq ?_)
    | (show KO _ _ _ _; first | refine K.sn ?_ | refine K.sr ?_ | refine K.se ?_ | refine K.bn ?_ | refine K.br ?_ | refine K.be ?_ | refine K.bx rfl ?_ | refine K.lr ?_ | refine K.le ?_)
    | (show KO _ _ _ _; first | refine K.ya rfl ?_)
    | refine K.nx ?_
    | refine K.re ?_
    | refine K.dr ?_
  · rw [rem11 hk] at h
    have h := of_decide_eq_true h
    refine K.ln (k % 11 - (i + 1)) (by omega) ⟨rfl, rfl, rfl, rfl, rfl, i + 1, ?_, ?_, by omega, rfl⟩
    · exact vI (one_step (by omega))
    · exact vI (two_step hj (by omega))
  rw [rem11 hk] at h
  have h := of_decide_eq_false h
  obtain rfl : i = k % 11 := by omega
  generalize hjj : k % 11 = j at *
  have hb := two_pow_bound hj
  refine X.rem (c := ((x % 2 ^ j : Nat) : Int)) rfl rfl (by omega) (rem_pow hx) ?_
  repeat' first
    | (show XO _ _ _ (Oper.mk (some _) (Op.call _) _ _ _ none :: _) _ _ _; first | fail)
    | (show XO _ _ _ (Oper.mk (some _) _ _ _ _ none :: _) _ _ _; first | refine X.go rfl ?_ | refine X.shl rfl rfl (by first | omega | exact Int.natCast_nonneg _) ?_ | refine X.shr rfl rfl (by first | omega | exact Int.natCast_nonneg _) ?_)
    | (show XO _ _ _ (Oper.mk _ _ _ _ _ (some _) :: _) _ _ _; first | refine X.gy rfl rfl ?_ | refine X.gn rfl rfl rfl ?_ | refine X.gu rfl rfl ?_ | refine X.gs rfl rfl (fun h => ?_) (fun h => ?_))
    | (show XO _ _ _ (Oper.mk none _ _ _ _ none :: _) _ _ _; refine X.st rfl ?_)
    | (show XO _ _ _ [] _ _ _; refine X.nil ?_)
    | (show AO _ _ _ (Oper.mk (some _) (Op.call _) _ _ _ none :: _) _ _ _; first | fail)
    | (show AO _ _ _ (Oper.mk (some _) _ _ _ _ none :: _) _ _ _; first | refine A.go rfl ?_ | refine A.shl rfl rfl (by first | omega | exact Int.natCast_nonneg _) ?_ | refine A.shr rfl rfl (by first | omega | exact Int.natCast_nonneg _) ?_)
    | (show AO _ _ _ (Oper.mk _ _ _ _ _ (some _) :: _) _ _ _; first | refine A.gy rfl rfl ?_ | refine A.gn rfl rfl rfl ?_ | refine A.gu rfl rfl ?_ | refine A.gs rfl rfl (fun h => ?_) (fun h => ?_))
    | (show AO _ _ _ [] _ _ _; refine A.nil ?_)
    | (show CW _ _ _ _ (Code.seq (Code.region _ _ false) _) _ _ _; refine W.rq ?_)
    | (show CW _ _ _ _ (Code.region _ _ false) _ _ _; refine W.rz ?_)
    | (show CW _ _ _ _ (Code.seq (Code.region _ _ true) _) _ _ _; first | refine W.dq 0 ?_ | refine W.dq 1 ?_ | refine W.dq 2 ?_ | refine W.dq 3 ?_ | refine W.dq 4 ?_ | refine W.dq 5 ?_ | refine W.dq 6 ?_ | refine W.dq 7 ?_ | refine W.dq 8 ?_ | refine W.dq 9 ?_ | refine W.dq 10 ?_ | refine W.dq 11 ?_ | refine W.dq 12 ?_ | refine W.dq 13 ?_ | refine W.dq 14 ?_ | refine W.dq 15 ?_)
    | (show CW _ _ _ _ (Code.region _ _ true) _ _ _; first | refine W.dz 0 ?_ | refine W.dz 1 ?_ | refine W.dz 2 ?_ | refine W.dz 3 ?_ | refine W.dz 4 ?_ | refine W.dz 5 ?_ | refine W.dz 6 ?_ | refine W.dz 7 ?_ | refine W.dz 8 ?_ | refine W.dz 9 ?_ | refine W.dz 10 ?_ | refine W.dz 11 ?_ | refine W.dz 12 ?_ | refine W.dz 13 ?_ | refine W.dz 14 ?_ | refine W.dz 15 ?_)
    | (show CW _ _ _ _ _ _ _ _; first | refine W.kr ?_ | refine W.kn ?_ | refine W.ke ?_ | refine W.ct rfl ?_ | refine W.cf rfl ?_ | refine W.cd rfl (fun h => ?_) (fun h => ?_) | refine W.bl ?_ | refine W.sq ?_)
    | (show KO _ _ _ _; first | refine K.sn ?_ | refine K.sr ?_ | refine K.se ?_ | refine K.bn ?_ | refine K.br ?_ | refine K.be ?_ | refine K.bx rfl ?_ | refine K.lr ?_ | refine K.le ?_)
    | (show KO _ _ _ _; first | refine K.ya rfl ?_)
    | refine K.nx ?_
    | refine K.re ?_
    | refine K.dr ?_
  refine X.rem (c := ((z % 2 ^ j : Nat) : Int)) rfl rfl (by omega) (rem_pow hz) ?_
  have ha : x % 2 ^ j < 2 ^ j := Nat.mod_lt _ (by omega)
  have hc : z % 2 ^ j < 2 ^ j := Nat.mod_lt _ (by omega)
  generalize x % 2 ^ j = a at *
  generalize z % 2 ^ j = b at *
  obtain ⟨q, hq, hab, hmin, hm1, hm2⟩ := meets hj ha hc
  have c1 := common H (a : Int) (b : Int) ((2 ^ j : Nat) : Int) ([] : List Go.Pv.Obj)
  have c2 := common H (b : Int) (a : Int) ((2 ^ j : Nat) : Int) ([] : List Go.Pv.Obj)
  rw [hm1] at c1
  rw [hm2] at c2
  have hanc := anc_lt hj ha q hq
  have hlv := leaves H (anc a q : Nat) ([] : List Go.Pv.Obj)
  rw [anc_leaves a (by omega) q (by omega)] at hlv
  dsimp only at c1 c2 hlv
  have hin1 := (div_between (a := a) (b := a) (pow_pos2 q)).2 rfl
  have hin2 := (div_between (a := a) (b := b) (pow_pos2 q)).2 hab
  have f1 : decide ((anc a q : Nat) > IntKind.i64.wrap (IntKind.i64.wrap (2 * ((2 ^ j : Nat) : Int)) - 2)) = false := decide_eq_false (by
    rw [show IntKind.i64.wrap (2 * ((2 ^ j : Nat) : Int)) = 2 * ((2 ^ j : Nat) : Int) by rw [IntKind.wrap_i64]; omega]
    rw [show IntKind.i64.wrap (2 * ((2 ^ j : Nat) : Int) - 2) = 2 * ((2 ^ j : Nat) : Int) - 2 by rw [IntKind.wrap_i64]; omega]
    omega)
  have f2 : decide (((anc a q : Nat) : Int) < 0) = false := decide_eq_false (by omega)
  generalize hs : a / 2 ^ q * 2 ^ q = s at *
  have f3 : decide ((if (b : Int) < a then (b : Int) else a) < (s : Nat)) = false := decide_eq_false (by split <;> omega)
  have f4 : decide ((if (b : Int) > a then (b : Int) else a) > ((s + 2 ^ q - 1 : Nat) : Int)) = false := decide_eq_false (by split <;> omega)
  by_cases he : a = b
  · have hq0 : q = 0 := by
      cases q with
      | zero => rfl
      | succ q => exact absurd (by rw [he]) (hmin 0 (by omega))
    subst hq0
    have f5 : decide ((a : Int) = b) = true := decide_eq_true (by omega)
    have f6 : decide ((anc a 0 : Nat) = IntKind.i64.wrap (2 * (a : Int))) = true := decide_eq_true (by rw [anc_zero, IntKind.wrap_i64]; omega)
    have f7 := f6
    repeat' first
      | (show XO _ _ _ (Oper.mk (some _) (Op.call _) _ _ _ none :: _) _ _ _; first | refine X.call (c1) ?_ | refine X.call (c2) ?_ | refine X.call (hlv) ?_)
      | (show XO _ _ _ (Oper.mk (some _) _ _ _ _ none :: _) _ _ _; first | refine X.go rfl ?_ | refine X.shl rfl rfl (by first | omega | exact Int.natCast_nonneg _) ?_ | refine X.shr rfl rfl (by first | omega | exact Int.natCast_nonneg _) ?_)
      | (show XO _ _ _ (Oper.mk _ _ _ _ _ (some _) :: _) _ _ _; first | refine X.gy rfl rfl ?_ | refine X.gn rfl rfl rfl ?_ | refine X.gu rfl rfl ?_ | refine X.gk true rfl (vB (by first | (simp only [f1, Bool.not_true]; done) | (simp only [f2]; done) | (simp only [Bool.false_eq_true, reduceIte, f3]; done) | (simp only [Bool.false_eq_true, reduceIte, f4]; done) | (simp only [f5]; done) | (simp only [Bool.false_eq_true, reduceIte, f6]; done) | (simp only [Bool.false_eq_true, reduceIte, f7]; done) | (simp only [decide_true, Bool.not_true]; done) | exact decide_eq_true (by omega))) ?_ | refine X.gk false rfl (vB (by first | (simp only [f1, Bool.not_true]; done) | (simp only [f2]; done) | (simp only [Bool.false_eq_true, reduceIte, f3]; done) | (simp only [Bool.false_eq_true, reduceIte, f4]; done) | (simp only [f5]; done) | (simp only [Bool.false_eq_true, reduceIte, f6]; done) | (simp only [Bool.false_eq_true, reduceIte, f7]; done) | (simp only [decide_true, Bool.not_true]; done) | exact decide_eq_true (by omega))) ?_ | refine X.gs rfl rfl (fun h => ?_) (fun h => ?_))
      | (show XO _ _ _ (Oper.mk none _ _ _ _ none :: _) _ _ _; refine X.st rfl ?_)
      | (show XO _ _ _ [] _ _ _; refine X.nil ?_)
      | (show AO _ _ _ (Oper.mk (some _) (Op.call _) _ _ _ none :: _) _ _ _; first | refine A.call (c1) ?_ | refine A.call (c2) ?_ | refine A.call (hlv) ?_)
      | (show AO _ _ _ (Oper.mk (some _) _ _ _ _ none :: _) _ _ _; first | refine A.go rfl ?_ | refine A.shl rfl rfl (by first | omega | exact Int.natCast_nonneg _) ?_ | refine A.shr rfl rfl (by first | omega | exact Int.natCast_nonneg _) ?_)
      | (show AO _ _ _ (Oper.mk _ _ _ _ _ (some _) :: _) _ _ _; first | refine A.gy rfl rfl ?_ | refine A.gn rfl rfl rfl ?_ | refine A.gu rfl rfl ?_ | refine A.gk true rfl (vB (by first | (simp only [f1, Bool.not_true]; done) | (simp only [f2]; done) | (simp only [Bool.false_eq_true, reduceIte, f3]; done) | (simp only [Bool.false_eq_true, reduceIte, f4]; done) | (simp only [f5]; done) | (simp only [Bool.false_eq_true, reduceIte, f6]; done) | (simp only [Bool.false_eq_true, reduceIte, f7]; done) | (simp only [decide_true, Bool.not_true]; done) | exact decide_eq_true (by omega))) ?_ | refine A.gk false rfl (vB (by first | (simp only [f1, Bool.not_true]; done) | (simp only [f2]; done) | (simp only [Bool.false_eq_true, reduceIte, f3]; done) | (simp only [Bool.false_eq_true, reduceIte, f4]; done) | (simp only [f5]; done) | (simp only [Bool.false_eq_true, reduceIte, f6]; done) | (simp only [Bool.false_eq_true, reduceIte, f7]; done) | (simp only [decide_true, Bool.not_true]; done) | exact decide_eq_true (by omega))) ?_ | refine A.gs rfl rfl (fun h => ?_) (fun h => ?_))
      | (show AO _ _ _ [] _ _ _; refine A.nil ?_)
      | (show CW _ _ _ _ (Code.seq (Code.region _ _ false) _) _ _ _; refine W.rq ?_)
      | (show CW _ _ _ _ (Code.region _ _ false) _ _ _; refine W.rz ?_)
      | (show CW _ _ _ _ (Code.seq (Code.region _ _ true) _) _ _ _; first | refine W.dq 0 ?_ | refine W.dq 1 ?_ | refine W.dq 2 ?_ | refine W.dq 3 ?_ | refine W.dq 4 ?_ | refine W.dq 5 ?_ | refine W.dq 6 ?_ | refine W.dq 7 ?_ | refine W.dq 8 ?_ | refine W.dq 9 ?_ | refine W.dq 10 ?_ | refine W.dq 11 ?_ | refine W.dq 12 ?_ | refine W.dq 13 ?_ | refine W.dq 14 ?_ | refine W.dq 15 ?_)
      | (show CW _ _ _ _ (Code.region _ _ true) _ _ _; first | refine W.dz 0 ?_ | refine W.dz 1 ?_ | refine W.dz 2 ?_ | refine W.dz 3 ?_ | refine W.dz 4 ?_ | refine W.dz 5 ?_ | refine W.dz 6 ?_ | refine W.dz 7 ?_ | refine W.dz 8 ?_ | refine W.dz 9 ?_ | refine W.dz 10 ?_ | refine W.dz 11 ?_ | refine W.dz 12 ?_ | refine W.dz 13 ?_ | refine W.dz 14 ?_ | refine W.dz 15 ?_)
      | (show CW _ _ _ _ _ _ _ _; first | refine W.kr ?_ | refine W.kn ?_ | refine W.ke ?_ | refine W.ct rfl ?_ | refine W.cf rfl ?_ | refine W.ct (vB (by first | (simp only [f1, Bool.not_true]; done) | (simp only [f2]; done) | (simp only [Bool.false_eq_true, reduceIte, f3]; done) | (simp only [Bool.false_eq_true, reduceIte, f4]; done) | (simp only [f5]; done) | (simp only [Bool.false_eq_true, reduceIte, f6]; done) | (simp only [Bool.false_eq_true, reduceIte, f7]; done) | (simp only [decide_true, Bool.not_true]; done) | exact decide_eq_true (by omega))) ?_ | refine W.cf (vB (by first | (simp only [f1, Bool.not_true]; done) | (simp only [f2]; done) | (simp only [Bool.false_eq_true, reduceIte, f3]; done) | (simp only [Bool.false_eq_true, reduceIte, f4]; done) | (simp only [f5]; done) | (simp only [Bool.false_eq_true, reduceIte, f6]; done) | (simp only [Bool.false_eq_true, reduceIte, f7]; done) | (simp only [decide_true, Bool.not_true]; done) | exact decide_eq_true (by omega))) ?_ | refine W.cd rfl (fun h => ?_) (fun h => ?_) | refine W.bl ?_ | refine W.sq ?_)
      | (show KO _ _ _ _; first | refine K.sn ?_ | refine K.sr ?_ | refine K.se ?_ | refine K.bn ?_ | refine K.br ?_ | refine K.be ?_ | refine K.bx rfl ?_ | refine K.lr ?_ | refine K.le ?_)
      | (show KO _ _ _ _; first | refine K.ya rfl ?_)
      | refine K.nx ?_
      | refine K.re ?_
      | refine K.dr ?_
    exact end_data rfl rfl (vB f6)
  · obtain ⟨q, rfl⟩ : ∃ q', q = q' + 1 := ⟨q - 1, by
      have : q ≠ 0 := fun h => by rw [h] at hab; simp at hab; exact he hab
      omega⟩
    have f5 : decide ((a : Int) = b) = false := decide_eq_false (by omega)
    obtain ⟨hodd, hll⟩ := anc_left a (by omega) q (by omega)
    have hlf := leftO H hj hanc hodd ([] : List Go.Pv.Obj)
    have hlv2 := leaves H (lN (anc a (q + 1)) : Nat) ([] : List Go.Pv.Obj)
    rw [hll, hs] at hlv2
    have hne := hmin q (by omega)
    have f67 : (if (b : Int) < a then (b : Int) else a) ≤ ((s + 2 ^ q - 1 : Nat) : Int) ∧ (if (b : Int) > a then (b : Int) else a) > ((s + 2 ^ q - 1 : Nat) : Int) := by
      rcases Nat.lt_or_gt_of_ne he with hlt | hlt
      · have := halves hab hne hlt
        rw [hs] at this
        rw [if_neg (by omega), if_pos (by omega)]; omega
      · have := halves hab.symm (Ne.symm hne) hlt
        rw [← hab, hs] at this
        rw [if_pos (by omega), if_neg (by omega)]; omega
    have f6 := decide_eq_true f67.1
    have f7 := decide_eq_true f67.2
    generalize (leavesV (lN (anc a (q + 1)) : Nat)).1 = u at *
    repeat' first
      | (show XO _ _ _ (Oper.mk (some _) (Op.call _) _ _ _ none :: _) _ _ _; first | refine X.call (c1) ?_ | refine X.call (c2) ?_ | refine X.call (hlv) ?_ | refine X.call (hlf) ?_ | refine X.call (hlv2) ?_)
      | (show XO _ _ _ (Oper.mk (some _) _ _ _ _ none :: _) _ _ _; first | refine X.go rfl ?_ | refine X.shl rfl rfl (by first | omega | exact Int.natCast_nonneg _) ?_ | refine X.shr rfl rfl (by first | omega | exact Int.natCast_nonneg _) ?_)
      | (show XO _ _ _ (Oper.mk _ _ _ _ _ (some _) :: _) _ _ _; first | refine X.gy rfl rfl ?_ | refine X.gn rfl rfl rfl ?_ | refine X.gu rfl rfl ?_ | refine X.gk true rfl (vB (by first | (simp only [f1, Bool.not_true]; done) | (simp only [f2]; done) | (simp only [Bool.false_eq_true, reduceIte, f3]; done) | (simp only [Bool.false_eq_true, reduceIte, f4]; done) | (simp only [f5]; done) | (simp only [Bool.false_eq_true, reduceIte, f6]; done) | (simp only [Bool.false_eq_true, reduceIte, f7]; done) | (simp only [decide_true, Bool.not_true]; done) | exact decide_eq_true (by omega))) ?_ | refine X.gk false rfl (vB (by first | (simp only [f1, Bool.not_true]; done) | (simp only [f2]; done) | (simp only [Bool.false_eq_true, reduceIte, f3]; done) | (simp only [Bool.false_eq_true, reduceIte, f4]; done) | (simp only [f5]; done) | (simp only [Bool.false_eq_true, reduceIte, f6]; done) | (simp only [Bool.false_eq_true, reduceIte, f7]; done) | (simp only [decide_true, Bool.not_true]; done) | exact decide_eq_true (by omega))) ?_ | refine X.gs rfl rfl (fun h => ?_) (fun h => ?_))
      | (show XO _ _ _ (Oper.mk none _ _ _ _ none :: _) _ _ _; refine X.st rfl ?_)
      | (show XO _ _ _ [] _ _ _; refine X.nil ?_)
      | (show AO _ _ _ (Oper.mk (some _) (Op.call _) _ _ _ none :: _) _ _ _; first | refine A.call (c1) ?_ | refine A.call (c2) ?_ | refine A.call (hlv) ?_ | refine A.call (hlf) ?_ | refine A.call (hlv2) ?_)
      | (show AO _ _ _ (Oper.mk (some _) _ _ _ _ none :: _) _ _ _; first | refine A.go rfl ?_ | refine A.shl rfl rfl (by first | omega | exact Int.natCast_nonneg _) ?_ | refine A.shr rfl rfl (by first | omega | exact Int.natCast_nonneg _) ?_)
      | (show AO _ _ _ (Oper.mk _ _ _ _ _ (some _) :: _) _ _ _; first | refine A.gy rfl rfl ?_ | refine A.gn rfl rfl rfl ?_ | refine A.gu rfl rfl ?_ | refine A.gk true rfl (vB (by first | (simp only [f1, Bool.not_true]; done) | (simp only [f2]; done) | (simp only [Bool.false_eq_true, reduceIte, f3]; done) | (simp only [Bool.false_eq_true, reduceIte, f4]; done) | (simp only [f5]; done) | (simp only [Bool.false_eq_true, reduceIte, f6]; done) | (simp only [Bool.false_eq_true, reduceIte, f7]; done) | (simp only [decide_true, Bool.not_true]; done) | exact decide_eq_true (by omega))) ?_ | refine A.gk false rfl (vB (by first | (simp only [f1, Bool.not_true]; done) | (simp only [f2]; done) | (simp only [Bool.false_eq_true, reduceIte, f3]; done) | (simp only [Bool.false_eq_true, reduceIte, f4]; done) | (simp only [f5]; done) | (simp only [Bool.false_eq_true, reduceIte, f6]; done) | (simp only [Bool.false_eq_true, reduceIte, f7]; done) | (simp only [decide_true, Bool.not_true]; done) | exact decide_eq_true (by omega))) ?_ | refine A.gs rfl rfl (fun h => ?_) (fun h => ?_))
      | (show AO _ _ _ [] _ _ _; refine A.nil ?_)
      | (show CW _ _ _ _ (Code.seq (Code.region _ _ false) _) _ _ _; refine W.rq ?_)
      | (show CW _ _ _ _ (Code.region _ _ false) _ _ _; refine W.rz ?_)
      | (show CW _ _ _ _ (Code.seq (Code.region _ _ true) _) _ _ _; first | refine W.dq 0 ?_ | refine W.dq 1 ?_ | refine W.dq 2 ?_ | refine W.dq 3 ?_ | refine W.dq 4 ?_ | refine W.dq 5 ?_ | refine W.dq 6 ?_ | refine W.dq 7 ?_ | refine W.dq 8 ?_ | refine W.dq 9 ?_ | refine W.dq 10 ?_ | refine W.dq 11 ?_ | refine W.dq 12 ?_ | refine W.dq 13 ?_ | refine W.dq 14 ?_ | refine W.dq 15 ?_)
      | (show CW _ _ _ _ (Code.region _ _ true) _ _ _; first | refine W.dz 0 ?_ | refine W.dz 1 ?_ | refine W.dz 2 ?_ | refine W.dz 3 ?_ | refine W.dz 4 ?_ | refine W.dz 5 ?_ | refine W.dz 6 ?_ | refine W.dz 7 ?_ | refine W.dz 8 ?_ | refine W.dz 9 ?_ | refine W.dz 10 ?_ | refine W.dz 11 ?_ | refine W.dz 12 ?_ | refine W.dz 13 ?_ | refine W.dz 14 ?_ | refine W.dz 15 ?_)
      | (show CW _ _ _ _ _ _ _ _; first | refine W.kr ?_ | refine W.kn ?_ | refine W.ke ?_ | refine W.ct rfl ?_ | refine W.cf rfl ?_ | refine W.ct (vB (by first | (simp only [f1, Bool.not_true]; done) | (simp only [f2]; done) | (simp only [Bool.false_eq_true, reduceIte, f3]; done) | (simp only [Bool.false_eq_true, reduceIte, f4]; done) | (simp only [f5]; done) | (simp only [Bool.false_eq_true, reduceIte, f6]; done) | (simp only [Bool.false_eq_true, reduceIte, f7]; done) | (simp only [decide_true, Bool.not_true]; done) | exact decide_eq_true (by omega))) ?_ | refine W.cf (vB (by first | (simp only [f1, Bool.not_true]; done) | (simp only [f2]; done) | (simp only [Bool.false_eq_true, reduceIte, f3]; done) | (simp only [Bool.false_eq_true, reduceIte, f4]; done) | (simp only [f5]; done) | (simp only [Bool.false_eq_true, reduceIte, f6]; done) | (simp only [Bool.false_eq_true, reduceIte, f7]; done) | (simp only [decide_true, Bool.not_true]; done) | exact decide_eq_true (by omega))) ?_ | refine W.cd rfl (fun h => ?_) (fun h => ?_) | refine W.bl ?_ | refine W.sq ?_)
      | (show KO _ _ _ _; first | refine K.sn ?_ | refine K.sr ?_ | refine K.se ?_ | refine K.bn ?_ | refine K.br ?_ | refine K.be ?_ | refine K.bx rfl ?_ | refine K.lr ?_ | refine K.le ?_)
      | (show KO _ _ _ _; first | refine K.ya rfl ?_)
      | refine K.nx ?_
      | refine K.re ?_
      | refine K.dr ?_
    exact end_data rfl rfl (vB f7)
end Go.Proofs.Mth
