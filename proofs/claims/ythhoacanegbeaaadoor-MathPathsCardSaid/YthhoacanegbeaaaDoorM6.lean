import Derived.Test.YthhoacanegbeaaaDoorM5
set_option linter.unusedVariables false
set_option linter.unusedSimpArgs false
set_option maxHeartbeats 4000000
namespace Go.Proofs.Mth
open Go Go.Pv Go.Proofs Go.Shelf
variable {Z : Nat → Go.Obj → Prop}
/-! contracts in whole numbers, of the nodes of a tree of 2^j leaves -/
theorem lvN {j y : Nat} (hj : j < 11) (hy : y < 2 * 2 ^ j - 1) : lv (y : Int) = lev y := by
  have := two_pow_bound hj
  exact lv_of y (by omega)
theorem levelN (H : ZT Z) {j y : Nat} (hj : j < 11) (hy : y < 2 * 2 ^ j - 1) (L : List Go.Pv.Obj) : SE Tryd.prog Z 21 [.int .i64 y] L (.int .i64 (lev y : Nat)) L := by
  have := level H y L
  rwa [lvN hj hy] at this
theorem leftE (H : ZT Z) {j y : Nat} (hj : j < 11) (hy : y < 2 * 2 ^ j - 1) (h : y % 2 = 0) (L : List Go.Pv.Obj) : SE Tryd.prog Z 24 [.int .i64 y] L (.tup [.int .i64 0, .int .i64 1]) L := by
  have := left H y L
  rwa [show childV (y : Int) (-1) = (0, 1) by unfold childV; rw [lvN hj hy, if_pos (lev_even h)]] at this
theorem rightE (H : ZT Z) {j y : Nat} (hj : j < 11) (hy : y < 2 * 2 ^ j - 1) (h : y % 2 = 0) (L : List Go.Pv.Obj) : SE Tryd.prog Z 28 [.int .i64 y] L (.tup [.int .i64 0, .int .i64 1]) L := by
  have := right H y L
  rwa [show childV (y : Int) 1 = (0, 1) by unfold childV; rw [lvN hj hy, if_pos (lev_even h)]] at this
theorem pow_cast (k : Nat) : (2 : Int) ^ k = ((2 ^ k : Nat) : Int) := (Int.natCast_pow 2 k).symm
theorem leftO (H : ZT Z) {j y : Nat} (hj : j < 11) (hy : y < 2 * 2 ^ j - 1) (h : y % 2 = 1) (L : List Go.Pv.Obj) : SE Tryd.prog Z 24 [.int .i64 y] L (.tup [.int .i64 (lN y : Nat), .int .i64 0]) L := by
  have := left H y L
  have hk := kids j hj y hy h
  rwa [show childV (y : Int) (-1) = (((lN y : Nat) : Int), 0) by
    unfold childV; rw [lvN hj hy, if_neg hk.1, pow_cast]
    have h1 := hk.2.1
    unfold lN at h1 ⊢
    congr 1
    have : 2 ^ (lev y - 1) ≤ y := by
      have := lev_low y (by have := two_pow_bound hj; omega)
      have : 2 ^ (lev y - 1 + 1) ≤ y + 1 := by rw [Nat.sub_add_cancel (by have := hk.1; omega)]; exact this
      rw [Nat.pow_succ] at this; omega
    omega] at this
theorem rightO (H : ZT Z) {j y : Nat} (hj : j < 11) (hy : y < 2 * 2 ^ j - 1) (h : y % 2 = 1) (L : List Go.Pv.Obj) : SE Tryd.prog Z 28 [.int .i64 y] L (.tup [.int .i64 (rN y : Nat), .int .i64 0]) L := by
  have := right H y L
  have hk := kids j hj y hy h
  rwa [show childV (y : Int) 1 = (((rN y : Nat) : Int), 0) by
    unfold childV; rw [lvN hj hy, if_neg hk.1, pow_cast]
    unfold rN
    congr 1
    omega] at this
theorem parR (H : ZT Z) {j y : Nat} (hj : j < 11) (hy : y + 1 = 2 ^ j) (L : List Go.Pv.Obj) : SE Tryd.prog Z 22 [.int .i64 y, .int .i64 ((2 ^ j : Nat) : Int)] L (.tup [.int .i64 0, .int .i64 11]) L := by
  have := parent H y ((2 ^ j : Nat) : Int) L
  rwa [show parV (y : Int) ((2 ^ j : Nat) : Int) = (0, 11) by unfold parV; rw [if_pos (isN_of hj (by omega)), if_pos (by omega)]] at this
theorem parN (H : ZT Z) {j y : Nat} (hj : j < 11) (hy : y < 2 * 2 ^ j - 1) (hr : y + 1 ≠ 2 ^ j) (L : List Go.Pv.Obj) : SE Tryd.prog Z 22 [.int .i64 y, .int .i64 ((2 ^ j : Nat) : Int)] L (.tup [.int .i64 (upN y : Nat), .int .i64 0]) L := by
  have := parent H y ((2 ^ j : Nat) : Int) L
  rwa [show parV (y : Int) ((2 ^ j : Nat) : Int) = (((upN y : Nat) : Int), 0) by unfold parV; rw [if_pos (isN_of hj hy), if_neg (by omega)]; rfl] at this
theorem sibN (H : ZT Z) {j y : Nat} (hj : j < 11) (hy : y < 2 * 2 ^ j - 1) (hr : y + 1 ≠ 2 ^ j) (L : List Go.Pv.Obj) : SE Tryd.prog Z 23 [.int .i64 y, .int .i64 ((2 ^ j : Nat) : Int)] L (.tup [.int .i64 (2 * (upN y : Nat) - y), .int .i64 0]) L := by
  have := sibling H y ((2 ^ j : Nat) : Int) L
  have e : parV (y : Int) ((2 ^ j : Nat) : Int) = (((upN y : Nat) : Int), 0) := by unfold parV; rw [if_pos (isN_of hj hy), if_neg (by omega)]; rfl
  rwa [show sibV (y : Int) ((2 ^ j : Nat) : Int) = (2 * ((upN y : Nat) : Int) - y, 0) by unfold sibV; rw [e, if_pos rfl]] at this
theorem w64N {n : Nat} (h : n < 9000000000000000000) : IntKind.i64.wrap (n : Int) = n := by rw [IntKind.wrap_i64]; omega
theorem rem11 {k : Nat} (h : k < 256) : (IntKind.i64.wrap (k : Int)).tmod 11 = ((k % 11 : Nat) : Int) := by
  rw [w64N (by omega)]; rfl
theorem two_step {j i : Nat} (hj : j < 11) (hi : i < j) : IntKind.i64.wrap (2 * ((2 ^ i : Nat) : Int)) = ((2 ^ (i + 1) : Nat) : Int) := by
  have := two_pow_bound (j := i + 1) (by omega)
  rw [Nat.pow_succ] at *
  rw [IntKind.wrap_i64]; omega
theorem one_step {i : Nat} (hi : i < 1000) : IntKind.i64.wrap ((i : Int) + 1) = ((i + 1 : Nat) : Int) := by
  rw [IntKind.wrap_i64]; omega

theorem up_walk (H : ZT Z) (x k : Nat) (hx : x < 65536) (hk : k < 256) : SE Tryd.prog Z 9 [.int .u16 x, .int .u8 k] [] (.bool true) [] := by
  refine SE.data H.z Tryd.func9 rfl ?_
  repeat' first
    | (show XO _ _ _ (Oper.mk (some _) (Op.call _) _ _ _ none :: _) _ _ _; first | refine X.call (shown H _) ?_)
    | (show XO _ _ _ (Oper.mk (some _) _ _ _ _ none :: _) _ _ _; first | refine X.go rfl ?_ | refine X.shl rfl rfl (by first | omega | exact Int.natCast_nonneg _) ?_ | refine X.shr rfl rfl (by first | omega | exact Int.natCast_nonneg _) ?_)
    | (show XO _ _ _ (Oper.mk _ _ _ _ _ (some _) :: _) _ _ _; first | refine X.gy rfl rfl ?_ | refine X.gn rfl rfl rfl ?_ | refine X.gu rfl rfl ?_ | refine X.gs rfl rfl (fun h => ?_) (fun h => ?_))
    | (show XO _ _ _ (Oper.mk none _ _ _ _ none :: _) _ _ _; refine X.st rfl ?_)
    | (show XO _ _ _ [] _ _ _; refine X.nil ?_)
    | (show AO _ _ _ (Oper.mk (some _) (Op.call _) _ _ _ none :: _) _ _ _; first | refine A.call (shown H _) ?_)
    | (show AO _ _ _ (Oper.mk (some _) _ _ _ _ none :: _) _ _ _; first | refine A.go rfl ?_ | refine A.shl rfl rfl (by first | omega | exact Int.natCast_nonneg _) ?_ | refine A.shr rfl rfl (by first | omega | exact Int.natCast_nonneg _) ?_)
    | (show AO _ _ _ (Oper.mk _ _ _ _ _ (some _) :: _) _ _ _; first | refine A.gy rfl rfl ?_ | refine A.gn rfl rfl rfl ?_ | refine A.gu rfl rfl ?_ | refine A.gs rfl rfl (fun h => ?_) (fun h => ?_))
    | (show AO _ _ _ [] _ _ _; refine A.nil ?_)
    | (show CW _ _ _ _ (Code.seq (Code.region _ _ false) _) _ _ _; refine W.rq ?_)
    | (show CW _ _ _ _ (Code.region _ _ false) _ _ _; refine W.rz ?_)
    | (show CW _ _ _ _ (Code.seq (Code.region _ _ true) _) _ _ _; first | refine W.dq 0 ?_ | refine W.dq 1 ?_ | refine W.dq 2 ?_ | refine W.dq 3 ?_ | refine W.dq 4 ?_ | refine W.dq 5 ?_ | refine W.dq 6 ?_ | refine W.dq 7 ?_ | refine W.dq 8 ?_ | refine W.dq 9 ?_ | refine W.dq 10 ?_ | refine W.dq 11 ?_ | refine W.dq 12 ?_ | refine W.dq 13 ?_ | refine W.dq 14 ?_ | refine W.dq 15 ?_)
    | (show CW _ _ _ _ (Code.region _ _ true) _ _ _; first | refine W.dz 0 ?_ | refine W.dz 1 ?_ | refine W.dz 2 ?_ | refine W.dz 3 ?_ | refine W.dz 4 ?_ | refine W.dz 5 ?_ | refine W.dz 6 ?_ | refine W.dz 7 ?_ | refine W.dz 8 ?_ | refine W.dz 9 ?_ | refine W.dz 10 ?_ | refine W.dz 11 ?_ | refine W.dz 12 ?_ | refine W.dz 13 ?_ | refine W.dz 14 ?_ | refine W.dz 15 ?_)
    | (show CW _ _ _ _ _ _ _ _; first | refine W.kr ?_ | refine W.kn ?_ | refine W.ke ?_ | refine W.ct rfl ?_ | refine W.cf rfl ?_ | refine W.cd rfl (fun h => ?_) (fun h => ?_) | refine W.bl ?_ | refine W.sq ?_)
    | (show KO _ _ _ _; first | refine K.sn ?_ | refine K.sr ?_ | refine K.se ?_ | refine K.bn ?_ | refine K.br ?_ | refine K.be ?_ | refine K.bx rfl ?_ | refine K.lr ?_ | refine K.le ?_)
    | (show KO _ _ _ _; first | refine K.ya rfl ?_)
    | refine K.nx ?_
    | refine K.re ?_
    | refine K.dr ?_
  have hj : k % 11 < 11 := by omega
  refine W.lp (fun m st => st.env 0 = .int .u16 x ∧ st.env 1 = .int .u8 k ∧ st.env 5 = .bool true ∧ st.L = [] ∧ ∃ i : Nat, st.env 7 = .int .i64 i ∧ st.env 6 = .int .i64 ((2 ^ i : Nat) : Int) ∧ i ≤ k % 11 ∧ m = k % 11 - i)
    (k % 11) ⟨rfl, rfl, rfl, rfl, 0, rfl, rfl, Nat.zero_le _, rfl⟩ ?_
  rintro m env L ⟨e0, e1, eu, rfl, i, ei, en, hi, rfl⟩
  refine W.ev 6 en ?_
  refine W.ev 7 ei ?_
  refine W.ev 5 eu ?_
  refine W.ev 1 e1 ?_
  refine W.ev 0 e0 ?_
  repeat' first
    | (show XO _ _ _ (Oper.mk (some _) (Op.call _) _ _ _ none :: _) _ _ _; first | fail)
    | (show XO _ _ _ (Oper.mk (some _) _ _ _ _ none :: _) _ _ _; first | refine X.go rfl ?_ | refine X.shl rfl rfl (by first | omega | exact Int.natCast_nonneg _) ?_ | refine X.shr rfl rfl (by first | omega | exact Int.natCast_nonneg _) ?_)
    | (show XO _ _ _ (Oper.mk _ _ _ _ _ (some _) :: _) _ _ _; first | refine X.gy rfl rfl ?_ | refine X.gn rfl rfl rfl ?_ | refine X.gu rfl rfl ?_ | refine X.gs rfl rfl (fun h => ?_) (fun h => ?_))
    | (show XO _ _ _ (Oper.mk none _ _ _ _ none :: _) _ _ _; refine X.st rfl ?_)
    | (show XO _ _ _ [] _ _ _; refine X.nil ?_)
    | (show AO _ _ _ (Oper.mk (some _) (Op.call _) _ _ _ none :: _) _ _ _; first | fail)
    | (show AO _ _ _ (Oper.mk (some _) _ _ _ _ none :: _) _ _ _; first | refine A.go rfl ?_ | refine A.shl rfl rfl (by first | omega | exact Int.natCast_nonneg _) ?_ | refine A.shr rfl rfl (by first | omega | exact Int.natCast_nonneg _) ?_)
    | (show AO _ _ _ (Oper.mk _ _ _ _ _ (some _) :: _) _ _ _; first | refine A.gy rfl rfl ?_ | refine A.gn rfl rfl rfl ?_ | refine A.gu rfl rfl ?_ | refine A.gs rfl rfl (fun h => ?_) (fun h => ?_))
    | (show AO _ _ _ [] _ _ _; refine A.nil ?_)
    | (show CW _ _ _ _ (Code.seq (Code.region _ _ false) _) _ _ _; refine W.rq ?_)
    | (show CW _ _ _ _ (Code.region _ _ false) _ _ _; refine W.rz ?_)
    | (show CW _ _ _ _ (Code.seq (Code.region _ _ true) _) _ _ _; first | refine W.dq 0 ?_ | refine W.dq 1 ?_ | refine W.dq 2 ?_ | refine W.dq 3 ?_ | refine W.dq 4 ?_ | refine W.dq 5 ?_ | refine W.dq 6 ?_ | refine W.dq 7 ?_ | refine W.dq 8 ?_ | refine W.dq 9 ?_ | refine W.dq 10 ?_ | refine W.dq 11 ?_ | refine W.dq 12 ?_ | refine W.dq 13 ?_ | refine W.dq 14 ?_ | refine W.dq 15 ?_)
    | (show CW _ _ _ _ (Code.region _ _ true) _ _ _; first | refine W.dz 0 ?_ | refine W.dz 1 ?_ | refine W.dz 2 ?_ | refine W.dz 3 ?_ | refine W.dz 4 ?_ | refine W.dz 5 ?_ | refine W.dz 6 ?_ | refine W.dz 7 ?_ | refine W.dz 8 ?_ | refine W.dz 9 ?_ | refine W.dz 10 ?_ | refine W.dz 11 ?_ | refine W.dz 12 ?_ | refine W.dz 13 ?_ | refine W.dz 14 ?_ | refine W.dz 15 ?_)
    | (show CW _ _ _ _ _ _ _ _; first | refine W.kr ?_ | refine W.kn ?_ | refine W.ke ?_ | refine W.ct rfl ?_ | refine W.cf rfl ?_ | refine W.cd rfl (fun h => ?_) (fun h => ?_) | refine W.bl ?_ | refine W.sq ?_)
    | (show KO _ _ _ _; first | refine K.sn ?_ | refine K.sr ?_ | refine K.se ?_ | refine K.bn ?_ | refine K.br ?_ | refine K.be ?_ | refine K.bx rfl ?_ | refine K.lr ?_ | refine K.le ?_)
    | (show KO _ _ _ _; first | refine K.ya rfl ?_)
    | refine K.nx ?_
    | refine K.re ?_
    | refine K.dr ?_
  · rw [rem11 hk] at h
    have h := of_decide_eq_true h
    refine K.ln (k % 11 - (i + 1)) (by omega) ⟨rfl, rfl, rfl, rfl, i + 1, ?_, ?_, by omega, rfl⟩
    · exact vI (one_step (by omega))
    · exact vI (two_step hj (by omega))
  rw [rem11 hk] at h
  have h := of_decide_eq_false h
  obtain rfl : i = k % 11 := by omega
  generalize hjj : k % 11 = j at *
  have hb := two_pow_bound hj
  refine X.rem (c := ((x % (2 * 2 ^ j - 1) : Nat) : Int)) rfl rfl ?_ ?_ ?_
  · rw [IntKind.wrap_i64, IntKind.wrap_i64]; omega
  · rw [w64N (by omega), show IntKind.i64.wrap (IntKind.i64.wrap (2 * ((2 ^ j : Nat) : Int)) - 1) = ((2 * 2 ^ j - 1 : Nat) : Int) by rw [IntKind.wrap_i64, IntKind.wrap_i64]; omega]
    rfl
  have hy : x % (2 * 2 ^ j - 1) < 2 * 2 ^ j - 1 := Nat.mod_lt _ (by omega)
  generalize x % (2 * 2 ^ j - 1) = y at *
  have hw1 : IntKind.i64.wrap (((2 ^ j : Nat) : Int) - 1) = ((2 ^ j : Nat) : Int) - 1 := by rw [IntKind.wrap_i64]; omega
  have hl := lev_le y (by omega)
  have hw2 : IntKind.i64.wrap (((lev y : Nat) : Int) - 1) = ((lev y : Nat) : Int) - 1 := by rw [IntKind.wrap_i64]; omega
  rcases Nat.mod_two_eq_zero_or_one y with hp | hp
  · have hpar : decide ((y : Int).tmod 2 = 0) = true := decide_eq_true (by rw [Int.tmod_eq_emod_of_nonneg (by omega)]; omega)
    have hle := lev_even hp
    by_cases hr : y + 1 = 2 ^ j
    · have hroot : decide ((y : Int) = IntKind.i64.wrap (((2 ^ j : Nat) : Int) - 1)) = true := decide_eq_true (by omega)
      repeat' first
        | (show XO _ _ _ (Oper.mk (some _) (Op.call _) _ _ _ none :: _) _ _ _; first | refine X.call (leftE H hj hy hp _) ?_ | refine X.call (rightE H hj hy hp _) ?_ | refine X.call (parR H hj hr _) ?_ | refine X.call (levelN H hj hy _) ?_)
        | (show XO _ _ _ (Oper.mk (some _) _ _ _ _ none :: _) _ _ _; first | refine X.go rfl ?_ | refine X.shl rfl rfl (by first | omega | exact Int.natCast_nonneg _) ?_ | refine X.shr rfl rfl (by first | omega | exact Int.natCast_nonneg _) ?_)
        | (show XO _ _ _ (Oper.mk _ _ _ _ _ (some _) :: _) _ _ _; first | refine X.gy rfl rfl ?_ | refine X.gn rfl rfl rfl ?_ | refine X.gu rfl rfl ?_ | refine X.gk true rfl (vB (by first | (simp only [hroot, hpar, decide_true]; done) | (simp only [hroot, hpar]; rfl) | exact decide_eq_true (by omega))) ?_ | refine X.gk false rfl (vB (by first | (simp only [hroot, hpar, decide_true]; done) | (simp only [hroot, hpar]; rfl) | exact decide_eq_true (by omega))) ?_ | refine X.gs rfl rfl (fun h => ?_) (fun h => ?_))
        | (show XO _ _ _ (Oper.mk none _ _ _ _ none :: _) _ _ _; refine X.st rfl ?_)
        | (show XO _ _ _ [] _ _ _; refine X.nil ?_)
        | (show AO _ _ _ (Oper.mk (some _) (Op.call _) _ _ _ none :: _) _ _ _; first | refine A.call (leftE H hj hy hp _) ?_ | refine A.call (rightE H hj hy hp _) ?_ | refine A.call (parR H hj hr _) ?_ | refine A.call (levelN H hj hy _) ?_)
        | (show AO _ _ _ (Oper.mk (some _) _ _ _ _ none :: _) _ _ _; first | refine A.go rfl ?_ | refine A.shl rfl rfl (by first | omega | exact Int.natCast_nonneg _) ?_ | refine A.shr rfl rfl (by first | omega | exact Int.natCast_nonneg _) ?_)
        | (show AO _ _ _ (Oper.mk _ _ _ _ _ (some _) :: _) _ _ _; first | refine A.gy rfl rfl ?_ | refine A.gn rfl rfl rfl ?_ | refine A.gu rfl rfl ?_ | refine A.gk true rfl (vB (by first | (simp only [hroot, hpar, decide_true]; done) | (simp only [hroot, hpar]; rfl) | exact decide_eq_true (by omega))) ?_ | refine A.gk false rfl (vB (by first | (simp only [hroot, hpar, decide_true]; done) | (simp only [hroot, hpar]; rfl) | exact decide_eq_true (by omega))) ?_ | refine A.gs rfl rfl (fun h => ?_) (fun h => ?_))
        | (show AO _ _ _ [] _ _ _; refine A.nil ?_)
        | (show CW _ _ _ _ (Code.seq (Code.region _ _ false) _) _ _ _; refine W.rq ?_)
        | (show CW _ _ _ _ (Code.region _ _ false) _ _ _; refine W.rz ?_)
        | (show CW _ _ _ _ (Code.seq (Code.region _ _ true) _) _ _ _; first | refine W.dq 0 ?_ | refine W.dq 1 ?_ | refine W.dq 2 ?_ | refine W.dq 3 ?_ | refine W.dq 4 ?_ | refine W.dq 5 ?_ | refine W.dq 6 ?_ | refine W.dq 7 ?_ | refine W.dq 8 ?_ | refine W.dq 9 ?_ | refine W.dq 10 ?_ | refine W.dq 11 ?_ | refine W.dq 12 ?_ | refine W.dq 13 ?_ | refine W.dq 14 ?_ | refine W.dq 15 ?_)
        | (show CW _ _ _ _ (Code.region _ _ true) _ _ _; first | refine W.dz 0 ?_ | refine W.dz 1 ?_ | refine W.dz 2 ?_ | refine W.dz 3 ?_ | refine W.dz 4 ?_ | refine W.dz 5 ?_ | refine W.dz 6 ?_ | refine W.dz 7 ?_ | refine W.dz 8 ?_ | refine W.dz 9 ?_ | refine W.dz 10 ?_ | refine W.dz 11 ?_ | refine W.dz 12 ?_ | refine W.dz 13 ?_ | refine W.dz 14 ?_ | refine W.dz 15 ?_)
        | (show CW _ _ _ _ _ _ _ _; first | refine W.kr ?_ | refine W.kn ?_ | refine W.ke ?_ | refine W.ct rfl ?_ | refine W.cf rfl ?_ | refine W.ct (vB (by first | (simp only [hroot, hpar, decide_true]; done) | (simp only [hroot, hpar]; rfl) | exact decide_eq_true (by omega))) ?_ | refine W.cf (vB (by first | (simp only [hroot, hpar, decide_true]; done) | (simp only [hroot, hpar]; rfl) | exact decide_eq_true (by omega))) ?_ | refine W.cd rfl (fun h => ?_) (fun h => ?_) | refine W.bl ?_ | refine W.sq ?_)
        | (show KO _ _ _ _; first | refine K.sn ?_ | refine K.sr ?_ | refine K.se ?_ | refine K.bn ?_ | refine K.br ?_ | refine K.be ?_ | refine K.bx rfl ?_ | refine K.lr ?_ | refine K.le ?_)
        | (show KO _ _ _ _; first | refine K.ya rfl ?_)
        | refine K.nx ?_
        | refine K.re ?_
        | refine K.dr ?_
      exact end_data rfl rfl (vB (by simp [hle]))
    · have hroot : decide ((y : Int) = IntKind.i64.wrap (((2 ^ j : Nat) : Int) - 1)) = false := decide_eq_false (by omega)
      repeat' first
        | (show XO _ _ _ (Oper.mk (some _) (Op.call _) _ _ _ none :: _) _ _ _; first | refine X.call (leftE H hj hy hp _) ?_ | refine X.call (rightE H hj hy hp _) ?_ | refine X.call (parN H hj hy hr _) ?_ | refine X.call (levelN H hj hy _) ?_)
        | (show XO _ _ _ (Oper.mk (some _) _ _ _ _ none :: _) _ _ _; first | refine X.go rfl ?_ | refine X.shl rfl rfl (by first | omega | exact Int.natCast_nonneg _) ?_ | refine X.shr rfl rfl (by first | omega | exact Int.natCast_nonneg _) ?_)
        | (show XO _ _ _ (Oper.mk _ _ _ _ _ (some _) :: _) _ _ _; first | refine X.gy rfl rfl ?_ | refine X.gn rfl rfl rfl ?_ | refine X.gu rfl rfl ?_ | refine X.gk true rfl (vB (by first | (simp only [hroot, hpar, decide_true]; done) | (simp only [hroot, hpar]; rfl) | exact decide_eq_true (by omega))) ?_ | refine X.gk false rfl (vB (by first | (simp only [hroot, hpar, decide_true]; done) | (simp only [hroot, hpar]; rfl) | exact decide_eq_true (by omega))) ?_ | refine X.gs rfl rfl (fun h => ?_) (fun h => ?_))
        | (show XO _ _ _ (Oper.mk none _ _ _ _ none :: _) _ _ _; refine X.st rfl ?_)
        | (show XO _ _ _ [] _ _ _; refine X.nil ?_)
        | (show AO _ _ _ (Oper.mk (some _) (Op.call _) _ _ _ none :: _) _ _ _; first | refine A.call (leftE H hj hy hp _) ?_ | refine A.call (rightE H hj hy hp _) ?_ | refine A.call (parN H hj hy hr _) ?_ | refine A.call (levelN H hj hy _) ?_)
        | (show AO _ _ _ (Oper.mk (some _) _ _ _ _ none :: _) _ _ _; first | refine A.go rfl ?_ | refine A.shl rfl rfl (by first | omega | exact Int.natCast_nonneg _) ?_ | refine A.shr rfl rfl (by first | omega | exact Int.natCast_nonneg _) ?_)
        | (show AO _ _ _ (Oper.mk _ _ _ _ _ (some _) :: _) _ _ _; first | refine A.gy rfl rfl ?_ | refine A.gn rfl rfl rfl ?_ | refine A.gu rfl rfl ?_ | refine A.gk true rfl (vB (by first | (simp only [hroot, hpar, decide_true]; done) | (simp only [hroot, hpar]; rfl) | exact decide_eq_true (by omega))) ?_ | refine A.gk false rfl (vB (by first | (simp only [hroot, hpar, decide_true]; done) | (simp only [hroot, hpar]; rfl) | exact decide_eq_true (by omega))) ?_ | refine A.gs rfl rfl (fun h => ?_) (fun h => ?_))
        | (show AO _ _ _ [] _ _ _; refine A.nil ?_)
        | (show CW _ _ _ _ (Code.seq (Code.region _ _ false) _) _ _ _; refine W.rq ?_)
        | (show CW _ _ _ _ (Code.region _ _ false) _ _ _; refine W.rz ?_)
        | (show CW _ _ _ _ (Code.seq (Code.region _ _ true) _) _ _ _; first | refine W.dq 0 ?_ | refine W.dq 1 ?_ | refine W.dq 2 ?_ | refine W.dq 3 ?_ | refine W.dq 4 ?_ | refine W.dq 5 ?_ | refine W.dq 6 ?_ | refine W.dq 7 ?_ | refine W.dq 8 ?_ | refine W.dq 9 ?_ | refine W.dq 10 ?_ | refine W.dq 11 ?_ | refine W.dq 12 ?_ | refine W.dq 13 ?_ | refine W.dq 14 ?_ | refine W.dq 15 ?_)
        | (show CW _ _ _ _ (Code.region _ _ true) _ _ _; first | refine W.dz 0 ?_ | refine W.dz 1 ?_ | refine W.dz 2 ?_ | refine W.dz 3 ?_ | refine W.dz 4 ?_ | refine W.dz 5 ?_ | refine W.dz 6 ?_ | refine W.dz 7 ?_ | refine W.dz 8 ?_ | refine W.dz 9 ?_ | refine W.dz 10 ?_ | refine W.dz 11 ?_ | refine W.dz 12 ?_ | refine W.dz 13 ?_ | refine W.dz 14 ?_ | refine W.dz 15 ?_)
        | (show CW _ _ _ _ _ _ _ _; first | refine W.kr ?_ | refine W.kn ?_ | refine W.ke ?_ | refine W.ct rfl ?_ | refine W.cf rfl ?_ | refine W.ct (vB (by first | (simp only [hroot, hpar, decide_true]; done) | (simp only [hroot, hpar]; rfl) | exact decide_eq_true (by omega))) ?_ | refine W.cf (vB (by first | (simp only [hroot, hpar, decide_true]; done) | (simp only [hroot, hpar]; rfl) | exact decide_eq_true (by omega))) ?_ | refine W.cd rfl (fun h => ?_) (fun h => ?_) | refine W.bl ?_ | refine W.sq ?_)
        | (show KO _ _ _ _; first | refine K.sn ?_ | refine K.sr ?_ | refine K.se ?_ | refine K.bn ?_ | refine K.br ?_ | refine K.be ?_ | refine K.bx rfl ?_ | refine K.lr ?_ | refine K.le ?_)
        | (show KO _ _ _ _; first | refine K.ya rfl ?_)
        | refine K.nx ?_
        | refine K.re ?_
        | refine K.dr ?_
      exact end_data rfl rfl (vB (by simp [hle]))
  · have hpar : decide ((y : Int).tmod 2 = 0) = false := decide_eq_false (by rw [Int.tmod_eq_emod_of_nonneg (by omega)]; omega)
    obtain ⟨k1, k2, k3, k4, k5, k6, k7, k8, k9, k10, k11⟩ := kids j hj y hy hp
    have pl := parN H hj (y := lN y) (by omega) k7 ([] : List Go.Pv.Obj)
    have pr := parN H hj (y := rN y) (by omega) k8 ([] : List Go.Pv.Obj)
    have sl := sibN H hj (y := lN y) (by omega) k7 ([] : List Go.Pv.Obj)
    have sr := sibN H hj (y := rN y) (by omega) k8 ([] : List Go.Pv.Obj)
    have ll := levelN H hj (y := lN y) (by omega) ([] : List Go.Pv.Obj)
    have lr := levelN H hj (y := rN y) (by omega) ([] : List Go.Pv.Obj)
    rw [k5] at pl sl
    rw [k6] at pr sr
    rw [k9] at ll
    rw [k10] at lr
    have f1 : (2 : Int) * y - (lN y : Nat) = (rN y : Nat) := by omega
    have f2 : (2 : Int) * y - (rN y : Nat) = (lN y : Nat) := by omega
    rw [f1] at sl
    rw [f2] at sr
    have f3 : ((lev y - 1 : Nat) : Int) = ((lev y : Nat) : Int) - 1 := by omega
    rw [f3] at ll lr
    by_cases hr : y + 1 = 2 ^ j
    · have hroot : decide ((y : Int) = IntKind.i64.wrap (((2 ^ j : Nat) : Int) - 1)) = true := decide_eq_true (by omega)
      repeat' first
        | (show XO _ _ _ (Oper.mk (some _) (Op.call _) _ _ _ none :: _) _ _ _; first | refine X.call (leftO H hj hy hp _) ?_ | refine X.call (rightO H hj hy hp _) ?_ | refine X.call (parR H hj hr _) ?_ | refine X.call (levelN H hj hy _) ?_ | refine X.call (pl) ?_ | refine X.call (pr) ?_ | refine X.call (sl) ?_ | refine X.call (sr) ?_ | refine X.call (ll) ?_ | refine X.call (lr) ?_)
        | (show XO _ _ _ (Oper.mk (some _) _ _ _ _ none :: _) _ _ _; first | refine X.go rfl ?_ | refine X.shl rfl rfl (by first | omega | exact Int.natCast_nonneg _) ?_ | refine X.shr rfl rfl (by first | omega | exact Int.natCast_nonneg _) ?_)
        | (show XO _ _ _ (Oper.mk _ _ _ _ _ (some _) :: _) _ _ _; first | refine X.gy rfl rfl ?_ | refine X.gn rfl rfl rfl ?_ | refine X.gu rfl rfl ?_ | refine X.gk true rfl (vB (by first | (simp only [hroot, hpar, decide_true]; done) | (simp only [hroot, hpar]; rfl) | exact decide_eq_true (by omega))) ?_ | refine X.gk false rfl (vB (by first | (simp only [hroot, hpar, decide_true]; done) | (simp only [hroot, hpar]; rfl) | exact decide_eq_true (by omega))) ?_ | refine X.gs rfl rfl (fun h => ?_) (fun h => ?_))
        | (show XO _ _ _ (Oper.mk none _ _ _ _ none :: _) _ _ _; refine X.st rfl ?_)
        | (show XO _ _ _ [] _ _ _; refine X.nil ?_)
        | (show AO _ _ _ (Oper.mk (some _) (Op.call _) _ _ _ none :: _) _ _ _; first | refine A.call (leftO H hj hy hp _) ?_ | refine A.call (rightO H hj hy hp _) ?_ | refine A.call (parR H hj hr _) ?_ | refine A.call (levelN H hj hy _) ?_ | refine A.call (pl) ?_ | refine A.call (pr) ?_ | refine A.call (sl) ?_ | refine A.call (sr) ?_ | refine A.call (ll) ?_ | refine A.call (lr) ?_)
        | (show AO _ _ _ (Oper.mk (some _) _ _ _ _ none :: _) _ _ _; first | refine A.go rfl ?_ | refine A.shl rfl rfl (by first | omega | exact Int.natCast_nonneg _) ?_ | refine A.shr rfl rfl (by first | omega | exact Int.natCast_nonneg _) ?_)
        | (show AO _ _ _ (Oper.mk _ _ _ _ _ (some _) :: _) _ _ _; first | refine A.gy rfl rfl ?_ | refine A.gn rfl rfl rfl ?_ | refine A.gu rfl rfl ?_ | refine A.gk true rfl (vB (by first | (simp only [hroot, hpar, decide_true]; done) | (simp only [hroot, hpar]; rfl) | exact decide_eq_true (by omega))) ?_ | refine A.gk false rfl (vB (by first | (simp only [hroot, hpar, decide_true]; done) | (simp only [hroot, hpar]; rfl) | exact decide_eq_true (by omega))) ?_ | refine A.gs rfl rfl (fun h => ?_) (fun h => ?_))
        | (show AO _ _ _ [] _ _ _; refine A.nil ?_)
        | (show CW _ _ _ _ (Code.seq (Code.region _ _ false) _) _ _ _; refine W.rq ?_)
        | (show CW _ _ _ _ (Code.region _ _ false) _ _ _; refine W.rz ?_)
        | (show CW _ _ _ _ (Code.seq (Code.region _ _ true) _) _ _ _; first | refine W.dq 0 ?_ | refine W.dq 1 ?_ | refine W.dq 2 ?_ | refine W.dq 3 ?_ | refine W.dq 4 ?_ | refine W.dq 5 ?_ | refine W.dq 6 ?_ | refine W.dq 7 ?_ | refine W.dq 8 ?_ | refine W.dq 9 ?_ | refine W.dq 10 ?_ | refine W.dq 11 ?_ | refine W.dq 12 ?_ | refine W.dq 13 ?_ | refine W.dq 14 ?_ | refine W.dq 15 ?_)
        | (show CW _ _ _ _ (Code.region _ _ true) _ _ _; first | refine W.dz 0 ?_ | refine W.dz 1 ?_ | refine W.dz 2 ?_ | refine W.dz 3 ?_ | refine W.dz 4 ?_ | refine W.dz 5 ?_ | refine W.dz 6 ?_ | refine W.dz 7 ?_ | refine W.dz 8 ?_ | refine W.dz 9 ?_ | refine W.dz 10 ?_ | refine W.dz 11 ?_ | refine W.dz 12 ?_ | refine W.dz 13 ?_ | refine W.dz 14 ?_ | refine W.dz 15 ?_)
        | (show CW _ _ _ _ _ _ _ _; first | refine W.kr ?_ | refine W.kn ?_ | refine W.ke ?_ | refine W.ct rfl ?_ | refine W.cf rfl ?_ | refine W.ct (vB (by first | (simp only [hroot, hpar, decide_true]; done) | (simp only [hroot, hpar]; rfl) | exact decide_eq_true (by omega))) ?_ | refine W.cf (vB (by first | (simp only [hroot, hpar, decide_true]; done) | (simp only [hroot, hpar]; rfl) | exact decide_eq_true (by omega))) ?_ | refine W.cd rfl (fun h => ?_) (fun h => ?_) | refine W.bl ?_ | refine W.sq ?_)
        | (show KO _ _ _ _; first | refine K.sn ?_ | refine K.sr ?_ | refine K.se ?_ | refine K.bn ?_ | refine K.br ?_ | refine K.be ?_ | refine K.bx rfl ?_ | refine K.lr ?_ | refine K.le ?_)
        | (show KO _ _ _ _; first | refine K.ya rfl ?_)
        | refine K.nx ?_
        | refine K.re ?_
        | refine K.dr ?_
      exact end_data rfl rfl (vB (decide_eq_true (by omega)))
    · have hroot : decide ((y : Int) = IntKind.i64.wrap (((2 ^ j : Nat) : Int) - 1)) = false := decide_eq_false (by omega)
      repeat' first
        | (show XO _ _ _ (Oper.mk (some _) (Op.call _) _ _ _ none :: _) _ _ _; first | refine X.call (leftO H hj hy hp _) ?_ | refine X.call (rightO H hj hy hp _) ?_ | refine X.call (parN H hj hy hr _) ?_ | refine X.call (levelN H hj hy _) ?_ | refine X.call (pl) ?_ | refine X.call (pr) ?_ | refine X.call (sl) ?_ | refine X.call (sr) ?_ | refine X.call (ll) ?_ | refine X.call (lr) ?_)
        | (show XO _ _ _ (Oper.mk (some _) _ _ _ _ none :: _) _ _ _; first | refine X.go rfl ?_ | refine X.shl rfl rfl (by first | omega | exact Int.natCast_nonneg _) ?_ | refine X.shr rfl rfl (by first | omega | exact Int.natCast_nonneg _) ?_)
        | (show XO _ _ _ (Oper.mk _ _ _ _ _ (some _) :: _) _ _ _; first | refine X.gy rfl rfl ?_ | refine X.gn rfl rfl rfl ?_ | refine X.gu rfl rfl ?_ | refine X.gk true rfl (vB (by first | (simp only [hroot, hpar, decide_true]; done) | (simp only [hroot, hpar]; rfl) | exact decide_eq_true (by omega))) ?_ | refine X.gk false rfl (vB (by first | (simp only [hroot, hpar, decide_true]; done) | (simp only [hroot, hpar]; rfl) | exact decide_eq_true (by omega))) ?_ | refine X.gs rfl rfl (fun h => ?_) (fun h => ?_))
        | (show XO _ _ _ (Oper.mk none _ _ _ _ none :: _) _ _ _; refine X.st rfl ?_)
        | (show XO _ _ _ [] _ _ _; refine X.nil ?_)
        | (show AO _ _ _ (Oper.mk (some _) (Op.call _) _ _ _ none :: _) _ _ _; first | refine A.call (leftO H hj hy hp _) ?_ | refine A.call (rightO H hj hy hp _) ?_ | refine A.call (parN H hj hy hr _) ?_ | refine A.call (levelN H hj hy _) ?_ | refine A.call (pl) ?_ | refine A.call (pr) ?_ | refine A.call (sl) ?_ | refine A.call (sr) ?_ | refine A.call (ll) ?_ | refine A.call (lr) ?_)
        | (show AO _ _ _ (Oper.mk (some _) _ _ _ _ none :: _) _ _ _; first | refine A.go rfl ?_ | refine A.shl rfl rfl (by first | omega | exact Int.natCast_nonneg _) ?_ | refine A.shr rfl rfl (by first | omega | exact Int.natCast_nonneg _) ?_)
        | (show AO _ _ _ (Oper.mk _ _ _ _ _ (some _) :: _) _ _ _; first | refine A.gy rfl rfl ?_ | refine A.gn rfl rfl rfl ?_ | refine A.gu rfl rfl ?_ | refine A.gk true rfl (vB (by first | (simp only [hroot, hpar, decide_true]; done) | (simp only [hroot, hpar]; rfl) | exact decide_eq_true (by omega))) ?_ | refine A.gk false rfl (vB (by first | (simp only [hroot, hpar, decide_true]; done) | (simp only [hroot, hpar]; rfl) | exact decide_eq_true (by omega))) ?_ | refine A.gs rfl rfl (fun h => ?_) (fun h => ?_))
        | (show AO _ _ _ [] _ _ _; refine A.nil ?_)
        | (show CW _ _ _ _ (Code.seq (Code.region _ _ false) _) _ _ _; refine W.rq ?_)
        | (show CW _ _ _ _ (Code.region _ _ false) _ _ _; refine W.rz ?_)
        | (show CW _ _ _ _ (Code.seq (Code.region _ _ true) _) _ _ _; first | refine W.dq 0 ?_ | refine W.dq 1 ?_ | refine W.dq 2 ?_ | refine W.dq 3 ?_ | refine W.dq 4 ?_ | refine W.dq 5 ?_ | refine W.dq 6 ?_ | refine W.dq 7 ?_ | refine W.dq 8 ?_ | refine W.dq 9 ?_ | refine W.dq 10 ?_ | refine W.dq 11 ?_ | refine W.dq 12 ?_ | refine W.dq 13 ?_ | refine W.dq 14 ?_ | refine W.dq 15 ?_)
        | (show CW _ _ _ _ (Code.region _ _ true) _ _ _; first | refine W.dz 0 ?_ | refine W.dz 1 ?_ | refine W.dz 2 ?_ | refine W.dz 3 ?_ | refine W.dz 4 ?_ | refine W.dz 5 ?_ | refine W.dz 6 ?_ | refine W.dz 7 ?_ | refine W.dz 8 ?_ | refine W.dz 9 ?_ | refine W.dz 10 ?_ | refine W.dz 11 ?_ | refine W.dz 12 ?_ | refine W.dz 13 ?_ | refine W.dz 14 ?_ | refine W.dz 15 ?_)
        | (show CW _ _ _ _ _ _ _ _; first | refine W.kr ?_ | refine W.kn ?_ | refine W.ke ?_ | refine W.ct rfl ?_ | refine W.cf rfl ?_ | refine W.ct (vB (by first | (simp only [hroot, hpar, decide_true]; done) | (simp only [hroot, hpar]; rfl) | exact decide_eq_true (by omega))) ?_ | refine W.cf (vB (by first | (simp only [hroot, hpar, decide_true]; done) | (simp only [hroot, hpar]; rfl) | exact decide_eq_true (by omega))) ?_ | refine W.cd rfl (fun h => ?_) (fun h => ?_) | refine W.bl ?_ | refine W.sq ?_)
        | (show KO _ _ _ _; first | refine K.sn ?_ | refine K.sr ?_ | refine K.se ?_ | refine K.bn ?_ | refine K.br ?_ | refine K.be ?_ | refine K.bx rfl ?_ | refine K.lr ?_ | refine K.le ?_)
        | (show KO _ _ _ _; first | refine K.ya rfl ?_)
        | refine K.nx ?_
        | refine K.re ?_
        | refine K.dr ?_
      exact end_data rfl rfl (vB (decide_eq_true (by omega)))
end Go.Proofs.Mth
