import Derived.Test.YthhoacanegbeaaaDoorM6
set_option linter.unusedVariables false
set_option linter.unusedSimpArgs false
set_option maxHeartbeats 4000000
namespace Go.Proofs.Mth
open Go Go.Pv Go.Proofs Go.Shelf
variable {Z : Nat → Go.Obj → Prop}
theorem leaves_up : ∀ j, j < 11 → ∀ y, y < 2 * 2 ^ j - 1 → y + 1 ≠ 2 ^ j → (leavesV (upN y : Nat)).2 - (leavesV (upN y : Nat)).1 + 1 = 2 * ((leavesV (y : Nat)).2 - (leavesV (y : Nat)).1 + 1) ∧ (leavesV (upN y : Nat)).1 ≤ (leavesV (y : Nat)).1 ∧ (leavesV (y : Nat)).2 ≤ (leavesV (upN y : Nat)).2 ∧ 0 ≤ (leavesV (upN y : Nat)).1 ∧ (leavesV (upN y : Nat)).2 ≤ 1023 ∧ (leavesV (y : Nat)).1 ≤ (leavesV (y : Nat)).2 := by
  have h : ((List.range 11).all fun j => (List.range (2 * 2 ^ j - 1)).all fun y => decide (y + 1 ≠ 2 ^ j → (leavesV (upN y : Nat)).2 - (leavesV (upN y : Nat)).1 + 1 = 2 * ((leavesV (y : Nat)).2 - (leavesV (y : Nat)).1 + 1) ∧ (leavesV (upN y : Nat)).1 ≤ (leavesV (y : Nat)).1 ∧ (leavesV (y : Nat)).2 ≤ (leavesV (upN y : Nat)).2 ∧ 0 ≤ (leavesV (upN y : Nat)).1 ∧ (leavesV (upN y : Nat)).2 ≤ 1023 ∧ (leavesV (y : Nat)).1 ≤ (leavesV (y : Nat)).2)) = true := by kernel_rfl
  intro j hj x hx
  exact of_decide_eq_true (all_lt (all_lt h j hj) x hx)
theorem lev_root : ∀ j : Nat, j < 11 → (lev (2 ^ j - 1) == j) = true := all_lt (by kernel_rfl)
theorem ups_length {j : Nat} (hj : j < 11) : ∀ k x, k = 11 - lev x → x < 2 * 2 ^ j - 1 → (ups x (2 ^ j)).length + lev x = j := by
  intro k
  induction k with
  | zero =>
    intro x hk hx
    have := two_pow_bound hj
    have := lev_le x (by omega)
    omega
  | succ k ih =>
    intro x hk hx
    by_cases hr : x + 1 = 2 ^ j
    · rw [ups_end hj hr]
      have := eq_of_beq (lev_root j hj)
      rw [show 2 ^ j - 1 = x by omega] at this
      simpa using this
    · have hu := up_node j hj x hx hr
      rw [ups_step hj hx hr, List.length_cons]
      have := ih (upN x) (by omega) hu.1
      omega
theorem wayN (g : Nat × Nat → Int) {j y : Nat} (hj : j < 11) (hy : y < 2 * 2 ^ j - 1) : wayV g (y : Int) ((2 ^ j : Nat) : Int) = ((ups y (2 ^ j)).map g, 0) := by
  unfold wayV; rw [if_pos (isN_of hj hy), Int.toNat_natCast, Int.toNat_natCast]
theorem pathN (H : ZT Z) {j y : Nat} (hj : j < 11) (hy : y < 2 * 2 ^ j - 1) (L : List Go.Pv.Obj) : SE Tryd.prog Z 11 [.int .i64 y, .int .i64 ((2 ^ j : Nat) : Int)] L (.tup [slV ((ups y (2 ^ j)).map gP), .int .i64 0]) L := by
  have := path H y ((2 ^ j : Nat) : Int) L
  rwa [wayN gP hj hy] at this
theorem copathN (H : ZT Z) {j y : Nat} (hj : j < 11) (hy : y < 2 * 2 ^ j - 1) (L : List Go.Pv.Obj) : SE Tryd.prog Z 13 [.int .i64 y, .int .i64 ((2 ^ j : Nat) : Int)] L (.tup [slV ((ups y (2 ^ j)).map gC), .int .i64 0]) L := by
  have := copath H y ((2 ^ j : Nat) : Int) L
  rwa [wayN gC hj hy] at this
theorem levelR (H : ZT Z) {j : Nat} (hj : j < 11) (L : List Go.Pv.Obj) : SE Tryd.prog Z 21 [.int .i64 (IntKind.i64.wrap (((2 ^ j : Nat) : Int) - 1))] L (.int .i64 (j : Nat)) L := by
  have hb := two_pow_bound hj
  have := levelN H hj (y := 2 ^ j - 1) (by omega) L
  rw [eq_of_beq (lev_root j hj)] at this
  rwa [show IntKind.i64.wrap (((2 ^ j : Nat) : Int) - 1) = ((2 ^ j - 1 : Nat) : Int) by rw [IntKind.wrap_i64]; omega]

theorem ways_walk (H : ZT Z) (x k : Nat) (hx : x < 65536) (hk : k < 256) : SE Tryd.prog Z 6 [.int .u16 x, .int .u8 k] [] (.bool true) [] := by
  refine SE.data H.z Tryd.func6 rfl ?_
  repeat' first
    | (show XO _ _ _ (Oper.mk (some _) (Op.call _) _ _ _ none :: _) _ _ _; first | refine X.call (shown H _) ?_)
    | (show XO _ _ _ (Oper.mk (some _) _ _ _ _ none :: _) _ _ _; first | refine X.go rfl ?_ | refine X.shl rfl rfl (by first | omega | exact Int.natCast_nonneg _) ?_ | refine X.shr rfl rfl (by first | omega | exact Int.natCast_nonneg _) ?_)
    | (show XO _ _ _ (Oper.mk _ _ _ _ _ (some _) :: _) _ _ _; first | refine X.gy rfl rfl ?_ | refine X.gn rfl rfl rfl ?_ | refine X.gu rfl rfl ?_ | refine X.gs rfl rfl (fun h => ?_) (fun h => ?_))
    | (show XO _ _ _ (Oper.mk none _ _ _ _ none :: _) _ _ _; refine X.st rfl ?_)
    | (show XO _ _ _ [] _ _ _; refine X.nil ?_)
    | (show AO _ _ _ (Oper.mk (some _) (Op.call _) _ _ _ none :: _) _ _ _; first | refine A.call (shown H _) ?_)
    | (show AO _ _ _ (Oper.mk (some _) _ _ _ _ none :: _) _ _ _; first | refine A.go rfl ?_ | refine A.shl rfl rfl (by first | omega | exact Int.natCast_nonneg _) ?_ | refine A.shr rfl rfl (by first | omega | exact Int.natCast_nonneg _) ?_)
    | (show AO _ _ _ (Oper.mk _ _ _ _ _ (some _) :: _) _ _ _; first | refine A.gy rfl rfl ?_ | refine A.gn rfl rfl rfl ?_ | refine A.gu rfl rfl ?_ | refine A.gs rfl rfl (fun h => ?_) (fun h => ?_))
    | (show AO _ _ _ [] _ _ _; refine A.nil ?_)
    | (show CW _ _ _ _ (Code.seq (Code.region _ _ false) _) _ _ _; refine W.rq ?_)
    | (show CW _ _ _ _ (Code.region _ _ false) _ _ _; refine W.rz ?_)
    | (show CW _ _ _ _ (Code.seq (Code.region _ _ true) _) _ _ _; first | refine W.dq 0 ?_ | refine W.dq 1 ?_ | refine W.dq 2 ?_ | refine W.dq 3 ?_ | refine W.dq 4 ?_ | refine W.dq 5 ?_ | refine W.dq 6 ?_ | refine W.dq 7 ?_ | refine W.dq 8 ?_ | refine W.dq 9 ?_ | refine W.dq 10 ?_ | refine W.dq 11 ?_ | refine W.dq 12 ?_ | refine W.dq 13 ?_ | refine W.dq 14 ?_ | refine W.dq 15 ?_)
    | (show CW _ _ _ _ (Code.region _ _ true) _ _ _; first | refine W.dz 0 ?_ | refine W.dz 1 ?_ | refine W.dz 2 ?_ | refine W.dz 3 ?_ | refine W.dz 4 ?_ | refine W.dz 5 ?_ | refine W.dz 6 ?_ | refine W.dz 7 ?_ | refine W.dz 8 ?_ | refine W.dz 9 ?_ | refine W.dz 10 ?_ | refine W.dz 11 ?_ | refine W.dz 12 ?_ | refine W.dz 13 ?_ | refine W.dz 14 ?_ | refine W.dz 15 ?_)
    | (show CW _ _ _ _ _ _ _ _; first | refine W.kr ?_ | refine W.kn ?_ | refine W.ke ?_ | refine W.ct rfl ?_ | refine W.cf rfl ?_ | refine W.cd rfl (fun h => ?_) (fun h => ?_) | refine W.bl ?_ | refine W.sq ?_)
    | (show KO _ _ _ _; first | refine K.sn ?_ | refine K.sr ?_ | refine K.se ?_ | refine K.bn ?_ | refine K.br ?_ | refine K.be ?_ | refine K.bx rfl ?_ | refine K.lr ?_ | refine K.le ?_)
    | (show KO _ _ _ _; first | refine K.ya rfl ?_)
    | refine K.nx ?_
    | refine K.re ?_
    | refine K.dr ?_
  have hj : k % 11 < 11 := by omega
  refine W.lp (fun m st => st.env 0 = .int .u16 x ∧ st.env 1 = .int .u8 k ∧ st.env 5 = .bool true ∧ st.L = [] ∧ ∃ i : Nat, st.env 7 = .int .i64 i ∧ st.env 6 = .int .i64 ((2 ^ i : Nat) : Int) ∧ i ≤ k % 11 ∧ m = k % 11 - i)
    (k % 11) ⟨rfl, rfl, rfl, rfl, 0, rfl, rfl, Nat.zero_le _, rfl⟩ ?_
  rintro m env L ⟨e0, e1, eu, rfl, i, ei, en, hi, rfl⟩
  refine W.ev 6 en ?_
  refine W.ev 7 ei ?_
  refine W.ev 5 eu ?_
  refine W.ev 1 e1 ?_
  refine W.ev 0 e0 ?_
  repeat' first
    | (show XO _ _ _ (Oper.mk (some _) (Op.call _) _ _ _ none :: _) _ _ _; first | fail)
    | (show XO _ _ _ (Oper.mk (some _) _ _ _ _ none :: _) _ _ _; first | refine X.go rfl ?_ | refine X.shl rfl rfl (by first | omega | exact Int.natCast_nonneg _) ?_ | refine X.shr rfl rfl (by first | omega | exact Int.natCast_nonneg _) ?_)
    | (show XO _ _ _ (Oper.mk _ _ _ _ _ (some _) :: _) _ _ _; first | refine X.gy rfl rfl ?_ | refine X.gn rfl rfl rfl ?_ | refine X.gu rfl rfl ?_ | refine X.gs rfl rfl (fun h => ?_) (fun h => ?_))
    | (show XO _ _ _ (Oper.mk none _ _ _ _ none :: _) _ _ _; refine X.st rfl ?_)
    | (show XO _ _ _ [] _ _ _; refine X.nil ?_)
    | (show AO _ _ _ (Oper.mk (some _) (Op.call _) _ _ _ none :: _) _ _ _; first | fail)
    | (show AO _ _ _ (Oper.mk (some _) _ _ _ _ none :: _) _ _ _; first | refine A.go rfl ?_ | refine A.shl rfl rfl (by first | omega | exact Int.natCast_nonneg _) ?_ | refine A.shr rfl rfl (by first | omega | exact Int.natCast_nonneg _) ?_)
    | (show AO _ _ _ (Oper.mk _ _ _ _ _ (some _) :: _) _ _ _; first | refine A.gy rfl rfl ?_ | refine A.gn rfl rfl rfl ?_ | refine A.gu rfl rfl ?_ | refine A.gs rfl rfl (fun h => ?_) (fun h => ?_))
    | (show AO _ _ _ [] _ _ _; refine A.nil ?_)
    | (show CW _ _ _ _ (Code.seq (Code.region _ _ false) _) _ _ _; refine W.rq ?_)
    | (show CW _ _ _ _ (Code.region _ _ false) _ _ _; refine W.rz ?_)
    | (show CW _ _ _ _ (Code.seq (Code.region _ _ true) _) _ _ _; first | refine W.dq 0 ?_ | refine W.dq 1 ?_ | refine W.dq 2 ?_ | refine W.dq 3 ?_ | refine W.dq 4 ?_ | refine W.dq 5 ?_ | refine W.dq 6 ?_ | refine W.dq 7 ?_ | refine W.dq 8 ?_ | refine W.dq 9 ?_ | refine W.dq 10 ?_ | refine W.dq 11 ?_ | refine W.dq 12 ?_ | refine W.dq 13 ?_ | refine W.dq 14 ?_ | refine W.dq 15 ?_)
    | (show CW _ _ _ _ (Code.region _ _ true) _ _ _; first | refine W.dz 0 ?_ | refine W.dz 1 ?_ | refine W.dz 2 ?_ | refine W.dz 3 ?_ | refine W.dz 4 ?_ | refine W.dz 5 ?_ | refine W.dz 6 ?_ | refine W.dz 7 ?_ | refine W.dz 8 ?_ | refine W.dz 9 ?_ | refine W.dz 10 ?_ | refine W.dz 11 ?_ | refine W.dz 12 ?_ | refine W.dz 13 ?_ | refine W.dz 14 ?_ | refine W.dz 15 ?_)
    | (show CW _ _ _ _ _ _ _ _; first | refine W.kr ?_ | refine W.kn ?_ | refine W.ke ?_ | refine W.ct rfl ?_ | refine W.cf rfl ?_ | refine W.cd rfl (fun h => ?_) (fun h => ?_) | refine W.bl ?_ | refine W.sq ?_)
    | (show KO _ _ _ _; first | refine K.sn ?_ | refine K.sr ?_ | refine K.se ?_ | refine K.bn ?_ | refine K.br ?_ | refine K.be ?_ | refine K.bx rfl ?_ | refine K.lr ?_ | refine K.le ?_)
    | (show KO _ _ _ _; first | refine K.ya rfl ?_)
    | refine K.nx ?_
    | refine K.re ?_
    | refine K.dr ?_
  · rw [rem11 hk] at h
    have h := of_decide_eq_true h
    refine K.ln (k % 11 - (i + 1)) (by omega) ⟨rfl, rfl, rfl, rfl, i + 1, ?_, ?_, by omega, rfl⟩
    · exact vI (one_step (by omega))
    · exact vI (two_step hj (by omega))
  rw [rem11 hk] at h
  have h := of_decide_eq_false h
  obtain rfl : i = k % 11 := by omega
  generalize hjj : k % 11 = j at *
  have hb := two_pow_bound hj
  refine X.rem (c := ((x % (2 * 2 ^ j - 1) : Nat) : Int)) rfl rfl ?_ ?_ ?_
  · rw [IntKind.wrap_i64, IntKind.wrap_i64]; omega
  · rw [w64N (by omega), show IntKind.i64.wrap (IntKind.i64.wrap (2 * ((2 ^ j : Nat) : Int)) - 1) = ((2 * 2 ^ j - 1 : Nat) : Int) by rw [IntKind.wrap_i64, IntKind.wrap_i64]; omega]
    rfl
  have hy : x % (2 * 2 ^ j - 1) < 2 * 2 ^ j - 1 := Nat.mod_lt _ (by omega)
  generalize x % (2 * 2 ^ j - 1) = y at *
  have hul := ups_length hj _ y rfl hy
  have hlen : IntKind.i64.wrap ((j : Int) - (lev y : Nat)) = ((ups y (2 ^ j)).length : Nat) := by rw [IntKind.wrap_i64]; omega
  have hlen2 : decide ((((((ups y (2 ^ j)).map gP).map (V.int .i64)).length : Nat) : Int) = ((((ups y (2 ^ j)).map gC).map (V.int .i64)).length : Nat)) = true := decide_eq_true (by simp)
  have hlen3 : decide ((((((ups y (2 ^ j)).map gP).map (V.int .i64)).length : Nat) : Int) = IntKind.i64.wrap ((j : Int) - (lev y : Nat))) = true := decide_eq_true (by rw [hlen]; simp)
  repeat' first
    | (show XO _ _ _ (Oper.mk (some _) (Op.call _) _ _ _ none :: _) _ _ _; first | refine X.call (pathN H hj hy _) ?_ | refine X.call (copathN H hj hy _) ?_ | refine X.call (levelR H hj _) ?_ | refine X.call (levelN H hj hy _) ?_)
    | (show XO _ _ _ (Oper.mk (some _) _ _ _ _ none :: _) _ _ _; first | refine X.go rfl ?_ | refine X.shl rfl rfl (by first | omega | exact Int.natCast_nonneg _) ?_ | refine X.shr rfl rfl (by first | omega | exact Int.natCast_nonneg _) ?_)
    | (show XO _ _ _ (Oper.mk _ _ _ _ _ (some _) :: _) _ _ _; first | refine X.gy rfl rfl ?_ | refine X.gn rfl rfl rfl ?_ | refine X.gu rfl rfl ?_ | refine X.gk true rfl (vB (by first | (simp only [hlen2, hlen3, Bool.not_true]; done) | exact decide_eq_true (by omega))) ?_ | refine X.gk false rfl (vB (by first | (simp only [hlen2, hlen3, Bool.not_true]; done) | exact decide_eq_true (by omega))) ?_ | refine X.gs rfl rfl (fun h => ?_) (fun h => ?_))
    | (show XO _ _ _ (Oper.mk none _ _ _ _ none :: _) _ _ _; refine X.st rfl ?_)
    | (show XO _ _ _ [] _ _ _; refine X.nil ?_)
    | (show AO _ _ _ (Oper.mk (some _) (Op.call _) _ _ _ none :: _) _ _ _; first | refine A.call (pathN H hj hy _) ?_ | refine A.call (copathN H hj hy _) ?_ | refine A.call (levelR H hj _) ?_ | refine A.call (levelN H hj hy _) ?_)
    | (show AO _ _ _ (Oper.mk (some _) _ _ _ _ none :: _) _ _ _; first | refine A.go rfl ?_ | refine A.shl rfl rfl (by first | omega | exact Int.natCast_nonneg _) ?_ | refine A.shr rfl rfl (by first | omega | exact Int.natCast_nonneg _) ?_)
    | (show AO _ _ _ (Oper.mk _ _ _ _ _ (some _) :: _) _ _ _; first | refine A.gy rfl rfl ?_ | refine A.gn rfl rfl rfl ?_ | refine A.gu rfl rfl ?_ | refine A.gk true rfl (vB (by first | (simp only [hlen2, hlen3, Bool.not_true]; done) | exact decide_eq_true (by omega))) ?_ | refine A.gk false rfl (vB (by first | (simp only [hlen2, hlen3, Bool.not_true]; done) | exact decide_eq_true (by omega))) ?_ | refine A.gs rfl rfl (fun h => ?_) (fun h => ?_))
    | (show AO _ _ _ [] _ _ _; refine A.nil ?_)
    | (show CW _ _ _ _ (Code.seq (Code.region _ _ false) _) _ _ _; refine W.rq ?_)
    | (show CW _ _ _ _ (Code.region _ _ false) _ _ _; refine W.rz ?_)
    | (show CW _ _ _ _ (Code.seq (Code.region _ _ true) _) _ _ _; first | refine W.dq 0 ?_ | refine W.dq 1 ?_ | refine W.dq 2 ?_ | refine W.dq 3 ?_ | refine W.dq 4 ?_ | refine W.dq 5 ?_ | refine W.dq 6 ?_ | refine W.dq 7 ?_ | refine W.dq 8 ?_ | refine W.dq 9 ?_ | refine W.dq 10 ?_ | refine W.dq 11 ?_ | refine W.dq 12 ?_ | refine W.dq 13 ?_ | refine W.dq 14 ?_ | refine W.dq 15 ?_)
    | (show CW _ _ _ _ (Code.region _ _ true) _ _ _; first | refine W.dz 0 ?_ | refine W.dz 1 ?_ | refine W.dz 2 ?_ | refine W.dz 3 ?_ | refine W.dz 4 ?_ | refine W.dz 5 ?_ | refine W.dz 6 ?_ | refine W.dz 7 ?_ | refine W.dz 8 ?_ | refine W.dz 9 ?_ | refine W.dz 10 ?_ | refine W.dz 11 ?_ | refine W.dz 12 ?_ | refine W.dz 13 ?_ | refine W.dz 14 ?_ | refine W.dz 15 ?_)
    | (show CW _ _ _ _ _ _ _ _; first | refine W.kr ?_ | refine W.kn ?_ | refine W.ke ?_ | refine W.ct rfl ?_ | refine W.cf rfl ?_ | refine W.ct (vB (by first | (simp only [hlen2, hlen3, Bool.not_true]; done) | exact decide_eq_true (by omega))) ?_ | refine W.cf (vB (by first | (simp only [hlen2, hlen3, Bool.not_true]; done) | exact decide_eq_true (by omega))) ?_ | refine W.cd rfl (fun h => ?_) (fun h => ?_) | refine W.bl ?_ | refine W.sq ?_)
    | (show KO _ _ _ _; first | refine K.sn ?_ | refine K.sr ?_ | refine K.se ?_ | refine K.bn ?_ | refine K.br ?_ | refine K.be ?_ | refine K.bx rfl ?_ | refine K.lr ?_ | refine K.le ?_)
    | (show KO _ _ _ _; first | refine K.ya rfl ?_)
    | refine K.nx ?_
    | refine K.re ?_
    | refine K.dr ?_
  refine W.lp (fun m st => st.env 5 = .bool true ∧ st.env 6 = .int .i64 ((2 ^ j : Nat) : Int) ∧ st.env 9 = slV ((ups y (2 ^ j)).map gP) ∧ st.env 11 = slV ((ups y (2 ^ j)).map gC) ∧ st.L = [] ∧
    ∃ (z : Nat) (done : List (Nat × Nat)), st.env 8 = .int .i64 z ∧ st.env 13 = .int .i64 (done.length : Nat) ∧ z < 2 * 2 ^ j - 1 ∧ ups y (2 ^ j) = done ++ ups z (2 ^ j) ∧ m = 11 - lev z)
    (11 - lev y) ⟨rfl, rfl, rfl, rfl, rfl, y, [], rfl, rfl, hy, rfl, rfl⟩ ?_
  rintro m env L ⟨e5, e6, e9, e11, rfl, z, done, e8, e13, hz, hd, rfl⟩
  refine W.ev 13 e13 ?_
  refine W.ev 11 e11 ?_
  refine W.ev 9 e9 ?_
  refine W.ev 8 e8 ?_
  refine W.ev 6 e6 ?_
  refine W.ev 5 e5 ?_
  have hlen4 : ((((ups y (2 ^ j)).map gP).map (V.int .i64)).length) = done.length + (ups z (2 ^ j)).length := by simp [hd]
  have hdl : done.length ≤ 11 := by
    have := ups_len y (2 ^ j)
    rw [hd, List.length_append] at this
    omega
  by_cases hr : z + 1 = 2 ^ j
  · have hend : decide (((done.length : Nat) : Int) < ((((ups y (2 ^ j)).map gP).map (V.int .i64)).length : Nat)) = false := decide_eq_false (by rw [hlen4, ups_end hj hr]; simp)
    have f1 : leavesV (z : Nat) = (0, ((2 ^ j : Nat) : Int) - 1) := by
      rw [show ((z : Nat) : Int) = ((2 ^ j : Nat) : Int) - 1 by omega]
      exact of_decide_eq_true (root_leaves j hj)
    have hlv := leaves H (z : Nat) ([] : List Go.Pv.Obj)
    rw [f1] at hlv
    have f2 : decide ((z : Int) = IntKind.i64.wrap (((2 ^ j : Nat) : Int) - 1)) = true := decide_eq_true (by rw [IntKind.wrap_i64]; omega)
    have f3 : decide (((2 ^ j : Nat) : Int) - 1 = IntKind.i64.wrap (((2 ^ j : Nat) : Int) - 1)) = true := decide_eq_true (by rw [IntKind.wrap_i64]; omega)
    repeat' first
      | (show XO _ _ _ (Oper.mk (some _) (Op.call _) _ _ _ none :: _) _ _ _; first | refine X.call (hlv) ?_)
      | (show XO _ _ _ (Oper.mk (some _) _ _ _ _ none :: _) _ _ _; first | refine X.go rfl ?_ | refine X.shl rfl rfl (by first | omega | exact Int.natCast_nonneg _) ?_ | refine X.shr rfl rfl (by first | omega | exact Int.natCast_nonneg _) ?_)
      | (show XO _ _ _ (Oper.mk _ _ _ _ _ (some _) :: _) _ _ _; first | refine X.gy rfl rfl ?_ | refine X.gn rfl rfl rfl ?_ | refine X.gu rfl rfl ?_ | refine X.gk true rfl (vB (by first | (simp only [hend]; done) | (simp only [f2]; done) | (simp only [f3]; done) | exact decide_eq_true (by omega))) ?_ | refine X.gk false rfl (vB (by first | (simp only [hend]; done) | (simp only [f2]; done) | (simp only [f3]; done) | exact decide_eq_true (by omega))) ?_ | refine X.gs rfl rfl (fun h => ?_) (fun h => ?_))
      | (show XO _ _ _ (Oper.mk none _ _ _ _ none :: _) _ _ _; refine X.st rfl ?_)
      | (show XO _ _ _ [] _ _ _; refine X.nil ?_)
      | (show AO _ _ _ (Oper.mk (some _) (Op.call _) _ _ _ none :: _) _ _ _; first | refine A.call (hlv) ?_)
      | (show AO _ _ _ (Oper.mk (some _) _ _ _ _ none :: _) _ _ _; first | refine A.go rfl ?_ | refine A.shl rfl rfl (by first | omega | exact Int.natCast_nonneg _) ?_ | refine A.shr rfl rfl (by first | omega | exact Int.natCast_nonneg _) ?_)
      | (show AO _ _ _ (Oper.mk _ _ _ _ _ (some _) :: _) _ _ _; first | refine A.gy rfl rfl ?_ | refine A.gn rfl rfl rfl ?_ | refine A.gu rfl rfl ?_ | refine A.gk true rfl (vB (by first | (simp only [hend]; done) | (simp only [f2]; done) | (simp only [f3]; done) | exact decide_eq_true (by omega))) ?_ | refine A.gk false rfl (vB (by first | (simp only [hend]; done) | (simp only [f2]; done) | (simp only [f3]; done) | exact decide_eq_true (by omega))) ?_ | refine A.gs rfl rfl (fun h => ?_) (fun h => ?_))
      | (show AO _ _ _ [] _ _ _; refine A.nil ?_)
      | (show CW _ _ _ _ (Code.seq (Code.region _ _ false) _) _ _ _; refine W.rq ?_)
      | (show CW _ _ _ _ (Code.region _ _ false) _ _ _; refine W.rz ?_)
      | (show CW _ _ _ _ (Code.seq (Code.region _ _ true) _) _ _ _; first | refine W.dq 0 ?_ | refine W.dq 1 ?_ | refine W.dq 2 ?_ | refine W.dq 3 ?_ | refine W.dq 4 ?_ | refine W.dq 5 ?_ | refine W.dq 6 ?_ | refine W.dq 7 ?_ | refine W.dq 8 ?_ | refine W.dq 9 ?_ | refine W.dq 10 ?_ | refine W.dq 11 ?_ | refine W.dq 12 ?_ | refine W.dq 13 ?_ | refine W.dq 14 ?_ | refine W.dq 15 ?_)
      | (show CW _ _ _ _ (Code.region _ _ true) _ _ _; first | refine W.dz 0 ?_ | refine W.dz 1 ?_ | refine W.dz 2 ?_ | refine W.dz 3 ?_ | refine W.dz 4 ?_ | refine W.dz 5 ?_ | refine W.dz 6 ?_ | refine W.dz 7 ?_ | refine W.dz 8 ?_ | refine W.dz 9 ?_ | refine W.dz 10 ?_ | refine W.dz 11 ?_ | refine W.dz 12 ?_ | refine W.dz 13 ?_ | refine W.dz 14 ?_ | refine W.dz 15 ?_)
      | (show CW _ _ _ _ _ _ _ _; first | refine W.kr ?_ | refine W.kn ?_ | refine W.ke ?_ | refine W.ct rfl ?_ | refine W.cf rfl ?_ | refine W.ct (vB (by first | (simp only [hend]; done) | (simp only [f2]; done) | (simp only [f3]; done) | exact decide_eq_true (by omega))) ?_ | refine W.cf (vB (by first | (simp only [hend]; done) | (simp only [f2]; done) | (simp only [f3]; done) | exact decide_eq_true (by omega))) ?_ | refine W.cd rfl (fun h => ?_) (fun h => ?_) | refine W.bl ?_ | refine W.sq ?_)
      | (show KO _ _ _ _; first | refine K.sn ?_ | refine K.sr ?_ | refine K.se ?_ | refine K.bn ?_ | refine K.br ?_ | refine K.be ?_ | refine K.bx rfl ?_ | refine K.lr ?_ | refine K.le ?_)
      | (show KO _ _ _ _; first | refine K.ya rfl ?_)
      | refine K.nx ?_
      | refine K.re ?_
      | refine K.dr ?_
    exact end_data rfl rfl (vB f3)
  · have hgo : decide (((done.length : Nat) : Int) < ((((ups y (2 ^ j)).map gP).map (V.int .i64)).length : Nat)) = true := decide_eq_true (by rw [hlen4, ups_step hj hz hr, List.length_cons]; omega)
    have hu := up_node j hj z hz hr
    have hn1 : (((ups y (2 ^ j)).map gP).map (V.int .i64))[done.length]? = some (V.int .i64 (upN z : Nat)) := by rw [hd, ups_step hj hz hr]; simp [gP]
    have hn2 : (((ups y (2 ^ j)).map gC).map (V.int .i64))[done.length]? = some (V.int .i64 (2 * (upN z : Nat) - z)) := by rw [hd, ups_step hj hz hr]; simp [gC]
    obtain ⟨q1, q2, q3, q4, q5, q6⟩ := leaves_up j hj z hz hr
    have hl1 := leaves H (z : Nat) ([] : List Go.Pv.Obj)
    have hl2 := leaves H (upN z : Nat) ([] : List Go.Pv.Obj)
    generalize leavesV (z : Nat) = lz at *
    generalize leavesV (upN z : Nat) = lu at *
    have f1 : decide (IntKind.i64.wrap (IntKind.i64.wrap (lu.2 - lu.1) + 1) = IntKind.i64.wrap (2 * IntKind.i64.wrap (IntKind.i64.wrap (lz.2 - lz.1) + 1))) = true :=
      decide_eq_true (by rw [IntKind.wrap_i64, IntKind.wrap_i64, IntKind.wrap_i64, IntKind.wrap_i64, IntKind.wrap_i64]; omega)
    have f2 : decide (lu.1 > lz.1) = false := decide_eq_false (by omega)
    have f3 : decide (lu.2 < lz.2) = false := decide_eq_false (by omega)
    repeat' first
      | (show XO _ _ _ (Oper.mk (some _) (Op.call _) _ _ _ none :: _) _ _ _; first | refine X.call (parN H hj hz hr _) ?_ | refine X.call (sibN H hj hz hr _) ?_ | refine X.call (hl1) ?_ | refine X.call (hl2) ?_)
      | (show XO _ _ _ (Oper.mk (some _) _ _ _ _ none :: _) _ _ _; first | refine X.ias done.length rfl rfl hn1 ?_ | refine X.ias done.length rfl rfl hn2 ?_ | refine X.go rfl ?_ | refine X.shl rfl rfl (by first | omega | exact Int.natCast_nonneg _) ?_ | refine X.shr rfl rfl (by first | omega | exact Int.natCast_nonneg _) ?_)
      | (show XO _ _ _ (Oper.mk _ _ _ _ _ (some _) :: _) _ _ _; first | refine X.gy rfl rfl ?_ | refine X.gn rfl rfl rfl ?_ | refine X.gu rfl rfl ?_ | refine X.gk true rfl (vB (by first | (simp only [hgo]; done) | (simp only [f1, Bool.not_true]; done) | (simp only [f2]; done) | (simp only [f3]; done) | (simp only [decide_true, Bool.not_true]; done) | exact decide_eq_true (by omega))) ?_ | refine X.gk false rfl (vB (by first | (simp only [hgo]; done) | (simp only [f1, Bool.not_true]; done) | (simp only [f2]; done) | (simp only [f3]; done) | (simp only [decide_true, Bool.not_true]; done) | exact decide_eq_true (by omega))) ?_ | refine X.gs rfl rfl (fun h => ?_) (fun h => ?_))
      | (show XO _ _ _ (Oper.mk none _ _ _ _ none :: _) _ _ _; refine X.st rfl ?_)
      | (show XO _ _ _ [] _ _ _; refine X.nil ?_)
      | (show AO _ _ _ (Oper.mk (some _) (Op.call _) _ _ _ none :: _) _ _ _; first | refine A.call (parN H hj hz hr _) ?_ | refine A.call (sibN H hj hz hr _) ?_ | refine A.call (hl1) ?_ | refine A.call (hl2) ?_)
      | (show AO _ _ _ (Oper.mk (some _) _ _ _ _ none :: _) _ _ _; first | refine A.ias done.length rfl rfl hn1 ?_ | refine A.ias done.length rfl rfl hn2 ?_ | refine A.go rfl ?_ | refine A.shl rfl rfl (by first | omega | exact Int.natCast_nonneg _) ?_ | refine A.shr rfl rfl (by first | omega | exact Int.natCast_nonneg _) ?_)
      | (show AO _ _ _ (Oper.mk _ _ _ _ _ (some _) :: _) _ _ _; first | refine A.gy rfl rfl ?_ | refine A.gn rfl rfl rfl ?_ | refine A.gu rfl rfl ?_ | refine A.gk true rfl (vB (by first | (simp only [hgo]; done) | (simp only [f1, Bool.not_true]; done) | (simp only [f2]; done) | (simp only [f3]; done) | (simp only [decide_true, Bool.not_true]; done) | exact decide_eq_true (by omega))) ?_ | refine A.gk false rfl (vB (by first | (simp only [hgo]; done) | (simp only [f1, Bool.not_true]; done) | (simp only [f2]; done) | (simp only [f3]; done) | (simp only [decide_true, Bool.not_true]; done) | exact decide_eq_true (by omega))) ?_ | refine A.gs rfl rfl (fun h => ?_) (fun h => ?_))
      | (show AO _ _ _ [] _ _ _; refine A.nil ?_)
      | (show CW _ _ _ _ (Code.seq (Code.region _ _ false) _) _ _ _; refine W.rq ?_)
      | (show CW _ _ _ _ (Code.region _ _ false) _ _ _; refine W.rz ?_)
      | (show CW _ _ _ _ (Code.seq (Code.region _ _ true) _) _ _ _; first | refine W.dq 0 ?_ | refine W.dq 1 ?_ | refine W.dq 2 ?_ | refine W.dq 3 ?_ | refine W.dq 4 ?_ | refine W.dq 5 ?_ | refine W.dq 6 ?_ | refine W.dq 7 ?_ | refine W.dq 8 ?_ | refine W.dq 9 ?_ | refine W.dq 10 ?_ | refine W.dq 11 ?_ | refine W.dq 12 ?_ | refine W.dq 13 ?_ | refine W.dq 14 ?_ | refine W.dq 15 ?_)
      | (show CW _ _ _ _ (Code.region _ _ true) _ _ _; first | refine W.dz 0 ?_ | refine W.dz 1 ?_ | refine W.dz 2 ?_ | refine W.dz 3 ?_ | refine W.dz 4 ?_ | refine W.dz 5 ?_ | refine W.dz 6 ?_ | refine W.dz 7 ?_ | refine W.dz 8 ?_ | refine W.dz 9 ?_ | refine W.dz 10 ?_ | refine W.dz 11 ?_ | refine W.dz 12 ?_ | refine W.dz 13 ?_ | refine W.dz 14 ?_ | refine W.dz 15 ?_)
      | (show CW _ _ _ _ _ _ _ _; first | refine W.kr ?_ | refine W.kn ?_ | refine W.ke ?_ | refine W.ct rfl ?_ | refine W.cf rfl ?_ | refine W.ct (vB (by first | (simp only [hgo]; done) | (simp only [f1, Bool.not_true]; done) | (simp only [f2]; done) | (simp only [f3]; done) | (simp only [decide_true, Bool.not_true]; done) | exact decide_eq_true (by omega))) ?_ | refine W.cf (vB (by first | (simp only [hgo]; done) | (simp only [f1, Bool.not_true]; done) | (simp only [f2]; done) | (simp only [f3]; done) | (simp only [decide_true, Bool.not_true]; done) | exact decide_eq_true (by omega))) ?_ | refine W.cd rfl (fun h => ?_) (fun h => ?_) | refine W.bl ?_ | refine W.sq ?_)
      | (show KO _ _ _ _; first | refine K.sn ?_ | refine K.sr ?_ | refine K.se ?_ | refine K.bn ?_ | refine K.br ?_ | refine K.be ?_ | refine K.bx rfl ?_ | refine K.lr ?_ | refine K.le ?_)
      | (show KO _ _ _ _; first | refine K.ya rfl ?_)
      | refine K.nx ?_
      | refine K.re ?_
      | refine K.dr ?_
    refine K.ln (11 - lev (upN z)) (by have := lev_le (upN z) (by omega); omega) ⟨rfl, rfl, rfl, rfl, rfl, upN z, done ++ [(z, upN z)], rfl, ?_, hu.1, by rw [hd, ups_step hj hz hr, List.append_assoc]; rfl, rfl⟩
    refine vI ?_
    show IntKind.i64.wrap (((done.length : Nat) : Int) + 1) = _
    rw [one_step (by omega), List.length_append]; rfl
end Go.Proofs.Mth
