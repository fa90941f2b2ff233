import Derived.Test.YthhoacanegbeaaaDoorM7
import Derived.Test.YthhoacanegbeaaaDoorPv25
set_option linter.unusedVariables false
set_option linter.unusedSimpArgs false
set_option maxHeartbeats 4000000
namespace Go.Proofs.Mth
open Go Go.Pv Go.Proofs Go.Shelf
variable {Z : Nat → Go.Obj → Prop}
theorem twice_tab : ∀ j, j < 10 → ∀ y, y < 2 * 2 ^ j - 1 → (ups y (2 ^ (j + 1))).map gP = (ups y (2 ^ j)).map gP ++ [2 * ((2 ^ j : Nat) : Int) - 1] ∧ (ups y (2 ^ (j + 1))).map gC = (ups y (2 ^ j)).map gC ++ [3 * ((2 ^ j : Nat) : Int) - 1] := by
  have h : ((List.range 10).all fun j => (List.range (2 * 2 ^ j - 1)).all fun y => decide ((ups y (2 ^ (j + 1))).map gP = (ups y (2 ^ j)).map gP ++ [2 * ((2 ^ j : Nat) : Int) - 1] ∧ (ups y (2 ^ (j + 1))).map gC = (ups y (2 ^ j)).map gC ++ [3 * ((2 ^ j : Nat) : Int) - 1])) = true := by kernel_rfl
  intro j hj x hx
  exact of_decide_eq_true (all_lt (all_lt h j hj) x hx)
theorem rem10 {k : Nat} (h : k < 256) : (IntKind.i64.wrap (k : Int)).tmod 10 = ((k % 10 : Nat) : Int) := by
  rw [w64N (by omega)]; rfl
theorem wr2 (m : Int) (h0 : 0 ≤ m) (h1 : m ≤ 2000) : decide (2 * m - 1 = IntKind.i64.wrap (IntKind.i64.wrap (2 * m) - 1)) = true := by
  have e : IntKind.i64.wrap (2 * m) = 2 * m := by rw [IntKind.wrap_i64]; omega
  have e' : IntKind.i64.wrap (2 * m - 1) = 2 * m - 1 := by rw [IntKind.wrap_i64]; omega
  rw [e, e']; exact decide_eq_true rfl
theorem wr3 (m : Int) (h0 : 0 ≤ m) (h1 : m ≤ 2000) : decide (3 * m - 1 = IntKind.i64.wrap (IntKind.i64.wrap (3 * m) - 1)) = true := by
  have e : IntKind.i64.wrap (3 * m) = 3 * m := by rw [IntKind.wrap_i64]; omega
  have e' : IntKind.i64.wrap (3 * m - 1) = 3 * m - 1 := by rw [IntKind.wrap_i64]; omega
  rw [e, e']; exact decide_eq_true rfl
theorem ints_ok1 (l : List Int) : (l.map (V.int .i64)).all (fun y => y.cells.length == 1) = true := by
  simp [V.cells]

theorem twice_walk (H : ZT Z) (x k : Nat) (hx : x < 65536) (hk : k < 256) : SE Tryd.prog Z 5 [.int .u16 x, .int .u8 k] [] (.bool true) [] := by
  refine SE.data H.z Tryd.func5 rfl ?_
  repeat' first
    | (show XO _ _ _ (Oper.mk (some _) (Op.call _) _ _ _ none :: _) _ _ _; first | refine X.call (shown H _) ?_)
    | (show XO _ _ _ (Oper.mk (some _) _ _ _ _ none :: _) _ _ _; first | refine X.go rfl ?_ | refine X.shl rfl rfl (by first | omega | exact Int.natCast_nonneg _) ?_ | refine X.shr rfl rfl (by first | omega | exact Int.natCast_nonneg _) ?_)
    | (show XO _ _ _ (Oper.mk _ _ _ _ _ (some _) :: _) _ _ _; first | refine X.gy rfl rfl ?_ | refine X.gn rfl rfl rfl ?_ | refine X.gu rfl rfl ?_ | refine X.gs rfl rfl (fun h => ?_) (fun h => ?_))
    | (show XO _ _ _ (Oper.mk none _ _ _ _ none :: _) _ _ _; refine X.st rfl ?_)
    | (show XO _ _ _ [] _ _ _; refine X.nil ?_)
    | (show AO _ _ _ (Oper.mk (some _) (Op.call _) _ _ _ none :: _) _ _ _; first | refine A.call (shown H _) ?_)
    | (show AO _ _ _ (Oper.mk (some _) _ _ _ _ none :: _) _ _ _; first | refine A.go rfl ?_ | refine A.shl rfl rfl (by first | omega | exact Int.natCast_nonneg _) ?_ | refine A.shr rfl rfl (by first | omega | exact Int.natCast_nonneg _) ?_)
    | (show AO _ _ _ (Oper.mk _ _ _ _ _ (some _) :: _) _ _ _; first | refine A.gy rfl rfl ?_ | refine A.gn rfl rfl rfl ?_ | refine A.gu rfl rfl ?_ | refine A.gs rfl rfl (fun h => ?_) (fun h => ?_))
    | (show AO _ _ _ [] _ _ _; refine A.nil ?_)
    | (show CW _ _ _ _ (Code.seq (Code.region _ _ false) _) _ _ _; refine W.rq ?_)
    | (show CW _ _ _ _ (Code.region _ _ false) _ _ _; refine W.rz ?_)
    | (show CW _ _ _ _ (Code.seq (Code.region _ _ true) _) _ _ _; first | refine W.dq 0 ?_ | refine W.dq 1 ?_ | refine W.dq 2 ?_ | refine W.dq 3 ?_ | refine W.dq 4 ?_ | refine W.dq 5 ?_ | refine W.dq 6 ?_ | refine W.dq 7 ?_ | refine W.dq 8 ?_ | refine W.dq 9 ?_ | refine W.dq 10 ?_ | refine W.dq 11 ?_ | refine W.dq 12 ?_ | refine W.dq 13 ?_ | refine W.dq 14 ?_ | refine W.dq 15 ?_)
    | (show CW _ _ _ _ (Code.region _ _ true) _ _ _; first | refine W.dz 0 ?_ | refine W.dz 1 ?_ | refine W.dz 2 ?_ | refine W.dz 3 ?_ | refine W.dz 4 ?_ | refine W.dz 5 ?_ | refine W.dz 6 ?_ | refine W.dz 7 ?_ | refine W.dz 8 ?_ | refine W.dz 9 ?_ | refine W.dz 10 ?_ | refine W.dz 11 ?_ | refine W.dz 12 ?_ | refine W.dz 13 ?_ | refine W.dz 14 ?_ | refine W.dz 15 ?_)
    | (show CW _ _ _ _ _ _ _ _; first | refine W.kr ?_ | refine W.kn ?_ | refine W.ke ?_ | refine W.ct rfl ?_ | refine W.cf rfl ?_ | refine W.cd rfl (fun h => ?_) (fun h => ?_) | refine W.bl ?_ | refine W.sq ?_)
    | (show KO _ _ _ _; first | refine K.sn ?_ | refine K.sr ?_ | refine K.se ?_ | refine K.bn ?_ | refine K.br ?_ | refine K.be ?_ | refine K.bx rfl ?_ | refine K.lr ?_ | refine K.le ?_)
    | (show KO _ _ _ _; first | refine K.ya rfl ?_)
    | refine K.nx ?_
    | refine K.re ?_
    | refine K.dr ?_
  have hj : k % 10 < 11 := by omega
  refine W.lp (fun m st => st.env 0 = .int .u16 x ∧ st.env 1 = .int .u8 k ∧ st.env 5 = .bool true ∧ st.L = [] ∧ ∃ i : Nat, st.env 7 = .int .i64 i ∧ st.env 6 = .int .i64 ((2 ^ i : Nat) : Int) ∧ i ≤ k % 10 ∧ m = k % 10 - i)
    (k % 10) ⟨rfl, rfl, rfl, rfl, 0, rfl, rfl, Nat.zero_le _, rfl⟩ ?_
  rintro m env L ⟨e0, e1, eu, rfl, i, ei, en, hi, rfl⟩
  refine W.ev 6 en ?_
  refine W.ev 7 ei ?_
  refine W.ev 5 eu ?_
  refine W.ev 1 e1 ?_
  refine W.ev 0 e0 ?_
  repeat' first
    | (show XO _ _ _ (Oper.mk (some _) (Op.call _) _ _ _ none :: _) _ _ _; first | fail)
    | (show XO _ _ _ (Oper.mk (some _) _ _ _ _ none :: _) _ _ _; first | refine X.go rfl ?_ | refine X.shl rfl rfl (by first | omega | exact Int.natCast_nonneg _) ?_ | refine X.shr rfl rfl (by first | omega | exact Int.natCast_nonneg _) ?_)
    | (show XO _ _ _ (Oper.mk _ _ _ _ _ (some _) :: _) _ _ _; first | refine X.gy rfl rfl ?_ | refine X.gn rfl rfl rfl ?_ | refine X.gu rfl rfl ?_ | refine X.gs rfl rfl (fun h => ?_) (fun h => ?_))
    | (show XO _ _ _ (Oper.mk none _ _ _ _ none :: _) _ _ _; refine X.st rfl ?_)
    | (show XO _ _ _ [] _ _ _; refine X.nil ?_)
    | (show AO _ _ _ (Oper.mk (some _) (Op.call _) _ _ _ none :: _) _ _ _; first | fail)
    | (show AO _ _ _ (Oper.mk (some _) _ _ _ _ none :: _) _ _ _; first | refine A.go rfl ?_ | refine A.shl rfl rfl (by first | omega | exact Int.natCast_nonneg _) ?_ | refine A.shr rfl rfl (by first | omega | exact Int.natCast_nonneg _) ?_)
    | (show AO _ _ _ (Oper.mk _ _ _ _ _ (some _) :: _) _ _ _; first | refine A.gy rfl rfl ?_ | refine A.gn rfl rfl rfl ?_ | refine A.gu rfl rfl ?_ | refine A.gs rfl rfl (fun h => ?_) (fun h => ?_))
    | (show AO _ _ _ [] _ _ _; refine A.nil ?_)
    | (show CW _ _ _ _ (Code.seq (Code.region _ _ false) _) _ _ _; refine W.rq ?_)
    | (show CW _ _ _ _ (Code.region _ _ false) _ _ _; refine W.rz ?_)
    | (show CW _ _ _ _ (Code.seq (Code.region _ _ true) _) _ _ _; first | refine W.dq 0 ?_ | refine W.dq 1 ?_ | refine W.dq 2 ?_ | refine W.dq 3 ?_ | refine W.dq 4 ?_ | refine W.dq 5 ?_ | refine W.dq 6 ?_ | refine W.dq 7 ?_ | refine W.dq 8 ?_ | refine W.dq 9 ?_ | refine W.dq 10 ?_ | refine W.dq 11 ?_ | refine W.dq 12 ?_ | refine W.dq 13 ?_ | refine W.dq 14 ?_ | refine W.dq 15 ?_)
    | (show CW _ _ _ _ (Code.region _ _ true) _ _ _; first | refine W.dz 0 ?_ | refine W.dz 1 ?_ | refine W.dz 2 ?_ | refine W.dz 3 ?_ | refine W.dz 4 ?_ | refine W.dz 5 ?_ | refine W.dz 6 ?_ | refine W.dz 7 ?_ | refine W.dz 8 ?_ | refine W.dz 9 ?_ | refine W.dz 10 ?_ | refine W.dz 11 ?_ | refine W.dz 12 ?_ | refine W.dz 13 ?_ | refine W.dz 14 ?_ | refine W.dz 15 ?_)
    | (show CW _ _ _ _ _ _ _ _; first | refine W.kr ?_ | refine W.kn ?_ | refine W.ke ?_ | refine W.ct rfl ?_ | refine W.cf rfl ?_ | refine W.cd rfl (fun h => ?_) (fun h => ?_) | refine W.bl ?_ | refine W.sq ?_)
    | (show KO _ _ _ _; first | refine K.sn ?_ | refine K.sr ?_ | refine K.se ?_ | refine K.bn ?_ | refine K.br ?_ | refine K.be ?_ | refine K.bx rfl ?_ | refine K.lr ?_ | refine K.le ?_)
    | (show KO _ _ _ _; first | refine K.ya rfl ?_)
    | refine K.nx ?_
    | refine K.re ?_
    | refine K.dr ?_
  · rw [rem10 hk] at h
    have h := of_decide_eq_true h
    refine K.ln (k % 10 - (i + 1)) (by omega) ⟨rfl, rfl, rfl, rfl, i + 1, ?_, ?_, by omega, rfl⟩
    · exact vI (one_step (by omega))
    · exact vI (two_step hj (by omega))
  rw [rem10 hk] at h
  have h := of_decide_eq_false h
  obtain rfl : i = k % 10 := by omega
  generalize hjj : k % 10 = j at *
  have hb := two_pow_bound hj
  refine X.rem (c := ((x % (2 * 2 ^ j - 1) : Nat) : Int)) rfl rfl ?_ ?_ ?_
  · rw [IntKind.wrap_i64, IntKind.wrap_i64]; omega
  · rw [w64N (by omega), show IntKind.i64.wrap (IntKind.i64.wrap (2 * ((2 ^ j : Nat) : Int)) - 1) = ((2 * 2 ^ j - 1 : Nat) : Int) by rw [IntKind.wrap_i64, IntKind.wrap_i64]; omega]
    rfl
  have hy : x % (2 * 2 ^ j - 1) < 2 * 2 ^ j - 1 := Nat.mod_lt _ (by omega)
  generalize x % (2 * 2 ^ j - 1) = y at *
  have hj10 : j < 10 := by omega
  have hb' := two_pow_bound (j := j + 1) (by omega)
  have e2 : IntKind.i64.wrap (2 * ((2 ^ j : Nat) : Int)) = ((2 ^ (j + 1) : Nat) : Int) := two_step (j := j + 1) (by omega) (by omega)
  have hy2 : y < 2 * 2 ^ (j + 1) - 1 := by rw [Nat.pow_succ]; omega
  have c1 := pathN H hj hy ([] : List Go.Pv.Obj)
  have c2 := pathN H (j := j + 1) (by omega) hy2 ([] : List Go.Pv.Obj)
  have c3 := copathN H hj hy ([] : List Go.Pv.Obj)
  have c4 := copathN H (j := j + 1) (by omega) hy2 ([] : List Go.Pv.Obj)
  obtain ⟨t1, t2⟩ := twice_tab j hj10 y hy
  rw [t1] at c2
  rw [t2] at c4
  rw [← e2] at c2 c4
  have hp1 : ((ups y (2 ^ j)).map gP).length ≤ 11 := by rw [List.length_map]; exact ups_len _ _
  have hp2 : ((ups y (2 ^ j)).map gC).length ≤ 11 := by rw [List.length_map]; exact ups_len _ _
  generalize (ups y (2 ^ j)).map gP = p at *
  generalize (ups y (2 ^ j)).map gC = c at *
  have f1 : decide (((((p ++ [2 * ((2 ^ j : Nat) : Int) - 1]).map (V.int .i64)).length : Nat) : Int) = IntKind.i64.wrap ((((p.map (V.int .i64)).length : Nat) : Int) + 1)) = true :=
    decide_eq_true (by rw [one_step (by rw [List.length_map]; omega)]; simp)
  have f2 : decide (((((c ++ [3 * ((2 ^ j : Nat) : Int) - 1]).map (V.int .i64)).length : Nat) : Int) = IntKind.i64.wrap ((((c.map (V.int .i64)).length : Nat) : Int) + 1)) = true :=
    decide_eq_true (by rw [one_step (by rw [List.length_map]; omega)]; simp)
  have s1 : ((p ++ [2 * ((2 ^ j : Nat) : Int) - 1]).map (V.int .i64)).take (p.map (V.int .i64)).length = p.map (V.int .i64) := by simp
  have s2 : ((c ++ [3 * ((2 ^ j : Nat) : Int) - 1]).map (V.int .i64)).take (c.map (V.int .i64)).length = c.map (V.int .i64) := by simp
  have l1 : (p.map (V.int .i64)).length ≤ ((p ++ [2 * ((2 ^ j : Nat) : Int) - 1]).map (V.int .i64)).length := by simp
  have l2 : (c.map (V.int .i64)).length ≤ ((c ++ [3 * ((2 ^ j : Nat) : Int) - 1]).map (V.int .i64)).length := by simp
  have n1 : ((p ++ [2 * ((2 ^ j : Nat) : Int) - 1]).map (V.int .i64))[(p.map (V.int .i64)).length]? = some (V.int .i64 (2 * ((2 ^ j : Nat) : Int) - 1)) := by simp
  have n2 : ((c ++ [3 * ((2 ^ j : Nat) : Int) - 1]).map (V.int .i64))[(c.map (V.int .i64)).length]? = some (V.int .i64 (3 * ((2 ^ j : Nat) : Int) - 1)) := by simp
  have i1 : ∀ n x n' x', SE Tryd.prog Z 19 [.sl n x (p.map (V.int .i64)), .sl n' x' (p.map (V.int .i64))] [] (.bool true) [] := fun n x n' x' => by
    have := ints0 H p p n x n' x' (by omega) []
    rwa [decide_eq_true rfl] at this
  have i2 : ∀ n x n' x', SE Tryd.prog Z 19 [.sl n x (c.map (V.int .i64)), .sl n' x' (c.map (V.int .i64))] [] (.bool true) [] := fun n x n' x' => by
    have := ints0 H c c n x n' x' (by omega) []
    rwa [decide_eq_true rfl] at this
  have g1 : decide (2 * ((2 ^ j : Nat) : Int) - 1 = IntKind.i64.wrap (IntKind.i64.wrap (2 * ((2 ^ j : Nat) : Int)) - 1)) = true := wr2 _ (by omega) (by omega)
  have g2 : decide (3 * ((2 ^ j : Nat) : Int) - 1 = IntKind.i64.wrap (IntKind.i64.wrap (3 * ((2 ^ j : Nat) : Int)) - 1)) = true := wr3 _ (by omega) (by omega)
  repeat' first
    | (show XO _ _ _ (Oper.mk (some _) (Op.call _) _ _ _ none :: _) _ _ _; first | refine X.call (c1) ?_ | refine X.call (c2) ?_ | refine X.call (c3) ?_ | refine X.call (c4) ?_ | refine X.call (i1 _ _ _ _) ?_ | refine X.call (i2 _ _ _ _) ?_)
    | (show XO _ _ _ (Oper.mk (some _) _ _ _ _ none :: _) _ _ _; first | refine X.slc (p.map (V.int .i64)).length rfl rfl l1 s1 (ints_ok1 _) ?_ | refine X.slc (c.map (V.int .i64)).length rfl rfl l2 s2 (ints_ok1 _) ?_ | refine X.ias (p.map (V.int .i64)).length rfl rfl n1 ?_ | refine X.ias (c.map (V.int .i64)).length rfl rfl n2 ?_ | refine X.go rfl ?_ | refine X.shl rfl rfl (by first | omega | exact Int.natCast_nonneg _) ?_ | refine X.shr rfl rfl (by first | omega | exact Int.natCast_nonneg _) ?_)
    | (show XO _ _ _ (Oper.mk _ _ _ _ _ (some _) :: _) _ _ _; first | refine X.gy rfl rfl ?_ | refine X.gn rfl rfl rfl ?_ | refine X.gu rfl rfl ?_ | refine X.gk true rfl (vB (by first | (simp only [f1, Bool.not_true]; done) | (simp only [f2, Bool.not_true]; done) | (simp only [g1]; done) | (simp only [g2]; done) | exact decide_eq_true (by omega))) ?_ | refine X.gk false rfl (vB (by first | (simp only [f1, Bool.not_true]; done) | (simp only [f2, Bool.not_true]; done) | (simp only [g1]; done) | (simp only [g2]; done) | exact decide_eq_true (by omega))) ?_ | refine X.gs rfl rfl (fun h => ?_) (fun h => ?_))
    | (show XO _ _ _ (Oper.mk none _ _ _ _ none :: _) _ _ _; refine X.st rfl ?_)
    | (show XO _ _ _ [] _ _ _; refine X.nil ?_)
    | (show AO _ _ _ (Oper.mk (some _) (Op.call _) _ _ _ none :: _) _ _ _; first | refine A.call (c1) ?_ | refine A.call (c2) ?_ | refine A.call (c3) ?_ | refine A.call (c4) ?_ | refine A.call (i1 _ _ _ _) ?_ | refine A.call (i2 _ _ _ _) ?_)
    | (show AO _ _ _ (Oper.mk (some _) _ _ _ _ none :: _) _ _ _; first | refine A.slc (p.map (V.int .i64)).length rfl rfl l1 s1 (ints_ok1 _) ?_ | refine A.slc (c.map (V.int .i64)).length rfl rfl l2 s2 (ints_ok1 _) ?_ | refine A.ias (p.map (V.int .i64)).length rfl rfl n1 ?_ | refine A.ias (c.map (V.int .i64)).length rfl rfl n2 ?_ | refine A.go rfl ?_ | refine A.shl rfl rfl (by first | omega | exact Int.natCast_nonneg _) ?_ | refine A.shr rfl rfl (by first | omega | exact Int.natCast_nonneg _) ?_)
    | (show AO _ _ _ (Oper.mk _ _ _ _ _ (some _) :: _) _ _ _; first | refine A.gy rfl rfl ?_ | refine A.gn rfl rfl rfl ?_ | refine A.gu rfl rfl ?_ | refine A.gk true rfl (vB (by first | (simp only [f1, Bool.not_true]; done) | (simp only [f2, Bool.not_true]; done) | (simp only [g1]; done) | (simp only [g2]; done) | exact decide_eq_true (by omega))) ?_ | refine A.gk false rfl (vB (by first | (simp only [f1, Bool.not_true]; done) | (simp only [f2, Bool.not_true]; done) | (simp only [g1]; done) | (simp only [g2]; done) | exact decide_eq_true (by omega))) ?_ | refine A.gs rfl rfl (fun h => ?_) (fun h => ?_))
    | (show AO _ _ _ [] _ _ _; refine A.nil ?_)
    | (show CW _ _ _ _ (Code.seq (Code.region _ _ false) _) _ _ _; refine W.rq ?_)
    | (show CW _ _ _ _ (Code.region _ _ false) _ _ _; refine W.rz ?_)
    | (show CW _ _ _ _ (Code.seq (Code.region _ _ true) _) _ _ _; first | refine W.dq 0 ?_ | refine W.dq 1 ?_ | refine W.dq 2 ?_ | refine W.dq 3 ?_ | refine W.dq 4 ?_ | refine W.dq 5 ?_ | refine W.dq 6 ?_ | refine W.dq 7 ?_ | refine W.dq 8 ?_ | refine W.dq 9 ?_ | refine W.dq 10 ?_ | refine W.dq 11 ?_ | refine W.dq 12 ?_ | refine W.dq 13 ?_ | refine W.dq 14 ?_ | refine W.dq 15 ?_)
    | (show CW _ _ _ _ (Code.region _ _ true) _ _ _; first | refine W.dz 0 ?_ | refine W.dz 1 ?_ | refine W.dz 2 ?_ | refine W.dz 3 ?_ | refine W.dz 4 ?_ | refine W.dz 5 ?_ | refine W.dz 6 ?_ | refine W.dz 7 ?_ | refine W.dz 8 ?_ | refine W.dz 9 ?_ | refine W.dz 10 ?_ | refine W.dz 11 ?_ | refine W.dz 12 ?_ | refine W.dz 13 ?_ | refine W.dz 14 ?_ | refine W.dz 15 ?_)
    | (show CW _ _ _ _ _ _ _ _; first | refine W.kr ?_ | refine W.kn ?_ | refine W.ke ?_ | refine W.ct rfl ?_ | refine W.cf rfl ?_ | refine W.ct (vB (by first | (simp only [f1, Bool.not_true]; done) | (simp only [f2, Bool.not_true]; done) | (simp only [g1]; done) | (simp only [g2]; done) | exact decide_eq_true (by omega))) ?_ | refine W.cf (vB (by first | (simp only [f1, Bool.not_true]; done) | (simp only [f2, Bool.not_true]; done) | (simp only [g1]; done) | (simp only [g2]; done) | exact decide_eq_true (by omega))) ?_ | refine W.cd rfl (fun h => ?_) (fun h => ?_) | refine W.bl ?_ | refine W.sq ?_)
    | (show KO _ _ _ _; first | refine K.sn ?_ | refine K.sr ?_ | refine K.se ?_ | refine K.bn ?_ | refine K.br ?_ | refine K.be ?_ | refine K.bx rfl ?_ | refine K.lr ?_ | refine K.le ?_)
    | (show KO _ _ _ _; first | refine K.ya rfl ?_)
    | refine K.nx ?_
    | refine K.re ?_
    | refine K.dr ?_
  exact end_data rfl rfl (vB g2)
end Go.Proofs.Mth
