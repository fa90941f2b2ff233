import Derived.Test.YthhoacanegbeaaaDoorM9
set_option linter.unusedVariables false
set_option linter.unusedSimpArgs false
set_option maxHeartbeats 4000000
namespace Go.Proofs.Mth
open Go Go.Pv Go.Proofs Go.Shelf
variable {Z : Nat → Go.Obj → Prop}
theorem node_form : ∀ j, j < 11 → ∀ y, y < 2 * 2 ^ j - 1 → lev y ≤ j ∧ leavesV (y : Nat) = (((y / 2 ^ (lev y + 1) * 2 ^ lev y : Nat) : Int), ((y / 2 ^ (lev y + 1) * 2 ^ lev y + 2 ^ lev y - 1 : Nat) : Int)) ∧ y = y / 2 ^ (lev y + 1) * 2 ^ (lev y + 1) + 2 ^ lev y - 1 ∧
    (leavesV (y : Nat)).1 + (leavesV (y : Nat)).2 = y ∧ 0 ≤ (leavesV (y : Nat)).1 ∧ (leavesV (y : Nat)).2 < ((2 ^ j : Nat) : Int) := by
  have h : ((List.range 11).all fun j => (List.range (2 * 2 ^ j - 1)).all fun y => decide (lev y ≤ j ∧ leavesV (y : Nat) = (((y / 2 ^ (lev y + 1) * 2 ^ lev y : Nat) : Int), ((y / 2 ^ (lev y + 1) * 2 ^ lev y + 2 ^ lev y - 1 : Nat) : Int)) ∧ y = y / 2 ^ (lev y + 1) * 2 ^ (lev y + 1) + 2 ^ lev y - 1 ∧
    (leavesV (y : Nat)).1 + (leavesV (y : Nat)).2 = y ∧ 0 ≤ (leavesV (y : Nat)).1 ∧ (leavesV (y : Nat)).2 < ((2 ^ j : Nat) : Int))) = true := by kernel_rfl
  intro j hj x hx
  exact of_decide_eq_true (all_lt (all_lt h j hj) x hx)
theorem leaf_in {j a y : Nat} (hj : j < 11) (ha : a < 2 ^ j) (hy : y < 2 * 2 ^ j - 1) : inB (a : Int) (y : Nat) = true ↔ ((y : Nat) : Int) ∈ comL (a : Int) ((2 ^ j : Nat) : Int) := by
  have hp := two_pow_bound hj
  obtain ⟨h1, h2, h3, _⟩ := node_form j hj y hy
  rw [comL_anc hj ha]
  constructor
  · intro h
    unfold inB at h
    rw [h2] at h
    simp only [Bool.and_eq_true, decide_eq_true_eq] at h
    obtain ⟨k1, k2⟩ := h
    have k1 : y / 2 ^ (lev y + 1) * 2 ^ lev y ≤ a := Int.ofNat_le.1 k1
    have k2 : a ≤ y / 2 ^ (lev y + 1) * 2 ^ lev y + 2 ^ lev y - 1 := Int.ofNat_le.1 k2
    have hq : a / 2 ^ lev y = y / 2 ^ (lev y + 1) := by
      refine Nat.div_eq_of_lt_le k1 ?_
      have e : (y / 2 ^ (lev y + 1) + 1) * 2 ^ lev y = y / 2 ^ (lev y + 1) * 2 ^ lev y + 2 ^ lev y := Nat.succ_mul _ _
      have := pow_pos2 (lev y)
      omega
    refine List.mem_map.2 ⟨lev y, List.mem_range.2 (by omega), ?_⟩
    unfold anc
    rw [hq, ← h3]
  · intro h
    obtain ⟨k, hk, he⟩ := List.mem_map.1 h
    have hk := List.mem_range.1 hk
    rw [← he, inB_anc (by omega) (by omega), beq_self_eq_true]

theorem leaves_walk (H : ZT Z) (x z k : Nat) (hx : x < 65536) (hz : z < 65536) (hk : k < 256) : SE Tryd.prog Z 4 [.int .u16 x, .int .u16 z, .int .u8 k] [] (.bool true) [] := by
  refine SE.data H.z Tryd.func4 rfl ?_
  repeat' first
    | (show XO _ _ _ (Oper.mk (some _) (Op.call _) _ _ _ none :: _) _ _ _; first | refine X.call (shown H _) ?_)
    | (show XO _ _ _ (Oper.mk (some _) _ _ _ _ none :: _) _ _ _; first | refine X.go rfl ?_ | refine X.shl rfl rfl (by first | omega | exact Int.natCast_nonneg _) ?_ | refine X.shr rfl rfl (by first | omega | exact Int.natCast_nonneg _) ?_)
    | (show XO _ _ _ (Oper.mk _ _ _ _ _ (some _) :: _) _ _ _; first | refine X.gy rfl rfl ?_ | refine X.gn rfl rfl rfl ?_ | refine X.gu rfl rfl ?_ | refine X.gs rfl rfl (fun h => ?_) (fun h => ?_))
    | (show XO _ _ _ (Oper.mk none _ _ _ _ none :: _) _ _ _; refine X.st rfl ?_)
    | (show XO _ _ _ [] _ _ _; refine X.nil ?_)
    | (show AO _ _ _ (Oper.mk (some _) (Op.call _) _ _ _ none :: _) _ _ _; first | refine A.call (shown H _) ?_)
    | (show AO _ _ _ (Oper.mk (some _) _ _ _ _ none :: _) _ _ _; first | refine A.go rfl ?_ | refine A.shl rfl rfl (by first | omega | exact Int.natCast_nonneg _) ?_ | refine A.shr rfl rfl (by first | omega | exact Int.natCast_nonneg _) ?_)
    | (show AO _ _ _ (Oper.mk _ _ _ _ _ (some _) :: _) _ _ _; first | refine A.gy rfl rfl ?_ | refine A.gn rfl rfl rfl ?_ | refine A.gu rfl rfl ?_ | refine A.gs rfl rfl (fun h => ?_) (fun h => ?_))
    | (show AO _ _ _ [] _ _ _; refine A.nil ?_)
    | (show CW _ _ _ _ (Code.seq (Code.region _ _ false) _) _ _ _; refine W.rq ?_)
    | (show CW _ _ _ _ (Code.region _ _ false) _ _ _; refine W.rz ?_)
    | (show CW _ _ _ _ (Code.seq (Code.region _ _ true) _) _ _ _; first | refine W.dq 0 ?_ | refine W.dq 1 ?_ | refine W.dq 2 ?_ | refine W.dq 3 ?_ | refine W.dq 4 ?_ | refine W.dq 5 ?_ | refine W.dq 6 ?_ | refine W.dq 7 ?_ | refine W.dq 8 ?_ | refine W.dq 9 ?_ | refine W.dq 10 ?_ | refine W.dq 11 ?_ | refine W.dq 12 ?_ | refine W.dq 13 ?_ | refine W.dq 14 ?_ | refine W.dq 15 ?_)
    | (show CW _ _ _ _ (Code.region _ _ true) _ _ _; first | refine W.dz 0 ?_ | refine W.dz 1 ?_ | refine W.dz 2 ?_ | refine W.dz 3 ?_ | refine W.dz 4 ?_ | refine W.dz 5 ?_ | refine W.dz 6 ?_ | refine W.dz 7 ?_ | refine W.dz 8 ?_ | refine W.dz 9 ?_ | refine W.dz 10 ?_ | refine W.dz 11 ?_ | refine W.dz 12 ?_ | refine W.dz 13 ?_ | refine W.dz 14 ?_ | refine W.dz 15 ?_)
    | (show CW _ _ _ _ _ _ _ _; first | refine W.kr ?_ | refine W.kn ?_ | refine W.ke ?_ | refine W.ct rfl ?_ | refine W.cf rfl ?_ | refine W.cd rfl (fun h => ?_) (fun h => ?_) | refine W.bl ?_ | refine W.sq ?_)
    | (show KO _ _ _ _; first | refine K.sn ?_ | refine K.sr ?_ | refine K.se ?_ | refine K.bn ?_ | refine K.br ?_ | refine K.be ?_ | refine K.bx rfl ?_ | refine K.lr ?_ | refine K.le ?_)
    | (show KO _ _ _ _; first | refine K.ya rfl ?_)
    | refine K.nx ?_
    | refine K.re ?_
    | refine K.dr ?_
  have hj : k % 11 < 11 := by omega
  refine W.lp (fun m st => st.env 0 = .int .u16 x ∧ st.env 1 = .int .u16 z ∧ st.env 2 = .int .u8 k ∧ st.env 7 = .bool true ∧ st.L = [] ∧ ∃ i : Nat, st.env 9 = .int .i64 i ∧ st.env 8 = .int .i64 ((2 ^ i : Nat) : Int) ∧ i ≤ k % 11 ∧ m = k % 11 - i)
    (k % 11) ⟨rfl, rfl, rfl, rfl, rfl, 0, rfl, rfl, Nat.zero_le _, rfl⟩ ?_
  rintro m env L ⟨e0, e1, e2, eu, rfl, i, ei, en, hi, rfl⟩
  refine W.ev 8 en ?_
  refine W.ev 9 ei ?_
  refine W.ev 7 eu ?_
  refine W.ev 2 e2 ?_
  refine W.ev 1 e1 ?_
  refine W.ev 0 e0 ?_
  repeat' first
    | (show XO _ _ _ (Oper.mk (some _) (Op.call _) _ _ _ none :: _) _ _ _; first | fail)
    | (show XO _ _ _ (Oper.mk (some _) _ _ _ _ none :: _) _ _ _; first | refine X.go rfl ?_ | refine X.shl rfl rfl (by first | omega | exact Int.natCast_nonneg _) ?_ | refine X.shr rfl rfl (by first | omega | exact Int.natCast_nonneg _) ?_)
    | (show XO _ _ _ (Oper.mk _ _ _ _ _ (some _) :: _) _ _ _; first | refine X.gy rfl rfl ?_ | refine X.gn rfl rfl rfl ?_ | refine X.gu rfl rfl ?_ | refine X.gs rfl rfl (fun h => ?_) (fun h => ?_))
    | (show XO _ _ _ (Oper.mk none _ _ _ _ none :: _) _ _ _; refine X.st rfl ?_)
    | (show XO _ _ _ [] _ _ _; refine X.nil ?_)
    | (show AO _ _ _ (Oper.mk (some _) (Op.call _) _ _ _ none :: _) _ _ _; first | fail)
    | (show AO _ _ _ (Oper.mk (some _) _ _ _ _ none :: _) _ _ _; first | refine A.go rfl ?_ | refine A.shl rfl rfl (by first | omega | exact Int.natCast_nonneg _) ?_ | refine A.shr rfl rfl (by first | omega | exact Int.natCast_nonneg _) ?_)
    | (show AO _ _ _ (Oper.mk _ _ _ _ _ (some _) :: _) _ _ _; first | refine A.gy rfl rfl ?_ | refine A.gn rfl rfl rfl ?_ | refine A.gu rfl rfl ?_ | refine A.gs rfl rfl (fun h => ?_) (fun h => ?_))
    | (show AO _ _ _ [] _ _ _; refine A.nil ?_)
    | (show CW _ _ _ _ (Code.seq (Code.region _ _ false) _) _ _ _; refine W.rq ?_)
    | (show CW _ _ _ _ (Code.region _ _ false) _ _ _; refine W.rz ?_)
    | (show CW _ _ _ _ (Code.seq (Code.region _ _ true) _) _ _ _; first | refine W.dq 0 ?_ | refine W.dq 1 ?_ | refine W.dq 2 ?_ | refine W.dq 3 ?_ | refine W.dq 4 ?_ | refine W.dq 5 ?_ | refine W.dq 6 ?_ | refine W.dq 7 ?_ | refine W.dq 8 ?_ | refine W.dq 9 ?_ | refine W.dq 10 ?_ | refine W.dq 11 ?_ | refine W.dq 12 ?_ | refine W.dq 13 ?_ | refine W.dq 14 ?_ | refine W.dq 15 ?_)
    | (show CW _ _ _ _ (Code.region _ _ true) _ _ _; first | refine W.dz 0 ?_ | refine W.dz 1 ?_ | refine W.dz 2 ?_ | refine W.dz 3 ?_ | refine W.dz 4 ?_ | refine W.dz 5 ?_ | refine W.dz 6 ?_ | refine W.dz 7 ?_ | refine W.dz 8 ?_ | refine W.dz 9 ?_ | refine W.dz 10 ?_ | refine W.dz 11 ?_ | refine W.dz 12 ?_ | refine W.dz 13 ?_ | refine W.dz 14 ?_ | refine W.dz 15 ?_)
    | (show CW _ _ _ _ _ _ _ _; first | refine W.kr ?_ | refine W.kn ?_ | refine W.ke ?_ | refine W.ct rfl ?_ | refine W.cf rfl ?_ | refine W.cd rfl (fun h => ?_) (fun h => ?_) | refine W.bl ?_ | refine W.sq ?_)
    | (show KO _ _ _ _; first | refine K.sn ?_ | refine K.sr ?_ | refine K.se ?_ | refine K.bn ?_ | refine K.br ?_ | refine K.be ?_ | refine K.bx rfl ?_ | refine K.lr ?_ | refine K.le ?_)
    | (show KO _ _ _ _; first | refine K.ya rfl ?_)
    | refine K.nx ?_
    | refine K.re ?_
    | refine K.dr ?_
  · rw [rem11 hk] at h
    have h := of_decide_eq_true h
    refine K.ln (k % 11 - (i + 1)) (by omega) ⟨rfl, rfl, rfl, rfl, rfl, i + 1, ?_, ?_, by omega, rfl⟩
    · exact vI (one_step (by omega))
    · exact vI (two_step hj (by omega))
  rw [rem11 hk] at h
  have h := of_decide_eq_false h
  obtain rfl : i = k % 11 := by omega
  generalize hjj : k % 11 = j at *
  have hb := two_pow_bound hj
  refine X.rem (c := ((z % 2 ^ j : Nat) : Int)) rfl rfl (by omega) (rem_pow hz) ?_
  repeat' first
    | (show XO _ _ _ (Oper.mk (some _) (Op.call _) _ _ _ none :: _) _ _ _; first | fail)
    | (show XO _ _ _ (Oper.mk (some _) _ _ _ _ none :: _) _ _ _; first | refine X.go rfl ?_ | refine X.shl rfl rfl (by first | omega | exact Int.natCast_nonneg _) ?_ | refine X.shr rfl rfl (by first | omega | exact Int.natCast_nonneg _) ?_)
    | (show XO _ _ _ (Oper.mk _ _ _ _ _ (some _) :: _) _ _ _; first | refine X.gy rfl rfl ?_ | refine X.gn rfl rfl rfl ?_ | refine X.gu rfl rfl ?_ | refine X.gs rfl rfl (fun h => ?_) (fun h => ?_))
    | (show XO _ _ _ (Oper.mk none _ _ _ _ none :: _) _ _ _; refine X.st rfl ?_)
    | (show XO _ _ _ [] _ _ _; refine X.nil ?_)
    | (show AO _ _ _ (Oper.mk (some _) (Op.call _) _ _ _ none :: _) _ _ _; first | fail)
    | (show AO _ _ _ (Oper.mk (some _) _ _ _ _ none :: _) _ _ _; first | refine A.go rfl ?_ | refine A.shl rfl rfl (by first | omega | exact Int.natCast_nonneg _) ?_ | refine A.shr rfl rfl (by first | omega | exact Int.natCast_nonneg _) ?_)
    | (show AO _ _ _ (Oper.mk _ _ _ _ _ (some _) :: _) _ _ _; first | refine A.gy rfl rfl ?_ | refine A.gn rfl rfl rfl ?_ | refine A.gu rfl rfl ?_ | refine A.gs rfl rfl (fun h => ?_) (fun h => ?_))
    | (show AO _ _ _ [] _ _ _; refine A.nil ?_)
    | (show CW _ _ _ _ (Code.seq (Code.region _ _ false) _) _ _ _; refine W.rq ?_)
    | (show CW _ _ _ _ (Code.region _ _ false) _ _ _; refine W.rz ?_)
    | (show CW _ _ _ _ (Code.seq (Code.region _ _ true) _) _ _ _; first | refine W.dq 0 ?_ | refine W.dq 1 ?_ | refine W.dq 2 ?_ | refine W.dq 3 ?_ | refine W.dq 4 ?_ | refine W.dq 5 ?_ | refine W.dq 6 ?_ | refine W.dq 7 ?_ | refine W.dq 8 ?_ | refine W.dq 9 ?_ | refine W.dq 10 ?_ | refine W.dq 11 ?_ | refine W.dq 12 ?_ | refine W.dq 13 ?_ | refine W.dq 14 ?_ | refine W.dq 15 ?_)
    | (show CW _ _ _ _ (Code.region _ _ true) _ _ _; first | refine W.dz 0 ?_ | refine W.dz 1 ?_ | refine W.dz 2 ?_ | refine W.dz 3 ?_ | refine W.dz 4 ?_ | refine W.dz 5 ?_ | refine W.dz 6 ?_ | refine W.dz 7 ?_ | refine W.dz 8 ?_ | refine W.dz 9 ?_ | refine W.dz 10 ?_ | refine W.dz 11 ?_ | refine W.dz 12 ?_ | refine W.dz 13 ?_ | refine W.dz 14 ?_ | refine W.dz 15 ?_)
    | (show CW _ _ _ _ _ _ _ _; first | refine W.kr ?_ | refine W.kn ?_ | refine W.ke ?_ | refine W.ct rfl ?_ | refine W.cf rfl ?_ | refine W.cd rfl (fun h => ?_) (fun h => ?_) | refine W.bl ?_ | refine W.sq ?_)
    | (show KO _ _ _ _; first | refine K.sn ?_ | refine K.sr ?_ | refine K.se ?_ | refine K.bn ?_ | refine K.br ?_ | refine K.be ?_ | refine K.bx rfl ?_ | refine K.lr ?_ | refine K.le ?_)
    | (show KO _ _ _ _; first | refine K.ya rfl ?_)
    | refine K.nx ?_
    | refine K.re ?_
    | refine K.dr ?_
  refine X.rem (c := ((x % (2 * 2 ^ j - 1) : Nat) : Int)) rfl rfl ?_ ?_ ?_
  · rw [IntKind.wrap_i64, IntKind.wrap_i64]; omega
  · rw [w64N (by omega), show IntKind.i64.wrap (IntKind.i64.wrap (2 * ((2 ^ j : Nat) : Int)) - 1) = ((2 * 2 ^ j - 1 : Nat) : Int) by rw [IntKind.wrap_i64, IntKind.wrap_i64]; omega]
    rfl
  have hy : x % (2 * 2 ^ j - 1) < 2 * 2 ^ j - 1 := Nat.mod_lt _ (by omega)
  generalize x % (2 * 2 ^ j - 1) = y at *
  have ha : z % 2 ^ j < 2 ^ j := Nat.mod_lt _ (by omega)
  generalize z % 2 ^ j = a at *
  have e2 : IntKind.i64.wrap (2 * (a : Int)) = ((2 * a : Nat) : Int) := by rw [IntKind.wrap_i64]; omega
  have hp := pathN H hj (y := 2 * a) (by omega) ([] : List Go.Pv.Obj)
  rw [← e2] at hp
  have hlv := leaves H (y : Nat) ([] : List Go.Pv.Obj)
  have hin := leaf_in hj ha hy
  have hlen : ((ups (2 * a) (2 ^ j)).map gP).length < 1000000 := by rw [List.length_map]; have := ups_len (2 * a) (2 ^ j); omega
  have hcl : comL (a : Int) ((2 ^ j : Nat) : Int) = ((2 * a : Nat) : Int) :: (ups (2 * a) (2 ^ j)).map gP := by
    unfold comL
    rw [show (2 : Int) * (a : Int) = ((2 * a : Nat) : Int) by omega, wayN gP hj (by omega)]
  rw [hcl] at hin
  have hI := inL H ((ups (2 * a) (2 ^ j)).map gP) ((y : Nat) : Int) hlen ([] : List Go.Pv.Obj)
  obtain ⟨_, _, _, q1, q2, q3⟩ := node_form j hj y hy
  generalize (ups (2 * a) (2 ^ j)).map gP = l at *
  unfold inB at hin
  generalize leavesV (y : Nat) = lv at *
  have f1 : decide (IntKind.i64.wrap (lv.1 + lv.2) = (y : Nat)) = true := decide_eq_true (by rw [IntKind.wrap_i64]; omega)
  have f2 : decide (lv.1 ≥ 0) = true := decide_eq_true q2
  have f3 : decide (lv.2 < ((2 ^ j : Nat) : Int)) = true := decide_eq_true q3
  have fe : decide (((y : Nat) : Int) = IntKind.i64.wrap (2 * (a : Int))) = decide (((y : Nat) : Int) = ((2 * a : Nat) : Int)) := by rw [e2]
  by_cases hm : ((y : Nat) : Int) ∈ ((2 * a : Nat) : Int) :: l
  · have hh := hin.2 hm
    rw [Bool.and_eq_true] at hh
    obtain ⟨f5, f6⟩ := hh
    by_cases hy2 : ((y : Nat) : Int) = ((2 * a : Nat) : Int)
    · have f4 : decide (((y : Nat) : Int) = IntKind.i64.wrap (2 * (a : Int))) = true := by rw [fe]; exact decide_eq_true hy2
      repeat' first
        | (show XO _ _ _ (Oper.mk (some _) (Op.call _) _ _ _ none :: _) _ _ _; first | refine X.call (hp) ?_ | refine X.call (hlv) ?_ | refine X.call (hI) ?_)
        | (show XO _ _ _ (Oper.mk (some _) _ _ _ _ none :: _) _ _ _; first | refine X.go rfl ?_ | refine X.shl rfl rfl (by first | omega | exact Int.natCast_nonneg _) ?_ | refine X.shr rfl rfl (by first | omega | exact Int.natCast_nonneg _) ?_)
        | (show XO _ _ _ (Oper.mk _ _ _ _ _ (some _) :: _) _ _ _; first | refine X.gy rfl rfl ?_ | refine X.gn rfl rfl rfl ?_ | refine X.gu rfl rfl ?_ | refine X.gk true rfl (vB (by first | (simp only [f1]; done) | (simp only [f2]; done) | (simp only [f3]; done) | (simp only [f4]; done) | (simp only [f5]; done) | (simp only [f6]; done) | (simp only [f7]; done) | (simp only [f8]; done) | exact decide_eq_true (by omega))) ?_ | refine X.gk false rfl (vB (by first | (simp only [f1]; done) | (simp only [f2]; done) | (simp only [f3]; done) | (simp only [f4]; done) | (simp only [f5]; done) | (simp only [f6]; done) | (simp only [f7]; done) | (simp only [f8]; done) | exact decide_eq_true (by omega))) ?_ | refine X.gs rfl rfl (fun h => ?_) (fun h => ?_))
        | (show XO _ _ _ (Oper.mk none _ _ _ _ none :: _) _ _ _; refine X.st rfl ?_)
        | (show XO _ _ _ [] _ _ _; refine X.nil ?_)
        | (show AO _ _ _ (Oper.mk (some _) (Op.call _) _ _ _ none :: _) _ _ _; first | refine A.call (hp) ?_ | refine A.call (hlv) ?_ | refine A.call (hI) ?_)
        | (show AO _ _ _ (Oper.mk (some _) _ _ _ _ none :: _) _ _ _; first | refine A.go rfl ?_ | refine A.shl rfl rfl (by first | omega | exact Int.natCast_nonneg _) ?_ | refine A.shr rfl rfl (by first | omega | exact Int.natCast_nonneg _) ?_)
        | (show AO _ _ _ (Oper.mk _ _ _ _ _ (some _) :: _) _ _ _; first | refine A.gy rfl rfl ?_ | refine A.gn rfl rfl rfl ?_ | refine A.gu rfl rfl ?_ | refine A.gk true rfl (vB (by first | (simp only [f1]; done) | (simp only [f2]; done) | (simp only [f3]; done) | (simp only [f4]; done) | (simp only [f5]; done) | (simp only [f6]; done) | (simp only [f7]; done) | (simp only [f8]; done) | exact decide_eq_true (by omega))) ?_ | refine A.gk false rfl (vB (by first | (simp only [f1]; done) | (simp only [f2]; done) | (simp only [f3]; done) | (simp only [f4]; done) | (simp only [f5]; done) | (simp only [f6]; done) | (simp only [f7]; done) | (simp only [f8]; done) | exact decide_eq_true (by omega))) ?_ | refine A.gs rfl rfl (fun h => ?_) (fun h => ?_))
        | (show AO _ _ _ [] _ _ _; refine A.nil ?_)
        | (show CW _ _ _ _ (Code.seq (Code.region _ _ false) _) _ _ _; refine W.rq ?_)
        | (show CW _ _ _ _ (Code.region _ _ false) _ _ _; refine W.rz ?_)
        | (show CW _ _ _ _ (Code.seq (Code.region _ _ true) _) _ _ _; first | refine W.dq 0 ?_ | refine W.dq 1 ?_ | refine W.dq 2 ?_ | refine W.dq 3 ?_ | refine W.dq 4 ?_ | refine W.dq 5 ?_ | refine W.dq 6 ?_ | refine W.dq 7 ?_ | refine W.dq 8 ?_ | refine W.dq 9 ?_ | refine W.dq 10 ?_ | refine W.dq 11 ?_ | refine W.dq 12 ?_ | refine W.dq 13 ?_ | refine W.dq 14 ?_ | refine W.dq 15 ?_)
        | (show CW _ _ _ _ (Code.region _ _ true) _ _ _; first | refine W.dz 0 ?_ | refine W.dz 1 ?_ | refine W.dz 2 ?_ | refine W.dz 3 ?_ | refine W.dz 4 ?_ | refine W.dz 5 ?_ | refine W.dz 6 ?_ | refine W.dz 7 ?_ | refine W.dz 8 ?_ | refine W.dz 9 ?_ | refine W.dz 10 ?_ | refine W.dz 11 ?_ | refine W.dz 12 ?_ | refine W.dz 13 ?_ | refine W.dz 14 ?_ | refine W.dz 15 ?_)
        | (show CW _ _ _ _ _ _ _ _; first | refine W.kr ?_ | refine W.kn ?_ | refine W.ke ?_ | refine W.ct rfl ?_ | refine W.cf rfl ?_ | refine W.ct (vB (by first | (simp only [f1]; done) | (simp only [f2]; done) | (simp only [f3]; done) | (simp only [f4]; done) | (simp only [f5]; done) | (simp only [f6]; done) | (simp only [f7]; done) | (simp only [f8]; done) | exact decide_eq_true (by omega))) ?_ | refine W.cf (vB (by first | (simp only [f1]; done) | (simp only [f2]; done) | (simp only [f3]; done) | (simp only [f4]; done) | (simp only [f5]; done) | (simp only [f6]; done) | (simp only [f7]; done) | (simp only [f8]; done) | exact decide_eq_true (by omega))) ?_ | refine W.cd rfl (fun h => ?_) (fun h => ?_) | refine W.bl ?_ | refine W.sq ?_)
        | (show KO _ _ _ _; first | refine K.sn ?_ | refine K.sr ?_ | refine K.se ?_ | refine K.bn ?_ | refine K.br ?_ | refine K.be ?_ | refine K.bx rfl ?_ | refine K.lr ?_ | refine K.le ?_)
        | (show KO _ _ _ _; first | refine K.ya rfl ?_)
        | refine K.nx ?_
        | refine K.re ?_
        | refine K.dr ?_
      exact end_data rfl rfl (vB f3)
    · have f4 : decide (((y : Nat) : Int) = IntKind.i64.wrap (2 * (a : Int))) = false := by rw [fe]; exact decide_eq_false hy2
      have f7 : l.contains ((y : Nat) : Int) = true := by have := (List.mem_cons.1 hm).resolve_left hy2; simpa using this
      rw [f7] at hI
      repeat' first
        | (show XO _ _ _ (Oper.mk (some _) (Op.call _) _ _ _ none :: _) _ _ _; first | refine X.call (hp) ?_ | refine X.call (hlv) ?_ | refine X.call (hI) ?_)
        | (show XO _ _ _ (Oper.mk (some _) _ _ _ _ none :: _) _ _ _; first | refine X.go rfl ?_ | refine X.shl rfl rfl (by first | omega | exact Int.natCast_nonneg _) ?_ | refine X.shr rfl rfl (by first | omega | exact Int.natCast_nonneg _) ?_)
        | (show XO _ _ _ (Oper.mk _ _ _ _ _ (some _) :: _) _ _ _; first | refine X.gy rfl rfl ?_ | refine X.gn rfl rfl rfl ?_ | refine X.gu rfl rfl ?_ | refine X.gk true rfl (vB (by first | (simp only [f1]; done) | (simp only [f2]; done) | (simp only [f3]; done) | (simp only [f4]; done) | (simp only [f5]; done) | (simp only [f6]; done) | (simp only [f7]; done) | (simp only [f8]; done) | exact decide_eq_true (by omega))) ?_ | refine X.gk false rfl (vB (by first | (simp only [f1]; done) | (simp only [f2]; done) | (simp only [f3]; done) | (simp only [f4]; done) | (simp only [f5]; done) | (simp only [f6]; done) | (simp only [f7]; done) | (simp only [f8]; done) | exact decide_eq_true (by omega))) ?_ | refine X.gs rfl rfl (fun h => ?_) (fun h => ?_))
        | (show XO _ _ _ (Oper.mk none _ _ _ _ none :: _) _ _ _; refine X.st rfl ?_)
        | (show XO _ _ _ [] _ _ _; refine X.nil ?_)
        | (show AO _ _ _ (Oper.mk (some _) (Op.call _) _ _ _ none :: _) _ _ _; first | refine A.call (hp) ?_ | refine A.call (hlv) ?_ | refine A.call (hI) ?_)
        | (show AO _ _ _ (Oper.mk (some _) _ _ _ _ none :: _) _ _ _; first | refine A.go rfl ?_ | refine A.shl rfl rfl (by first | omega | exact Int.natCast_nonneg _) ?_ | refine A.shr rfl rfl (by first | omega | exact Int.natCast_nonneg _) ?_)
        | (show AO _ _ _ (Oper.mk _ _ _ _ _ (some _) :: _) _ _ _; first | refine A.gy rfl rfl ?_ | refine A.gn rfl rfl rfl ?_ | refine A.gu rfl rfl ?_ | refine A.gk true rfl (vB (by first | (simp only [f1]; done) | (simp only [f2]; done) | (simp only [f3]; done) | (simp only [f4]; done) | (simp only [f5]; done) | (simp only [f6]; done) | (simp only [f7]; done) | (simp only [f8]; done) | exact decide_eq_true (by omega))) ?_ | refine A.gk false rfl (vB (by first | (simp only [f1]; done) | (simp only [f2]; done) | (simp only [f3]; done) | (simp only [f4]; done) | (simp only [f5]; done) | (simp only [f6]; done) | (simp only [f7]; done) | (simp only [f8]; done) | exact decide_eq_true (by omega))) ?_ | refine A.gs rfl rfl (fun h => ?_) (fun h => ?_))
        | (show AO _ _ _ [] _ _ _; refine A.nil ?_)
        | (show CW _ _ _ _ (Code.seq (Code.region _ _ false) _) _ _ _; refine W.rq ?_)
        | (show CW _ _ _ _ (Code.region _ _ false) _ _ _; refine W.rz ?_)
        | (show CW _ _ _ _ (Code.seq (Code.region _ _ true) _) _ _ _; first | refine W.dq 0 ?_ | refine W.dq 1 ?_ | refine W.dq 2 ?_ | refine W.dq 3 ?_ | refine W.dq 4 ?_ | refine W.dq 5 ?_ | refine W.dq 6 ?_ | refine W.dq 7 ?_ | refine W.dq 8 ?_ | refine W.dq 9 ?_ | refine W.dq 10 ?_ | refine W.dq 11 ?_ | refine W.dq 12 ?_ | refine W.dq 13 ?_ | refine W.dq 14 ?_ | refine W.dq 15 ?_)
        | (show CW _ _ _ _ (Code.region _ _ true) _ _ _; first | refine W.dz 0 ?_ | refine W.dz 1 ?_ | refine W.dz 2 ?_ | refine W.dz 3 ?_ | refine W.dz 4 ?_ | refine W.dz 5 ?_ | refine W.dz 6 ?_ | refine W.dz 7 ?_ | refine W.dz 8 ?_ | refine W.dz 9 ?_ | refine W.dz 10 ?_ | refine W.dz 11 ?_ | refine W.dz 12 ?_ | refine W.dz 13 ?_ | refine W.dz 14 ?_ | refine W.dz 15 ?_)
        | (show CW _ _ _ _ _ _ _ _; first | refine W.kr ?_ | refine W.kn ?_ | refine W.ke ?_ | refine W.ct rfl ?_ | refine W.cf rfl ?_ | refine W.ct (vB (by first | (simp only [f1]; done) | (simp only [f2]; done) | (simp only [f3]; done) | (simp only [f4]; done) | (simp only [f5]; done) | (simp only [f6]; done) | (simp only [f7]; done) | (simp only [f8]; done) | exact decide_eq_true (by omega))) ?_ | refine W.cf (vB (by first | (simp only [f1]; done) | (simp only [f2]; done) | (simp only [f3]; done) | (simp only [f4]; done) | (simp only [f5]; done) | (simp only [f6]; done) | (simp only [f7]; done) | (simp only [f8]; done) | exact decide_eq_true (by omega))) ?_ | refine W.cd rfl (fun h => ?_) (fun h => ?_) | refine W.bl ?_ | refine W.sq ?_)
        | (show KO _ _ _ _; first | refine K.sn ?_ | refine K.sr ?_ | refine K.se ?_ | refine K.bn ?_ | refine K.br ?_ | refine K.be ?_ | refine K.bx rfl ?_ | refine K.lr ?_ | refine K.le ?_)
        | (show KO _ _ _ _; first | refine K.ya rfl ?_)
        | refine K.nx ?_
        | refine K.re ?_
        | refine K.dr ?_
      exact end_data rfl rfl (vB f3)
  · have f4 : decide (((y : Nat) : Int) = IntKind.i64.wrap (2 * (a : Int))) = false := by rw [fe]; exact decide_eq_false (fun h => hm (by rw [h]; exact List.mem_cons_self))
    have f7 : l.contains ((y : Nat) : Int) = false := by
      rw [Bool.eq_false_iff]; intro h; exact hm (List.mem_cons_of_mem _ (by simpa using h))
    rw [f7] at hI
    have hh : (decide (lv.fst ≤ (a : Int)) && decide ((a : Int) ≤ lv.snd)) = false := by
      rw [Bool.eq_false_iff]; intro h; exact hm (hin.1 h)
    cases f5 : decide (lv.fst ≤ (a : Int)) with
    | false =>
      repeat' first
        | (show XO _ _ _ (Oper.mk (some _) (Op.call _) _ _ _ none :: _) _ _ _; first | refine X.call (hp) ?_ | refine X.call (hlv) ?_ | refine X.call (hI) ?_)
        | (show XO _ _ _ (Oper.mk (some _) _ _ _ _ none :: _) _ _ _; first | refine X.go rfl ?_ | refine X.shl rfl rfl (by first | omega | exact Int.natCast_nonneg _) ?_ | refine X.shr rfl rfl (by first | omega | exact Int.natCast_nonneg _) ?_)
        | (show XO _ _ _ (Oper.mk _ _ _ _ _ (some _) :: _) _ _ _; first | refine X.gy rfl rfl ?_ | refine X.gn rfl rfl rfl ?_ | refine X.gu rfl rfl ?_ | refine X.gk true rfl (vB (by first | (simp only [f1]; done) | (simp only [f2]; done) | (simp only [f3]; done) | (simp only [f4]; done) | (simp only [f5]; done) | (simp only [f6]; done) | (simp only [f7]; done) | (simp only [f8]; done) | exact decide_eq_true (by omega))) ?_ | refine X.gk false rfl (vB (by first | (simp only [f1]; done) | (simp only [f2]; done) | (simp only [f3]; done) | (simp only [f4]; done) | (simp only [f5]; done) | (simp only [f6]; done) | (simp only [f7]; done) | (simp only [f8]; done) | exact decide_eq_true (by omega))) ?_ | refine X.gs rfl rfl (fun h => ?_) (fun h => ?_))
        | (show XO _ _ _ (Oper.mk none _ _ _ _ none :: _) _ _ _; refine X.st rfl ?_)
        | (show XO _ _ _ [] _ _ _; refine X.nil ?_)
        | (show AO _ _ _ (Oper.mk (some _) (Op.call _) _ _ _ none :: _) _ _ _; first | refine A.call (hp) ?_ | refine A.call (hlv) ?_ | refine A.call (hI) ?_)
        | (show AO _ _ _ (Oper.mk (some _) _ _ _ _ none :: _) _ _ _; first | refine A.go rfl ?_ | refine A.shl rfl rfl (by first | omega | exact Int.natCast_nonneg _) ?_ | refine A.shr rfl rfl (by first | omega | exact Int.natCast_nonneg _) ?_)
        | (show AO _ _ _ (Oper.mk _ _ _ _ _ (some _) :: _) _ _ _; first | refine A.gy rfl rfl ?_ | refine A.gn rfl rfl rfl ?_ | refine A.gu rfl rfl ?_ | refine A.gk true rfl (vB (by first | (simp only [f1]; done) | (simp only [f2]; done) | (simp only [f3]; done) | (simp only [f4]; done) | (simp only [f5]; done) | (simp only [f6]; done) | (simp only [f7]; done) | (simp only [f8]; done) | exact decide_eq_true (by omega))) ?_ | refine A.gk false rfl (vB (by first | (simp only [f1]; done) | (simp only [f2]; done) | (simp only [f3]; done) | (simp only [f4]; done) | (simp only [f5]; done) | (simp only [f6]; done) | (simp only [f7]; done) | (simp only [f8]; done) | exact decide_eq_true (by omega))) ?_ | refine A.gs rfl rfl (fun h => ?_) (fun h => ?_))
        | (show AO _ _ _ [] _ _ _; refine A.nil ?_)
        | (show CW _ _ _ _ (Code.seq (Code.region _ _ false) _) _ _ _; refine W.rq ?_)
        | (show CW _ _ _ _ (Code.region _ _ false) _ _ _; refine W.rz ?_)
        | (show CW _ _ _ _ (Code.seq (Code.region _ _ true) _) _ _ _; first | refine W.dq 0 ?_ | refine W.dq 1 ?_ | refine W.dq 2 ?_ | refine W.dq 3 ?_ | refine W.dq 4 ?_ | refine W.dq 5 ?_ | refine W.dq 6 ?_ | refine W.dq 7 ?_ | refine W.dq 8 ?_ | refine W.dq 9 ?_ | refine W.dq 10 ?_ | refine W.dq 11 ?_ | refine W.dq 12 ?_ | refine W.dq 13 ?_ | refine W.dq 14 ?_ | refine W.dq 15 ?_)
        | (show CW _ _ _ _ (Code.region _ _ true) _ _ _; first | refine W.dz 0 ?_ | refine W.dz 1 ?_ | refine W.dz 2 ?_ | refine W.dz 3 ?_ | refine W.dz 4 ?_ | refine W.dz 5 ?_ | refine W.dz 6 ?_ | refine W.dz 7 ?_ | refine W.dz 8 ?_ | refine W.dz 9 ?_ | refine W.dz 10 ?_ | refine W.dz 11 ?_ | refine W.dz 12 ?_ | refine W.dz 13 ?_ | refine W.dz 14 ?_ | refine W.dz 15 ?_)
        | (show CW _ _ _ _ _ _ _ _; first | refine W.kr ?_ | refine W.kn ?_ | refine W.ke ?_ | refine W.ct rfl ?_ | refine W.cf rfl ?_ | refine W.ct (vB (by first | (simp only [f1]; done) | (simp only [f2]; done) | (simp only [f3]; done) | (simp only [f4]; done) | (simp only [f5]; done) | (simp only [f6]; done) | (simp only [f7]; done) | (simp only [f8]; done) | exact decide_eq_true (by omega))) ?_ | refine W.cf (vB (by first | (simp only [f1]; done) | (simp only [f2]; done) | (simp only [f3]; done) | (simp only [f4]; done) | (simp only [f5]; done) | (simp only [f6]; done) | (simp only [f7]; done) | (simp only [f8]; done) | exact decide_eq_true (by omega))) ?_ | refine W.cd rfl (fun h => ?_) (fun h => ?_) | refine W.bl ?_ | refine W.sq ?_)
        | (show KO _ _ _ _; first | refine K.sn ?_ | refine K.sr ?_ | refine K.se ?_ | refine K.bn ?_ | refine K.br ?_ | refine K.be ?_ | refine K.bx rfl ?_ | refine K.lr ?_ | refine K.le ?_)
        | (show KO _ _ _ _; first | refine K.ya rfl ?_)
        | refine K.nx ?_
        | refine K.re ?_
        | refine K.dr ?_
      exact end_data rfl rfl (vB f3)
    | true =>
      rw [f5, Bool.true_and] at hh
      have f6 := hh
      repeat' first
        | (show XO _ _ _ (Oper.mk (some _) (Op.call _) _ _ _ none :: _) _ _ _; first | refine X.call (hp) ?_ | refine X.call (hlv) ?_ | refine X.call (hI) ?_)
        | (show XO _ _ _ (Oper.mk (some _) _ _ _ _ none :: _) _ _ _; first | refine X.go rfl ?_ | refine X.shl rfl rfl (by first | omega | exact Int.natCast_nonneg _) ?_ | refine X.shr rfl rfl (by first | omega | exact Int.natCast_nonneg _) ?_)
        | (show XO _ _ _ (Oper.mk _ _ _ _ _ (some _) :: _) _ _ _; first | refine X.gy rfl rfl ?_ | refine X.gn rfl rfl rfl ?_ | refine X.gu rfl rfl ?_ | refine X.gk true rfl (vB (by first | (simp only [f1]; done) | (simp only [f2]; done) | (simp only [f3]; done) | (simp only [f4]; done) | (simp only [f5]; done) | (simp only [f6]; done) | (simp only [f7]; done) | (simp only [f8]; done) | exact decide_eq_true (by omega))) ?_ | refine X.gk false rfl (vB (by first | (simp only [f1]; done) | (simp only [f2]; done) | (simp only [f3]; done) | (simp only [f4]; done) | (simp only [f5]; done) | (simp only [f6]; done) | (simp only [f7]; done) | (simp only [f8]; done) | exact decide_eq_true (by omega))) ?_ | refine X.gs rfl rfl (fun h => ?_) (fun h => ?_))
        | (show XO _ _ _ (Oper.mk none _ _ _ _ none :: _) _ _ _; refine X.st rfl ?_)
        | (show XO _ _ _ [] _ _ _; refine X.nil ?_)
        | (show AO _ _ _ (Oper.mk (some _) (Op.call _) _ _ _ none :: _) _ _ _; first | refine A.call (hp) ?_ | refine A.call (hlv) ?_ | refine A.call (hI) ?_)
        | (show AO _ _ _ (Oper.mk (some _) _ _ _ _ none :: _) _ _ _; first | refine A.go rfl ?_ | refine A.shl rfl rfl (by first | omega | exact Int.natCast_nonneg _) ?_ | refine A.shr rfl rfl (by first | omega | exact Int.natCast_nonneg _) ?_)
        | (show AO _ _ _ (Oper.mk _ _ _ _ _ (some _) :: _) _ _ _; first | refine A.gy rfl rfl ?_ | refine A.gn rfl rfl rfl ?_ | refine A.gu rfl rfl ?_ | refine A.gk true rfl (vB (by first | (simp only [f1]; done) | (simp only [f2]; done) | (simp only [f3]; done) | (simp only [f4]; done) | (simp only [f5]; done) | (simp only [f6]; done) | (simp only [f7]; done) | (simp only [f8]; done) | exact decide_eq_true (by omega))) ?_ | refine A.gk false rfl (vB (by first | (simp only [f1]; done) | (simp only [f2]; done) | (simp only [f3]; done) | (simp only [f4]; done) | (simp only [f5]; done) | (simp only [f6]; done) | (simp only [f7]; done) | (simp only [f8]; done) | exact decide_eq_true (by omega))) ?_ | refine A.gs rfl rfl (fun h => ?_) (fun h => ?_))
        | (show AO _ _ _ [] _ _ _; refine A.nil ?_)
        | (show CW _ _ _ _ (Code.seq (Code.region _ _ false) _) _ _ _; refine W.rq ?_)
        | (show CW _ _ _ _ (Code.region _ _ false) _ _ _; refine W.rz ?_)
        | (show CW _ _ _ _ (Code.seq (Code.region _ _ true) _) _ _ _; first | refine W.dq 0 ?_ | refine W.dq 1 ?_ | refine W.dq 2 ?_ | refine W.dq 3 ?_ | refine W.dq 4 ?_ | refine W.dq 5 ?_ | refine W.dq 6 ?_ | refine W.dq 7 ?_ | refine W.dq 8 ?_ | refine W.dq 9 ?_ | refine W.dq 10 ?_ | refine W.dq 11 ?_ | refine W.dq 12 ?_ | refine W.dq 13 ?_ | refine W.dq 14 ?_ | refine W.dq 15 ?_)
        | (show CW _ _ _ _ (Code.region _ _ true) _ _ _; first | refine W.dz 0 ?_ | refine W.dz 1 ?_ | refine W.dz 2 ?_ | refine W.dz 3 ?_ | refine W.dz 4 ?_ | refine W.dz 5 ?_ | refine W.dz 6 ?_ | refine W.dz 7 ?_ | refine W.dz 8 ?_ | refine W.dz 9 ?_ | refine W.dz 10 ?_ | refine W.dz 11 ?_ | refine W.dz 12 ?_ | refine W.dz 13 ?_ | refine W.dz 14 ?_ | refine W.dz 15 ?_)
        | (show CW _ _ _ _ _ _ _ _; first | refine W.kr ?_ | refine W.kn ?_ | refine W.ke ?_ | refine W.ct rfl ?_ | refine W.cf rfl ?_ | refine W.ct (vB (by first | (simp only [f1]; done) | (simp only [f2]; done) | (simp only [f3]; done) | (simp only [f4]; done) | (simp only [f5]; done) | (simp only [f6]; done) | (simp only [f7]; done) | (simp only [f8]; done) | exact decide_eq_true (by omega))) ?_ | refine W.cf (vB (by first | (simp only [f1]; done) | (simp only [f2]; done) | (simp only [f3]; done) | (simp only [f4]; done) | (simp only [f5]; done) | (simp only [f6]; done) | (simp only [f7]; done) | (simp only [f8]; done) | exact decide_eq_true (by omega))) ?_ | refine W.cd rfl (fun h => ?_) (fun h => ?_) | refine W.bl ?_ | refine W.sq ?_)
        | (show KO _ _ _ _; first | refine K.sn ?_ | refine K.sr ?_ | refine K.se ?_ | refine K.bn ?_ | refine K.br ?_ | refine K.be ?_ | refine K.bx rfl ?_ | refine K.lr ?_ | refine K.le ?_)
        | (show KO _ _ _ _; first | refine K.ya rfl ?_)
        | refine K.nx ?_
        | refine K.re ?_
        | refine K.dr ?_
      exact end_data rfl rfl (vB f3)
end Go.Proofs.Mth
