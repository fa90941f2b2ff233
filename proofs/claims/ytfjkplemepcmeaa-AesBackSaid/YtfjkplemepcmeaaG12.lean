import Derived.Test.YtfjkplemepcmeaaG11
import Derived.Test.YtfjkplemepcmeaaG3
import Derived.Test.YtfjkplemepcmeaaG7
set_option linter.unusedVariables false
set_option linter.unusedSimpArgs false
set_option linter.unusedSectionVars false
section
set_option linter.unusedVariables false
set_option linter.unusedSimpArgs false
set_option maxHeartbeats 4000000
set_option maxRecDepth 100000
namespace Go.Proofs.Aes
open Go Go.Pv Go.Proofs
variable {Z : Nat → Go.Obj → Prop}
attribute [local irreducible] boxL mulU exE exW
theorem same (H : ZC Z) (a b : List UInt8) (L : List Go.Pv.Obj) : SE Try.prog Z 12 [gB a, gB b] L (.bool (decide (a = b))) L := by
  refine SE.data H Try.func12 rfl ?_
  repeat' first
    | (show XO _ _ _ (Oper.mk _ _ _ _ _ none :: _) _ _ _; refine X.cvS rfl ?_)
    | (show XO _ _ _ (Oper.mk (some _) (Op.move _) _ _ _ none :: _) _ _ _; refine X.mv ?_)
    | (show XO _ _ _ (Oper.mk (some _) (Op.assign _) _ _ _ none :: _) _ _ _; refine X.as ?_)
    | (show XO _ _ _ (Oper.mk (some _) (_) _ _ _ none :: _) _ _ _; refine X.go rfl ?_)
    | (show XO _ _ _ [] _ _ _; refine X.nil ?_)
    | (show CW _ _ _ _ (Code.seq (Code.region _ _ false) _) _ _ _; refine W.rq ?_)
    | (show CW _ _ _ _ _ _ _ _; refine W.kr ?_)
    | refine K.nx ?_
  exact end_data rfl rfl (vB (str_eq a b))
theorem p256 (i : Nat) : (256 : Int) * ((256 ^ i : Nat) : Int) = ((256 ^ (i + 1) : Nat) : Int) := by
  rw [Nat.pow_succ]; push_cast; omega
theorem p256_le {i : Nat} (h : i ≤ 7) : 256 ^ i ≤ 256 ^ 7 := Nat.pow_le_pow_right (by omega) h

theorem power (H : ZC Z) (w : Nat) (hw : w ≤ 7) (L : List Go.Pv.Obj) : SE Try.prog Z 35 [.int .i64 w] L (.int .i64 ((256 ^ w : Nat) : Int)) L := by
  refine SE.data H Try.func35 rfl ?_
  repeat' first
    | (show XO _ _ _ (Oper.mk (some _) (Op.assign _) _ _ _ none :: _) _ _ _; refine X.as ?_)
    | (show XO _ _ _ [] _ _ _; refine X.nil ?_)
    | (show CW _ _ _ _ (Code.seq (Code.region _ _ false) _) _ _ _; refine W.rq ?_)
    | (show CW _ _ _ _ _ _ _ _; first | refine W.bl ?_ | refine W.sq ?_)
    | refine K.nx ?_
  refine W.lq (fun mz st => ∃ (i : Nat), st.env 0 = .int .i64 w ∧ st.env 3 = .int .i64 ((256 ^ i : Nat) : Int) ∧ st.env 4 = .int .i64 i ∧ st.L = L ∧ (i ≤ w) ∧ mz = w - i) ?_ ?_
  · refine ⟨_, 0, rfl, rfl, rfl, rfl, ?_, rfl⟩
    omega
  rintro mz env L ⟨i, e0, e3, e4, eL, hI, hm⟩
  dsimp only at e0 e3 e4 eL
  subst eL
  refine W.ev 0 e0 ?_
  refine W.ev 3 e3 ?_
  refine W.ev 4 e4 ?_
  by_cases hiw : i = w
  · subst hiw
    repeat' first
      | (show XO _ _ _ (Oper.mk (some _) (Op.move _) _ _ _ none :: _) _ _ _; refine X.mv ?_)
      | (show XO _ _ _ (Oper.mk (some _) (Op.assign _) _ _ _ none :: _) _ _ _; refine X.as ?_)
      | (show XO _ _ _ (Oper.mk (some _) (_) _ _ _ none :: _) _ _ _; refine X.go rfl ?_)
      | (show XO _ _ _ [] _ _ _; refine X.nil ?_)
      | (show CW _ _ _ _ (Code.seq (Code.region _ _ false) _) _ _ _; refine W.rq ?_)
      | (show CW _ _ _ _ (Code.cond _ _ _) _ _ _; refine W.jpf (by (conv => lhs; whnf) <;> rfl) (by with_reducible rfl) (by first | omega | decide) ?_)
      | (show CW _ _ _ _ _ _ _ _; first | refine W.kr ?_ | refine W.ke ?_ | refine W.sq ?_)
      | (show KO _ _ _ _; first | refine K.sn ?_ | refine K.se ?_ | refine K.be ?_ | refine K.le ?_)
      | refine K.nx ?_
    exact end_data rfl rfl rfl
  · have hr : -9223372036854775808 ≤ (256 : Int) * ((256 ^ i : Nat) : Int) ∧ (256 : Int) * ((256 ^ i : Nat) : Int) ≤ 9223372036854775807 := by
      rw [p256]
      have := p256_le (i := i + 1) (by omega)
      have h0 : 0 ≤ ((256 ^ (i + 1) : Nat) : Int) := Int.natCast_nonneg _
      omega
    repeat' first
      | (show XO _ _ _ (Oper.mk _ _ _ _ _ none :: _) _ _ _; refine X.mulI rfl rfl hr ?_)
      | (show XO _ _ _ (Oper.mk (some _) (Op.move _) _ _ _ none :: _) _ _ _; refine X.mv ?_)
      | (show XO _ _ _ (Oper.mk (some _) (Op.assign _) _ _ _ none :: _) _ _ _; refine X.as ?_)
      | (show XO _ _ _ (Oper.mk (some _) (Op.binOp BinOp.add _ _ _ _) _ _ _ none :: _) _ _ _; refine X.addI rfl rfl (by omega) ?_)
      | (show XO _ _ _ (Oper.mk (some _) (_) _ _ _ none :: _) _ _ _; refine X.go rfl ?_)
      | (show XO _ _ _ [] _ _ _; refine X.nil ?_)
      | (show CW _ _ _ _ (Code.seq (Code.region _ _ false) _) _ _ _; refine W.rq ?_)
      | (show CW _ _ _ _ (Code.region _ _ false) _ _ _; refine W.rz ?_)
      | (show CW _ _ _ _ (Code.cond _ _ _) _ _ _; refine W.jpt (by (conv => lhs; whnf) <;> rfl) (by with_reducible rfl) (by first | omega | decide) ?_)
      | (show CW _ _ _ _ _ _ _ _; first | refine W.kn ?_ | refine W.bl ?_ | refine W.sq ?_)
      | (show KO _ _ _ _; first | refine K.sn ?_ | refine K.bn ?_ | refine K.ln _ ?_ ⟨i + 1, rfl, vI (p256 i), vI (by omega), rfl, ?_, rfl⟩)
      | refine K.nx ?_
      | refine K.re ?_
    · omega
    · omega

theorem refNum0 (H : ZC Z) (n w : Nat) (hw : 1 ≤ w) (hw7 : w ≤ 7) (hn : n < 256 ^ w) (hn2 : n < 65536) : SE Try.prog Z 21 [.int .i64 n, .int .i64 w] [] (.tup [gB (numL n w), .int .i64 0]) [] := by
  have hpw := power H w hw7
  refine SE.data H Try.func21 rfl ?_
  repeat' first
    | (show XO _ _ _ (Oper.mk (some _) (Op.move _) _ _ _ none :: _) _ _ _; refine X.mv ?_)
    | (show XO _ _ _ (Oper.mk (some _) (Op.assign _) _ _ _ none :: _) _ _ _; refine X.as ?_)
    | (show XO _ _ _ (Oper.mk (some _) (Op.call _) _ _ _ none :: _) _ _ _; refine X.call (hpw _) ?_)
    | (show XO _ _ _ (Oper.mk (some _) (Op.binOp BinOp.sub _ _ _ _) _ _ _ none :: _) _ _ _; refine X.subI rfl rfl (by omega) ?_)
    | (show XO _ _ _ (Oper.mk (some _) (_) _ _ _ none :: _) _ _ _; refine X.go rfl ?_)
    | (show XO _ _ _ (Oper.mk _ _ _ _ _ (some _) :: _) _ _ _; first | refine X.hy rfl (by (conv => lhs; whnf) <;> rfl) (by first | with_reducible rfl | with_reducible exact notT | with_reducible exact notF) ?_ | refine X.hpf rfl (by (conv => lhs; whnf) <;> rfl) (by with_reducible rfl) (by first | omega | decide) ?_)
    | (show XO _ _ _ [] _ _ _; refine X.nil ?_)
    | (show CW _ _ _ _ (Code.seq (Code.region _ _ false) _) _ _ _; refine W.rq ?_)
    | (show CW _ _ _ _ (Code.cond _ _ _) _ _ _; refine W.jpf (by (conv => lhs; whnf) <;> rfl) (by with_reducible rfl) (by first | omega | decide) ?_)
    | (show CW _ _ _ _ _ _ _ _; first | refine W.kn ?_ | refine W.bl ?_ | refine W.sq ?_)
    | (show KO _ _ _ _; refine K.sn ?_)
    | refine K.nx ?_
  refine W.ghost 6 1 rfl ?_
  refine W.lq (fun mz st => ∃ (i : Nat), st.env 0 = .int .i64 n ∧ st.env 1 = .int .i64 w ∧ st.env 6 = .own 0 0 (((List.range i).map (numB n w)).map g8).length (((List.range i).map (numB n w)).map g8).length ∧ st.env 7 = .int .i64 ((w : Int) - 1 - i) ∧ st.L = [Go.Pv.Obj.buf 1 0 (((List.range i).map (numB n w)).map g8)] ∧ (i ≤ w) ∧ mz = w - i) ?_ ?_
  · refine ⟨_, 0, rfl, rfl, rfl, vI (by omega), rfl, ?_, rfl⟩
    omega
  rintro mz env L ⟨i, e0, e1, e6, e7, eL, hI, hm⟩
  dsimp only at e0 e1 e6 e7 eL
  subst eL
  refine W.ev 0 e0 ?_
  refine W.ev 1 e1 ?_
  refine W.ev 6 e6 ?_
  refine W.ev 7 e7 ?_
  by_cases h : i = w
  · subst h
    repeat' first
      | (show XO _ _ _ (Oper.mk (some _) (Op.move _) _ _ _ none :: _) _ _ _; refine X.mv ?_)
      | (show XO _ _ _ (Oper.mk (some _) (Op.assign _) _ _ _ none :: _) _ _ _; refine X.as ?_)
      | (show XO _ _ _ (Oper.mk (some _) (_) _ _ _ none :: _) _ _ _; refine X.go rfl ?_)
      | (show XO _ _ _ [] _ _ _; refine X.nil ?_)
      | (show CW _ _ _ _ (Code.seq (Code.region _ _ false) _) _ _ _; refine W.rq ?_)
      | (show CW _ _ _ _ (Code.cond _ _ _) _ _ _; refine W.jpf (by (conv => lhs; whnf) <;> rfl) (by with_reducible rfl) (by first | omega | decide) ?_)
      | (show CW _ _ _ _ _ _ _ _; first | refine W.kr ?_ | refine W.ke ?_ | refine W.sq ?_)
      | (show KO _ _ _ _; first | refine K.sn ?_ | refine K.se ?_ | refine K.be ?_ | refine K.le ?_)
      | refine K.nx ?_
    refine K.fin rfl ⟨_, rfl, (frz_tup2 (frz_own rfl (Nat.zero_le _) (map_data g8_data _)) rfl).trans ?_⟩
    rfl
  · have hp2 := power H (w - 1 - i) (by omega)
    rw [show ((w - 1 - i : Nat) : Int) = (w : Int) - 1 - i by omega] at hp2
    have hpos : 0 < 256 ^ (w - 1 - i) := Nat.pos_of_ne_zero (by simp)
    have hcv : IntKind.u8.wrap (((n : Nat) : Int) / ((256 ^ (w - 1 - i) : Nat) : Int) % 256) = ((numB n w i).toNat : Int) := by
      have e1 : ((n : Nat) : Int) / ((256 ^ (w - 1 - i) : Nat) : Int) % 256 = ((n / 256 ^ (w - 1 - i) % 256 : Nat) : Int) := by rw [← Int.natCast_ediv]; rfl
      rw [e1, wU8 ⟨by omega, by omega⟩]
      unfold numB
      rw [UInt8.toNat_ofNat']
    have hdv : 0 ≤ ((n : Nat) : Int) / ((256 ^ (w - 1 - i) : Nat) : Int) := Int.ediv_nonneg (by omega) (by omega)
    have ow : (List.range (i + 1)).map (numB n w) = (List.range i).map (numB n w) ++ [numB n w i] := by rw [List.range_succ, List.map_append]; rfl
    repeat' first
      | (show XO _ _ _ (Oper.mk _ _ _ _ _ none :: _) _ _ _; first | refine X.go rfl ?_ (v := g8 (numB n w i)) (hv := vI hcv) | refine X.ap1 (g := g8) (numB n w i) rfl rfl rfl (by rw [List.length_map, List.length_range]; omega) ?_)
      | (show XO _ _ _ (Oper.mk (some _) (Op.move _) _ _ _ none :: _) _ _ _; refine X.mv ?_)
      | (show XO _ _ _ (Oper.mk (some _) (Op.assign _) _ _ _ none :: _) _ _ _; refine X.as ?_)
      | (show XO _ _ _ (Oper.mk (some _) (Op.call _) _ _ _ none :: _) _ _ _; refine X.call (hp2 _) ?_)
      | (show XO _ _ _ (Oper.mk (some _) (Op.binOp BinOp.sub _ _ _ _) _ _ _ none :: _) _ _ _; refine X.subI rfl rfl (by omega) ?_)
      | (show XO _ _ _ (Oper.mk (some _) (Op.binOp BinOp.quo _ _ _ _) _ _ _ none :: _) _ _ _; refine X.quoI rfl rfl (by omega) ?_)
      | (show XO _ _ _ (Oper.mk (some _) (Op.binOp BinOp.rem _ _ _ _) _ _ _ none :: _) _ _ _; refine X.remI rfl rfl (by omega) ?_)
      | (show XO _ _ _ (Oper.mk (some _) (Op.buildSlice _ _ _) _ _ _ none :: _) _ _ _; refine X.bs1 (by (conv => lhs; whnf) <;> rfl) ?_)
      | (show XO _ _ _ (Oper.mk (some _) (_) _ _ _ none :: _) _ _ _; refine X.go rfl ?_)
      | (show XO _ _ _ [] _ _ _; refine X.nil ?_)
      | (show CW _ _ _ _ (Code.seq (Code.region _ _ false) _) _ _ _; refine W.rq ?_)
      | (show CW _ _ _ _ (Code.region _ _ false) _ _ _; refine W.rz ?_)
      | (show CW _ _ _ _ (Code.cond _ _ _) _ _ _; refine W.jpt (by (conv => lhs; whnf) <;> rfl) (by with_reducible rfl) (by first | omega | decide) ?_)
      | (show CW _ _ _ _ _ _ _ _; first | refine W.kn ?_ | refine W.bl ?_ | refine W.sq ?_)
      | (show KO _ _ _ _; first | refine K.sn ?_ | refine K.bn ?_ | refine K.ln _ ?_ ⟨i + 1, rfl, rfl, by rw [ow]; rfl, vI (by omega), by rw [ow], ?_, rfl⟩)
      | refine K.nx ?_
      | refine K.re ?_
    · omega
    · omega
theorem refNum (H : ZC Z) (n w : Nat) (hw : 1 ≤ w) (hw7 : w ≤ 7) (hn : n < 256 ^ w) (hn2 : n < 65536) (L : List Go.Pv.Obj) : SE Try.prog Z 21 [.int .i64 n, .int .i64 w] L (.tup [gB (numL n w), .int .i64 0]) L :=
  SE.lift (refNum0 H n w hw hw7 hn hn2) L rfl (by simp [V.lt, V.lts, gB_data])
end Go.Proofs.Aes
end
section
/- Aes: the powers of 3. -/
set_option maxRecDepth 100000
namespace Go.Proofs.Aes
open Go.Pv
def pw : Nat → UInt8
  | 0 => 1
  | n + 1 => mulU (pw n) 3
def pwI : Nat → UInt8 → List UInt8
  | 0, _ => []
  | n + 1, x => x :: pwI n (mulU x 3)
def pwL : List UInt8 := [1, 3, 5, 15, 17, 51, 85, 255, 26, 46, 114, 150, 161, 248, 19, 53, 95, 225, 56, 72, 216, 115, 149, 164, 247, 2, 6, 10, 30, 34, 102, 170, 229, 52, 92, 228, 55, 89, 235, 38, 106, 190, 217, 112, 144, 171, 230, 49, 83, 245, 4, 12, 20, 60, 68, 204, 79, 209, 104, 184, 211, 110, 178, 205, 76, 212, 103, 169, 224, 59, 77, 215, 98, 166, 241, 8, 24, 40, 120, 136, 131, 158, 185, 208, 107, 189, 220, 127, 129, 152, 179, 206, 73, 219, 118, 154, 181, 196, 87, 249, 16, 48, 80, 240, 11, 29, 39, 105, 187, 214, 97, 163, 254, 25, 43, 125, 135, 146, 173, 236, 47, 113, 147, 174, 233, 32, 96, 160, 251, 22, 58, 78, 210, 109, 183, 194, 93, 231, 50, 86, 250, 21, 63, 65, 195, 94, 226, 61, 71, 201, 64, 192, 91, 237, 44, 116, 156, 191, 218, 117, 159, 186, 213, 100, 172, 239, 42, 126, 130, 157, 188, 223, 122, 142, 137, 128, 155, 182, 193, 88, 232, 35, 101, 175, 234, 37, 111, 177, 200, 67, 197, 84, 252, 31, 33, 99, 165, 244, 7, 9, 27, 45, 119, 153, 176, 203, 70, 202, 69, 207, 74, 222, 121, 139, 134, 145, 168, 227, 62, 66, 198, 81, 243, 14, 18, 54, 90, 238, 41, 123, 141, 140, 143, 138, 133, 148, 167, 242, 13, 23, 57, 75, 221, 124, 132, 151, 162, 253, 28, 36, 108, 180, 199, 82, 246]
theorem pwI_eq : pwI 255 1 = pwL := by decide +kernel
theorem pwI_get : ∀ (n k i : Nat), i < n → (pwI n (pw k))[i]? = some (pw (k + i))
  | 0, _, _, h => absurd h (Nat.not_lt_zero _)
  | n + 1, k, 0, _ => rfl
  | n + 1, k, i + 1, h => by
    rw [pwI, List.getElem?_cons_succ]
    have := pwI_get n (k + 1) i (by omega)
    rw [show k + (i + 1) = k + 1 + i by omega, ← this]; rfl
theorem pw_get (i : Nat) (h : i < 255) : pwL[i]? = some (pw i) := by
  rw [← pwI_eq]
  have := pwI_get 255 0 i h
  rwa [Nat.zero_add] at this
theorem pwL_inv : ((List.range 255).all fun i => invU (pwL.getD i 0) == pwL.getD ((255 - i) % 255) 0 && pwL.getD i 0 != 0) = true := by decide +kernel
theorem pwL_all : ((List.range 256).all fun x => x == 0 || pwL.contains (UInt8.ofNat x)) = true := by decide +kernel
theorem pw_inv (i : Nat) (h : i < 255) : invU (pw i) = pw ((255 - i) % 255) ∧ pw i ≠ 0 := by
  have := List.all_eq_true.1 pwL_inv i (List.mem_range.2 h)
  rw [List.getD_eq_getElem?_getD, List.getD_eq_getElem?_getD, pw_get i h, pw_get _ (Nat.mod_lt _ (by omega))] at this
  simp only [Option.getD_some, Bool.and_eq_true, beq_iff_eq, bne_iff_ne] at this
  exact this
theorem pw_all (x : UInt8) (h : x ≠ 0) : ∃ q, q < 255 ∧ pw q = x := by
  have := List.all_eq_true.1 pwL_all x.toNat (List.mem_range.2 x.toNat_lt)
  simp only [Bool.or_eq_true, beq_iff_eq, UInt8.ofNat_toNat, List.contains_iff_mem] at this
  rcases this with h0 | hm
  · exact absurd (by rw [← UInt8.toNat_inj]; exact h0) h
  · obtain ⟨q, hq⟩ := List.getElem?_of_mem hm
    have hlt : q < 255 := by
      have := (List.getElem?_eq_some_iff.1 hq).1
      exact this
    rw [pw_get q hlt] at hq
    exact ⟨q, hlt, Option.some.inj hq⟩
end Go.Proofs.Aes
end
section
set_option linter.unusedVariables false
set_option linter.unusedSimpArgs false
set_option maxHeartbeats 4000000
set_option maxRecDepth 100000
namespace Go.Proofs.Aes
open Go Go.Pv Go.Proofs
variable {Z : Nat → Go.Obj → Prop}
attribute [local irreducible] mulU exE exW invU
theorem rd_set_ne {l : List UInt8} {i j : Nat} {a : UInt8} (h : i ≠ j) : rd (l.set i a) (j : Int) = rd l (j : Int) := by
  rw [rd_nat, rd_nat, List.getD_eq_getElem?_getD, List.getD_eq_getElem?_getD, List.getElem?_set_ne h]
theorem rd_set_eq {l : List UInt8} {i : Nat} {a : UInt8} (h : i < l.length) : rd (l.set i a) (i : Int) = a := by
  rw [rd_nat, List.getD_eq_getElem?_getD, List.getElem?_set_self h]; rfl
theorem pws_rd (n i : Nat) (h : i < n) : rd ((List.range n).map pw) (i : Int) = pw i := by
  rw [rd_nat, List.getD_eq_getElem?_getD, List.getElem?_eq_getElem (by simpa using h)]; simp
theorem box_end {o : List UInt8} (hl : o.length = 256) (h0 : rd o 0 = turnU 0) (h : ∀ q, q < 255 → rd o ((pw q).toNat : Int) = boxU (pw q)) : o = boxL := by
  refine List.ext_getElem (by rw [hl, boxL_len]) fun p q1 q2 => ?_
  have hp : p < 256 := by omega
  have hb : boxL[p] = boxU (UInt8.ofNat p) := by simp [boxL]
  refine Eq.trans ?_ hb.symm
  have hr : rd o (p : Int) = o[p] := by rw [rd_nat, List.getD_eq_getElem?_getD, List.getElem?_eq_getElem q1]; rfl
  by_cases hx : p = 0
  · subst hx
    have : o[0] = turnU 0 := by rw [← hr]; exact h0
    rw [this]
    show turnU 0 = turnU (invU 0)
    rw [inv_zero]
  · have hne : UInt8.ofNat p ≠ 0 := fun he => by
      have := congrArg UInt8.toNat he
      rw [UInt8.toNat_ofNat', Nat.mod_eq_of_lt (by omega)] at this
      exact hx this
    obtain ⟨q, hq, hqe⟩ := pw_all _ hne
    have := h q hq
    rw [hqe, UInt8.toNat_ofNat', Nat.mod_eq_of_lt (by omega), hr] at this
    exact this
theorem pw_box (i : Nat) (h : i < 255) : turnU (pw ((255 - i) % 255)) = boxU (pw i) := by
  unfold boxU; rw [(pw_inv i h).1]

theorem refBoxes0 (H : ZC Z) : SE Try.prog Z 27 [] [] (gB boxL) [] := by
  refine SE.data H Try.func27 rfl ?_
  repeat' first
    | (show XO _ _ _ (Oper.mk _ _ _ _ _ none :: _) _ _ _; first | refine X.mk (g := g8) 0 256 rfl rfl (by omega) ?_ | refine X.iaN rfl rfl (by omega) rfl (by simp) ?_ | refine X.stN (c := 0) (turnU 0) rfl rfl rfl (by simp) (by simp) (fun _ => rfl) ?_)
    | (show XO _ _ _ (Oper.mk (some _) (Op.move _) _ _ _ none :: _) _ _ _; refine X.mv ?_)
    | (show XO _ _ _ (Oper.mk (some _) (Op.assign _) _ _ _ none :: _) _ _ _; refine X.as ?_)
    | (show XO _ _ _ (Oper.mk (some _) (Op.call _) _ _ _ none :: _) _ _ _; refine X.call (refTurned H 0 _) ?_)
    | (show XO _ _ _ (Oper.mk (some _) (Op.buildSlice _ _ _) _ _ _ none :: _) _ _ _; refine X.bs1 (by (conv => lhs; whnf) <;> rfl) ?_)
    | (show XO _ _ _ [] _ _ _; refine X.nil ?_)
    | (show CW _ _ _ _ (Code.seq (Code.region _ _ false) _) _ _ _; refine W.rq ?_)
    | (show CW _ _ _ _ _ _ _ _; first | refine W.bl ?_ | refine W.sq ?_)
    | refine K.nx ?_
  refine W.ownify 2 1 rfl (by simp [V.cells]) (by decide) ?_
  refine W.lq (fun mz st => ∃ (i : Nat), st.env 1 = .own 0 0 256 256 ∧ st.env 2 = .own 1 0 (((List.range i).map pw).map g8).length (((List.range i).map pw).map g8).length ∧ st.env 3 = .int .i64 i ∧ st.L = [Go.Pv.Obj.buf 1 0 (((List.replicate 256 (0 : UInt8)).set 0 (turnU 0)).map g8), .buf 1 1 (((List.range i).map pw).map g8)] ∧ (1 ≤ i ∧ i ≤ 255) ∧ mz = 255 - i) ?_ ?_
  · refine ⟨_, 1, rfl, rfl, rfl, rfl, ?_, rfl⟩
    omega
  rintro mz env L ⟨i, e1, e2, e3, eL, hI, hm⟩
  dsimp only at e1 e2 e3 eL
  subst eL
  refine W.ev 1 e1 ?_
  refine W.ev 2 e2 ?_
  refine W.ev 3 e3 ?_
  obtain ⟨h1, h2⟩ := hI
  by_cases h : i = 255
  · subst h
    repeat' first
      | (show XO _ _ _ (Oper.mk (some _) (Op.move _) _ _ _ none :: _) _ _ _; refine X.mv ?_)
      | (show XO _ _ _ (Oper.mk (some _) (Op.assign _) _ _ _ none :: _) _ _ _; refine X.as ?_)
      | (show XO _ _ _ (Oper.mk (some _) (_) _ _ _ none :: _) _ _ _; refine X.go rfl ?_)
      | (show XO _ _ _ [] _ _ _; refine X.nil ?_)
      | (show CW _ _ _ _ (Code.seq (Code.region _ _ false) _) _ _ _; refine W.rq ?_)
      | (show CW _ _ _ _ (Code.cond _ _ _) _ _ _; refine W.jpf (by (conv => lhs; whnf) <;> rfl) (by with_reducible rfl) (by first | omega | decide) ?_)
      | (show CW _ _ _ _ _ _ _ _; first | refine W.ke ?_ | refine W.bl ?_ | refine W.sq ?_)
      | (show KO _ _ _ _; first | refine K.sn ?_ | refine K.se ?_ | refine K.be ?_ | refine K.le ?_)
      | refine K.nx ?_
    refine W.lq (fun mz st => ∃ (i : Nat) (o : List UInt8), st.env 1 = .own 0 0 256 256 ∧ st.env 2 = .own 1 0 (((List.range 255).map pw).map g8).length (((List.range 255).map pw).map g8).length ∧ st.env 4 = .int .i64 i ∧ st.L = [Go.Pv.Obj.buf 1 0 (o.map g8), .buf 1 1 (((List.range 255).map pw).map g8)] ∧ (i ≤ 255 ∧ o.length = 256 ∧ rd o 0 = turnU 0 ∧ ∀ q, q < i → rd o ((pw q).toNat : Int) = boxU (pw q)) ∧ mz = 255 - i) ?_ ?_
    · refine ⟨_, 0, (List.replicate 256 (0 : UInt8)).set 0 (turnU 0), rfl, rfl, rfl, rfl, ?_, rfl⟩
      exact ⟨by omega, by simp, rd_set_eq (by simp), fun q hq => absurd hq (Nat.not_lt_zero q)⟩
    rintro mz env L ⟨i, o, e1, e2, e4, eL, hJ, hm⟩
    dsimp only at e1 e2 e4 eL
    subst eL
    refine W.ev 1 e1 ?_
    refine W.ev 2 e2 ?_
    refine W.ev 4 e4 ?_
    obtain ⟨j1, j2, j3, j4⟩ := hJ
    by_cases hi : i = 255
    · subst hi
      repeat' first
        | (show XO _ _ _ (Oper.mk (some _) (Op.move _) _ _ _ none :: _) _ _ _; refine X.mv ?_)
        | (show XO _ _ _ (Oper.mk (some _) (Op.assign _) _ _ _ none :: _) _ _ _; refine X.as ?_)
        | (show XO _ _ _ (Oper.mk (some _) (_) _ _ _ none :: _) _ _ _; refine X.go rfl ?_)
        | (show XO _ _ _ [] _ _ _; refine X.nil ?_)
        | (show CW _ _ _ _ (Code.seq (Code.region _ _ false) _) _ _ _; refine W.rq ?_)
        | (show CW _ _ _ _ (Code.cond _ _ _) _ _ _; refine W.jpf (by (conv => lhs; whnf) <;> rfl) (by with_reducible rfl) (by first | omega | decide) ?_)
        | (show CW _ _ _ _ _ _ _ _; first | refine W.kr ?_ | refine W.ke ?_ | refine W.sq ?_)
        | (show KO _ _ _ _; first | refine K.sn ?_ | refine K.se ?_ | refine K.be ?_ | refine K.le ?_)
        | refine K.nx ?_
      refine K.fin rfl ⟨_, rfl, (frzN rfl (Nat.zero_le _) j2 (map_data g8_data _)).trans ?_⟩
      rw [box_end j2 j3 j4]; rfl
    · have hil : i < 255 := by omega
      have hp1 := pws_rd 255 i hil
      have hp2 := pws_rd 255 ((255 - i) % 255) (Nat.mod_lt _ (by omega))
      have hix : (((255 - i) % 255 : Nat) : Int) = (255 - (i : Int)) % 255 := by omega
      rw [hix] at hp2
      have hturn := refTurned H (pw ((255 - i) % 255))
      rw [pw_box i hil] at hturn
      have hlt := (pw i).toNat_lt
      have hpl : ((List.range 255).map pw).length = 255 := by simp
      have hne := (pw_inv i hil).2
      have hne0 : (pw i).toNat ≠ 0 := fun h0 => hne (by rw [← UInt8.toNat_inj]; exact h0)
      rw [← hp2] at hturn
      repeat' first
        | (show XO _ _ _ (Oper.mk _ _ _ _ _ none :: _) _ _ _; first | refine X.iaN rfl rfl (by omega) rfl j2 ?_ | refine X.stN (boxU (pw i)) rfl rfl rfl (by omega) j2 (fun _ => rfl) ?_)
        | (show XO _ _ _ (Oper.mk (some _) (Op.move _) _ _ _ none :: _) _ _ _; refine X.mv ?_)
        | (show XO _ _ _ (Oper.mk (some _) (Op.assign _) _ _ _ none :: _) _ _ _; refine X.as ?_)
        | (show XO _ _ _ (Oper.mk (some _) (Op.binOp BinOp.add _ _ _ _) _ _ _ none :: _) _ _ _; refine X.addI rfl rfl (by omega) ?_)
        | (show XO _ _ _ (Oper.mk (some _) (_) _ _ _ none :: _) _ _ _; refine X.go rfl ?_)
        | (show XO _ _ _ [] _ _ _; refine X.nil ?_)
        | (show AO _ _ _ (Oper.mk _ _ _ _ _ none :: _) _ _ _; refine A.go rfl ?_ (v := .int .i64 ((pw i).toNat : Int)) (hv := vI ((w64R (by rw [hp1]; omega)).trans (by rw [hp1]))))
        | (show AO _ _ _ (Oper.mk (some _) (Op.move _) _ _ _ none :: _) _ _ _; refine A.mv ?_)
        | (show AO _ _ _ (Oper.mk (some _) (Op.call _) _ _ _ none :: _) _ _ _; refine A.call (hturn _) ?_)
        | (show AO _ _ _ (Oper.mk (some _) (Op.binOp BinOp.sub _ _ _ _) _ _ _ none :: _) _ _ _; refine A.subI rfl rfl (by omega) ?_)
        | (show AO _ _ _ (Oper.mk (some _) (Op.binOp BinOp.rem _ _ _ _) _ _ _ none :: _) _ _ _; refine A.remI rfl rfl (by omega) ?_)
        | (show AO _ _ _ (Oper.mk (some _) (Op.indexAddr _ _ _) _ _ _ none :: _) _ _ _; refine A.iaO rfl rfl (by omega) rfl ?_)
        | (show AO _ _ _ (Oper.mk (some _) (Op.load _ _) _ _ _ none :: _) _ _ _; refine A.ldO rfl rfl (by omega) ?_)
        | (show AO _ _ _ [] _ _ _; refine A.nil ?_)
        | (show CW _ _ _ _ (Code.seq (Code.region _ _ false) _) _ _ _; refine W.rq ?_)
        | (show CW _ _ _ _ (Code.region _ _ false) _ _ _; refine W.rz ?_)
        | (show CW _ _ _ _ (Code.region _ _ true) _ _ _; refine W.dz 13 ?_)
        | (show CW _ _ _ _ (Code.cond _ _ _) _ _ _; refine W.jpt (by (conv => lhs; whnf) <;> rfl) (by with_reducible rfl) (by first | omega | decide) ?_)
        | (show CW _ _ _ _ _ _ _ _; first | refine W.kn ?_ | refine W.bl ?_ | refine W.sq ?_)
        | (show KO _ _ _ _; first | refine K.sn ?_ | refine K.bn ?_ | refine K.ln _ ?_ ⟨i + 1, _, rfl, rfl, vI (by omega), rfl, ?_, rfl⟩)
        | refine K.nx ?_
        | refine K.re ?_
        | refine K.dr ?_
      · omega
      · rw [show ((pw i).toNat : Int).toNat = (pw i).toNat by omega]
        refine ⟨by omega, by simp [j2], ?_, fun q hq => ?_⟩
        · have := rd_set_ne (l := o) (a := boxU (pw i)) (i := (pw i).toNat) (j := 0) hne0
          exact this.trans j3
        · by_cases hqe : (pw i).toNat = (pw q).toNat
          · rw [← hqe, rd_set_eq (by omega)]
            have : pw i = pw q := UInt8.toNat_inj.1 hqe
            rw [this]
          · rw [rd_set_ne hqe]
            exact j4 q (by
              have : q ≠ i := fun e => hqe (by rw [e])
              omega)
  · have hpr := pws_rd i (i - 1) (by omega)
    rw [show ((i - 1 : Nat) : Int) = (i : Int) - 1 by omega] at hpr
    have hpw : mulU (pw (i - 1)) 3 = pw i := by
      obtain ⟨k, rfl⟩ : ∃ k, i = k + 1 := ⟨i - 1, by omega⟩
      rfl
    have ow : (List.range (i + 1)).map pw = (List.range i).map pw ++ [pw i] := by rw [List.range_succ, List.map_append]; rfl
    have hmul := refMul H (pw (i - 1)) 3
    rw [hpw, ← hpr] at hmul
    have hpl : ((List.range i).map pw).length = i := by simp
    repeat' first
      | (show XO _ _ _ (Oper.mk _ _ _ _ _ none :: _) _ _ _; refine X.ap1 (g := g8) (pw i) rfl rfl rfl (by omega) ?_)
      | (show XO _ _ _ (Oper.mk (some _) (Op.move _) _ _ _ none :: _) _ _ _; refine X.mv ?_)
      | (show XO _ _ _ (Oper.mk (some _) (Op.assign _) _ _ _ none :: _) _ _ _; refine X.as ?_)
      | (show XO _ _ _ (Oper.mk (some _) (Op.call _) _ _ _ none :: _) _ _ _; refine X.call (hmul _) ?_)
      | (show XO _ _ _ (Oper.mk (some _) (Op.binOp BinOp.add _ _ _ _) _ _ _ none :: _) _ _ _; refine X.addI rfl rfl (by omega) ?_)
      | (show XO _ _ _ (Oper.mk (some _) (Op.binOp BinOp.sub _ _ _ _) _ _ _ none :: _) _ _ _; refine X.subI rfl rfl (by omega) ?_)
      | (show XO _ _ _ (Oper.mk (some _) (Op.buildSlice _ _ _) _ _ _ none :: _) _ _ _; refine X.bs1 (by (conv => lhs; whnf) <;> rfl) ?_)
      | (show XO _ _ _ (Oper.mk (some _) (Op.indexAddr _ _ _) _ _ _ none :: _) _ _ _; refine X.iaO rfl rfl (by omega) rfl ?_)
      | (show XO _ _ _ (Oper.mk (some _) (Op.load _ _) _ _ _ none :: _) _ _ _; refine X.ldO rfl rfl (by omega) ?_)
      | (show XO _ _ _ (Oper.mk (some _) (_) _ _ _ none :: _) _ _ _; refine X.go rfl ?_)
      | (show XO _ _ _ [] _ _ _; refine X.nil ?_)
      | (show CW _ _ _ _ (Code.seq (Code.region _ _ false) _) _ _ _; refine W.rq ?_)
      | (show CW _ _ _ _ (Code.region _ _ false) _ _ _; refine W.rz ?_)
      | (show CW _ _ _ _ (Code.cond _ _ _) _ _ _; refine W.jpt (by (conv => lhs; whnf) <;> rfl) (by with_reducible rfl) (by first | omega | decide) ?_)
      | (show CW _ _ _ _ _ _ _ _; first | refine W.kn ?_ | refine W.bl ?_ | refine W.sq ?_)
      | (show KO _ _ _ _; first | refine K.sn ?_ | refine K.bn ?_ | refine K.ln _ ?_ ⟨i + 1, rfl, by rw [ow]; rfl, vI (by omega), by rw [ow], ?_, rfl⟩)
      | refine K.nx ?_
      | refine K.re ?_
    · omega
    · omega
end Go.Proofs.Aes
end
