import Derived.Test.YtfjkplemepcmeaaG7
import Derived.Test.YtfjkplemepcmeaaProg
set_option linter.unusedVariables false
set_option linter.unusedSimpArgs false
set_option linter.unusedSectionVars false
section
set_option linter.unusedVariables false
set_option linter.unusedSimpArgs false
set_option maxHeartbeats 4000000
namespace Go.Proofs.Aes
open Go Go.Pv Go.Proofs
variable {Z : Nat → Go.Obj → Prop}
abbrev ZC (Z : Nat → Go.Obj → Prop) : Prop := ∀ B o, Z B o → ∃ c e f, o = Go.Obj.cells c e f

theorem mul (H : ZC Z) (a0 b0 : UInt8) (L : List Go.Pv.Obj) : SE Try.prog Z 13 [g8 a0, g8 b0] L (g8 (mulU a0 b0)) L := by
  refine SE.data H Try.func13 rfl ?_
  repeat' first
    | (show XO _ _ _ (Oper.mk (some _) (Op.assign _) _ _ _ none :: _) _ _ _; refine X.as ?_)
    | (show XO _ _ _ [] _ _ _; refine X.nil ?_)
    | (show CW _ _ _ _ (Code.seq (Code.region _ _ false) _) _ _ _; refine W.rq ?_)
    | (show CW _ _ _ _ _ _ _ _; first | refine W.bl ?_ | refine W.sq ?_)
    | refine K.nx ?_
  refine W.lq (fun mz st => ∃ (i : Nat) (a b o : UInt8), st.env 0 = g8 a ∧ st.env 1 = g8 b ∧ st.env 5 = g8 o ∧ st.L = L ∧ (mulF (8 - i) a b o = mulU a0 b0 ∧ i ≤ 8 ∧ b.toNat < 2 ^ (8 - i)) ∧ mz = b.toNat) ?_ ?_
  · refine ⟨_, 0, a0, b0, 0, rfl, rfl, rfl, rfl, ?_, rfl⟩
    exact ⟨rfl, by omega, by have := b0.toNat_lt; omega⟩
  rintro mz env L ⟨i, a, b, o, e0, e1, e5, eL, hI, hm⟩
  dsimp only at e0 e1 e5 eL
  subst eL
  refine W.ev 0 e0 ?_
  refine W.ev 1 e1 ?_
  refine W.ev 5 e5 ?_
  obtain ⟨h1, h2, h3⟩ := hI
  by_cases h0 : b.toNat = 0
  · have hb0 : b = 0 := by rw [← UInt8.toNat_inj]; exact h0
    repeat' first
      | (show XO _ _ _ (Oper.mk (some _) (Op.move _) _ _ _ none :: _) _ _ _; refine X.mv ?_)
      | (show XO _ _ _ (Oper.mk (some _) (Op.assign _) _ _ _ none :: _) _ _ _; refine X.as ?_)
      | (show XO _ _ _ (Oper.mk (some _) (_) _ _ _ none :: _) _ _ _; refine X.go rfl ?_)
      | (show XO _ _ _ [] _ _ _; refine X.nil ?_)
      | (show CW _ _ _ _ (Code.seq (Code.region _ _ false) _) _ _ _; refine W.rq ?_)
      | (show CW _ _ _ _ (Code.cond _ _ _) _ _ _; refine W.jpf (by (conv => lhs; whnf) <;> rfl) (by with_reducible rfl) (by first | omega | decide) ?_)
      | (show CW _ _ _ _ _ _ _ _; first | refine W.kr ?_ | refine W.ke ?_ | refine W.sq ?_)
      | (show KO _ _ _ _; first | refine K.sn ?_ | refine K.se ?_ | refine K.be ?_ | refine K.le ?_)
      | refine K.nx ?_
    refine end_data rfl rfl ?_
    rw [← h1, hb0, mulF_zero]; rfl
  · have hi : i < 8 := by
      by_cases h : i = 8
      · subst h; simp at h3; exact absurd (by rw [h3]) h0
      · omega
    rw [mulF_step hi] at h1
    have hs := shr1_nat b
    have ha := and1_nat b
    have h3' : (b >>> 1).toNat < 2 ^ (8 - (i + 1)) := by
      rw [show 8 - i = (8 - (i + 1)) + 1 by omega, Nat.pow_succ] at h3
      omega
    repeat' first
      | (show XO _ _ _ (Oper.mk _ _ _ _ _ none :: _) _ _ _; first | refine X.and8 (b := 1) rfl rfl ?_ | refine X.xor8 rfl rfl ?_)
      | (show XO _ _ _ (Oper.mk (some _) (Op.move _) _ _ _ none :: _) _ _ _; refine X.mv ?_)
      | (show XO _ _ _ (Oper.mk (some _) (Op.assign _) _ _ _ none :: _) _ _ _; refine X.as ?_)
      | (show XO _ _ _ (Oper.mk (some _) (Op.binOp BinOp.mul _ _ _ _) _ _ _ none :: _) _ _ _; refine X.go rfl ?_)
      | (show XO _ _ _ (Oper.mk (some _) (_) _ _ _ none :: _) _ _ _; refine X.go rfl ?_)
      | (show XO _ _ _ [] _ _ _; refine X.nil ?_)
      | (show CW _ _ _ _ (Code.seq (Code.region _ _ false) _) _ _ _; refine W.rq ?_)
      | (show CW _ _ _ _ (Code.region _ _ false) _ _ _; refine W.rz ?_)
      | (show CW _ _ _ _ (Code.cond _ _ _) _ _ _; first | refine W.jpt (by (conv => lhs; whnf) <;> rfl) (by with_reducible rfl) (by first | omega | decide) ?_ | refine W.jp (by (conv => lhs; whnf) <;> rfl) (by with_reducible rfl) (fun h => ?_) (fun h => ?_))
      | (show CW _ _ _ _ _ _ _ _; first | refine W.kn ?_ | refine W.bl ?_ | refine W.sq ?_)
      | (show KO _ _ _ _; first | refine K.sn ?_ | refine K.bn ?_ | refine K.ln _ ?_ ⟨i + 1, xt a, b >>> 1, _, vI (xt_raw a), vI (shr1_raw b), rfl, rfl, ?_, rfl⟩)
      | refine K.nx ?_
      | refine K.re ?_
    · omega
    · refine ⟨?_, by omega, h3'⟩
      rw [if_pos (by omega)] at h1; exact h1
    · omega
    · refine ⟨?_, by omega, h3'⟩
      rw [if_neg (by omega)] at h1; exact h1

theorem xorN (a b : Nat) (ha : a < 65536) (hb : b < 65536) : IntKind.i64.wrap ((BitVec.ofInt IntKind.i64.bits (a : Int) ^^^ BitVec.ofInt IntKind.i64.bits (b : Int)).toNat : Nat) = ((a ^^^ b : Nat) : Int) := by
  have h1 : (BitVec.ofInt IntKind.i64.bits (a : Int) ^^^ BitVec.ofInt IntKind.i64.bits (b : Int)).toNat = a ^^^ b := xor_raw (n := 64) (by omega) (by omega)
  rw [h1]
  have := Nat.xor_lt_two_pow (n := 16) (show a < 2 ^ 16 by omega) (show b < 2 ^ 16 by omega)
  exact w64R ⟨by omega, by omega⟩
theorem refMul (H : ZC Z) (a0 b0 : UInt8) (L : List Go.Pv.Obj) : SE Try.prog Z 14 [g8 a0, g8 b0] L (g8 (mulU a0 b0)) L := by
  have ha0 := a0.toNat_lt
  have hb0 := b0.toNat_lt
  refine SE.data H Try.func14 rfl ?_
  repeat' first
    | (show XO _ _ _ (Oper.mk (some _) (Op.move _) _ _ _ none :: _) _ _ _; refine X.mv ?_)
    | (show XO _ _ _ (Oper.mk (some _) (Op.assign _) _ _ _ none :: _) _ _ _; refine X.as ?_)
    | (show XO _ _ _ (Oper.mk (some _) (Op.convert _ _ _) _ _ _ none :: _) _ _ _; refine X.cvI rfl rfl rfl (w64R (by omega)) ?_)
    | (show XO _ _ _ [] _ _ _; refine X.nil ?_)
    | (show CW _ _ _ _ (Code.seq (Code.region _ _ false) _) _ _ _; refine W.rq ?_)
    | (show CW _ _ _ _ _ _ _ _; first | refine W.bl ?_ | refine W.sq ?_)
    | refine K.nx ?_
  refine W.lq (fun mz st => ∃ (i : Nat) (a b o : UInt8), st.env 5 = .int .i64 o.toNat ∧ st.env 6 = .int .i64 a.toNat ∧ st.env 7 = .int .i64 b.toNat ∧ st.env 8 = .int .i64 i ∧ st.L = L ∧ (mulF (8 - i) a b o = mulU a0 b0 ∧ i ≤ 8) ∧ mz = 8 - i) ?_ ?_
  · refine ⟨_, 0, a0, b0, 0, rfl, rfl, rfl, rfl, rfl, ?_, rfl⟩
    exact ⟨rfl, by omega⟩
  rintro mz env L ⟨i, a, b, o, e5, e6, e7, e8, eL, hI, hm⟩
  dsimp only at e5 e6 e7 e8 eL
  subst eL
  refine W.ev 5 e5 ?_
  refine W.ev 6 e6 ?_
  refine W.ev 7 e7 ?_
  refine W.ev 8 e8 ?_
  obtain ⟨h1, h2⟩ := hI
  have hal := a.toNat_lt
  have hbl := b.toNat_lt
  have hol := o.toNat_lt
  by_cases h8 : i = 8
  · subst h8
    repeat' first
      | (show XO _ _ _ (Oper.mk (some _) (Op.move _) _ _ _ none :: _) _ _ _; refine X.mv ?_)
      | (show XO _ _ _ (Oper.mk (some _) (Op.assign _) _ _ _ none :: _) _ _ _; refine X.as ?_)
      | (show XO _ _ _ (Oper.mk (some _) (Op.convert _ _ _) _ _ _ none :: _) _ _ _; refine X.cvI rfl rfl rfl (wU8 (by omega)) ?_)
      | (show XO _ _ _ (Oper.mk (some _) (_) _ _ _ none :: _) _ _ _; refine X.go rfl ?_)
      | (show XO _ _ _ [] _ _ _; refine X.nil ?_)
      | (show CW _ _ _ _ (Code.seq (Code.region _ _ false) _) _ _ _; refine W.rq ?_)
      | (show CW _ _ _ _ (Code.cond _ _ _) _ _ _; refine W.jpf (by (conv => lhs; whnf) <;> rfl) (by with_reducible rfl) (by first | omega | decide) ?_)
      | (show CW _ _ _ _ _ _ _ _; first | refine W.kr ?_ | refine W.ke ?_ | refine W.sq ?_)
      | (show KO _ _ _ _; first | refine K.sn ?_ | refine K.se ?_ | refine K.be ?_ | refine K.le ?_)
      | refine K.nx ?_
    refine end_data rfl rfl ?_
    rw [← h1]; rfl
  · rw [mulF_step (by omega)] at h1
    have hs := shr1_nat b
    have hx := xt_nat a
    have hox : ((o ^^^ a).toNat : Int) = ((o.toNat ^^^ a.toNat : Nat) : Int) := rfl
    repeat' first
      | (show XO _ _ _ (Oper.mk (some _) (Op.move _) _ _ _ none :: _) _ _ _; refine X.mv ?_)
      | (show XO _ _ _ (Oper.mk (some _) (Op.assign _) _ _ _ none :: _) _ _ _; refine X.as ?_)
      | (show XO _ _ _ (Oper.mk (some _) (Op.binOp BinOp.add _ _ _ _) _ _ _ none :: _) _ _ _; refine X.addI rfl rfl (by omega) ?_)
      | (show XO _ _ _ (Oper.mk (some _) (Op.binOp BinOp.mul _ _ _ _) _ _ _ none :: _) _ _ _; refine X.mulI rfl rfl (by omega) ?_)
      | (show XO _ _ _ (Oper.mk (some _) (Op.binOp BinOp.quo _ _ _ _) _ _ _ none :: _) _ _ _; refine X.quoI rfl rfl (by omega) ?_)
      | (show XO _ _ _ (Oper.mk (some _) (Op.binOp BinOp.rem _ _ _ _) _ _ _ none :: _) _ _ _; refine X.remI rfl rfl (by omega) ?_)
      | (show XO _ _ _ (Oper.mk (some _) (_) _ _ _ none :: _) _ _ _; refine X.go rfl ?_)
      | (show XO _ _ _ [] _ _ _; refine X.nil ?_)
      | (show CW _ _ _ _ (Code.seq (Code.region _ _ false) _) _ _ _; refine W.rq ?_)
      | (show CW _ _ _ _ (Code.region _ _ false) _ _ _; refine W.rz ?_)
      | (show CW _ _ _ _ (Code.cond _ _ _) _ _ _; first | refine W.jpt (by (conv => lhs; whnf) <;> rfl) (by with_reducible rfl) (by first | omega | decide) ?_ | refine W.jp (by (conv => lhs; whnf) <;> rfl) (by with_reducible rfl) (fun h => ?_) (fun h => ?_))
      | (show CW _ _ _ _ _ _ _ _; first | refine W.kn ?_ | refine W.bl ?_ | refine W.sq ?_)
      | (show KO _ _ _ _; first | refine K.sn ?_ | refine K.bn ?_ | refine K.ln _ ?_ ⟨i + 1, xt a, b >>> 1, o ^^^ a, vI ((xorN _ _ (by omega) (by omega)).trans hox.symm), vI (by rw [hx, if_neg (by omega)]; omega), vI (by omega), vI (by omega), rfl, ?_, rfl⟩ | refine K.ln _ ?_ ⟨i + 1, xt a, b >>> 1, o ^^^ a, vI ((xorN _ _ (by omega) (by omega)).trans hox.symm), vI ((xorN (2 * a.toNat) 283 (by omega) (by omega)).trans (by rw [hx, if_pos (by omega)])), vI (by omega), vI (by omega), rfl, ?_, rfl⟩ | refine K.ln _ ?_ ⟨i + 1, xt a, b >>> 1, o, rfl, vI (by rw [hx, if_neg (by omega)]; omega), vI (by omega), vI (by omega), rfl, ?_, rfl⟩ | refine K.ln _ ?_ ⟨i + 1, xt a, b >>> 1, o, rfl, vI ((xorN (2 * a.toNat) 283 (by omega) (by omega)).trans (by rw [hx, if_pos (by omega)])), vI (by omega), vI (by omega), rfl, ?_, rfl⟩)
      | refine K.nx ?_
      | refine K.re ?_
    all_goals first | omega | refine ⟨?_, by omega⟩
    all_goals first | (rw [if_pos (by omega)] at h1; exact h1) | (rw [if_neg (by omega)] at h1; exact h1)
end Go.Proofs.Aes
end
section
set_option linter.unusedVariables false
set_option linter.unusedSimpArgs false
set_option maxHeartbeats 4000000
namespace Go.Proofs.Aes
open Go Go.Pv Go.Proofs
variable {Z : Nat → Go.Obj → Prop}
theorem andN (a b : Nat) (ha : a < 65536) (hb : b < 65536) : IntKind.i64.wrap ((BitVec.ofInt IntKind.i64.bits (a : Int) &&& BitVec.ofInt IntKind.i64.bits (b : Int)).toNat : Nat) = ((a &&& b : Nat) : Int) := by
  have h1 : (BitVec.ofInt IntKind.i64.bits (a : Int) &&& BitVec.ofInt IntKind.i64.bits (b : Int)).toNat = a &&& b := and_raw (n := 64) (by omega) (by omega)
  rw [h1]
  have := Nat.and_lt_two_pow a (n := 16) (show b < 2 ^ 16 by omega)
  exact w64R ⟨by omega, by omega⟩
theorem powF_zero : ∀ (f : Nat) (o x : UInt8), powF f 0 o x = o
  | 0, _, _ => rfl
  | f + 1, o, x => by rw [powF, if_neg (by decide)]; exact powF_zero f _ _
theorem shrN1 (n : Nat) : ((n : Nat) : Int).fdiv (2 ^ min (Int.toNat 1) IntKind.i64.bits) = ((n / 2 : Nat) : Int) := by
  show ((n : Nat) : Int).fdiv 2 = _
  rw [Int.fdiv_eq_ediv_of_nonneg _ (by omega)]; rfl

theorem inverse (H : ZC Z) (x0 : UInt8) (L : List Go.Pv.Obj) : SE Try.prog Z 28 [g8 x0] L (g8 (invU x0)) L := by
  refine SE.data H Try.func28 rfl ?_
  repeat' first
    | (show XO _ _ _ (Oper.mk (some _) (Op.assign _) _ _ _ none :: _) _ _ _; refine X.as ?_)
    | (show XO _ _ _ [] _ _ _; refine X.nil ?_)
    | (show CW _ _ _ _ (Code.seq (Code.region _ _ false) _) _ _ _; refine W.rq ?_)
    | (show CW _ _ _ _ _ _ _ _; first | refine W.bl ?_ | refine W.sq ?_)
    | refine K.nx ?_
  refine W.lq (fun mz st => ∃ (f n : Nat) (o x : UInt8), st.env 0 = g8 x ∧ st.env 3 = g8 o ∧ st.env 4 = .int .i64 n ∧ st.L = L ∧ (powF f n o x = invU x0 ∧ n < 2 ^ f ∧ n < 255) ∧ mz = n) ?_ ?_
  · refine ⟨_, 8, 254, 1, x0, rfl, rfl, rfl, rfl, ?_, rfl⟩
    exact ⟨rfl, by omega, by omega⟩
  rintro mz env L ⟨f, n, o, x, e0, e3, e4, eL, hI, hm⟩
  dsimp only at e0 e3 e4 eL
  subst eL
  refine W.ev 0 e0 ?_
  refine W.ev 3 e3 ?_
  refine W.ev 4 e4 ?_
  obtain ⟨h1, h2, h3⟩ := hI
  by_cases h0 : n = 0
  · subst h0
    rw [powF_zero] at h1
    repeat' first
      | (show XO _ _ _ (Oper.mk (some _) (Op.move _) _ _ _ none :: _) _ _ _; refine X.mv ?_)
      | (show XO _ _ _ (Oper.mk (some _) (Op.assign _) _ _ _ none :: _) _ _ _; refine X.as ?_)
      | (show XO _ _ _ (Oper.mk (some _) (_) _ _ _ none :: _) _ _ _; refine X.go rfl ?_)
      | (show XO _ _ _ [] _ _ _; refine X.nil ?_)
      | (show CW _ _ _ _ (Code.seq (Code.region _ _ false) _) _ _ _; refine W.rq ?_)
      | (show CW _ _ _ _ (Code.cond _ _ _) _ _ _; refine W.jpf (by (conv => lhs; whnf) <;> rfl) (by with_reducible rfl) (by first | omega | decide) ?_)
      | (show CW _ _ _ _ _ _ _ _; first | refine W.kr ?_ | refine W.ke ?_ | refine W.sq ?_)
      | (show KO _ _ _ _; first | refine K.sn ?_ | refine K.se ?_ | refine K.be ?_ | refine K.le ?_)
      | refine K.nx ?_
    refine end_data rfl rfl ?_
    rw [← h1]; rfl
  · obtain ⟨q, rfl⟩ : ∃ q, f = q + 1 := ⟨f - 1, by
      have : f ≠ 0 := fun h => by subst h; simp at h2; omega
      omega⟩
    rw [powF] at h1
    rw [Nat.pow_succ] at h2
    have hand := andN n 1 (by omega) (by omega)
    rw [Nat.and_one_is_mod] at hand
    have f0 : IntKind.i64.wrap ((BitVec.ofInt IntKind.i64.bits ((n : Nat) : Int) &&& BitVec.ofInt IntKind.i64.bits 1).toNat : Nat) = ((n % 2 : Nat) : Int) := hand
    by_cases hp : n % 2 = 1
    · rw [if_pos hp] at h1
      repeat' first
        | (show XO _ _ _ (Oper.mk (some _) (Op.move _) _ _ _ none :: _) _ _ _; refine X.mv ?_)
        | (show XO _ _ _ (Oper.mk (some _) (Op.assign _) _ _ _ none :: _) _ _ _; refine X.as ?_)
        | (show XO _ _ _ (Oper.mk (some _) (Op.call _) _ _ _ none :: _) _ _ _; refine X.call (mul H _ _ _) ?_)
        | (show XO _ _ _ (Oper.mk (some _) (_) _ _ _ none :: _) _ _ _; refine X.go rfl ?_)
        | (show XO _ _ _ [] _ _ _; refine X.nil ?_)
        | (show CW _ _ _ _ (Code.seq (Code.region _ _ false) _) _ _ _; refine W.rq ?_)
        | (show CW _ _ _ _ (Code.region _ _ false) _ _ _; refine W.rz ?_)
        | (show CW _ _ _ _ (Code.cond _ _ _) _ _ _; refine W.jpt (by (conv => lhs; whnf) <;> rfl) (by with_reducible rfl) (by first | omega | decide | (rw [f0]; omega)) ?_)
        | (show CW _ _ _ _ _ _ _ _; first | refine W.kn ?_ | refine W.bl ?_ | refine W.sq ?_)
        | (show KO _ _ _ _; first | refine K.sn ?_ | refine K.bn ?_ | refine K.ln _ ?_ ⟨q, n / 2, _, _, rfl, rfl, vI (shrN1 n), rfl, ?_, rfl⟩)
        | refine K.nx ?_
        | refine K.re ?_
      · omega
      · exact ⟨h1, by omega, by omega⟩
    · rw [if_neg hp] at h1
      repeat' first
        | (show XO _ _ _ (Oper.mk (some _) (Op.move _) _ _ _ none :: _) _ _ _; refine X.mv ?_)
        | (show XO _ _ _ (Oper.mk (some _) (Op.assign _) _ _ _ none :: _) _ _ _; refine X.as ?_)
        | (show XO _ _ _ (Oper.mk (some _) (Op.call _) _ _ _ none :: _) _ _ _; refine X.call (mul H _ _ _) ?_)
        | (show XO _ _ _ (Oper.mk (some _) (_) _ _ _ none :: _) _ _ _; refine X.go rfl ?_)
        | (show XO _ _ _ [] _ _ _; refine X.nil ?_)
        | (show CW _ _ _ _ (Code.seq (Code.region _ _ false) _) _ _ _; refine W.rq ?_)
        | (show CW _ _ _ _ (Code.region _ _ false) _ _ _; refine W.rz ?_)
        | (show CW _ _ _ _ (Code.cond _ _ _) _ _ _; first | refine W.jpt (by (conv => lhs; whnf) <;> rfl) (by with_reducible rfl) (by first | omega | decide | (rw [f0]; omega)) ?_ | refine W.jpf (by (conv => lhs; whnf) <;> rfl) (by with_reducible rfl) (by first | omega | decide | (rw [f0]; omega)) ?_)
        | (show CW _ _ _ _ _ _ _ _; first | refine W.kn ?_ | refine W.bl ?_ | refine W.sq ?_)
        | (show KO _ _ _ _; first | refine K.sn ?_ | refine K.bn ?_ | refine K.ln _ ?_ ⟨q, n / 2, _, _, rfl, rfl, vI (shrN1 n), rfl, ?_, rfl⟩)
        | refine K.nx ?_
        | refine K.re ?_
      · omega
      · exact ⟨h1, by omega, by omega⟩

theorem g8_of (i : Nat) (h : i < 256) : V.int .u8 ((i : Nat) : Int) = g8 (UInt8.ofNat i) := by
  unfold g8
  rw [UInt8.toNat_ofNat', Nat.mod_eq_of_lt (by omega)]
theorem refInverse (H : ZC Z) (x0 : UInt8) (L : List Go.Pv.Obj) : SE Try.prog Z 31 [g8 x0] L (g8 (invU x0)) L := by
  refine SE.data H Try.func31 rfl ?_
  repeat' first
    | (show XO _ _ _ (Oper.mk (some _) (Op.assign _) _ _ _ none :: _) _ _ _; refine X.as ?_)
    | (show XO _ _ _ [] _ _ _; refine X.nil ?_)
    | (show CW _ _ _ _ (Code.seq (Code.region _ _ false) _) _ _ _; refine W.rq ?_)
    | (show CW _ _ _ _ _ _ _ _; first | refine W.bl ?_ | refine W.sq ?_)
    | refine K.nx ?_
  refine W.lq (fun mz st => ∃ (i : Nat), st.env 0 = g8 x0 ∧ st.env 3 = .int .i64 i ∧ st.L = L ∧ (1 ≤ i ∧ i ≤ 256 ∧ ∀ q, 1 ≤ q → q < i → mulU x0 (UInt8.ofNat q) ≠ 1) ∧ mz = 256 - i) ?_ ?_
  · refine ⟨_, 1, rfl, rfl, rfl, ?_, rfl⟩
    exact ⟨by omega, by omega, fun q h1 h2 => absurd h1 (by omega)⟩
  rintro mz env L ⟨i, e0, e3, eL, hI, hm⟩
  dsimp only at e0 e3 eL
  subst eL
  refine W.ev 0 e0 ?_
  refine W.ev 3 e3 ?_
  obtain ⟨h1, h2, h3⟩ := hI
  by_cases h256 : i = 256
  · subst h256
    repeat' first
      | (show XO _ _ _ (Oper.mk (some _) (Op.move _) _ _ _ none :: _) _ _ _; refine X.mv ?_)
      | (show XO _ _ _ (Oper.mk (some _) (Op.assign _) _ _ _ none :: _) _ _ _; refine X.as ?_)
      | (show XO _ _ _ (Oper.mk (some _) (_) _ _ _ none :: _) _ _ _; refine X.go rfl ?_)
      | (show XO _ _ _ [] _ _ _; refine X.nil ?_)
      | (show CW _ _ _ _ (Code.seq (Code.region _ _ false) _) _ _ _; refine W.rq ?_)
      | (show CW _ _ _ _ (Code.cond _ _ _) _ _ _; refine W.jpf (by (conv => lhs; whnf) <;> rfl) (by with_reducible rfl) (by first | omega | decide) ?_)
      | (show CW _ _ _ _ _ _ _ _; first | refine W.kr ?_ | refine W.ke ?_ | refine W.sq ?_)
      | (show KO _ _ _ _; first | refine K.sn ?_ | refine K.se ?_ | refine K.be ?_ | refine K.le ?_)
      | refine K.nx ?_
    refine end_data rfl rfl ?_
    have : x0 = 0 := by
      by_cases hx : x0 = 0
      · exact hx
      · have hn := inv_ne hx
        have h0 : (invU x0).toNat ≠ 0 := fun h => hn (by rw [← UInt8.toNat_inj]; exact h)
        exact absurd (mul_inv hx) (by have := h3 (invU x0).toNat (by omega) (invU x0).toNat_lt; rwa [UInt8.ofNat_toNat] at this)
    rw [this, inv_zero]; rfl
  · have hm2 := refMul H x0 (UInt8.ofNat i)
    rw [← g8_of i (by omega)] at hm2
    by_cases hp : mulU x0 (UInt8.ofNat i) = 1
    · have hq := ((mul_one_iff _ _).1 hp).2
      rw [hp] at hm2
      repeat' first
        | (show XO _ _ _ (Oper.mk (some _) (Op.move _) _ _ _ none :: _) _ _ _; refine X.mv ?_)
        | (show XO _ _ _ (Oper.mk (some _) (Op.assign _) _ _ _ none :: _) _ _ _; refine X.as ?_)
        | (show XO _ _ _ (Oper.mk (some _) (Op.call _) _ _ _ none :: _) _ _ _; refine X.call (hm2 _) ?_)
        | (show XO _ _ _ (Oper.mk (some _) (Op.convert _ _ _) _ _ _ none :: _) _ _ _; refine X.cvI rfl rfl rfl (wU8 (by omega)) ?_)
        | (show XO _ _ _ (Oper.mk (some _) (_) _ _ _ none :: _) _ _ _; refine X.go rfl ?_)
        | (show XO _ _ _ [] _ _ _; refine X.nil ?_)
        | (show CW _ _ _ _ (Code.seq (Code.region _ _ false) _) _ _ _; refine W.rq ?_)
        | (show CW _ _ _ _ (Code.cond _ _ _) _ _ _; refine W.jpt (by (conv => lhs; whnf) <;> rfl) (by with_reducible rfl) (by first | omega | decide) ?_)
        | (show CW _ _ _ _ _ _ _ _; first | refine W.kr ?_ | refine W.kn ?_ | refine W.bl ?_ | refine W.sq ?_)
        | (show KO _ _ _ _; first | refine K.sn ?_ | refine K.sr ?_ | refine K.br ?_ | refine K.lr ?_)
        | refine K.nx ?_
      refine end_data rfl rfl ?_
      rw [← hq, ← g8_of i (by omega)]; rfl
    · have hp' : ¬ ((mulU x0 (UInt8.ofNat i)).toNat : Int) = 1 := fun h => hp (by rw [← UInt8.toNat_inj]; exact Int.ofNat.inj h)
      repeat' first
        | (show XO _ _ _ (Oper.mk (some _) (Op.move _) _ _ _ none :: _) _ _ _; refine X.mv ?_)
        | (show XO _ _ _ (Oper.mk (some _) (Op.assign _) _ _ _ none :: _) _ _ _; refine X.as ?_)
        | (show XO _ _ _ (Oper.mk (some _) (Op.call _) _ _ _ none :: _) _ _ _; refine X.call (hm2 _) ?_)
        | (show XO _ _ _ (Oper.mk (some _) (Op.binOp BinOp.add _ _ _ _) _ _ _ none :: _) _ _ _; refine X.addI rfl rfl (by omega) ?_)
        | (show XO _ _ _ (Oper.mk (some _) (Op.convert _ _ _) _ _ _ none :: _) _ _ _; refine X.cvI rfl rfl rfl (wU8 (by omega)) ?_)
        | (show XO _ _ _ (Oper.mk (some _) (_) _ _ _ none :: _) _ _ _; refine X.go rfl ?_)
        | (show XO _ _ _ [] _ _ _; refine X.nil ?_)
        | (show CW _ _ _ _ (Code.seq (Code.region _ _ false) _) _ _ _; refine W.rq ?_)
        | (show CW _ _ _ _ (Code.region _ _ false) _ _ _; refine W.rz ?_)
        | (show CW _ _ _ _ (Code.cond _ _ _) _ _ _; first | refine W.jpt (by (conv => lhs; whnf) <;> rfl) (by with_reducible rfl) (by first | omega | decide | exact hp') ?_ | refine W.jpf (by (conv => lhs; whnf) <;> rfl) (by with_reducible rfl) (by first | omega | decide | exact hp') ?_)
        | (show CW _ _ _ _ _ _ _ _; first | refine W.kn ?_ | refine W.bl ?_ | refine W.sq ?_)
        | (show KO _ _ _ _; first | refine K.sn ?_ | refine K.bn ?_ | refine K.ln _ ?_ ⟨i + 1, rfl, vI (by omega), rfl, ?_, rfl⟩)
        | refine K.nx ?_
        | refine K.re ?_
      · omega
      · refine ⟨by omega, by omega, fun q h1 h2 => ?_⟩
        by_cases hqi : q = i
        · subst hqi; exact hp
        · exact h3 q h1 (by omega)

end Go.Proofs.Aes
end
