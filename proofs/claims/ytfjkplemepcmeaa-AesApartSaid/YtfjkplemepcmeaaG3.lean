import Derived.Test.YtfjkplemepcmeaaG2
import Derived.Test.YtfjkplemepcmeaaProg
import Derived.Test.YtfjkplemepcmeaaG1
import Derived.Test.YtfjkplemepcmeaaPv35
set_option linter.unusedVariables false
set_option linter.unusedSimpArgs false
set_option linter.unusedSectionVars false
section
set_option linter.unusedVariables false
set_option linter.unusedSimpArgs false
set_option maxHeartbeats 4000000
namespace Go.Proofs.Aes
open Go Go.Pv Go.Proofs
variable {Z : Nat → Go.Obj → Prop}
abbrev ZC (Z : Nat → Go.Obj → Prop) : Prop := ∀ B o, Z B o → ∃ c e f, o = Go.Obj.cells c e f

theorem mul (H : ZC Z) (a0 b0 : UInt8) (L : List Go.Pv.Obj) : SE Try.prog Z 13 [g8 a0, g8 b0] L (g8 (mulU a0 b0)) L := by
  refine SE.data H Try.func13 rfl ?_
  repeat' first
    | (show XO _ _ _ (Oper.mk (some _) (Op.assign _) _ _ _ none :: _) _ _ _; refine X.as ?_)
    | (show XO _ _ _ [] _ _ _; refine X.nil ?_)
    | (show CW _ _ _ _ (Code.seq (Code.region _ _ false) _) _ _ _; refine W.rq ?_)
    | (show CW _ _ _ _ _ _ _ _; first | refine W.bl ?_ | refine W.sq ?_)
    | refine K.nx ?_
  refine W.lq (fun mz st => ∃ (i : Nat) (a b o : UInt8), st.env 0 = g8 a ∧ st.env 1 = g8 b ∧ st.env 5 = g8 o ∧ st.L = L ∧ (mulF (8 - i) a b o = mulU a0 b0 ∧ i ≤ 8 ∧ b.toNat < 2 ^ (8 - i)) ∧ mz = b.toNat) ?_ ?_
  · refine ⟨_, 0, a0, b0, 0, rfl, rfl, rfl, rfl, ?_, rfl⟩
    exact ⟨rfl, by omega, by have := b0.toNat_lt; omega⟩
  rintro mz env L ⟨i, a, b, o, e0, e1, e5, eL, hI, hm⟩
  dsimp only at e0 e1 e5 eL
  subst eL
  refine W.ev 0 e0 ?_
  refine W.ev 1 e1 ?_
  refine W.ev 5 e5 ?_
  obtain ⟨h1, h2, h3⟩ := hI
  by_cases h0 : b.toNat = 0
  · have hb0 : b = 0 := by rw [← UInt8.toNat_inj]; exact h0
    repeat' first
      | (show XO _ _ _ (Oper.mk (some _) (Op.move _) _ _ _ none :: _) _ _ _; refine X.mv ?_)
      | (show XO _ _ _ (Oper.mk (some _) (Op.assign _) _ _ _ none :: _) _ _ _; refine X.as ?_)
      | (show XO _ _ _ (Oper.mk (some _) (_) _ _ _ none :: _) _ _ _; refine X.go rfl ?_)
      | (show XO _ _ _ [] _ _ _; refine X.nil ?_)
      | (show CW _ _ _ _ (Code.seq (Code.region _ _ false) _) _ _ _; refine W.rq ?_)
      | (show CW _ _ _ _ (Code.cond _ _ _) _ _ _; refine W.jpf (by (conv => lhs; whnf) <;> rfl) (by with_reducible rfl) (by first | omega | decide) ?_)
      | (show CW _ _ _ _ _ _ _ _; first | refine W.kr ?_ | refine W.ke ?_ | refine W.sq ?_)
      | (show KO _ _ _ _; first | refine K.sn ?_ | refine K.se ?_ | refine K.be ?_ | refine K.le ?_)
      | refine K.nx ?_
    refine end_data rfl rfl ?_
    rw [← h1, hb0, mulF_zero]; rfl
  · have hi : i < 8 := by
      by_cases h : i = 8
      · subst h; simp at h3; exact absurd (by rw [h3]) h0
      · omega
    rw [mulF_step hi] at h1
    have hs := shr1_nat b
    have ha := and1_nat b
    have h3' : (b >>> 1).toNat < 2 ^ (8 - (i + 1)) := by
      rw [show 8 - i = (8 - (i + 1)) + 1 by omega, Nat.pow_succ] at h3
      omega
    repeat' first
      | (show XO _ _ _ (Oper.mk _ _ _ _ _ none :: _) _ _ _; first | refine X.and8 (b := 1) rfl rfl ?_ | refine X.xor8 rfl rfl ?_)
      | (show XO _ _ _ (Oper.mk (some _) (Op.move _) _ _ _ none :: _) _ _ _; refine X.mv ?_)
      | (show XO _ _ _ (Oper.mk (some _) (Op.assign _) _ _ _ none :: _) _ _ _; refine X.as ?_)
      | (show XO _ _ _ (Oper.mk (some _) (Op.binOp BinOp.mul _ _ _ _) _ _ _ none :: _) _ _ _; refine X.go rfl ?_)
      | (show XO _ _ _ (Oper.mk (some _) (_) _ _ _ none :: _) _ _ _; refine X.go rfl ?_)
      | (show XO _ _ _ [] _ _ _; refine X.nil ?_)
      | (show CW _ _ _ _ (Code.seq (Code.region _ _ false) _) _ _ _; refine W.rq ?_)
      | (show CW _ _ _ _ (Code.region _ _ false) _ _ _; refine W.rz ?_)
      | (show CW _ _ _ _ (Code.cond _ _ _) _ _ _; first | refine W.jpt (by (conv => lhs; whnf) <;> rfl) (by with_reducible rfl) (by first | omega | decide) ?_ | refine W.jp (by (conv => lhs; whnf) <;> rfl) (by with_reducible rfl) (fun h => ?_) (fun h => ?_))
      | (show CW _ _ _ _ _ _ _ _; first | refine W.kn ?_ | refine W.bl ?_ | refine W.sq ?_)
      | (show KO _ _ _ _; first | refine K.sn ?_ | refine K.bn ?_ | refine K.ln _ ?_ ⟨i + 1, xt a, b >>> 1, _, vI (xt_raw a), vI (shr1_raw b), rfl, rfl, ?_, rfl⟩)
      | refine K.nx ?_
      | refine K.re ?_
    · omega
    · refine ⟨?_, by omega, h3'⟩
      rw [if_pos (by omega)] at h1; exact h1
    · omega
    · refine ⟨?_, by omega, h3'⟩
      rw [if_neg (by omega)] at h1; exact h1

theorem xorN (a b : Nat) (ha : a < 65536) (hb : b < 65536) : IntKind.i64.wrap ((BitVec.ofInt IntKind.i64.bits (a : Int) ^^^ BitVec.ofInt IntKind.i64.bits (b : Int)).toNat : Nat) = ((a ^^^ b : Nat) : Int) := by
  have h1 : (BitVec.ofInt IntKind.i64.bits (a : Int) ^^^ BitVec.ofInt IntKind.i64.bits (b : Int)).toNat = a ^^^ b := xor_raw (n := 64) (by omega) (by omega)
  rw [h1]
  have := Nat.xor_lt_two_pow (n := 16) (show a < 2 ^ 16 by omega) (show b < 2 ^ 16 by omega)
  exact w64R ⟨by omega, by omega⟩
theorem refMul (H : ZC Z) (a0 b0 : UInt8) (L : List Go.Pv.Obj) : SE Try.prog Z 14 [g8 a0, g8 b0] L (g8 (mulU a0 b0)) L := by
  have ha0 := a0.toNat_lt
  have hb0 := b0.toNat_lt
  refine SE.data H Try.func14 rfl ?_
  repeat' first
    | (show XO _ _ _ (Oper.mk (some _) (Op.move _) _ _ _ none :: _) _ _ _; refine X.mv ?_)
    | (show XO _ _ _ (Oper.mk (some _) (Op.assign _) _ _ _ none :: _) _ _ _; refine X.as ?_)
    | (show XO _ _ _ (Oper.mk (some _) (Op.convert _ _ _) _ _ _ none :: _) _ _ _; refine X.cvI rfl rfl rfl (w64R (by omega)) ?_)
    | (show XO _ _ _ [] _ _ _; refine X.nil ?_)
    | (show CW _ _ _ _ (Code.seq (Code.region _ _ false) _) _ _ _; refine W.rq ?_)
    | (show CW _ _ _ _ _ _ _ _; first | refine W.bl ?_ | refine W.sq ?_)
    | refine K.nx ?_
  refine W.lq (fun mz st => ∃ (i : Nat) (a b o : UInt8), st.env 5 = .int .i64 o.toNat ∧ st.env 6 = .int .i64 a.toNat ∧ st.env 7 = .int .i64 b.toNat ∧ st.env 8 = .int .i64 i ∧ st.L = L ∧ (mulF (8 - i) a b o = mulU a0 b0 ∧ i ≤ 8) ∧ mz = 8 - i) ?_ ?_
  · refine ⟨_, 0, a0, b0, 0, rfl, rfl, rfl, rfl, rfl, ?_, rfl⟩
    exact ⟨rfl, by omega⟩
  rintro mz env L ⟨i, a, b, o, e5, e6, e7, e8, eL, hI, hm⟩
  dsimp only at e5 e6 e7 e8 eL
  subst eL
  refine W.ev 5 e5 ?_
  refine W.ev 6 e6 ?_
  refine W.ev 7 e7 ?_
  refine W.ev 8 e8 ?_
  obtain ⟨h1, h2⟩ := hI
  have hal := a.toNat_lt
  have hbl := b.toNat_lt
  have hol := o.toNat_lt
  by_cases h8 : i = 8
  · subst h8
    repeat' first
      | (show XO _ _ _ (Oper.mk (some _) (Op.move _) _ _ _ none :: _) _ _ _; refine X.mv ?_)
      | (show XO _ _ _ (Oper.mk (some _) (Op.assign _) _ _ _ none :: _) _ _ _; refine X.as ?_)
      | (show XO _ _ _ (Oper.mk (some _) (Op.convert _ _ _) _ _ _ none :: _) _ _ _; refine X.cvI rfl rfl rfl (wU8 (by omega)) ?_)
      | (show XO _ _ _ (Oper.mk (some _) (_) _ _ _ none :: _) _ _ _; refine X.go rfl ?_)
      | (show XO _ _ _ [] _ _ _; refine X.nil ?_)
      | (show CW _ _ _ _ (Code.seq (Code.region _ _ false) _) _ _ _; refine W.rq ?_)
      | (show CW _ _ _ _ (Code.cond _ _ _) _ _ _; refine W.jpf (by (conv => lhs; whnf) <;> rfl) (by with_reducible rfl) (by first | omega | decide) ?_)
      | (show CW _ _ _ _ _ _ _ _; first | refine W.kr ?_ | refine W.ke ?_ | refine W.sq ?_)
      | (show KO _ _ _ _; first | refine K.sn ?_ | refine K.se ?_ | refine K.be ?_ | refine K.le ?_)
      | refine K.nx ?_
    refine end_data rfl rfl ?_
    rw [← h1]; rfl
  · rw [mulF_step (by omega)] at h1
    have hs := shr1_nat b
    have hx := xt_nat a
    have hox : ((o ^^^ a).toNat : Int) = ((o.toNat ^^^ a.toNat : Nat) : Int) := rfl
    repeat' first
      | (show XO _ _ _ (Oper.mk (some _) (Op.move _) _ _ _ none :: _) _ _ _; refine X.mv ?_)
      | (show XO _ _ _ (Oper.mk (some _) (Op.assign _) _ _ _ none :: _) _ _ _; refine X.as ?_)
      | (show XO _ _ _ (Oper.mk (some _) (Op.binOp BinOp.add _ _ _ _) _ _ _ none :: _) _ _ _; refine X.addI rfl rfl (by omega) ?_)
      | (show XO _ _ _ (Oper.mk (some _) (Op.binOp BinOp.mul _ _ _ _) _ _ _ none :: _) _ _ _; refine X.mulI rfl rfl (by omega) ?_)
      | (show XO _ _ _ (Oper.mk (some _) (Op.binOp BinOp.quo _ _ _ _) _ _ _ none :: _) _ _ _; refine X.quoI rfl rfl (by omega) ?_)
      | (show XO _ _ _ (Oper.mk (some _) (Op.binOp BinOp.rem _ _ _ _) _ _ _ none :: _) _ _ _; refine X.remI rfl rfl (by omega) ?_)
      | (show XO _ _ _ (Oper.mk (some _) (_) _ _ _ none :: _) _ _ _; refine X.go rfl ?_)
      | (show XO _ _ _ [] _ _ _; refine X.nil ?_)
      | (show CW _ _ _ _ (Code.seq (Code.region _ _ false) _) _ _ _; refine W.rq ?_)
      | (show CW _ _ _ _ (Code.region _ _ false) _ _ _; refine W.rz ?_)
      | (show CW _ _ _ _ (Code.cond _ _ _) _ _ _; first | refine W.jpt (by (conv => lhs; whnf) <;> rfl) (by with_reducible rfl) (by first | omega | decide) ?_ | refine W.jp (by (conv => lhs; whnf) <;> rfl) (by with_reducible rfl) (fun h => ?_) (fun h => ?_))
      | (show CW _ _ _ _ _ _ _ _; first | refine W.kn ?_ | refine W.bl ?_ | refine W.sq ?_)
      | (show KO _ _ _ _; first | refine K.sn ?_ | refine K.bn ?_ | refine K.ln _ ?_ ⟨i + 1, xt a, b >>> 1, o ^^^ a, vI ((xorN _ _ (by omega) (by omega)).trans hox.symm), vI (by rw [hx, if_neg (by omega)]; omega), vI (by omega), vI (by omega), rfl, ?_, rfl⟩ | refine K.ln _ ?_ ⟨i + 1, xt a, b >>> 1, o ^^^ a, vI ((xorN _ _ (by omega) (by omega)).trans hox.symm), vI ((xorN (2 * a.toNat) 283 (by omega) (by omega)).trans (by rw [hx, if_pos (by omega)])), vI (by omega), vI (by omega), rfl, ?_, rfl⟩ | refine K.ln _ ?_ ⟨i + 1, xt a, b >>> 1, o, rfl, vI (by rw [hx, if_neg (by omega)]; omega), vI (by omega), vI (by omega), rfl, ?_, rfl⟩ | refine K.ln _ ?_ ⟨i + 1, xt a, b >>> 1, o, rfl, vI ((xorN (2 * a.toNat) 283 (by omega) (by omega)).trans (by rw [hx, if_pos (by omega)])), vI (by omega), vI (by omega), rfl, ?_, rfl⟩)
      | refine K.nx ?_
      | refine K.re ?_
    all_goals first | omega | refine ⟨?_, by omega⟩
    all_goals first | (rw [if_pos (by omega)] at h1; exact h1) | (rw [if_neg (by omega)] at h1; exact h1)
end Go.Proofs.Aes
end
section
set_option linter.unusedVariables false
set_option linter.unusedSimpArgs false
set_option maxHeartbeats 4000000
namespace Go.Proofs.Aes
open Go Go.Pv Go.Proofs
variable {Z : Nat → Go.Obj → Prop}
theorem andN (a b : Nat) (ha : a < 65536) (hb : b < 65536) : IntKind.i64.wrap ((BitVec.ofInt IntKind.i64.bits (a : Int) &&& BitVec.ofInt IntKind.i64.bits (b : Int)).toNat : Nat) = ((a &&& b : Nat) : Int) := by
  have h1 : (BitVec.ofInt IntKind.i64.bits (a : Int) &&& BitVec.ofInt IntKind.i64.bits (b : Int)).toNat = a &&& b := and_raw (n := 64) (by omega) (by omega)
  rw [h1]
  have := Nat.and_lt_two_pow a (n := 16) (show b < 2 ^ 16 by omega)
  exact w64R ⟨by omega, by omega⟩
theorem powF_zero : ∀ (f : Nat) (o x : UInt8), powF f 0 o x = o
  | 0, _, _ => rfl
  | f + 1, o, x => by rw [powF, if_neg (by decide)]; exact powF_zero f _ _
theorem shrN1 (n : Nat) : ((n : Nat) : Int).fdiv (2 ^ min (Int.toNat 1) IntKind.i64.bits) = ((n / 2 : Nat) : Int) := by
  show ((n : Nat) : Int).fdiv 2 = _
  rw [Int.fdiv_eq_ediv_of_nonneg _ (by omega)]; rfl

theorem inverse (H : ZC Z) (x0 : UInt8) (L : List Go.Pv.Obj) : SE Try.prog Z 28 [g8 x0] L (g8 (invU x0)) L := by
  refine SE.data H Try.func28 rfl ?_
  repeat' first
    | (show XO _ _ _ (Oper.mk (some _) (Op.assign _) _ _ _ none :: _) _ _ _; refine X.as ?_)
    | (show XO _ _ _ [] _ _ _; refine X.nil ?_)
    | (show CW _ _ _ _ (Code.seq (Code.region _ _ false) _) _ _ _; refine W.rq ?_)
    | (show CW _ _ _ _ _ _ _ _; first | refine W.bl ?_ | refine W.sq ?_)
    | refine K.nx ?_
  refine W.lq (fun mz st => ∃ (f n : Nat) (o x : UInt8), st.env 0 = g8 x ∧ st.env 3 = g8 o ∧ st.env 4 = .int .i64 n ∧ st.L = L ∧ (powF f n o x = invU x0 ∧ n < 2 ^ f ∧ n < 255) ∧ mz = n) ?_ ?_
  · refine ⟨_, 8, 254, 1, x0, rfl, rfl, rfl, rfl, ?_, rfl⟩
    exact ⟨rfl, by omega, by omega⟩
  rintro mz env L ⟨f, n, o, x, e0, e3, e4, eL, hI, hm⟩
  dsimp only at e0 e3 e4 eL
  subst eL
  refine W.ev 0 e0 ?_
  refine W.ev 3 e3 ?_
  refine W.ev 4 e4 ?_
  obtain ⟨h1, h2, h3⟩ := hI
  by_cases h0 : n = 0
  · subst h0
    rw [powF_zero] at h1
    repeat' first
      | (show XO _ _ _ (Oper.mk (some _) (Op.move _) _ _ _ none :: _) _ _ _; refine X.mv ?_)
      | (show XO _ _ _ (Oper.mk (some _) (Op.assign _) _ _ _ none :: _) _ _ _; refine X.as ?_)
      | (show XO _ _ _ (Oper.mk (some _) (_) _ _ _ none :: _) _ _ _; refine X.go rfl ?_)
      | (show XO _ _ _ [] _ _ _; refine X.nil ?_)
      | (show CW _ _ _ _ (Code.seq (Code.region _ _ false) _) _ _ _; refine W.rq ?_)
      | (show CW _ _ _ _ (Code.cond _ _ _) _ _ _; refine W.jpf (by (conv => lhs; whnf) <;> rfl) (by with_reducible rfl) (by first | omega | decide) ?_)
      | (show CW _ _ _ _ _ _ _ _; first | refine W.kr ?_ | refine W.ke ?_ | refine W.sq ?_)
      | (show KO _ _ _ _; first | refine K.sn ?_ | refine K.se ?_ | refine K.be ?_ | refine K.le ?_)
      | refine K.nx ?_
    refine end_data rfl rfl ?_
    rw [← h1]; rfl
  · obtain ⟨q, rfl⟩ : ∃ q, f = q + 1 := ⟨f - 1, by
      have : f ≠ 0 := fun h => by subst h; simp at h2; omega
      omega⟩
    rw [powF] at h1
    rw [Nat.pow_succ] at h2
    have hand := andN n 1 (by omega) (by omega)
    rw [Nat.and_one_is_mod] at hand
    have f0 : IntKind.i64.wrap ((BitVec.ofInt IntKind.i64.bits ((n : Nat) : Int) &&& BitVec.ofInt IntKind.i64.bits 1).toNat : Nat) = ((n % 2 : Nat) : Int) := hand
    by_cases hp : n % 2 = 1
    · rw [if_pos hp] at h1
      repeat' first
        | (show XO _ _ _ (Oper.mk (some _) (Op.move _) _ _ _ none :: _) _ _ _; refine X.mv ?_)
        | (show XO _ _ _ (Oper.mk (some _) (Op.assign _) _ _ _ none :: _) _ _ _; refine X.as ?_)
        | (show XO _ _ _ (Oper.mk (some _) (Op.call _) _ _ _ none :: _) _ _ _; refine X.call (mul H _ _ _) ?_)
        | (show XO _ _ _ (Oper.mk (some _) (_) _ _ _ none :: _) _ _ _; refine X.go rfl ?_)
        | (show XO _ _ _ [] _ _ _; refine X.nil ?_)
        | (show CW _ _ _ _ (Code.seq (Code.region _ _ false) _) _ _ _; refine W.rq ?_)
        | (show CW _ _ _ _ (Code.region _ _ false) _ _ _; refine W.rz ?_)
        | (show CW _ _ _ _ (Code.cond _ _ _) _ _ _; refine W.jpt (by (conv => lhs; whnf) <;> rfl) (by with_reducible rfl) (by first | omega | decide | (rw [f0]; omega)) ?_)
        | (show CW _ _ _ _ _ _ _ _; first | refine W.kn ?_ | refine W.bl ?_ | refine W.sq ?_)
        | (show KO _ _ _ _; first | refine K.sn ?_ | refine K.bn ?_ | refine K.ln _ ?_ ⟨q, n / 2, _, _, rfl, rfl, vI (shrN1 n), rfl, ?_, rfl⟩)
        | refine K.nx ?_
        | refine K.re ?_
      · omega
      · exact ⟨h1, by omega, by omega⟩
    · rw [if_neg hp] at h1
      repeat' first
        | (show XO _ _ _ (Oper.mk (some _) (Op.move _) _ _ _ none :: _) _ _ _; refine X.mv ?_)
        | (show XO _ _ _ (Oper.mk (some _) (Op.assign _) _ _ _ none :: _) _ _ _; refine X.as ?_)
        | (show XO _ _ _ (Oper.mk (some _) (Op.call _) _ _ _ none :: _) _ _ _; refine X.call (mul H _ _ _) ?_)
        | (show XO _ _ _ (Oper.mk (some _) (_) _ _ _ none :: _) _ _ _; refine X.go rfl ?_)
        | (show XO _ _ _ [] _ _ _; refine X.nil ?_)
        | (show CW _ _ _ _ (Code.seq (Code.region _ _ false) _) _ _ _; refine W.rq ?_)
        | (show CW _ _ _ _ (Code.region _ _ false) _ _ _; refine W.rz ?_)
        | (show CW _ _ _ _ (Code.cond _ _ _) _ _ _; first | refine W.jpt (by (conv => lhs; whnf) <;> rfl) (by with_reducible rfl) (by first | omega | decide | (rw [f0]; omega)) ?_ | refine W.jpf (by (conv => lhs; whnf) <;> rfl) (by with_reducible rfl) (by first | omega | decide | (rw [f0]; omega)) ?_)
        | (show CW _ _ _ _ _ _ _ _; first | refine W.kn ?_ | refine W.bl ?_ | refine W.sq ?_)
        | (show KO _ _ _ _; first | refine K.sn ?_ | refine K.bn ?_ | refine K.ln _ ?_ ⟨q, n / 2, _, _, rfl, rfl, vI (shrN1 n), rfl, ?_, rfl⟩)
        | refine K.nx ?_
        | refine K.re ?_
      · omega
      · exact ⟨h1, by omega, by omega⟩

theorem g8_of (i : Nat) (h : i < 256) : V.int .u8 ((i : Nat) : Int) = g8 (UInt8.ofNat i) := by
  unfold g8
  rw [UInt8.toNat_ofNat', Nat.mod_eq_of_lt (by omega)]
theorem refInverse (H : ZC Z) (x0 : UInt8) (L : List Go.Pv.Obj) : SE Try.prog Z 31 [g8 x0] L (g8 (invU x0)) L := by
  refine SE.data H Try.func31 rfl ?_
  repeat' first
    | (show XO _ _ _ (Oper.mk (some _) (Op.assign _) _ _ _ none :: _) _ _ _; refine X.as ?_)
    | (show XO _ _ _ [] _ _ _; refine X.nil ?_)
    | (show CW _ _ _ _ (Code.seq (Code.region _ _ false) _) _ _ _; refine W.rq ?_)
    | (show CW _ _ _ _ _ _ _ _; first | refine W.bl ?_ | refine W.sq ?_)
    | refine K.nx ?_
  refine W.lq (fun mz st => ∃ (i : Nat), st.env 0 = g8 x0 ∧ st.env 3 = .int .i64 i ∧ st.L = L ∧ (1 ≤ i ∧ i ≤ 256 ∧ ∀ q, 1 ≤ q → q < i → mulU x0 (UInt8.ofNat q) ≠ 1) ∧ mz = 256 - i) ?_ ?_
  · refine ⟨_, 1, rfl, rfl, rfl, ?_, rfl⟩
    exact ⟨by omega, by omega, fun q h1 h2 => absurd h1 (by omega)⟩
  rintro mz env L ⟨i, e0, e3, eL, hI, hm⟩
  dsimp only at e0 e3 eL
  subst eL
  refine W.ev 0 e0 ?_
  refine W.ev 3 e3 ?_
  obtain ⟨h1, h2, h3⟩ := hI
  by_cases h256 : i = 256
  · subst h256
    repeat' first
      | (show XO _ _ _ (Oper.mk (some _) (Op.move _) _ _ _ none :: _) _ _ _; refine X.mv ?_)
      | (show XO _ _ _ (Oper.mk (some _) (Op.assign _) _ _ _ none :: _) _ _ _; refine X.as ?_)
      | (show XO _ _ _ (Oper.mk (some _) (_) _ _ _ none :: _) _ _ _; refine X.go rfl ?_)
      | (show XO _ _ _ [] _ _ _; refine X.nil ?_)
      | (show CW _ _ _ _ (Code.seq (Code.region _ _ false) _) _ _ _; refine W.rq ?_)
      | (show CW _ _ _ _ (Code.cond _ _ _) _ _ _; refine W.jpf (by (conv => lhs; whnf) <;> rfl) (by with_reducible rfl) (by first | omega | decide) ?_)
      | (show CW _ _ _ _ _ _ _ _; first | refine W.kr ?_ | refine W.ke ?_ | refine W.sq ?_)
      | (show KO _ _ _ _; first | refine K.sn ?_ | refine K.se ?_ | refine K.be ?_ | refine K.le ?_)
      | refine K.nx ?_
    refine end_data rfl rfl ?_
    have : x0 = 0 := by
      by_cases hx : x0 = 0
      · exact hx
      · have hn := inv_ne hx
        have h0 : (invU x0).toNat ≠ 0 := fun h => hn (by rw [← UInt8.toNat_inj]; exact h)
        exact absurd (mul_inv hx) (by have := h3 (invU x0).toNat (by omega) (invU x0).toNat_lt; rwa [UInt8.ofNat_toNat] at this)
    rw [this, inv_zero]; rfl
  · have hm2 := refMul H x0 (UInt8.ofNat i)
    rw [← g8_of i (by omega)] at hm2
    by_cases hp : mulU x0 (UInt8.ofNat i) = 1
    · have hq := ((mul_one_iff _ _).1 hp).2
      rw [hp] at hm2
      repeat' first
        | (show XO _ _ _ (Oper.mk (some _) (Op.move _) _ _ _ none :: _) _ _ _; refine X.mv ?_)
        | (show XO _ _ _ (Oper.mk (some _) (Op.assign _) _ _ _ none :: _) _ _ _; refine X.as ?_)
        | (show XO _ _ _ (Oper.mk (some _) (Op.call _) _ _ _ none :: _) _ _ _; refine X.call (hm2 _) ?_)
        | (show XO _ _ _ (Oper.mk (some _) (Op.convert _ _ _) _ _ _ none :: _) _ _ _; refine X.cvI rfl rfl rfl (wU8 (by omega)) ?_)
        | (show XO _ _ _ (Oper.mk (some _) (_) _ _ _ none :: _) _ _ _; refine X.go rfl ?_)
        | (show XO _ _ _ [] _ _ _; refine X.nil ?_)
        | (show CW _ _ _ _ (Code.seq (Code.region _ _ false) _) _ _ _; refine W.rq ?_)
        | (show CW _ _ _ _ (Code.cond _ _ _) _ _ _; refine W.jpt (by (conv => lhs; whnf) <;> rfl) (by with_reducible rfl) (by first | omega | decide) ?_)
        | (show CW _ _ _ _ _ _ _ _; first | refine W.kr ?_ | refine W.kn ?_ | refine W.bl ?_ | refine W.sq ?_)
        | (show KO _ _ _ _; first | refine K.sn ?_ | refine K.sr ?_ | refine K.br ?_ | refine K.lr ?_)
        | refine K.nx ?_
      refine end_data rfl rfl ?_
      rw [← hq, ← g8_of i (by omega)]; rfl
    · have hp' : ¬ ((mulU x0 (UInt8.ofNat i)).toNat : Int) = 1 := fun h => hp (by rw [← UInt8.toNat_inj]; exact Int.ofNat.inj h)
      repeat' first
        | (show XO _ _ _ (Oper.mk (some _) (Op.move _) _ _ _ none :: _) _ _ _; refine X.mv ?_)
        | (show XO _ _ _ (Oper.mk (some _) (Op.assign _) _ _ _ none :: _) _ _ _; refine X.as ?_)
        | (show XO _ _ _ (Oper.mk (some _) (Op.call _) _ _ _ none :: _) _ _ _; refine X.call (hm2 _) ?_)
        | (show XO _ _ _ (Oper.mk (some _) (Op.binOp BinOp.add _ _ _ _) _ _ _ none :: _) _ _ _; refine X.addI rfl rfl (by omega) ?_)
        | (show XO _ _ _ (Oper.mk (some _) (Op.convert _ _ _) _ _ _ none :: _) _ _ _; refine X.cvI rfl rfl rfl (wU8 (by omega)) ?_)
        | (show XO _ _ _ (Oper.mk (some _) (_) _ _ _ none :: _) _ _ _; refine X.go rfl ?_)
        | (show XO _ _ _ [] _ _ _; refine X.nil ?_)
        | (show CW _ _ _ _ (Code.seq (Code.region _ _ false) _) _ _ _; refine W.rq ?_)
        | (show CW _ _ _ _ (Code.region _ _ false) _ _ _; refine W.rz ?_)
        | (show CW _ _ _ _ (Code.cond _ _ _) _ _ _; first | refine W.jpt (by (conv => lhs; whnf) <;> rfl) (by with_reducible rfl) (by first | omega | decide | exact hp') ?_ | refine W.jpf (by (conv => lhs; whnf) <;> rfl) (by with_reducible rfl) (by first | omega | decide | exact hp') ?_)
        | (show CW _ _ _ _ _ _ _ _; first | refine W.kn ?_ | refine W.bl ?_ | refine W.sq ?_)
        | (show KO _ _ _ _; first | refine K.sn ?_ | refine K.bn ?_ | refine K.ln _ ?_ ⟨i + 1, rfl, vI (by omega), rfl, ?_, rfl⟩)
        | refine K.nx ?_
        | refine K.re ?_
      · omega
      · refine ⟨by omega, by omega, fun q h1 h2 => ?_⟩
        by_cases hqi : q = i
        · subst hqi; exact hp
        · exact h3 q h1 (by omega)

end Go.Proofs.Aes
end
section
set_option linter.unusedVariables false
set_option linter.unusedSimpArgs false
set_option maxHeartbeats 4000000
set_option maxRecDepth 100000
namespace Go.Proofs.Aes
open Go Go.Pv Go.Proofs
variable {Z : Nat → Go.Obj → Prop}

theorem rot1 (H : ZC Z) (x : UInt8) (L : List Go.Pv.Obj) : SE Try.prog Z 29 [g8 x, .int .i64 1] L (g8 (rotU x 1)) L := by
  refine SE.data H Try.func29 rfl ?_
  repeat' first
    | (show XO _ _ _ (Oper.mk (some _) (Op.move _) _ _ _ none :: _) _ _ _; refine X.mv ?_)
    | (show XO _ _ _ (Oper.mk (some _) (Op.assign _) _ _ _ none :: _) _ _ _; refine X.as ?_)
    | (show XO _ _ _ (Oper.mk (some _) (Op.binOp BinOp.sub _ _ _ _) _ _ _ none :: _) _ _ _; refine X.go rfl ?_)
    | (show XO _ _ _ (Oper.mk (some _) (Op.convert _ _ _) _ _ _ none :: _) _ _ _; refine X.go rfl ?_)
    | (show XO _ _ _ (Oper.mk (some _) (_) _ _ _ none :: _) _ _ _; refine X.go rfl ?_)
    | (show XO _ _ _ [] _ _ _; refine X.nil ?_)
    | (show CW _ _ _ _ (Code.seq (Code.region _ _ false) _) _ _ _; refine W.rq ?_)
    | (show CW _ _ _ _ _ _ _ _; refine W.kr ?_)
    | refine K.nx ?_
  refine end_data rfl rfl (vI ?_)
  revert x
  refine all_u8' ?_
  kernel_rfl
theorem refLeft1 (H : ZC Z) (x : UInt8) (L : List Go.Pv.Obj) : SE Try.prog Z 37 [g8 x, .int .u8 1] L (g8 (rotU x 1)) L := by
  refine SE.data H Try.func37 rfl ?_
  repeat' first
    | (show XO _ _ _ (Oper.mk (some _) (Op.move _) _ _ _ none :: _) _ _ _; refine X.mv ?_)
    | (show XO _ _ _ (Oper.mk (some _) (Op.assign _) _ _ _ none :: _) _ _ _; refine X.as ?_)
    | (show XO _ _ _ (Oper.mk (some _) (Op.binOp BinOp.sub _ _ _ _) _ _ _ none :: _) _ _ _; refine X.go rfl ?_)
    | (show XO _ _ _ (Oper.mk (some _) (_) _ _ _ none :: _) _ _ _; refine X.go rfl ?_)
    | (show XO _ _ _ [] _ _ _; refine X.nil ?_)
    | (show CW _ _ _ _ (Code.seq (Code.region _ _ false) _) _ _ _; refine W.rq ?_)
    | (show CW _ _ _ _ _ _ _ _; refine W.kr ?_)
    | refine K.nx ?_
  refine end_data rfl rfl (vI ?_)
  revert x
  refine all_u8' ?_
  kernel_rfl

theorem rot2 (H : ZC Z) (x : UInt8) (L : List Go.Pv.Obj) : SE Try.prog Z 29 [g8 x, .int .i64 2] L (g8 (rotU x 2)) L := by
  refine SE.data H Try.func29 rfl ?_
  repeat' first
    | (show XO _ _ _ (Oper.mk (some _) (Op.move _) _ _ _ none :: _) _ _ _; refine X.mv ?_)
    | (show XO _ _ _ (Oper.mk (some _) (Op.assign _) _ _ _ none :: _) _ _ _; refine X.as ?_)
    | (show XO _ _ _ (Oper.mk (some _) (Op.binOp BinOp.sub _ _ _ _) _ _ _ none :: _) _ _ _; refine X.go rfl ?_)
    | (show XO _ _ _ (Oper.mk (some _) (Op.convert _ _ _) _ _ _ none :: _) _ _ _; refine X.go rfl ?_)
    | (show XO _ _ _ (Oper.mk (some _) (_) _ _ _ none :: _) _ _ _; refine X.go rfl ?_)
    | (show XO _ _ _ [] _ _ _; refine X.nil ?_)
    | (show CW _ _ _ _ (Code.seq (Code.region _ _ false) _) _ _ _; refine W.rq ?_)
    | (show CW _ _ _ _ _ _ _ _; refine W.kr ?_)
    | refine K.nx ?_
  refine end_data rfl rfl (vI ?_)
  revert x
  refine all_u8' ?_
  kernel_rfl
theorem refLeft2 (H : ZC Z) (x : UInt8) (L : List Go.Pv.Obj) : SE Try.prog Z 37 [g8 x, .int .u8 2] L (g8 (rotU x 2)) L := by
  refine SE.data H Try.func37 rfl ?_
  repeat' first
    | (show XO _ _ _ (Oper.mk (some _) (Op.move _) _ _ _ none :: _) _ _ _; refine X.mv ?_)
    | (show XO _ _ _ (Oper.mk (some _) (Op.assign _) _ _ _ none :: _) _ _ _; refine X.as ?_)
    | (show XO _ _ _ (Oper.mk (some _) (Op.binOp BinOp.sub _ _ _ _) _ _ _ none :: _) _ _ _; refine X.go rfl ?_)
    | (show XO _ _ _ (Oper.mk (some _) (_) _ _ _ none :: _) _ _ _; refine X.go rfl ?_)
    | (show XO _ _ _ [] _ _ _; refine X.nil ?_)
    | (show CW _ _ _ _ (Code.seq (Code.region _ _ false) _) _ _ _; refine W.rq ?_)
    | (show CW _ _ _ _ _ _ _ _; refine W.kr ?_)
    | refine K.nx ?_
  refine end_data rfl rfl (vI ?_)
  revert x
  refine all_u8' ?_
  kernel_rfl

theorem rot3 (H : ZC Z) (x : UInt8) (L : List Go.Pv.Obj) : SE Try.prog Z 29 [g8 x, .int .i64 3] L (g8 (rotU x 3)) L := by
  refine SE.data H Try.func29 rfl ?_
  repeat' first
    | (show XO _ _ _ (Oper.mk (some _) (Op.move _) _ _ _ none :: _) _ _ _; refine X.mv ?_)
    | (show XO _ _ _ (Oper.mk (some _) (Op.assign _) _ _ _ none :: _) _ _ _; refine X.as ?_)
    | (show XO _ _ _ (Oper.mk (some _) (Op.binOp BinOp.sub _ _ _ _) _ _ _ none :: _) _ _ _; refine X.go rfl ?_)
    | (show XO _ _ _ (Oper.mk (some _) (Op.convert _ _ _) _ _ _ none :: _) _ _ _; refine X.go rfl ?_)
    | (show XO _ _ _ (Oper.mk (some _) (_) _ _ _ none :: _) _ _ _; refine X.go rfl ?_)
    | (show XO _ _ _ [] _ _ _; refine X.nil ?_)
    | (show CW _ _ _ _ (Code.seq (Code.region _ _ false) _) _ _ _; refine W.rq ?_)
    | (show CW _ _ _ _ _ _ _ _; refine W.kr ?_)
    | refine K.nx ?_
  refine end_data rfl rfl (vI ?_)
  revert x
  refine all_u8' ?_
  kernel_rfl
theorem refLeft3 (H : ZC Z) (x : UInt8) (L : List Go.Pv.Obj) : SE Try.prog Z 37 [g8 x, .int .u8 3] L (g8 (rotU x 3)) L := by
  refine SE.data H Try.func37 rfl ?_
  repeat' first
    | (show XO _ _ _ (Oper.mk (some _) (Op.move _) _ _ _ none :: _) _ _ _; refine X.mv ?_)
    | (show XO _ _ _ (Oper.mk (some _) (Op.assign _) _ _ _ none :: _) _ _ _; refine X.as ?_)
    | (show XO _ _ _ (Oper.mk (some _) (Op.binOp BinOp.sub _ _ _ _) _ _ _ none :: _) _ _ _; refine X.go rfl ?_)
    | (show XO _ _ _ (Oper.mk (some _) (_) _ _ _ none :: _) _ _ _; refine X.go rfl ?_)
    | (show XO _ _ _ [] _ _ _; refine X.nil ?_)
    | (show CW _ _ _ _ (Code.seq (Code.region _ _ false) _) _ _ _; refine W.rq ?_)
    | (show CW _ _ _ _ _ _ _ _; refine W.kr ?_)
    | refine K.nx ?_
  refine end_data rfl rfl (vI ?_)
  revert x
  refine all_u8' ?_
  kernel_rfl

theorem rot4 (H : ZC Z) (x : UInt8) (L : List Go.Pv.Obj) : SE Try.prog Z 29 [g8 x, .int .i64 4] L (g8 (rotU x 4)) L := by
  refine SE.data H Try.func29 rfl ?_
  repeat' first
    | (show XO _ _ _ (Oper.mk (some _) (Op.move _) _ _ _ none :: _) _ _ _; refine X.mv ?_)
    | (show XO _ _ _ (Oper.mk (some _) (Op.assign _) _ _ _ none :: _) _ _ _; refine X.as ?_)
    | (show XO _ _ _ (Oper.mk (some _) (Op.binOp BinOp.sub _ _ _ _) _ _ _ none :: _) _ _ _; refine X.go rfl ?_)
    | (show XO _ _ _ (Oper.mk (some _) (Op.convert _ _ _) _ _ _ none :: _) _ _ _; refine X.go rfl ?_)
    | (show XO _ _ _ (Oper.mk (some _) (_) _ _ _ none :: _) _ _ _; refine X.go rfl ?_)
    | (show XO _ _ _ [] _ _ _; refine X.nil ?_)
    | (show CW _ _ _ _ (Code.seq (Code.region _ _ false) _) _ _ _; refine W.rq ?_)
    | (show CW _ _ _ _ _ _ _ _; refine W.kr ?_)
    | refine K.nx ?_
  refine end_data rfl rfl (vI ?_)
  revert x
  refine all_u8' ?_
  kernel_rfl
theorem refLeft4 (H : ZC Z) (x : UInt8) (L : List Go.Pv.Obj) : SE Try.prog Z 37 [g8 x, .int .u8 4] L (g8 (rotU x 4)) L := by
  refine SE.data H Try.func37 rfl ?_
  repeat' first
    | (show XO _ _ _ (Oper.mk (some _) (Op.move _) _ _ _ none :: _) _ _ _; refine X.mv ?_)
    | (show XO _ _ _ (Oper.mk (some _) (Op.assign _) _ _ _ none :: _) _ _ _; refine X.as ?_)
    | (show XO _ _ _ (Oper.mk (some _) (Op.binOp BinOp.sub _ _ _ _) _ _ _ none :: _) _ _ _; refine X.go rfl ?_)
    | (show XO _ _ _ (Oper.mk (some _) (_) _ _ _ none :: _) _ _ _; refine X.go rfl ?_)
    | (show XO _ _ _ [] _ _ _; refine X.nil ?_)
    | (show CW _ _ _ _ (Code.seq (Code.region _ _ false) _) _ _ _; refine W.rq ?_)
    | (show CW _ _ _ _ _ _ _ _; refine W.kr ?_)
    | refine K.nx ?_
  refine end_data rfl rfl (vI ?_)
  revert x
  refine all_u8' ?_
  kernel_rfl

theorem box (H : ZC Z) (x : UInt8) (L : List Go.Pv.Obj) : SE Try.prog Z 15 [g8 x] L (g8 (boxU x)) L := by
  have hinv := inverse H x
  refine SE.data H Try.func15 rfl ?_
  unfold boxU
  generalize invU x = y at *
  repeat' first
    | (show XO _ _ _ (Oper.mk _ _ _ _ _ none :: _) _ _ _; refine X.xor8 (b := 99) rfl rfl ?_)
    | (show XO _ _ _ (Oper.mk (some _) (Op.move _) _ _ _ none :: _) _ _ _; refine X.mv ?_)
    | (show XO _ _ _ (Oper.mk (some _) (Op.assign _) _ _ _ none :: _) _ _ _; refine X.as ?_)
    | (show XO _ _ _ (Oper.mk (some _) (Op.call _) _ _ _ none :: _) _ _ _; refine X.call (hinv _) ?_)
    | (show XO _ _ _ [] _ _ _; refine X.nil ?_)
    | (show CW _ _ _ _ (Code.seq (Code.region _ _ false) _) _ _ _; refine W.rq ?_)
    | (show CW _ _ _ _ _ _ _ _; first | refine W.bl ?_ | refine W.sq ?_)
    | refine K.nx ?_
  refine W.lq (fun mz st => ∃ (i : Nat) (o : UInt8), st.env 3 = g8 y ∧ st.env 4 = g8 o ∧ st.env 10 = .int .i64 i ∧ st.L = L ∧ (i ≤ 4 ∧ [y ^^^ 99, y ^^^ 99 ^^^ rotU y 1, y ^^^ 99 ^^^ rotU y 1 ^^^ rotU y 2, y ^^^ 99 ^^^ rotU y 1 ^^^ rotU y 2 ^^^ rotU y 3, turnU y][i]? = some o) ∧ mz = 4 - i) ?_ ?_
  · refine ⟨_, 0, y ^^^ 99, rfl, rfl, rfl, rfl, ?_, rfl⟩
    exact ⟨by omega, rfl⟩
  rintro mz env L ⟨i, o, e3, e4, e10, eL, hI, hm⟩
  dsimp only at e3 e4 e10 eL
  subst eL
  refine W.ev 3 e3 ?_
  refine W.ev 4 e4 ?_
  refine W.ev 10 e10 ?_
  obtain ⟨h1, h2⟩ := hI
  have hc : i = 0 ∨ i = 1 ∨ i = 2 ∨ i = 3 ∨ i = 4 := by omega
  rcases hc with rfl | rfl | rfl | rfl | rfl

  · obtain rfl := Option.some.inj h2
    repeat' first
      | (show XO _ _ _ (Oper.mk _ _ _ _ _ none :: _) _ _ _; first | refine X.xor8 rfl rfl ?_ | refine X.addI (a := 0) (b := 1) rfl rfl (by omega) ?_)
      | (show XO _ _ _ (Oper.mk (some _) (Op.move _) _ _ _ none :: _) _ _ _; refine X.mv ?_)
      | (show XO _ _ _ (Oper.mk (some _) (Op.assign _) _ _ _ none :: _) _ _ _; refine X.as ?_)
      | (show XO _ _ _ (Oper.mk (some _) (Op.call _) _ _ _ none :: _) _ _ _; refine X.call (rot1 H y _) ?_)
      | (show XO _ _ _ (Oper.mk (some _) (_) _ _ _ none :: _) _ _ _; refine X.go rfl ?_)
      | (show XO _ _ _ [] _ _ _; refine X.nil ?_)
      | (show CW _ _ _ _ (Code.seq (Code.region _ _ false) _) _ _ _; refine W.rq ?_)
      | (show CW _ _ _ _ (Code.region _ _ false) _ _ _; refine W.rz ?_)
      | (show CW _ _ _ _ (Code.cond _ _ _) _ _ _; refine W.jpt (by (conv => lhs; whnf) <;> rfl) (by with_reducible rfl) (by first | omega | decide) ?_)
      | (show CW _ _ _ _ _ _ _ _; first | refine W.kn ?_ | refine W.bl ?_ | refine W.sq ?_)
      | (show KO _ _ _ _; first | refine K.sn ?_ | refine K.bn ?_ | refine K.ln _ ?_ ⟨1, _, rfl, rfl, rfl, rfl, ?_, rfl⟩)
      | refine K.nx ?_
      | refine K.re ?_
    · omega
    · exact ⟨by omega, rfl⟩
  · obtain rfl := Option.some.inj h2
    repeat' first
      | (show XO _ _ _ (Oper.mk _ _ _ _ _ none :: _) _ _ _; first | refine X.xor8 rfl rfl ?_ | refine X.addI (a := 1) (b := 1) rfl rfl (by omega) ?_)
      | (show XO _ _ _ (Oper.mk (some _) (Op.move _) _ _ _ none :: _) _ _ _; refine X.mv ?_)
      | (show XO _ _ _ (Oper.mk (some _) (Op.assign _) _ _ _ none :: _) _ _ _; refine X.as ?_)
      | (show XO _ _ _ (Oper.mk (some _) (Op.call _) _ _ _ none :: _) _ _ _; refine X.call (rot2 H y _) ?_)
      | (show XO _ _ _ (Oper.mk (some _) (_) _ _ _ none :: _) _ _ _; refine X.go rfl ?_)
      | (show XO _ _ _ [] _ _ _; refine X.nil ?_)
      | (show CW _ _ _ _ (Code.seq (Code.region _ _ false) _) _ _ _; refine W.rq ?_)
      | (show CW _ _ _ _ (Code.region _ _ false) _ _ _; refine W.rz ?_)
      | (show CW _ _ _ _ (Code.cond _ _ _) _ _ _; refine W.jpt (by (conv => lhs; whnf) <;> rfl) (by with_reducible rfl) (by first | omega | decide) ?_)
      | (show CW _ _ _ _ _ _ _ _; first | refine W.kn ?_ | refine W.bl ?_ | refine W.sq ?_)
      | (show KO _ _ _ _; first | refine K.sn ?_ | refine K.bn ?_ | refine K.ln _ ?_ ⟨2, _, rfl, rfl, rfl, rfl, ?_, rfl⟩)
      | refine K.nx ?_
      | refine K.re ?_
    · omega
    · exact ⟨by omega, rfl⟩
  · obtain rfl := Option.some.inj h2
    repeat' first
      | (show XO _ _ _ (Oper.mk _ _ _ _ _ none :: _) _ _ _; first | refine X.xor8 rfl rfl ?_ | refine X.addI (a := 2) (b := 1) rfl rfl (by omega) ?_)
      | (show XO _ _ _ (Oper.mk (some _) (Op.move _) _ _ _ none :: _) _ _ _; refine X.mv ?_)
      | (show XO _ _ _ (Oper.mk (some _) (Op.assign _) _ _ _ none :: _) _ _ _; refine X.as ?_)
      | (show XO _ _ _ (Oper.mk (some _) (Op.call _) _ _ _ none :: _) _ _ _; refine X.call (rot3 H y _) ?_)
      | (show XO _ _ _ (Oper.mk (some _) (_) _ _ _ none :: _) _ _ _; refine X.go rfl ?_)
      | (show XO _ _ _ [] _ _ _; refine X.nil ?_)
      | (show CW _ _ _ _ (Code.seq (Code.region _ _ false) _) _ _ _; refine W.rq ?_)
      | (show CW _ _ _ _ (Code.region _ _ false) _ _ _; refine W.rz ?_)
      | (show CW _ _ _ _ (Code.cond _ _ _) _ _ _; refine W.jpt (by (conv => lhs; whnf) <;> rfl) (by with_reducible rfl) (by first | omega | decide) ?_)
      | (show CW _ _ _ _ _ _ _ _; first | refine W.kn ?_ | refine W.bl ?_ | refine W.sq ?_)
      | (show KO _ _ _ _; first | refine K.sn ?_ | refine K.bn ?_ | refine K.ln _ ?_ ⟨3, _, rfl, rfl, rfl, rfl, ?_, rfl⟩)
      | refine K.nx ?_
      | refine K.re ?_
    · omega
    · exact ⟨by omega, rfl⟩
  · obtain rfl := Option.some.inj h2
    repeat' first
      | (show XO _ _ _ (Oper.mk _ _ _ _ _ none :: _) _ _ _; first | refine X.xor8 rfl rfl ?_ | refine X.addI (a := 3) (b := 1) rfl rfl (by omega) ?_)
      | (show XO _ _ _ (Oper.mk (some _) (Op.move _) _ _ _ none :: _) _ _ _; refine X.mv ?_)
      | (show XO _ _ _ (Oper.mk (some _) (Op.assign _) _ _ _ none :: _) _ _ _; refine X.as ?_)
      | (show XO _ _ _ (Oper.mk (some _) (Op.call _) _ _ _ none :: _) _ _ _; refine X.call (rot4 H y _) ?_)
      | (show XO _ _ _ (Oper.mk (some _) (_) _ _ _ none :: _) _ _ _; refine X.go rfl ?_)
      | (show XO _ _ _ [] _ _ _; refine X.nil ?_)
      | (show CW _ _ _ _ (Code.seq (Code.region _ _ false) _) _ _ _; refine W.rq ?_)
      | (show CW _ _ _ _ (Code.region _ _ false) _ _ _; refine W.rz ?_)
      | (show CW _ _ _ _ (Code.cond _ _ _) _ _ _; refine W.jpt (by (conv => lhs; whnf) <;> rfl) (by with_reducible rfl) (by first | omega | decide) ?_)
      | (show CW _ _ _ _ _ _ _ _; first | refine W.kn ?_ | refine W.bl ?_ | refine W.sq ?_)
      | (show KO _ _ _ _; first | refine K.sn ?_ | refine K.bn ?_ | refine K.ln _ ?_ ⟨4, _, rfl, rfl, rfl, rfl, ?_, rfl⟩)
      | refine K.nx ?_
      | refine K.re ?_
    · omega
    · exact ⟨by omega, rfl⟩
  · obtain rfl := Option.some.inj h2
    repeat' first
      | (show XO _ _ _ (Oper.mk (some _) (Op.move _) _ _ _ none :: _) _ _ _; refine X.mv ?_)
      | (show XO _ _ _ (Oper.mk (some _) (Op.assign _) _ _ _ none :: _) _ _ _; refine X.as ?_)
      | (show XO _ _ _ (Oper.mk (some _) (_) _ _ _ none :: _) _ _ _; refine X.go rfl ?_)
      | (show XO _ _ _ [] _ _ _; refine X.nil ?_)
      | (show CW _ _ _ _ (Code.seq (Code.region _ _ false) _) _ _ _; refine W.rq ?_)
      | (show CW _ _ _ _ (Code.cond _ _ _) _ _ _; refine W.jpf (by (conv => lhs; whnf) <;> rfl) (by with_reducible rfl) (by first | omega | decide) ?_)
      | (show CW _ _ _ _ _ _ _ _; first | refine W.kr ?_ | refine W.ke ?_ | refine W.sq ?_)
      | (show KO _ _ _ _; first | refine K.sn ?_ | refine K.se ?_ | refine K.be ?_ | refine K.le ?_)
      | refine K.nx ?_
    exact end_data rfl rfl rfl
theorem refTurned (H : ZC Z) (y : UInt8) (L : List Go.Pv.Obj) : SE Try.prog Z 30 [g8 y] L (g8 (turnU y)) L := by
  refine SE.data H Try.func30 rfl ?_
  repeat' first
    | (show XO _ _ _ (Oper.mk _ _ _ _ _ none :: _) _ _ _; first | refine X.xor8 rfl rfl ?_ | refine X.xor8 (b := 99) rfl rfl ?_)
    | (show XO _ _ _ (Oper.mk (some _) (Op.move _) _ _ _ none :: _) _ _ _; refine X.mv ?_)
    | (show XO _ _ _ (Oper.mk (some _) (Op.assign _) _ _ _ none :: _) _ _ _; refine X.as ?_)
    | (show XO _ _ _ (Oper.mk (some _) (Op.call _) _ _ _ none :: _) _ _ _; first | refine X.call (refLeft1 H y _) ?_ | refine X.call (refLeft2 H y _) ?_ | refine X.call (refLeft3 H y _) ?_ | refine X.call (refLeft4 H y _) ?_)
    | (show XO _ _ _ [] _ _ _; refine X.nil ?_)
    | (show CW _ _ _ _ (Code.seq (Code.region _ _ false) _) _ _ _; refine W.rq ?_)
    | (show CW _ _ _ _ _ _ _ _; refine W.kr ?_)
    | refine K.nx ?_
  refine end_data rfl rfl ?_
  show g8 _ = g8 _
  congr 1
  unfold turnU
  generalize rotU y 1 = a
  generalize rotU y 2 = b
  generalize rotU y 3 = c
  generalize rotU y 4 = d
  have e : ∀ p q r : UInt8, p ^^^ q ^^^ r = p ^^^ r ^^^ q := fun p q r => by rw [UInt8.xor_assoc, UInt8.xor_comm q r, ← UInt8.xor_assoc]
  rw [e _ d 99, e _ c 99, e _ b 99, e y a 99]
theorem refBox (H : ZC Z) (x : UInt8) (L : List Go.Pv.Obj) : SE Try.prog Z 16 [g8 x] L (g8 (boxU x)) L := by
  refine SE.data H Try.func16 rfl ?_
  repeat' first
    | (show XO _ _ _ (Oper.mk (some _) (Op.move _) _ _ _ none :: _) _ _ _; refine X.mv ?_)
    | (show XO _ _ _ (Oper.mk (some _) (Op.assign _) _ _ _ none :: _) _ _ _; refine X.as ?_)
    | (show XO _ _ _ (Oper.mk (some _) (Op.call _) _ _ _ none :: _) _ _ _; first | refine X.call (refInverse H x _) ?_ | refine X.call (refTurned H _ _) ?_)
    | (show XO _ _ _ [] _ _ _; refine X.nil ?_)
    | (show CW _ _ _ _ (Code.seq (Code.region _ _ false) _) _ _ _; refine W.rq ?_)
    | (show CW _ _ _ _ _ _ _ _; refine W.kr ?_)
    | refine K.nx ?_
  exact end_data rfl rfl rfl

theorem boxes0 (H : ZC Z) : SE Try.prog Z 25 [] [] (.ref 0 0) [.box (boxL.map g8)] := by
  refine SE.full H Try.func25 rfl ?_
  repeat' first
    | (show XO _ _ _ (Oper.mk (some _) (Op.move _) _ _ _ none :: _) _ _ _; refine X.mv ?_)
    | (show XO _ _ _ (Oper.mk (some _) (Op.assign _) _ _ _ none :: _) _ _ _; refine X.as ?_)
    | (show XO _ _ _ (Oper.mk (some _) (_) _ _ _ none :: _) _ _ _; refine X.go rfl ?_)
    | (show XO _ _ _ [] _ _ _; refine X.nil ?_)
    | (show CW _ _ _ _ (Code.seq (Code.region _ _ false) _) _ _ _; refine W.rq ?_)
    | (show CW _ _ _ _ _ _ _ _; first | refine W.bl ?_ | refine W.sq ?_)
    | refine K.nx ?_
  refine W.lq (fun mz st => ∃ (i : Nat), st.env 1 = .ref 0 0 ∧ st.env 3 = .int .i64 i ∧ st.L = [Go.Pv.Obj.box ((fill (fun q => boxU (UInt8.ofNat q)) (List.replicate 256 0) i).map g8)] ∧ (i ≤ 256) ∧ mz = 256 - i) ?_ ?_
  · refine ⟨_, 0, rfl, rfl, rfl, ?_, rfl⟩
    omega
  rintro mz env L ⟨i, e1, e3, eL, hI, hm⟩
  dsimp only at e1 e3 eL
  subst eL
  refine W.ev 1 e1 ?_
  refine W.ev 3 e3 ?_
  by_cases h : i = 256
  · subst h
    repeat' first
      | (show XO _ _ _ (Oper.mk (some _) (Op.assign _) _ _ _ none :: _) _ _ _; refine X.as ?_)
      | (show XO _ _ _ (Oper.mk (some _) (_) _ _ _ none :: _) _ _ _; refine X.go rfl ?_)
      | (show XO _ _ _ [] _ _ _; refine X.nil ?_)
      | (show CW _ _ _ _ (Code.seq (Code.region _ _ false) _) _ _ _; refine W.rq ?_)
      | (show CW _ _ _ _ (Code.cond _ _ _) _ _ _; refine W.jpf (by (conv => lhs; whnf) <;> rfl) (by with_reducible rfl) (by first | omega | decide) ?_)
      | (show CW _ _ _ _ _ _ _ _; first | refine W.kr ?_ | refine W.ke ?_ | refine W.sq ?_)
      | (show KO _ _ _ _; first | refine K.sn ?_ | refine K.se ?_ | refine K.be ?_ | refine K.le ?_)
      | refine K.nx ?_
    refine K.fin rfl ⟨rfl, ?_⟩
    rw [fill_all _ _ _ (by simp), List.length_replicate]; rfl
  · have hb := box H (UInt8.ofNat i)
    rw [← g8_of i (by omega)] at hb
    repeat' first
      | (show XO _ _ _ (Oper.mk _ _ _ _ _ none :: _) _ _ _; first | refine X.stR (boxU (UInt8.ofNat i)) rfl rfl rfl (by rw [fill_len, List.length_replicate]; omega) ?_ | refine X.iaR1 (n := 256) rfl rfl (by omega) ?_)
      | (show XO _ _ _ (Oper.mk (some _) (Op.move _) _ _ _ none :: _) _ _ _; refine X.mv ?_)
      | (show XO _ _ _ (Oper.mk (some _) (Op.assign _) _ _ _ none :: _) _ _ _; refine X.as ?_)
      | (show XO _ _ _ (Oper.mk (some _) (Op.call _) _ _ _ none :: _) _ _ _; refine X.call (hb _) ?_)
      | (show XO _ _ _ (Oper.mk (some _) (Op.binOp BinOp.add _ _ _ _) _ _ _ none :: _) _ _ _; refine X.addI rfl rfl (by omega) ?_)
      | (show XO _ _ _ (Oper.mk (some _) (Op.convert _ _ _) _ _ _ none :: _) _ _ _; refine X.cvI rfl rfl rfl (wU8 (by omega)) ?_)
      | (show XO _ _ _ (Oper.mk (some _) (_) _ _ _ none :: _) _ _ _; refine X.go rfl ?_)
      | (show XO _ _ _ [] _ _ _; refine X.nil ?_)
      | (show CW _ _ _ _ (Code.seq (Code.region _ _ false) _) _ _ _; refine W.rq ?_)
      | (show CW _ _ _ _ (Code.region _ _ false) _ _ _; refine W.rz ?_)
      | (show CW _ _ _ _ (Code.cond _ _ _) _ _ _; refine W.jpt (by (conv => lhs; whnf) <;> rfl) (by with_reducible rfl) (by first | omega | decide) ?_)
      | (show CW _ _ _ _ _ _ _ _; first | refine W.kn ?_ | refine W.bl ?_ | refine W.sq ?_)
      | (show KO _ _ _ _; first | refine K.sn ?_ | refine K.bn ?_ | refine K.ln _ ?_ ⟨i + 1, rfl, vI (by omega), by rw [fill_set _ _ _ _ _ rfl rfl], ?_, rfl⟩)
      | refine K.nx ?_
      | refine K.re ?_
    · omega
    · omega
theorem boxes (H : ZC Z) (L : List Go.Pv.Obj) : SE Try.prog Z 25 [] L (.ref L.length 0) (L ++ [.box (boxL.map g8)]) :=
  SE.lift_box (boxes0 H) L rfl (map_data g8_data _)

end Go.Proofs.Aes
end
section
set_option linter.unusedVariables false
set_option linter.unusedSimpArgs false
set_option maxHeartbeats 4000000
set_option maxRecDepth 100000
namespace Go.Proofs.Aes
open Go Go.Pv Go.Proofs
variable {Z : Nat → Go.Obj → Prop}
attribute [local irreducible] boxL mulU
def ag (l : List UInt8) : V := .agg (l.map g8)
theorem ag_data (l : List UInt8) : V.lt 0 (ag l) = true := agg_data (map_data g8_data _)
theorem one8 (l : List UInt8) : (l.map g8).all V.one = true := ones_map (fun _ => rfl)
theorem rd_fill {f : Nat → UInt8} {r : List UInt8} {i : Nat} (h : i < r.length) : rd (fill f r i) (i : Int) = rd r (i : Int) := by
  rw [rd_nat, fill_get f r i i h, if_neg (by omega)]; rfl

theorem with0 (H : ZC Z) (s k : List UInt8) (hs : s.length = 16) (hk : k.length = 16) : SE Try.prog Z 38 [ag s, ag k] [] (ag (addS s k)) [] := by
  refine SE.data H Try.func38 rfl ?_
  repeat' first
    | (show XO _ _ _ (Oper.mk _ _ _ _ _ none :: _) _ _ _; refine X.bx rfl (by (conv => lhs; whnf) <;> rfl) (one8 _) ?_)
    | (show XO _ _ _ (Oper.mk (some _) (Op.move _) _ _ _ none :: _) _ _ _; refine X.mv ?_)
    | (show XO _ _ _ (Oper.mk (some _) (_) _ _ _ none :: _) _ _ _; refine X.go rfl ?_)
    | (show XO _ _ _ [] _ _ _; refine X.nil ?_)
    | (show CW _ _ _ _ (Code.seq (Code.region _ _ false) _) _ _ _; refine W.rq ?_)
    | (show CW _ _ _ _ _ _ _ _; first | refine W.bl ?_ | refine W.sq ?_)
    | refine K.nx ?_
  refine W.lq (fun mz st => ∃ (i : Nat), st.env 2 = .ref 0 0 ∧ st.env 3 = .ref 1 0 ∧ st.env 4 = .ref 2 0 ∧ st.env 6 = .int .i64 i ∧ st.L = [Go.Pv.Obj.box ((fill (fun q => rd s q ^^^ rd k q) s i).map g8), .box (k.map g8), .box ((List.replicate 16 0).map g8)] ∧ (i ≤ 16) ∧ mz = 16 - i) ?_ ?_
  · refine ⟨_, 0, rfl, rfl, rfl, rfl, by rw [fill_zero]; rfl, ?_, rfl⟩
    omega
  rintro mz env L ⟨i, e2, e3, e4, e6, eL, hI, hm⟩
  dsimp only at e2 e3 e4 e6 eL
  subst eL
  refine W.ev 2 e2 ?_
  refine W.ev 3 e3 ?_
  refine W.ev 4 e4 ?_
  refine W.ev 6 e6 ?_
  by_cases h : i = 16
  · subst h
    repeat' first
      | (show XO _ _ _ (Oper.mk _ _ _ _ _ none :: _) _ _ _; first | refine X.ldW (n := 16) rfl rfl (by rw [List.length_map, fill_len, hs]) ?_ | refine X.stW (n := 16) rfl rfl rfl (by rw [List.length_map, fill_len, hs]) (by simp) (one8 _) ?_)
      | (show XO _ _ _ (Oper.mk (some _) (_) _ _ _ none :: _) _ _ _; refine X.go rfl ?_)
      | (show XO _ _ _ [] _ _ _; refine X.nil ?_)
      | (show CW _ _ _ _ (Code.seq (Code.region _ _ false) _) _ _ _; refine W.rq ?_)
      | (show CW _ _ _ _ (Code.cond _ _ _) _ _ _; refine W.jpf (by (conv => lhs; whnf) <;> rfl) (by with_reducible rfl) (by first | omega | decide) ?_)
      | (show CW _ _ _ _ _ _ _ _; first | refine W.kr ?_ | refine W.ke ?_ | refine W.sq ?_)
      | (show KO _ _ _ _; first | refine K.sn ?_ | refine K.se ?_ | refine K.be ?_ | refine K.le ?_)
      | refine K.nx ?_
    refine K.fin (resV_cell (n := 16) rfl rfl (by rw [List.length_map, fill_len, hs])) ⟨_, rfl, (frz_agg (map_data g8_data _)).trans ?_⟩
    rw [fill_all _ _ _ (by omega), hs]; rfl
  · have hfl := fill_len (fun q => rd s q ^^^ rd k q) s i
    repeat' first
      | (show XO _ _ _ (Oper.mk _ _ _ _ _ none :: _) _ _ _; first | refine X.iaR1 (n := 16) rfl rfl (by omega) ?_ | refine X.xor8 rfl rfl ?_ | refine X.stR (rd s i ^^^ rd k i) rfl rfl (by rw [rd_fill (by omega)]; rfl) (by omega) ?_)
      | (show XO _ _ _ (Oper.mk (some _) (Op.move _) _ _ _ none :: _) _ _ _; refine X.mv ?_)
      | (show XO _ _ _ (Oper.mk (some _) (Op.assign _) _ _ _ none :: _) _ _ _; refine X.as ?_)
      | (show XO _ _ _ (Oper.mk (some _) (Op.binOp BinOp.add _ _ _ _) _ _ _ none :: _) _ _ _; refine X.addI rfl rfl (by omega) ?_)
      | (show XO _ _ _ (Oper.mk (some _) (_) _ _ _ none :: _) _ _ _; refine X.go rfl ?_)
      | (show XO _ _ _ [] _ _ _; refine X.nil ?_)
      | (show AO _ _ _ (Oper.mk _ _ _ _ _ none :: _) _ _ _; first | refine A.iaR1 (n := 16) rfl rfl (by omega) ?_ | refine A.ldR rfl rfl (by omega) ?_)
      | (show AO _ _ _ (Oper.mk (some _) (Op.move _) _ _ _ none :: _) _ _ _; refine A.mv ?_)
      | (show AO _ _ _ [] _ _ _; refine A.nil ?_)
      | (show CW _ _ _ _ (Code.seq (Code.region _ _ false) _) _ _ _; refine W.rq ?_)
      | (show CW _ _ _ _ (Code.region _ _ false) _ _ _; refine W.rz ?_)
      | (show CW _ _ _ _ (Code.region _ _ true) _ _ _; refine W.dz 6 ?_)
      | (show CW _ _ _ _ (Code.cond _ _ _) _ _ _; refine W.jpt (by (conv => lhs; whnf) <;> rfl) (by with_reducible rfl) (by first | omega | decide) ?_)
      | (show CW _ _ _ _ _ _ _ _; first | refine W.kn ?_ | refine W.bl ?_ | refine W.sq ?_)
      | (show KO _ _ _ _; first | refine K.sn ?_ | refine K.bn ?_ | refine K.ln _ ?_ ⟨i + 1, rfl, rfl, rfl, vI (by omega), by rw [fill_set _ _ _ _ _ rfl rfl], ?_, rfl⟩)
      | refine K.nx ?_
      | refine K.re ?_
      | refine K.dr ?_
    · omega
    · omega

theorem shifted0 (H : ZC Z) (s : List UInt8) (hs : s.length = 16) : SE Try.prog Z 39 [ag s, .cref (boxL.map g8)] [] (ag (shiftS s)) [] := by
  refine SE.data H Try.func39 rfl ?_
  repeat' first
    | (show XO _ _ _ (Oper.mk _ _ _ _ _ none :: _) _ _ _; refine X.bx rfl (by (conv => lhs; whnf) <;> rfl) (one8 _) ?_)
    | (show XO _ _ _ (Oper.mk (some _) (Op.move _) _ _ _ none :: _) _ _ _; refine X.mv ?_)
    | (show XO _ _ _ (Oper.mk (some _) (_) _ _ _ none :: _) _ _ _; refine X.go rfl ?_)
    | (show XO _ _ _ [] _ _ _; refine X.nil ?_)
    | (show CW _ _ _ _ (Code.seq (Code.region _ _ false) _) _ _ _; refine W.rq ?_)
    | (show CW _ _ _ _ _ _ _ _; first | refine W.bl ?_ | refine W.sq ?_)
    | refine K.nx ?_
  refine W.lq (fun mz st => ∃ (i : Nat), st.env 1 = .cref (boxL.map g8) ∧ st.env 2 = .ref 0 0 ∧ st.env 4 = .ref 1 0 ∧ st.env 5 = .ref 2 0 ∧ st.env 7 = .int .i64 i ∧ st.L = [Go.Pv.Obj.box (s.map g8), .box ((List.replicate 16 0).map g8), .box ((fill (shiftB s) (List.replicate 16 0) i).map g8)] ∧ (i ≤ 16) ∧ mz = 16 - i) ?_ ?_
  · refine ⟨_, 0, rfl, rfl, rfl, rfl, rfl, by rw [fill_zero]; rfl, ?_, rfl⟩
    omega
  rintro mz env L ⟨i, e1, e2, e4, e5, e7, eL, hI, hm⟩
  dsimp only at e1 e2 e4 e5 e7 eL
  subst eL
  refine W.ev 1 e1 ?_
  refine W.ev 2 e2 ?_
  refine W.ev 4 e4 ?_
  refine W.ev 5 e5 ?_
  refine W.ev 7 e7 ?_
  by_cases h : i = 16
  · subst h
    repeat' first
      | (show XO _ _ _ (Oper.mk _ _ _ _ _ none :: _) _ _ _; first | refine X.ldW (n := 16) rfl rfl (by simp [fill_len]) ?_ | refine X.stW (n := 16) rfl rfl rfl (by simp [fill_len]) (by simp) (one8 _) ?_)
      | (show XO _ _ _ (Oper.mk (some _) (_) _ _ _ none :: _) _ _ _; refine X.go rfl ?_)
      | (show XO _ _ _ [] _ _ _; refine X.nil ?_)
      | (show CW _ _ _ _ (Code.seq (Code.region _ _ false) _) _ _ _; refine W.rq ?_)
      | (show CW _ _ _ _ (Code.cond _ _ _) _ _ _; refine W.jpf (by (conv => lhs; whnf) <;> rfl) (by with_reducible rfl) (by first | omega | decide) ?_)
      | (show CW _ _ _ _ _ _ _ _; first | refine W.kr ?_ | refine W.ke ?_ | refine W.sq ?_)
      | (show KO _ _ _ _; first | refine K.sn ?_ | refine K.se ?_ | refine K.be ?_ | refine K.le ?_)
      | refine K.nx ?_
    refine K.fin (resV_cell (n := 16) rfl rfl (by simp [fill_len])) ⟨_, rfl, (frz_agg (map_data g8_data _)).trans ?_⟩
    rw [fill_all _ _ _ (by simp)]; rfl
  · have hfl := fill_len (shiftB s) (List.replicate 16 0) i
    rw [List.length_replicate] at hfl
    have hbl := boxL_len
    have hb := (rd s (((i : Int) + 4 * ((i : Int) % 4)) % 16)).toNat_lt
    repeat' first
      | (show XO _ _ _ (Oper.mk _ _ _ _ _ none :: _) _ _ _; first | refine X.iaR1 (n := 16) rfl rfl (by omega) ?_ | refine X.stR (shiftB s i) rfl rfl rfl (by omega) ?_)
      | (show XO _ _ _ (Oper.mk (some _) (Op.move _) _ _ _ none :: _) _ _ _; refine X.mv ?_)
      | (show XO _ _ _ (Oper.mk (some _) (Op.assign _) _ _ _ none :: _) _ _ _; refine X.as ?_)
      | (show XO _ _ _ (Oper.mk (some _) (Op.binOp BinOp.add _ _ _ _) _ _ _ none :: _) _ _ _; refine X.addI rfl rfl (by omega) ?_)
      | (show XO _ _ _ (Oper.mk (some _) (_) _ _ _ none :: _) _ _ _; refine X.go rfl ?_)
      | (show XO _ _ _ [] _ _ _; refine X.nil ?_)
      | (show AO _ _ _ (Oper.mk _ _ _ _ _ none :: _) _ _ _; first | refine A.iaR1 (n := 16) rfl rfl (by omega) ?_ | refine A.iaC1 (n := 256) rfl rfl (by omega) (by omega) ?_ | refine A.ldR rfl rfl (by omega) ?_ | refine A.ldC rfl (by omega) ?_)
      | (show AO _ _ _ (Oper.mk (some _) (Op.move _) _ _ _ none :: _) _ _ _; refine A.mv ?_)
      | (show AO _ _ _ (Oper.mk (some _) (Op.binOp BinOp.add _ _ _ _) _ _ _ none :: _) _ _ _; refine A.addI rfl rfl (by omega) ?_)
      | (show AO _ _ _ (Oper.mk (some _) (Op.binOp BinOp.mul _ _ _ _) _ _ _ none :: _) _ _ _; refine A.mulI rfl rfl (by omega) ?_)
      | (show AO _ _ _ (Oper.mk (some _) (Op.binOp BinOp.rem _ _ _ _) _ _ _ none :: _) _ _ _; refine A.remI rfl rfl (by omega) ?_)
      | (show AO _ _ _ (Oper.mk (some _) (_) _ _ _ none :: _) _ _ _; refine A.go rfl ?_)
      | (show AO _ _ _ [] _ _ _; refine A.nil ?_)
      | (show CW _ _ _ _ (Code.seq (Code.region _ _ false) _) _ _ _; refine W.rq ?_)
      | (show CW _ _ _ _ (Code.region _ _ false) _ _ _; refine W.rz ?_)
      | (show CW _ _ _ _ (Code.region _ _ true) _ _ _; refine W.dz 13 ?_)
      | (show CW _ _ _ _ (Code.cond _ _ _) _ _ _; refine W.jpt (by (conv => lhs; whnf) <;> rfl) (by with_reducible rfl) (by first | omega | decide) ?_)
      | (show CW _ _ _ _ _ _ _ _; first | refine W.kn ?_ | refine W.bl ?_ | refine W.sq ?_)
      | (show KO _ _ _ _; first | refine K.sn ?_ | refine K.bn ?_ | refine K.ln _ ?_ ⟨i + 1, rfl, rfl, rfl, rfl, vI (by omega), by rw [fill_set _ _ _ _ _ rfl rfl], ?_, rfl⟩)
      | refine K.nx ?_
      | refine K.re ?_
      | refine K.dr ?_
    · omega
    · omega
theorem mixAt (H : ZC Z) (s : List UInt8) (hs : s.length = 16) (i c n : Int) (h1 : 0 ≤ i ∧ i < 16) (h2 : 0 ≤ c ∧ c ≤ 12) (h3 : 0 ≤ n ∧ n < 4) (R1 R2 : Go.Pv.Obj) :
    SE Try.prog Z 41 [.int .i64 n, .ref 0 0, .ref 4 0, .ref 3 0] [.box (s.map g8), R1, R2, .box [.int .i64 i], .box [.int .i64 c]] (g8 (rd s (c + (i + n) % 4))) [.box (s.map g8), R1, R2, .box [.int .i64 i], .box [.int .i64 c]] := by
  refine SE.data H Try.func41 rfl ?_
  repeat' first
    | (show XO _ _ _ (Oper.mk _ _ _ _ _ none :: _) _ _ _; first | refine X.iaR1 (n := 16) rfl rfl (by omega) ?_ | refine X.ldR (g := g8) rfl rfl (by omega) ?_)
    | (show XO _ _ _ (Oper.mk (some _) (Op.move _) _ _ _ none :: _) _ _ _; refine X.mv ?_)
    | (show XO _ _ _ (Oper.mk (some _) (Op.assign _) _ _ _ none :: _) _ _ _; refine X.as ?_)
    | (show XO _ _ _ (Oper.mk (some _) (Op.binOp BinOp.add _ _ _ _) _ _ _ none :: _) _ _ _; refine X.addI rfl rfl (by omega) ?_)
    | (show XO _ _ _ (Oper.mk (some _) (Op.binOp BinOp.rem _ _ _ _) _ _ _ none :: _) _ _ _; refine X.remI rfl rfl (by omega) ?_)
    | (show XO _ _ _ (Oper.mk (some _) (Op.load _ _) _ _ _ none :: _) _ _ _; refine X.go rfl ?_)
    | (show XO _ _ _ [] _ _ _; refine X.nil ?_)
    | (show CW _ _ _ _ (Code.seq (Code.region _ _ false) _) _ _ _; refine W.rq ?_)
    | (show CW _ _ _ _ _ _ _ _; refine W.kr ?_)
    | refine K.nx ?_
  exact end_data rfl rfl rfl

theorem mixed0 (H : ZC Z) (s : List UInt8) (hs : s.length = 16) : SE Try.prog Z 40 [ag s] [] (ag (mixS s)) [] := by
  refine SE.data H Try.func40 rfl ?_
  repeat' first
    | (show XO _ _ _ (Oper.mk _ _ _ _ _ none :: _) _ _ _; first | refine X.bx rfl (by (conv => lhs; whnf) <;> rfl) (one8 _) ?_ | refine X.ldW (n := 16) rfl rfl (by simp [hs]) ?_ | refine X.stW (n := 16) rfl rfl rfl (by simp [hs]) (by simp) (one8 _) ?_)
    | (show XO _ _ _ (Oper.mk (some _) (Op.move _) _ _ _ none :: _) _ _ _; refine X.mv ?_)
    | (show XO _ _ _ (Oper.mk (some _) (_) _ _ _ none :: _) _ _ _; refine X.go rfl ?_)
    | (show XO _ _ _ [] _ _ _; refine X.nil ?_)
    | (show CW _ _ _ _ (Code.seq (Code.region _ _ false) _) _ _ _; refine W.rq ?_)
    | (show CW _ _ _ _ _ _ _ _; first | refine W.bl ?_ | refine W.sq ?_)
    | refine K.nx ?_
  refine W.lqF 3 (fun mz st => ∃ (i : Nat), st.env 1 = .ref 0 0 ∧ st.env 2 = .ref 1 0 ∧ st.env 3 = .ref 2 0 ∧ st.env 8 = .int .i64 i ∧ st.L = [Go.Pv.Obj.box (s.map g8), .box ((List.replicate 16 0).map g8), .box ((fill (mixB s) s i).map g8)] ∧ (i ≤ 16) ∧ mz = 16 - i) ?_ ?_
  · refine ⟨_, 0, rfl, rfl, rfl, rfl, by rw [fill_zero]; rfl, ?_, rfl⟩
    omega
  rintro mz env L ⟨i, e1, e2, e3, e8, eL, hI, hm⟩
  dsimp only at e1 e2 e3 e8 eL
  subst eL
  refine W.ev 1 e1 ?_
  refine W.ev 2 e2 ?_
  refine W.ev 3 e3 ?_
  refine W.ev 8 e8 ?_
  by_cases h : i = 16
  · subst h
    repeat' first
      | (show XO _ _ _ (Oper.mk _ _ _ _ _ none :: _) _ _ _; first | refine X.ldW (n := 16) rfl rfl (by simp [fill_len, hs]) ?_ | refine X.stW (n := 16) rfl rfl rfl (by simp [fill_len, hs]) (by simp) (one8 _) ?_)
      | (show XO _ _ _ (Oper.mk (some _) (_) _ _ _ none :: _) _ _ _; refine X.go rfl ?_)
      | (show XO _ _ _ [] _ _ _; refine X.nil ?_)
      | (show CW _ _ _ _ (Code.seq (Code.region _ _ false) _) _ _ _; refine W.rq ?_)
      | (show CW _ _ _ _ (Code.cond _ _ _) _ _ _; refine W.jpf (by (conv => lhs; whnf) <;> rfl) (by with_reducible rfl) (by first | omega | decide) ?_)
      | (show CW _ _ _ _ _ _ _ _; first | refine W.kr ?_ | refine W.ke ?_ | refine W.sq ?_)
      | (show KO _ _ _ _; first | refine K.sn ?_ | refine K.se ?_ | refine K.be ?_ | refine K.le ?_)
      | refine K.nx ?_
    refine K.fin (resV_cell (n := 16) rfl rfl (by simp [fill_len, hs])) ⟨_, rfl, (frz_agg (map_data g8_data _)).trans ?_⟩
    rw [fill_all _ _ _ (by omega), hs]; rfl
  · have hfl := fill_len (mixB s) s i
    have hat : ∀ n : Int, 0 ≤ n ∧ n < 4 → _ := fun n hn => mixAt H s hs (i : Int) ((i : Int) / 4 * 4) n (by omega) (by omega) hn (.box ((List.replicate 16 0).map g8)) (.box ((fill (mixB s) s i).map g8))
    repeat' first
      | (show XO _ _ _ (Oper.mk _ _ _ _ _ none :: _) _ _ _; first | refine X.iaR1 (n := 16) rfl rfl (by omega) ?_ | refine X.stR (mixB s i) rfl rfl rfl (by omega) ?_)
      | (show XO _ _ _ (Oper.mk (some _) (Op.move _) _ _ _ none :: _) _ _ _; refine X.mv ?_)
      | (show XO _ _ _ (Oper.mk (some _) (Op.assign _) _ _ _ none :: _) _ _ _; refine X.as ?_)
      | (show XO _ _ _ (Oper.mk (some _) (Op.binOp BinOp.add _ _ _ _) _ _ _ none :: _) _ _ _; refine X.addI rfl rfl (by omega) ?_)
      | (show XO _ _ _ (Oper.mk (some _) (Op.binOp BinOp.mul _ _ _ _) _ _ _ none :: _) _ _ _; refine X.mulI rfl rfl (by omega) ?_)
      | (show XO _ _ _ (Oper.mk (some _) (Op.binOp BinOp.quo _ _ _ _) _ _ _ none :: _) _ _ _; refine X.quoI rfl rfl (by omega) ?_)
      | (show XO _ _ _ (Oper.mk (some _) (Op.load _ _) _ _ _ none :: _) _ _ _; refine X.go rfl ?_)
      | (show XO _ _ _ (Oper.mk (some _) (_) _ _ _ none :: _) _ _ _; refine X.go rfl ?_)
      | (show XO _ _ _ (Oper.mk none _ _ _ _ none :: _) _ _ _; refine X.st rfl ?_)
      | (show XO _ _ _ [] _ _ _; refine X.nil ?_)
      | (show AO _ _ _ (Oper.mk _ _ _ _ _ none :: _) _ _ _; refine A.xor8 rfl rfl ?_)
      | (show AO _ _ _ (Oper.mk (some _) (Op.move _) _ _ _ none :: _) _ _ _; refine A.mv ?_)
      | (show AO _ _ _ (Oper.mk (some _) (Op.call _) _ _ _ none :: _) _ _ _; first | refine A.call (mul H _ 2 _) ?_ | refine A.call (mul H _ 3 _) ?_ | refine A.callf rfl rfl (hat 0 (by omega)) ?_ | refine A.callf rfl rfl (hat 1 (by omega)) ?_ | refine A.callf rfl rfl (hat 2 (by omega)) ?_ | refine A.callf rfl rfl (hat 3 (by omega)) ?_)
      | (show AO _ _ _ (Oper.mk (some _) (Op.load _ _) _ _ _ none :: _) _ _ _; refine A.go rfl ?_)
      | (show AO _ _ _ [] _ _ _; refine A.nil ?_)
      | (show CW _ _ _ _ (Code.seq (Code.region _ _ false) _) _ _ _; refine W.rq ?_)
      | (show CW _ _ _ _ (Code.region _ _ false) _ _ _; refine W.rz ?_)
      | (show CW _ _ _ _ (Code.region _ _ true) _ _ _; refine W.dz 14 ?_)
      | (show CW _ _ _ _ (Code.cond _ _ _) _ _ _; refine W.jpt (by (conv => lhs; whnf) <;> rfl) (by with_reducible rfl) (by first | omega | decide) ?_)
      | (show CW _ _ _ _ _ _ _ _; first | refine W.kn ?_ | refine W.bl ?_ | refine W.sq ?_)
      | (show KO _ _ _ _; first | refine K.sn ?_ | refine K.bn ?_ | refine K.fn _ ?_ [_, _, _] _ rfl rfl (by repeat' first | exact obs_nil | refine obs_cons ?_ ?_ | exact ob_box (map_data g8_data _) | exact ob_buf (map_data g8_data _) | exact ob_box rfl | exact ob_buf rfl) ⟨i + 1, rfl, rfl, rfl, vI (by omega), by rw [fill_set _ _ _ _ _ rfl rfl], ?_, rfl⟩)
      | refine K.nx ?_
      | refine K.re ?_
      | refine K.dr ?_
    · omega
    · omega

end Go.Proofs.Aes
end
section
set_option linter.unusedVariables false
set_option linter.unusedSimpArgs false
set_option maxHeartbeats 4000000
set_option maxRecDepth 100000
namespace Go.Proofs.Aes
open Go Go.Pv Go.Proofs
variable {Z : Nat → Go.Obj → Prop}
attribute [local irreducible] boxL mulU
theorem with_ (H : ZC Z) (s k : List UInt8) (hs : s.length = 16) (hk : k.length = 16) (L : List Go.Pv.Obj) : SE Try.prog Z 38 [ag s, ag k] L (ag (addS s k)) L :=
  SE.lift (with0 H s k hs hk) L (by simp [V.lts, ag_data]) (ag_data _)
theorem shifted (H : ZC Z) (s : List UInt8) (hs : s.length = 16) (L : List Go.Pv.Obj) : SE Try.prog Z 39 [ag s, .cref (boxL.map g8)] L (ag (shiftS s)) L :=
  SE.lift (shifted0 H s hs) L (by simp [V.lts, V.lt, ag_data, map_data g8_data]) (ag_data _)
theorem mixed (H : ZC Z) (s : List UInt8) (hs : s.length = 16) (L : List Go.Pv.Obj) : SE Try.prog Z 40 [ag s] L (ag (mixS s)) L :=
  SE.lift (mixed0 H s hs) L (by simp [V.lts, ag_data]) (ag_data _)

theorem locked0 (H : ZC Z) (ks s : List UInt8) (hK : ks.length = 176) (hs : s.length = 16) : SE Try.prog Z 32 [.cref (ks.map g8), .cref (boxL.map g8), ag s] [] (ag (lockS ks s)) [] := by
  have hr0 := rk_len hK (n := 0) (by omega)
  refine SE.data H Try.func32 rfl ?_
  repeat' first
    | (show XO _ _ _ (Oper.mk _ _ _ _ _ none :: _) _ _ _; first | refine X.bx rfl (by (conv => lhs; whnf) <;> rfl) (one8 _) ?_ | refine X.stW (n := 16) rfl rfl rfl (by simp [hs, addS_len, lockF_len, shiftS_len, mixS_len]) (by simp [hs, addS_len, lockF_len, shiftS_len, mixS_len]) (one8 _) ?_)
    | (show XO _ _ _ (Oper.mk (some _) (Op.assign _) _ _ _ none :: _) _ _ _; refine X.as ?_)
    | (show XO _ _ _ (Oper.mk (some _) (Op.call _) _ _ _ none :: _) _ _ _; refine X.call (with_ H s (rk ks 0) hs hr0 _) ?_)
    | (show XO _ _ _ (Oper.mk (some _) (_) _ _ _ none :: _) _ _ _; refine X.go rfl ?_)
    | (show XO _ _ _ [] _ _ _; refine X.nil ?_)
    | (show AO _ _ _ (Oper.mk _ _ _ _ _ none :: _) _ _ _; first | refine A.ldW (n := 16) rfl rfl (by simp [hs, addS_len, lockF_len, shiftS_len, mixS_len]) ?_ | refine A.ldS (l := ks) (g' := g8) (n := 16) rfl (by omega) ?_ | refine A.iaC (n := 11) (sz := 16) rfl rfl (by omega) (by rw [List.length_map, hK]; omega) ?_)
    | (show AO _ _ _ (Oper.mk (some _) (Op.move _) _ _ _ none :: _) _ _ _; refine A.mv ?_)
    | (show AO _ _ _ (Oper.mk (some _) (_) _ _ _ none :: _) _ _ _; refine A.go rfl ?_)
    | (show AO _ _ _ [] _ _ _; refine A.nil ?_)
    | (show CW _ _ _ _ (Code.seq (Code.region _ _ false) _) _ _ _; refine W.rq ?_)
    | (show CW _ _ _ _ (Code.seq (Code.region _ _ true) _) _ _ _; refine W.dq 5 ?_)
    | (show CW _ _ _ _ _ _ _ _; first | refine W.bl ?_ | refine W.sq ?_)
    | refine K.nx ?_
    | refine K.dr ?_
  refine W.lq (fun mz st => ∃ (n : Nat), st.env 0 = .cref (ks.map g8) ∧ st.env 1 = .cref (boxL.map g8) ∧ st.env 5 = .ref 0 0 ∧ st.env 6 = .ref 1 0 ∧ st.env 7 = .int .i64 ((n : Int) + 1) ∧ st.L = [Go.Pv.Obj.box ((lockF ks s n).map g8), .box ((List.replicate 16 0).map g8)] ∧ (n ≤ 10) ∧ mz = 10 - n) ?_ ?_
  · refine ⟨_, 0, rfl, rfl, rfl, rfl, rfl, rfl, ?_, rfl⟩
    omega
  rintro mz env L ⟨n, e0, e1, e5, e6, e7, eL, hI, hm⟩
  dsimp only at e0 e1 e5 e6 e7 eL
  subst eL
  refine W.ev 0 e0 ?_
  refine W.ev 1 e1 ?_
  refine W.ev 5 e5 ?_
  refine W.ev 6 e6 ?_
  refine W.ev 7 e7 ?_
  have hl := lockF_len ks s n
  by_cases h : n = 10
  · subst h
    repeat' first
      | (show XO _ _ _ (Oper.mk _ _ _ _ _ none :: _) _ _ _; first | refine X.ldW (n := 16) rfl rfl (by simp [hs, addS_len, lockF_len, shiftS_len, mixS_len]) ?_ | refine X.stW (n := 16) rfl rfl rfl (by simp [hs, addS_len, lockF_len, shiftS_len, mixS_len]) (by simp [hs, addS_len, lockF_len, shiftS_len, mixS_len]) (one8 _) ?_)
      | (show XO _ _ _ (Oper.mk (some _) (Op.move _) _ _ _ none :: _) _ _ _; refine X.mv ?_)
      | (show XO _ _ _ (Oper.mk (some _) (_) _ _ _ none :: _) _ _ _; refine X.go rfl ?_)
      | (show XO _ _ _ [] _ _ _; refine X.nil ?_)
      | (show CW _ _ _ _ (Code.seq (Code.region _ _ false) _) _ _ _; refine W.rq ?_)
      | (show CW _ _ _ _ (Code.cond _ _ _) _ _ _; refine W.jpf (by (conv => lhs; whnf) <;> rfl) (by with_reducible rfl) (by first | omega | decide) ?_)
      | (show CW _ _ _ _ _ _ _ _; first | refine W.kr ?_ | refine W.ke ?_ | refine W.sq ?_)
      | (show KO _ _ _ _; first | refine K.sn ?_ | refine K.se ?_ | refine K.be ?_ | refine K.le ?_)
      | refine K.nx ?_
    refine K.fin (resV_cell (n := 16) rfl rfl (by simp [lockF_len])) ⟨_, rfl, (frz_agg (map_data g8_data _)).trans ?_⟩
    rfl
  · have hr := rk_len hK (n := n + 1) (by omega)
    by_cases h9 : n + 1 < 10
    · have hl2 : lockF ks s (n + 1) = addS (mixS (shiftS (lockF ks s n))) (rk ks (n + 1)) := by rw [lockF, if_pos h9]
      repeat' first
        | (show XO _ _ _ (Oper.mk _ _ _ _ _ none :: _) _ _ _; first | refine X.ldW (n := 16) rfl rfl (by simp [hs, addS_len, lockF_len, shiftS_len, mixS_len]) ?_ | refine X.stW (n := 16) rfl rfl rfl (by simp [hs, addS_len, lockF_len, shiftS_len, mixS_len]) (by simp [hs, addS_len, lockF_len, shiftS_len, mixS_len]) (one8 _) ?_)
        | (show XO _ _ _ (Oper.mk (some _) (Op.move _) _ _ _ none :: _) _ _ _; refine X.mv ?_)
        | (show XO _ _ _ (Oper.mk (some _) (Op.assign _) _ _ _ none :: _) _ _ _; refine X.as ?_)
        | (show XO _ _ _ (Oper.mk (some _) (Op.call _) _ _ _ none :: _) _ _ _; first | refine X.call (shifted H _ hl _) ?_ | refine X.call (mixed H _ (shiftS_len _) _) ?_ | refine X.call (with_ H (mixS (shiftS (lockF ks s n))) (rk ks (n + 1)) (mixS_len _) hr _) ?_)
        | (show XO _ _ _ (Oper.mk (some _) (Op.binOp BinOp.add _ _ _ _) _ _ _ none :: _) _ _ _; refine X.addI rfl rfl (by omega) ?_)
        | (show XO _ _ _ (Oper.mk (some _) (_) _ _ _ none :: _) _ _ _; refine X.go rfl ?_)
        | (show XO _ _ _ [] _ _ _; refine X.nil ?_)
        | (show AO _ _ _ (Oper.mk _ _ _ _ _ none :: _) _ _ _; first | refine A.ldW (n := 16) rfl rfl (by simp [hs, addS_len, lockF_len, shiftS_len, mixS_len]) ?_ | refine A.ldS (l := ks) (g' := g8) (n := 16) rfl (by omega) ?_ | refine A.iaC (n := 11) (sz := 16) rfl rfl (by omega) (by rw [List.length_map, hK]; omega) ?_)
        | (show AO _ _ _ (Oper.mk (some _) (Op.move _) _ _ _ none :: _) _ _ _; refine A.mv ?_)
        | (show AO _ _ _ (Oper.mk (some _) (_) _ _ _ none :: _) _ _ _; refine A.go rfl ?_)
        | (show AO _ _ _ [] _ _ _; refine A.nil ?_)
        | (show CW _ _ _ _ (Code.seq (Code.region _ _ false) _) _ _ _; refine W.rq ?_)
        | (show CW _ _ _ _ (Code.region _ _ false) _ _ _; refine W.rz ?_)
        | (show CW _ _ _ _ (Code.region _ _ true) _ _ _; refine W.dz 6 ?_)
        | (show CW _ _ _ _ (Code.cond _ _ _) _ _ _; refine W.jpt (by (conv => lhs; whnf) <;> rfl) (by with_reducible rfl) (by first | omega | decide) ?_)
        | (show CW _ _ _ _ _ _ _ _; first | refine W.kn ?_ | refine W.bl ?_ | refine W.sq ?_)
        | (show KO _ _ _ _; first | refine K.sn ?_ | refine K.bn ?_ | refine K.ln _ ?_ ⟨n + 1, rfl, rfl, rfl, rfl, vI (by omega), by rw [hl2], ?_, rfl⟩)
        | refine K.nx ?_
        | refine K.re ?_
        | refine K.dr ?_
      · omega
      · omega
    · have hl2 : lockF ks s (n + 1) = addS (shiftS (lockF ks s n)) (rk ks (n + 1)) := by rw [lockF, if_neg h9]
      repeat' first
        | (show XO _ _ _ (Oper.mk _ _ _ _ _ none :: _) _ _ _; first | refine X.ldW (n := 16) rfl rfl (by simp [hs, addS_len, lockF_len, shiftS_len, mixS_len]) ?_ | refine X.stW (n := 16) rfl rfl rfl (by simp [hs, addS_len, lockF_len, shiftS_len, mixS_len]) (by simp [hs, addS_len, lockF_len, shiftS_len, mixS_len]) (one8 _) ?_)
        | (show XO _ _ _ (Oper.mk (some _) (Op.move _) _ _ _ none :: _) _ _ _; refine X.mv ?_)
        | (show XO _ _ _ (Oper.mk (some _) (Op.assign _) _ _ _ none :: _) _ _ _; refine X.as ?_)
        | (show XO _ _ _ (Oper.mk (some _) (Op.call _) _ _ _ none :: _) _ _ _; first | refine X.call (shifted H _ hl _) ?_ | refine X.call (with_ H (shiftS (lockF ks s n)) (rk ks (n + 1)) (shiftS_len _) hr _) ?_)
        | (show XO _ _ _ (Oper.mk (some _) (Op.binOp BinOp.add _ _ _ _) _ _ _ none :: _) _ _ _; refine X.addI rfl rfl (by omega) ?_)
        | (show XO _ _ _ (Oper.mk (some _) (_) _ _ _ none :: _) _ _ _; refine X.go rfl ?_)
        | (show XO _ _ _ [] _ _ _; refine X.nil ?_)
        | (show AO _ _ _ (Oper.mk _ _ _ _ _ none :: _) _ _ _; first | refine A.ldW (n := 16) rfl rfl (by simp [hs, addS_len, lockF_len, shiftS_len, mixS_len]) ?_ | refine A.ldS (l := ks) (g' := g8) (n := 16) rfl (by omega) ?_ | refine A.iaC (n := 11) (sz := 16) rfl rfl (by omega) (by rw [List.length_map, hK]; omega) ?_)
        | (show AO _ _ _ (Oper.mk (some _) (Op.move _) _ _ _ none :: _) _ _ _; refine A.mv ?_)
        | (show AO _ _ _ (Oper.mk (some _) (_) _ _ _ none :: _) _ _ _; refine A.go rfl ?_)
        | (show AO _ _ _ [] _ _ _; refine A.nil ?_)
        | (show CW _ _ _ _ (Code.seq (Code.region _ _ false) _) _ _ _; refine W.rq ?_)
        | (show CW _ _ _ _ (Code.region _ _ false) _ _ _; refine W.rz ?_)
        | (show CW _ _ _ _ (Code.region _ _ true) _ _ _; refine W.dz 6 ?_)
        | (show CW _ _ _ _ (Code.cond _ _ _) _ _ _; first | refine W.jpt (by (conv => lhs; whnf) <;> rfl) (by with_reducible rfl) (by first | omega | decide) ?_ | refine W.jpf (by (conv => lhs; whnf) <;> rfl) (by with_reducible rfl) (by first | omega | decide) ?_)
        | (show CW _ _ _ _ _ _ _ _; first | refine W.kn ?_ | refine W.bl ?_ | refine W.sq ?_)
        | (show KO _ _ _ _; first | refine K.sn ?_ | refine K.bn ?_ | refine K.ln _ ?_ ⟨n + 1, rfl, rfl, rfl, rfl, vI (by omega), by rw [hl2], ?_, rfl⟩)
        | refine K.nx ?_
        | refine K.re ?_
        | refine K.dr ?_
      · omega
      · omega

end Go.Proofs.Aes
end
section
/- Aes: the rounds' keys, byte by byte. -/
set_option maxRecDepth 100000
namespace Go.Proofs.Aes
open Go.Pv
def rc : Nat → UInt8
  | 0 => 1
  | n + 1 => mulU (rc n) 2
def wordB (w : List UInt8) (i k : Nat) : UInt8 :=
  rd w (4 * (i : Int) - 16 + k) ^^^ (if i % 4 = 0 then (if k = 0 then rd boxL ((rd w (4 * (i : Int) - 4 + ((k : Int) + 1) % 4)).toNat : Int) ^^^ rc (i / 4 - 1) else rd boxL ((rd w (4 * (i : Int) - 4 + ((k : Int) + 1) % 4)).toNat : Int)) else rd w (4 * (i : Int) - 4 + k))
def exW (key : List UInt8) : Nat → List UInt8
  | 0 => key
  | p + 1 => exW key p ++ [wordB (exW key p) (4 + p / 4) (p % 4)]
def keysL (key : List UInt8) : List UInt8 := exW key 160
def exE (key : List UInt8) (q : Nat) : UInt8 := rd (keysL key) (q : Int)
variable {key : List UInt8}
theorem exW_len (hk : key.length = 16) : ∀ p, (exW key p).length = 16 + p
  | 0 => hk
  | p + 1 => by rw [exW, List.length_append, exW_len hk p]; rfl
theorem rd_app {l m : List UInt8} {q : Nat} (h : q < l.length) : rd (l ++ m) (q : Int) = rd l (q : Int) := by
  rw [rd_nat, rd_nat, List.getD_eq_getElem?_getD, List.getD_eq_getElem?_getD, List.getElem?_append_left h]
theorem rd_end {l : List UInt8} {a : UInt8} {q : Nat} (h : q = l.length) : rd (l ++ [a]) (q : Int) = a := by
  rw [rd_nat, List.getD_eq_getElem?_getD, List.getElem?_append_right (by omega), h, Nat.sub_self]; rfl
theorem exW_pre (hk : key.length = 16) {p q : Nat} (hq : q < 16 + p) : ∀ d, rd (exW key (p + d)) (q : Int) = rd (exW key p) (q : Int)
  | 0 => rfl
  | d + 1 => by
    rw [show p + (d + 1) = (p + d) + 1 by omega, exW, rd_app (by rw [exW_len hk]; omega)]
    exact exW_pre hk hq d
theorem exE_of (hk : key.length = 16) {p q : Nat} (hp : p ≤ 160) (hq : q < 16 + p) : rd (exW key p) (q : Int) = exE key q := by
  have := exW_pre hk hq (160 - p)
  rw [show p + (160 - p) = 160 by omega] at this
  exact this.symm
theorem exE_low (hk : key.length = 16) {q : Nat} (hq : q < 16) : exE key q = rd key (q : Int) := (exE_of hk (p := 0) (by omega) (by omega)).symm
theorem exE_word (hk : key.length = 16) {p : Nat} (hp : p < 160) : exE key (16 + p) = wordB (exW key p) (4 + p / 4) (p % 4) := by
  rw [← exE_of hk (p := p + 1) (by omega) (by omega), exW, rd_end (by rw [exW_len hk])]
/-- What a round's word is at first. -/
def x0 (key : List UInt8) (n j : Nat) : UInt8 := if j = 0 then rd boxL ((exE key (16 * (n - 1) + 13)).toNat : Int) ^^^ rc (n - 1) else rd boxL ((exE key (16 * (n - 1) + 12 + (j + 1) % 4)).toNat : Int)
theorem exE_first (hk : key.length = 16) {n i : Nat} (h1 : 1 ≤ n) (h2 : n ≤ 10) (hi : i < 4) : exE key (16 * n + i) = x0 key n i ^^^ exE key (16 * (n - 1) + i) := by
  rw [show 16 * n + i = 16 + (16 * (n - 1) + i) by omega, exE_word hk (by omega)]
  unfold wordB x0
  have e1 : (4 + (16 * (n - 1) + i) / 4) % 4 = 0 := by omega
  have e2 : (16 * (n - 1) + i) % 4 = i := by omega
  have e3 : 4 * ((4 + (16 * (n - 1) + i) / 4 : Nat) : Int) - 16 + (i : Int) = ((16 * (n - 1) + i : Nat) : Int) := by omega
  have e4 : 4 * ((4 + (16 * (n - 1) + i) / 4 : Nat) : Int) - 4 + ((i : Int) + 1) % 4 = ((16 * (n - 1) + 12 + (i + 1) % 4 : Nat) : Int) := by omega
  rw [if_pos e1, e2, e3, e4, exE_of hk (by omega) (by omega), exE_of hk (by omega) (by omega), show (4 + (16 * (n - 1) + i) / 4) / 4 - 1 = n - 1 by omega, UInt8.xor_comm]
  by_cases h0 : i = 0
  · subst h0; rw [if_pos rfl]
  · rw [if_neg h0, if_neg h0]
theorem exE_next (hk : key.length = 16) {n i : Nat} (h1 : 1 ≤ n) (h2 : n ≤ 10) (hi : 4 ≤ i) (hi2 : i < 16) : exE key (16 * n + i) = exE key (16 * n + i - 4) ^^^ exE key (16 * (n - 1) + i) := by
  rw [show 16 * n + i = 16 + (16 * (n - 1) + i) by omega, exE_word hk (by omega)]
  unfold wordB
  have e1 : (4 + (16 * (n - 1) + i) / 4) % 4 ≠ 0 := by omega
  have e3 : 4 * ((4 + (16 * (n - 1) + i) / 4 : Nat) : Int) - 16 + (((16 * (n - 1) + i) % 4 : Nat) : Int) = ((16 * (n - 1) + i : Nat) : Int) := by omega
  have e4 : 4 * ((4 + (16 * (n - 1) + i) / 4 : Nat) : Int) - 4 + (((16 * (n - 1) + i) % 4 : Nat) : Int) = ((16 + (16 * (n - 1) + i) - 4 : Nat) : Int) := by omega
  rw [if_neg e1, e3, e4, exE_of hk (by omega) (by omega), exE_of hk (by omega) (by omega), UInt8.xor_comm]
def wv (key : List UInt8) (n i j : Nat) : UInt8 := if i ≤ j then x0 key n j else exE key (16 * n + j + 4 * ((i - 1 - j) / 4))
theorem wv_step (hk : key.length = 16) {n i : Nat} (h1 : 1 ≤ n) (h2 : n ≤ 10) (hi : i < 16) : wv key n i (i % 4) ^^^ exE key (16 * (n - 1) + i) = exE key (16 * n + i) := by
  unfold wv
  by_cases h : i < 4
  · rw [if_pos (by omega), exE_first hk h1 h2 h, show i % 4 = i by omega]
  · rw [if_neg (by omega), exE_next hk h1 h2 (by omega) hi, show 16 * n + i % 4 + 4 * ((i - 1 - i % 4) / 4) = 16 * n + i - 4 by omega]
theorem wv_set {n i : Nat} (hi : i < 16) : ((List.range 4).map (wv key n i)).set (i % 4) (exE key (16 * n + i)) = (List.range 4).map (wv key n (i + 1)) := by
  refine List.ext_getElem (by simp) fun p q1 q2 => ?_
  have hp : p < 4 := by simpa using q2
  rw [List.getElem_set]
  simp only [List.getElem_map, List.getElem_range]
  unfold wv
  by_cases h : i % 4 = p
  · subst h
    rw [if_pos rfl, if_neg (by omega), show 16 * n + i % 4 + 4 * ((i + 1 - 1 - i % 4) / 4) = 16 * n + i by omega]
  · rw [if_neg h]
    by_cases h2 : i ≤ p
    · rw [if_pos h2, if_pos (by omega)]
    · rw [if_neg h2, if_neg (by omega), show (i + 1 - 1 - p) / 4 = (i - 1 - p) / 4 by omega]
/-- The round's key ahead. -/
def ah (key : List UInt8) (m : Nat) : List UInt8 := (List.range 16).map fun i => exE key (16 * m + i)
theorem ah_len (m : Nat) : (ah key m).length = 16 := by simp [ah]
theorem ah_rd (m i : Nat) (h : i < 16) : rd (ah key m) (i : Int) = exE key (16 * m + i) := by
  rw [rd_nat, List.getD_eq_getElem?_getD, List.getElem?_eq_getElem (by simp [ah]; exact h)]
  simp [ah]
theorem w_len (n i : Nat) : ((List.range 4).map (wv key n i)).length = 4 := by simp
theorem w_rd (n i j : Nat) (h : j < 4) : rd ((List.range 4).map (wv key n i)) (j : Int) = wv key n i j := by
  rw [rd_nat, List.getD_eq_getElem?_getD, List.getElem?_eq_getElem (by simp; exact h)]
  simp
theorem w_init (m : Nat) : (List.range 4).map (wv key (m + 1) 0) = [rd boxL ((rd (ah key m) 13).toNat : Int) ^^^ rc m, rd boxL ((rd (ah key m) 14).toNat : Int), rd boxL ((rd (ah key m) 15).toNat : Int), rd boxL ((rd (ah key m) 12).toNat : Int)] := by
  have h3 : rd (ah key m) 13 = exE key (16 * m + 13) := ah_rd m 13 (by omega)
  have h4 : rd (ah key m) 14 = exE key (16 * m + 14) := ah_rd m 14 (by omega)
  have h5 : rd (ah key m) 15 = exE key (16 * m + 15) := ah_rd m 15 (by omega)
  have h2 : rd (ah key m) 12 = exE key (16 * m + 12) := ah_rd m 12 (by omega)
  rw [h2, h3, h4, h5]
  rfl
theorem fill_part (m : Nat) (hm : m < 11) : ((fill (exE key) (List.replicate 176 0) (16 * (m + 1))).drop (16 * m)).take 16 = ah key m := by
  refine List.ext_getElem (by simp [fill, ah]; omega) fun p q1 q2 => ?_
  have hp : p < 16 := by simpa [ah] using q2
  simp only [List.getElem_take, List.getElem_drop, fill, List.getElem_map, List.getElem_range, ah]
  rw [if_pos (by omega)]
theorem keysL_len (hk : key.length = 16) : (keysL key).length = 176 := exW_len hk 160
theorem keysL_eq (hk : key.length = 16) : (List.range 176).map (exE key) = keysL key := by
  refine List.ext_getElem (by simp [keysL_len hk]) fun p q1 q2 => ?_
  simp only [List.getElem_map, List.getElem_range]
  unfold exE
  rw [rd_nat, List.getD_eq_getElem?_getD, List.getElem?_eq_getElem q2]; rfl
theorem fill_first (hk : key.length = 16) : (List.replicate 176 (0 : UInt8)).take 0 ++ key.take 16 ++ (List.replicate 176 (0 : UInt8)).drop (0 + min 16 key.length) = fill (exE key) (List.replicate 176 0) 16 := by
  refine List.ext_getElem (by simp [fill, hk]) fun p q1 q2 => ?_
  have hp : p < 176 := by simpa [fill] using q2
  simp only [fill, List.getElem_map, List.getElem_range, List.take_zero, List.nil_append]
  rw [List.getElem_append]
  by_cases h : p < 16
  · rw [dif_pos (by simp [hk]; exact h), if_pos h, exE_low hk h, rd_nat, List.getD_eq_getElem?_getD, List.getElem?_eq_getElem (by omega)]
    simp
  · have hl : (List.take 16 key).length = 16 := by rw [List.length_take, hk]; rfl
    rw [dif_neg (by omega), if_neg h, List.getElem_drop, List.getElem_replicate, List.getD_eq_getElem?_getD, List.getElem?_eq_getElem (by rw [List.length_replicate]; exact hp), List.getElem_replicate]; rfl
end Go.Proofs.Aes
end
section
set_option linter.unusedVariables false
set_option linter.unusedSimpArgs false
set_option maxHeartbeats 4000000
set_option maxRecDepth 100000
namespace Go.Proofs.Aes
open Go Go.Pv Go.Proofs
variable {Z : Nat → Go.Obj → Prop}
attribute [local irreducible] boxL mulU exE exW x0

theorem keys0 (H : ZC Z) (key : List UInt8) (hk : key.length = 16) (nl ex : Bool) : SE Try.prog Z 24 [.sl nl ex (key.map g8), .cref (boxL.map g8)] [] (ag (keysL key)) [] := by
  refine SE.data H Try.func24 rfl ?_
  repeat' first
    | (show XO _ _ _ (Oper.mk _ _ _ _ _ none :: _) _ _ _; refine X.cpB (o := 0) (fill (exE key) (List.replicate 176 0) 16) rfl rfl rfl (by simp) (fun _ => rfl) (fun _ => rfl) (fill_first hk) ?_)
    | (show XO _ _ _ (Oper.mk (some _) (Op.move _) _ _ _ none :: _) _ _ _; refine X.mv ?_)
    | (show XO _ _ _ (Oper.mk (some _) (Op.assign _) _ _ _ none :: _) _ _ _; refine X.as ?_)
    | (show XO _ _ _ (Oper.mk (some _) (Op.indexAddr _ _ _) _ _ _ none :: _) _ _ _; refine X.go rfl ?_)
    | (show XO _ _ _ (Oper.mk (some _) (_) _ _ _ none :: _) _ _ _; refine X.go rfl ?_)
    | (show XO _ _ _ [] _ _ _; refine X.nil ?_)
    | (show CW _ _ _ _ (Code.seq (Code.region _ _ false) _) _ _ _; refine W.rq ?_)
    | (show CW _ _ _ _ _ _ _ _; first | refine W.bl ?_ | refine W.sq ?_)
    | refine K.nx ?_
  refine W.lqF 2 (fun mz st => ∃ (m : Nat), st.env 0 = .sl nl ex (key.map g8) ∧ st.env 1 = .cref (boxL.map g8) ∧ st.env 4 = .ref 0 0 ∧ st.env 5 = .ref 1 0 ∧ st.env 6 = g8 (rc m) ∧ st.env 7 = .int .i64 ((m : Int) + 1) ∧ st.L = [Go.Pv.Obj.box ((List.replicate 176 (0 : UInt8)).map g8), .box ((fill (exE key) (List.replicate 176 (0 : UInt8)) (16 * (m + 1))).map g8)] ∧ (m ≤ 10) ∧ mz = 10 - m) ?_ ?_
  · refine ⟨_, 0, rfl, rfl, rfl, rfl, rfl, rfl, rfl, ?_, rfl⟩
    omega
  rintro mz env L ⟨m, e0, e1, e4, e5, e6, e7, eL, hI, hm⟩
  dsimp only at e0 e1 e4 e5 e6 e7 eL
  subst eL
  refine W.ev 0 e0 ?_
  refine W.ev 1 e1 ?_
  refine W.ev 4 e4 ?_
  refine W.ev 5 e5 ?_
  refine W.ev 6 e6 ?_
  refine W.ev 7 e7 ?_
  have hfl := fill_len (exE key) (List.replicate 176 (0 : UInt8)) (16 * (m + 1))
  rw [List.length_replicate] at hfl
  by_cases h : m = 10
  · subst h
    repeat' first
      | (show XO _ _ _ (Oper.mk _ _ _ _ _ none :: _) _ _ _; first | refine X.ldW (n := 176) rfl rfl (by simp [fill_len]) ?_ | refine X.stW (n := 176) rfl rfl rfl (by simp [fill_len]) (by simp) (one8 _) ?_)
      | (show XO _ _ _ (Oper.mk (some _) (Op.move _) _ _ _ none :: _) _ _ _; refine X.mv ?_)
      | (show XO _ _ _ (Oper.mk (some _) (_) _ _ _ none :: _) _ _ _; refine X.go rfl ?_)
      | (show XO _ _ _ [] _ _ _; refine X.nil ?_)
      | (show CW _ _ _ _ (Code.seq (Code.region _ _ false) _) _ _ _; refine W.rq ?_)
      | (show CW _ _ _ _ (Code.cond _ _ _) _ _ _; refine W.jpf (by (conv => lhs; whnf) <;> rfl) (by with_reducible rfl) (by first | omega | decide) ?_)
      | (show CW _ _ _ _ _ _ _ _; first | refine W.kr ?_ | refine W.ke ?_ | refine W.sq ?_)
      | (show KO _ _ _ _; first | refine K.sn ?_ | refine K.se ?_ | refine K.be ?_ | refine K.le ?_)
      | refine K.nx ?_
    refine K.fin (resV_cell (n := 176) rfl rfl (by simp [fill_len])) ⟨_, rfl, (frz_agg (map_data g8_data _)).trans ?_⟩
    rw [fill_all _ _ _ (by simp), List.length_replicate, keysL_eq hk]; rfl
  · have ho : (((m : Int) + 1 - 1).toNat * 16) = 16 * m := by omega
    have hal := ah_len (key := key) m
    have hbl := boxL_len
    have b2 := (rd (ah key m) 12).toNat_lt
    have b3 := (rd (ah key m) 13).toNat_lt
    have b4 := (rd (ah key m) 14).toNat_lt
    have b5 := (rd (ah key m) 15).toNat_lt
    repeat' first
      | (show XO _ _ _ (Oper.mk _ _ _ _ _ none :: _) _ _ _; first | refine X.ldQ (n := 16) (o := 16 * m) (ah key m) (by rw [← ho]; rfl) rfl (by rw [fill_len, List.length_replicate]; omega) (fill_part m (by omega)) ?_ | refine X.stW (n := 16) rfl rfl rfl (by simp [ah_len]) (by simp) (one8 _) ?_ | refine X.iaR (n := 11) (sz := 16) rfl rfl (by omega) ?_)
      | (show XO _ _ _ (Oper.mk (some _) (Op.move _) _ _ _ none :: _) _ _ _; refine X.mv ?_)
      | (show XO _ _ _ (Oper.mk (some _) (Op.binOp BinOp.sub _ _ _ _) _ _ _ none :: _) _ _ _; refine X.subI rfl rfl (by omega) ?_)
      | (show XO _ _ _ (Oper.mk (some _) (_) _ _ _ none :: _) _ _ _; refine X.go rfl ?_)
      | (show XO _ _ _ (Oper.mk none _ _ _ _ none :: _) _ _ _; refine X.st rfl ?_)
      | (show XO _ _ _ [] _ _ _; refine X.nil ?_)
      | (show AO _ _ _ (Oper.mk _ _ _ _ _ none :: _) _ _ _; first | refine A.iaR1 (n := 16) rfl rfl (by omega) ?_ | refine A.ldR (g := g8) rfl rfl (by omega) ?_ | refine A.iaC1 (n := 256) rfl rfl (by omega) (by omega) ?_ | refine A.ldC rfl (by omega) ?_ | refine A.xor8 rfl rfl ?_)
      | (show AO _ _ _ (Oper.mk (some _) (Op.move _) _ _ _ none :: _) _ _ _; refine A.mv ?_)
      | (show AO _ _ _ (Oper.mk (some _) (_) _ _ _ none :: _) _ _ _; refine A.go rfl ?_)
      | (show AO _ _ _ [] _ _ _; refine A.nil ?_)
      | (show CW _ _ _ _ (Code.seq (Code.region _ _ false) _) _ _ _; refine W.rq ?_)
      | (show CW _ _ _ _ (Code.seq (Code.region _ _ true) _) _ _ _; refine W.dqP 27 rfl rfl rfl rfl rfl rfl ?_)
      | (show CW _ _ _ _ (Code.cond _ _ _) _ _ _; refine W.jpt (by (conv => lhs; whnf) <;> rfl) (by with_reducible rfl) (by first | omega | decide) ?_)
      | (show CW _ _ _ _ _ _ _ _; first | refine W.kn ?_ | refine W.bl ?_ | refine W.sq ?_)
      | (show KO _ _ _ _; refine K.sn ?_)
      | refine K.nx ?_
      | refine K.dp ?_
    refine W.lq (fun mz st => ∃ (i : Nat), st.env 0 = .sl nl ex (key.map g8) ∧ st.env 1 = .cref (boxL.map g8) ∧ st.env 4 = .ref 0 0 ∧ st.env 5 = .ref 1 0 ∧ st.env 6 = g8 (rc m) ∧ st.env 7 = .int .i64 ((m : Int) + 1) ∧ st.env 8 = .ref 2 0 ∧ st.env 9 = .ref 3 0 ∧ st.env 50 = .int .i64 i ∧ st.L = [Go.Pv.Obj.box ((List.replicate 176 (0 : UInt8)).map g8), .box ((fill (exE key) (List.replicate 176 (0 : UInt8)) (16 * (m + 1) + i)).map g8), .box ((ah key m).map g8), .box (((List.range 4).map (wv key (m + 1) i)).map g8)] ∧ (i ≤ 16) ∧ mz = 16 - i) ?_ ?_
    · refine ⟨_, 0, rfl, rfl, rfl, rfl, rfl, rfl, rfl, rfl, rfl, by rw [w_init]; rfl, ?_, rfl⟩
      omega
    rintro mz env L ⟨i, e0, e1, e4, e5, e6, e7, e8, e9, e50, eL, hi, hm⟩
    dsimp only at e0 e1 e4 e5 e6 e7 e8 e9 e50 eL
    subst eL
    refine W.ev 0 e0 ?_
    refine W.ev 1 e1 ?_
    refine W.ev 4 e4 ?_
    refine W.ev 5 e5 ?_
    refine W.ev 6 e6 ?_
    refine W.ev 7 e7 ?_
    refine W.ev 8 e8 ?_
    refine W.ev 9 e9 ?_
    refine W.ev 50 e50 ?_
    have hwl := w_len (key := key) (m + 1) i
    have hfl2 := fill_len (exE key) (List.replicate 176 (0 : UInt8)) (16 * (m + 1) + i)
    rw [List.length_replicate] at hfl2
    by_cases h16 : i = 16
    · subst h16
      repeat' first
        | (show XO _ _ _ (Oper.mk (some _) (Op.move _) _ _ _ none :: _) _ _ _; refine X.mv ?_)
        | (show XO _ _ _ (Oper.mk (some _) (Op.assign _) _ _ _ none :: _) _ _ _; refine X.as ?_)
        | (show XO _ _ _ (Oper.mk (some _) (Op.call _) _ _ _ none :: _) _ _ _; refine X.call (mul H _ 2 _) ?_)
        | (show XO _ _ _ (Oper.mk (some _) (Op.binOp BinOp.add _ _ _ _) _ _ _ none :: _) _ _ _; refine X.addI rfl rfl (by omega) ?_)
        | (show XO _ _ _ (Oper.mk (some _) (_) _ _ _ none :: _) _ _ _; refine X.go rfl ?_)
        | (show XO _ _ _ [] _ _ _; refine X.nil ?_)
        | (show CW _ _ _ _ (Code.seq (Code.region _ _ false) _) _ _ _; refine W.rq ?_)
        | (show CW _ _ _ _ (Code.region _ _ false) _ _ _; refine W.rz ?_)
        | (show CW _ _ _ _ (Code.cond _ _ _) _ _ _; refine W.jpf (by (conv => lhs; whnf) <;> rfl) (by with_reducible rfl) (by first | omega | decide) ?_)
        | (show CW _ _ _ _ _ _ _ _; first | refine W.ke ?_ | refine W.sq ?_)
        | (show KO _ _ _ _; first | refine K.sn ?_ | refine K.se ?_ | refine K.bn ?_ | refine K.be ?_ | refine K.le ?_)
        | refine K.nx ?_
        | refine K.re ?_
      have hrc : g8 (mulU (rc m) 2) = g8 (rc (m + 1)) := rfl
      refine K.fn _ ?_ [_, _] _ rfl rfl ?_ ⟨m + 1, cutv_sl (map_data g8_data _), cutv_cref (map_data g8_data _), rfl, rfl, hrc, vI (by omega), by rw [show 16 * (m + 1) + 16 = 16 * (m + 1 + 1) by omega], ?_, rfl⟩
      · omega
      · exact obs_cons (ob_box (map_data g8_data _)) (obs_cons (ob_box (map_data g8_data _)) obs_nil)
      · omega
    · have hs1 : rd ((List.range 4).map (wv key (m + 1) i)) ((i : Int) % 4) ^^^ rd (ah key m) (i : Int) = exE key (16 * (m + 1) + i) := by
        rw [show (i : Int) % 4 = ((i % 4 : Nat) : Int) by omega, w_rd _ _ _ (by omega), ah_rd m i (by omega)]
        exact wv_step hk (n := m + 1) (i := i) (by omega) (by omega) (by omega)
      have hs2 : ((List.range 4).map (wv key (m + 1) i)).set ((i : Int) % 4).toNat (exE key (16 * (m + 1) + i)) = (List.range 4).map (wv key (m + 1) (i + 1)) := by
        rw [show ((i : Int) % 4).toNat = i % 4 by omega, wv_set (by omega)]
      have hs3 : rd ((List.range 4).map (wv key (m + 1) (i + 1))) ((i : Int) % 4) = exE key (16 * (m + 1) + i) := by
        rw [show (i : Int) % 4 = ((i % 4 : Nat) : Int) by omega, w_rd _ _ _ (by omega)]
        unfold wv
        rw [if_neg (by omega), show 16 * (m + 1) + i % 4 + 4 * ((i + 1 - 1 - i % 4) / 4) = 16 * (m + 1) + i by omega]
      have hs4 : (fill (exE key) (List.replicate 176 (0 : UInt8)) (16 * (m + 1) + i)).set (((m : Int) + 1) * (16 : Nat) + i).toNat (exE key (16 * (m + 1) + i)) = fill (exE key) (List.replicate 176 0) (16 * (m + 1) + (i + 1)) := fill_set _ _ (16 * (m + 1) + i) _ _ (by omega) rfl
      have hwl2 := w_len (key := key) (m + 1) (i + 1)
      repeat' first
        | (show XO _ _ _ (Oper.mk _ _ _ _ _ none :: _) _ _ _; first | refine X.iaR1 (n := 4) rfl rfl (by omega) ?_ | refine X.iaR2 (n := 16) (o := 16) rfl rfl (by omega) (by omega) ?_ | refine X.xor8 rfl rfl ?_ | refine X.stR (exE key (16 * (m + 1) + i)) (c := (i : Int) % 4) rfl rfl (by rw [← hs1]; rfl) (by omega) ?_ (hL' := by ((try simp only [hs2, List.set_cons_zero, List.set_cons_succ]) <;> rfl)) | refine X.stR (exE key (16 * (m + 1) + i)) (c := ((m : Int) + 1) * (16 : Nat) + i) rfl rfl (by rw [← hs3]; rfl) (by omega) ?_ (hL' := by ((try simp only [hs4, List.set_cons_zero, List.set_cons_succ]) <;> rfl)))
        | (show XO _ _ _ (Oper.mk (some _) (Op.move _) _ _ _ none :: _) _ _ _; refine X.mv ?_)
        | (show XO _ _ _ (Oper.mk (some _) (Op.assign _) _ _ _ none :: _) _ _ _; refine X.as ?_)
        | (show XO _ _ _ (Oper.mk (some _) (Op.binOp BinOp.add _ _ _ _) _ _ _ none :: _) _ _ _; refine X.addI rfl rfl (by omega) ?_)
        | (show XO _ _ _ (Oper.mk (some _) (_) _ _ _ none :: _) _ _ _; refine X.go rfl ?_)
        | (show XO _ _ _ [] _ _ _; refine X.nil ?_)
        | (show AO _ _ _ (Oper.mk _ _ _ _ _ none :: _) _ _ _; first | refine A.iaR1 (n := 4) rfl rfl (by omega) ?_ | refine A.iaR1 (n := 16) rfl rfl (by omega) ?_ | refine A.iaR (n := 11) (sz := 16) rfl rfl (by omega) ?_ | refine A.ldR (g := g8) rfl rfl (by omega) ?_)
        | (show AO _ _ _ (Oper.mk (some _) (Op.move _) _ _ _ none :: _) _ _ _; refine A.mv ?_)
        | (show AO _ _ _ (Oper.mk (some _) (Op.binOp BinOp.rem _ _ _ _) _ _ _ none :: _) _ _ _; refine A.remI rfl rfl (by omega) ?_)
        | (show AO _ _ _ [] _ _ _; refine A.nil ?_)
        | (show CW _ _ _ _ (Code.seq (Code.region _ _ false) _) _ _ _; refine W.rq ?_)
        | (show CW _ _ _ _ (Code.region _ _ false) _ _ _; refine W.rz ?_)
        | (show CW _ _ _ _ (Code.seq (Code.region _ _ true) _) _ _ _; refine W.dq 7 ?_)
        | (show CW _ _ _ _ (Code.region _ _ true) _ _ _; refine W.dz 7 ?_)
        | (show CW _ _ _ _ (Code.cond _ _ _) _ _ _; refine W.jpt (by (conv => lhs; whnf) <;> rfl) (by with_reducible rfl) (by first | omega | decide) ?_)
        | (show CW _ _ _ _ _ _ _ _; first | refine W.kn ?_ | refine W.bl ?_ | refine W.sq ?_)
        | (show KO _ _ _ _; first | refine K.sn ?_ | refine K.bn ?_ | refine K.ln _ ?_ ⟨i + 1, rfl, rfl, rfl, rfl, rfl, rfl, rfl, rfl, vI (by omega), rfl, ?_, rfl⟩)
        | refine K.nx ?_
        | refine K.re ?_
        | refine K.dr ?_
      · omega
      · omega

end Go.Proofs.Aes
end
section
set_option linter.unusedVariables false
set_option linter.unusedSimpArgs false
set_option maxHeartbeats 4000000
set_option maxRecDepth 100000
namespace Go.Proofs.Aes
open Go Go.Pv Go.Proofs
variable {Z : Nat → Go.Obj → Prop}
attribute [local irreducible] boxL mulU exE exW
theorem ag_plain (l : List UInt8) : V.plain (ag l) = true := plain8 l
def blockV (key b : List UInt8) : List UInt8 × Int := if key.length = 16 ∧ b.length = 16 then (lockS (keysL key) b, 0) else ([], 1)
theorem lockS_len (K s : List UInt8) : (lockS K s).length = 16 := lockF_len K s 10
theorem keysB (H : ZC Z) (key : List UInt8) (hk : key.length = 16) (L : List Go.Pv.Obj) (id : Nat) (hL : L[id]? = some (.box (boxL.map g8))) : SE Try.prog Z 24 [gB key, .ref id 0] L (ag (keysL key)) L :=
  SE.borrow (keys0 H key hk false false) (.cons (.same (gB_data _)) (.cons (Bor.ref hL (map_data g8_data _) rfl) .nil)) (ag_plain _)
theorem lockedB (H : ZC Z) (K s : List UInt8) (hK : K.length = 176) (hs : s.length = 16) (L : List Go.Pv.Obj) (i1 i2 : Nat) (h1 : L[i1]? = some (.box (K.map g8))) (h2 : L[i2]? = some (.box (boxL.map g8))) :
    SE Try.prog Z 32 [.ref i1 0, .ref i2 0, ag s] L (ag (lockS K s)) L :=
  SE.borrow (locked0 H K s hK hs) (.cons (Bor.ref h1 (map_data g8_data _) rfl) (.cons (Bor.ref h2 (map_data g8_data _) rfl) (.cons (.same (ag_data _)) .nil))) (ag_plain _)
theorem tw {l : List V} {k : IntKind} {n : Int} {G : Gh} {r : Value} {a b : Bool} (h : VR G (.tup [.sl a b l, .int k n]) r) : VR G (.tup [.sl false false l, .int k n]) r := h.tup2 (fun r h => h.slw) (fun r h => h)
theorem block0 (H : ZC Z) (key b : List UInt8) : SE Try.prog Z 17 [gB key, gB b] [] (.tup [gB (blockV key b).1, .int .i64 (blockV key b).2]) [] := by
  by_cases hkb : key.length = 16 ∧ b.length = 16
  · have hv : blockV key b = (lockS (keysL key) b, 0) := if_pos hkb
    rw [hv]
    obtain ⟨hk, hb⟩ := hkb
    have hKL := keysL_len hk
    have hll := lockS_len (keysL key) b
    refine SE.data H Try.func17 rfl ?_
    repeat' first
      | (show XO _ _ _ (Oper.mk _ _ _ _ _ none :: _) _ _ _; first | refine X.s2a (n := 16) rfl (fun _ => rfl) (by omega) ?_ | refine X.ldZ (n := 16) rfl hb ?_ | refine X.stW (n := 176) rfl rfl rfl (by simp [hKL]) (by simp) (one8 _) ?_ | refine X.stW (n := 16) rfl rfl rfl (by simp [hll]) (by simp) (one8 _) ?_)
      | (show XO _ _ _ (Oper.mk (some _) (Op.move _) _ _ _ none :: _) _ _ _; refine X.mv ?_)
      | (show XO _ _ _ (Oper.mk (some _) (Op.assign _) _ _ _ none :: _) _ _ _; refine X.as ?_)
      | (show XO _ _ _ (Oper.mk (some _) (Op.call (Call.mk (Callee.builtin Builtin.len) _ _)) _ _ _ none :: _) _ _ _; refine X.lnS rfl ?_)
      | (show XO _ _ _ (Oper.mk (some _) (Op.call _) _ _ _ none :: _) _ _ _; first | refine X.call (boxes H _) ?_ | refine X.call (keysB H key hk _ 0 rfl) ?_ | refine X.call (lockedB H (keysL key) b hKL hb _ 1 0 rfl rfl) ?_)
      | (show XO _ _ _ (Oper.mk (some _) (_) _ _ _ none :: _) _ _ _; refine X.go rfl ?_)
      | (show XO _ _ _ (Oper.mk _ _ _ _ _ (some _) :: _) _ _ _; first | refine X.hy rfl (by (conv => lhs; whnf) <;> rfl) (by first | with_reducible rfl | with_reducible exact notT | with_reducible exact notF) ?_ | refine X.hqf rfl (by (conv => lhs; whnf) <;> rfl) (by with_reducible rfl) (by first | omega | decide) ?_)
      | (show XO _ _ _ [] _ _ _; refine X.nil ?_)
      | (show CW _ _ _ _ (Code.seq (Code.region _ _ false) _) _ _ _; refine W.rq ?_)
      | (show CW _ _ _ _ (Code.cond _ _ _) _ _ _; refine W.jqf (by (conv => lhs; whnf) <;> rfl) (by with_reducible rfl) (by first | omega | decide) ?_)
      | (show CW _ _ _ _ _ _ _ _; first | refine W.kr ?_ | refine W.kn ?_ | refine W.sq ?_)
      | (show KO _ _ _ _; refine K.sn ?_)
      | refine K.nx ?_
    refine K.fin rfl ⟨_, rfl, (frz_tup2 (frz_bsl rfl (Nat.zero_le _) (by simp [hll]) (map_data g8_data _)) rfl).trans ?_⟩
    show some (V.tup [.sl false false (((lockS (keysL key) b).map g8).drop 0 |>.take 16), _]) = _
    rw [List.drop_zero, List.take_of_length_le (by simp [hll])]; rfl
  · have hv : blockV key b = ([], 1) := if_neg hkb
    rw [hv]
    refine SE.weak (v := .tup [.sl true true [], .int .i64 1]) ?_ fun G r h => tw h
    refine SE.data H Try.func17 rfl ?_
    repeat' first
      | (show XO _ _ _ (Oper.mk (some _) (Op.move _) _ _ _ none :: _) _ _ _; refine X.mv ?_)
      | (show XO _ _ _ (Oper.mk (some _) (Op.assign _) _ _ _ none :: _) _ _ _; refine X.as ?_)
      | (show XO _ _ _ (Oper.mk (some _) (Op.call (Call.mk (Callee.builtin Builtin.len) _ _)) _ _ _ none :: _) _ _ _; refine X.lnS rfl ?_)
      | (show XO _ _ _ (Oper.mk (some _) (_) _ _ _ none :: _) _ _ _; refine X.go rfl ?_)
      | (show XO _ _ _ (Oper.mk _ _ _ _ _ (some _) :: _) _ _ _; first | refine X.hy rfl (by (conv => lhs; whnf) <;> rfl) (by first | with_reducible rfl | with_reducible exact notT | with_reducible exact notF) ?_ | refine X.hnt rfl (by (conv => lhs; whnf) <;> rfl) (by first | with_reducible rfl | with_reducible exact notT | with_reducible exact notF) ?_ | refine X.hq rfl (by (conv => lhs; whnf) <;> rfl) (by with_reducible rfl) (fun h => ?_) (fun h => ?_))
      | (show XO _ _ _ [] _ _ _; refine X.nil ?_)
      | (show CW _ _ _ _ (Code.seq (Code.region _ _ false) _) _ _ _; refine W.rq ?_)
      | (show CW _ _ _ _ (Code.cond _ _ _) _ _ _; first | refine W.jt (by (conv => lhs; whnf) <;> rfl) (by first | with_reducible rfl | with_reducible exact notT | with_reducible exact notF) ?_ | refine W.jqt (by (conv => lhs; whnf) <;> rfl) (by with_reducible rfl) (by first | omega | decide) ?_)
      | (show CW _ _ _ _ _ _ _ _; first | refine W.kr ?_ | refine W.sq ?_)
      | (show KO _ _ _ _; refine K.sr ?_)
      | refine K.nx ?_
    all_goals first | exact end_data rfl rfl rfl | exact absurd ⟨by omega, by omega⟩ hkb
theorem block (H : ZC Z) (key b : List UInt8) (L : List Go.Pv.Obj) : SE Try.prog Z 17 [gB key, gB b] L (.tup [gB (blockV key b).1, .int .i64 (blockV key b).2]) L :=
  SE.lift (block0 H key b) L (by simp [V.lts, gB_data]) (by simp [V.lt, V.lts, gB_data])
end Go.Proofs.Aes
end
section
set_option linter.unusedVariables false
set_option linter.unusedSimpArgs false
set_option maxHeartbeats 4000000
set_option maxRecDepth 100000
namespace Go.Proofs.Aes
open Go Go.Pv Go.Proofs
variable {Z : Nat → Go.Obj → Prop}
attribute [local irreducible] boxL mulU exE exW
def keysV (key : List UInt8) : List (List UInt8) × Int := if key.length = 16 then ((List.range 11).map (rk (keysL key)), 0) else ([], 1)
def gBs (l : List (List UInt8)) : V := .sl false false (l.map gB)
theorem gBs_data (l : List (List UInt8)) : V.lt 0 (gBs l) = true := map_data gB_data l

theorem keys1 (H : ZC Z) (key : List UInt8) : SE Try.prog Z 10 [gB key] [] (.tup [gBs (keysV key).1, .int .i64 (keysV key).2]) [] := by
  by_cases hk : key.length = 16
  · have hv : keysV key = ((List.range 11).map (rk (keysL key)), 0) := if_pos hk
    rw [hv]
    have hKL := keysL_len hk
    have hks := keysB H key hk
    refine SE.data H Try.func10 rfl ?_
    generalize keysL key = ks at *
    repeat' first
      | (show XO _ _ _ (Oper.mk (some _) (Op.move _) _ _ _ none :: _) _ _ _; refine X.mv ?_)
      | (show XO _ _ _ (Oper.mk (some _) (Op.assign _) _ _ _ none :: _) _ _ _; refine X.as ?_)
      | (show XO _ _ _ (Oper.mk (some _) (Op.call (Call.mk (Callee.builtin Builtin.len) _ _)) _ _ _ none :: _) _ _ _; refine X.lnS rfl ?_)
      | (show XO _ _ _ (Oper.mk (some _) (Op.call _) _ _ _ none :: _) _ _ _; first | refine X.call (boxes H _) ?_ | refine X.call (hks _ 0 rfl) ?_)
      | (show XO _ _ _ (Oper.mk (some _) (_) _ _ _ none :: _) _ _ _; refine X.go rfl ?_)
      | (show XO _ _ _ [] _ _ _; refine X.nil ?_)
      | (show CW _ _ _ _ (Code.seq (Code.region _ _ false) _) _ _ _; refine W.rq ?_)
      | (show CW _ _ _ _ (Code.cond _ _ _) _ _ _; refine W.jqf (by (conv => lhs; whnf) <;> rfl) (by with_reducible rfl) (by first | omega | decide) ?_)
      | (show CW _ _ _ _ _ _ _ _; first | refine W.kn ?_ | refine W.bl ?_ | refine W.sq ?_)
      | (show KO _ _ _ _; refine K.sn ?_)
      | refine K.nx ?_
    refine W.ghost 4 1 rfl ?_
    refine W.lqF 2 (fun mz st => ∃ (n : Nat), st.env 4 = .own 1 0 (((List.range n).map (rk ks)).map gB).length (((List.range n).map (rk ks)).map gB).length ∧ st.env 12 = ag ks ∧ st.env 13 = .int .i64 n ∧ st.L = [Go.Pv.Obj.box (boxL.map g8), .buf 1 0 (((List.range n).map (rk ks)).map gB)] ∧ (n ≤ 11) ∧ mz = 11 - n) ?_ ?_
    · refine ⟨_, 0, rfl, rfl, rfl, rfl, ?_, rfl⟩
      omega
    rintro mz env L ⟨n, e4, e12, e13, eL, hI, hm⟩
    dsimp only at e4 e12 e13 eL
    subst eL
    refine W.ev 4 e4 ?_
    refine W.ev 12 e12 ?_
    refine W.ev 13 e13 ?_
    by_cases h : n = 11
    · subst h
      repeat' first
        | (show XO _ _ _ (Oper.mk (some _) (Op.move _) _ _ _ none :: _) _ _ _; refine X.mv ?_)
        | (show XO _ _ _ (Oper.mk (some _) (Op.assign _) _ _ _ none :: _) _ _ _; refine X.as ?_)
        | (show XO _ _ _ (Oper.mk (some _) (_) _ _ _ none :: _) _ _ _; refine X.go rfl ?_)
        | (show XO _ _ _ [] _ _ _; refine X.nil ?_)
        | (show CW _ _ _ _ (Code.seq (Code.region _ _ false) _) _ _ _; refine W.rq ?_)
        | (show CW _ _ _ _ (Code.cond _ _ _) _ _ _; refine W.jpf (by (conv => lhs; whnf) <;> rfl) (by with_reducible rfl) (by first | omega | decide) ?_)
        | (show CW _ _ _ _ _ _ _ _; first | refine W.kr ?_ | refine W.ke ?_ | refine W.sq ?_)
        | (show KO _ _ _ _; first | refine K.sn ?_ | refine K.se ?_ | refine K.be ?_ | refine K.le ?_)
        | refine K.nx ?_
      refine K.fin rfl ⟨_, rfl, (frz_tup2 (frz_own rfl (Nat.zero_le _) (map_data gB_data _)) rfl).trans ?_⟩
      rfl
    · have ow : (List.range (n + 1)).map (rk ks) = (List.range n).map (rk ks) ++ [rk ks n] := by rw [List.range_succ, List.map_append]; rfl
      have hr := rk_len hKL (n := n) (by omega)
      have hrk : (ks.drop ((n : Int).toNat * 16)).take 16 = rk ks n := rfl
      repeat' first
        | (show XO _ _ _ (Oper.mk _ _ _ _ _ none :: _) _ _ _; first | refine X.ixS (n := 11) (sz := 16) rfl rfl (by omega) (by omega) ?_ | refine X.stW (n := 16) rfl rfl rfl (by rw [hrk]; simp [hr]) (by simp) (one8 _) ?_ | refine X.apF0 (g := g8) (rk ks n) rfl (elems_bslA (len := 16) rfl hr) (fun _ => rfl) (fun _ => rfl) (by omega) ?_ | refine X.ap1 (g := gB) (rk ks n) rfl rfl rfl (by rw [List.length_map, List.length_range]; omega) ?_)
        | (show XO _ _ _ (Oper.mk (some _) (Op.move _) _ _ _ none :: _) _ _ _; refine X.mv ?_)
        | (show XO _ _ _ (Oper.mk (some _) (Op.assign _) _ _ _ none :: _) _ _ _; refine X.as ?_)
        | (show XO _ _ _ (Oper.mk (some _) (Op.binOp BinOp.add _ _ _ _) _ _ _ none :: _) _ _ _; refine X.addI rfl rfl (by omega) ?_)
        | (show XO _ _ _ (Oper.mk (some _) (Op.buildSlice _ _ _) _ _ _ none :: _) _ _ _; first | refine X.bs0 ?_ | refine X.bs1 (by (conv => lhs; whnf) <;> rfl) ?_)
        | (show XO _ _ _ (Oper.mk (some _) (_) _ _ _ none :: _) _ _ _; refine X.go rfl ?_)
        | (show XO _ _ _ [] _ _ _; refine X.nil ?_)
        | (show CW _ _ _ _ (Code.seq (Code.region _ _ false) _) _ _ _; refine W.rq ?_)
        | (show CW _ _ _ _ (Code.region _ _ false) _ _ _; refine W.rz ?_)
        | (show CW _ _ _ _ (Code.cond _ _ _) _ _ _; refine W.jpt (by (conv => lhs; whnf) <;> rfl) (by with_reducible rfl) (by first | omega | decide) ?_)
        | (show CW _ _ _ _ _ _ _ _; first | refine W.kn ?_ | refine W.bl ?_ | refine W.sq ?_)
        | (show KO _ _ _ _; first | refine K.sn ?_ | refine K.bn ?_ | refine K.fn _ ?_ [_, _] _ rfl rfl (by repeat' first | exact obs_nil | refine obs_cons ?_ ?_ | exact ob_box (map_data g8_data _) | exact ob_buf (map_data gB_data _)) ⟨n + 1, by rw [ow]; rfl, cutv_data (ag_plain _), vI (by omega), by rw [ow], ?_, rfl⟩)
        | refine K.nx ?_
        | refine K.re ?_
      · omega
      · omega
  · have hv : keysV key = ([], 1) := if_neg hk
    rw [hv]
    refine SE.weak (v := .tup [.sl true true [], .int .i64 1]) ?_ fun G r h => tw h
    refine SE.data H Try.func10 rfl ?_
    repeat' first
      | (show XO _ _ _ (Oper.mk (some _) (Op.move _) _ _ _ none :: _) _ _ _; refine X.mv ?_)
      | (show XO _ _ _ (Oper.mk (some _) (Op.assign _) _ _ _ none :: _) _ _ _; refine X.as ?_)
      | (show XO _ _ _ (Oper.mk (some _) (Op.call (Call.mk (Callee.builtin Builtin.len) _ _)) _ _ _ none :: _) _ _ _; refine X.lnS rfl ?_)
      | (show XO _ _ _ (Oper.mk (some _) (_) _ _ _ none :: _) _ _ _; refine X.go rfl ?_)
      | (show XO _ _ _ [] _ _ _; refine X.nil ?_)
      | (show CW _ _ _ _ (Code.seq (Code.region _ _ false) _) _ _ _; refine W.rq ?_)
      | (show CW _ _ _ _ (Code.cond _ _ _) _ _ _; refine W.jqt (by (conv => lhs; whnf) <;> rfl) (by with_reducible rfl) (by first | omega | decide) ?_)
      | (show CW _ _ _ _ _ _ _ _; first | refine W.kr ?_ | refine W.sq ?_)
      | (show KO _ _ _ _; refine K.sr ?_)
      | refine K.nx ?_
    exact end_data rfl rfl rfl
theorem keys (H : ZC Z) (key : List UInt8) (L : List Go.Pv.Obj) : SE Try.prog Z 10 [gB key] L (.tup [gBs (keysV key).1, .int .i64 (keysV key).2]) L :=
  SE.lift (keys1 H key) L (by simp [V.lts, gB_data]) (by simp [V.lt, V.lts, gBs_data])
end Go.Proofs.Aes
end
section
set_option linter.unusedVariables false
set_option linter.unusedSimpArgs false
set_option maxHeartbeats 4000000
set_option maxRecDepth 100000
namespace Go.Proofs.Aes
open Go Go.Pv Go.Proofs
variable {Z : Nat → Go.Obj → Prop}
def numB (n w i : Nat) : UInt8 := UInt8.ofNat (n / 256 ^ (w - 1 - i))
def numL (n w : Nat) : List UInt8 := (List.range w).map (numB n w)
theorem numL_len (n w : Nat) : (numL n w).length = w := by simp [numL]
theorem shr_num (n k : Nat) (hk : k ≤ 7) : ((n : Nat) : Int).fdiv (2 ^ min (8 * (k : Int)).toNat IntKind.i64.bits) = ((n / 256 ^ k : Nat) : Int) := by
  have h1 : min (8 * (k : Int)).toNat IntKind.i64.bits = 8 * k := by
    have : (8 * (k : Int)).toNat = 8 * k := by omega
    rw [this]; exact Nat.min_eq_left (by show 8 * k ≤ 64; omega)
  have h2 : (2 : Int) ^ (8 * k) = ((256 ^ k : Nat) : Int) := by
    rw [show (256 : Nat) = 2 ^ 8 by rfl, ← Nat.pow_mul, Int.natCast_pow]; rfl
  rw [h1, h2, Int.fdiv_eq_ediv_of_nonneg _ (Int.natCast_nonneg _)]
  rfl
theorem cv_num (n k : Nat) : IntKind.u8.wrap ((n / 256 ^ k : Nat) : Int) = ((UInt8.ofNat (n / 256 ^ k)).toNat : Int) := by
  have e1 : (2 ^ IntKind.u8.bits : Int) = 256 := by decide
  have e2 : IntKind.u8.signed = false := rfl
  simp [IntKind.wrap, e1, e2]

theorem num0 (H : ZC Z) (n w : Nat) (hw : 1 ≤ w) (hw7 : w ≤ 7) (hn : n < 256 ^ w) (hn2 : n < 65536) : SE Try.prog Z 34 [.int .i64 n, .int .i64 w] [] (.tup [gB (numL n w), .int .i64 0]) [] := by
  have hs : ((n : Nat) : Int).fdiv (2 ^ min (8 * (w : Int)).toNat IntKind.i64.bits) = 0 := by
    rw [shr_num n w hw7, Nat.div_eq_of_lt hn]; rfl
  refine SE.data H Try.func34 rfl ?_
  repeat' first
    | (show XO _ _ _ (Oper.mk _ _ _ _ _ none :: _) _ _ _; first | refine X.mk (g := g8) 0 w rfl rfl (by omega) ?_ | refine X.lnN rfl ?_)
    | (show XO _ _ _ (Oper.mk (some _) (Op.move _) _ _ _ none :: _) _ _ _; refine X.mv ?_)
    | (show XO _ _ _ (Oper.mk (some _) (Op.assign _) _ _ _ none :: _) _ _ _; refine X.as ?_)
    | (show XO _ _ _ (Oper.mk (some _) (Op.binOp BinOp.mul _ _ _ _) _ _ _ none :: _) _ _ _; refine X.mulI rfl rfl (by omega) ?_)
    | (show XO _ _ _ (Oper.mk (some _) (_) _ _ _ none :: _) _ _ _; refine X.go rfl ?_)
    | (show XO _ _ _ (Oper.mk _ _ _ _ _ (some _) :: _) _ _ _; first | refine X.hy rfl (by (conv => lhs; whnf) <;> rfl) (by first | with_reducible rfl | with_reducible exact notT | with_reducible exact notF) ?_ | refine X.hpf rfl (by (conv => lhs; whnf) <;> rfl) (by with_reducible rfl) (by first | omega | decide | (rw [hs]; decide)) ?_)
    | (show XO _ _ _ [] _ _ _; refine X.nil ?_)
    | (show CW _ _ _ _ (Code.seq (Code.region _ _ false) _) _ _ _; refine W.rq ?_)
    | (show CW _ _ _ _ (Code.cond _ _ _) _ _ _; refine W.jpf (by (conv => lhs; whnf) <;> rfl) (by with_reducible rfl) (by first | omega | decide | (rw [hs]; decide)) ?_)
    | (show CW _ _ _ _ _ _ _ _; first | refine W.kn ?_ | refine W.bl ?_ | refine W.sq ?_)
    | (show KO _ _ _ _; refine K.sn ?_)
    | refine K.nx ?_
  refine W.lq (fun mz st => ∃ (i : Nat), st.env 0 = .int .i64 n ∧ st.env 1 = .int .i64 w ∧ st.env 6 = .own 0 0 w w ∧ st.env 28 = .int .i64 w ∧ st.env 29 = .int .i64 i ∧ st.L = [Go.Pv.Obj.buf 1 0 ((fill (numB n w) (List.replicate w 0) i).map g8)] ∧ (i ≤ w) ∧ mz = w - i) ?_ ?_
  · refine ⟨_, 0, rfl, rfl, rfl, rfl, rfl, by rw [fill_zero]; rfl, ?_, rfl⟩
    omega
  rintro mz env L ⟨i, e0, e1, e6, e28, e29, eL, hI, hm⟩
  dsimp only at e0 e1 e6 e28 e29 eL
  subst eL
  refine W.ev 0 e0 ?_
  refine W.ev 1 e1 ?_
  refine W.ev 6 e6 ?_
  refine W.ev 28 e28 ?_
  refine W.ev 29 e29 ?_
  have hfl := fill_len (numB n w) (List.replicate w (0 : UInt8)) i
  rw [List.length_replicate] at hfl
  by_cases h : i = w
  · subst h
    repeat' first
      | (show XO _ _ _ (Oper.mk (some _) (Op.move _) _ _ _ none :: _) _ _ _; refine X.mv ?_)
      | (show XO _ _ _ (Oper.mk (some _) (Op.assign _) _ _ _ none :: _) _ _ _; refine X.as ?_)
      | (show XO _ _ _ (Oper.mk (some _) (_) _ _ _ none :: _) _ _ _; refine X.go rfl ?_)
      | (show XO _ _ _ [] _ _ _; refine X.nil ?_)
      | (show CW _ _ _ _ (Code.seq (Code.region _ _ false) _) _ _ _; refine W.rq ?_)
      | (show CW _ _ _ _ (Code.cond _ _ _) _ _ _; refine W.jpf (by (conv => lhs; whnf) <;> rfl) (by with_reducible rfl) (by first | omega | decide) ?_)
      | (show CW _ _ _ _ _ _ _ _; first | refine W.kr ?_ | refine W.ke ?_ | refine W.sq ?_)
      | (show KO _ _ _ _; first | refine K.sn ?_ | refine K.se ?_ | refine K.be ?_ | refine K.le ?_)
      | refine K.nx ?_
    refine K.fin rfl ⟨_, rfl, (frz_tup2 (frz_ownN rfl (Nat.zero_le _) hfl (map_data g8_data _)) rfl).trans ?_⟩
    rw [fill_all _ _ _ (by simp), List.length_replicate]; rfl
  · have hk : 8 * ((w : Int) - 1 - (i : Int)) = 8 * ((w - 1 - i : Nat) : Int) := by omega
    have hv : IntKind.u8.wrap (((n : Nat) : Int).fdiv (2 ^ min (8 * ((w : Int) - 1 - (i : Int))).toNat IntKind.i64.bits)) = ((numB n w i).toNat : Int) := by
      rw [hk, shr_num n _ (by omega)]; exact cv_num n _
    repeat' first
      | (show XO _ _ _ (Oper.mk _ _ _ _ _ none :: _) _ _ _; first | refine X.iaN rfl rfl (by omega) rfl hfl ?_ | refine X.stN (numB n w i) rfl rfl (vI hv) (by omega) hfl (fun _ => rfl) ?_)
      | (show XO _ _ _ (Oper.mk (some _) (Op.move _) _ _ _ none :: _) _ _ _; refine X.mv ?_)
      | (show XO _ _ _ (Oper.mk (some _) (Op.assign _) _ _ _ none :: _) _ _ _; refine X.as ?_)
      | (show XO _ _ _ (Oper.mk (some _) (Op.binOp BinOp.add _ _ _ _) _ _ _ none :: _) _ _ _; refine X.addI rfl rfl (by omega) ?_)
      | (show XO _ _ _ (Oper.mk (some _) (Op.binOp BinOp.sub _ _ _ _) _ _ _ none :: _) _ _ _; refine X.subI rfl rfl (by omega) ?_)
      | (show XO _ _ _ (Oper.mk (some _) (Op.binOp BinOp.mul _ _ _ _) _ _ _ none :: _) _ _ _; refine X.mulI rfl rfl (by omega) ?_)
      | (show XO _ _ _ (Oper.mk (some _) (Op.convert _ _ _) _ _ _ none :: _) _ _ _; refine X.go rfl ?_)
      | (show XO _ _ _ (Oper.mk (some _) (_) _ _ _ none :: _) _ _ _; first | refine X.go rfl ?_ | refine X.shr rfl rfl (by first | omega | exact Int.natCast_nonneg _) ?_)
      | (show XO _ _ _ [] _ _ _; refine X.nil ?_)
      | (show CW _ _ _ _ (Code.seq (Code.region _ _ false) _) _ _ _; refine W.rq ?_)
      | (show CW _ _ _ _ (Code.region _ _ false) _ _ _; refine W.rz ?_)
      | (show CW _ _ _ _ (Code.cond _ _ _) _ _ _; refine W.jpt (by (conv => lhs; whnf) <;> rfl) (by with_reducible rfl) (by first | omega | decide) ?_)
      | (show CW _ _ _ _ _ _ _ _; first | refine W.kn ?_ | refine W.bl ?_ | refine W.sq ?_)
      | (show KO _ _ _ _; first | refine K.sn ?_ | refine K.bn ?_ | refine K.ln _ ?_ ⟨i + 1, rfl, rfl, rfl, rfl, vI (by omega), by rw [fill_set _ _ _ _ _ rfl rfl], ?_, rfl⟩)
      | refine K.nx ?_
      | refine K.re ?_
    · omega
    · omega
theorem num (H : ZC Z) (n w : Nat) (hw : 1 ≤ w) (hw7 : w ≤ 7) (hn : n < 256 ^ w) (hn2 : n < 65536) (L : List Go.Pv.Obj) : SE Try.prog Z 34 [.int .i64 n, .int .i64 w] L (.tup [gB (numL n w), .int .i64 0]) L :=
  SE.lift (num0 H n w hw hw7 hn hn2) L rfl (by simp [V.lt, V.lts, gB_data])
end Go.Proofs.Aes
end
section
set_option linter.unusedVariables false
set_option linter.unusedSimpArgs false
set_option maxHeartbeats 4000000
set_option maxRecDepth 100000
namespace Go.Proofs.Aes
open Go Go.Pv Go.Proofs
variable {Z : Nat → Go.Obj → Prop}
attribute [local irreducible] boxL mulU exE exW lockS numL
def streamB (ks nonce b : List UInt8) (q : Nat) : UInt8 := rd b (q : Int) ^^^ rd (lockS ks (nonce ++ numL (q / 16 + 1) 4)) ((q % 16 : Nat) : Int)
def streamL (ks nonce b : List UInt8) : List UInt8 := (List.range b.length).map (streamB ks nonce b)
def streamV (key nonce b : List UInt8) : List UInt8 × Int := if key.length = 16 ∧ nonce.length = 12 then (streamL (keysL key) nonce b, 0) else ([], 1)
theorem cp1 {nonce : List UInt8} (h : nonce.length = 12) : (List.replicate 16 (0 : UInt8)).take 0 ++ nonce.take 16 ++ (List.replicate 16 (0 : UInt8)).drop (0 + min 16 nonce.length) = nonce ++ List.replicate 4 0 := by
  rw [List.take_zero, List.nil_append, List.take_of_length_le (by omega), h]; rfl
theorem cp2 {nonce c : List UInt8} (h : nonce.length = 12) (hc : c.length = 4) : (nonce ++ List.replicate 4 (0 : UInt8)).take 12 ++ c.take 4 ++ (nonce ++ List.replicate 4 (0 : UInt8)).drop (12 + min 4 c.length) = nonce ++ c := by
  rw [List.take_append_of_le_length (by omega), List.take_of_length_le (by omega), List.take_of_length_le (by omega), hc, List.drop_of_length_le (by simp [h]), List.append_nil]

theorem stream0 (H : ZC Z) (key nonce b : List UInt8) (hb : b.length ≤ 300) : SE Try.prog Z 19 [gB key, gB nonce, gB b] [] (.tup [gB (streamV key nonce b).1, .int .i64 (streamV key nonce b).2]) [] := by
  by_cases hkn : key.length = 16 ∧ nonce.length = 12
  · have hv : streamV key nonce b = (streamL (keysL key) nonce b, 0) := if_pos hkn
    rw [hv]
    obtain ⟨hk, hn⟩ := hkn
    have hKL := keysL_len hk
    have hks := keysB H key hk
    refine SE.data H Try.func19 rfl ?_
    generalize keysL key = ks at *
    repeat' first
      | (show XO _ _ _ (Oper.mk _ _ _ _ _ none :: _) _ _ _; first | refine X.stW (n := 176) rfl rfl rfl (by simp [hKL]) (by simp) (one8 _) ?_ | refine X.mk (g := g8) 0 b.length rfl rfl (by omega) ?_)
      | (show XO _ _ _ (Oper.mk (some _) (Op.move _) _ _ _ none :: _) _ _ _; refine X.mv ?_)
      | (show XO _ _ _ (Oper.mk (some _) (Op.assign _) _ _ _ none :: _) _ _ _; refine X.as ?_)
      | (show XO _ _ _ (Oper.mk (some _) (Op.call (Call.mk (Callee.builtin Builtin.len) _ _)) _ _ _ none :: _) _ _ _; refine X.lnS rfl ?_)
      | (show XO _ _ _ (Oper.mk (some _) (Op.call _) _ _ _ none :: _) _ _ _; first | refine X.call (boxes H _) ?_ | refine X.call (hks _ 0 rfl) ?_)
      | (show XO _ _ _ (Oper.mk (some _) (_) _ _ _ none :: _) _ _ _; refine X.go rfl ?_)
      | (show XO _ _ _ (Oper.mk _ _ _ _ _ (some _) :: _) _ _ _; first | refine X.hy rfl (by (conv => lhs; whnf) <;> rfl) (by first | with_reducible rfl | with_reducible exact notT | with_reducible exact notF) ?_ | refine X.hqf rfl (by (conv => lhs; whnf) <;> rfl) (by with_reducible rfl) (by first | omega | decide) ?_)
      | (show XO _ _ _ [] _ _ _; refine X.nil ?_)
      | (show CW _ _ _ _ (Code.seq (Code.region _ _ false) _) _ _ _; refine W.rq ?_)
      | (show CW _ _ _ _ (Code.cond _ _ _) _ _ _; refine W.jqf (by (conv => lhs; whnf) <;> rfl) (by with_reducible rfl) (by first | omega | decide) ?_)
      | (show CW _ _ _ _ _ _ _ _; first | refine W.kn ?_ | refine W.bl ?_ | refine W.sq ?_)
      | (show KO _ _ _ _; refine K.sn ?_)
      | refine K.nx ?_
    refine W.lqF 3 (fun mz st => ∃ (j : Nat), st.env 1 = gB nonce ∧ st.env 2 = gB b ∧ st.env 8 = .ref 0 0 ∧ st.env 9 = .ref 1 0 ∧ st.env 10 = .own 2 0 b.length b.length ∧ st.env 11 = .int .i64 (16 * (j : Int)) ∧ st.L = [Go.Pv.Obj.box (boxL.map g8), .box (ks.map g8), .buf 1 0 ((fill (streamB ks nonce b) (List.replicate b.length 0) (min (16 * j) b.length)).map g8)] ∧ (16 * j ≤ b.length + 15) ∧ mz = b.length + 16 - 16 * j) ?_ ?_
    · refine ⟨_, 0, rfl, rfl, rfl, rfl, rfl, rfl, by rw [show min (16 * 0) b.length = 0 by omega, fill_zero]; rfl, ?_, rfl⟩
      omega
    rintro mz env L ⟨j, e1, e2, e8, e9, e10, e11, eL, hI, hm⟩
    dsimp only at e1 e2 e8 e9 e10 e11 eL
    subst eL
    refine W.ev 1 e1 ?_
    refine W.ev 2 e2 ?_
    refine W.ev 8 e8 ?_
    refine W.ev 9 e9 ?_
    refine W.ev 10 e10 ?_
    refine W.ev 11 e11 ?_
    by_cases hend : b.length ≤ 16 * j
    · have hmin : min (16 * j) b.length = b.length := by omega
      repeat' first
        | (show XO _ _ _ (Oper.mk (some _) (Op.move _) _ _ _ none :: _) _ _ _; refine X.mv ?_)
        | (show XO _ _ _ (Oper.mk (some _) (Op.assign _) _ _ _ none :: _) _ _ _; refine X.as ?_)
        | (show XO _ _ _ (Oper.mk (some _) (Op.call (Call.mk (Callee.builtin Builtin.len) _ _)) _ _ _ none :: _) _ _ _; refine X.lnS rfl ?_)
        | (show XO _ _ _ (Oper.mk (some _) (_) _ _ _ none :: _) _ _ _; refine X.go rfl ?_)
        | (show XO _ _ _ [] _ _ _; refine X.nil ?_)
        | (show CW _ _ _ _ (Code.seq (Code.region _ _ false) _) _ _ _; refine W.rq ?_)
        | (show CW _ _ _ _ (Code.cond _ _ _) _ _ _; refine W.jpf (by (conv => lhs; whnf) <;> rfl) (by with_reducible rfl) (by first | omega | decide) ?_)
        | (show CW _ _ _ _ _ _ _ _; first | refine W.kr ?_ | refine W.ke ?_ | refine W.sq ?_)
        | (show KO _ _ _ _; first | refine K.sn ?_ | refine K.se ?_ | refine K.be ?_ | refine K.le ?_)
        | refine K.nx ?_
      refine K.fin rfl ⟨_, rfl, (frz_tup2 (frz_ownN rfl (Nat.zero_le _) (by rw [fill_len, List.length_replicate]) (map_data g8_data _)) rfl).trans ?_⟩
      rw [hmin, fill_all _ _ _ (by simp), List.length_replicate]; rfl
    · have hg1 : 16 * (j + 1) ≤ b.length + 15 := by omega
      have hg2 : b.length + 16 - 16 * (j + 1) < mz := by omega
      have hnum := num H (j + 1) 4 (by omega) (by omega) (by omega) (by omega)
      rw [show ((j + 1 : Nat) : Int) = 16 * (j : Int) / 16 + 1 by omega] at hnum
      have hnl := numL_len (j + 1) 4
      have hsl : (nonce ++ numL (j + 1) 4).length = 16 := by rw [List.length_append, hn, hnl]
      have hlk := lockedB H ks (nonce ++ numL (j + 1) 4) hKL hsl
      have hll := lockS_len ks (nonce ++ numL (j + 1) 4)
      repeat' first
        | (show XO _ _ _ (Oper.mk _ _ _ _ _ none :: _) _ _ _; first | refine X.cpB (o := 0) (len := 16) (nonce ++ List.replicate 4 0) rfl rfl rfl (by simp) (fun _ => rfl) (fun _ => rfl) (cp1 hn) ?_ | refine X.cpB (o := 12) (len := 4) (nonce ++ numL (j + 1) 4) rfl rfl rfl (by simp [hn]) (fun _ => rfl) (fun _ => rfl) (cp2 hn hnl) ?_ | refine X.ldW (n := 16) rfl rfl (by simp [hn, hnl]) ?_ | refine X.stW (n := 16) rfl rfl rfl (by simp [hll]) (by simp [hn, hnl]) (one8 _) ?_)
        | (show XO _ _ _ (Oper.mk (some _) (Op.move _) _ _ _ none :: _) _ _ _; refine X.mv ?_)
        | (show XO _ _ _ (Oper.mk (some _) (Op.assign _) _ _ _ none :: _) _ _ _; refine X.as ?_)
        | (show XO _ _ _ (Oper.mk (some _) (Op.call (Call.mk (Callee.builtin Builtin.len) _ _)) _ _ _ none :: _) _ _ _; refine X.lnS rfl ?_)
        | (show XO _ _ _ (Oper.mk (some _) (Op.call _) _ _ _ none :: _) _ _ _; first | refine X.call (hnum _) ?_ | refine X.call (hlk _ 1 0 rfl rfl) ?_)
        | (show XO _ _ _ (Oper.mk (some _) (Op.binOp BinOp.add _ _ _ _) _ _ _ none :: _) _ _ _; refine X.addI rfl rfl (by omega) ?_)
        | (show XO _ _ _ (Oper.mk (some _) (Op.binOp BinOp.quo _ _ _ _) _ _ _ none :: _) _ _ _; refine X.quoI rfl rfl (by omega) ?_)
        | (show XO _ _ _ (Oper.mk (some _) (_) _ _ _ none :: _) _ _ _; refine X.go rfl ?_)
        | (show XO _ _ _ [] _ _ _; refine X.nil ?_)
        | (show CW _ _ _ _ (Code.seq (Code.region _ _ false) _) _ _ _; refine W.rq ?_)
        | (show CW _ _ _ _ (Code.cond _ _ _) _ _ _; refine W.jpt (by (conv => lhs; whnf) <;> rfl) (by with_reducible rfl) (by first | omega | decide) ?_)
        | (show CW _ _ _ _ _ _ _ _; first | refine W.kn ?_ | refine W.bl ?_ | refine W.sq ?_)
        | (show KO _ _ _ _; refine K.sn ?_)
        | refine K.nx ?_
      refine W.lq (fun mz st => ∃ (i : Nat), st.env 1 = gB nonce ∧ st.env 2 = gB b ∧ st.env 8 = .ref 0 0 ∧ st.env 9 = .ref 1 0 ∧ st.env 10 = .own 2 0 b.length b.length ∧ st.env 11 = .int .i64 (16 * (j : Int)) ∧ st.env 12 = .ref 3 0 ∧ st.env 15 = .int .i64 i ∧ st.L = [Go.Pv.Obj.box (boxL.map g8), .box (ks.map g8), .buf 1 0 ((fill (streamB ks nonce b) (List.replicate b.length 0) i).map g8), .box ((lockS ks (nonce ++ numL (j + 1) 4)).map g8)] ∧ (16 * j ≤ i ∧ i ≤ 16 * j + 16 ∧ i ≤ b.length) ∧ mz = b.length - i) ?_ ?_
      · refine ⟨_, 16 * j, rfl, rfl, rfl, rfl, rfl, rfl, rfl, vI (by omega), by rw [show min (16 * j) b.length = 16 * j by omega]; rfl, ?_, rfl⟩
        omega
      rintro mz env L ⟨i, e1, e2, e8, e9, e10, e11, e12, e15, eL, hi, hm⟩
      dsimp only at e1 e2 e8 e9 e10 e11 e12 e15 eL
      subst eL
      refine W.ev 1 e1 ?_
      refine W.ev 2 e2 ?_
      refine W.ev 8 e8 ?_
      refine W.ev 9 e9 ?_
      refine W.ev 10 e10 ?_
      refine W.ev 11 e11 ?_
      refine W.ev 12 e12 ?_
      refine W.ev 15 e15 ?_
      obtain ⟨i1, i2, i3⟩ := hi
      have hfl := fill_len (streamB ks nonce b) (List.replicate b.length (0 : UInt8)) i
      rw [List.length_replicate] at hfl
      by_cases hd : i = 16 * j + 16 ∨ i = b.length
      · have hmn : min (16 * (j + 1)) b.length = i := by omega
        repeat' first
          | (show XO _ _ _ (Oper.mk (some _) (Op.move _) _ _ _ none :: _) _ _ _; refine X.mv ?_)
          | (show XO _ _ _ (Oper.mk (some _) (Op.assign _) _ _ _ none :: _) _ _ _; refine X.as ?_)
          | (show XO _ _ _ (Oper.mk (some _) (Op.call (Call.mk (Callee.builtin Builtin.len) _ _)) _ _ _ none :: _) _ _ _; refine X.lnS rfl ?_)
          | (show XO _ _ _ (Oper.mk (some _) (Op.call (Call.mk (Callee.builtin Builtin.min) _ _)) _ _ _ none :: _) _ _ _; refine X.min2 rfl rfl ?_)
          | (show XO _ _ _ (Oper.mk (some _) (Op.binOp BinOp.add _ _ _ _) _ _ _ none :: _) _ _ _; refine X.addI rfl rfl (by omega) ?_)
          | (show XO _ _ _ (Oper.mk (some _) (_) _ _ _ none :: _) _ _ _; refine X.go rfl ?_)
          | (show XO _ _ _ [] _ _ _; refine X.nil ?_)
          | (show CW _ _ _ _ (Code.seq (Code.region _ _ false) _) _ _ _; refine W.rq ?_)
          | (show CW _ _ _ _ (Code.region _ _ false) _ _ _; refine W.rz ?_)
          | (show CW _ _ _ _ (Code.cond _ _ _) _ _ _; refine W.jpf (by (conv => lhs; whnf) <;> rfl) (by with_reducible rfl) (by first | omega | decide) ?_)
          | (show CW _ _ _ _ _ _ _ _; first | refine W.ke ?_ | refine W.sq ?_)
          | (show KO _ _ _ _; first | refine K.sn ?_ | refine K.se ?_ | refine K.bn ?_ | refine K.be ?_ | refine K.le ?_ | refine K.fn _ ?_ [_, _, _] _ rfl rfl (by repeat' first | exact obs_nil | refine obs_cons ?_ ?_ | exact ob_box (map_data g8_data _) | exact ob_buf (map_data g8_data _)) ⟨j + 1, cutv_sl (map_data g8_data _), cutv_sl (map_data g8_data _), rfl, rfl, rfl, vI (by omega), by rw [hmn], ?_, rfl⟩)
          | refine K.nx ?_
          | refine K.re ?_
        · exact hg2
        · exact hg1
      · have hval : g8 (rd b (i : Int) ^^^ rd (lockS ks (nonce ++ numL (j + 1) 4)) ((i : Int) - 16 * (j : Int))) = g8 (streamB ks nonce b i) := by
          unfold streamB
          rw [show i / 16 = j by omega, show ((i % 16 : Nat) : Int) = (i : Int) - 16 * (j : Int) by omega]
        repeat' first
          | (show XO _ _ _ (Oper.mk _ _ _ _ _ none :: _) _ _ _; first | refine X.iaN rfl rfl (by omega) rfl hfl ?_ | refine X.stN (streamB ks nonce b i) rfl rfl hval (by omega) hfl (fun _ => rfl) ?_)
          | (show XO _ _ _ (Oper.mk (some _) (Op.move _) _ _ _ none :: _) _ _ _; refine X.mv ?_)
          | (show XO _ _ _ (Oper.mk (some _) (Op.assign _) _ _ _ none :: _) _ _ _; refine X.as ?_)
          | (show XO _ _ _ (Oper.mk (some _) (Op.call (Call.mk (Callee.builtin Builtin.len) _ _)) _ _ _ none :: _) _ _ _; refine X.lnS rfl ?_)
          | (show XO _ _ _ (Oper.mk (some _) (Op.call (Call.mk (Callee.builtin Builtin.min) _ _)) _ _ _ none :: _) _ _ _; refine X.min2 rfl rfl ?_)
          | (show XO _ _ _ (Oper.mk (some _) (Op.binOp BinOp.add _ _ _ _) _ _ _ none :: _) _ _ _; refine X.addI rfl rfl (by omega) ?_)
          | (show XO _ _ _ (Oper.mk (some _) (_) _ _ _ none :: _) _ _ _; refine X.go rfl ?_)
          | (show XO _ _ _ [] _ _ _; refine X.nil ?_)
          | (show AO _ _ _ (Oper.mk _ _ _ _ _ none :: _) _ _ _; first | refine A.iaR1 (n := 16) rfl rfl (by omega) ?_ | refine A.ldR (g := g8) rfl rfl (by omega) ?_ | refine A.xor8 rfl rfl ?_)
          | (show AO _ _ _ (Oper.mk (some _) (Op.move _) _ _ _ none :: _) _ _ _; refine A.mv ?_)
          | (show AO _ _ _ (Oper.mk (some _) (Op.binOp BinOp.sub _ _ _ _) _ _ _ none :: _) _ _ _; refine A.subI rfl rfl (by omega) ?_)
          | (show AO _ _ _ (Oper.mk (some _) (Op.indexAddr _ _ _) _ _ _ none :: _) _ _ _; refine A.iaS rfl rfl (by omega) ?_)
          | (show AO _ _ _ (Oper.mk (some _) (Op.load _ _) _ _ _ none :: _) _ _ _; refine A.go rfl ?_)
          | (show AO _ _ _ [] _ _ _; refine A.nil ?_)
          | (show CW _ _ _ _ (Code.seq (Code.region _ _ false) _) _ _ _; refine W.rq ?_)
          | (show CW _ _ _ _ (Code.region _ _ false) _ _ _; refine W.rz ?_)
          | (show CW _ _ _ _ (Code.region _ _ true) _ _ _; refine W.dz 12 ?_)
          | (show CW _ _ _ _ (Code.cond _ _ _) _ _ _; refine W.jpt (by (conv => lhs; whnf) <;> rfl) (by with_reducible rfl) (by first | omega | decide) ?_)
          | (show CW _ _ _ _ _ _ _ _; first | refine W.kn ?_ | refine W.bl ?_ | refine W.sq ?_)
          | (show KO _ _ _ _; first | refine K.sn ?_ | refine K.bn ?_ | refine K.ln _ ?_ ⟨i + 1, rfl, rfl, rfl, rfl, rfl, rfl, rfl, vI (by omega), by rw [fill_set _ _ _ _ _ rfl rfl], ?_, rfl⟩)
          | refine K.nx ?_
          | refine K.re ?_
          | refine K.dr ?_
        · omega
        · omega
  · have hv : streamV key nonce b = ([], 1) := if_neg hkn
    rw [hv]
    refine SE.weak (v := .tup [.sl true true [], .int .i64 1]) ?_ fun G r h => tw h
    refine SE.data H Try.func19 rfl ?_
    repeat' first
      | (show XO _ _ _ (Oper.mk (some _) (Op.move _) _ _ _ none :: _) _ _ _; refine X.mv ?_)
      | (show XO _ _ _ (Oper.mk (some _) (Op.assign _) _ _ _ none :: _) _ _ _; refine X.as ?_)
      | (show XO _ _ _ (Oper.mk (some _) (Op.call (Call.mk (Callee.builtin Builtin.len) _ _)) _ _ _ none :: _) _ _ _; refine X.lnS rfl ?_)
      | (show XO _ _ _ (Oper.mk (some _) (_) _ _ _ none :: _) _ _ _; refine X.go rfl ?_)
      | (show XO _ _ _ (Oper.mk _ _ _ _ _ (some _) :: _) _ _ _; first | refine X.hy rfl (by (conv => lhs; whnf) <;> rfl) (by first | with_reducible rfl | with_reducible exact notT | with_reducible exact notF) ?_ | refine X.hnt rfl (by (conv => lhs; whnf) <;> rfl) (by first | with_reducible rfl | with_reducible exact notT | with_reducible exact notF) ?_ | refine X.hq rfl (by (conv => lhs; whnf) <;> rfl) (by with_reducible rfl) (fun h => ?_) (fun h => ?_))
      | (show XO _ _ _ [] _ _ _; refine X.nil ?_)
      | (show CW _ _ _ _ (Code.seq (Code.region _ _ false) _) _ _ _; refine W.rq ?_)
      | (show CW _ _ _ _ (Code.cond _ _ _) _ _ _; first | refine W.jt (by (conv => lhs; whnf) <;> rfl) (by first | with_reducible rfl | with_reducible exact notT | with_reducible exact notF) ?_ | refine W.jqt (by (conv => lhs; whnf) <;> rfl) (by with_reducible rfl) (by first | omega | decide) ?_)
      | (show CW _ _ _ _ _ _ _ _; first | refine W.kr ?_ | refine W.sq ?_)
      | (show KO _ _ _ _; refine K.sr ?_)
      | refine K.nx ?_
    all_goals first | exact end_data rfl rfl rfl | exact absurd ⟨by omega, by omega⟩ hkn
theorem stream (H : ZC Z) (key nonce b : List UInt8) (hb : b.length ≤ 300) (L : List Go.Pv.Obj) : SE Try.prog Z 19 [gB key, gB nonce, gB b] L (.tup [gB (streamV key nonce b).1, .int .i64 (streamV key nonce b).2]) L :=
  SE.lift (stream0 H key nonce b hb) L (by simp [V.lts, gB_data]) (by simp [V.lt, V.lts, gB_data])
end Go.Proofs.Aes
end
section
/- Slices that grow out of exact ones; bytes as strings. -/
set_option linter.unusedVariables false
set_option linter.unusedSimpArgs false
set_option linter.unusedSectionVars false
namespace Go.Pv
variable {P : Program} {Z : Nat → Go.Obj → Prop}
section
variable {r : Option Nat} {n : Nat} {Q : Ex → St → Prop} {env : Nat → V} {L : List Obj} {c : Code}
/-- A slice without room, seen as one that grows; what is there stays. -/
theorem W.ownify (t sz : Nat) {xs : List V} (h : env t = .sl false true xs) (hsz : ∀ x ∈ xs, x.cells.length = sz) (h0 : 0 < sz) (hK : CW P Z r n c Q (upd env t (.own L.length 0 xs.length xs.length)) (L ++ [.buf sz xs.length xs])) (htn0 : decide (t < n) = true := by kernel_rfl) : CW P Z r n c Q env L := by
  refine ⟨?_⟩
  intro N0 G a w hN hs
  by_cases htn : t < n
  · have hv := hs.tm t htn
    simp only at hv
    rw [h] at hv
    obtain ⟨B, O, A, hA, hext⟩ : ∃ B O A, a.tmps.getD t undef = .slice A xs.length xs.length ∧ ((xs = [] ∨ A = some ⟨B, O, none⟩) ∧ ∃ vs : Nat → Value, ∀ p (hp : p < (flat xs).length), G.K B (O + p) (vs p) ∧ VR G (flat xs)[p] (vs p)) := by
      generalize a.tmps.getD t undef = u at hv
      cases hv with
      | sl0 hx => exact ⟨0, 0, _, by rw [hx rfl]; rfl, .inl rfl, fun _ => undef, fun p hp => by simp [flat] at hp⟩
      | sl sz' vs hne hx hc hsz' hk hv =>
        exact ⟨_, _, _, by rw [hx rfl], .inr rfl, vs, fun p hp => ⟨hk p hp, hv p hp⟩⟩
    obtain ⟨hA2, hvs⟩ := hext
    obtain ⟨hr1, he1⟩ := hs.rel.addExt (sz := sz) (B := B) (O := O) (xs := xs) hsz hvs
    refine (hK.out N0 _ a w hN (hs.rel' hr1 fun i hi => ?_)).mono fun e a' w' ⟨st', G', h1, h2, h3⟩ => ⟨st', G', h1, h2, he1.trans h3⟩
    unfold upd
    split
    · rename_i hit; subst hit
      rw [hA]
      refine .own (loc := .ext B O sz) (Gh.addR_self _ _ _ _) (by omega) ⟨by omega, ?_⟩
      rcases hA2 with h | h
      · exact .inl (by rw [h]; rfl)
      · exact .inr (by rw [h]; simp)
    · exact (hs.tm i hi).mono he1.le
  · exact absurd (of_decide_eq_true htn0) htn
end
section
variable {ops : Array Oper} {rest : List Oper} {env : Nat → V} {L L' : List Obj} {K : St → Prop} {d : Tmp} {ty t e u : TypeId} {pos : String} {af : Array Edge} {s x : Operand} {ats : Array TypeId} {α : Type} [Inhabited α] {g : α → V} {nl ex : Bool} {l : List UInt8} {id sz m : Nat}
/-- append onto an empty slice without room: an own one. -/
theorem X.apO (l2 : List α) (hs : St.ev ⟨env, L⟩ s = .sl nl true []) (hx : elems L (St.ev ⟨env, L⟩ x) = some (l2.map g)) (hg : ∀ a, (g a).cells = [g a]) (ho : ∀ a, (g a).one = true) (hb : l2.length ≤ 1000000000)
    (hK : XO P Z ops rest (upd env d (.own L.length 0 (l2.map g).length (l2.map g).length)) L' K) (hL' : L ++ [.buf 1 0 (l2.map g)] = L' := by ((try simp only [List.cons_append, List.nil_append]) <;> rfl))
    (ht : ats[0]? = some t := by rfl) (hu : ats[1]? = some u := by rfl) (hd : (match P.underlying u with | some (.slice _) => true | some .string => true | _ => false) = true := by rfl)
    (hte : P.underlying t = some (.slice e) := by rfl) (hsz : szT P e = some 1 := by rfl) {z : V} (hz : zeroV P e = some z := by rfl) (hzc : z.cells.length = 1 := by rfl) (hbt : byT P e ≤ 1000 := by decide +kernel) :
    XO P Z ops (⟨some d, .call ⟨.builtin .append, #[s, x], ats⟩, ty, pos, af, none⟩ :: rest) env L K := by
  subst hL'
  have h := pop_app_sl (P := P) (env := env) (L := L) (ats := ats) (x := x) (s := s) (sz := 1) (xs := []) ht hu hd hte hsz hz hzc (by decide) hs (by simp) hx (by simp [hg, ho]) (by
    simp only [List.length_map, List.length_nil, Nat.zero_add]
    have : l2.length * byT P e ≤ 1000000000 * 1000 := Nat.mul_le_mul hb hbt
    omega) (by simp only [List.length_map, List.length_nil]; omega)
  simp only [List.length_nil, Nat.zero_add, List.nil_append] at h
  exact X.go0 h hK
theorem X.apON (n : Nat) (l2 : List α) (hn : l2.length = n) (hs : St.ev ⟨env, L⟩ s = .sl nl true []) (hx : elems L (St.ev ⟨env, L⟩ x) = some (l2.map g)) (hg : ∀ a, (g a).cells = [g a]) (ho : ∀ a, (g a).one = true) (hb : n ≤ 1000000000)
    (hK : XO P Z ops rest (upd env d (.own L.length 0 n n)) L' K) (hL' : L ++ [.buf 1 0 (l2.map g)] = L' := by ((try simp only [List.cons_append, List.nil_append]) <;> rfl))
    (ht : ats[0]? = some t := by rfl) (hu : ats[1]? = some u := by rfl) (hd : (match P.underlying u with | some (.slice _) => true | some .string => true | _ => false) = true := by rfl)
    (hte : P.underlying t = some (.slice e) := by rfl) (hsz : szT P e = some 1 := by rfl) {z : V} (hz : zeroV P e = some z := by rfl) (hzc : z.cells.length = 1 := by rfl) (hbt : byT P e ≤ 1000 := by decide +kernel) :
    XO P Z ops (⟨some d, .call ⟨.builtin .append, #[s, x], ats⟩, ty, pos, af, none⟩ :: rest) env L K :=
  X.apO l2 hs hx hg ho (by omega) (by rw [show (l2.map g).length = n by simp [hn]]; exact hK) hL' ht hu hd hte hsz hz hzc hbt
theorem elems_ownN {n m : Nat} {l2 : List α} (hL : L[id]? = some (.buf sz m (l2.map g))) (hn : l2.length = n) : elems L (.own id 0 n n) = some (l2.map g) := by
  have := elems_own (g := g) (l := l2) hL
  rwa [show (l2.map g).length = n by simp [hn]] at this
/-- More elements onto an own slice, which is frozen then. -/
theorem X.apLF (l l2 : List α) (hs : St.ev ⟨env, L⟩ s = .own id 0 (l.map g).length (l.map g).length) (hL : L[id]? = some (.buf 1 m (l.map g))) (hx : elems L (St.ev ⟨env, L⟩ x) = some (l2.map g)) (hg : ∀ a, (g a).cells = [g a]) (ho : ∀ a, (g a).one = true) (hb : l.length + l2.length ≤ 1000000000)
    (hK : XO P Z ops rest (upd env d (.sl false false ((l ++ l2).map g))) L' K) (hL' : L.set id (.buf 1 (l ++ l2).length ((l ++ l2).map g)) = L' := by ((try simp only [List.set_cons_zero, List.set_cons_succ, List.cons_append, List.nil_append]) <;> rfl))
    (ht : ats[0]? = some t := by rfl) (hu : ats[1]? = some u := by rfl) (hd : (match P.underlying u with | some (.slice _) => true | some .string => true | _ => false) = true := by rfl)
    (hte : P.underlying t = some (.slice e) := by rfl) (hsz : szT P e = some 1 := by rfl) {z : V} (hz : zeroV P e = some z := by rfl) (hzc : z.cells.length = 1 := by rfl) (hbt : byT P e ≤ 1000 := by decide +kernel) :
    XO P Z ops (⟨some d, .call ⟨.builtin .append, #[s, x], ats⟩, ty, pos, af, none⟩ :: rest) env L K := by
  subst hL'
  have h := pop_app_own (P := P) (env := env) (L := L) (ats := ats) (x := x) (s := s) ht hu hd hte hsz hz hzc (by decide) hs hL hx (by simp [hg, ho]) (by
    simp only [List.length_map]
    have : (l.length + l2.length) * byT P e ≤ 1000000000 * 1000 := Nat.mul_le_mul hb hbt
    omega) (by simp only [List.length_map]; omega)
  have hlen : (l.map g).length + (l2.map g).length = (l.map g ++ l2.map g).length := by simp
  rw [hlen] at h
  have hlt := (List.getElem?_eq_some_iff.1 hL).1
  refine X.goF (sz := 1) (m := m) h (by rw [List.getElem?_set_self hlt]) ?_
  have e1 : ((l.map g ++ l2.map g).drop 0).take (l.map g ++ l2.map g).length = (l ++ l2).map g := by
    rw [List.drop_zero, List.take_of_length_le (Nat.le_refl _), List.map_append]
  have e2 : (L.set id (Obj.buf 1 m (l.map g ++ l2.map g))).set id (.buf 1 (l.map g ++ l2.map g).length (l.map g ++ l2.map g)) = L.set id (.buf 1 (l ++ l2).length ((l ++ l2).map g)) := by
    simp
  rw [e1, e2]; exact hK
/-- A part of a slice that is read. -/
theorem pop_sl2 {l1 : List α} {lo hi : Operand} {p q : Int} {k k' : IntKind} (hx : St.ev ⟨env, L⟩ x = .sl false false (l1.map g)) (hlo : St.ev ⟨env, L⟩ lo = .int k p) (hhi : St.ev ⟨env, L⟩ hi = .int k' q) (h : 0 ≤ p ∧ p ≤ q ∧ q ≤ (l1.length : Int)) (hg : ∀ a, (g a).cells.length = sz) (hte : P.underlying t = some (.slice e)) (hsz : szT P e = some sz) :
    pop P L (St.ev ⟨env, L⟩) (.slice t x (some lo) (some hi) none) = some (.sl false false (((l1.take q.toNat).drop p.toNat).map g), L) := by
  simp only [pop, Option.map_some, Option.map_none, pslice, hte, hx, hsz, hlo, hhi]
  have h1 : (l1.map g).all (fun y => y.cells.length == sz) = true := by simp [hg]
  have h2 : (0 : Int) ≤ q := by omega
  have h3 : p.toNat ≤ q.toNat ∧ q.toNat ≤ (l1.map g).length := by simp; omega
  rw [if_pos h1]
  simp only [pbounds, toNat?, h.1, h2, if_true]
  rw [if_pos h3]
  simp [List.map_take, List.map_drop]
theorem X.sl2 {l1 : List α} {lo hi : Operand} {p q : Int} {k k' : IntKind} (hx : St.ev ⟨env, L⟩ x = .sl false false (l1.map g)) (hlo : St.ev ⟨env, L⟩ lo = .int k p) (hhi : St.ev ⟨env, L⟩ hi = .int k' q) (h : 0 ≤ p ∧ p ≤ q ∧ q ≤ (l1.length : Int)) (hg : ∀ a, (g a).cells.length = sz)
    (hK : XO P Z ops rest (upd env d (.sl false false (((l1.take q.toNat).drop p.toNat).map g))) L K) (hte : P.underlying t = some (.slice e) := by rfl) (hsz : szT P e = some sz := by rfl) :
    XO P Z ops (⟨some d, .slice t x (some lo) (some hi) none, ty, pos, af, none⟩ :: rest) env L K := X.go0 (pop_sl2 hx hlo hhi h hg hte hsz) hK
theorem A.sl2 {l1 : List α} {lo hi : Operand} {p q : Int} {k k' : IntKind} (hx : St.ev ⟨env, L⟩ x = .sl false false (l1.map g)) (hlo : St.ev ⟨env, L⟩ lo = .int k p) (hhi : St.ev ⟨env, L⟩ hi = .int k' q) (h : 0 ≤ p ∧ p ≤ q ∧ q ≤ (l1.length : Int)) (hg : ∀ a, (g a).cells.length = sz)
    (hK : AO P Z ops rest (upd env d (.sl false false (((l1.take q.toNat).drop p.toNat).map g))) L K) (hte : P.underlying t = some (.slice e) := by rfl) (hsz : szT P e = some sz := by rfl) :
    AO P Z ops (⟨some d, .slice t x (some lo) (some hi) none, ty, pos, af, none⟩ :: rest) env L K := A.go0 (pop_sl2 hx hlo hhi h hg hte hsz) hK
theorem toBytes_map : ∀ l : List UInt8, toBytes (l.map g8) = some l
  | [] => rfl
  | a :: l => by
    rw [List.map_cons]
    show (toBytes (l.map g8)).map (UInt8.ofNat ((a.toNat : Int)).toNat :: ·) = _
    rw [toBytes_map l]
    simp
theorem pop_cvS {a b : TypeId} (hx : elems L (St.ev ⟨env, L⟩ x) = some (l.map g8)) (hs : P.underlying a = some (.slice e)) (he : P.underlying e = some (.int .u8)) (hsz : szT P e = some 1) (hb : P.underlying b = some .string) (hv : ∀ s, St.ev ⟨env, L⟩ x ≠ .str s) (hi : ∀ k n, St.ev ⟨env, L⟩ x ≠ .int k n) :
    pop P L (St.ev ⟨env, L⟩) (.convert a b x) = some (.str ⟨l.toArray⟩, L) := by
  generalize hev : St.ev ⟨env, L⟩ x = v at *
  have : pconv P L a b v = some (.str ⟨l.toArray⟩) := by
    unfold pconv
    rw [hs, hb]
    cases v <;> first | (simp [he, hsz, hx, toBytes_map]; done) | exact absurd rfl (hv _) | (simp [elems] at hx)
  simp [pop, hev, this]
theorem X.cvS {a b : TypeId} (hx : St.ev ⟨env, L⟩ x = .sl nl ex (l.map g8)) (hK : XO P Z ops rest (upd env d (.str ⟨l.toArray⟩)) L K) (hs : P.underlying a = some (.slice e) := by rfl) (he : P.underlying e = some (.int .u8) := by rfl) (hsz : szT P e = some 1 := by rfl) (hb : P.underlying b = some .string := by rfl) :
    XO P Z ops (⟨some d, .convert a b x, ty, pos, af, none⟩ :: rest) env L K := X.go0 (pop_cvS (by rw [hx]; rfl) hs he hsz hb (by rw [hx]; simp) (by rw [hx]; simp)) hK
theorem A.cvS {a b : TypeId} (hx : St.ev ⟨env, L⟩ x = .sl nl ex (l.map g8)) (hK : AO P Z ops rest (upd env d (.str ⟨l.toArray⟩)) L K) (hs : P.underlying a = some (.slice e) := by rfl) (he : P.underlying e = some (.int .u8) := by rfl) (hsz : szT P e = some 1 := by rfl) (hb : P.underlying b = some .string := by rfl) :
    AO P Z ops (⟨some d, .convert a b x, ty, pos, af, none⟩ :: rest) env L K := A.go0 (pop_cvS (by rw [hx]; rfl) hs he hsz hb (by rw [hx]; simp) (by rw [hx]; simp)) hK
theorem str_eq (l l' : List UInt8) : decide ((⟨l.toArray⟩ : ByteArray) = ⟨l'.toArray⟩) = decide (l = l') := by
  by_cases h : l = l'
  · subst h; simp
  · rw [decide_eq_false h, decide_eq_false]
    intro he
    exact h (by have := congrArg (fun b : ByteArray => b.data.toList) he; simpa using this)
end
theorem frzN {L : List Obj} {id sz m n kk : Nat} {α : Type} {g : α → V} {l : List α} (hL : L[id]? = some (.buf sz m (l.map g))) (hk : kk ≤ id) (hn : l.length = n) (hl : V.lts 0 (l.map g) = true) : frz kk L (.own id 0 n n) = some (.sl false false (l.map g)) := by
  have : n = (l.map g).length := by simp [hn]
  rw [frz, this]
  · exact frz_own hL hk hl
  · simp
  · simp
end Go.Pv
end
section
set_option linter.unusedVariables false
set_option linter.unusedSimpArgs false
set_option maxHeartbeats 4000000
set_option maxRecDepth 100000
namespace Go.Proofs.Aes
open Go Go.Pv Go.Proofs
variable {Z : Nat → Go.Obj → Prop}
attribute [local irreducible] boxL mulU exE exW
theorem same (H : ZC Z) (a b : List UInt8) (L : List Go.Pv.Obj) : SE Try.prog Z 12 [gB a, gB b] L (.bool (decide (a = b))) L := by
  refine SE.data H Try.func12 rfl ?_
  repeat' first
    | (show XO _ _ _ (Oper.mk _ _ _ _ _ none :: _) _ _ _; refine X.cvS rfl ?_)
    | (show XO _ _ _ (Oper.mk (some _) (Op.move _) _ _ _ none :: _) _ _ _; refine X.mv ?_)
    | (show XO _ _ _ (Oper.mk (some _) (Op.assign _) _ _ _ none :: _) _ _ _; refine X.as ?_)
    | (show XO _ _ _ (Oper.mk (some _) (_) _ _ _ none :: _) _ _ _; refine X.go rfl ?_)
    | (show XO _ _ _ [] _ _ _; refine X.nil ?_)
    | (show CW _ _ _ _ (Code.seq (Code.region _ _ false) _) _ _ _; refine W.rq ?_)
    | (show CW _ _ _ _ _ _ _ _; refine W.kr ?_)
    | refine K.nx ?_
  exact end_data rfl rfl (vB (str_eq a b))
theorem p256 (i : Nat) : (256 : Int) * ((256 ^ i : Nat) : Int) = ((256 ^ (i + 1) : Nat) : Int) := by
  rw [Nat.pow_succ]; push_cast; omega
theorem p256_le {i : Nat} (h : i ≤ 7) : 256 ^ i ≤ 256 ^ 7 := Nat.pow_le_pow_right (by omega) h

theorem power (H : ZC Z) (w : Nat) (hw : w ≤ 7) (L : List Go.Pv.Obj) : SE Try.prog Z 35 [.int .i64 w] L (.int .i64 ((256 ^ w : Nat) : Int)) L := by
  refine SE.data H Try.func35 rfl ?_
  repeat' first
    | (show XO _ _ _ (Oper.mk (some _) (Op.assign _) _ _ _ none :: _) _ _ _; refine X.as ?_)
    | (show XO _ _ _ [] _ _ _; refine X.nil ?_)
    | (show CW _ _ _ _ (Code.seq (Code.region _ _ false) _) _ _ _; refine W.rq ?_)
    | (show CW _ _ _ _ _ _ _ _; first | refine W.bl ?_ | refine W.sq ?_)
    | refine K.nx ?_
  refine W.lq (fun mz st => ∃ (i : Nat), st.env 0 = .int .i64 w ∧ st.env 3 = .int .i64 ((256 ^ i : Nat) : Int) ∧ st.env 4 = .int .i64 i ∧ st.L = L ∧ (i ≤ w) ∧ mz = w - i) ?_ ?_
  · refine ⟨_, 0, rfl, rfl, rfl, rfl, ?_, rfl⟩
    omega
  rintro mz env L ⟨i, e0, e3, e4, eL, hI, hm⟩
  dsimp only at e0 e3 e4 eL
  subst eL
  refine W.ev 0 e0 ?_
  refine W.ev 3 e3 ?_
  refine W.ev 4 e4 ?_
  by_cases hiw : i = w
  · subst hiw
    repeat' first
      | (show XO _ _ _ (Oper.mk (some _) (Op.move _) _ _ _ none :: _) _ _ _; refine X.mv ?_)
      | (show XO _ _ _ (Oper.mk (some _) (Op.assign _) _ _ _ none :: _) _ _ _; refine X.as ?_)
      | (show XO _ _ _ (Oper.mk (some _) (_) _ _ _ none :: _) _ _ _; refine X.go rfl ?_)
      | (show XO _ _ _ [] _ _ _; refine X.nil ?_)
      | (show CW _ _ _ _ (Code.seq (Code.region _ _ false) _) _ _ _; refine W.rq ?_)
      | (show CW _ _ _ _ (Code.cond _ _ _) _ _ _; refine W.jpf (by (conv => lhs; whnf) <;> rfl) (by with_reducible rfl) (by first | omega | decide) ?_)
      | (show CW _ _ _ _ _ _ _ _; first | refine W.kr ?_ | refine W.ke ?_ | refine W.sq ?_)
      | (show KO _ _ _ _; first | refine K.sn ?_ | refine K.se ?_ | refine K.be ?_ | refine K.le ?_)
      | refine K.nx ?_
    exact end_data rfl rfl rfl
  · have hr : -9223372036854775808 ≤ (256 : Int) * ((256 ^ i : Nat) : Int) ∧ (256 : Int) * ((256 ^ i : Nat) : Int) ≤ 9223372036854775807 := by
      rw [p256]
      have := p256_le (i := i + 1) (by omega)
      have h0 : 0 ≤ ((256 ^ (i + 1) : Nat) : Int) := Int.natCast_nonneg _
      omega
    repeat' first
      | (show XO _ _ _ (Oper.mk _ _ _ _ _ none :: _) _ _ _; refine X.mulI rfl rfl hr ?_)
      | (show XO _ _ _ (Oper.mk (some _) (Op.move _) _ _ _ none :: _) _ _ _; refine X.mv ?_)
      | (show XO _ _ _ (Oper.mk (some _) (Op.assign _) _ _ _ none :: _) _ _ _; refine X.as ?_)
      | (show XO _ _ _ (Oper.mk (some _) (Op.binOp BinOp.add _ _ _ _) _ _ _ none :: _) _ _ _; refine X.addI rfl rfl (by omega) ?_)
      | (show XO _ _ _ (Oper.mk (some _) (_) _ _ _ none :: _) _ _ _; refine X.go rfl ?_)
      | (show XO _ _ _ [] _ _ _; refine X.nil ?_)
      | (show CW _ _ _ _ (Code.seq (Code.region _ _ false) _) _ _ _; refine W.rq ?_)
      | (show CW _ _ _ _ (Code.region _ _ false) _ _ _; refine W.rz ?_)
      | (show CW _ _ _ _ (Code.cond _ _ _) _ _ _; refine W.jpt (by (conv => lhs; whnf) <;> rfl) (by with_reducible rfl) (by first | omega | decide) ?_)
      | (show CW _ _ _ _ _ _ _ _; first | refine W.kn ?_ | refine W.bl ?_ | refine W.sq ?_)
      | (show KO _ _ _ _; first | refine K.sn ?_ | refine K.bn ?_ | refine K.ln _ ?_ ⟨i + 1, rfl, vI (p256 i), vI (by omega), rfl, ?_, rfl⟩)
      | refine K.nx ?_
      | refine K.re ?_
    · omega
    · omega

theorem refNum0 (H : ZC Z) (n w : Nat) (hw : 1 ≤ w) (hw7 : w ≤ 7) (hn : n < 256 ^ w) (hn2 : n < 65536) : SE Try.prog Z 21 [.int .i64 n, .int .i64 w] [] (.tup [gB (numL n w), .int .i64 0]) [] := by
  have hpw := power H w hw7
  refine SE.data H Try.func21 rfl ?_
  repeat' first
    | (show XO _ _ _ (Oper.mk (some _) (Op.move _) _ _ _ none :: _) _ _ _; refine X.mv ?_)
    | (show XO _ _ _ (Oper.mk (some _) (Op.assign _) _ _ _ none :: _) _ _ _; refine X.as ?_)
    | (show XO _ _ _ (Oper.mk (some _) (Op.call _) _ _ _ none :: _) _ _ _; refine X.call (hpw _) ?_)
    | (show XO _ _ _ (Oper.mk (some _) (Op.binOp BinOp.sub _ _ _ _) _ _ _ none :: _) _ _ _; refine X.subI rfl rfl (by omega) ?_)
    | (show XO _ _ _ (Oper.mk (some _) (_) _ _ _ none :: _) _ _ _; refine X.go rfl ?_)
    | (show XO _ _ _ (Oper.mk _ _ _ _ _ (some _) :: _) _ _ _; first | refine X.hy rfl (by (conv => lhs; whnf) <;> rfl) (by first | with_reducible rfl | with_reducible exact notT | with_reducible exact notF) ?_ | refine X.hpf rfl (by (conv => lhs; whnf) <;> rfl) (by with_reducible rfl) (by first | omega | decide) ?_)
    | (show XO _ _ _ [] _ _ _; refine X.nil ?_)
    | (show CW _ _ _ _ (Code.seq (Code.region _ _ false) _) _ _ _; refine W.rq ?_)
    | (show CW _ _ _ _ (Code.cond _ _ _) _ _ _; refine W.jpf (by (conv => lhs; whnf) <;> rfl) (by with_reducible rfl) (by first | omega | decide) ?_)
    | (show CW _ _ _ _ _ _ _ _; first | refine W.kn ?_ | refine W.bl ?_ | refine W.sq ?_)
    | (show KO _ _ _ _; refine K.sn ?_)
    | refine K.nx ?_
  refine W.ghost 6 1 rfl ?_
  refine W.lq (fun mz st => ∃ (i : Nat), st.env 0 = .int .i64 n ∧ st.env 1 = .int .i64 w ∧ st.env 6 = .own 0 0 (((List.range i).map (numB n w)).map g8).length (((List.range i).map (numB n w)).map g8).length ∧ st.env 7 = .int .i64 ((w : Int) - 1 - i) ∧ st.L = [Go.Pv.Obj.buf 1 0 (((List.range i).map (numB n w)).map g8)] ∧ (i ≤ w) ∧ mz = w - i) ?_ ?_
  · refine ⟨_, 0, rfl, rfl, rfl, vI (by omega), rfl, ?_, rfl⟩
    omega
  rintro mz env L ⟨i, e0, e1, e6, e7, eL, hI, hm⟩
  dsimp only at e0 e1 e6 e7 eL
  subst eL
  refine W.ev 0 e0 ?_
  refine W.ev 1 e1 ?_
  refine W.ev 6 e6 ?_
  refine W.ev 7 e7 ?_
  by_cases h : i = w
  · subst h
    repeat' first
      | (show XO _ _ _ (Oper.mk (some _) (Op.move _) _ _ _ none :: _) _ _ _; refine X.mv ?_)
      | (show XO _ _ _ (Oper.mk (some _) (Op.assign _) _ _ _ none :: _) _ _ _; refine X.as ?_)
      | (show XO _ _ _ (Oper.mk (some _) (_) _ _ _ none :: _) _ _ _; refine X.go rfl ?_)
      | (show XO _ _ _ [] _ _ _; refine X.nil ?_)
      | (show CW _ _ _ _ (Code.seq (Code.region _ _ false) _) _ _ _; refine W.rq ?_)
      | (show CW _ _ _ _ (Code.cond _ _ _) _ _ _; refine W.jpf (by (conv => lhs; whnf) <;> rfl) (by with_reducible rfl) (by first | omega | decide) ?_)
      | (show CW _ _ _ _ _ _ _ _; first | refine W.kr ?_ | refine W.ke ?_ | refine W.sq ?_)
      | (show KO _ _ _ _; first | refine K.sn ?_ | refine K.se ?_ | refine K.be ?_ | refine K.le ?_)
      | refine K.nx ?_
    refine K.fin rfl ⟨_, rfl, (frz_tup2 (frz_own rfl (Nat.zero_le _) (map_data g8_data _)) rfl).trans ?_⟩
    rfl
  · have hp2 := power H (w - 1 - i) (by omega)
    rw [show ((w - 1 - i : Nat) : Int) = (w : Int) - 1 - i by omega] at hp2
    have hpos : 0 < 256 ^ (w - 1 - i) := Nat.pos_of_ne_zero (by simp)
    have hcv : IntKind.u8.wrap (((n : Nat) : Int) / ((256 ^ (w - 1 - i) : Nat) : Int) % 256) = ((numB n w i).toNat : Int) := by
      have e1 : ((n : Nat) : Int) / ((256 ^ (w - 1 - i) : Nat) : Int) % 256 = ((n / 256 ^ (w - 1 - i) % 256 : Nat) : Int) := by rw [← Int.natCast_ediv]; rfl
      rw [e1, wU8 ⟨by omega, by omega⟩]
      unfold numB
      rw [UInt8.toNat_ofNat']
    have hdv : 0 ≤ ((n : Nat) : Int) / ((256 ^ (w - 1 - i) : Nat) : Int) := Int.ediv_nonneg (by omega) (by omega)
    have ow : (List.range (i + 1)).map (numB n w) = (List.range i).map (numB n w) ++ [numB n w i] := by rw [List.range_succ, List.map_append]; rfl
    repeat' first
      | (show XO _ _ _ (Oper.mk _ _ _ _ _ none :: _) _ _ _; first | refine X.go rfl ?_ (v := g8 (numB n w i)) (hv := vI hcv) | refine X.ap1 (g := g8) (numB n w i) rfl rfl rfl (by rw [List.length_map, List.length_range]; omega) ?_)
      | (show XO _ _ _ (Oper.mk (some _) (Op.move _) _ _ _ none :: _) _ _ _; refine X.mv ?_)
      | (show XO _ _ _ (Oper.mk (some _) (Op.assign _) _ _ _ none :: _) _ _ _; refine X.as ?_)
      | (show XO _ _ _ (Oper.mk (some _) (Op.call _) _ _ _ none :: _) _ _ _; refine X.call (hp2 _) ?_)
      | (show XO _ _ _ (Oper.mk (some _) (Op.binOp BinOp.sub _ _ _ _) _ _ _ none :: _) _ _ _; refine X.subI rfl rfl (by omega) ?_)
      | (show XO _ _ _ (Oper.mk (some _) (Op.binOp BinOp.quo _ _ _ _) _ _ _ none :: _) _ _ _; refine X.quoI rfl rfl (by omega) ?_)
      | (show XO _ _ _ (Oper.mk (some _) (Op.binOp BinOp.rem _ _ _ _) _ _ _ none :: _) _ _ _; refine X.remI rfl rfl (by omega) ?_)
      | (show XO _ _ _ (Oper.mk (some _) (Op.buildSlice _ _ _) _ _ _ none :: _) _ _ _; refine X.bs1 (by (conv => lhs; whnf) <;> rfl) ?_)
      | (show XO _ _ _ (Oper.mk (some _) (_) _ _ _ none :: _) _ _ _; refine X.go rfl ?_)
      | (show XO _ _ _ [] _ _ _; refine X.nil ?_)
      | (show CW _ _ _ _ (Code.seq (Code.region _ _ false) _) _ _ _; refine W.rq ?_)
      | (show CW _ _ _ _ (Code.region _ _ false) _ _ _; refine W.rz ?_)
      | (show CW _ _ _ _ (Code.cond _ _ _) _ _ _; refine W.jpt (by (conv => lhs; whnf) <;> rfl) (by with_reducible rfl) (by first | omega | decide) ?_)
      | (show CW _ _ _ _ _ _ _ _; first | refine W.kn ?_ | refine W.bl ?_ | refine W.sq ?_)
      | (show KO _ _ _ _; first | refine K.sn ?_ | refine K.bn ?_ | refine K.ln _ ?_ ⟨i + 1, rfl, rfl, by rw [ow]; rfl, vI (by omega), by rw [ow], ?_, rfl⟩)
      | refine K.nx ?_
      | refine K.re ?_
    · omega
    · omega
theorem refNum (H : ZC Z) (n w : Nat) (hw : 1 ≤ w) (hw7 : w ≤ 7) (hn : n < 256 ^ w) (hn2 : n < 65536) (L : List Go.Pv.Obj) : SE Try.prog Z 21 [.int .i64 n, .int .i64 w] L (.tup [gB (numL n w), .int .i64 0]) L :=
  SE.lift (refNum0 H n w hw hw7 hn hn2) L rfl (by simp [V.lt, V.lts, gB_data])
end Go.Proofs.Aes
end
