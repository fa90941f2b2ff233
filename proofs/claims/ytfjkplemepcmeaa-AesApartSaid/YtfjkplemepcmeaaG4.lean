import Derived.Test.YtfjkplemepcmeaaG2
import Derived.Test.YtfjkplemepcmeaaG3
set_option linter.unusedVariables false
set_option linter.unusedSimpArgs false
set_option linter.unusedSectionVars false
section
/- Aes: the powers of 3. -/
set_option maxRecDepth 100000
namespace Go.Proofs.Aes
open Go.Pv
def pw : Nat → UInt8
  | 0 => 1
  | n + 1 => mulU (pw n) 3
def pwI : Nat → UInt8 → List UInt8
  | 0, _ => []
  | n + 1, x => x :: pwI n (mulU x 3)
def pwL : List UInt8 := [1, 3, 5, 15, 17, 51, 85, 255, 26, 46, 114, 150, 161, 248, 19, 53, 95, 225, 56, 72, 216, 115, 149, 164, 247, 2, 6, 10, 30, 34, 102, 170, 229, 52, 92, 228, 55, 89, 235, 38, 106, 190, 217, 112, 144, 171, 230, 49, 83, 245, 4, 12, 20, 60, 68, 204, 79, 209, 104, 184, 211, 110, 178, 205, 76, 212, 103, 169, 224, 59, 77, 215, 98, 166, 241, 8, 24, 40, 120, 136, 131, 158, 185, 208, 107, 189, 220, 127, 129, 152, 179, 206, 73, 219, 118, 154, 181, 196, 87, 249, 16, 48, 80, 240, 11, 29, 39, 105, 187, 214, 97, 163, 254, 25, 43, 125, 135, 146, 173, 236, 47, 113, 147, 174, 233, 32, 96, 160, 251, 22, 58, 78, 210, 109, 183, 194, 93, 231, 50, 86, 250, 21, 63, 65, 195, 94, 226, 61, 71, 201, 64, 192, 91, 237, 44, 116, 156, 191, 218, 117, 159, 186, 213, 100, 172, 239, 42, 126, 130, 157, 188, 223, 122, 142, 137, 128, 155, 182, 193, 88, 232, 35, 101, 175, 234, 37, 111, 177, 200, 67, 197, 84, 252, 31, 33, 99, 165, 244, 7, 9, 27, 45, 119, 153, 176, 203, 70, 202, 69, 207, 74, 222, 121, 139, 134, 145, 168, 227, 62, 66, 198, 81, 243, 14, 18, 54, 90, 238, 41, 123, 141, 140, 143, 138, 133, 148, 167, 242, 13, 23, 57, 75, 221, 124, 132, 151, 162, 253, 28, 36, 108, 180, 199, 82, 246]
theorem pwI_eq : pwI 255 1 = pwL := by decide +kernel
theorem pwI_get : ∀ (n k i : Nat), i < n → (pwI n (pw k))[i]? = some (pw (k + i))
  | 0, _, _, h => absurd h (Nat.not_lt_zero _)
  | n + 1, k, 0, _ => rfl
  | n + 1, k, i + 1, h => by
    rw [pwI, List.getElem?_cons_succ]
    have := pwI_get n (k + 1) i (by omega)
    rw [show k + (i + 1) = k + 1 + i by omega, ← this]; rfl
theorem pw_get (i : Nat) (h : i < 255) : pwL[i]? = some (pw i) := by
  rw [← pwI_eq]
  have := pwI_get 255 0 i h
  rwa [Nat.zero_add] at this
theorem pwL_inv : ((List.range 255).all fun i => invU (pwL.getD i 0) == pwL.getD ((255 - i) % 255) 0 && pwL.getD i 0 != 0) = true := by decide +kernel
theorem pwL_all : ((List.range 256).all fun x => x == 0 || pwL.contains (UInt8.ofNat x)) = true := by decide +kernel
theorem pw_inv (i : Nat) (h : i < 255) : invU (pw i) = pw ((255 - i) % 255) ∧ pw i ≠ 0 := by
  have := List.all_eq_true.1 pwL_inv i (List.mem_range.2 h)
  rw [List.getD_eq_getElem?_getD, List.getD_eq_getElem?_getD, pw_get i h, pw_get _ (Nat.mod_lt _ (by omega))] at this
  simp only [Option.getD_some, Bool.and_eq_true, beq_iff_eq, bne_iff_ne] at this
  exact this
theorem pw_all (x : UInt8) (h : x ≠ 0) : ∃ q, q < 255 ∧ pw q = x := by
  have := List.all_eq_true.1 pwL_all x.toNat (List.mem_range.2 x.toNat_lt)
  simp only [Bool.or_eq_true, beq_iff_eq, UInt8.ofNat_toNat, List.contains_iff_mem] at this
  rcases this with h0 | hm
  · exact absurd (by rw [← UInt8.toNat_inj]; exact h0) h
  · obtain ⟨q, hq⟩ := List.getElem?_of_mem hm
    have hlt : q < 255 := by
      have := (List.getElem?_eq_some_iff.1 hq).1
      exact this
    rw [pw_get q hlt] at hq
    exact ⟨q, hlt, Option.some.inj hq⟩
end Go.Proofs.Aes
end
section
set_option linter.unusedVariables false
set_option linter.unusedSimpArgs false
set_option maxHeartbeats 4000000
set_option maxRecDepth 100000
namespace Go.Proofs.Aes
open Go Go.Pv Go.Proofs
variable {Z : Nat → Go.Obj → Prop}
attribute [local irreducible] mulU exE exW invU
theorem rd_set_ne {l : List UInt8} {i j : Nat} {a : UInt8} (h : i ≠ j) : rd (l.set i a) (j : Int) = rd l (j : Int) := by
  rw [rd_nat, rd_nat, List.getD_eq_getElem?_getD, List.getD_eq_getElem?_getD, List.getElem?_set_ne h]
theorem rd_set_eq {l : List UInt8} {i : Nat} {a : UInt8} (h : i < l.length) : rd (l.set i a) (i : Int) = a := by
  rw [rd_nat, List.getD_eq_getElem?_getD, List.getElem?_set_self h]; rfl
theorem pws_rd (n i : Nat) (h : i < n) : rd ((List.range n).map pw) (i : Int) = pw i := by
  rw [rd_nat, List.getD_eq_getElem?_getD, List.getElem?_eq_getElem (by simpa using h)]; simp
theorem box_end {o : List UInt8} (hl : o.length = 256) (h0 : rd o 0 = turnU 0) (h : ∀ q, q < 255 → rd o ((pw q).toNat : Int) = boxU (pw q)) : o = boxL := by
  refine List.ext_getElem (by rw [hl, boxL_len]) fun p q1 q2 => ?_
  have hp : p < 256 := by omega
  have hb : boxL[p] = boxU (UInt8.ofNat p) := by simp [boxL]
  refine Eq.trans ?_ hb.symm
  have hr : rd o (p : Int) = o[p] := by rw [rd_nat, List.getD_eq_getElem?_getD, List.getElem?_eq_getElem q1]; rfl
  by_cases hx : p = 0
  · subst hx
    have : o[0] = turnU 0 := by rw [← hr]; exact h0
    rw [this]
    show turnU 0 = turnU (invU 0)
    rw [inv_zero]
  · have hne : UInt8.ofNat p ≠ 0 := fun he => by
      have := congrArg UInt8.toNat he
      rw [UInt8.toNat_ofNat', Nat.mod_eq_of_lt (by omega)] at this
      exact hx this
    obtain ⟨q, hq, hqe⟩ := pw_all _ hne
    have := h q hq
    rw [hqe, UInt8.toNat_ofNat', Nat.mod_eq_of_lt (by omega), hr] at this
    exact this
theorem pw_box (i : Nat) (h : i < 255) : turnU (pw ((255 - i) % 255)) = boxU (pw i) := by
  unfold boxU; rw [(pw_inv i h).1]

theorem refBoxes0 (H : ZC Z) : SE Try.prog Z 27 [] [] (gB boxL) [] := by
  refine SE.data H Try.func27 rfl ?_
  repeat' first
    | (show XO _ _ _ (Oper.mk _ _ _ _ _ none :: _) _ _ _; first | refine X.mk (g := g8) 0 256 rfl rfl (by omega) ?_ | refine X.iaN rfl rfl (by omega) rfl (by simp) ?_ | refine X.stN (c := 0) (turnU 0) rfl rfl rfl (by simp) (by simp) (fun _ => rfl) ?_)
    | (show XO _ _ _ (Oper.mk (some _) (Op.move _) _ _ _ none :: _) _ _ _; refine X.mv ?_)
    | (show XO _ _ _ (Oper.mk (some _) (Op.assign _) _ _ _ none :: _) _ _ _; refine X.as ?_)
    | (show XO _ _ _ (Oper.mk (some _) (Op.call _) _ _ _ none :: _) _ _ _; refine X.call (refTurned H 0 _) ?_)
    | (show XO _ _ _ (Oper.mk (some _) (Op.buildSlice _ _ _) _ _ _ none :: _) _ _ _; refine X.bs1 (by (conv => lhs; whnf) <;> rfl) ?_)
    | (show XO _ _ _ [] _ _ _; refine X.nil ?_)
    | (show CW _ _ _ _ (Code.seq (Code.region _ _ false) _) _ _ _; refine W.rq ?_)
    | (show CW _ _ _ _ _ _ _ _; first | refine W.bl ?_ | refine W.sq ?_)
    | refine K.nx ?_
  refine W.ownify 2 1 rfl (by simp [V.cells]) (by decide) ?_
  refine W.lq (fun mz st => ∃ (i : Nat), st.env 1 = .own 0 0 256 256 ∧ st.env 2 = .own 1 0 (((List.range i).map pw).map g8).length (((List.range i).map pw).map g8).length ∧ st.env 3 = .int .i64 i ∧ st.L = [Go.Pv.Obj.buf 1 0 (((List.replicate 256 (0 : UInt8)).set 0 (turnU 0)).map g8), .buf 1 1 (((List.range i).map pw).map g8)] ∧ (1 ≤ i ∧ i ≤ 255) ∧ mz = 255 - i) ?_ ?_
  · refine ⟨_, 1, rfl, rfl, rfl, rfl, ?_, rfl⟩
    omega
  rintro mz env L ⟨i, e1, e2, e3, eL, hI, hm⟩
  dsimp only at e1 e2 e3 eL
  subst eL
  refine W.ev 1 e1 ?_
  refine W.ev 2 e2 ?_
  refine W.ev 3 e3 ?_
  obtain ⟨h1, h2⟩ := hI
  by_cases h : i = 255
  · subst h
    repeat' first
      | (show XO _ _ _ (Oper.mk (some _) (Op.move _) _ _ _ none :: _) _ _ _; refine X.mv ?_)
      | (show XO _ _ _ (Oper.mk (some _) (Op.assign _) _ _ _ none :: _) _ _ _; refine X.as ?_)
      | (show XO _ _ _ (Oper.mk (some _) (_) _ _ _ none :: _) _ _ _; refine X.go rfl ?_)
      | (show XO _ _ _ [] _ _ _; refine X.nil ?_)
      | (show CW _ _ _ _ (Code.seq (Code.region _ _ false) _) _ _ _; refine W.rq ?_)
      | (show CW _ _ _ _ (Code.cond _ _ _) _ _ _; refine W.jpf (by (conv => lhs; whnf) <;> rfl) (by with_reducible rfl) (by first | omega | decide) ?_)
      | (show CW _ _ _ _ _ _ _ _; first | refine W.ke ?_ | refine W.bl ?_ | refine W.sq ?_)
      | (show KO _ _ _ _; first | refine K.sn ?_ | refine K.se ?_ | refine K.be ?_ | refine K.le ?_)
      | refine K.nx ?_
    refine W.lq (fun mz st => ∃ (i : Nat) (o : List UInt8), st.env 1 = .own 0 0 256 256 ∧ st.env 2 = .own 1 0 (((List.range 255).map pw).map g8).length (((List.range 255).map pw).map g8).length ∧ st.env 4 = .int .i64 i ∧ st.L = [Go.Pv.Obj.buf 1 0 (o.map g8), .buf 1 1 (((List.range 255).map pw).map g8)] ∧ (i ≤ 255 ∧ o.length = 256 ∧ rd o 0 = turnU 0 ∧ ∀ q, q < i → rd o ((pw q).toNat : Int) = boxU (pw q)) ∧ mz = 255 - i) ?_ ?_
    · refine ⟨_, 0, (List.replicate 256 (0 : UInt8)).set 0 (turnU 0), rfl, rfl, rfl, rfl, ?_, rfl⟩
      exact ⟨by omega, by simp, rd_set_eq (by simp), fun q hq => absurd hq (Nat.not_lt_zero q)⟩
    rintro mz env L ⟨i, o, e1, e2, e4, eL, hJ, hm⟩
    dsimp only at e1 e2 e4 eL
    subst eL
    refine W.ev 1 e1 ?_
    refine W.ev 2 e2 ?_
    refine W.ev 4 e4 ?_
    obtain ⟨j1, j2, j3, j4⟩ := hJ
    by_cases hi : i = 255
    · subst hi
      repeat' first
        | (show XO _ _ _ (Oper.mk (some _) (Op.move _) _ _ _ none :: _) _ _ _; refine X.mv ?_)
        | (show XO _ _ _ (Oper.mk (some _) (Op.assign _) _ _ _ none :: _) _ _ _; refine X.as ?_)
        | (show XO _ _ _ (Oper.mk (some _) (_) _ _ _ none :: _) _ _ _; refine X.go rfl ?_)
        | (show XO _ _ _ [] _ _ _; refine X.nil ?_)
        | (show CW _ _ _ _ (Code.seq (Code.region _ _ false) _) _ _ _; refine W.rq ?_)
        | (show CW _ _ _ _ (Code.cond _ _ _) _ _ _; refine W.jpf (by (conv => lhs; whnf) <;> rfl) (by with_reducible rfl) (by first | omega | decide) ?_)
        | (show CW _ _ _ _ _ _ _ _; first | refine W.kr ?_ | refine W.ke ?_ | refine W.sq ?_)
        | (show KO _ _ _ _; first | refine K.sn ?_ | refine K.se ?_ | refine K.be ?_ | refine K.le ?_)
        | refine K.nx ?_
      refine K.fin rfl ⟨_, rfl, (frzN rfl (Nat.zero_le _) j2 (map_data g8_data _)).trans ?_⟩
      rw [box_end j2 j3 j4]; rfl
    · have hil : i < 255 := by omega
      have hp1 := pws_rd 255 i hil
      have hp2 := pws_rd 255 ((255 - i) % 255) (Nat.mod_lt _ (by omega))
      have hix : (((255 - i) % 255 : Nat) : Int) = (255 - (i : Int)) % 255 := by omega
      rw [hix] at hp2
      have hturn := refTurned H (pw ((255 - i) % 255))
      rw [pw_box i hil] at hturn
      have hlt := (pw i).toNat_lt
      have hpl : ((List.range 255).map pw).length = 255 := by simp
      have hne := (pw_inv i hil).2
      have hne0 : (pw i).toNat ≠ 0 := fun h0 => hne (by rw [← UInt8.toNat_inj]; exact h0)
      rw [← hp2] at hturn
      repeat' first
        | (show XO _ _ _ (Oper.mk _ _ _ _ _ none :: _) _ _ _; first | refine X.iaN rfl rfl (by omega) rfl j2 ?_ | refine X.stN (boxU (pw i)) rfl rfl rfl (by omega) j2 (fun _ => rfl) ?_)
        | (show XO _ _ _ (Oper.mk (some _) (Op.move _) _ _ _ none :: _) _ _ _; refine X.mv ?_)
        | (show XO _ _ _ (Oper.mk (some _) (Op.assign _) _ _ _ none :: _) _ _ _; refine X.as ?_)
        | (show XO _ _ _ (Oper.mk (some _) (Op.binOp BinOp.add _ _ _ _) _ _ _ none :: _) _ _ _; refine X.addI rfl rfl (by omega) ?_)
        | (show XO _ _ _ (Oper.mk (some _) (_) _ _ _ none :: _) _ _ _; refine X.go rfl ?_)
        | (show XO _ _ _ [] _ _ _; refine X.nil ?_)
        | (show AO _ _ _ (Oper.mk _ _ _ _ _ none :: _) _ _ _; refine A.go rfl ?_ (v := .int .i64 ((pw i).toNat : Int)) (hv := vI ((w64R (by rw [hp1]; omega)).trans (by rw [hp1]))))
        | (show AO _ _ _ (Oper.mk (some _) (Op.move _) _ _ _ none :: _) _ _ _; refine A.mv ?_)
        | (show AO _ _ _ (Oper.mk (some _) (Op.call _) _ _ _ none :: _) _ _ _; refine A.call (hturn _) ?_)
        | (show AO _ _ _ (Oper.mk (some _) (Op.binOp BinOp.sub _ _ _ _) _ _ _ none :: _) _ _ _; refine A.subI rfl rfl (by omega) ?_)
        | (show AO _ _ _ (Oper.mk (some _) (Op.binOp BinOp.rem _ _ _ _) _ _ _ none :: _) _ _ _; refine A.remI rfl rfl (by omega) ?_)
        | (show AO _ _ _ (Oper.mk (some _) (Op.indexAddr _ _ _) _ _ _ none :: _) _ _ _; refine A.iaO rfl rfl (by omega) rfl ?_)
        | (show AO _ _ _ (Oper.mk (some _) (Op.load _ _) _ _ _ none :: _) _ _ _; refine A.ldO rfl rfl (by omega) ?_)
        | (show AO _ _ _ [] _ _ _; refine A.nil ?_)
        | (show CW _ _ _ _ (Code.seq (Code.region _ _ false) _) _ _ _; refine W.rq ?_)
        | (show CW _ _ _ _ (Code.region _ _ false) _ _ _; refine W.rz ?_)
        | (show CW _ _ _ _ (Code.region _ _ true) _ _ _; refine W.dz 13 ?_)
        | (show CW _ _ _ _ (Code.cond _ _ _) _ _ _; refine W.jpt (by (conv => lhs; whnf) <;> rfl) (by with_reducible rfl) (by first | omega | decide) ?_)
        | (show CW _ _ _ _ _ _ _ _; first | refine W.kn ?_ | refine W.bl ?_ | refine W.sq ?_)
        | (show KO _ _ _ _; first | refine K.sn ?_ | refine K.bn ?_ | refine K.ln _ ?_ ⟨i + 1, _, rfl, rfl, vI (by omega), rfl, ?_, rfl⟩)
        | refine K.nx ?_
        | refine K.re ?_
        | refine K.dr ?_
      · omega
      · rw [show ((pw i).toNat : Int).toNat = (pw i).toNat by omega]
        refine ⟨by omega, by simp [j2], ?_, fun q hq => ?_⟩
        · have := rd_set_ne (l := o) (a := boxU (pw i)) (i := (pw i).toNat) (j := 0) hne0
          exact this.trans j3
        · by_cases hqe : (pw i).toNat = (pw q).toNat
          · rw [← hqe, rd_set_eq (by omega)]
            have : pw i = pw q := UInt8.toNat_inj.1 hqe
            rw [this]
          · rw [rd_set_ne hqe]
            exact j4 q (by
              have : q ≠ i := fun e => hqe (by rw [e])
              omega)
  · have hpr := pws_rd i (i - 1) (by omega)
    rw [show ((i - 1 : Nat) : Int) = (i : Int) - 1 by omega] at hpr
    have hpw : mulU (pw (i - 1)) 3 = pw i := by
      obtain ⟨k, rfl⟩ : ∃ k, i = k + 1 := ⟨i - 1, by omega⟩
      rfl
    have ow : (List.range (i + 1)).map pw = (List.range i).map pw ++ [pw i] := by rw [List.range_succ, List.map_append]; rfl
    have hmul := refMul H (pw (i - 1)) 3
    rw [hpw, ← hpr] at hmul
    have hpl : ((List.range i).map pw).length = i := by simp
    repeat' first
      | (show XO _ _ _ (Oper.mk _ _ _ _ _ none :: _) _ _ _; refine X.ap1 (g := g8) (pw i) rfl rfl rfl (by omega) ?_)
      | (show XO _ _ _ (Oper.mk (some _) (Op.move _) _ _ _ none :: _) _ _ _; refine X.mv ?_)
      | (show XO _ _ _ (Oper.mk (some _) (Op.assign _) _ _ _ none :: _) _ _ _; refine X.as ?_)
      | (show XO _ _ _ (Oper.mk (some _) (Op.call _) _ _ _ none :: _) _ _ _; refine X.call (hmul _) ?_)
      | (show XO _ _ _ (Oper.mk (some _) (Op.binOp BinOp.add _ _ _ _) _ _ _ none :: _) _ _ _; refine X.addI rfl rfl (by omega) ?_)
      | (show XO _ _ _ (Oper.mk (some _) (Op.binOp BinOp.sub _ _ _ _) _ _ _ none :: _) _ _ _; refine X.subI rfl rfl (by omega) ?_)
      | (show XO _ _ _ (Oper.mk (some _) (Op.buildSlice _ _ _) _ _ _ none :: _) _ _ _; refine X.bs1 (by (conv => lhs; whnf) <;> rfl) ?_)
      | (show XO _ _ _ (Oper.mk (some _) (Op.indexAddr _ _ _) _ _ _ none :: _) _ _ _; refine X.iaO rfl rfl (by omega) rfl ?_)
      | (show XO _ _ _ (Oper.mk (some _) (Op.load _ _) _ _ _ none :: _) _ _ _; refine X.ldO rfl rfl (by omega) ?_)
      | (show XO _ _ _ (Oper.mk (some _) (_) _ _ _ none :: _) _ _ _; refine X.go rfl ?_)
      | (show XO _ _ _ [] _ _ _; refine X.nil ?_)
      | (show CW _ _ _ _ (Code.seq (Code.region _ _ false) _) _ _ _; refine W.rq ?_)
      | (show CW _ _ _ _ (Code.region _ _ false) _ _ _; refine W.rz ?_)
      | (show CW _ _ _ _ (Code.cond _ _ _) _ _ _; refine W.jpt (by (conv => lhs; whnf) <;> rfl) (by with_reducible rfl) (by first | omega | decide) ?_)
      | (show CW _ _ _ _ _ _ _ _; first | refine W.kn ?_ | refine W.bl ?_ | refine W.sq ?_)
      | (show KO _ _ _ _; first | refine K.sn ?_ | refine K.bn ?_ | refine K.ln _ ?_ ⟨i + 1, rfl, by rw [ow]; rfl, vI (by omega), by rw [ow], ?_, rfl⟩)
      | refine K.nx ?_
      | refine K.re ?_
    · omega
    · omega
end Go.Proofs.Aes
end
section
set_option linter.unusedVariables false
set_option linter.unusedSimpArgs false
set_option maxHeartbeats 4000000
set_option maxRecDepth 100000
namespace Go.Proofs.Aes
open Go Go.Pv Go.Proofs
variable {Z : Nat → Go.Obj → Prop}
attribute [local irreducible] mulU invU boxL
theorem refBoxes (H : ZC Z) (L : List Go.Pv.Obj) : SE Try.prog Z 27 [] L (gB boxL) L := SE.lift (refBoxes0 H) L rfl (gB_data _)
theorem word_at (w : List UInt8) (m k : Nat) (hk : k < 4) : wordB w (4 + (4 * m + k) / 4) ((4 * m + k) % 4) = rd w (4 * ((m : Int) + 4) - 16 + k) ^^^ (if m % 4 = 0 then (if k = 0 then rd boxL ((rd w (4 * ((m : Int) + 4) - 4 + ((k : Int) + 1) % 4)).toNat : Int) ^^^ rc (m / 4) else rd boxL ((rd w (4 * ((m : Int) + 4) - 4 + ((k : Int) + 1) % 4)).toNat : Int)) else rd w (4 * ((m : Int) + 4) - 4 + k)) := by
  have e1 : 4 + (4 * m + k) / 4 = m + 4 := by omega
  have e2 : (4 * m + k) % 4 = k := by omega
  have e3 : (m + 4) / 4 - 1 = m / 4 := by omega
  have e4 : (((m + 4 : Nat)) : Int) = (m : Int) + 4 := by omega
  unfold wordB
  rw [e1, e2, e3, e4]
  by_cases h : m % 4 = 0
  · rw [if_pos h, if_pos (by omega)]
  · rw [if_neg h, if_neg (by omega)]
theorem frzO {L : List Go.Pv.Obj} {id sz m kk : Nat} {α : Type} {g : α → V} {l : List α} (hL : L[id]? = some (.buf sz m (l.map g))) (hk : kk ≤ id) (hl : V.lts 0 (l.map g) = true) : frz kk L (.own id 0 (l.map g).length (l.map g).length) = some (.sl false false (l.map g)) := by
  have := frzN (n := (l.map g).length) hL hk (by simp) hl
  exact this

theorem refKeys0 (H : ZC Z) (key : List UInt8) (hk : key.length = 16) : SE Try.prog Z 26 [gB key, gB boxL] [] (gB (keysL key)) [] := by
  refine SE.data H Try.func26 rfl ?_
  repeat' first
    | (show XO _ _ _ (Oper.mk _ _ _ _ _ none :: _) _ _ _; refine X.apO (g := g8) key rfl rfl (fun _ => rfl) (fun _ => rfl) (by omega) ?_)
    | (show XO _ _ _ (Oper.mk (some _) (Op.move _) _ _ _ none :: _) _ _ _; refine X.mv ?_)
    | (show XO _ _ _ (Oper.mk (some _) (Op.assign _) _ _ _ none :: _) _ _ _; refine X.as ?_)
    | (show XO _ _ _ (Oper.mk (some _) (Op.buildSlice _ _ _) _ _ _ none :: _) _ _ _; refine X.bs0 ?_)
    | (show XO _ _ _ [] _ _ _; refine X.nil ?_)
    | (show CW _ _ _ _ (Code.seq (Code.region _ _ false) _) _ _ _; refine W.rq ?_)
    | (show CW _ _ _ _ _ _ _ _; first | refine W.bl ?_ | refine W.sq ?_)
    | refine K.nx ?_
  refine W.lq (fun mz st => ∃ (m : Nat), st.env 0 = gB key ∧ st.env 1 = gB boxL ∧ st.env 5 = .own 0 0 ((exW key (4 * m)).map g8).length ((exW key (4 * m)).map g8).length ∧ st.env 6 = g8 (rc ((m + 3) / 4)) ∧ st.env 7 = .int .i64 ((m : Int) + 4) ∧ st.L = [Go.Pv.Obj.buf 1 0 ((exW key (4 * m)).map g8)] ∧ (m ≤ 40) ∧ mz = 40 - m) ?_ ?_
  · refine ⟨_, 0, rfl, rfl, rfl, rfl, rfl, rfl, ?_, rfl⟩
    omega
  rintro mz env L ⟨m, e0, e1, e5, e6, e7, eL, hI, hm⟩
  dsimp only at e0 e1 e5 e6 e7 eL
  subst eL
  refine W.ev 0 e0 ?_
  refine W.ev 1 e1 ?_
  refine W.ev 5 e5 ?_
  refine W.ev 6 e6 ?_
  refine W.ev 7 e7 ?_
  by_cases h : m = 40
  · subst h
    repeat' first
      | (show XO _ _ _ (Oper.mk (some _) (Op.move _) _ _ _ none :: _) _ _ _; refine X.mv ?_)
      | (show XO _ _ _ (Oper.mk (some _) (Op.assign _) _ _ _ none :: _) _ _ _; refine X.as ?_)
      | (show XO _ _ _ (Oper.mk (some _) (_) _ _ _ none :: _) _ _ _; refine X.go rfl ?_)
      | (show XO _ _ _ [] _ _ _; refine X.nil ?_)
      | (show CW _ _ _ _ (Code.seq (Code.region _ _ false) _) _ _ _; refine W.rq ?_)
      | (show CW _ _ _ _ (Code.cond _ _ _) _ _ _; refine W.jpf (by (conv => lhs; whnf) <;> rfl) (by with_reducible rfl) (by first | omega | decide) ?_)
      | (show CW _ _ _ _ _ _ _ _; first | refine W.kr ?_ | refine W.ke ?_ | refine W.sq ?_)
      | (show KO _ _ _ _; first | refine K.sn ?_ | refine K.se ?_ | refine K.be ?_ | refine K.le ?_)
      | refine K.nx ?_
    exact K.fin rfl ⟨_, rfl, frzO rfl (Nat.zero_le _) (map_data g8_data _)⟩
  · have hg2 : 40 - (m + 1) < mz := by omega
    repeat' first
      | (show XO _ _ _ (Oper.mk (some _) (Op.move _) _ _ _ none :: _) _ _ _; refine X.mv ?_)
      | (show XO _ _ _ (Oper.mk (some _) (Op.assign _) _ _ _ none :: _) _ _ _; refine X.as ?_)
      | (show XO _ _ _ (Oper.mk (some _) (_) _ _ _ none :: _) _ _ _; refine X.go rfl ?_)
      | (show XO _ _ _ [] _ _ _; refine X.nil ?_)
      | (show CW _ _ _ _ (Code.seq (Code.region _ _ false) _) _ _ _; refine W.rq ?_)
      | (show CW _ _ _ _ (Code.cond _ _ _) _ _ _; refine W.jpt (by (conv => lhs; whnf) <;> rfl) (by with_reducible rfl) (by first | omega | decide) ?_)
      | (show CW _ _ _ _ _ _ _ _; first | refine W.kn ?_ | refine W.bl ?_ | refine W.sq ?_)
      | (show KO _ _ _ _; refine K.sn ?_)
      | refine K.nx ?_
    refine W.lq (fun mz st => ∃ (k : Nat), st.env 0 = gB key ∧ st.env 1 = gB boxL ∧ st.env 5 = .own 0 0 ((exW key (4 * m + k)).map g8).length ((exW key (4 * m + k)).map g8).length ∧ st.env 6 = g8 (rc ((m + 3) / 4)) ∧ st.env 7 = .int .i64 ((m : Int) + 4) ∧ st.env 8 = .int .i64 k ∧ st.L = [Go.Pv.Obj.buf 1 0 ((exW key (4 * m + k)).map g8)] ∧ (k ≤ 4) ∧ mz = 4 - k) ?_ ?_
    · refine ⟨_, 0, rfl, rfl, rfl, rfl, rfl, rfl, rfl, ?_, rfl⟩
      omega
    rintro mz env L ⟨k, e0, e1, e5, e6, e7, e8, eL, hk4, hm⟩
    dsimp only at e0 e1 e5 e6 e7 e8 eL
    subst eL
    refine W.ev 0 e0 ?_
    refine W.ev 1 e1 ?_
    refine W.ev 5 e5 ?_
    refine W.ev 6 e6 ?_
    refine W.ev 7 e7 ?_
    refine W.ev 8 e8 ?_
    have hwl := exW_len hk (4 * m + k)
    have hbl := boxL_len
    by_cases h4 : k = 4
    · subst h4
      by_cases h0 : m % 4 = 0
      · have hrc : mulU (rc ((m + 3) / 4)) 2 = rc ((m + 1 + 3) / 4) := by
          rw [show (m + 1 + 3) / 4 = (m + 3) / 4 + 1 by omega]; rfl
        have hmul := refMul H (rc ((m + 3) / 4)) 2
        rw [hrc] at hmul
        repeat' first
          | (show XO _ _ _ (Oper.mk (some _) (Op.move _) _ _ _ none :: _) _ _ _; refine X.mv ?_)
          | (show XO _ _ _ (Oper.mk (some _) (Op.assign _) _ _ _ none :: _) _ _ _; refine X.as ?_)
          | (show XO _ _ _ (Oper.mk (some _) (Op.call _) _ _ _ none :: _) _ _ _; refine X.call (hmul _) ?_)
          | (show XO _ _ _ (Oper.mk (some _) (Op.binOp BinOp.add _ _ _ _) _ _ _ none :: _) _ _ _; refine X.addI rfl rfl (by omega) ?_)
          | (show XO _ _ _ (Oper.mk (some _) (Op.binOp BinOp.rem _ _ _ _) _ _ _ none :: _) _ _ _; refine X.remI rfl rfl (by omega) ?_)
          | (show XO _ _ _ (Oper.mk (some _) (_) _ _ _ none :: _) _ _ _; refine X.go rfl ?_)
          | (show XO _ _ _ [] _ _ _; refine X.nil ?_)
          | (show CW _ _ _ _ (Code.seq (Code.region _ _ false) _) _ _ _; refine W.rq ?_)
          | (show CW _ _ _ _ (Code.region _ _ false) _ _ _; refine W.rz ?_)
          | (show CW _ _ _ _ (Code.cond _ _ _) _ _ _; first | refine W.jpt (by (conv => lhs; whnf) <;> rfl) (by with_reducible rfl) (by first | omega | decide) ?_ | refine W.jpf (by (conv => lhs; whnf) <;> rfl) (by with_reducible rfl) (by first | omega | decide) ?_)
          | (show CW _ _ _ _ _ _ _ _; first | refine W.ke ?_ | refine W.sq ?_)
          | (show KO _ _ _ _; first | refine K.sn ?_ | refine K.se ?_ | refine K.bn ?_ | refine K.be ?_ | refine K.le ?_ | refine K.ln _ ?_ ⟨m + 1, rfl, rfl, rfl, rfl, vI (by omega), rfl, ?_, rfl⟩)
          | refine K.nx ?_
          | refine K.re ?_
        · exact hg2
        · omega
      · have hrc : rc ((m + 3) / 4) = rc ((m + 1 + 3) / 4) := by rw [show (m + 1 + 3) / 4 = (m + 3) / 4 by omega]
        rw [hrc]
        repeat' first
          | (show XO _ _ _ (Oper.mk (some _) (Op.move _) _ _ _ none :: _) _ _ _; refine X.mv ?_)
          | (show XO _ _ _ (Oper.mk (some _) (Op.assign _) _ _ _ none :: _) _ _ _; refine X.as ?_)
          | (show XO _ _ _ (Oper.mk (some _) (Op.binOp BinOp.add _ _ _ _) _ _ _ none :: _) _ _ _; refine X.addI rfl rfl (by omega) ?_)
          | (show XO _ _ _ (Oper.mk (some _) (Op.binOp BinOp.rem _ _ _ _) _ _ _ none :: _) _ _ _; refine X.remI rfl rfl (by omega) ?_)
          | (show XO _ _ _ (Oper.mk (some _) (_) _ _ _ none :: _) _ _ _; refine X.go rfl ?_)
          | (show XO _ _ _ [] _ _ _; refine X.nil ?_)
          | (show CW _ _ _ _ (Code.seq (Code.region _ _ false) _) _ _ _; refine W.rq ?_)
          | (show CW _ _ _ _ (Code.region _ _ false) _ _ _; refine W.rz ?_)
          | (show CW _ _ _ _ (Code.cond _ _ _) _ _ _; refine W.jpf (by (conv => lhs; whnf) <;> rfl) (by with_reducible rfl) (by first | omega | decide) ?_)
          | (show CW _ _ _ _ _ _ _ _; first | refine W.kn ?_ | refine W.ke ?_ | refine W.sq ?_)
          | (show KO _ _ _ _; first | refine K.sn ?_ | refine K.se ?_ | refine K.bn ?_ | refine K.be ?_ | refine K.le ?_ | refine K.ln _ ?_ ⟨m + 1, rfl, rfl, rfl, rfl, vI (by omega), rfl, ?_, rfl⟩)
          | refine K.nx ?_
          | refine K.re ?_
        · exact hg2
        · omega
    · have hw := word_at (exW key (4 * m + k)) m k (by omega)
      have b1 := (rd (exW key (4 * m + k)) (4 * ((m : Int) + 4) - 4 + ((k : Int) + 1) % 4)).toNat_lt
      by_cases h0 : m % 4 = 0
      · rw [if_pos h0] at hw
        by_cases hk0 : k = 0
        · rw [if_pos hk0, show m / 4 = (m + 3) / 4 by omega] at hw
          repeat' first
            | (show XO _ _ _ (Oper.mk _ _ _ _ _ none :: _) _ _ _; first | refine X.xor8 rfl rfl ?_ | refine X.ap1 (g := g8) (wordB (exW key (4 * m + k)) (4 + (4 * m + k) / 4) ((4 * m + k) % 4)) rfl rfl (by rw [hw]; rfl) (by omega) ?_)
            | (show XO _ _ _ (Oper.mk (some _) (Op.move _) _ _ _ none :: _) _ _ _; refine X.mv ?_)
            | (show XO _ _ _ (Oper.mk (some _) (Op.assign _) _ _ _ none :: _) _ _ _; refine X.as ?_)
            | (show XO _ _ _ (Oper.mk (some _) (Op.binOp BinOp.add _ _ _ _) _ _ _ none :: _) _ _ _; refine X.addI rfl rfl (by omega) ?_)
            | (show XO _ _ _ (Oper.mk (some _) (Op.binOp BinOp.sub _ _ _ _) _ _ _ none :: _) _ _ _; refine X.subI rfl rfl (by omega) ?_)
            | (show XO _ _ _ (Oper.mk (some _) (Op.binOp BinOp.mul _ _ _ _) _ _ _ none :: _) _ _ _; refine X.mulI rfl rfl (by omega) ?_)
            | (show XO _ _ _ (Oper.mk (some _) (Op.binOp BinOp.rem _ _ _ _) _ _ _ none :: _) _ _ _; refine X.remI rfl rfl (by omega) ?_)
            | (show XO _ _ _ (Oper.mk (some _) (Op.convert _ _ _) _ _ _ none :: _) _ _ _; refine X.cvI rfl rfl rfl (w64R (by omega)) ?_)
            | (show XO _ _ _ (Oper.mk (some _) (Op.buildSlice _ _ _) _ _ _ none :: _) _ _ _; refine X.bs1 (by (conv => lhs; whnf) <;> rfl) ?_)
            | (show XO _ _ _ (Oper.mk (some _) (Op.indexAddr _ _ _) _ _ _ none :: _) _ _ _; first | refine X.iaS rfl rfl (by omega) ?_ | refine X.iaO rfl rfl (by omega) rfl ?_)
            | (show XO _ _ _ (Oper.mk (some _) (Op.load _ _) _ _ _ none :: _) _ _ _; first | refine X.go rfl ?_ | refine X.ldO rfl rfl (by omega) ?_)
            | (show XO _ _ _ (Oper.mk (some _) (_) _ _ _ none :: _) _ _ _; refine X.go rfl ?_)
            | (show XO _ _ _ (Oper.mk _ _ _ _ _ (some _) :: _) _ _ _; first | refine X.hy rfl (by (conv => lhs; whnf) <;> rfl) (by first | with_reducible rfl | with_reducible exact notT | with_reducible exact notF) ?_ | refine X.hpt rfl (by (conv => lhs; whnf) <;> rfl) (by with_reducible rfl) (by first | omega | decide) ?_)
            | (show XO _ _ _ [] _ _ _; refine X.nil ?_)
            | (show CW _ _ _ _ (Code.seq (Code.region _ _ false) _) _ _ _; refine W.rq ?_)
            | (show CW _ _ _ _ (Code.region _ _ false) _ _ _; refine W.rz ?_)
            | (show CW _ _ _ _ (Code.cond _ _ _) _ _ _; refine W.jpt (by (conv => lhs; whnf) <;> rfl) (by with_reducible rfl) (by first | omega | decide) ?_)
            | (show CW _ _ _ _ _ _ _ _; first | refine W.kn ?_ | refine W.bl ?_ | refine W.sq ?_)
            | (show KO _ _ _ _; first | refine K.sn ?_ | refine K.bn ?_ | refine K.ln _ ?_ ⟨k + 1, rfl, rfl, rfl, rfl, rfl, vI (by omega), rfl, ?_, rfl⟩)
            | refine K.nx ?_
            | refine K.re ?_
          · omega
          · omega
        · rw [if_neg hk0] at hw
          repeat' first
            | (show XO _ _ _ (Oper.mk _ _ _ _ _ none :: _) _ _ _; first | refine X.xor8 rfl rfl ?_ | refine X.ap1 (g := g8) (wordB (exW key (4 * m + k)) (4 + (4 * m + k) / 4) ((4 * m + k) % 4)) rfl rfl (by rw [hw]; rfl) (by omega) ?_)
            | (show XO _ _ _ (Oper.mk (some _) (Op.move _) _ _ _ none :: _) _ _ _; refine X.mv ?_)
            | (show XO _ _ _ (Oper.mk (some _) (Op.assign _) _ _ _ none :: _) _ _ _; refine X.as ?_)
            | (show XO _ _ _ (Oper.mk (some _) (Op.binOp BinOp.add _ _ _ _) _ _ _ none :: _) _ _ _; refine X.addI rfl rfl (by omega) ?_)
            | (show XO _ _ _ (Oper.mk (some _) (Op.binOp BinOp.sub _ _ _ _) _ _ _ none :: _) _ _ _; refine X.subI rfl rfl (by omega) ?_)
            | (show XO _ _ _ (Oper.mk (some _) (Op.binOp BinOp.mul _ _ _ _) _ _ _ none :: _) _ _ _; refine X.mulI rfl rfl (by omega) ?_)
            | (show XO _ _ _ (Oper.mk (some _) (Op.binOp BinOp.rem _ _ _ _) _ _ _ none :: _) _ _ _; refine X.remI rfl rfl (by omega) ?_)
            | (show XO _ _ _ (Oper.mk (some _) (Op.convert _ _ _) _ _ _ none :: _) _ _ _; refine X.cvI rfl rfl rfl (w64R (by omega)) ?_)
            | (show XO _ _ _ (Oper.mk (some _) (Op.buildSlice _ _ _) _ _ _ none :: _) _ _ _; refine X.bs1 (by (conv => lhs; whnf) <;> rfl) ?_)
            | (show XO _ _ _ (Oper.mk (some _) (Op.indexAddr _ _ _) _ _ _ none :: _) _ _ _; first | refine X.iaS rfl rfl (by omega) ?_ | refine X.iaO rfl rfl (by omega) rfl ?_)
            | (show XO _ _ _ (Oper.mk (some _) (Op.load _ _) _ _ _ none :: _) _ _ _; first | refine X.go rfl ?_ | refine X.ldO rfl rfl (by omega) ?_)
            | (show XO _ _ _ (Oper.mk (some _) (_) _ _ _ none :: _) _ _ _; refine X.go rfl ?_)
            | (show XO _ _ _ (Oper.mk _ _ _ _ _ (some _) :: _) _ _ _; first | refine X.hy rfl (by (conv => lhs; whnf) <;> rfl) (by first | with_reducible rfl | with_reducible exact notT | with_reducible exact notF) ?_ | refine X.hpt rfl (by (conv => lhs; whnf) <;> rfl) (by with_reducible rfl) (by first | omega | decide) ?_)
            | (show XO _ _ _ [] _ _ _; refine X.nil ?_)
            | (show CW _ _ _ _ (Code.seq (Code.region _ _ false) _) _ _ _; refine W.rq ?_)
            | (show CW _ _ _ _ (Code.region _ _ false) _ _ _; refine W.rz ?_)
            | (show CW _ _ _ _ (Code.cond _ _ _) _ _ _; first | refine W.jpt (by (conv => lhs; whnf) <;> rfl) (by with_reducible rfl) (by first | omega | decide) ?_ | refine W.jpf (by (conv => lhs; whnf) <;> rfl) (by with_reducible rfl) (by first | omega | decide) ?_)
            | (show CW _ _ _ _ _ _ _ _; first | refine W.kn ?_ | refine W.bl ?_ | refine W.sq ?_)
            | (show KO _ _ _ _; first | refine K.sn ?_ | refine K.bn ?_ | refine K.ln _ ?_ ⟨k + 1, rfl, rfl, rfl, rfl, rfl, vI (by omega), rfl, ?_, rfl⟩)
            | refine K.nx ?_
            | refine K.re ?_
          · omega
          · omega
      · rw [if_neg h0] at hw
        repeat' first
          | (show XO _ _ _ (Oper.mk _ _ _ _ _ none :: _) _ _ _; first | refine X.xor8 rfl rfl ?_ | refine X.ap1 (g := g8) (wordB (exW key (4 * m + k)) (4 + (4 * m + k) / 4) ((4 * m + k) % 4)) rfl rfl (by rw [hw]; rfl) (by omega) ?_)
          | (show XO _ _ _ (Oper.mk (some _) (Op.move _) _ _ _ none :: _) _ _ _; refine X.mv ?_)
          | (show XO _ _ _ (Oper.mk (some _) (Op.assign _) _ _ _ none :: _) _ _ _; refine X.as ?_)
          | (show XO _ _ _ (Oper.mk (some _) (Op.binOp BinOp.add _ _ _ _) _ _ _ none :: _) _ _ _; refine X.addI rfl rfl (by omega) ?_)
          | (show XO _ _ _ (Oper.mk (some _) (Op.binOp BinOp.sub _ _ _ _) _ _ _ none :: _) _ _ _; refine X.subI rfl rfl (by omega) ?_)
          | (show XO _ _ _ (Oper.mk (some _) (Op.binOp BinOp.mul _ _ _ _) _ _ _ none :: _) _ _ _; refine X.mulI rfl rfl (by omega) ?_)
          | (show XO _ _ _ (Oper.mk (some _) (Op.binOp BinOp.rem _ _ _ _) _ _ _ none :: _) _ _ _; refine X.remI rfl rfl (by omega) ?_)
          | (show XO _ _ _ (Oper.mk (some _) (Op.buildSlice _ _ _) _ _ _ none :: _) _ _ _; refine X.bs1 (by (conv => lhs; whnf) <;> rfl) ?_)
          | (show XO _ _ _ (Oper.mk (some _) (Op.indexAddr _ _ _) _ _ _ none :: _) _ _ _; refine X.iaO rfl rfl (by omega) rfl ?_)
          | (show XO _ _ _ (Oper.mk (some _) (Op.load _ _) _ _ _ none :: _) _ _ _; refine X.ldO rfl rfl (by omega) ?_)
          | (show XO _ _ _ (Oper.mk (some _) (_) _ _ _ none :: _) _ _ _; refine X.go rfl ?_)
          | (show XO _ _ _ (Oper.mk _ _ _ _ _ (some _) :: _) _ _ _; first | refine X.hnf rfl (by (conv => lhs; whnf) <;> rfl) (by first | with_reducible rfl | with_reducible exact notT | with_reducible exact notF) ?_ | refine X.hpf rfl (by (conv => lhs; whnf) <;> rfl) (by with_reducible rfl) (by first | omega | decide) ?_)
          | (show XO _ _ _ [] _ _ _; refine X.nil ?_)
          | (show CW _ _ _ _ (Code.seq (Code.region _ _ false) _) _ _ _; refine W.rq ?_)
          | (show CW _ _ _ _ (Code.region _ _ false) _ _ _; refine W.rz ?_)
          | (show CW _ _ _ _ (Code.cond _ _ _) _ _ _; first | refine W.jf (by (conv => lhs; whnf) <;> rfl) (by first | with_reducible rfl | with_reducible exact notT | with_reducible exact notF) ?_ | refine W.jpt (by (conv => lhs; whnf) <;> rfl) (by with_reducible rfl) (by first | omega | decide) ?_ | refine W.jpf (by (conv => lhs; whnf) <;> rfl) (by with_reducible rfl) (by first | omega | decide) ?_)
          | (show CW _ _ _ _ _ _ _ _; first | refine W.kn ?_ | refine W.bl ?_ | refine W.sq ?_)
          | (show KO _ _ _ _; first | refine K.sn ?_ | refine K.bn ?_ | refine K.ln _ ?_ ⟨k + 1, rfl, rfl, rfl, rfl, rfl, vI (by omega), rfl, ?_, rfl⟩)
          | refine K.nx ?_
          | refine K.re ?_
        · omega
        · omega
theorem refKeys (H : ZC Z) (key : List UInt8) (hk : key.length = 16) (L : List Go.Pv.Obj) : SE Try.prog Z 26 [gB key, gB boxL] L (gB (keysL key)) L :=
  SE.lift (refKeys0 H key hk) L (by simp [V.lts, gB_data]) (gB_data _)
end Go.Proofs.Aes
end
section
set_option linter.unusedVariables false
set_option linter.unusedSimpArgs false
set_option maxHeartbeats 8000000
set_option maxRecDepth 100000
namespace Go.Proofs.Aes
open Go Go.Pv Go.Proofs
variable {Z : Nat → Go.Obj → Prop}
attribute [local irreducible] mulU invU boxL
theorem rk_rd {ks : List UInt8} (h : ks.length = 176) {n i : Nat} (hn : n ≤ 10) (hi : i < 16) : rd (rk ks n) (i : Int) = rd ks ((16 * n + i : Nat) : Int) := by
  rw [rd_nat, rd_nat, List.getD_eq_getElem?_getD, List.getD_eq_getElem?_getD]
  unfold rk
  rw [List.getElem?_take_of_lt hi, List.getElem?_drop, Nat.mul_comm]
def xs (u ks : List UInt8) (n q : Nat) : UInt8 := rd u (q : Int) ^^^ rd ks (16 * (n : Int) + (q : Int))
theorem xs_add {u ks : List UInt8} (h : ks.length = 176) {n : Nat} (hn : n ≤ 10) : (List.range 16).map (xs u ks n) = addS u (rk ks n) := by
  unfold addS
  refine List.map_congr_left fun q hq => ?_
  have hq : q < 16 := List.mem_range.1 hq
  rw [rk_rd h hn hq]
  unfold xs
  rw [show ((16 * n + q : Nat) : Int) = 16 * (n : Int) + q by omega]

theorem lock0 (H : ZC Z) (ks b : List UInt8) (hks : ks.length = 176) (hb : b.length = 16) : SE Try.prog Z 33 [gB ks, gB boxL, gB b] [] (gB (lockS ks b)) [] := by
  have hbl := boxL_len
  refine SE.data H Try.func33 rfl ?_
  repeat' first
    | (show XO _ _ _ (Oper.mk _ _ _ _ _ none :: _) _ _ _; refine X.mk (g := g8) 0 16 rfl rfl (by omega) ?_)
    | (show XO _ _ _ (Oper.mk (some _) (Op.assign _) _ _ _ none :: _) _ _ _; refine X.as ?_)
    | (show XO _ _ _ [] _ _ _; refine X.nil ?_)
    | (show CW _ _ _ _ (Code.seq (Code.region _ _ false) _) _ _ _; refine W.rq ?_)
    | (show CW _ _ _ _ _ _ _ _; first | refine W.bl ?_ | refine W.sq ?_)
    | refine K.nx ?_
  refine W.lq (fun mz st => ∃ (i : Nat), st.env 0 = gB ks ∧ st.env 1 = gB boxL ∧ st.env 7 = .own 0 0 16 16 ∧ st.env 2 = gB b ∧ st.env 8 = .int .i64 i ∧ st.L = [Go.Pv.Obj.buf 1 0 ((fill (xs b ks 0) (List.replicate 16 (0 : UInt8)) i).map g8)] ∧ (i ≤ 16) ∧ mz = 16 - i) ?_ ?_
  · refine ⟨_, 0, rfl, rfl, rfl, rfl, rfl, by rw [fill_zero]; rfl, ?_, rfl⟩
    omega
  rintro mz env L ⟨i, e0, e1, e7, e2, e8, eL, hI, hm⟩
  dsimp only at e0 e1 e7 e2 e8 eL
  subst eL
  refine W.ev 0 e0 ?_
  refine W.ev 1 e1 ?_
  refine W.ev 7 e7 ?_
  refine W.ev 2 e2 ?_
  refine W.ev 8 e8 ?_
  have hfl := fill_len (xs b ks 0) (List.replicate 16 (0 : UInt8)) i
  rw [List.length_replicate] at hfl
  by_cases h : i = 16
  · subst h
    have hs0 : fill (xs b ks 0) (List.replicate 16 (0 : UInt8)) 16 = lockF ks b 0 := by
      rw [fill_all _ _ _ (by simp), List.length_replicate, xs_add hks (by omega)]; rfl
    repeat' first
      | (show XO _ _ _ (Oper.mk (some _) (Op.move _) _ _ _ none :: _) _ _ _; refine X.mv ?_)
      | (show XO _ _ _ (Oper.mk (some _) (Op.assign _) _ _ _ none :: _) _ _ _; refine X.as ?_)
      | (show XO _ _ _ (Oper.mk (some _) (_) _ _ _ none :: _) _ _ _; refine X.go rfl ?_)
      | (show XO _ _ _ [] _ _ _; refine X.nil ?_)
      | (show CW _ _ _ _ (Code.seq (Code.region _ _ false) _) _ _ _; refine W.rq ?_)
      | (show CW _ _ _ _ (Code.cond _ _ _) _ _ _; refine W.jpf (by (conv => lhs; whnf) <;> rfl) (by with_reducible rfl) (by first | omega | decide) ?_)
      | (show CW _ _ _ _ _ _ _ _; first | refine W.ke ?_ | refine W.bl ?_ | refine W.sq ?_)
      | (show KO _ _ _ _; first | refine K.sn ?_ | refine K.se ?_ | refine K.be ?_ | refine K.le ?_)
      | refine K.nx ?_
    refine W.lqF 1 (fun mz st => ∃ (m : Nat), st.env 0 = gB ks ∧ st.env 1 = gB boxL ∧ st.env 7 = .own 0 0 16 16 ∧ st.env 9 = .int .i64 ((m : Int) + 1) ∧ st.L = [Go.Pv.Obj.buf 1 0 ((lockF ks b m).map g8)] ∧ (m ≤ 10) ∧ mz = 10 - m) ?_ ?_
    · refine ⟨_, 0, rfl, rfl, rfl, rfl, by rw [hs0], ?_, rfl⟩
      omega
    rintro mz env L ⟨m, e0, e1, e7, e9, eL, hm10, hm⟩
    dsimp only at e0 e1 e7 e9 eL
    subst eL
    refine W.ev 0 e0 ?_
    refine W.ev 1 e1 ?_
    refine W.ev 7 e7 ?_
    refine W.ev 9 e9 ?_
    have hsl := lockF_len ks b m
    by_cases hme : m = 10
    · subst hme
      repeat' first
        | (show XO _ _ _ (Oper.mk (some _) (Op.move _) _ _ _ none :: _) _ _ _; refine X.mv ?_)
        | (show XO _ _ _ (Oper.mk (some _) (Op.assign _) _ _ _ none :: _) _ _ _; refine X.as ?_)
        | (show XO _ _ _ (Oper.mk (some _) (_) _ _ _ none :: _) _ _ _; refine X.go rfl ?_)
        | (show XO _ _ _ [] _ _ _; refine X.nil ?_)
        | (show CW _ _ _ _ (Code.seq (Code.region _ _ false) _) _ _ _; refine W.rq ?_)
        | (show CW _ _ _ _ (Code.cond _ _ _) _ _ _; refine W.jpf (by (conv => lhs; whnf) <;> rfl) (by with_reducible rfl) (by first | omega | decide) ?_)
        | (show CW _ _ _ _ _ _ _ _; first | refine W.kr ?_ | refine W.ke ?_ | refine W.sq ?_)
        | (show KO _ _ _ _; first | refine K.sn ?_ | refine K.se ?_ | refine K.be ?_ | refine K.le ?_)
        | refine K.nx ?_
      exact K.fin rfl ⟨_, rfl, frzN rfl (Nat.zero_le _) hsl (map_data g8_data _)⟩
    · have hg1 : m + 1 ≤ 10 := by omega
      have hg2 : 10 - (m + 1) < mz := by omega
      have hlock : lockF ks b (m + 1) = addS (if m + 1 < 10 then mixS (shiftS (lockF ks b m)) else shiftS (lockF ks b m)) (rk ks (m + 1)) := rfl
      generalize lockF ks b m = s at *
      repeat' first
        | (show XO _ _ _ (Oper.mk _ _ _ _ _ none :: _) _ _ _; refine X.mk (g := g8) 0 16 rfl rfl (by omega) ?_)
        | (show XO _ _ _ (Oper.mk (some _) (Op.move _) _ _ _ none :: _) _ _ _; refine X.mv ?_)
        | (show XO _ _ _ (Oper.mk (some _) (Op.assign _) _ _ _ none :: _) _ _ _; refine X.as ?_)
        | (show XO _ _ _ (Oper.mk (some _) (_) _ _ _ none :: _) _ _ _; refine X.go rfl ?_)
        | (show XO _ _ _ [] _ _ _; refine X.nil ?_)
        | (show CW _ _ _ _ (Code.seq (Code.region _ _ false) _) _ _ _; refine W.rq ?_)
        | (show CW _ _ _ _ (Code.cond _ _ _) _ _ _; refine W.jpt (by (conv => lhs; whnf) <;> rfl) (by with_reducible rfl) (by first | omega | decide) ?_)
        | (show CW _ _ _ _ _ _ _ _; first | refine W.kn ?_ | refine W.bl ?_ | refine W.sq ?_)
        | (show KO _ _ _ _; refine K.sn ?_)
        | refine K.nx ?_
      refine W.lq (fun mz st => ∃ (c : Nat), st.env 0 = gB ks ∧ st.env 1 = gB boxL ∧ st.env 7 = .own 0 0 16 16 ∧ st.env 9 = .int .i64 ((m : Int) + 1) ∧ st.env 10 = .own 1 0 16 16 ∧ st.env 11 = .int .i64 c ∧ st.L = [Go.Pv.Obj.buf 1 0 ((s).map g8), Go.Pv.Obj.buf 1 0 ((fill (shiftB s) (List.replicate 16 (0 : UInt8)) (4 * c)).map g8)] ∧ (c ≤ 4) ∧ mz = 4 - c) ?_ ?_
      · refine ⟨_, 0, rfl, rfl, rfl, rfl, rfl, rfl, by rw [Nat.mul_zero, fill_zero]; rfl, ?_, rfl⟩
        omega
      rintro mz env L ⟨c, e0, e1, e7, e9, e10, e11, eL, hc, hm⟩
      dsimp only at e0 e1 e7 e9 e10 e11 eL
      subst eL
      refine W.ev 0 e0 ?_
      refine W.ev 1 e1 ?_
      refine W.ev 7 e7 ?_
      refine W.ev 9 e9 ?_
      refine W.ev 10 e10 ?_
      refine W.ev 11 e11 ?_
      have hft := fill_len (shiftB s) (List.replicate 16 (0 : UInt8)) (4 * c)
      rw [List.length_replicate] at hft
      by_cases hc4 : c = 4
      · subst hc4
        have ht : fill (shiftB s) (List.replicate 16 (0 : UInt8)) (4 * 4) = shiftS s := by
          rw [fill_all _ _ _ (by simp), List.length_replicate]; rfl
        rw [ht]
        have htl := shiftS_len s
        generalize shiftS s = t at *
        clear ht hft
        repeat' first
          | (show XO _ _ _ (Oper.mk _ _ _ _ _ none :: _) _ _ _; refine X.apON (g := g8) 16 t htl rfl (elems_ownN rfl htl) (fun _ => rfl) (fun _ => rfl) (by omega) ?_)
          | (show XO _ _ _ (Oper.mk (some _) (Op.move _) _ _ _ none :: _) _ _ _; refine X.mv ?_)
          | (show XO _ _ _ (Oper.mk (some _) (Op.assign _) _ _ _ none :: _) _ _ _; refine X.as ?_)
          | (show XO _ _ _ (Oper.mk (some _) (Op.buildSlice _ _ _) _ _ _ none :: _) _ _ _; refine X.bs0 ?_)
          | (show XO _ _ _ (Oper.mk (some _) (_) _ _ _ none :: _) _ _ _; refine X.go rfl ?_)
          | (show XO _ _ _ [] _ _ _; refine X.nil ?_)
          | (show CW _ _ _ _ (Code.seq (Code.region _ _ false) _) _ _ _; refine W.rq ?_)
          | (show CW _ _ _ _ (Code.cond _ _ _) _ _ _; refine W.jpf (by (conv => lhs; whnf) <;> rfl) (by with_reducible rfl) (by first | omega | decide) ?_)
          | (show CW _ _ _ _ _ _ _ _; first | refine W.ke ?_ | refine W.bl ?_ | refine W.sq ?_)
          | (show KO _ _ _ _; first | refine K.sn ?_ | refine K.se ?_ | refine K.be ?_ | refine K.le ?_)
          | refine K.nx ?_
        by_cases hm9 : m + 1 < 10
        · rw [if_pos hm9] at hlock
          refine W.lq (fun mz st => ∃ (c : Nat), st.env 0 = gB ks ∧ st.env 1 = gB boxL ∧ st.env 7 = .own 0 0 16 16 ∧ st.env 9 = .int .i64 ((m : Int) + 1) ∧ st.env 10 = .own 1 0 16 16 ∧ st.env 13 = .own 2 0 16 16 ∧ st.env 14 = .int .i64 c ∧ st.L = [Go.Pv.Obj.buf 1 0 ((s).map g8), Go.Pv.Obj.buf 1 0 ((t).map g8), Go.Pv.Obj.buf 1 0 ((fill (mixB t) t (4 * c)).map g8)] ∧ (c ≤ 4) ∧ mz = 4 - c) ?_ ?_
          · refine ⟨_, 0, rfl, rfl, rfl, rfl, rfl, rfl, rfl, by rw [Nat.mul_zero, fill_zero], ?_, rfl⟩
            omega
          rintro mz env L ⟨c, e0, e1, e7, e9, e10, e13, e14, eL, hc, hm⟩
          dsimp only at e0 e1 e7 e9 e10 e13 e14 eL
          subst eL
          refine W.ev 0 e0 ?_
          refine W.ev 1 e1 ?_
          refine W.ev 7 e7 ?_
          refine W.ev 9 e9 ?_
          refine W.ev 10 e10 ?_
          refine W.ev 13 e13 ?_
          refine W.ev 14 e14 ?_
          have hfu := fill_len (mixB t) t (4 * c)
          rw [htl] at hfu
          by_cases hcc : c = 4
          · subst hcc
            have hu : fill (mixB t) t (4 * 4) = mixS t := by
              rw [fill_all _ _ _ (by omega), htl]; rfl
            have hul := mixS_len t
            repeat' first
              | (show XO _ _ _ (Oper.mk (some _) (Op.move _) _ _ _ none :: _) _ _ _; refine X.mv ?_)
              | (show XO _ _ _ (Oper.mk (some _) (Op.assign _) _ _ _ none :: _) _ _ _; refine X.as ?_)
              | (show XO _ _ _ (Oper.mk (some _) (_) _ _ _ none :: _) _ _ _; refine X.go rfl ?_)
              | (show XO _ _ _ (Oper.mk _ _ _ _ _ (some _) :: _) _ _ _; first | refine X.hnf rfl (by (conv => lhs; whnf) <;> rfl) (by first | with_reducible rfl | with_reducible exact notT | with_reducible exact notF) ?_ | refine X.hpf rfl (by (conv => lhs; whnf) <;> rfl) (by with_reducible rfl) (by first | omega | decide) ?_)
              | (show XO _ _ _ [] _ _ _; refine X.nil ?_)
              | (show CW _ _ _ _ (Code.seq (Code.region _ _ false) _) _ _ _; refine W.rq ?_)
              | (show CW _ _ _ _ (Code.cond _ _ _) _ _ _; refine W.jf (by (conv => lhs; whnf) <;> rfl) (by first | with_reducible rfl | with_reducible exact notT | with_reducible exact notF) ?_)
              | (show CW _ _ _ _ _ _ _ _; first | refine W.ke ?_ | refine W.bl ?_ | refine W.sq ?_)
              | (show KO _ _ _ _; first | refine K.sn ?_ | refine K.se ?_ | refine K.be ?_ | refine K.le ?_)
              | refine K.nx ?_
            refine W.lq (fun mz st => ∃ (i : Nat), st.env 0 = gB ks ∧ st.env 1 = gB boxL ∧ st.env 7 = .own 0 0 16 16 ∧ st.env 9 = .int .i64 ((m : Int) + 1) ∧ st.env 10 = .own 1 0 16 16 ∧ st.env 13 = .own 2 0 16 16 ∧ st.env 16 = .int .i64 i ∧ st.L = [Go.Pv.Obj.buf 1 0 ((fill (xs (mixS t) ks (m + 1)) s i).map g8), Go.Pv.Obj.buf 1 0 ((t).map g8), Go.Pv.Obj.buf 1 0 (((mixS t)).map g8)] ∧ (i ≤ 16) ∧ mz = 16 - i) ?_ ?_
            · refine ⟨_, 0, rfl, rfl, rfl, rfl, rfl, rfl, rfl, by rw [fill_zero, hu], ?_, rfl⟩
              omega
            rintro mz env L ⟨i, e0, e1, e7, e9, e10, e13, e16, eL, hi, hm⟩
            dsimp only at e0 e1 e7 e9 e10 e13 e16 eL
            subst eL
            refine W.ev 0 e0 ?_
            refine W.ev 1 e1 ?_
            refine W.ev 7 e7 ?_
            refine W.ev 9 e9 ?_
            refine W.ev 10 e10 ?_
            refine W.ev 13 e13 ?_
            refine W.ev 16 e16 ?_
            have hfs := fill_len (xs (mixS t) ks (m + 1)) s i
            rw [hsl] at hfs
            by_cases hi16 : i = 16
            · subst hi16
              have hend : fill (xs (mixS t) ks (m + 1)) s 16 = lockF ks b (m + 1) := by
                rw [fill_all _ _ _ (by omega), hsl, xs_add hks (by omega)]; exact hlock.symm
              repeat' first
                | (show XO _ _ _ (Oper.mk (some _) (Op.move _) _ _ _ none :: _) _ _ _; refine X.mv ?_)
                | (show XO _ _ _ (Oper.mk (some _) (Op.assign _) _ _ _ none :: _) _ _ _; refine X.as ?_)
                | (show XO _ _ _ (Oper.mk (some _) (Op.binOp BinOp.add _ _ _ _) _ _ _ none :: _) _ _ _; refine X.addI rfl rfl (by omega) ?_)
                | (show XO _ _ _ (Oper.mk (some _) (_) _ _ _ none :: _) _ _ _; refine X.go rfl ?_)
                | (show XO _ _ _ [] _ _ _; refine X.nil ?_)
                | (show CW _ _ _ _ (Code.seq (Code.region _ _ false) _) _ _ _; refine W.rq ?_)
                | (show CW _ _ _ _ (Code.region _ _ false) _ _ _; refine W.rz ?_)
                | (show CW _ _ _ _ (Code.cond _ _ _) _ _ _; refine W.jpf (by (conv => lhs; whnf) <;> rfl) (by with_reducible rfl) (by first | omega | decide) ?_)
                | (show CW _ _ _ _ _ _ _ _; first | refine W.ke ?_ | refine W.sq ?_)
                | (show KO _ _ _ _; first | refine K.sn ?_ | refine K.se ?_ | refine K.bn ?_ | refine K.be ?_ | refine K.le ?_ | refine K.fn _ ?_ [_] _ rfl rfl (by repeat' first | exact obs_nil | refine obs_cons ?_ ?_ | exact ob_box (map_data g8_data _) | exact ob_buf (map_data g8_data _) | exact ob_box rfl | exact ob_buf rfl) ⟨m + 1, cutv_sl (map_data g8_data _), cutv_sl (map_data g8_data _), rfl, vI (by omega), by rw [hend], ?_, rfl⟩)
                | refine K.nx ?_
                | refine K.re ?_
              · exact hg2
              · exact hg1
            · have hval : g8 (rd (mixS t) (i : Int) ^^^ rd ks (16 * ((m : Int) + 1) + (i : Int))) = g8 (xs (mixS t) ks (m + 1) i) := by
                unfold xs; rw [show ((m + 1 : Nat) : Int) = (m : Int) + 1 by omega]
              repeat' first
                | (show XO _ _ _ (Oper.mk _ _ _ _ _ none :: _) _ _ _; first | refine X.iaN rfl rfl (by omega) rfl hfs ?_ | refine X.stN (xs (mixS t) ks (m + 1) i) rfl rfl hval (by omega) hfs (fun _ => rfl) ?_)
                | (show XO _ _ _ (Oper.mk (some _) (Op.move _) _ _ _ none :: _) _ _ _; refine X.mv ?_)
                | (show XO _ _ _ (Oper.mk (some _) (Op.assign _) _ _ _ none :: _) _ _ _; refine X.as ?_)
                | (show XO _ _ _ (Oper.mk (some _) (Op.binOp BinOp.add _ _ _ _) _ _ _ none :: _) _ _ _; refine X.addI rfl rfl (by omega) ?_)
                | (show XO _ _ _ (Oper.mk (some _) (_) _ _ _ none :: _) _ _ _; refine X.go rfl ?_)
                | (show XO _ _ _ [] _ _ _; refine X.nil ?_)
                | (show AO _ _ _ (Oper.mk _ _ _ _ _ none :: _) _ _ _; first | refine A.iaN rfl rfl (by omega) rfl hul ?_ | refine A.ldN (g := g8) rfl rfl (by omega) hul ?_ | refine A.xor8 rfl rfl ?_)
                | (show AO _ _ _ (Oper.mk (some _) (Op.move _) _ _ _ none :: _) _ _ _; refine A.mv ?_)
                | (show AO _ _ _ (Oper.mk (some _) (Op.binOp BinOp.add _ _ _ _) _ _ _ none :: _) _ _ _; refine A.addI rfl rfl (by omega) ?_)
                | (show AO _ _ _ (Oper.mk (some _) (Op.binOp BinOp.mul _ _ _ _) _ _ _ none :: _) _ _ _; refine A.mulI rfl rfl (by omega) ?_)
                | (show AO _ _ _ (Oper.mk (some _) (Op.indexAddr _ _ _) _ _ _ none :: _) _ _ _; refine A.iaS rfl rfl (by omega) ?_)
                | (show AO _ _ _ (Oper.mk (some _) (Op.load _ _) _ _ _ none :: _) _ _ _; refine A.go rfl ?_)
                | (show AO _ _ _ [] _ _ _; refine A.nil ?_)
                | (show CW _ _ _ _ (Code.seq (Code.region _ _ false) _) _ _ _; refine W.rq ?_)
                | (show CW _ _ _ _ (Code.region _ _ false) _ _ _; refine W.rz ?_)
                | (show CW _ _ _ _ (Code.region _ _ true) _ _ _; refine W.dz 14 ?_)
                | (show CW _ _ _ _ (Code.cond _ _ _) _ _ _; refine W.jpt (by (conv => lhs; whnf) <;> rfl) (by with_reducible rfl) (by first | omega | decide) ?_)
                | (show CW _ _ _ _ _ _ _ _; first | refine W.kn ?_ | refine W.bl ?_ | refine W.sq ?_)
                | (show KO _ _ _ _; first | refine K.sn ?_ | refine K.bn ?_ | refine K.ln _ ?_ ⟨i + 1, rfl, rfl, rfl, rfl, rfl, rfl, vI (by omega), by rw [fill_set _ _ _ _ _ rfl rfl], ?_, rfl⟩)
                | refine K.nx ?_
                | refine K.re ?_
                | refine K.dr ?_
              · omega
              · omega
          · have hg3 : 4 - (c + 1) < mz := by omega
            repeat' first
              | (show XO _ _ _ (Oper.mk (some _) (Op.move _) _ _ _ none :: _) _ _ _; refine X.mv ?_)
              | (show XO _ _ _ (Oper.mk (some _) (Op.assign _) _ _ _ none :: _) _ _ _; refine X.as ?_)
              | (show XO _ _ _ (Oper.mk (some _) (_) _ _ _ none :: _) _ _ _; refine X.go rfl ?_)
              | (show XO _ _ _ (Oper.mk _ _ _ _ _ (some _) :: _) _ _ _; first | refine X.hy rfl (by (conv => lhs; whnf) <;> rfl) (by first | with_reducible rfl | with_reducible exact notT | with_reducible exact notF) ?_ | refine X.hpt rfl (by (conv => lhs; whnf) <;> rfl) (by with_reducible rfl) (by first | omega | decide) ?_)
              | (show XO _ _ _ [] _ _ _; refine X.nil ?_)
              | (show CW _ _ _ _ (Code.seq (Code.region _ _ false) _) _ _ _; refine W.rq ?_)
              | (show CW _ _ _ _ (Code.cond _ _ _) _ _ _; refine W.jpt (by (conv => lhs; whnf) <;> rfl) (by with_reducible rfl) (by first | omega | decide) ?_)
              | (show CW _ _ _ _ _ _ _ _; first | refine W.kn ?_ | refine W.bl ?_ | refine W.sq ?_)
              | (show KO _ _ _ _; refine K.sn ?_)
              | refine K.nx ?_
            refine W.lq (fun mz st => ∃ (r : Nat), st.env 0 = gB ks ∧ st.env 1 = gB boxL ∧ st.env 7 = .own 0 0 16 16 ∧ st.env 9 = .int .i64 ((m : Int) + 1) ∧ st.env 10 = .own 1 0 16 16 ∧ st.env 13 = .own 2 0 16 16 ∧ st.env 14 = .int .i64 c ∧ st.env 15 = .int .i64 r ∧ st.L = [Go.Pv.Obj.buf 1 0 ((s).map g8), Go.Pv.Obj.buf 1 0 ((t).map g8), Go.Pv.Obj.buf 1 0 ((fill (mixB t) t (4 * c + r)).map g8)] ∧ (r ≤ 4) ∧ mz = 4 - r) ?_ ?_
            · refine ⟨_, 0, rfl, rfl, rfl, rfl, rfl, rfl, rfl, rfl, rfl, ?_, rfl⟩
              omega
            rintro mz env L ⟨r, e0, e1, e7, e9, e10, e13, e14, e15, eL, hr, hm⟩
            dsimp only at e0 e1 e7 e9 e10 e13 e14 e15 eL
            subst eL
            refine W.ev 0 e0 ?_
            refine W.ev 1 e1 ?_
            refine W.ev 7 e7 ?_
            refine W.ev 9 e9 ?_
            refine W.ev 10 e10 ?_
            refine W.ev 13 e13 ?_
            refine W.ev 14 e14 ?_
            refine W.ev 15 e15 ?_
            have hfu2 := fill_len (mixB t) t (4 * c + r)
            rw [htl] at hfu2
            by_cases hr4 : r = 4
            · subst hr4
              repeat' first
                | (show XO _ _ _ (Oper.mk (some _) (Op.move _) _ _ _ none :: _) _ _ _; refine X.mv ?_)
                | (show XO _ _ _ (Oper.mk (some _) (Op.assign _) _ _ _ none :: _) _ _ _; refine X.as ?_)
                | (show XO _ _ _ (Oper.mk (some _) (Op.binOp BinOp.add _ _ _ _) _ _ _ none :: _) _ _ _; refine X.addI rfl rfl (by omega) ?_)
                | (show XO _ _ _ (Oper.mk (some _) (_) _ _ _ none :: _) _ _ _; refine X.go rfl ?_)
                | (show XO _ _ _ [] _ _ _; refine X.nil ?_)
                | (show CW _ _ _ _ (Code.seq (Code.region _ _ false) _) _ _ _; refine W.rq ?_)
                | (show CW _ _ _ _ (Code.region _ _ false) _ _ _; refine W.rz ?_)
                | (show CW _ _ _ _ (Code.cond _ _ _) _ _ _; refine W.jpf (by (conv => lhs; whnf) <;> rfl) (by with_reducible rfl) (by first | omega | decide) ?_)
                | (show CW _ _ _ _ _ _ _ _; first | refine W.ke ?_ | refine W.sq ?_)
                | (show KO _ _ _ _; first | refine K.sn ?_ | refine K.se ?_ | refine K.bn ?_ | refine K.be ?_ | refine K.le ?_ | refine K.ln _ ?_ ⟨c + 1, rfl, rfl, rfl, rfl, rfl, rfl, vI (by omega), by rw [show 4 * c + 4 = 4 * (c + 1) by omega], ?_, rfl⟩)
                | refine K.nx ?_
                | refine K.re ?_
              · exact hg3
              · omega
            · have hval : g8 (mulU (rd t (4 * (c : Int) + r)) 2 ^^^ mulU (rd t (4 * (c : Int) + ((r : Int) + 1) % 4)) 3 ^^^ rd t (4 * (c : Int) + ((r : Int) + 2) % 4) ^^^ rd t (4 * (c : Int) + ((r : Int) + 3) % 4)) = g8 (mixB t (4 * c + r)) := by
                unfold mixB
                rw [show ((4 * c + r : Nat) : Int) / 4 * 4 + (((4 * c + r : Nat) : Int) + 0) % 4 = 4 * (c : Int) + r by omega, show ((4 * c + r : Nat) : Int) / 4 * 4 + (((4 * c + r : Nat) : Int) + 1) % 4 = 4 * (c : Int) + ((r : Int) + 1) % 4 by omega,
                  show ((4 * c + r : Nat) : Int) / 4 * 4 + (((4 * c + r : Nat) : Int) + 2) % 4 = 4 * (c : Int) + ((r : Int) + 2) % 4 by omega, show ((4 * c + r : Nat) : Int) / 4 * 4 + (((4 * c + r : Nat) : Int) + 3) % 4 = 4 * (c : Int) + ((r : Int) + 3) % 4 by omega]
              repeat' first
                | (show XO _ _ _ (Oper.mk _ _ _ _ _ none :: _) _ _ _; first | refine X.iaN rfl rfl (by omega) rfl hfu2 ?_ | refine X.stN (mixB t (4 * c + r)) rfl rfl hval (by omega) hfu2 (fun _ => rfl) ?_)
                | (show XO _ _ _ (Oper.mk (some _) (Op.move _) _ _ _ none :: _) _ _ _; refine X.mv ?_)
                | (show XO _ _ _ (Oper.mk (some _) (Op.assign _) _ _ _ none :: _) _ _ _; refine X.as ?_)
                | (show XO _ _ _ (Oper.mk (some _) (Op.binOp BinOp.add _ _ _ _) _ _ _ none :: _) _ _ _; refine X.addI rfl rfl (by omega) ?_)
                | (show XO _ _ _ (Oper.mk (some _) (_) _ _ _ none :: _) _ _ _; refine X.go rfl ?_)
                | (show XO _ _ _ [] _ _ _; refine X.nil ?_)
                | (show AO _ _ _ (Oper.mk _ _ _ _ _ none :: _) _ _ _; first | refine A.iaN rfl rfl (by omega) rfl htl ?_ | refine A.ldN (g := g8) rfl rfl (by omega) htl ?_ | refine A.xor8 rfl rfl ?_)
                | (show AO _ _ _ (Oper.mk (some _) (Op.move _) _ _ _ none :: _) _ _ _; refine A.mv ?_)
                | (show AO _ _ _ (Oper.mk (some _) (Op.call _) _ _ _ none :: _) _ _ _; first | refine A.call (refMul H _ 2 _) ?_ | refine A.call (refMul H _ 3 _) ?_)
                | (show AO _ _ _ (Oper.mk (some _) (Op.binOp BinOp.add _ _ _ _) _ _ _ none :: _) _ _ _; refine A.addI rfl rfl (by omega) ?_)
                | (show AO _ _ _ (Oper.mk (some _) (Op.binOp BinOp.mul _ _ _ _) _ _ _ none :: _) _ _ _; refine A.mulI rfl rfl (by omega) ?_)
                | (show AO _ _ _ (Oper.mk (some _) (Op.binOp BinOp.rem _ _ _ _) _ _ _ none :: _) _ _ _; refine A.remI rfl rfl (by omega) ?_)
                | (show AO _ _ _ [] _ _ _; refine A.nil ?_)
                | (show CW _ _ _ _ (Code.seq (Code.region _ _ false) _) _ _ _; refine W.rq ?_)
                | (show CW _ _ _ _ (Code.region _ _ false) _ _ _; refine W.rz ?_)
                | (show CW _ _ _ _ (Code.region _ _ true) _ _ _; refine W.dz 44 ?_)
                | (show CW _ _ _ _ (Code.cond _ _ _) _ _ _; refine W.jpt (by (conv => lhs; whnf) <;> rfl) (by with_reducible rfl) (by first | omega | decide) ?_)
                | (show CW _ _ _ _ _ _ _ _; first | refine W.kn ?_ | refine W.bl ?_ | refine W.sq ?_)
                | (show KO _ _ _ _; first | refine K.sn ?_ | refine K.bn ?_ | refine K.ln _ ?_ ⟨r + 1, rfl, rfl, rfl, rfl, rfl, rfl, rfl, vI (by omega), by rw [fill_set _ _ (4 * c + r) _ _ (by omega) rfl]; rfl, ?_, rfl⟩)
                | refine K.nx ?_
                | refine K.re ?_
                | refine K.dr ?_
              · omega
              · omega
        · rw [if_neg hm9] at hlock
          refine W.lq (fun mz st => st.env 0 = gB ks ∧ st.env 1 = gB boxL ∧ st.env 7 = .own 0 0 16 16 ∧ st.env 9 = .int .i64 ((m : Int) + 1) ∧ st.env 10 = .own 1 0 16 16 ∧ st.env 13 = .own 2 0 16 16 ∧ st.env 14 = .int .i64 0 ∧ st.L = [Go.Pv.Obj.buf 1 0 ((s).map g8), Go.Pv.Obj.buf 1 0 ((t).map g8), Go.Pv.Obj.buf 1 0 ((t).map g8)] ∧ (True) ∧ mz = 0) ?_ ?_
          · refine ⟨_, rfl, rfl, rfl, rfl, rfl, rfl, rfl, rfl, ?_, rfl⟩
            trivial
          rintro mz env L ⟨e0, e1, e7, e9, e10, e13, e14, eL, hz, hm⟩
          dsimp only at e0 e1 e7 e9 e10 e13 e14 eL
          subst eL
          refine W.ev 0 e0 ?_
          refine W.ev 1 e1 ?_
          refine W.ev 7 e7 ?_
          refine W.ev 9 e9 ?_
          refine W.ev 10 e10 ?_
          refine W.ev 13 e13 ?_
          refine W.ev 14 e14 ?_
          repeat' first
            | (show XO _ _ _ (Oper.mk (some _) (Op.move _) _ _ _ none :: _) _ _ _; refine X.mv ?_)
            | (show XO _ _ _ (Oper.mk (some _) (Op.assign _) _ _ _ none :: _) _ _ _; refine X.as ?_)
            | (show XO _ _ _ (Oper.mk (some _) (_) _ _ _ none :: _) _ _ _; refine X.go rfl ?_)
            | (show XO _ _ _ (Oper.mk _ _ _ _ _ (some _) :: _) _ _ _; first | refine X.hy rfl (by (conv => lhs; whnf) <;> rfl) (by first | with_reducible rfl | with_reducible exact notT | with_reducible exact notF) ?_ | refine X.hpt rfl (by (conv => lhs; whnf) <;> rfl) (by with_reducible rfl) (by first | omega | decide) ?_)
            | (show XO _ _ _ [] _ _ _; refine X.nil ?_)
            | (show CW _ _ _ _ (Code.seq (Code.region _ _ false) _) _ _ _; refine W.rq ?_)
            | (show CW _ _ _ _ (Code.cond _ _ _) _ _ _; refine W.jpf (by (conv => lhs; whnf) <;> rfl) (by with_reducible rfl) (by first | omega | decide) ?_)
            | (show CW _ _ _ _ _ _ _ _; first | refine W.ke ?_ | refine W.bl ?_ | refine W.sq ?_)
            | (show KO _ _ _ _; first | refine K.sn ?_ | refine K.se ?_ | refine K.be ?_ | refine K.le ?_)
            | refine K.nx ?_
          refine W.lq (fun mz st => ∃ (i : Nat), st.env 0 = gB ks ∧ st.env 1 = gB boxL ∧ st.env 7 = .own 0 0 16 16 ∧ st.env 9 = .int .i64 ((m : Int) + 1) ∧ st.env 10 = .own 1 0 16 16 ∧ st.env 13 = .own 2 0 16 16 ∧ st.env 16 = .int .i64 i ∧ st.L = [Go.Pv.Obj.buf 1 0 ((fill (xs t ks (m + 1)) s i).map g8), Go.Pv.Obj.buf 1 0 ((t).map g8), Go.Pv.Obj.buf 1 0 ((t).map g8)] ∧ (i ≤ 16) ∧ mz = 16 - i) ?_ ?_
          · refine ⟨_, 0, rfl, rfl, rfl, rfl, rfl, rfl, rfl, by rw [fill_zero], ?_, rfl⟩
            omega
          rintro mz env L ⟨i, e0, e1, e7, e9, e10, e13, e16, eL, hi, hm⟩
          dsimp only at e0 e1 e7 e9 e10 e13 e16 eL
          subst eL
          refine W.ev 0 e0 ?_
          refine W.ev 1 e1 ?_
          refine W.ev 7 e7 ?_
          refine W.ev 9 e9 ?_
          refine W.ev 10 e10 ?_
          refine W.ev 13 e13 ?_
          refine W.ev 16 e16 ?_
          have hfs := fill_len (xs t ks (m + 1)) s i
          rw [hsl] at hfs
          by_cases hi16 : i = 16
          · subst hi16
            have hend : fill (xs t ks (m + 1)) s 16 = lockF ks b (m + 1) := by
              rw [fill_all _ _ _ (by omega), hsl, xs_add hks (by omega)]; exact hlock.symm
            repeat' first
              | (show XO _ _ _ (Oper.mk (some _) (Op.move _) _ _ _ none :: _) _ _ _; refine X.mv ?_)
              | (show XO _ _ _ (Oper.mk (some _) (Op.assign _) _ _ _ none :: _) _ _ _; refine X.as ?_)
              | (show XO _ _ _ (Oper.mk (some _) (Op.binOp BinOp.add _ _ _ _) _ _ _ none :: _) _ _ _; refine X.addI rfl rfl (by omega) ?_)
              | (show XO _ _ _ (Oper.mk (some _) (_) _ _ _ none :: _) _ _ _; refine X.go rfl ?_)
              | (show XO _ _ _ [] _ _ _; refine X.nil ?_)
              | (show CW _ _ _ _ (Code.seq (Code.region _ _ false) _) _ _ _; refine W.rq ?_)
              | (show CW _ _ _ _ (Code.region _ _ false) _ _ _; refine W.rz ?_)
              | (show CW _ _ _ _ (Code.cond _ _ _) _ _ _; refine W.jpf (by (conv => lhs; whnf) <;> rfl) (by with_reducible rfl) (by first | omega | decide) ?_)
              | (show CW _ _ _ _ _ _ _ _; first | refine W.ke ?_ | refine W.sq ?_)
              | (show KO _ _ _ _; first | refine K.sn ?_ | refine K.se ?_ | refine K.bn ?_ | refine K.be ?_ | refine K.le ?_ | refine K.fn _ ?_ [_] _ rfl rfl (by repeat' first | exact obs_nil | refine obs_cons ?_ ?_ | exact ob_box (map_data g8_data _) | exact ob_buf (map_data g8_data _) | exact ob_box rfl | exact ob_buf rfl) ⟨m + 1, cutv_sl (map_data g8_data _), cutv_sl (map_data g8_data _), rfl, vI (by omega), by rw [hend], ?_, rfl⟩)
              | refine K.nx ?_
              | refine K.re ?_
            · exact hg2
            · exact hg1
          · have hval : g8 (rd t (i : Int) ^^^ rd ks (16 * ((m : Int) + 1) + (i : Int))) = g8 (xs t ks (m + 1) i) := by
              unfold xs; rw [show ((m + 1 : Nat) : Int) = (m : Int) + 1 by omega]
            repeat' first
              | (show XO _ _ _ (Oper.mk _ _ _ _ _ none :: _) _ _ _; first | refine X.iaN rfl rfl (by omega) rfl hfs ?_ | refine X.stN (xs t ks (m + 1) i) rfl rfl hval (by omega) hfs (fun _ => rfl) ?_)
              | (show XO _ _ _ (Oper.mk (some _) (Op.move _) _ _ _ none :: _) _ _ _; refine X.mv ?_)
              | (show XO _ _ _ (Oper.mk (some _) (Op.assign _) _ _ _ none :: _) _ _ _; refine X.as ?_)
              | (show XO _ _ _ (Oper.mk (some _) (Op.binOp BinOp.add _ _ _ _) _ _ _ none :: _) _ _ _; refine X.addI rfl rfl (by omega) ?_)
              | (show XO _ _ _ (Oper.mk (some _) (_) _ _ _ none :: _) _ _ _; refine X.go rfl ?_)
              | (show XO _ _ _ [] _ _ _; refine X.nil ?_)
              | (show AO _ _ _ (Oper.mk _ _ _ _ _ none :: _) _ _ _; first | refine A.iaN rfl rfl (by omega) rfl htl ?_ | refine A.ldN (g := g8) rfl rfl (by omega) htl ?_ | refine A.xor8 rfl rfl ?_)
              | (show AO _ _ _ (Oper.mk (some _) (Op.move _) _ _ _ none :: _) _ _ _; refine A.mv ?_)
              | (show AO _ _ _ (Oper.mk (some _) (Op.binOp BinOp.add _ _ _ _) _ _ _ none :: _) _ _ _; refine A.addI rfl rfl (by omega) ?_)
              | (show AO _ _ _ (Oper.mk (some _) (Op.binOp BinOp.mul _ _ _ _) _ _ _ none :: _) _ _ _; refine A.mulI rfl rfl (by omega) ?_)
              | (show AO _ _ _ (Oper.mk (some _) (Op.indexAddr _ _ _) _ _ _ none :: _) _ _ _; refine A.iaS rfl rfl (by omega) ?_)
              | (show AO _ _ _ (Oper.mk (some _) (Op.load _ _) _ _ _ none :: _) _ _ _; refine A.go rfl ?_)
              | (show AO _ _ _ [] _ _ _; refine A.nil ?_)
              | (show CW _ _ _ _ (Code.seq (Code.region _ _ false) _) _ _ _; refine W.rq ?_)
              | (show CW _ _ _ _ (Code.region _ _ false) _ _ _; refine W.rz ?_)
              | (show CW _ _ _ _ (Code.region _ _ true) _ _ _; refine W.dz 14 ?_)
              | (show CW _ _ _ _ (Code.cond _ _ _) _ _ _; refine W.jpt (by (conv => lhs; whnf) <;> rfl) (by with_reducible rfl) (by first | omega | decide) ?_)
              | (show CW _ _ _ _ _ _ _ _; first | refine W.kn ?_ | refine W.bl ?_ | refine W.sq ?_)
              | (show KO _ _ _ _; first | refine K.sn ?_ | refine K.bn ?_ | refine K.ln _ ?_ ⟨i + 1, rfl, rfl, rfl, rfl, rfl, rfl, vI (by omega), by rw [fill_set _ _ _ _ _ rfl rfl], ?_, rfl⟩)
              | refine K.nx ?_
              | refine K.re ?_
              | refine K.dr ?_
            · omega
            · omega
      · have hg3 : 4 - (c + 1) < mz := by omega
        repeat' first
          | (show XO _ _ _ (Oper.mk (some _) (Op.move _) _ _ _ none :: _) _ _ _; refine X.mv ?_)
          | (show XO _ _ _ (Oper.mk (some _) (Op.assign _) _ _ _ none :: _) _ _ _; refine X.as ?_)
          | (show XO _ _ _ (Oper.mk (some _) (_) _ _ _ none :: _) _ _ _; refine X.go rfl ?_)
          | (show XO _ _ _ [] _ _ _; refine X.nil ?_)
          | (show CW _ _ _ _ (Code.seq (Code.region _ _ false) _) _ _ _; refine W.rq ?_)
          | (show CW _ _ _ _ (Code.cond _ _ _) _ _ _; refine W.jpt (by (conv => lhs; whnf) <;> rfl) (by with_reducible rfl) (by first | omega | decide) ?_)
          | (show CW _ _ _ _ _ _ _ _; first | refine W.kn ?_ | refine W.bl ?_ | refine W.sq ?_)
          | (show KO _ _ _ _; refine K.sn ?_)
          | refine K.nx ?_
        refine W.lq (fun mz st => ∃ (r : Nat), st.env 0 = gB ks ∧ st.env 1 = gB boxL ∧ st.env 7 = .own 0 0 16 16 ∧ st.env 9 = .int .i64 ((m : Int) + 1) ∧ st.env 10 = .own 1 0 16 16 ∧ st.env 11 = .int .i64 c ∧ st.env 12 = .int .i64 r ∧ st.L = [Go.Pv.Obj.buf 1 0 ((s).map g8), Go.Pv.Obj.buf 1 0 ((fill (shiftB s) (List.replicate 16 (0 : UInt8)) (4 * c + r)).map g8)] ∧ (r ≤ 4) ∧ mz = 4 - r) ?_ ?_
        · refine ⟨_, 0, rfl, rfl, rfl, rfl, rfl, rfl, rfl, rfl, ?_, rfl⟩
          omega
        rintro mz env L ⟨r, e0, e1, e7, e9, e10, e11, e12, eL, hr, hm⟩
        dsimp only at e0 e1 e7 e9 e10 e11 e12 eL
        subst eL
        refine W.ev 0 e0 ?_
        refine W.ev 1 e1 ?_
        refine W.ev 7 e7 ?_
        refine W.ev 9 e9 ?_
        refine W.ev 10 e10 ?_
        refine W.ev 11 e11 ?_
        refine W.ev 12 e12 ?_
        have hft2 := fill_len (shiftB s) (List.replicate 16 (0 : UInt8)) (4 * c + r)
        rw [List.length_replicate] at hft2
        by_cases hr4 : r = 4
        · subst hr4
          repeat' first
            | (show XO _ _ _ (Oper.mk (some _) (Op.move _) _ _ _ none :: _) _ _ _; refine X.mv ?_)
            | (show XO _ _ _ (Oper.mk (some _) (Op.assign _) _ _ _ none :: _) _ _ _; refine X.as ?_)
            | (show XO _ _ _ (Oper.mk (some _) (Op.binOp BinOp.add _ _ _ _) _ _ _ none :: _) _ _ _; refine X.addI rfl rfl (by omega) ?_)
            | (show XO _ _ _ (Oper.mk (some _) (_) _ _ _ none :: _) _ _ _; refine X.go rfl ?_)
            | (show XO _ _ _ [] _ _ _; refine X.nil ?_)
            | (show CW _ _ _ _ (Code.seq (Code.region _ _ false) _) _ _ _; refine W.rq ?_)
            | (show CW _ _ _ _ (Code.region _ _ false) _ _ _; refine W.rz ?_)
            | (show CW _ _ _ _ (Code.cond _ _ _) _ _ _; refine W.jpf (by (conv => lhs; whnf) <;> rfl) (by with_reducible rfl) (by first | omega | decide) ?_)
            | (show CW _ _ _ _ _ _ _ _; first | refine W.ke ?_ | refine W.sq ?_)
            | (show KO _ _ _ _; first | refine K.sn ?_ | refine K.se ?_ | refine K.bn ?_ | refine K.be ?_ | refine K.le ?_ | refine K.ln _ ?_ ⟨c + 1, rfl, rfl, rfl, rfl, rfl, vI (by omega), by rw [show 4 * c + 4 = 4 * (c + 1) by omega], ?_, rfl⟩)
            | refine K.nx ?_
            | refine K.re ?_
          · exact hg3
          · omega
        · have hb2 := (rd s (4 * (((c : Int) + r) % 4) + r)).toNat_lt
          have hval : g8 (rd boxL ((rd s (4 * (((c : Int) + r) % 4) + r)).toNat : Int)) = g8 (shiftB s (4 * c + r)) := by
            unfold shiftB
            rw [show (((4 * c + r : Nat) : Int) + 4 * (((4 * c + r : Nat) : Int) % 4)) % 16 = 4 * (((c : Int) + r) % 4) + r by omega]
          repeat' first
            | (show XO _ _ _ (Oper.mk _ _ _ _ _ none :: _) _ _ _; first | refine X.iaN rfl rfl (by omega) rfl hsl ?_ | refine X.iaN rfl rfl (by omega) rfl hft2 ?_ | refine X.ldN (g := g8) rfl rfl (by omega) hsl ?_ | refine X.stN (shiftB s (4 * c + r)) rfl rfl hval (by omega) hft2 (fun _ => rfl) ?_)
            | (show XO _ _ _ (Oper.mk (some _) (Op.move _) _ _ _ none :: _) _ _ _; refine X.mv ?_)
            | (show XO _ _ _ (Oper.mk (some _) (Op.assign _) _ _ _ none :: _) _ _ _; refine X.as ?_)
            | (show XO _ _ _ (Oper.mk (some _) (Op.binOp BinOp.add _ _ _ _) _ _ _ none :: _) _ _ _; refine X.addI rfl rfl (by omega) ?_)
            | (show XO _ _ _ (Oper.mk (some _) (Op.binOp BinOp.mul _ _ _ _) _ _ _ none :: _) _ _ _; refine X.mulI rfl rfl (by omega) ?_)
            | (show XO _ _ _ (Oper.mk (some _) (Op.binOp BinOp.rem _ _ _ _) _ _ _ none :: _) _ _ _; refine X.remI rfl rfl (by omega) ?_)
            | (show XO _ _ _ (Oper.mk (some _) (Op.convert _ _ _) _ _ _ none :: _) _ _ _; refine X.cvI rfl rfl rfl (w64R (by omega)) ?_)
            | (show XO _ _ _ (Oper.mk (some _) (Op.indexAddr _ _ _) _ _ _ none :: _) _ _ _; refine X.iaS rfl rfl (by omega) ?_)
            | (show XO _ _ _ (Oper.mk (some _) (Op.load _ _) _ _ _ none :: _) _ _ _; refine X.go rfl ?_)
            | (show XO _ _ _ (Oper.mk (some _) (_) _ _ _ none :: _) _ _ _; refine X.go rfl ?_)
            | (show XO _ _ _ [] _ _ _; refine X.nil ?_)
            | (show CW _ _ _ _ (Code.seq (Code.region _ _ false) _) _ _ _; refine W.rq ?_)
            | (show CW _ _ _ _ (Code.region _ _ false) _ _ _; refine W.rz ?_)
            | (show CW _ _ _ _ (Code.cond _ _ _) _ _ _; refine W.jpt (by (conv => lhs; whnf) <;> rfl) (by with_reducible rfl) (by first | omega | decide) ?_)
            | (show CW _ _ _ _ _ _ _ _; first | refine W.kn ?_ | refine W.bl ?_ | refine W.sq ?_)
            | (show KO _ _ _ _; first | refine K.sn ?_ | refine K.bn ?_ | refine K.ln _ ?_ ⟨r + 1, rfl, rfl, rfl, rfl, rfl, rfl, vI (by omega), by rw [fill_set _ _ (4 * c + r) _ _ (by omega) rfl]; rfl, ?_, rfl⟩)
            | refine K.nx ?_
            | refine K.re ?_
          · omega
          · omega
  · have hval : g8 (rd b (i : Int) ^^^ rd ks (i : Int)) = g8 (xs b ks 0 i) := by
      unfold xs; rw [show 16 * ((0 : Nat) : Int) + (i : Int) = i by omega]
    repeat' first
      | (show XO _ _ _ (Oper.mk _ _ _ _ _ none :: _) _ _ _; first | refine X.iaN rfl rfl (by omega) rfl hfl ?_ | refine X.stN (xs b ks 0 i) rfl rfl hval (by omega) hfl (fun _ => rfl) ?_)
      | (show XO _ _ _ (Oper.mk (some _) (Op.move _) _ _ _ none :: _) _ _ _; refine X.mv ?_)
      | (show XO _ _ _ (Oper.mk (some _) (Op.assign _) _ _ _ none :: _) _ _ _; refine X.as ?_)
      | (show XO _ _ _ (Oper.mk (some _) (Op.binOp BinOp.add _ _ _ _) _ _ _ none :: _) _ _ _; refine X.addI rfl rfl (by omega) ?_)
      | (show XO _ _ _ (Oper.mk (some _) (_) _ _ _ none :: _) _ _ _; refine X.go rfl ?_)
      | (show XO _ _ _ [] _ _ _; refine X.nil ?_)
      | (show AO _ _ _ (Oper.mk _ _ _ _ _ none :: _) _ _ _; refine A.xor8 rfl rfl ?_)
      | (show AO _ _ _ (Oper.mk (some _) (Op.move _) _ _ _ none :: _) _ _ _; refine A.mv ?_)
      | (show AO _ _ _ (Oper.mk (some _) (Op.indexAddr _ _ _) _ _ _ none :: _) _ _ _; refine A.iaS rfl rfl (by omega) ?_)
      | (show AO _ _ _ (Oper.mk (some _) (Op.load _ _) _ _ _ none :: _) _ _ _; refine A.go rfl ?_)
      | (show AO _ _ _ [] _ _ _; refine A.nil ?_)
      | (show CW _ _ _ _ (Code.seq (Code.region _ _ false) _) _ _ _; refine W.rq ?_)
      | (show CW _ _ _ _ (Code.region _ _ false) _ _ _; refine W.rz ?_)
      | (show CW _ _ _ _ (Code.region _ _ true) _ _ _; refine W.dz 11 ?_)
      | (show CW _ _ _ _ (Code.cond _ _ _) _ _ _; refine W.jpt (by (conv => lhs; whnf) <;> rfl) (by with_reducible rfl) (by first | omega | decide) ?_)
      | (show CW _ _ _ _ _ _ _ _; first | refine W.kn ?_ | refine W.bl ?_ | refine W.sq ?_)
      | (show KO _ _ _ _; first | refine K.sn ?_ | refine K.bn ?_ | refine K.ln _ ?_ ⟨i + 1, rfl, rfl, rfl, rfl, vI (by omega), by rw [fill_set _ _ _ _ _ rfl rfl], ?_, rfl⟩)
      | refine K.nx ?_
      | refine K.re ?_
      | refine K.dr ?_
    · omega
    · omega
theorem lock (H : ZC Z) (ks b : List UInt8) (hks : ks.length = 176) (hb : b.length = 16) (L : List Go.Pv.Obj) : SE Try.prog Z 33 [gB ks, gB boxL, gB b] L (gB (lockS ks b)) L :=
  SE.lift (lock0 H ks b hks hb) L (by simp [V.lts, gB_data]) (gB_data _)
end Go.Proofs.Aes
end
section
set_option linter.unusedVariables false
set_option linter.unusedSimpArgs false
set_option maxHeartbeats 4000000
set_option maxRecDepth 100000
namespace Go.Proofs.Aes
open Go Go.Pv Go.Proofs
variable {Z : Nat → Go.Obj → Prop}
attribute [local irreducible] boxL mulU exE exW lockS numL
theorem frz1_sl {k : Nat} {L : List Go.Pv.Obj} (l : List UInt8) : frz1 k L (.sl false false (l.map g8)) = some (gB l) := by
  unfold frz1
  exact if_pos (gB_data l)
theorem refBlock (H : ZC Z) (key b : List UInt8) (L : List Go.Pv.Obj) : SE Try.prog Z 18 [gB key, gB b] L (.tup [gB (blockV key b).1, .int .i64 (blockV key b).2]) L := by
  by_cases hkb : key.length = 16 ∧ b.length = 16
  · have hv : blockV key b = (lockS (keysL key) b, 0) := if_pos hkb
    rw [hv]
    obtain ⟨hk, hb⟩ := hkb
    have hKL := keysL_len hk
    refine SE.data H Try.func18 rfl ?_
    repeat' first
      | (show XO _ _ _ (Oper.mk (some _) (Op.move _) _ _ _ none :: _) _ _ _; refine X.mv ?_)
      | (show XO _ _ _ (Oper.mk (some _) (Op.assign _) _ _ _ none :: _) _ _ _; refine X.as ?_)
      | (show XO _ _ _ (Oper.mk (some _) (Op.call (Call.mk (Callee.builtin Builtin.len) _ _)) _ _ _ none :: _) _ _ _; refine X.lnS rfl ?_)
      | (show XO _ _ _ (Oper.mk (some _) (Op.call _) _ _ _ none :: _) _ _ _; first | refine X.call (refBoxes H _) ?_ | refine X.call (refKeys H key hk _) ?_ | refine X.call (lock H (keysL key) b hKL hb _) ?_)
      | (show XO _ _ _ (Oper.mk (some _) (_) _ _ _ none :: _) _ _ _; refine X.go rfl ?_)
      | (show XO _ _ _ (Oper.mk _ _ _ _ _ (some _) :: _) _ _ _; first | refine X.hy rfl (by (conv => lhs; whnf) <;> rfl) (by first | with_reducible rfl | with_reducible exact notT | with_reducible exact notF) ?_ | refine X.hqf rfl (by (conv => lhs; whnf) <;> rfl) (by with_reducible rfl) (by first | omega | decide) ?_)
      | (show XO _ _ _ [] _ _ _; refine X.nil ?_)
      | (show CW _ _ _ _ (Code.seq (Code.region _ _ false) _) _ _ _; refine W.rq ?_)
      | (show CW _ _ _ _ (Code.cond _ _ _) _ _ _; refine W.jqf (by (conv => lhs; whnf) <;> rfl) (by with_reducible rfl) (by first | omega | decide) ?_)
      | (show CW _ _ _ _ _ _ _ _; first | refine W.kr ?_ | refine W.kn ?_ | refine W.sq ?_)
      | (show KO _ _ _ _; refine K.sn ?_)
      | refine K.nx ?_
    refine K.fin rfl ⟨[], (List.append_nil _).symm, (frz_tup2 (frz1_sl _) rfl)⟩
  · have hv : blockV key b = ([], 1) := if_neg hkb
    rw [hv]
    refine SE.weak (v := .tup [.sl true true [], .int .i64 1]) ?_ fun G r h => tw h
    refine SE.data H Try.func18 rfl ?_
    repeat' first
      | (show XO _ _ _ (Oper.mk (some _) (Op.move _) _ _ _ none :: _) _ _ _; refine X.mv ?_)
      | (show XO _ _ _ (Oper.mk (some _) (Op.assign _) _ _ _ none :: _) _ _ _; refine X.as ?_)
      | (show XO _ _ _ (Oper.mk (some _) (Op.call (Call.mk (Callee.builtin Builtin.len) _ _)) _ _ _ none :: _) _ _ _; refine X.lnS rfl ?_)
      | (show XO _ _ _ (Oper.mk (some _) (_) _ _ _ none :: _) _ _ _; refine X.go rfl ?_)
      | (show XO _ _ _ (Oper.mk _ _ _ _ _ (some _) :: _) _ _ _; first | refine X.hy rfl (by (conv => lhs; whnf) <;> rfl) (by first | with_reducible rfl | with_reducible exact notT | with_reducible exact notF) ?_ | refine X.hnt rfl (by (conv => lhs; whnf) <;> rfl) (by first | with_reducible rfl | with_reducible exact notT | with_reducible exact notF) ?_ | refine X.hq rfl (by (conv => lhs; whnf) <;> rfl) (by with_reducible rfl) (fun h => ?_) (fun h => ?_))
      | (show XO _ _ _ [] _ _ _; refine X.nil ?_)
      | (show CW _ _ _ _ (Code.seq (Code.region _ _ false) _) _ _ _; refine W.rq ?_)
      | (show CW _ _ _ _ (Code.cond _ _ _) _ _ _; first | refine W.jt (by (conv => lhs; whnf) <;> rfl) (by first | with_reducible rfl | with_reducible exact notT | with_reducible exact notF) ?_ | refine W.jqt (by (conv => lhs; whnf) <;> rfl) (by with_reducible rfl) (by first | omega | decide) ?_)
      | (show CW _ _ _ _ _ _ _ _; first | refine W.kr ?_ | refine W.sq ?_)
      | (show KO _ _ _ _; refine K.sr ?_)
      | refine K.nx ?_
    all_goals first | exact end_data rfl rfl rfl | exact absurd ⟨by omega, by omega⟩ hkb

theorem rk_part (ks : List UInt8) (n : Nat) : (ks.take (16 * (n : Int) + 16).toNat).drop (16 * (n : Int)).toNat = rk ks n := by
  unfold rk
  rw [show (16 * (n : Int) + 16).toNat = n * 16 + 16 by omega, show (16 * (n : Int)).toNat = n * 16 by omega, List.drop_take, show n * 16 + 16 - n * 16 = 16 by omega]
theorem refKeys1 (H : ZC Z) (key : List UInt8) : SE Try.prog Z 11 [gB key] [] (.tup [gBs (keysV key).1, .int .i64 (keysV key).2]) [] := by
  by_cases hk : key.length = 16
  · have hv : keysV key = ((List.range 11).map (rk (keysL key)), 0) := if_pos hk
    rw [hv]
    have hKL := keysL_len hk
    have hks := refKeys H key hk
    refine SE.data H Try.func11 rfl ?_
    generalize keysL key = ks at *
    repeat' first
      | (show XO _ _ _ (Oper.mk (some _) (Op.move _) _ _ _ none :: _) _ _ _; refine X.mv ?_)
      | (show XO _ _ _ (Oper.mk (some _) (Op.assign _) _ _ _ none :: _) _ _ _; refine X.as ?_)
      | (show XO _ _ _ (Oper.mk (some _) (Op.call (Call.mk (Callee.builtin Builtin.len) _ _)) _ _ _ none :: _) _ _ _; refine X.lnS rfl ?_)
      | (show XO _ _ _ (Oper.mk (some _) (Op.call _) _ _ _ none :: _) _ _ _; first | refine X.call (refBoxes H _) ?_ | refine X.call (hks _) ?_)
      | (show XO _ _ _ (Oper.mk (some _) (_) _ _ _ none :: _) _ _ _; refine X.go rfl ?_)
      | (show XO _ _ _ [] _ _ _; refine X.nil ?_)
      | (show CW _ _ _ _ (Code.seq (Code.region _ _ false) _) _ _ _; refine W.rq ?_)
      | (show CW _ _ _ _ (Code.cond _ _ _) _ _ _; refine W.jqf (by (conv => lhs; whnf) <;> rfl) (by with_reducible rfl) (by first | omega | decide) ?_)
      | (show CW _ _ _ _ _ _ _ _; first | refine W.kn ?_ | refine W.bl ?_ | refine W.sq ?_)
      | (show KO _ _ _ _; refine K.sn ?_)
      | refine K.nx ?_
    refine W.ghost 5 1 rfl ?_
    refine W.lqF 1 (fun mz st => ∃ (n : Nat), st.env 4 = gB ks ∧ st.env 5 = .own 0 0 (((List.range n).map (rk ks)).map gB).length (((List.range n).map (rk ks)).map gB).length ∧ st.env 6 = .int .i64 n ∧ st.L = [Go.Pv.Obj.buf 1 0 (((List.range n).map (rk ks)).map gB)] ∧ (n ≤ 11) ∧ mz = 11 - n) ?_ ?_
    · refine ⟨_, 0, rfl, rfl, rfl, rfl, ?_, rfl⟩
      omega
    rintro mz env L ⟨n, e4, e5, e6, eL, hI, hm⟩
    dsimp only at e4 e5 e6 eL
    subst eL
    refine W.ev 4 e4 ?_
    refine W.ev 5 e5 ?_
    refine W.ev 6 e6 ?_
    by_cases h : n = 11
    · subst h
      repeat' first
        | (show XO _ _ _ (Oper.mk (some _) (Op.move _) _ _ _ none :: _) _ _ _; refine X.mv ?_)
        | (show XO _ _ _ (Oper.mk (some _) (Op.assign _) _ _ _ none :: _) _ _ _; refine X.as ?_)
        | (show XO _ _ _ (Oper.mk (some _) (_) _ _ _ none :: _) _ _ _; refine X.go rfl ?_)
        | (show XO _ _ _ [] _ _ _; refine X.nil ?_)
        | (show CW _ _ _ _ (Code.seq (Code.region _ _ false) _) _ _ _; refine W.rq ?_)
        | (show CW _ _ _ _ (Code.cond _ _ _) _ _ _; refine W.jpf (by (conv => lhs; whnf) <;> rfl) (by with_reducible rfl) (by first | omega | decide) ?_)
        | (show CW _ _ _ _ _ _ _ _; first | refine W.kr ?_ | refine W.ke ?_ | refine W.sq ?_)
        | (show KO _ _ _ _; first | refine K.sn ?_ | refine K.se ?_ | refine K.be ?_ | refine K.le ?_)
        | refine K.nx ?_
      refine K.fin rfl ⟨_, rfl, (frz_tup2 (frz_own rfl (Nat.zero_le _) (map_data gB_data _)) rfl).trans ?_⟩
      rfl
    · have ow : (List.range (n + 1)).map (rk ks) = (List.range n).map (rk ks) ++ [rk ks n] := by rw [List.range_succ, List.map_append]; rfl
      have hr := rk_len hKL (n := n) (by omega)
      have hp := rk_part ks n
      repeat' first
        | (show XO _ _ _ (Oper.mk _ _ _ _ _ none :: _) _ _ _; first | refine X.sl2 (g := g8) (sz := 1) rfl rfl rfl (by omega) (fun _ => rfl) ?_ | refine X.apF0 (g := g8) (rk ks n) rfl (by rw [← hp]; rfl) (fun _ => rfl) (fun _ => rfl) (by omega) ?_ | refine X.ap1 (g := gB) (rk ks n) rfl rfl rfl (by rw [List.length_map, List.length_range]; omega) ?_)
        | (show XO _ _ _ (Oper.mk (some _) (Op.move _) _ _ _ none :: _) _ _ _; refine X.mv ?_)
        | (show XO _ _ _ (Oper.mk (some _) (Op.assign _) _ _ _ none :: _) _ _ _; refine X.as ?_)
        | (show XO _ _ _ (Oper.mk (some _) (Op.binOp BinOp.add _ _ _ _) _ _ _ none :: _) _ _ _; refine X.addI rfl rfl (by omega) ?_)
        | (show XO _ _ _ (Oper.mk (some _) (Op.binOp BinOp.mul _ _ _ _) _ _ _ none :: _) _ _ _; refine X.mulI rfl rfl (by omega) ?_)
        | (show XO _ _ _ (Oper.mk (some _) (Op.buildSlice _ _ _) _ _ _ none :: _) _ _ _; first | refine X.bs0 ?_ | refine X.bs1 (by (conv => lhs; whnf) <;> rfl) ?_)
        | (show XO _ _ _ (Oper.mk (some _) (_) _ _ _ none :: _) _ _ _; refine X.go rfl ?_)
        | (show XO _ _ _ [] _ _ _; refine X.nil ?_)
        | (show CW _ _ _ _ (Code.seq (Code.region _ _ false) _) _ _ _; refine W.rq ?_)
        | (show CW _ _ _ _ (Code.region _ _ false) _ _ _; refine W.rz ?_)
        | (show CW _ _ _ _ (Code.cond _ _ _) _ _ _; refine W.jpt (by (conv => lhs; whnf) <;> rfl) (by with_reducible rfl) (by first | omega | decide) ?_)
        | (show CW _ _ _ _ _ _ _ _; first | refine W.kn ?_ | refine W.bl ?_ | refine W.sq ?_)
        | (show KO _ _ _ _; first | refine K.sn ?_ | refine K.bn ?_ | refine K.fn _ ?_ [_] _ rfl rfl (by repeat' first | exact obs_nil | refine obs_cons ?_ ?_ | exact ob_buf (map_data gB_data _)) ⟨n + 1, cutv_sl (map_data g8_data _), by rw [ow]; rfl, vI (by omega), by rw [ow], ?_, rfl⟩)
        | refine K.nx ?_
        | refine K.re ?_
      · omega
      · omega
  · have hv : keysV key = ([], 1) := if_neg hk
    rw [hv]
    refine SE.weak (v := .tup [.sl true true [], .int .i64 1]) ?_ fun G r h => tw h
    refine SE.data H Try.func11 rfl ?_
    repeat' first
      | (show XO _ _ _ (Oper.mk (some _) (Op.move _) _ _ _ none :: _) _ _ _; refine X.mv ?_)
      | (show XO _ _ _ (Oper.mk (some _) (Op.assign _) _ _ _ none :: _) _ _ _; refine X.as ?_)
      | (show XO _ _ _ (Oper.mk (some _) (Op.call (Call.mk (Callee.builtin Builtin.len) _ _)) _ _ _ none :: _) _ _ _; refine X.lnS rfl ?_)
      | (show XO _ _ _ (Oper.mk (some _) (_) _ _ _ none :: _) _ _ _; refine X.go rfl ?_)
      | (show XO _ _ _ [] _ _ _; refine X.nil ?_)
      | (show CW _ _ _ _ (Code.seq (Code.region _ _ false) _) _ _ _; refine W.rq ?_)
      | (show CW _ _ _ _ (Code.cond _ _ _) _ _ _; refine W.jqt (by (conv => lhs; whnf) <;> rfl) (by with_reducible rfl) (by first | omega | decide) ?_)
      | (show CW _ _ _ _ _ _ _ _; first | refine W.kr ?_ | refine W.sq ?_)
      | (show KO _ _ _ _; refine K.sr ?_)
      | refine K.nx ?_
    exact end_data rfl rfl rfl
theorem refKeysL (H : ZC Z) (key : List UInt8) (L : List Go.Pv.Obj) : SE Try.prog Z 11 [gB key] L (.tup [gBs (keysV key).1, .int .i64 (keysV key).2]) L :=
  SE.lift (refKeys1 H key) L (by simp [V.lts, gB_data]) (by simp [V.lt, V.lts, gBs_data])

theorem refStream0 (H : ZC Z) (key nonce b : List UInt8) (hb : b.length ≤ 300) : SE Try.prog Z 20 [gB key, gB nonce, gB b] [] (.tup [gB (streamV key nonce b).1, .int .i64 (streamV key nonce b).2]) [] := by
  by_cases hkn : key.length = 16 ∧ nonce.length = 12
  · have hv : streamV key nonce b = (streamL (keysL key) nonce b, 0) := if_pos hkn
    rw [hv]
    obtain ⟨hk, hn⟩ := hkn
    have hKL := keysL_len hk
    have hks := refKeys H key hk
    by_cases hb0 : b.length = 0
    · have hs0 : streamL (keysL key) nonce b = [] := by unfold streamL; rw [hb0]; rfl
      rw [hs0]
      refine SE.weak (v := .tup [.sl true true [], .int .i64 0]) ?_ fun G r h => tw h
      refine SE.data H Try.func20 rfl ?_
      repeat' first
        | (show XO _ _ _ (Oper.mk (some _) (Op.move _) _ _ _ none :: _) _ _ _; refine X.mv ?_)
        | (show XO _ _ _ (Oper.mk (some _) (Op.assign _) _ _ _ none :: _) _ _ _; refine X.as ?_)
        | (show XO _ _ _ (Oper.mk (some _) (Op.call (Call.mk (Callee.builtin Builtin.len) _ _)) _ _ _ none :: _) _ _ _; refine X.lnS rfl ?_)
        | (show XO _ _ _ (Oper.mk (some _) (_) _ _ _ none :: _) _ _ _; refine X.go rfl ?_)
        | (show XO _ _ _ (Oper.mk _ _ _ _ _ (some _) :: _) _ _ _; first | refine X.hy rfl (by (conv => lhs; whnf) <;> rfl) (by first | with_reducible rfl | with_reducible exact notT | with_reducible exact notF) ?_ | refine X.hqf rfl (by (conv => lhs; whnf) <;> rfl) (by with_reducible rfl) (by first | omega | decide) ?_)
        | (show XO _ _ _ [] _ _ _; refine X.nil ?_)
        | (show CW _ _ _ _ (Code.seq (Code.region _ _ false) _) _ _ _; refine W.rq ?_)
        | (show CW _ _ _ _ (Code.cond _ _ _) _ _ _; first | refine W.jpt (by (conv => lhs; whnf) <;> rfl) (by with_reducible rfl) (by first | omega | decide) ?_ | refine W.jqf (by (conv => lhs; whnf) <;> rfl) (by with_reducible rfl) (by first | omega | decide) ?_)
        | (show CW _ _ _ _ _ _ _ _; first | refine W.kr ?_ | refine W.kn ?_ | refine W.sq ?_)
        | (show KO _ _ _ _; first | refine K.sn ?_ | refine K.sr ?_)
        | refine K.nx ?_
      all_goals exact end_data rfl rfl rfl
    · refine SE.data H Try.func20 rfl ?_
      generalize keysL key = ks at *
      repeat' first
        | (show XO _ _ _ (Oper.mk (some _) (Op.move _) _ _ _ none :: _) _ _ _; refine X.mv ?_)
        | (show XO _ _ _ (Oper.mk (some _) (Op.assign _) _ _ _ none :: _) _ _ _; refine X.as ?_)
        | (show XO _ _ _ (Oper.mk (some _) (Op.call (Call.mk (Callee.builtin Builtin.len) _ _)) _ _ _ none :: _) _ _ _; refine X.lnS rfl ?_)
        | (show XO _ _ _ (Oper.mk (some _) (Op.call _) _ _ _ none :: _) _ _ _; first | refine X.call (refBoxes H _) ?_ | refine X.call (hks _) ?_)
        | (show XO _ _ _ (Oper.mk (some _) (_) _ _ _ none :: _) _ _ _; refine X.go rfl ?_)
        | (show XO _ _ _ (Oper.mk _ _ _ _ _ (some _) :: _) _ _ _; first | refine X.hy rfl (by (conv => lhs; whnf) <;> rfl) (by first | with_reducible rfl | with_reducible exact notT | with_reducible exact notF) ?_ | refine X.hqf rfl (by (conv => lhs; whnf) <;> rfl) (by with_reducible rfl) (by first | omega | decide) ?_)
        | (show XO _ _ _ [] _ _ _; refine X.nil ?_)
        | (show CW _ _ _ _ (Code.seq (Code.region _ _ false) _) _ _ _; refine W.rq ?_)
        | (show CW _ _ _ _ (Code.cond _ _ _) _ _ _; first | refine W.jpf (by (conv => lhs; whnf) <;> rfl) (by with_reducible rfl) (by first | omega | decide) ?_ | refine W.jqf (by (conv => lhs; whnf) <;> rfl) (by with_reducible rfl) (by first | omega | decide) ?_)
        | (show CW _ _ _ _ _ _ _ _; first | refine W.kn ?_ | refine W.bl ?_ | refine W.sq ?_)
        | (show KO _ _ _ _; refine K.sn ?_)
        | refine K.nx ?_
      refine W.ghost 8 1 rfl ?_
      have hz0 : min (16 * 0) b.length = 0 := by omega
      refine W.lqF 1 (fun mz st => ∃ (j : Nat), st.env 1 = gB nonce ∧ st.env 2 = gB b ∧ st.env 8 = .own 0 0 (((List.range (min (16 * j) b.length)).map (streamB ks nonce b)).map g8).length (((List.range (min (16 * j) b.length)).map (streamB ks nonce b)).map g8).length ∧ st.env 9 = gB boxL ∧ st.env 10 = gB ks ∧ st.env 11 = .int .i64 (16 * (j : Int)) ∧ st.L = [Go.Pv.Obj.buf 1 0 (((List.range (min (16 * j) b.length)).map (streamB ks nonce b)).map g8)] ∧ (16 * j ≤ b.length + 15) ∧ mz = b.length + 16 - 16 * j) ?_ ?_
      · refine ⟨_, 0, rfl, rfl, by rw [hz0]; rfl, rfl, rfl, rfl, by rw [hz0]; rfl, ?_, rfl⟩
        omega
      rintro mz env L ⟨j, e1, e2, e8, e9, e10, e11, eL, hI, hm⟩
      dsimp only at e1 e2 e8 e9 e10 e11 eL
      subst eL
      refine W.ev 1 e1 ?_
      refine W.ev 2 e2 ?_
      refine W.ev 8 e8 ?_
      refine W.ev 9 e9 ?_
      refine W.ev 10 e10 ?_
      refine W.ev 11 e11 ?_
      by_cases hend : b.length ≤ 16 * j
      · have hmin : min (16 * j) b.length = b.length := by omega
        repeat' first
          | (show XO _ _ _ (Oper.mk (some _) (Op.move _) _ _ _ none :: _) _ _ _; refine X.mv ?_)
          | (show XO _ _ _ (Oper.mk (some _) (Op.assign _) _ _ _ none :: _) _ _ _; refine X.as ?_)
          | (show XO _ _ _ (Oper.mk (some _) (Op.call (Call.mk (Callee.builtin Builtin.len) _ _)) _ _ _ none :: _) _ _ _; refine X.lnS rfl ?_)
          | (show XO _ _ _ (Oper.mk (some _) (_) _ _ _ none :: _) _ _ _; refine X.go rfl ?_)
          | (show XO _ _ _ [] _ _ _; refine X.nil ?_)
          | (show CW _ _ _ _ (Code.seq (Code.region _ _ false) _) _ _ _; refine W.rq ?_)
          | (show CW _ _ _ _ (Code.cond _ _ _) _ _ _; refine W.jpf (by (conv => lhs; whnf) <;> rfl) (by with_reducible rfl) (by first | omega | decide) ?_)
          | (show CW _ _ _ _ _ _ _ _; first | refine W.kr ?_ | refine W.ke ?_ | refine W.sq ?_)
          | (show KO _ _ _ _; first | refine K.sn ?_ | refine K.se ?_ | refine K.be ?_ | refine K.le ?_)
          | refine K.nx ?_
        refine K.fin rfl ⟨_, rfl, (frz_tup2 (frz_own rfl (Nat.zero_le _) (map_data g8_data _)) rfl).trans ?_⟩
        rw [hmin]; rfl
      · have hg1 : 16 * (j + 1) ≤ b.length + 15 := by omega
        have hg2 : b.length + 16 - 16 * (j + 1) < mz := by omega
        have hz1 : min (16 * j) b.length = 16 * j := by omega
        have hnum := refNum H (j + 1) 4 (by omega) (by omega) (by omega) (by omega)
        rw [show ((j + 1 : Nat) : Int) = 16 * (j : Int) / 16 + 1 by omega] at hnum
        have hnl := numL_len (j + 1) 4
        have hsl : (nonce ++ numL (j + 1) 4).length = 16 := by rw [List.length_append, hn, hnl]
        have hlk := lock H ks (nonce ++ numL (j + 1) 4) hKL hsl
        have hll := lockS_len ks (nonce ++ numL (j + 1) 4)
        repeat' first
          | (show XO _ _ _ (Oper.mk _ _ _ _ _ none :: _) _ _ _; first | refine X.apO (g := g8) nonce rfl rfl (fun _ => rfl) (fun _ => rfl) (by omega) ?_ | refine X.apLF (g := g8) nonce (numL (j + 1) 4) rfl rfl rfl (fun _ => rfl) (fun _ => rfl) (by omega) ?_)
          | (show XO _ _ _ (Oper.mk (some _) (Op.move _) _ _ _ none :: _) _ _ _; refine X.mv ?_)
          | (show XO _ _ _ (Oper.mk (some _) (Op.assign _) _ _ _ none :: _) _ _ _; refine X.as ?_)
          | (show XO _ _ _ (Oper.mk (some _) (Op.call (Call.mk (Callee.builtin Builtin.len) _ _)) _ _ _ none :: _) _ _ _; refine X.lnS rfl ?_)
          | (show XO _ _ _ (Oper.mk (some _) (Op.call _) _ _ _ none :: _) _ _ _; first | refine X.call (hnum _) ?_ | refine X.call (hlk _) ?_)
          | (show XO _ _ _ (Oper.mk (some _) (Op.binOp BinOp.add _ _ _ _) _ _ _ none :: _) _ _ _; refine X.addI rfl rfl (by omega) ?_)
          | (show XO _ _ _ (Oper.mk (some _) (Op.binOp BinOp.quo _ _ _ _) _ _ _ none :: _) _ _ _; refine X.quoI rfl rfl (by omega) ?_)
          | (show XO _ _ _ (Oper.mk (some _) (Op.buildSlice _ _ _) _ _ _ none :: _) _ _ _; refine X.bs0 ?_)
          | (show XO _ _ _ (Oper.mk (some _) (_) _ _ _ none :: _) _ _ _; refine X.go rfl ?_)
          | (show XO _ _ _ [] _ _ _; refine X.nil ?_)
          | (show CW _ _ _ _ (Code.seq (Code.region _ _ false) _) _ _ _; refine W.rq ?_)
          | (show CW _ _ _ _ (Code.cond _ _ _) _ _ _; refine W.jpt (by (conv => lhs; whnf) <;> rfl) (by with_reducible rfl) (by first | omega | decide) ?_)
          | (show CW _ _ _ _ _ _ _ _; first | refine W.kn ?_ | refine W.bl ?_ | refine W.sq ?_)
          | (show KO _ _ _ _; refine K.sn ?_)
          | refine K.nx ?_
        refine W.lq (fun mz st => ∃ (i : Nat), st.env 1 = gB nonce ∧ st.env 2 = gB b ∧ st.env 8 = .own 0 0 (((List.range (i)).map (streamB ks nonce b)).map g8).length (((List.range (i)).map (streamB ks nonce b)).map g8).length ∧ st.env 9 = gB boxL ∧ st.env 10 = gB ks ∧ st.env 11 = .int .i64 (16 * (j : Int)) ∧ st.env 14 = gB (lockS ks (nonce ++ numL (j + 1) 4)) ∧ st.env 15 = .int .i64 i ∧ st.L = [Go.Pv.Obj.buf 1 0 (((List.range (i)).map (streamB ks nonce b)).map g8), .buf 1 16 ((nonce ++ numL (j + 1) 4).map g8)] ∧ (16 * j ≤ i ∧ i ≤ 16 * j + 16 ∧ i ≤ b.length) ∧ mz = b.length - i) ?_ ?_
        · refine ⟨_, 16 * j, rfl, rfl, by rw [hz1]; rfl, rfl, rfl, rfl, rfl, vI (by omega), by rw [hz1, ← hsl]; rfl, ?_, rfl⟩
          omega
        rintro mz env L ⟨i, e1, e2, e8, e9, e10, e11, e14, e15, eL, hi, hm⟩
        dsimp only at e1 e2 e8 e9 e10 e11 e14 e15 eL
        subst eL
        refine W.ev 1 e1 ?_
        refine W.ev 2 e2 ?_
        refine W.ev 8 e8 ?_
        refine W.ev 9 e9 ?_
        refine W.ev 10 e10 ?_
        refine W.ev 11 e11 ?_
        refine W.ev 14 e14 ?_
        refine W.ev 15 e15 ?_
        obtain ⟨i1, i2, i3⟩ := hi
        by_cases hd : i = 16 * j + 16 ∨ i = b.length
        · have hmn : min (16 * (j + 1)) b.length = i := by omega
          repeat' first
            | (show XO _ _ _ (Oper.mk (some _) (Op.move _) _ _ _ none :: _) _ _ _; refine X.mv ?_)
            | (show XO _ _ _ (Oper.mk (some _) (Op.assign _) _ _ _ none :: _) _ _ _; refine X.as ?_)
            | (show XO _ _ _ (Oper.mk (some _) (Op.call (Call.mk (Callee.builtin Builtin.len) _ _)) _ _ _ none :: _) _ _ _; refine X.lnS rfl ?_)
            | (show XO _ _ _ (Oper.mk (some _) (Op.binOp BinOp.add _ _ _ _) _ _ _ none :: _) _ _ _; refine X.addI rfl rfl (by omega) ?_)
            | (show XO _ _ _ (Oper.mk (some _) (_) _ _ _ none :: _) _ _ _; refine X.go rfl ?_)
            | (show XO _ _ _ (Oper.mk _ _ _ _ _ (some _) :: _) _ _ _; first | refine X.hy rfl (by (conv => lhs; whnf) <;> rfl) (by first | with_reducible rfl | with_reducible exact notT | with_reducible exact notF) ?_ | refine X.hnf rfl (by (conv => lhs; whnf) <;> rfl) (by first | with_reducible rfl | with_reducible exact notT | with_reducible exact notF) ?_ | refine X.hp rfl (by (conv => lhs; whnf) <;> rfl) (by with_reducible rfl) (fun h => ?_) (fun h => ?_))
            | (show XO _ _ _ [] _ _ _; refine X.nil ?_)
            | (show CW _ _ _ _ (Code.seq (Code.region _ _ false) _) _ _ _; refine W.rq ?_)
            | (show CW _ _ _ _ (Code.region _ _ false) _ _ _; refine W.rz ?_)
            | (show CW _ _ _ _ (Code.cond _ _ _) _ _ _; first | refine W.jf (by (conv => lhs; whnf) <;> rfl) (by first | with_reducible rfl | with_reducible exact notT | with_reducible exact notF) ?_ | refine W.jpf (by (conv => lhs; whnf) <;> rfl) (by with_reducible rfl) (by first | omega | decide) ?_)
            | (show CW _ _ _ _ _ _ _ _; first | refine W.ke ?_ | refine W.sq ?_)
            | (show KO _ _ _ _; first | refine K.sn ?_ | refine K.se ?_ | refine K.bn ?_ | refine K.be ?_ | refine K.le ?_ | refine K.fn _ ?_ [_] _ rfl rfl (by repeat' first | exact obs_nil | refine obs_cons ?_ ?_ | exact ob_buf (map_data g8_data _)) ⟨j + 1, cutv_sl (map_data g8_data _), cutv_sl (map_data g8_data _), by rw [hmn]; rfl, cutv_sl (map_data g8_data _), cutv_sl (map_data g8_data _), vI (by omega), by rw [hmn], ?_, rfl⟩)
            | refine K.nx ?_
            | refine K.re ?_
          all_goals first | exact hg2 | exact hg1
        · have hval : g8 (rd b (i : Int) ^^^ rd (lockS ks (nonce ++ numL (j + 1) 4)) ((i : Int) - 16 * (j : Int))) = g8 (streamB ks nonce b i) := by
            unfold streamB
            rw [show i / 16 = j by omega, show ((i % 16 : Nat) : Int) = (i : Int) - 16 * (j : Int) by omega]
          have ow : (List.range (i + 1)).map (streamB ks nonce b) = (List.range i).map (streamB ks nonce b) ++ [streamB ks nonce b i] := by rw [List.range_succ, List.map_append]; rfl
          repeat' first
            | (show XO _ _ _ (Oper.mk _ _ _ _ _ none :: _) _ _ _; refine X.ap1 (g := g8) (streamB ks nonce b i) rfl rfl (by rw [← hval]; rfl) (by rw [List.length_map, List.length_range]; omega) ?_)
            | (show XO _ _ _ (Oper.mk (some _) (Op.move _) _ _ _ none :: _) _ _ _; refine X.mv ?_)
            | (show XO _ _ _ (Oper.mk (some _) (Op.assign _) _ _ _ none :: _) _ _ _; refine X.as ?_)
            | (show XO _ _ _ (Oper.mk (some _) (Op.call (Call.mk (Callee.builtin Builtin.len) _ _)) _ _ _ none :: _) _ _ _; refine X.lnS rfl ?_)
            | (show XO _ _ _ (Oper.mk (some _) (Op.binOp BinOp.add _ _ _ _) _ _ _ none :: _) _ _ _; refine X.addI rfl rfl (by omega) ?_)
            | (show XO _ _ _ (Oper.mk (some _) (_) _ _ _ none :: _) _ _ _; refine X.go rfl ?_)
            | (show XO _ _ _ (Oper.mk _ _ _ _ _ (some _) :: _) _ _ _; first | refine X.hy rfl (by (conv => lhs; whnf) <;> rfl) (by first | with_reducible rfl | with_reducible exact notT | with_reducible exact notF) ?_ | refine X.hpt rfl (by (conv => lhs; whnf) <;> rfl) (by with_reducible rfl) (by first | omega | decide) ?_)
            | (show XO _ _ _ [] _ _ _; refine X.nil ?_)
            | (show AO _ _ _ (Oper.mk _ _ _ _ _ none :: _) _ _ _; refine A.xor8 rfl rfl ?_)
            | (show AO _ _ _ (Oper.mk (some _) (Op.move _) _ _ _ none :: _) _ _ _; refine A.mv ?_)
            | (show AO _ _ _ (Oper.mk (some _) (Op.binOp BinOp.sub _ _ _ _) _ _ _ none :: _) _ _ _; refine A.subI rfl rfl (by omega) ?_)
            | (show AO _ _ _ (Oper.mk (some _) (Op.buildSlice _ _ _) _ _ _ none :: _) _ _ _; refine A.bs1 (by (conv => lhs; whnf) <;> rfl) ?_)
            | (show AO _ _ _ (Oper.mk (some _) (Op.indexAddr _ _ _) _ _ _ none :: _) _ _ _; refine A.iaS rfl rfl (by omega) ?_)
            | (show AO _ _ _ (Oper.mk (some _) (Op.load _ _) _ _ _ none :: _) _ _ _; refine A.go rfl ?_)
            | (show AO _ _ _ [] _ _ _; refine A.nil ?_)
            | (show CW _ _ _ _ (Code.seq (Code.region _ _ false) _) _ _ _; refine W.rq ?_)
            | (show CW _ _ _ _ (Code.region _ _ false) _ _ _; refine W.rz ?_)
            | (show CW _ _ _ _ (Code.region _ _ true) _ _ _; refine W.dz 13 ?_)
            | (show CW _ _ _ _ (Code.cond _ _ _) _ _ _; refine W.jpt (by (conv => lhs; whnf) <;> rfl) (by with_reducible rfl) (by first | omega | decide) ?_)
            | (show CW _ _ _ _ _ _ _ _; first | refine W.kn ?_ | refine W.bl ?_ | refine W.sq ?_)
            | (show KO _ _ _ _; first | refine K.sn ?_ | refine K.bn ?_ | refine K.ln _ ?_ ⟨i + 1, rfl, rfl, by rw [ow]; rfl, rfl, rfl, rfl, rfl, vI (by omega), by rw [ow], ?_, rfl⟩)
            | refine K.nx ?_
            | refine K.re ?_
            | refine K.dr ?_
          · omega
          · omega
  · have hv : streamV key nonce b = ([], 1) := if_neg hkn
    rw [hv]
    refine SE.weak (v := .tup [.sl true true [], .int .i64 1]) ?_ fun G r h => tw h
    refine SE.data H Try.func20 rfl ?_
    repeat' first
      | (show XO _ _ _ (Oper.mk (some _) (Op.move _) _ _ _ none :: _) _ _ _; refine X.mv ?_)
      | (show XO _ _ _ (Oper.mk (some _) (Op.assign _) _ _ _ none :: _) _ _ _; refine X.as ?_)
      | (show XO _ _ _ (Oper.mk (some _) (Op.call (Call.mk (Callee.builtin Builtin.len) _ _)) _ _ _ none :: _) _ _ _; refine X.lnS rfl ?_)
      | (show XO _ _ _ (Oper.mk (some _) (_) _ _ _ none :: _) _ _ _; refine X.go rfl ?_)
      | (show XO _ _ _ (Oper.mk _ _ _ _ _ (some _) :: _) _ _ _; first | refine X.hy rfl (by (conv => lhs; whnf) <;> rfl) (by first | with_reducible rfl | with_reducible exact notT | with_reducible exact notF) ?_ | refine X.hnt rfl (by (conv => lhs; whnf) <;> rfl) (by first | with_reducible rfl | with_reducible exact notT | with_reducible exact notF) ?_ | refine X.hq rfl (by (conv => lhs; whnf) <;> rfl) (by with_reducible rfl) (fun h => ?_) (fun h => ?_))
      | (show XO _ _ _ [] _ _ _; refine X.nil ?_)
      | (show CW _ _ _ _ (Code.seq (Code.region _ _ false) _) _ _ _; refine W.rq ?_)
      | (show CW _ _ _ _ (Code.cond _ _ _) _ _ _; first | refine W.jt (by (conv => lhs; whnf) <;> rfl) (by first | with_reducible rfl | with_reducible exact notT | with_reducible exact notF) ?_ | refine W.jqt (by (conv => lhs; whnf) <;> rfl) (by with_reducible rfl) (by first | omega | decide) ?_)
      | (show CW _ _ _ _ _ _ _ _; first | refine W.kr ?_ | refine W.sq ?_)
      | (show KO _ _ _ _; refine K.sr ?_)
      | refine K.nx ?_
    all_goals first | exact end_data rfl rfl rfl | exact absurd ⟨by omega, by omega⟩ hkn
theorem refStream (H : ZC Z) (key nonce b : List UInt8) (hb : b.length ≤ 300) (L : List Go.Pv.Obj) : SE Try.prog Z 20 [gB key, gB nonce, gB b] L (.tup [gB (streamV key nonce b).1, .int .i64 (streamV key nonce b).2]) L :=
  SE.lift (refStream0 H key nonce b hb) L (by simp [V.lts, gB_data]) (by simp [V.lt, V.lts, gB_data])
end Go.Proofs.Aes
end
section
/- Strings: parts, one behind the other. -/
set_option linter.unusedVariables false
set_option linter.unusedSimpArgs false
set_option linter.unusedSectionVars false
namespace Go.Pv
variable {P : Program} {Z : Nat → Go.Obj → Prop}
section
variable {ops : Array Oper} {rest : List Oper} {env : Nat → V} {L L' : List Obj} {K : St → Prop} {d : Tmp} {ty t t' : TypeId} {pos : String} {af : Array Edge} {x y lo hi : Operand} {s s' : ByteArray} {p q : Int} {k k' : IntKind}
theorem pop_slT (hx : St.ev ⟨env, L⟩ x = .str s) (hlo : St.ev ⟨env, L⟩ lo = .int k p) (hhi : St.ev ⟨env, L⟩ hi = .int k' q) (h : 0 ≤ p ∧ p ≤ q ∧ q ≤ (s.size : Int)) (ht : P.underlying t = some .string) :
    pop P L (St.ev ⟨env, L⟩) (.slice t x (some lo) (some hi) none) = some (.str (s.extract p.toNat q.toNat), L) := by
  have h2 : (0 : Int) ≤ q := by omega
  have h3 : p.toNat ≤ q.toNat ∧ q.toNat ≤ s.size := by omega
  simp only [pop, Option.map_some, Option.map_none, pslice, ht, hx, hlo, hhi, pbounds, toNat?, h.1, h2, if_true]
  rw [if_pos h3]; rfl
theorem X.slT (hx : St.ev ⟨env, L⟩ x = .str s) (hlo : St.ev ⟨env, L⟩ lo = .int k p) (hhi : St.ev ⟨env, L⟩ hi = .int k' q) (h : 0 ≤ p ∧ p ≤ q ∧ q ≤ (s.size : Int)) (hK : XO P Z ops rest (upd env d (.str (s.extract p.toNat q.toNat))) L K) (ht : P.underlying t = some .string := by rfl) :
    XO P Z ops (⟨some d, .slice t x (some lo) (some hi) none, ty, pos, af, none⟩ :: rest) env L K := X.go0 (pop_slT hx hlo hhi h ht) hK
theorem A.slT (hx : St.ev ⟨env, L⟩ x = .str s) (hlo : St.ev ⟨env, L⟩ lo = .int k p) (hhi : St.ev ⟨env, L⟩ hi = .int k' q) (h : 0 ≤ p ∧ p ≤ q ∧ q ≤ (s.size : Int)) (hK : AO P Z ops rest (upd env d (.str (s.extract p.toNat q.toNat))) L K) (ht : P.underlying t = some .string := by rfl) :
    AO P Z ops (⟨some d, .slice t x (some lo) (some hi) none, ty, pos, af, none⟩ :: rest) env L K := A.go0 (pop_slT hx hlo hhi h ht) hK
theorem X.adT (hx : St.ev ⟨env, L⟩ x = .str s) (hy : St.ev ⟨env, L⟩ y = .str s') (h : s.size + s'.size ≤ 9223372036854775807) (hK : XO P Z ops rest (upd env d (.str (s ++ s'))) L K) :
    XO P Z ops (⟨some d, .binOp .add t x y t', ty, pos, af, none⟩ :: rest) env L K := X.go0 (by simp only [pop, hx, hy, pbin, pstr, if_pos h]; rfl) hK
theorem A.adT (hx : St.ev ⟨env, L⟩ x = .str s) (hy : St.ev ⟨env, L⟩ y = .str s') (h : s.size + s'.size ≤ 9223372036854775807) (hK : AO P Z ops rest (upd env d (.str (s ++ s'))) L K) :
    AO P Z ops (⟨some d, .binOp .add t x y t', ty, pos, af, none⟩ :: rest) env L K := A.go0 (by simp only [pop, hx, hy, pbin, pstr, if_pos h]; rfl) hK
end
/-- Bytes, as a string. -/
def bS (l : List UInt8) : ByteArray := ⟨l.toArray⟩
theorem bS_size (l : List UInt8) : (bS l).size = l.length := by simp [bS, ByteArray.size]
theorem bS_app (l l' : List UInt8) : bS l ++ bS l' = bS (l ++ l') := by
  apply ByteArray.ext
  simp [bS]
theorem bS_ext (l : List UInt8) (a b : Nat) : (bS l).extract a b = bS ((l.take b).drop a) := by
  apply ByteArray.ext
  simp [bS, ByteArray.data_extract, List.extract_toArray, List.drop_take]
theorem bS_inj {l l' : List UInt8} (h : bS l = bS l') : l = l' := by
  have := congrArg (fun b : ByteArray => b.data.toList) h
  simpa [bS] using this
end Go.Pv
end
section
set_option linter.unusedVariables false
set_option linter.unusedSimpArgs false
set_option maxHeartbeats 4000000
set_option maxRecDepth 100000
namespace Go.Proofs.Aes
open Go Go.Pv Go.Proofs
variable {Z : Nat → Go.Obj → Prop}
attribute [local irreducible] boxL mulU exE exW lockS numL
def figL : List UInt8 := [48, 49, 50, 51, 52, 53, 54, 55, 56, 57, 97, 98, 99, 100, 101, 102]
/-- The figure of a number below sixteen. -/
def fig (n : Nat) : UInt8 := figL.getD n 0
theorem fig_cut : ∀ n, n < 16 → (figL.take (n + 1)).drop n = [fig n] := by decide +kernel
theorem figure (H : ZC Z) (n : Nat) (h : n < 16) (L : List Go.Pv.Obj) : SE Try.prog Z 36 [.int .i64 n] L (.str (bS [fig n])) L := by
  refine SE.data H Try.func36 rfl ?_
  repeat' first
    | (show XO _ _ _ (Oper.mk _ _ _ _ _ none :: _) _ _ _; refine X.slT (s := bS figL) rfl rfl rfl (by rw [bS_size]; exact ⟨by omega, by omega, by show (n : Int) + 1 ≤ 16; omega⟩) ?_)
    | (show XO _ _ _ (Oper.mk (some _) (Op.move _) _ _ _ none :: _) _ _ _; refine X.mv ?_)
    | (show XO _ _ _ (Oper.mk (some _) (Op.assign _) _ _ _ none :: _) _ _ _; refine X.as ?_)
    | (show XO _ _ _ (Oper.mk (some _) (Op.binOp BinOp.add _ _ _ _) _ _ _ none :: _) _ _ _; refine X.addI rfl rfl (by omega) ?_)
    | (show XO _ _ _ [] _ _ _; refine X.nil ?_)
    | (show CW _ _ _ _ (Code.seq (Code.region _ _ false) _) _ _ _; refine W.rq ?_)
    | (show CW _ _ _ _ _ _ _ _; refine W.kr ?_)
    | refine K.nx ?_
  refine end_data rfl rfl ?_
  rw [← fig_cut n h, ← bS_ext]; rfl
/-- Bytes as text: two figures a byte. -/
def hexL (l : List UInt8) : List UInt8 := l.flatMap fun b => [fig (b.toNat / 16), fig (b.toNat % 16)]
theorem hexL_len (l : List UInt8) : (hexL l).length = 2 * l.length := by
  induction l with
  | nil => rfl
  | cons a l ih => simp only [hexL, List.flatMap_cons, List.length_append, List.length_cons, List.length_nil] at *; omega
theorem hexL_app (l l' : List UInt8) : hexL (l ++ l') = hexL l ++ hexL l' := List.flatMap_append

theorem text0 (H : ZC Z) (x : List UInt8) (nl ex : Bool) (hx : x.length ≤ 1000) : SE Try.prog Z 23 [.sl nl ex (x.map g8)] [] (.str (bS (hexL x))) [] := by
  refine SE.data H Try.func23 rfl ?_
  repeat' first
    | (show XO _ _ _ (Oper.mk (some _) (Op.assign _) _ _ _ none :: _) _ _ _; refine X.as ?_)
    | (show XO _ _ _ [] _ _ _; refine X.nil ?_)
    | (show CW _ _ _ _ (Code.seq (Code.region _ _ false) _) _ _ _; refine W.rq ?_)
    | (show CW _ _ _ _ _ _ _ _; first | refine W.bl ?_ | refine W.sq ?_)
    | refine K.nx ?_
  refine W.lq (fun mz st => ∃ (i : Nat), st.env 0 = .sl nl ex (x.map g8) ∧ st.env 3 = .str (bS (hexL (x.take i))) ∧ st.env 4 = .int .i64 i ∧ st.L = [] ∧ (i ≤ x.length) ∧ mz = x.length - i) ?_ ?_
  · refine ⟨_, 0, rfl, rfl, rfl, rfl, ?_, rfl⟩
    omega
  rintro mz env L ⟨i, e0, e3, e4, eL, hI, hm⟩
  dsimp only at e0 e3 e4 eL
  subst eL
  refine W.ev 0 e0 ?_
  refine W.ev 3 e3 ?_
  refine W.ev 4 e4 ?_
  by_cases h : i = x.length
  · subst h
    repeat' first
      | (show XO _ _ _ (Oper.mk (some _) (Op.move _) _ _ _ none :: _) _ _ _; refine X.mv ?_)
      | (show XO _ _ _ (Oper.mk (some _) (Op.assign _) _ _ _ none :: _) _ _ _; refine X.as ?_)
      | (show XO _ _ _ (Oper.mk (some _) (Op.call (Call.mk (Callee.builtin Builtin.len) _ _)) _ _ _ none :: _) _ _ _; refine X.lnS rfl ?_)
      | (show XO _ _ _ (Oper.mk (some _) (_) _ _ _ none :: _) _ _ _; refine X.go rfl ?_)
      | (show XO _ _ _ [] _ _ _; refine X.nil ?_)
      | (show CW _ _ _ _ (Code.seq (Code.region _ _ false) _) _ _ _; refine W.rq ?_)
      | (show CW _ _ _ _ (Code.cond _ _ _) _ _ _; refine W.jpf (by (conv => lhs; whnf) <;> rfl) (by with_reducible rfl) (by first | omega | decide) ?_)
      | (show CW _ _ _ _ _ _ _ _; first | refine W.kr ?_ | refine W.ke ?_ | refine W.sq ?_)
      | (show KO _ _ _ _; first | refine K.sn ?_ | refine K.se ?_ | refine K.be ?_ | refine K.le ?_)
      | refine K.nx ?_
    refine end_data rfl rfl ?_
    rw [List.take_length]; rfl
  · have hr : (rd x (i : Int)).toNat < 256 := (rd x (i : Int)).toNat_lt
    have ow : x.take (i + 1) = x.take i ++ [rd x (i : Int)] := by
      rw [List.take_add_one]; unfold rd; simp [List.getElem?_eq_getElem (show i < x.length by omega)]
    have hl : (x.take i).length = i := by rw [List.length_take]; omega
    have f1 := figure H ((rd x (i : Int)).toNat / 16) (by omega)
    have f2 := figure H ((rd x (i : Int)).toNat % 16) (by omega)
    rw [show (((rd x (i : Int)).toNat / 16 : Nat) : Int) = ((rd x (i : Int)).toNat : Int) / 16 by omega] at f1
    rw [show (((rd x (i : Int)).toNat % 16 : Nat) : Int) = ((rd x (i : Int)).toNat : Int) % 16 by omega] at f2
    have s1 : (bS (hexL (x.take i))).size = 2 * i := by rw [bS_size, hexL_len, hl]
    have s2 : ∀ n, (bS [fig n]).size = 1 := fun n => bS_size _
    have s3 : ∀ n, (bS (hexL (x.take i)) ++ bS [fig n]).size = 2 * i + 1 := fun n => by rw [bS_app, bS_size, List.length_append, hexL_len, hl]; rfl
    have hb : bS (hexL (x.take i)) ++ bS [fig ((rd x (i : Int)).toNat / 16)] ++ bS [fig ((rd x (i : Int)).toNat % 16)] = bS (hexL (x.take (i + 1))) := by
      rw [ow, hexL_app, bS_app, bS_app, List.append_assoc]; rfl
    repeat' first
      | (show XO _ _ _ (Oper.mk (some _) (Op.move _) _ _ _ none :: _) _ _ _; refine X.mv ?_)
      | (show XO _ _ _ (Oper.mk (some _) (Op.assign _) _ _ _ none :: _) _ _ _; refine X.as ?_)
      | (show XO _ _ _ (Oper.mk (some _) (Op.call (Call.mk (Callee.builtin Builtin.len) _ _)) _ _ _ none :: _) _ _ _; refine X.lnS rfl ?_)
      | (show XO _ _ _ (Oper.mk (some _) (Op.binOp BinOp.add _ _ _ _) _ _ _ none :: _) _ _ _; refine X.addI rfl rfl (by omega) ?_)
      | (show XO _ _ _ (Oper.mk (some _) (_) _ _ _ none :: _) _ _ _; refine X.go rfl ?_)
      | (show XO _ _ _ [] _ _ _; refine X.nil ?_)
      | (show AO _ _ _ (Oper.mk _ _ _ _ _ none :: _) _ _ _; refine A.adT rfl rfl (by first | (rw [s1, s2]; omega) | (rw [s3, s2]; omega)) ?_)
      | (show AO _ _ _ (Oper.mk (some _) (Op.move _) _ _ _ none :: _) _ _ _; refine A.mv ?_)
      | (show AO _ _ _ (Oper.mk (some _) (Op.call _) _ _ _ none :: _) _ _ _; first | refine A.call (f1 _) ?_ | refine A.call (f2 _) ?_)
      | (show AO _ _ _ (Oper.mk (some _) (Op.binOp BinOp.quo _ _ _ _) _ _ _ none :: _) _ _ _; refine A.quoI rfl rfl (by omega) ?_)
      | (show AO _ _ _ (Oper.mk (some _) (Op.binOp BinOp.rem _ _ _ _) _ _ _ none :: _) _ _ _; refine A.remI rfl rfl (by omega) ?_)
      | (show AO _ _ _ (Oper.mk (some _) (Op.convert _ _ _) _ _ _ none :: _) _ _ _; refine A.cvI rfl rfl rfl (w64R (by omega)) ?_)
      | (show AO _ _ _ (Oper.mk (some _) (Op.indexAddr _ _ _) _ _ _ none :: _) _ _ _; refine A.iaS rfl rfl (by omega) ?_)
      | (show AO _ _ _ (Oper.mk (some _) (Op.load _ _) _ _ _ none :: _) _ _ _; refine A.go rfl ?_)
      | (show AO _ _ _ [] _ _ _; refine A.nil ?_)
      | (show CW _ _ _ _ (Code.seq (Code.region _ _ false) _) _ _ _; refine W.rq ?_)
      | (show CW _ _ _ _ (Code.region _ _ false) _ _ _; refine W.rz ?_)
      | (show CW _ _ _ _ (Code.region _ _ true) _ _ _; refine W.dz 17 ?_)
      | (show CW _ _ _ _ (Code.cond _ _ _) _ _ _; refine W.jpt (by (conv => lhs; whnf) <;> rfl) (by with_reducible rfl) (by first | omega | decide) ?_)
      | (show CW _ _ _ _ _ _ _ _; first | refine W.kn ?_ | refine W.bl ?_ | refine W.sq ?_)
      | (show KO _ _ _ _; first | refine K.sn ?_ | refine K.bn ?_ | refine K.ln _ ?_ ⟨i + 1, rfl, by rw [← hb]; rfl, vI (by omega), rfl, ?_, rfl⟩)
      | refine K.nx ?_
      | refine K.re ?_
      | refine K.dr ?_
    all_goals omega
theorem text (H : ZC Z) (x : List UInt8) (nl ex : Bool) (hx : x.length ≤ 1000) (L : List Go.Pv.Obj) : SE Try.prog Z 23 [.sl nl ex (x.map g8)] L (.str (bS (hexL x))) L :=
  SE.lift (text0 H x nl ex hx) L (by simp [V.lts, V.lt, map_data g8_data]) (by simp [V.lt])
end Go.Proofs.Aes
end
section
set_option linter.unusedVariables false
set_option linter.unusedSimpArgs false
set_option maxHeartbeats 4000000
set_option maxRecDepth 100000
namespace Go.Proofs.Aes
open Go Go.Pv Go.Proofs
variable {Z : Nat → Go.Obj → Prop}
attribute [local irreducible] boxL mulU exE exW lockS numL
theorem fig_inj : ∀ a, a < 16 → ∀ b, b < 16 → fig a = fig b → a = b := by decide +kernel
theorem hex1_inj {a b : UInt8} (h : hexL [a] = hexL [b]) : a = b := by
  have h1 : [fig (a.toNat / 16), fig (a.toNat % 16)] = [fig (b.toNat / 16), fig (b.toNat % 16)] := h
  have ha := a.toNat_lt
  have hb := b.toNat_lt
  injection h1 with p q
  injection q with q _
  have e1 := fig_inj _ (by omega) _ (by omega) p
  have e2 := fig_inj _ (by omega) _ (by omega) q
  exact UInt8.toNat_inj.1 (by omega)
theorem hex_cut (r : List UInt8) (j : Nat) (h : j < r.length) : ((hexL r).take (2 * j + 2)).drop (2 * j) = hexL [rd r (j : Int)] := by
  have e : r = r.take j ++ ([rd r (j : Int)] ++ r.drop (j + 1)) := by
    unfold rd
    simp [List.getElem?_eq_getElem h, List.getD_eq_getElem?_getD]
  have hl : (hexL (r.take j)).length = 2 * j := by rw [hexL_len, List.length_take]; omega
  conv => lhs; rw [e]
  rw [hexL_app, hexL_app, List.drop_take, List.drop_append_of_le_length (by omega), List.drop_eq_nil_of_le (by omega), List.nil_append, show 2 * j + 2 - 2 * j = 2 by omega]
  rfl

theorem bytes0 (H : ZC Z) (r : List UInt8) (hr : r.length ≤ 300) : SE Try.prog Z 22 [.str (bS (hexL r))] [] (.tup [gB r, .int .i64 0]) [] := by
  have hs : (bS (hexL r)).size = 2 * r.length := by rw [bS_size, hexL_len]
  refine SE.data H Try.func22 rfl ?_
  repeat' first
    | (show XO _ _ _ (Oper.mk (some _) (Op.move _) _ _ _ none :: _) _ _ _; refine X.mv ?_)
    | (show XO _ _ _ (Oper.mk (some _) (Op.assign _) _ _ _ none :: _) _ _ _; refine X.as ?_)
    | (show XO _ _ _ (Oper.mk (some _) (Op.call (Call.mk (Callee.builtin Builtin.len) _ _)) _ _ _ none :: _) _ _ _; refine X.go rfl ?_)
    | (show XO _ _ _ (Oper.mk (some _) (Op.binOp BinOp.rem _ _ _ _) _ _ _ none :: _) _ _ _; refine X.remI rfl rfl (by omega) ?_)
    | (show XO _ _ _ (Oper.mk (some _) (_) _ _ _ none :: _) _ _ _; refine X.go rfl ?_)
    | (show XO _ _ _ [] _ _ _; refine X.nil ?_)
    | (show CW _ _ _ _ (Code.seq (Code.region _ _ false) _) _ _ _; refine W.rq ?_)
    | (show CW _ _ _ _ (Code.cond _ _ _) _ _ _; refine W.jpf (by (conv => lhs; whnf) <;> rfl) (by with_reducible rfl) (by first | omega | decide) ?_)
    | (show CW _ _ _ _ _ _ _ _; first | refine W.kn ?_ | refine W.bl ?_ | refine W.sq ?_)
    | (show KO _ _ _ _; refine K.sn ?_)
    | refine K.nx ?_
  refine W.ghost 4 1 rfl ?_
  refine W.lqF 1 (fun mz st => ∃ (j : Nat), st.env 0 = .str (bS (hexL r)) ∧ st.env 4 = .own 0 0 ((r.take j).map g8).length ((r.take j).map g8).length ∧ st.env 5 = .int .i64 (2 * (j : Int)) ∧ st.L = [Go.Pv.Obj.buf 1 0 ((r.take j).map g8)] ∧ (j ≤ r.length) ∧ mz = r.length - j) ?_ ?_
  · refine ⟨_, 0, rfl, rfl, rfl, rfl, ?_, rfl⟩
    omega
  rintro mz env L ⟨j, e0, e4, e5, eL, hI, hm⟩
  dsimp only at e0 e4 e5 eL
  subst eL
  refine W.ev 0 e0 ?_
  refine W.ev 4 e4 ?_
  refine W.ev 5 e5 ?_
  by_cases h : j = r.length
  · subst h
    repeat' first
      | (show XO _ _ _ (Oper.mk (some _) (Op.move _) _ _ _ none :: _) _ _ _; refine X.mv ?_)
      | (show XO _ _ _ (Oper.mk (some _) (Op.assign _) _ _ _ none :: _) _ _ _; refine X.as ?_)
      | (show XO _ _ _ (Oper.mk (some _) (Op.call (Call.mk (Callee.builtin Builtin.len) _ _)) _ _ _ none :: _) _ _ _; refine X.go rfl ?_)
      | (show XO _ _ _ (Oper.mk (some _) (_) _ _ _ none :: _) _ _ _; refine X.go rfl ?_)
      | (show XO _ _ _ [] _ _ _; refine X.nil ?_)
      | (show CW _ _ _ _ (Code.seq (Code.region _ _ false) _) _ _ _; refine W.rq ?_)
      | (show CW _ _ _ _ (Code.cond _ _ _) _ _ _; refine W.jpf (by (conv => lhs; whnf) <;> rfl) (by with_reducible rfl) (by first | omega | decide) ?_)
      | (show CW _ _ _ _ _ _ _ _; first | refine W.kr ?_ | refine W.ke ?_ | refine W.sq ?_)
      | (show KO _ _ _ _; first | refine K.sn ?_ | refine K.se ?_ | refine K.be ?_ | refine K.le ?_)
      | refine K.nx ?_
    refine K.fin rfl ⟨_, rfl, (frz_tup2 (frz_own rfl (Nat.zero_le _) (map_data g8_data _)) rfl).trans ?_⟩
    rw [List.take_length]; rfl
  · have hrd := (rd r (j : Int)).toNat_lt
    have hm2 : r.length - (j + 1) < mz := by omega
    have hcut : (bS (hexL r)).extract (2 * (j : Int)).toNat (2 * (j : Int) + 2).toNat = bS (hexL [rd r (j : Int)]) := by
      rw [bS_ext, show (2 * (j : Int) + 2).toNat = 2 * j + 2 by omega, show (2 * (j : Int)).toNat = 2 * j by omega, hex_cut r j (by omega)]
    repeat' first
      | (show XO _ _ _ (Oper.mk (some _) (Op.move _) _ _ _ none :: _) _ _ _; refine X.mv ?_)
      | (show XO _ _ _ (Oper.mk (some _) (Op.assign _) _ _ _ none :: _) _ _ _; refine X.as ?_)
      | (show XO _ _ _ (Oper.mk (some _) (Op.call (Call.mk (Callee.builtin Builtin.len) _ _)) _ _ _ none :: _) _ _ _; refine X.go rfl ?_)
      | (show XO _ _ _ (Oper.mk (some _) (_) _ _ _ none :: _) _ _ _; refine X.go rfl ?_)
      | (show XO _ _ _ [] _ _ _; refine X.nil ?_)
      | (show CW _ _ _ _ (Code.seq (Code.region _ _ false) _) _ _ _; refine W.rq ?_)
      | (show CW _ _ _ _ (Code.cond _ _ _) _ _ _; refine W.jpt (by (conv => lhs; whnf) <;> rfl) (by with_reducible rfl) (by first | omega | decide) ?_)
      | (show CW _ _ _ _ _ _ _ _; first | refine W.kn ?_ | refine W.bl ?_ | refine W.sq ?_)
      | (show KO _ _ _ _; refine K.sn ?_)
      | refine K.nx ?_
    refine W.lq (fun mz st => ∃ (n : Nat), st.env 0 = .str (bS (hexL r)) ∧ st.env 4 = .own 0 0 ((r.take j).map g8).length ((r.take j).map g8).length ∧ st.env 5 = .int .i64 (2 * (j : Int)) ∧ st.env 6 = .int .i64 n ∧ st.L = [Go.Pv.Obj.buf 1 0 ((r.take j).map g8)] ∧ (n ≤ (rd r (j : Int)).toNat) ∧ mz = (rd r (j : Int)).toNat - n) ?_ ?_
    · refine ⟨_, 0, rfl, rfl, rfl, rfl, rfl, ?_, rfl⟩
      omega
    rintro mz env L ⟨n, e0, e4, e5, e6, eL, hn, hm⟩
    dsimp only at e0 e4 e5 e6 eL
    subst eL
    refine W.ev 0 e0 ?_
    refine W.ev 4 e4 ?_
    refine W.ev 5 e5 ?_
    refine W.ev 6 e6 ?_
    have ht := text H [UInt8.ofNat n] false true (by show 1 ≤ 1000; omega)
    have hsg : [UInt8.ofNat n].map g8 = [.int .u8 (n : Int)] := by
      show [g8 (UInt8.ofNat n)] = _
      unfold g8
      rw [UInt8.toNat_ofNat', Nat.mod_eq_of_lt (by omega)]
    rw [hsg] at ht
    by_cases hq : n = (rd r (j : Int)).toNat
    · have hte : bS (hexL [UInt8.ofNat n]) = (bS (hexL r)).extract (2 * (j : Int)).toNat (2 * (j : Int) + 2).toNat := by
        rw [hcut, hq, UInt8.ofNat_toNat]
      have hwr : g8 (rd r (j : Int)) = .int .u8 (n : Int) := by rw [hq]; rfl
      have ow : r.take (j + 1) = r.take j ++ [rd r (j : Int)] := by
        rw [List.take_add_one]; unfold rd; simp [List.getElem?_eq_getElem (show j < r.length by omega)]
      repeat' first
        | (show XO _ _ _ (Oper.mk _ _ _ _ _ none :: _) _ _ _; refine X.ap1 (g := g8) (rd r (j : Int)) rfl rfl (by rw [hwr]; rfl) (by rw [List.length_take]; omega) ?_)
        | (show XO _ _ _ (Oper.mk (some _) (Op.move _) _ _ _ none :: _) _ _ _; refine X.mv ?_)
        | (show XO _ _ _ (Oper.mk (some _) (Op.assign _) _ _ _ none :: _) _ _ _; refine X.as ?_)
        | (show XO _ _ _ (Oper.mk (some _) (Op.binOp BinOp.add _ _ _ _) _ _ _ none :: _) _ _ _; refine X.addI rfl rfl (by omega) ?_)
        | (show XO _ _ _ (Oper.mk (some _) (Op.convert _ _ _) _ _ _ none :: _) _ _ _; refine X.cvI rfl rfl rfl (wU8 (by omega)) ?_)
        | (show XO _ _ _ (Oper.mk (some _) (Op.buildSlice _ _ _) _ _ _ none :: _) _ _ _; refine X.bs1 (by (conv => lhs; whnf) <;> rfl) ?_)
        | (show XO _ _ _ (Oper.mk (some _) (_) _ _ _ none :: _) _ _ _; refine X.go rfl ?_)
        | (show XO _ _ _ [] _ _ _; refine X.nil ?_)
        | (show AO _ _ _ (Oper.mk _ _ _ _ _ none :: _) _ _ _; refine A.slT rfl rfl rfl (by rw [hs]; omega) ?_)
        | (show AO _ _ _ (Oper.mk (some _) (Op.move _) _ _ _ none :: _) _ _ _; refine A.mv ?_)
        | (show AO _ _ _ (Oper.mk (some _) (Op.call _) _ _ _ none :: _) _ _ _; refine A.call (ht _) ?_)
        | (show AO _ _ _ (Oper.mk (some _) (Op.binOp BinOp.add _ _ _ _) _ _ _ none :: _) _ _ _; refine A.addI rfl rfl (by omega) ?_)
        | (show AO _ _ _ (Oper.mk (some _) (Op.convert _ _ _) _ _ _ none :: _) _ _ _; refine A.cvI rfl rfl rfl (wU8 (by omega)) ?_)
        | (show AO _ _ _ (Oper.mk (some _) (Op.buildSlice _ _ _) _ _ _ none :: _) _ _ _; refine A.bs1 (by (conv => lhs; whnf) <;> rfl) ?_)
        | (show AO _ _ _ (Oper.mk (some _) (_) _ _ _ none :: _) _ _ _; refine A.go rfl ?_)
        | (show AO _ _ _ (Oper.mk _ _ _ _ _ (some _) :: _) _ _ _; first | refine A.hy rfl (by (conv => lhs; whnf) <;> rfl) (by first | with_reducible rfl | with_reducible exact notT | with_reducible exact notF) ?_ | refine A.hpt rfl (by (conv => lhs; whnf) <;> rfl) (by with_reducible rfl) (by first | omega | exact hte | decide) ?_)
        | (show AO _ _ _ [] _ _ _; refine A.nil ?_)
        | (show CW _ _ _ _ (Code.seq (Code.region _ _ false) _) _ _ _; refine W.rq ?_)
        | (show CW _ _ _ _ (Code.region _ _ false) _ _ _; refine W.rz ?_)
        | (show CW _ _ _ _ (Code.seq (Code.region _ _ true) _) _ _ _; refine W.dq 13 ?_)
        | (show CW _ _ _ _ (Code.cond _ _ _) _ _ _; first | refine W.jpf (by (conv => lhs; whnf) <;> rfl) (by with_reducible rfl) (by first | omega | exact hte | decide) ?_ | refine W.jqf (by (conv => lhs; whnf) <;> rfl) (by with_reducible rfl) (by first | omega | exact hte | decide) ?_)
        | (show CW _ _ _ _ _ _ _ _; first | refine W.kn ?_ | refine W.ke ?_ | refine W.sq ?_)
        | (show KO _ _ _ _; first | refine K.sn ?_ | refine K.se ?_ | refine K.bn ?_ | refine K.be ?_ | refine K.le ?_ | refine K.fn _ ?_ [_] _ rfl rfl (by repeat' first | exact obs_nil | refine obs_cons ?_ ?_ | exact ob_buf (map_data g8_data _)) ⟨j + 1, rfl, by rw [ow]; rfl, vI (by omega), by rw [ow], ?_, rfl⟩)
        | refine K.nx ?_
        | refine K.re ?_
        | refine K.dr ?_
      all_goals omega
    · have hte : ¬ bS (hexL [UInt8.ofNat n]) = (bS (hexL r)).extract (2 * (j : Int)).toNat (2 * (j : Int) + 2).toNat := by
        rw [hcut]
        intro he
        have h1 := hex1_inj (bS_inj he)
        apply hq
        rw [← h1, UInt8.toNat_ofNat', Nat.mod_eq_of_lt (by omega)]
      repeat' first
        | (show XO _ _ _ (Oper.mk (some _) (Op.move _) _ _ _ none :: _) _ _ _; refine X.mv ?_)
        | (show XO _ _ _ (Oper.mk (some _) (Op.assign _) _ _ _ none :: _) _ _ _; refine X.as ?_)
        | (show XO _ _ _ (Oper.mk (some _) (Op.binOp BinOp.add _ _ _ _) _ _ _ none :: _) _ _ _; refine X.addI rfl rfl (by omega) ?_)
        | (show XO _ _ _ (Oper.mk (some _) (_) _ _ _ none :: _) _ _ _; refine X.go rfl ?_)
        | (show XO _ _ _ [] _ _ _; refine X.nil ?_)
        | (show AO _ _ _ (Oper.mk _ _ _ _ _ none :: _) _ _ _; refine A.slT rfl rfl rfl (by rw [hs]; omega) ?_)
        | (show AO _ _ _ (Oper.mk (some _) (Op.move _) _ _ _ none :: _) _ _ _; refine A.mv ?_)
        | (show AO _ _ _ (Oper.mk (some _) (Op.call _) _ _ _ none :: _) _ _ _; refine A.call (ht _) ?_)
        | (show AO _ _ _ (Oper.mk (some _) (Op.binOp BinOp.add _ _ _ _) _ _ _ none :: _) _ _ _; refine A.addI rfl rfl (by omega) ?_)
        | (show AO _ _ _ (Oper.mk (some _) (Op.convert _ _ _) _ _ _ none :: _) _ _ _; refine A.cvI rfl rfl rfl (wU8 (by omega)) ?_)
        | (show AO _ _ _ (Oper.mk (some _) (Op.buildSlice _ _ _) _ _ _ none :: _) _ _ _; refine A.bs1 (by (conv => lhs; whnf) <;> rfl) ?_)
        | (show AO _ _ _ (Oper.mk (some _) (_) _ _ _ none :: _) _ _ _; refine A.go rfl ?_)
        | (show AO _ _ _ (Oper.mk _ _ _ _ _ (some _) :: _) _ _ _; first | refine A.hy rfl (by (conv => lhs; whnf) <;> rfl) (by first | with_reducible rfl | with_reducible exact notT | with_reducible exact notF) ?_ | refine A.hpt rfl (by (conv => lhs; whnf) <;> rfl) (by with_reducible rfl) (by first | omega | exact hte | decide) ?_)
        | (show AO _ _ _ [] _ _ _; refine A.nil ?_)
        | (show CW _ _ _ _ (Code.region _ _ false) _ _ _; refine W.rz ?_)
        | (show CW _ _ _ _ (Code.seq (Code.region _ _ true) _) _ _ _; refine W.dq 13 ?_)
        | (show CW _ _ _ _ (Code.cond _ _ _) _ _ _; refine W.jqt (by (conv => lhs; whnf) <;> rfl) (by with_reducible rfl) (by first | omega | exact hte | decide) ?_)
        | (show CW _ _ _ _ _ _ _ _; first | refine W.kn ?_ | refine W.bl ?_ | refine W.sq ?_)
        | (show KO _ _ _ _; first | refine K.sn ?_ | refine K.bn ?_ | refine K.ln _ ?_ ⟨n + 1, rfl, rfl, rfl, vI (by omega), rfl, ?_, rfl⟩)
        | refine K.nx ?_
        | refine K.re ?_
        | refine K.dr ?_
      all_goals omega
end Go.Proofs.Aes
end
section
set_option linter.unusedVariables false
set_option linter.unusedSimpArgs false
set_option maxHeartbeats 4000000
set_option maxRecDepth 100000
namespace Go.Proofs.Aes
open Go Go.Pv Go.Proofs
variable {Z : Nat → Go.Obj → Prop}
def keyC : List UInt8 := [0, 1, 2, 3, 4, 5, 6, 7, 8, 9, 10, 11, 12, 13, 14, 15]
def txtC : List UInt8 := [0, 17, 34, 51, 68, 85, 102, 119, 136, 153, 170, 187, 204, 221, 238, 255]
def keysC : List UInt8 := [0, 1, 2, 3, 4, 5, 6, 7, 8, 9, 10, 11, 12, 13, 14, 15, 214, 170, 116, 253, 210, 175, 114, 250, 218, 166, 120, 241, 214, 171, 118, 254, 182, 146, 207, 11, 100, 61, 189, 241, 190, 155, 197, 0, 104, 48, 179, 254, 182, 255, 116, 78, 210, 194, 201, 191, 108, 89, 12, 191, 4, 105, 191, 65, 71, 247, 247, 188, 149, 53, 62, 3, 249, 108, 50, 188, 253, 5, 141, 253, 60, 170, 163, 232, 169, 159, 157, 235, 80, 243, 175, 87, 173, 246, 34, 170, 94, 57, 15, 125, 247, 166, 146, 150, 167, 85, 61, 193, 10, 163, 31, 107, 20, 249, 112, 26, 227, 95, 226, 140, 68, 10, 223, 77, 78, 169, 192, 38, 71, 67, 135, 53, 164, 28, 101, 185, 224, 22, 186, 244, 174, 191, 122, 210, 84, 153, 50, 209, 240, 133, 87, 104, 16, 147, 237, 156, 190, 44, 151, 78, 19, 17, 29, 127, 227, 148, 74, 23, 243, 7, 167, 139, 77, 43, 48, 197]
def stC0 : List UInt8 := [0, 16, 32, 48, 64, 80, 96, 112, 128, 144, 160, 176, 192, 208, 224, 240]
def stC1 : List UInt8 := [137, 216, 16, 232, 133, 90, 206, 104, 45, 24, 67, 216, 203, 18, 143, 228]
def stC2 : List UInt8 := [73, 21, 89, 143, 85, 229, 215, 160, 218, 202, 148, 250, 31, 10, 99, 247]
def stC3 : List UInt8 := [250, 99, 106, 40, 37, 179, 57, 201, 64, 102, 138, 49, 87, 36, 77, 23]
def stC4 : List UInt8 := [36, 114, 64, 35, 105, 102, 179, 250, 110, 210, 117, 50, 136, 66, 91, 108]
def stC5 : List UInt8 := [200, 22, 119, 188, 155, 122, 201, 59, 37, 2, 121, 146, 176, 38, 25, 150]
def stC6 : List UInt8 := [198, 47, 225, 9, 247, 94, 237, 195, 204, 121, 57, 93, 132, 249, 207, 93]
def stC7 : List UInt8 := [209, 135, 108, 15, 121, 196, 48, 10, 180, 85, 148, 173, 214, 111, 244, 31]
def stC8 : List UInt8 := [253, 227, 186, 210, 5, 229, 208, 215, 53, 71, 150, 78, 241, 254, 55, 241]
def stC9 : List UInt8 := [189, 110, 124, 61, 242, 181, 119, 158, 11, 97, 33, 110, 139, 16, 182, 137]
def stC10 : List UInt8 := [105, 196, 224, 216, 106, 123, 4, 48, 216, 205, 183, 128, 112, 180, 197, 90]
theorem keysC_eq : keysL keyC = keysC := by decide +kernel
theorem lockC0 : lockF keysC txtC 0 = stC0 := by decide +kernel
theorem lockC1 : lockF keysC txtC 1 = stC1 := by
  rw [lockF, lockC0]
  decide +kernel
theorem lockC2 : lockF keysC txtC 2 = stC2 := by
  rw [lockF, lockC1]
  decide +kernel
theorem lockC3 : lockF keysC txtC 3 = stC3 := by
  rw [lockF, lockC2]
  decide +kernel
theorem lockC4 : lockF keysC txtC 4 = stC4 := by
  rw [lockF, lockC3]
  decide +kernel
theorem lockC5 : lockF keysC txtC 5 = stC5 := by
  rw [lockF, lockC4]
  decide +kernel
theorem lockC6 : lockF keysC txtC 6 = stC6 := by
  rw [lockF, lockC5]
  decide +kernel
theorem lockC7 : lockF keysC txtC 7 = stC7 := by
  rw [lockF, lockC6]
  decide +kernel
theorem lockC8 : lockF keysC txtC 8 = stC8 := by
  rw [lockF, lockC7]
  decide +kernel
theorem lockC9 : lockF keysC txtC 9 = stC9 := by
  rw [lockF, lockC8]
  decide +kernel
theorem lockC10 : lockF keysC txtC 10 = stC10 := by
  rw [lockF, lockC9]
  decide +kernel
theorem blockC : blockV keyC txtC = (stC10, 0) := by
  show (if _ then _ else _) = _
  rw [if_pos (by decide), keysC_eq]
  exact congrArg (·, (0 : Int)) lockC10
theorem streamC_len : (streamV keyC (txtC.take 12) [1, 2, 3]).1.length = 3 := by
  show (if _ then _ else _ : List UInt8 × Int).1.length = _
  rw [if_pos (by decide)]
  show (streamL _ _ _).length = _
  unfold streamL
  rw [List.length_map, List.length_range]; rfl
theorem streamC_err : (streamV keyC (txtC.take 12) [1, 2, 3]).2 = 0 := by
  show (if _ then _ else _ : List UInt8 × Int).2 = _
  rw [if_pos (by decide)]
theorem keysC_len : (keysV keyC).1.length = 11 := by
  show (if _ then _ else _ : List (List UInt8) × Int).1.length = _
  rw [if_pos (by decide)]
  show ((List.range 11).map _).length = _
  rw [List.length_map, List.length_range]
theorem keysC_err : (keysV keyC).2 = 0 := by
  show (if _ then _ else _ : List (List UInt8) × Int).2 = _
  rw [if_pos (by decide)]
theorem outC : hexL stC10 = [54, 57, 99, 52, 101, 48, 100, 56, 54, 97, 55, 98, 48, 52, 51, 48, 100, 56, 99, 100, 98, 55, 56, 48, 55, 48, 98, 52, 99, 53, 53, 97] := by decide +kernel
theorem inC1 : hexL keyC = [48, 48, 48, 49, 48, 50, 48, 51, 48, 52, 48, 53, 48, 54, 48, 55, 48, 56, 48, 57, 48, 97, 48, 98, 48, 99, 48, 100, 48, 101, 48, 102] := by decide +kernel
theorem inC2 : hexL txtC = [48, 48, 49, 49, 50, 50, 51, 51, 52, 52, 53, 53, 54, 54, 55, 55, 56, 56, 57, 57, 97, 97, 98, 98, 99, 99, 100, 100, 101, 101, 102, 102] := by decide +kernel
theorem box0C : boxU 0 = 99 := by decide +kernel
theorem box53C : boxU 83 = 237 := by decide +kernel
theorem mulC : mulU 87 131 = 193 := by decide +kernel
attribute [local irreducible] boxL mulU exE exW lockS numL lockF keysL streamV keysV blockV boxU
theorem shown0 (H : ZC Z) : SE Try.prog Z 9 [] [] (.bool true) [] := by
  have b1 := bytes0 H keyC (by decide)
  have b2 := bytes0 H txtC (by decide)
  rw [inC1] at b1
  rw [inC2] at b2
  have k1 := block0 H keyC txtC
  rw [blockC] at k1
  have k2 := keys1 H keyC
  have k3 := stream0 H keyC (txtC.take 12) [1, 2, 3] (by decide)
  have k3 : SE Try.prog Z 19 [gB keyC, gB (txtC.take 12), .sl false true [.int .u8 1, .int .u8 2, .int .u8 3]] [] (.tup [gB (streamV keyC (txtC.take 12) [1, 2, 3]).1, .int .i64 (streamV keyC (txtC.take 12) [1, 2, 3]).2]) [] :=
    SE.argw k3 rfl fun p h1 h2 G r h => by
      match p, h1 with
      | 0, _ => exact h
      | 1, _ => exact h
      | 2, _ => exact h.slw
  have k4 := text0 H stC10 false false (by decide)
  rw [outC] at k4
  rw [keysC_err] at k2
  rw [streamC_err] at k3
  have k5 := mul H 87 131 []
  rw [mulC] at k5
  have k6 := box H 0 []
  rw [box0C] at k6
  have k7 := box H 83 []
  rw [box53C] at k7
  have l1 := keysC_len
  have l2 := streamC_len
  generalize (keysV keyC).1 = kv at *
  generalize (streamV keyC (txtC.take 12) [1, 2, 3]).1 = sv at *
  refine SE.data H Try.func9 rfl ?_
  repeat' first
    | (show XO _ _ _ (Oper.mk _ _ _ _ _ none :: _) _ _ _; first | refine X.go0 (v := .sl false false ((txtC.take 12).map g8)) (by rfl) ?_ | refine X.bs [.int .u8 1, .int .u8 2, .int .u8 3] rfl rfl (by simp [V.cells]) rfl (by decide) ?_)
    | (show XO _ _ _ (Oper.mk (some _) (Op.move _) _ _ _ none :: _) _ _ _; refine X.mv ?_)
    | (show XO _ _ _ (Oper.mk (some _) (Op.assign _) _ _ _ none :: _) _ _ _; refine X.as ?_)
    | (show XO _ _ _ (Oper.mk (some _) (Op.call (Call.mk (Callee.builtin Builtin.len) _ _)) _ _ _ none :: _) _ _ _; refine X.lnS rfl ?_)
    | (show XO _ _ _ (Oper.mk (some _) (Op.call _) _ _ _ none :: _) _ _ _; first | refine X.call (b1) ?_ | refine X.call (b2) ?_ | refine X.call (k1) ?_ | refine X.call (k2) ?_ | refine X.call (k3) ?_ | refine X.call (k4) ?_ | refine X.call (k5) ?_ | refine X.call (k6) ?_ | refine X.call (k7) ?_)
    | (show XO _ _ _ (Oper.mk (some _) (_) _ _ _ none :: _) _ _ _; refine X.go rfl ?_)
    | (show XO _ _ _ (Oper.mk _ _ _ _ _ (some _) :: _) _ _ _; first | refine X.hy rfl (by (conv => lhs; whnf) <;> rfl) (by first | with_reducible rfl | with_reducible exact notT | with_reducible exact notF) ?_ | refine X.hpt rfl (by (conv => lhs; whnf) <;> rfl) (by with_reducible rfl) (by first | omega | decide | (rw [l1]; omega) | (rw [l2]; omega)) ?_)
    | (show XO _ _ _ [] _ _ _; refine X.nil ?_)
    | (show CW _ _ _ _ (Code.seq (Code.region _ _ false) _) _ _ _; refine W.rq ?_)
    | (show CW _ _ _ _ _ _ _ _; refine W.kr ?_)
    | refine K.nx ?_
  exact end_data rfl rfl (vB (decide_eq_true (by omega)))
theorem shown (H : ZC Z) (L : List Go.Pv.Obj) : SE Try.prog Z 9 [] L (.bool true) L := SE.lift (shown0 H) L rfl rfl
end Go.Proofs.Aes
end
section
set_option linter.unusedVariables false
set_option linter.unusedSimpArgs false
set_option maxHeartbeats 4000000
set_option maxRecDepth 100000
namespace Go.Proofs.Aes
open Go Go.Pv Go.Proofs
variable {Z : Nat → Go.Obj → Prop}
attribute [local irreducible] boxL mulU exE exW lockS numL lockF keysL streamV keysV blockV boxU
theorem blocks_walk (H : ZC Z) (key b : List UInt8) : SE Try.prog Z 4 [gB key, gB b] [] (.bool true) [] := by
  have k1 := block H key b
  have k2 := refBlock H key b
  generalize blockV key b = v at *
  obtain ⟨x, e⟩ := v
  have k3 := same H x x
  rw [show decide (x = x) = true from decide_eq_true rfl] at k3
  dsimp only at *
  refine SE.data H Try.func4 rfl ?_
  repeat' first
    | (show XO _ _ _ (Oper.mk (some _) (Op.move _) _ _ _ none :: _) _ _ _; refine X.mv ?_)
    | (show XO _ _ _ (Oper.mk (some _) (Op.assign _) _ _ _ none :: _) _ _ _; refine X.as ?_)
    | (show XO _ _ _ (Oper.mk (some _) (Op.call (Call.mk (Callee.builtin Builtin.len) _ _)) _ _ _ none :: _) _ _ _; refine X.lnS rfl ?_)
    | (show XO _ _ _ (Oper.mk (some _) (Op.call _) _ _ _ none :: _) _ _ _; first | refine X.call (shown H _) ?_ | refine X.call (k1 _) ?_ | refine X.call (k2 _) ?_ | refine X.call (k3 _) ?_)
    | (show XO _ _ _ (Oper.mk (some _) (_) _ _ _ none :: _) _ _ _; refine X.go rfl ?_)
    | (show XO _ _ _ (Oper.mk _ _ _ _ _ (some _) :: _) _ _ _; first | refine X.hy rfl (by (conv => lhs; whnf) <;> rfl) (by first | with_reducible rfl | with_reducible exact notT | with_reducible exact notF) ?_ | refine X.hnt rfl (by (conv => lhs; whnf) <;> rfl) (by first | with_reducible rfl | with_reducible exact notT | with_reducible exact notF) ?_ | refine X.hp rfl (by (conv => lhs; whnf) <;> rfl) (by with_reducible rfl) (fun h => ?_) (fun h => ?_))
    | (show XO _ _ _ [] _ _ _; refine X.nil ?_)
    | (show CW _ _ _ _ (Code.seq (Code.region _ _ false) _) _ _ _; refine W.rq ?_)
    | (show CW _ _ _ _ (Code.cond _ _ _) _ _ _; first | refine W.jt (by (conv => lhs; whnf) <;> rfl) (by first | with_reducible rfl | with_reducible exact notT | with_reducible exact notF) ?_ | refine W.jp (by (conv => lhs; whnf) <;> rfl) (by with_reducible rfl) (fun h => ?_) (fun h => ?_))
    | (show CW _ _ _ _ _ _ _ _; first | refine W.kr ?_ | refine W.kn ?_ | refine W.sq ?_)
    | (show KO _ _ _ _; first | refine K.sn ?_ | refine K.sr ?_)
    | refine K.nx ?_
  all_goals first | exact end_data rfl rfl rfl | exact end_data rfl rfl (vB (decide_eq_true rfl))
theorem streams_walk (H : ZC Z) (key nonce b : List UInt8) : SE Try.prog Z 5 [gB key, gB nonce, gB b] [] (.bool true) [] := by
  have k1 := stream H key nonce b
  have k2 := refStream H key nonce b
  generalize streamV key nonce b = v at *
  obtain ⟨x, e⟩ := v
  have k3 := same H x x
  rw [show decide (x = x) = true from decide_eq_true rfl] at k3
  dsimp only at *
  refine SE.data H Try.func5 rfl ?_
  repeat' first
    | (show XO _ _ _ (Oper.mk (some _) (Op.move _) _ _ _ none :: _) _ _ _; refine X.mv ?_)
    | (show XO _ _ _ (Oper.mk (some _) (Op.assign _) _ _ _ none :: _) _ _ _; refine X.as ?_)
    | (show XO _ _ _ (Oper.mk (some _) (Op.call (Call.mk (Callee.builtin Builtin.len) _ _)) _ _ _ none :: _) _ _ _; refine X.lnS rfl ?_)
    | (show XO _ _ _ (Oper.mk (some _) (Op.call _) _ _ _ none :: _) _ _ _; first | refine X.call (shown H _) ?_ | refine X.call (k1 (by omega) _) ?_ | refine X.call (k2 (by omega) _) ?_ | refine X.call (k3 _) ?_)
    | (show XO _ _ _ (Oper.mk (some _) (_) _ _ _ none :: _) _ _ _; refine X.go rfl ?_)
    | (show XO _ _ _ (Oper.mk _ _ _ _ _ (some _) :: _) _ _ _; first | refine X.hy rfl (by (conv => lhs; whnf) <;> rfl) (by first | with_reducible rfl | with_reducible exact notT | with_reducible exact notF) ?_ | refine X.hnt rfl (by (conv => lhs; whnf) <;> rfl) (by first | with_reducible rfl | with_reducible exact notT | with_reducible exact notF) ?_ | refine X.hp rfl (by (conv => lhs; whnf) <;> rfl) (by with_reducible rfl) (fun h => ?_) (fun h => ?_))
    | (show XO _ _ _ [] _ _ _; refine X.nil ?_)
    | (show CW _ _ _ _ (Code.seq (Code.region _ _ false) _) _ _ _; refine W.rq ?_)
    | (show CW _ _ _ _ (Code.cond _ _ _) _ _ _; first | refine W.jt (by (conv => lhs; whnf) <;> rfl) (by first | with_reducible rfl | with_reducible exact notT | with_reducible exact notF) ?_ | refine W.jp (by (conv => lhs; whnf) <;> rfl) (by with_reducible rfl) (fun h => ?_) (fun h => ?_))
    | (show CW _ _ _ _ _ _ _ _; first | refine W.kr ?_ | refine W.kn ?_ | refine W.sq ?_)
    | (show KO _ _ _ _; first | refine K.sn ?_ | refine K.sr ?_)
    | refine K.nx ?_
  all_goals first | exact end_data rfl rfl rfl | exact end_data rfl rfl (vB (decide_eq_true rfl))

theorem keysV_le (key : List UInt8) : (keysV key).1.length ≤ 11 := by
  by_cases h : key.length = 16
  · rw [show keysV key = ((List.range 11).map (rk (keysL key)), 0) from by unfold keysV; exact if_pos h]
    show ((List.range 11).map _).length ≤ 11
    rw [List.length_map, List.length_range]; omega
  · rw [show keysV key = ([], 1) from by unfold keysV; exact if_neg h]
    exact Nat.zero_le _
theorem parts_walk (H : ZC Z) (a b : UInt8) (key : List UInt8) : SE Try.prog Z 3 [g8 a, g8 b, gB key] [] (.bool true) [] := by
  have k1 := keys H key
  have k2 := refKeysL H key
  have hx := keysV_le key
  generalize keysV key = v at *
  obtain ⟨x, e⟩ := v
  dsimp only at *
  have m1 := mul H a b
  have m2 := refMul H a b
  have m3 := box H a
  have m4 := refBox H a
  generalize mulU a b = m at *
  generalize boxU a = p at *
  by_cases h40 : 40 < key.length
  · refine SE.data H Try.func3 rfl ?_
    repeat' first
      | (show XO _ _ _ (Oper.mk (some _) (Op.move _) _ _ _ none :: _) _ _ _; refine X.mv ?_)
      | (show XO _ _ _ (Oper.mk (some _) (Op.assign _) _ _ _ none :: _) _ _ _; refine X.as ?_)
      | (show XO _ _ _ (Oper.mk (some _) (Op.call (Call.mk (Callee.builtin Builtin.len) _ _)) _ _ _ none :: _) _ _ _; refine X.lnS rfl ?_)
      | (show XO _ _ _ (Oper.mk (some _) (Op.call _) _ _ _ none :: _) _ _ _; refine X.call (shown H _) ?_)
      | (show XO _ _ _ (Oper.mk (some _) (_) _ _ _ none :: _) _ _ _; refine X.go rfl ?_)
      | (show XO _ _ _ [] _ _ _; refine X.nil ?_)
      | (show CW _ _ _ _ (Code.seq (Code.region _ _ false) _) _ _ _; refine W.rq ?_)
      | (show CW _ _ _ _ (Code.cond _ _ _) _ _ _; refine W.jpt (by (conv => lhs; whnf) <;> rfl) (by with_reducible rfl) (by first | omega | decide) ?_)
      | (show CW _ _ _ _ _ _ _ _; first | refine W.kr ?_ | refine W.sq ?_)
      | (show KO _ _ _ _; refine K.sr ?_)
      | refine K.nx ?_
    exact end_data rfl rfl rfl
  · refine SE.data H Try.func3 rfl ?_
    repeat' first
      | (show XO _ _ _ (Oper.mk (some _) (Op.move _) _ _ _ none :: _) _ _ _; refine X.mv ?_)
      | (show XO _ _ _ (Oper.mk (some _) (Op.assign _) _ _ _ none :: _) _ _ _; refine X.as ?_)
      | (show XO _ _ _ (Oper.mk (some _) (Op.call (Call.mk (Callee.builtin Builtin.len) _ _)) _ _ _ none :: _) _ _ _; refine X.lnS rfl ?_)
      | (show XO _ _ _ (Oper.mk (some _) (Op.call _) _ _ _ none :: _) _ _ _; first | refine X.call (shown H _) ?_ | refine X.call (k1 _) ?_ | refine X.call (k2 _) ?_)
      | (show XO _ _ _ (Oper.mk (some _) (_) _ _ _ none :: _) _ _ _; refine X.go rfl ?_)
      | (show XO _ _ _ (Oper.mk _ _ _ _ _ (some _) :: _) _ _ _; first | refine X.hy rfl (by (conv => lhs; whnf) <;> rfl) (by first | with_reducible rfl | with_reducible exact notT | with_reducible exact notF) ?_ | refine X.hqf rfl (by (conv => lhs; whnf) <;> rfl) (by with_reducible rfl) (by first | omega | decide | (intro hh; exact hh rfl)) ?_)
      | (show XO _ _ _ [] _ _ _; refine X.nil ?_)
      | (show CW _ _ _ _ (Code.seq (Code.region _ _ false) _) _ _ _; refine W.rq ?_)
      | (show CW _ _ _ _ (Code.cond _ _ _) _ _ _; first | refine W.jpf (by (conv => lhs; whnf) <;> rfl) (by with_reducible rfl) (by first | omega | decide | (intro hh; exact hh rfl)) ?_ | refine W.jqf (by (conv => lhs; whnf) <;> rfl) (by with_reducible rfl) (by first | omega | decide | (intro hh; exact hh rfl)) ?_)
      | (show CW _ _ _ _ _ _ _ _; first | refine W.kn ?_ | refine W.bl ?_ | refine W.sq ?_)
      | (show KO _ _ _ _; refine K.sn ?_)
      | refine K.nx ?_
    refine W.lq (fun mz st => ∃ (i : Nat), st.env 0 = g8 a ∧ st.env 1 = g8 b ∧ st.env 7 = .bool true ∧ st.env 8 = gBs x ∧ st.env 10 = gBs x ∧ st.env 12 = .int .i64 i ∧ st.L = [] ∧ (i ≤ x.length) ∧ mz = x.length - i) ?_ ?_
    · refine ⟨_, 0, rfl, rfl, rfl, rfl, rfl, rfl, rfl, ?_, rfl⟩
      omega
    rintro mz env L ⟨i, e0, e1, e7, e8, e10, e12, eL, hI, hm⟩
    dsimp only at e0 e1 e7 e8 e10 e12 eL
    subst eL
    refine W.ev 0 e0 ?_
    refine W.ev 1 e1 ?_
    refine W.ev 7 e7 ?_
    refine W.ev 8 e8 ?_
    refine W.ev 10 e10 ?_
    refine W.ev 12 e12 ?_
    by_cases h : i = x.length
    · subst h
      repeat' first
        | (show XO _ _ _ (Oper.mk (some _) (Op.move _) _ _ _ none :: _) _ _ _; refine X.mv ?_)
        | (show XO _ _ _ (Oper.mk (some _) (Op.assign _) _ _ _ none :: _) _ _ _; refine X.as ?_)
        | (show XO _ _ _ (Oper.mk (some _) (Op.call (Call.mk (Callee.builtin Builtin.len) _ _)) _ _ _ none :: _) _ _ _; refine X.lnS rfl ?_)
        | (show XO _ _ _ (Oper.mk (some _) (Op.call _) _ _ _ none :: _) _ _ _; first | refine X.call (m1 _) ?_ | refine X.call (m2 _) ?_ | refine X.call (m3 _) ?_ | refine X.call (m4 _) ?_)
        | (show XO _ _ _ (Oper.mk (some _) (_) _ _ _ none :: _) _ _ _; refine X.go rfl ?_)
        | (show XO _ _ _ (Oper.mk _ _ _ _ _ (some _) :: _) _ _ _; first | refine X.hy rfl (by (conv => lhs; whnf) <;> rfl) (by first | with_reducible rfl | with_reducible exact notT | with_reducible exact notF) ?_ | refine X.hpt rfl (by (conv => lhs; whnf) <;> rfl) (by with_reducible rfl) (by first | omega | decide) ?_)
        | (show XO _ _ _ [] _ _ _; refine X.nil ?_)
        | (show CW _ _ _ _ (Code.seq (Code.region _ _ false) _) _ _ _; refine W.rq ?_)
        | (show CW _ _ _ _ (Code.cond _ _ _) _ _ _; refine W.jpf (by (conv => lhs; whnf) <;> rfl) (by with_reducible rfl) (by first | omega | decide) ?_)
        | (show CW _ _ _ _ _ _ _ _; first | refine W.kr ?_ | refine W.ke ?_ | refine W.sq ?_)
        | (show KO _ _ _ _; first | refine K.sn ?_ | refine K.se ?_ | refine K.be ?_ | refine K.le ?_)
        | refine K.nx ?_
      all_goals exact end_data rfl rfl (vB (decide_eq_true rfl))
    · have k3 := same H (rd x (i : Int)) (rd x (i : Int))
      rw [show decide (rd x (i : Int) = rd x (i : Int)) = true from decide_eq_true rfl] at k3
      repeat' first
        | (show XO _ _ _ (Oper.mk (some _) (Op.move _) _ _ _ none :: _) _ _ _; refine X.mv ?_)
        | (show XO _ _ _ (Oper.mk (some _) (Op.assign _) _ _ _ none :: _) _ _ _; refine X.as ?_)
        | (show XO _ _ _ (Oper.mk (some _) (Op.call (Call.mk (Callee.builtin Builtin.len) _ _)) _ _ _ none :: _) _ _ _; refine X.lnS rfl ?_)
        | (show XO _ _ _ (Oper.mk (some _) (Op.binOp BinOp.add _ _ _ _) _ _ _ none :: _) _ _ _; refine X.addI rfl rfl (by omega) ?_)
        | (show XO _ _ _ (Oper.mk (some _) (_) _ _ _ none :: _) _ _ _; refine X.go rfl ?_)
        | (show XO _ _ _ [] _ _ _; refine X.nil ?_)
        | (show AO _ _ _ (Oper.mk _ _ _ _ _ none :: _) _ _ _; refine A.iaS (g := gB) (sz := 1) rfl rfl (by omega) ?_)
        | (show AO _ _ _ (Oper.mk (some _) (Op.move _) _ _ _ none :: _) _ _ _; refine A.mv ?_)
        | (show AO _ _ _ (Oper.mk (some _) (Op.call _) _ _ _ none :: _) _ _ _; refine A.call (k3 _) ?_)
        | (show AO _ _ _ (Oper.mk (some _) (Op.load _ _) _ _ _ none :: _) _ _ _; refine A.go rfl ?_)
        | (show AO _ _ _ (Oper.mk (some _) (_) _ _ _ none :: _) _ _ _; refine A.go rfl ?_)
        | (show AO _ _ _ [] _ _ _; refine A.nil ?_)
        | (show CW _ _ _ _ (Code.seq (Code.region _ _ false) _) _ _ _; refine W.rq ?_)
        | (show CW _ _ _ _ (Code.region _ _ false) _ _ _; refine W.rz ?_)
        | (show CW _ _ _ _ (Code.seq (Code.region _ _ true) _) _ _ _; refine W.dq 10 ?_)
        | (show CW _ _ _ _ (Code.cond _ _ _) _ _ _; first | refine W.jf (by (conv => lhs; whnf) <;> rfl) (by first | with_reducible rfl | with_reducible exact notT | with_reducible exact notF) ?_ | refine W.jpt (by (conv => lhs; whnf) <;> rfl) (by with_reducible rfl) (by first | omega | decide) ?_)
        | (show CW _ _ _ _ _ _ _ _; first | refine W.kn ?_ | refine W.bl ?_ | refine W.sq ?_)
        | (show KO _ _ _ _; first | refine K.sn ?_ | refine K.bn ?_ | refine K.ln _ ?_ ⟨i + 1, rfl, rfl, rfl, rfl, rfl, vI (by omega), rfl, ?_, rfl⟩)
        | refine K.nx ?_
        | refine K.re ?_
        | refine K.dr ?_
      all_goals omega
end Go.Proofs.Aes
end
