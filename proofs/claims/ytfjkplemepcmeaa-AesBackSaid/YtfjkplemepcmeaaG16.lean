import Derived.Test.YtfjkplemepcmeaaG15
import Derived.Test.YtfjkplemepcmeaaG11
import Derived.Test.YtfjkplemepcmeaaG6
set_option linter.unusedVariables false
set_option linter.unusedSimpArgs false
set_option linter.unusedSectionVars false
section
set_option linter.unusedVariables false
set_option linter.unusedSimpArgs false
set_option maxHeartbeats 4000000
set_option maxRecDepth 100000
namespace Go.Proofs.Aes
open Go Go.Pv Go.Proofs
variable {Z : Nat → Go.Obj → Prop}
attribute [local irreducible] boxL mulU exE exW lockS numL
theorem fig_inj : ∀ a, a < 16 → ∀ b, b < 16 → fig a = fig b → a = b := by decide +kernel
theorem hex1_inj {a b : UInt8} (h : hexL [a] = hexL [b]) : a = b := by
  have h1 : [fig (a.toNat / 16), fig (a.toNat % 16)] = [fig (b.toNat / 16), fig (b.toNat % 16)] := h
  have ha := a.toNat_lt
  have hb := b.toNat_lt
  injection h1 with p q
  injection q with q _
  have e1 := fig_inj _ (by omega) _ (by omega) p
  have e2 := fig_inj _ (by omega) _ (by omega) q
  exact UInt8.toNat_inj.1 (by omega)
theorem hex_cut (r : List UInt8) (j : Nat) (h : j < r.length) : ((hexL r).take (2 * j + 2)).drop (2 * j) = hexL [rd r (j : Int)] := by
  have e : r = r.take j ++ ([rd r (j : Int)] ++ r.drop (j + 1)) := by
    unfold rd
    simp [List.getElem?_eq_getElem h, List.getD_eq_getElem?_getD]
  have hl : (hexL (r.take j)).length = 2 * j := by rw [hexL_len, List.length_take]; omega
  conv => lhs; rw [e]
  rw [hexL_app, hexL_app, List.drop_take, List.drop_append_of_le_length (by omega), List.drop_eq_nil_of_le (by omega), List.nil_append, show 2 * j + 2 - 2 * j = 2 by omega]
  rfl

theorem bytes0 (H : ZC Z) (r : List UInt8) (hr : r.length ≤ 300) : SE Try.prog Z 22 [.str (bS (hexL r))] [] (.tup [gB r, .int .i64 0]) [] := by
  have hs : (bS (hexL r)).size = 2 * r.length := by rw [bS_size, hexL_len]
  refine SE.data H Try.func22 rfl ?_
  repeat' first
    | (show XO _ _ _ (Oper.mk (some _) (Op.move _) _ _ _ none :: _) _ _ _; refine X.mv ?_)
    | (show XO _ _ _ (Oper.mk (some _) (Op.assign _) _ _ _ none :: _) _ _ _; refine X.as ?_)
    | (show XO _ _ _ (Oper.mk (some _) (Op.call (Call.mk (Callee.builtin Builtin.len) _ _)) _ _ _ none :: _) _ _ _; refine X.go rfl ?_)
    | (show XO _ _ _ (Oper.mk (some _) (Op.binOp BinOp.rem _ _ _ _) _ _ _ none :: _) _ _ _; refine X.remI rfl rfl (by omega) ?_)
    | (show XO _ _ _ (Oper.mk (some _) (_) _ _ _ none :: _) _ _ _; refine X.go rfl ?_)
    | (show XO _ _ _ [] _ _ _; refine X.nil ?_)
    | (show CW _ _ _ _ (Code.seq (Code.region _ _ false) _) _ _ _; refine W.rq ?_)
    | (show CW _ _ _ _ (Code.cond _ _ _) _ _ _; refine W.jpf (by (conv => lhs; whnf) <;> rfl) (by with_reducible rfl) (by first | omega | decide) ?_)
    | (show CW _ _ _ _ _ _ _ _; first | refine W.kn ?_ | refine W.bl ?_ | refine W.sq ?_)
    | (show KO _ _ _ _; refine K.sn ?_)
    | refine K.nx ?_
  refine W.ghost 4 1 rfl ?_
  refine W.lqF 1 (fun mz st => ∃ (j : Nat), st.env 0 = .str (bS (hexL r)) ∧ st.env 4 = .own 0 0 ((r.take j).map g8).length ((r.take j).map g8).length ∧ st.env 5 = .int .i64 (2 * (j : Int)) ∧ st.L = [Go.Pv.Obj.buf 1 0 ((r.take j).map g8)] ∧ (j ≤ r.length) ∧ mz = r.length - j) ?_ ?_
  · refine ⟨_, 0, rfl, rfl, rfl, rfl, ?_, rfl⟩
    omega
  rintro mz env L ⟨j, e0, e4, e5, eL, hI, hm⟩
  dsimp only at e0 e4 e5 eL
  subst eL
  refine W.ev 0 e0 ?_
  refine W.ev 4 e4 ?_
  refine W.ev 5 e5 ?_
  by_cases h : j = r.length
  · subst h
    repeat' first
      | (show XO _ _ _ (Oper.mk (some _) (Op.move _) _ _ _ none :: _) _ _ _; refine X.mv ?_)
      | (show XO _ _ _ (Oper.mk (some _) (Op.assign _) _ _ _ none :: _) _ _ _; refine X.as ?_)
      | (show XO _ _ _ (Oper.mk (some _) (Op.call (Call.mk (Callee.builtin Builtin.len) _ _)) _ _ _ none :: _) _ _ _; refine X.go rfl ?_)
      | (show XO _ _ _ (Oper.mk (some _) (_) _ _ _ none :: _) _ _ _; refine X.go rfl ?_)
      | (show XO _ _ _ [] _ _ _; refine X.nil ?_)
      | (show CW _ _ _ _ (Code.seq (Code.region _ _ false) _) _ _ _; refine W.rq ?_)
      | (show CW _ _ _ _ (Code.cond _ _ _) _ _ _; refine W.jpf (by (conv => lhs; whnf) <;> rfl) (by with_reducible rfl) (by first | omega | decide) ?_)
      | (show CW _ _ _ _ _ _ _ _; first | refine W.kr ?_ | refine W.ke ?_ | refine W.sq ?_)
      | (show KO _ _ _ _; first | refine K.sn ?_ | refine K.se ?_ | refine K.be ?_ | refine K.le ?_)
      | refine K.nx ?_
    refine K.fin rfl ⟨_, rfl, (frz_tup2 (frz_own rfl (Nat.zero_le _) (map_data g8_data _)) rfl).trans ?_⟩
    rw [List.take_length]; rfl
  · have hrd := (rd r (j : Int)).toNat_lt
    have hm2 : r.length - (j + 1) < mz := by omega
    have hcut : (bS (hexL r)).extract (2 * (j : Int)).toNat (2 * (j : Int) + 2).toNat = bS (hexL [rd r (j : Int)]) := by
      rw [bS_ext, show (2 * (j : Int) + 2).toNat = 2 * j + 2 by omega, show (2 * (j : Int)).toNat = 2 * j by omega, hex_cut r j (by omega)]
    repeat' first
      | (show XO _ _ _ (Oper.mk (some _) (Op.move _) _ _ _ none :: _) _ _ _; refine X.mv ?_)
      | (show XO _ _ _ (Oper.mk (some _) (Op.assign _) _ _ _ none :: _) _ _ _; refine X.as ?_)
      | (show XO _ _ _ (Oper.mk (some _) (Op.call (Call.mk (Callee.builtin Builtin.len) _ _)) _ _ _ none :: _) _ _ _; refine X.go rfl ?_)
      | (show XO _ _ _ (Oper.mk (some _) (_) _ _ _ none :: _) _ _ _; refine X.go rfl ?_)
      | (show XO _ _ _ [] _ _ _; refine X.nil ?_)
      | (show CW _ _ _ _ (Code.seq (Code.region _ _ false) _) _ _ _; refine W.rq ?_)
      | (show CW _ _ _ _ (Code.cond _ _ _) _ _ _; refine W.jpt (by (conv => lhs; whnf) <;> rfl) (by with_reducible rfl) (by first | omega | decide) ?_)
      | (show CW _ _ _ _ _ _ _ _; first | refine W.kn ?_ | refine W.bl ?_ | refine W.sq ?_)
      | (show KO _ _ _ _; refine K.sn ?_)
      | refine K.nx ?_
    refine W.lq (fun mz st => ∃ (n : Nat), st.env 0 = .str (bS (hexL r)) ∧ st.env 4 = .own 0 0 ((r.take j).map g8).length ((r.take j).map g8).length ∧ st.env 5 = .int .i64 (2 * (j : Int)) ∧ st.env 6 = .int .i64 n ∧ st.L = [Go.Pv.Obj.buf 1 0 ((r.take j).map g8)] ∧ (n ≤ (rd r (j : Int)).toNat) ∧ mz = (rd r (j : Int)).toNat - n) ?_ ?_
    · refine ⟨_, 0, rfl, rfl, rfl, rfl, rfl, ?_, rfl⟩
      omega
    rintro mz env L ⟨n, e0, e4, e5, e6, eL, hn, hm⟩
    dsimp only at e0 e4 e5 e6 eL
    subst eL
    refine W.ev 0 e0 ?_
    refine W.ev 4 e4 ?_
    refine W.ev 5 e5 ?_
    refine W.ev 6 e6 ?_
    have ht := text H [UInt8.ofNat n] false true (by show 1 ≤ 1000; omega)
    have hsg : [UInt8.ofNat n].map g8 = [.int .u8 (n : Int)] := by
      show [g8 (UInt8.ofNat n)] = _
      unfold g8
      rw [UInt8.toNat_ofNat', Nat.mod_eq_of_lt (by omega)]
    rw [hsg] at ht
    by_cases hq : n = (rd r (j : Int)).toNat
    · have hte : bS (hexL [UInt8.ofNat n]) = (bS (hexL r)).extract (2 * (j : Int)).toNat (2 * (j : Int) + 2).toNat := by
        rw [hcut, hq, UInt8.ofNat_toNat]
      have hwr : g8 (rd r (j : Int)) = .int .u8 (n : Int) := by rw [hq]; rfl
      have ow : r.take (j + 1) = r.take j ++ [rd r (j : Int)] := by
        rw [List.take_add_one]; unfold rd; simp [List.getElem?_eq_getElem (show j < r.length by omega)]
      repeat' first
        | (show XO _ _ _ (Oper.mk _ _ _ _ _ none :: _) _ _ _; refine X.ap1 (g := g8) (rd r (j : Int)) rfl rfl (by rw [hwr]; rfl) (by rw [List.length_take]; omega) ?_)
        | (show XO _ _ _ (Oper.mk (some _) (Op.move _) _ _ _ none :: _) _ _ _; refine X.mv ?_)
        | (show XO _ _ _ (Oper.mk (some _) (Op.assign _) _ _ _ none :: _) _ _ _; refine X.as ?_)
        | (show XO _ _ _ (Oper.mk (some _) (Op.binOp BinOp.add _ _ _ _) _ _ _ none :: _) _ _ _; refine X.addI rfl rfl (by omega) ?_)
        | (show XO _ _ _ (Oper.mk (some _) (Op.convert _ _ _) _ _ _ none :: _) _ _ _; refine X.cvI rfl rfl rfl (wU8 (by omega)) ?_)
        | (show XO _ _ _ (Oper.mk (some _) (Op.buildSlice _ _ _) _ _ _ none :: _) _ _ _; refine X.bs1 (by (conv => lhs; whnf) <;> rfl) ?_)
        | (show XO _ _ _ (Oper.mk (some _) (_) _ _ _ none :: _) _ _ _; refine X.go rfl ?_)
        | (show XO _ _ _ [] _ _ _; refine X.nil ?_)
        | (show AO _ _ _ (Oper.mk _ _ _ _ _ none :: _) _ _ _; refine A.slT rfl rfl rfl (by rw [hs]; omega) ?_)
        | (show AO _ _ _ (Oper.mk (some _) (Op.move _) _ _ _ none :: _) _ _ _; refine A.mv ?_)
        | (show AO _ _ _ (Oper.mk (some _) (Op.call _) _ _ _ none :: _) _ _ _; refine A.call (ht _) ?_)
        | (show AO _ _ _ (Oper.mk (some _) (Op.binOp BinOp.add _ _ _ _) _ _ _ none :: _) _ _ _; refine A.addI rfl rfl (by omega) ?_)
        | (show AO _ _ _ (Oper.mk (some _) (Op.convert _ _ _) _ _ _ none :: _) _ _ _; refine A.cvI rfl rfl rfl (wU8 (by omega)) ?_)
        | (show AO _ _ _ (Oper.mk (some _) (Op.buildSlice _ _ _) _ _ _ none :: _) _ _ _; refine A.bs1 (by (conv => lhs; whnf) <;> rfl) ?_)
        | (show AO _ _ _ (Oper.mk (some _) (_) _ _ _ none :: _) _ _ _; refine A.go rfl ?_)
        | (show AO _ _ _ (Oper.mk _ _ _ _ _ (some _) :: _) _ _ _; first | refine A.hy rfl (by (conv => lhs; whnf) <;> rfl) (by first | with_reducible rfl | with_reducible exact notT | with_reducible exact notF) ?_ | refine A.hpt rfl (by (conv => lhs; whnf) <;> rfl) (by with_reducible rfl) (by first | omega | exact hte | decide) ?_)
        | (show AO _ _ _ [] _ _ _; refine A.nil ?_)
        | (show CW _ _ _ _ (Code.seq (Code.region _ _ false) _) _ _ _; refine W.rq ?_)
        | (show CW _ _ _ _ (Code.region _ _ false) _ _ _; refine W.rz ?_)
        | (show CW _ _ _ _ (Code.seq (Code.region _ _ true) _) _ _ _; refine W.dq 13 ?_)
        | (show CW _ _ _ _ (Code.cond _ _ _) _ _ _; first | refine W.jpf (by (conv => lhs; whnf) <;> rfl) (by with_reducible rfl) (by first | omega | exact hte | decide) ?_ | refine W.jqf (by (conv => lhs; whnf) <;> rfl) (by with_reducible rfl) (by first | omega | exact hte | decide) ?_)
        | (show CW _ _ _ _ _ _ _ _; first | refine W.kn ?_ | refine W.ke ?_ | refine W.sq ?_)
        | (show KO _ _ _ _; first | refine K.sn ?_ | refine K.se ?_ | refine K.bn ?_ | refine K.be ?_ | refine K.le ?_ | refine K.fn _ ?_ [_] _ rfl rfl (by repeat' first | exact obs_nil | refine obs_cons ?_ ?_ | exact ob_buf (map_data g8_data _)) ⟨j + 1, rfl, by rw [ow]; rfl, vI (by omega), by rw [ow], ?_, rfl⟩)
        | refine K.nx ?_
        | refine K.re ?_
        | refine K.dr ?_
      all_goals omega
    · have hte : ¬ bS (hexL [UInt8.ofNat n]) = (bS (hexL r)).extract (2 * (j : Int)).toNat (2 * (j : Int) + 2).toNat := by
        rw [hcut]
        intro he
        have h1 := hex1_inj (bS_inj he)
        apply hq
        rw [← h1, UInt8.toNat_ofNat', Nat.mod_eq_of_lt (by omega)]
      repeat' first
        | (show XO _ _ _ (Oper.mk (some _) (Op.move _) _ _ _ none :: _) _ _ _; refine X.mv ?_)
        | (show XO _ _ _ (Oper.mk (some _) (Op.assign _) _ _ _ none :: _) _ _ _; refine X.as ?_)
        | (show XO _ _ _ (Oper.mk (some _) (Op.binOp BinOp.add _ _ _ _) _ _ _ none :: _) _ _ _; refine X.addI rfl rfl (by omega) ?_)
        | (show XO _ _ _ (Oper.mk (some _) (_) _ _ _ none :: _) _ _ _; refine X.go rfl ?_)
        | (show XO _ _ _ [] _ _ _; refine X.nil ?_)
        | (show AO _ _ _ (Oper.mk _ _ _ _ _ none :: _) _ _ _; refine A.slT rfl rfl rfl (by rw [hs]; omega) ?_)
        | (show AO _ _ _ (Oper.mk (some _) (Op.move _) _ _ _ none :: _) _ _ _; refine A.mv ?_)
        | (show AO _ _ _ (Oper.mk (some _) (Op.call _) _ _ _ none :: _) _ _ _; refine A.call (ht _) ?_)
        | (show AO _ _ _ (Oper.mk (some _) (Op.binOp BinOp.add _ _ _ _) _ _ _ none :: _) _ _ _; refine A.addI rfl rfl (by omega) ?_)
        | (show AO _ _ _ (Oper.mk (some _) (Op.convert _ _ _) _ _ _ none :: _) _ _ _; refine A.cvI rfl rfl rfl (wU8 (by omega)) ?_)
        | (show AO _ _ _ (Oper.mk (some _) (Op.buildSlice _ _ _) _ _ _ none :: _) _ _ _; refine A.bs1 (by (conv => lhs; whnf) <;> rfl) ?_)
        | (show AO _ _ _ (Oper.mk (some _) (_) _ _ _ none :: _) _ _ _; refine A.go rfl ?_)
        | (show AO _ _ _ (Oper.mk _ _ _ _ _ (some _) :: _) _ _ _; first | refine A.hy rfl (by (conv => lhs; whnf) <;> rfl) (by first | with_reducible rfl | with_reducible exact notT | with_reducible exact notF) ?_ | refine A.hpt rfl (by (conv => lhs; whnf) <;> rfl) (by with_reducible rfl) (by first | omega | exact hte | decide) ?_)
        | (show AO _ _ _ [] _ _ _; refine A.nil ?_)
        | (show CW _ _ _ _ (Code.region _ _ false) _ _ _; refine W.rz ?_)
        | (show CW _ _ _ _ (Code.seq (Code.region _ _ true) _) _ _ _; refine W.dq 13 ?_)
        | (show CW _ _ _ _ (Code.cond _ _ _) _ _ _; refine W.jqt (by (conv => lhs; whnf) <;> rfl) (by with_reducible rfl) (by first | omega | exact hte | decide) ?_)
        | (show CW _ _ _ _ _ _ _ _; first | refine W.kn ?_ | refine W.bl ?_ | refine W.sq ?_)
        | (show KO _ _ _ _; first | refine K.sn ?_ | refine K.bn ?_ | refine K.ln _ ?_ ⟨n + 1, rfl, rfl, rfl, vI (by omega), rfl, ?_, rfl⟩)
        | refine K.nx ?_
        | refine K.re ?_
        | refine K.dr ?_
      all_goals omega
end Go.Proofs.Aes
end
section
set_option linter.unusedVariables false
set_option linter.unusedSimpArgs false
set_option maxHeartbeats 4000000
set_option maxRecDepth 100000
namespace Go.Proofs.Aes
open Go Go.Pv Go.Proofs
variable {Z : Nat → Go.Obj → Prop}
def keyC : List UInt8 := [0, 1, 2, 3, 4, 5, 6, 7, 8, 9, 10, 11, 12, 13, 14, 15]
def txtC : List UInt8 := [0, 17, 34, 51, 68, 85, 102, 119, 136, 153, 170, 187, 204, 221, 238, 255]
def keysC : List UInt8 := [0, 1, 2, 3, 4, 5, 6, 7, 8, 9, 10, 11, 12, 13, 14, 15, 214, 170, 116, 253, 210, 175, 114, 250, 218, 166, 120, 241, 214, 171, 118, 254, 182, 146, 207, 11, 100, 61, 189, 241, 190, 155, 197, 0, 104, 48, 179, 254, 182, 255, 116, 78, 210, 194, 201, 191, 108, 89, 12, 191, 4, 105, 191, 65, 71, 247, 247, 188, 149, 53, 62, 3, 249, 108, 50, 188, 253, 5, 141, 253, 60, 170, 163, 232, 169, 159, 157, 235, 80, 243, 175, 87, 173, 246, 34, 170, 94, 57, 15, 125, 247, 166, 146, 150, 167, 85, 61, 193, 10, 163, 31, 107, 20, 249, 112, 26, 227, 95, 226, 140, 68, 10, 223, 77, 78, 169, 192, 38, 71, 67, 135, 53, 164, 28, 101, 185, 224, 22, 186, 244, 174, 191, 122, 210, 84, 153, 50, 209, 240, 133, 87, 104, 16, 147, 237, 156, 190, 44, 151, 78, 19, 17, 29, 127, 227, 148, 74, 23, 243, 7, 167, 139, 77, 43, 48, 197]
def stC0 : List UInt8 := [0, 16, 32, 48, 64, 80, 96, 112, 128, 144, 160, 176, 192, 208, 224, 240]
def stC1 : List UInt8 := [137, 216, 16, 232, 133, 90, 206, 104, 45, 24, 67, 216, 203, 18, 143, 228]
def stC2 : List UInt8 := [73, 21, 89, 143, 85, 229, 215, 160, 218, 202, 148, 250, 31, 10, 99, 247]
def stC3 : List UInt8 := [250, 99, 106, 40, 37, 179, 57, 201, 64, 102, 138, 49, 87, 36, 77, 23]
def stC4 : List UInt8 := [36, 114, 64, 35, 105, 102, 179, 250, 110, 210, 117, 50, 136, 66, 91, 108]
def stC5 : List UInt8 := [200, 22, 119, 188, 155, 122, 201, 59, 37, 2, 121, 146, 176, 38, 25, 150]
def stC6 : List UInt8 := [198, 47, 225, 9, 247, 94, 237, 195, 204, 121, 57, 93, 132, 249, 207, 93]
def stC7 : List UInt8 := [209, 135, 108, 15, 121, 196, 48, 10, 180, 85, 148, 173, 214, 111, 244, 31]
def stC8 : List UInt8 := [253, 227, 186, 210, 5, 229, 208, 215, 53, 71, 150, 78, 241, 254, 55, 241]
def stC9 : List UInt8 := [189, 110, 124, 61, 242, 181, 119, 158, 11, 97, 33, 110, 139, 16, 182, 137]
def stC10 : List UInt8 := [105, 196, 224, 216, 106, 123, 4, 48, 216, 205, 183, 128, 112, 180, 197, 90]
theorem keysC_eq : keysL keyC = keysC := by decide +kernel
theorem lockC0 : lockF keysC txtC 0 = stC0 := by decide +kernel
theorem lockC1 : lockF keysC txtC 1 = stC1 := by
  rw [lockF, lockC0]
  decide +kernel
theorem lockC2 : lockF keysC txtC 2 = stC2 := by
  rw [lockF, lockC1]
  decide +kernel
theorem lockC3 : lockF keysC txtC 3 = stC3 := by
  rw [lockF, lockC2]
  decide +kernel
theorem lockC4 : lockF keysC txtC 4 = stC4 := by
  rw [lockF, lockC3]
  decide +kernel
theorem lockC5 : lockF keysC txtC 5 = stC5 := by
  rw [lockF, lockC4]
  decide +kernel
theorem lockC6 : lockF keysC txtC 6 = stC6 := by
  rw [lockF, lockC5]
  decide +kernel
theorem lockC7 : lockF keysC txtC 7 = stC7 := by
  rw [lockF, lockC6]
  decide +kernel
theorem lockC8 : lockF keysC txtC 8 = stC8 := by
  rw [lockF, lockC7]
  decide +kernel
theorem lockC9 : lockF keysC txtC 9 = stC9 := by
  rw [lockF, lockC8]
  decide +kernel
theorem lockC10 : lockF keysC txtC 10 = stC10 := by
  rw [lockF, lockC9]
  decide +kernel
theorem blockC : blockV keyC txtC = (stC10, 0) := by
  show (if _ then _ else _) = _
  rw [if_pos (by decide), keysC_eq]
  exact congrArg (·, (0 : Int)) lockC10
theorem streamC_len : (streamV keyC (txtC.take 12) [1, 2, 3]).1.length = 3 := by
  show (if _ then _ else _ : List UInt8 × Int).1.length = _
  rw [if_pos (by decide)]
  show (streamL _ _ _).length = _
  unfold streamL
  rw [List.length_map, List.length_range]; rfl
theorem streamC_err : (streamV keyC (txtC.take 12) [1, 2, 3]).2 = 0 := by
  show (if _ then _ else _ : List UInt8 × Int).2 = _
  rw [if_pos (by decide)]
theorem keysC_len : (keysV keyC).1.length = 11 := by
  show (if _ then _ else _ : List (List UInt8) × Int).1.length = _
  rw [if_pos (by decide)]
  show ((List.range 11).map _).length = _
  rw [List.length_map, List.length_range]
theorem keysC_err : (keysV keyC).2 = 0 := by
  show (if _ then _ else _ : List (List UInt8) × Int).2 = _
  rw [if_pos (by decide)]
theorem outC : hexL stC10 = [54, 57, 99, 52, 101, 48, 100, 56, 54, 97, 55, 98, 48, 52, 51, 48, 100, 56, 99, 100, 98, 55, 56, 48, 55, 48, 98, 52, 99, 53, 53, 97] := by decide +kernel
theorem inC1 : hexL keyC = [48, 48, 48, 49, 48, 50, 48, 51, 48, 52, 48, 53, 48, 54, 48, 55, 48, 56, 48, 57, 48, 97, 48, 98, 48, 99, 48, 100, 48, 101, 48, 102] := by decide +kernel
theorem inC2 : hexL txtC = [48, 48, 49, 49, 50, 50, 51, 51, 52, 52, 53, 53, 54, 54, 55, 55, 56, 56, 57, 57, 97, 97, 98, 98, 99, 99, 100, 100, 101, 101, 102, 102] := by decide +kernel
theorem box0C : boxU 0 = 99 := by decide +kernel
theorem box53C : boxU 83 = 237 := by decide +kernel
theorem mulC : mulU 87 131 = 193 := by decide +kernel
attribute [local irreducible] boxL mulU exE exW lockS numL lockF keysL streamV keysV blockV boxU
theorem shown0 (H : ZC Z) : SE Try.prog Z 9 [] [] (.bool true) [] := by
  have b1 := bytes0 H keyC (by decide)
  have b2 := bytes0 H txtC (by decide)
  rw [inC1] at b1
  rw [inC2] at b2
  have k1 := block0 H keyC txtC
  rw [blockC] at k1
  have k2 := keys1 H keyC
  have k3 := stream0 H keyC (txtC.take 12) [1, 2, 3] (by decide)
  have k3 : SE Try.prog Z 19 [gB keyC, gB (txtC.take 12), .sl false true [.int .u8 1, .int .u8 2, .int .u8 3]] [] (.tup [gB (streamV keyC (txtC.take 12) [1, 2, 3]).1, .int .i64 (streamV keyC (txtC.take 12) [1, 2, 3]).2]) [] :=
    SE.argw k3 rfl fun p h1 h2 G r h => by
      match p, h1 with
      | 0, _ => exact h
      | 1, _ => exact h
      | 2, _ => exact h.slw
  have k4 := text0 H stC10 false false (by decide)
  rw [outC] at k4
  rw [keysC_err] at k2
  rw [streamC_err] at k3
  have k5 := mul H 87 131 []
  rw [mulC] at k5
  have k6 := box H 0 []
  rw [box0C] at k6
  have k7 := box H 83 []
  rw [box53C] at k7
  have l1 := keysC_len
  have l2 := streamC_len
  generalize (keysV keyC).1 = kv at *
  generalize (streamV keyC (txtC.take 12) [1, 2, 3]).1 = sv at *
  refine SE.data H Try.func9 rfl ?_
  repeat' first
    | (show XO _ _ _ (Oper.mk _ _ _ _ _ none :: _) _ _ _; first | refine X.go0 (v := .sl false false ((txtC.take 12).map g8)) (by rfl) ?_ | refine X.bs [.int .u8 1, .int .u8 2, .int .u8 3] rfl rfl (by simp [V.cells]) rfl (by decide) ?_)
    | (show XO _ _ _ (Oper.mk (some _) (Op.move _) _ _ _ none :: _) _ _ _; refine X.mv ?_)
    | (show XO _ _ _ (Oper.mk (some _) (Op.assign _) _ _ _ none :: _) _ _ _; refine X.as ?_)
    | (show XO _ _ _ (Oper.mk (some _) (Op.call (Call.mk (Callee.builtin Builtin.len) _ _)) _ _ _ none :: _) _ _ _; refine X.lnS rfl ?_)
    | (show XO _ _ _ (Oper.mk (some _) (Op.call _) _ _ _ none :: _) _ _ _; first | refine X.call (b1) ?_ | refine X.call (b2) ?_ | refine X.call (k1) ?_ | refine X.call (k2) ?_ | refine X.call (k3) ?_ | refine X.call (k4) ?_ | refine X.call (k5) ?_ | refine X.call (k6) ?_ | refine X.call (k7) ?_)
    | (show XO _ _ _ (Oper.mk (some _) (_) _ _ _ none :: _) _ _ _; refine X.go rfl ?_)
    | (show XO _ _ _ (Oper.mk _ _ _ _ _ (some _) :: _) _ _ _; first | refine X.hy rfl (by (conv => lhs; whnf) <;> rfl) (by first | with_reducible rfl | with_reducible exact notT | with_reducible exact notF) ?_ | refine X.hpt rfl (by (conv => lhs; whnf) <;> rfl) (by with_reducible rfl) (by first | omega | decide | (rw [l1]; omega) | (rw [l2]; omega)) ?_)
    | (show XO _ _ _ [] _ _ _; refine X.nil ?_)
    | (show CW _ _ _ _ (Code.seq (Code.region _ _ false) _) _ _ _; refine W.rq ?_)
    | (show CW _ _ _ _ _ _ _ _; refine W.kr ?_)
    | refine K.nx ?_
  exact end_data rfl rfl (vB (decide_eq_true (by omega)))
theorem shown (H : ZC Z) (L : List Go.Pv.Obj) : SE Try.prog Z 9 [] L (.bool true) L := SE.lift (shown0 H) L rfl rfl
end Go.Proofs.Aes
end
section
/- The stream of a stream is the bytes; fewer bytes are the beginning of more; each byte is told by a block. (Plain.) -/
set_option linter.unusedVariables false
namespace Go.Proofs.Aes
open Go Go.Pv
theorem streamL_len (ks nonce b : List UInt8) : (streamL ks nonce b).length = b.length := by simp [streamL]
theorem streamL_rd (ks nonce b : List UInt8) {q : Nat} (h : q < b.length) : rd (streamL ks nonce b) (q : Int) = rd b (q : Int) ^^^ rd (lockS ks (nonce ++ numL (q / 16 + 1) 4)) ((q % 16 : Nat) : Int) := by
  unfold streamL
  rw [rd_nat, List.getD_eq_getElem?_getD, List.getElem?_map, List.getElem?_range h]; rfl
theorem ext_rd {a b : List UInt8} (h : a.length = b.length) (hr : ∀ q : Nat, q < a.length → rd a (q : Int) = rd b (q : Int)) : a = b := by
  refine List.ext_getElem h fun q h1 h2 => ?_
  have := hr q h1
  rw [rd_nat, rd_nat, List.getD_eq_getElem?_getD, List.getD_eq_getElem?_getD, List.getElem?_eq_getElem h1, List.getElem?_eq_getElem h2] at this
  exact this
theorem streamL_twice (ks nonce b : List UInt8) : streamL ks nonce (streamL ks nonce b) = b := by
  refine ext_rd (by simp only [streamL_len]) fun q hq => ?_
  rw [streamL_len, streamL_len] at hq
  rw [streamL_rd _ _ _ (by rw [streamL_len]; exact hq), streamL_rd _ _ _ hq, UInt8.xor_assoc, UInt8.xor_self, UInt8.xor_zero]
theorem rd_take {l : List UInt8} {k q : Nat} (h : q < k) : rd (l.take k) (q : Int) = rd l (q : Int) := by
  rw [rd_nat, rd_nat, List.getD_eq_getElem?_getD, List.getD_eq_getElem?_getD, List.getElem?_take_of_lt h]
theorem streamL_take (ks nonce b : List UInt8) (k : Nat) : streamL ks nonce (b.take k) = (streamL ks nonce b).take k := by
  refine ext_rd (by simp only [streamL_len, List.length_take]) fun q hq => ?_
  rw [streamL_len, List.length_take] at hq
  rw [streamL_rd _ _ _ (by rw [List.length_take]; exact hq), rd_take (by omega), rd_take (by omega), streamL_rd _ _ _ (by omega)]
end Go.Proofs.Aes
end
section
/- Aes: the stream of a stream is the bytes; fewer bytes are the beginning of more; each block of it is a block's of the counter. -/
set_option linter.unusedVariables false
set_option linter.unusedSimpArgs false
set_option maxRecDepth 100000
set_option maxHeartbeats 4000000
namespace Go.Proofs.Aes
open Go Go.Pv Go.Proofs
attribute [local irreducible] boxL mulU exE exW lockS lockF keysL blockV streamL numL boxU
structure ZN (Z : Nat → Go.Obj → Prop) : Prop where
  z : ∀ B o, Z B o → ∃ c e f, o = Go.Obj.cells c e f
abbrev C (f : FuncId) (args : List V) (v : V) : Prop := CtH Try.prog ZN f args v
theorem ct {f : FuncId} {fn : Func} {c : Code} {args : List V} {v : V} (hf : Try.prog.funcs[f]? = some fn)
    (h : ∀ {Z : Nat → Go.Obj → Prop}, ZN Z → CW Try.prog Z none fn.ntmps c (FinD Try.prog fn v) (fun t => args.getD t .undef) [])
    (hb : fn.body = some c := by rfl) (hname : (fn.name == "runtime.NumGoroutine") = false := by kernel_rfl) (hn : args.length ≤ fn.ntmps := by exact Nat.le_of_ble_eq_true rfl) (hres : fn.results.toList.all (okRes fn.ntmps) = true := by kernel_rfl)
    (ha : DVs args := by infer_instance) (hv : DV v := by infer_instance) : C f args v := ctd (fun Z h => h.z) hf h hb hname hn hres ha hv
instance cShown : CC Try.prog 9 (C 9 [] (.bool true)) := ⟨fun {Z} H L => shown H.z L⟩
instance cStream : CC Try.prog 19 (∀ key nonce b : List UInt8, key.length = 16 → nonce.length = 12 → b.length ≤ 300 → C 19 [gB key, gB nonce, gB b] (.tup [gB (streamL (keysL key) nonce b), .int .i64 0])) :=
  ⟨fun key nonce b h1 h2 h3 {Z} H L => by
    have := stream H.z key nonce b h3 L
    rwa [show streamV key nonce b = (streamL (keysL key) nonce b, 0) from if_pos ⟨h1, h2⟩] at this⟩
instance cBlock : CC Try.prog 17 (∀ key b : List UInt8, key.length = 16 → b.length = 16 → C 17 [gB key, gB b] (.tup [gB (lockS (keysL key) b), .int .i64 0])) :=
  ⟨fun key b h1 h2 {Z} H L => by
    have := block H.z key b L
    rwa [show blockV key b = (lockS (keysL key) b, 0) by unfold blockV; exact if_pos ⟨h1, h2⟩] at this⟩
instance cSame : CC Try.prog 12 (∀ a b : List UInt8, C 12 [gB a, gB b] (.bool (decide (a = b)))) := ⟨fun a b {Z} H L => same H.z a b L⟩
instance back : CC Try.prog 7 (∀ (key nonce b : List UInt8) (cut : Int), 0 ≤ cut ∧ cut < 65536 → C 7 [.agg [gB key, gB nonce, gB b, .int .u16 cut]] (.bool true)) := ⟨fun key nonce b cut h1 => by
  refine ct Try.func7 fun {Z} H => ?_
  by_cases g : key.length = 16 ∧ nonce.length = 12 ∧ b.length ≤ 300
  · obtain ⟨g1, g2, g3⟩ := g
    have l1 := streamL_len (keysL key) nonce b
    have s1 := streamL_twice (keysL key) nonce b
    have s2 := streamL_take (keysL key) nonce b (cut % ((b.length : Int) + 1)).toNat
    have q1 : 0 ≤ cut % ((b.length : Int) + 1) ∧ cut % ((b.length : Int) + 1) < (b.length : Int) + 1 := ⟨Int.emod_nonneg _ (by omega), Int.emod_lt_of_pos _ (by omega)⟩
    have l2 : (b.take (cut % ((b.length : Int) + 1)).toNat).length ≤ 300 := by rw [List.length_take]; omega
    repeat' first | refine go ?_ | (refine sp ?_ ?_ <;> intro h) | intro b
    refine W.loop (fun i : Nat => [(3, gB key), (4, gB nonce), (5, gB b), (7, .bool true), (8, gB (streamL (keysL key) nonce b)), (15, .int .i64 ((16 * i : Nat) : Int))]) (fun _ => [.box [gB key, gB nonce, gB b, .int .u16 cut]]) (fun i => 16 * i < b.length + 16) (fun i => b.length + 16 - 16 * i) 0 (by omega) ?_
    intro i env hi
    by_cases hic : 16 * i < b.length
    · have k1 := fun L => refNum H.z (i + 1) 4 (by decide) (by decide) (by omega) (by omega) L
      rw [show ((i + 1 : Nat) : Int) = ((16 * i : Nat) : Int) / 16 + 1 by omega] at k1
      have ln := numL_len (i + 1) 4
      have lk : (lockS (keysL key) (nonce ++ numL (i + 1) 4)).length = 16 := lockS_len _ _
      have la : (nonce ++ numL (i + 1) 4).length = 16 := by rw [List.length_append, ln, g2]
      repeat' first | refine go ?_ | (refine sp ?_ ?_ <;> intro h) | intro b
      refine W.loop (fun j : Nat => [(3, gB key), (4, gB nonce), (5, gB b), (7, .bool true), (8, gB (streamL (keysL key) nonce b)), (15, .int .i64 ((16 * i : Nat) : Int)), (18, gB (lockS (keysL key) (nonce ++ numL (i + 1) 4))), (20, .int .i64 ((16 * i + j : Nat) : Int))])
        (fun _ => [.box [gB key, gB nonce, gB b, .int .u16 cut], .buf 1 (nonce ++ numL (i + 1) 4).length ((nonce ++ numL (i + 1) 4).map g8)]) (fun j => 16 * i + j ≤ min (16 * i + 16) b.length) (fun j => min (16 * i + 16) b.length - (16 * i + j)) 0 (by omega) ?_
      intro j env hj
      by_cases hjc : 16 * i + j < min (16 * i + 16) b.length
      · have f1 : ((rd (streamL (keysL key) nonce b) ((16 * i + j : Nat) : Int)).toNat : Int) = ((rd b ((16 * i + j : Nat) : Int) ^^^ rd (lockS (keysL key) (nonce ++ numL (i + 1) 4)) (((16 * i + j : Nat) : Int) - ((16 * i : Nat) : Int))).toNat : Int) := by
          rw [streamL_rd _ _ _ (by omega), show (16 * i + j) / 16 + 1 = i + 1 by omega, show (((16 * i + j) % 16 : Nat) : Int) = ((16 * i + j : Nat) : Int) - ((16 * i : Nat) : Int) by omega]
        repeat' first | refine go ?_ | (refine sp ?_ ?_ <;> intro h) | intro b
        all_goals first | exact lp (j + 1) (by omega) (by omega) | trace_state
      · repeat' first | refine go ?_ | (refine sp ?_ ?_ <;> intro h) | intro b
        all_goals first | exact lp (i + 1) (by omega) (by omega) | trace_state
    · repeat' first | refine go ?_ | (refine sp ?_ ?_ <;> intro h) | intro b
      all_goals first | exact fin rfl | trace_state
  · repeat' first | refine go ?_ | (refine sp ?_ ?_ <;> intro h) | intro b
    all_goals first | exact fin rfl | (exfalso; omega) | trace_state⟩
end Go.Proofs.Aes
end
