import Derived.Test.YtfjkplemepcmeaaG14
import Derived.Test.YtfjkplemepcmeaaG3
set_option linter.unusedVariables false
set_option linter.unusedSimpArgs false
set_option linter.unusedSectionVars false
section
set_option linter.unusedVariables false
set_option linter.unusedSimpArgs false
set_option maxHeartbeats 4000000
set_option maxRecDepth 100000
namespace Go.Proofs.Aes
open Go Go.Pv Go.Proofs
variable {Z : Nat → Go.Obj → Prop}
attribute [local irreducible] boxL mulU exE exW lockS numL
theorem frz1_sl {k : Nat} {L : List Go.Pv.Obj} (l : List UInt8) : frz1 k L (.sl false false (l.map g8)) = some (gB l) := by
  unfold frz1
  exact if_pos (gB_data l)
theorem refBlock (H : ZC Z) (key b : List UInt8) (L : List Go.Pv.Obj) : SE Try.prog Z 18 [gB key, gB b] L (.tup [gB (blockV key b).1, .int .i64 (blockV key b).2]) L := by
  by_cases hkb : key.length = 16 ∧ b.length = 16
  · have hv : blockV key b = (lockS (keysL key) b, 0) := if_pos hkb
    rw [hv]
    obtain ⟨hk, hb⟩ := hkb
    have hKL := keysL_len hk
    refine SE.data H Try.func18 rfl ?_
    repeat' first
      | (show XO _ _ _ (Oper.mk (some _) (Op.move _) _ _ _ none :: _) _ _ _; refine X.mv ?_)
      | (show XO _ _ _ (Oper.mk (some _) (Op.assign _) _ _ _ none :: _) _ _ _; refine X.as ?_)
      | (show XO _ _ _ (Oper.mk (some _) (Op.call (Call.mk (Callee.builtin Builtin.len) _ _)) _ _ _ none :: _) _ _ _; refine X.lnS rfl ?_)
      | (show XO _ _ _ (Oper.mk (some _) (Op.call _) _ _ _ none :: _) _ _ _; first | refine X.call (refBoxes H _) ?_ | refine X.call (refKeys H key hk _) ?_ | refine X.call (lock H (keysL key) b hKL hb _) ?_)
      | (show XO _ _ _ (Oper.mk (some _) (_) _ _ _ none :: _) _ _ _; refine X.go rfl ?_)
      | (show XO _ _ _ (Oper.mk _ _ _ _ _ (some _) :: _) _ _ _; first | refine X.hy rfl (by (conv => lhs; whnf) <;> rfl) (by first | with_reducible rfl | with_reducible exact notT | with_reducible exact notF) ?_ | refine X.hqf rfl (by (conv => lhs; whnf) <;> rfl) (by with_reducible rfl) (by first | omega | decide) ?_)
      | (show XO _ _ _ [] _ _ _; refine X.nil ?_)
      | (show CW _ _ _ _ (Code.seq (Code.region _ _ false) _) _ _ _; refine W.rq ?_)
      | (show CW _ _ _ _ (Code.cond _ _ _) _ _ _; refine W.jqf (by (conv => lhs; whnf) <;> rfl) (by with_reducible rfl) (by first | omega | decide) ?_)
      | (show CW _ _ _ _ _ _ _ _; first | refine W.kr ?_ | refine W.kn ?_ | refine W.sq ?_)
      | (show KO _ _ _ _; refine K.sn ?_)
      | refine K.nx ?_
    refine K.fin rfl ⟨[], (List.append_nil _).symm, (frz_tup2 (frz1_sl _) rfl)⟩
  · have hv : blockV key b = ([], 1) := if_neg hkb
    rw [hv]
    refine SE.weak (v := .tup [.sl true true [], .int .i64 1]) ?_ fun G r h => tw h
    refine SE.data H Try.func18 rfl ?_
    repeat' first
      | (show XO _ _ _ (Oper.mk (some _) (Op.move _) _ _ _ none :: _) _ _ _; refine X.mv ?_)
      | (show XO _ _ _ (Oper.mk (some _) (Op.assign _) _ _ _ none :: _) _ _ _; refine X.as ?_)
      | (show XO _ _ _ (Oper.mk (some _) (Op.call (Call.mk (Callee.builtin Builtin.len) _ _)) _ _ _ none :: _) _ _ _; refine X.lnS rfl ?_)
      | (show XO _ _ _ (Oper.mk (some _) (_) _ _ _ none :: _) _ _ _; refine X.go rfl ?_)
      | (show XO _ _ _ (Oper.mk _ _ _ _ _ (some _) :: _) _ _ _; first | refine X.hy rfl (by (conv => lhs; whnf) <;> rfl) (by first | with_reducible rfl | with_reducible exact notT | with_reducible exact notF) ?_ | refine X.hnt rfl (by (conv => lhs; whnf) <;> rfl) (by first | with_reducible rfl | with_reducible exact notT | with_reducible exact notF) ?_ | refine X.hq rfl (by (conv => lhs; whnf) <;> rfl) (by with_reducible rfl) (fun h => ?_) (fun h => ?_))
      | (show XO _ _ _ [] _ _ _; refine X.nil ?_)
      | (show CW _ _ _ _ (Code.seq (Code.region _ _ false) _) _ _ _; refine W.rq ?_)
      | (show CW _ _ _ _ (Code.cond _ _ _) _ _ _; first | refine W.jt (by (conv => lhs; whnf) <;> rfl) (by first | with_reducible rfl | with_reducible exact notT | with_reducible exact notF) ?_ | refine W.jqt (by (conv => lhs; whnf) <;> rfl) (by with_reducible rfl) (by first | omega | decide) ?_)
      | (show CW _ _ _ _ _ _ _ _; first | refine W.kr ?_ | refine W.sq ?_)
      | (show KO _ _ _ _; refine K.sr ?_)
      | refine K.nx ?_
    all_goals first | exact end_data rfl rfl rfl | exact absurd ⟨by omega, by omega⟩ hkb

theorem rk_part (ks : List UInt8) (n : Nat) : (ks.take (16 * (n : Int) + 16).toNat).drop (16 * (n : Int)).toNat = rk ks n := by
  unfold rk
  rw [show (16 * (n : Int) + 16).toNat = n * 16 + 16 by omega, show (16 * (n : Int)).toNat = n * 16 by omega, List.drop_take, show n * 16 + 16 - n * 16 = 16 by omega]
theorem refKeys1 (H : ZC Z) (key : List UInt8) : SE Try.prog Z 11 [gB key] [] (.tup [gBs (keysV key).1, .int .i64 (keysV key).2]) [] := by
  by_cases hk : key.length = 16
  · have hv : keysV key = ((List.range 11).map (rk (keysL key)), 0) := if_pos hk
    rw [hv]
    have hKL := keysL_len hk
    have hks := refKeys H key hk
    refine SE.data H Try.func11 rfl ?_
    generalize keysL key = ks at *
    repeat' first
      | (show XO _ _ _ (Oper.mk (some _) (Op.move _) _ _ _ none :: _) _ _ _; refine X.mv ?_)
      | (show XO _ _ _ (Oper.mk (some _) (Op.assign _) _ _ _ none :: _) _ _ _; refine X.as ?_)
      | (show XO _ _ _ (Oper.mk (some _) (Op.call (Call.mk (Callee.builtin Builtin.len) _ _)) _ _ _ none :: _) _ _ _; refine X.lnS rfl ?_)
      | (show XO _ _ _ (Oper.mk (some _) (Op.call _) _ _ _ none :: _) _ _ _; first | refine X.call (refBoxes H _) ?_ | refine X.call (hks _) ?_)
      | (show XO _ _ _ (Oper.mk (some _) (_) _ _ _ none :: _) _ _ _; refine X.go rfl ?_)
      | (show XO _ _ _ [] _ _ _; refine X.nil ?_)
      | (show CW _ _ _ _ (Code.seq (Code.region _ _ false) _) _ _ _; refine W.rq ?_)
      | (show CW _ _ _ _ (Code.cond _ _ _) _ _ _; refine W.jqf (by (conv => lhs; whnf) <;> rfl) (by with_reducible rfl) (by first | omega | decide) ?_)
      | (show CW _ _ _ _ _ _ _ _; first | refine W.kn ?_ | refine W.bl ?_ | refine W.sq ?_)
      | (show KO _ _ _ _; refine K.sn ?_)
      | refine K.nx ?_
    refine W.ghost 5 1 rfl ?_
    refine W.lqF 1 (fun mz st => ∃ (n : Nat), st.env 4 = gB ks ∧ st.env 5 = .own 0 0 (((List.range n).map (rk ks)).map gB).length (((List.range n).map (rk ks)).map gB).length ∧ st.env 6 = .int .i64 n ∧ st.L = [Go.Pv.Obj.buf 1 0 (((List.range n).map (rk ks)).map gB)] ∧ (n ≤ 11) ∧ mz = 11 - n) ?_ ?_
    · refine ⟨_, 0, rfl, rfl, rfl, rfl, ?_, rfl⟩
      omega
    rintro mz env L ⟨n, e4, e5, e6, eL, hI, hm⟩
    dsimp only at e4 e5 e6 eL
    subst eL
    refine W.ev 4 e4 ?_
    refine W.ev 5 e5 ?_
    refine W.ev 6 e6 ?_
    by_cases h : n = 11
    · subst h
      repeat' first
        | (show XO _ _ _ (Oper.mk (some _) (Op.move _) _ _ _ none :: _) _ _ _; refine X.mv ?_)
        | (show XO _ _ _ (Oper.mk (some _) (Op.assign _) _ _ _ none :: _) _ _ _; refine X.as ?_)
        | (show XO _ _ _ (Oper.mk (some _) (_) _ _ _ none :: _) _ _ _; refine X.go rfl ?_)
        | (show XO _ _ _ [] _ _ _; refine X.nil ?_)
        | (show CW _ _ _ _ (Code.seq (Code.region _ _ false) _) _ _ _; refine W.rq ?_)
        | (show CW _ _ _ _ (Code.cond _ _ _) _ _ _; refine W.jpf (by (conv => lhs; whnf) <;> rfl) (by with_reducible rfl) (by first | omega | decide) ?_)
        | (show CW _ _ _ _ _ _ _ _; first | refine W.kr ?_ | refine W.ke ?_ | refine W.sq ?_)
        | (show KO _ _ _ _; first | refine K.sn ?_ | refine K.se ?_ | refine K.be ?_ | refine K.le ?_)
        | refine K.nx ?_
      refine K.fin rfl ⟨_, rfl, (frz_tup2 (frz_own rfl (Nat.zero_le _) (map_data gB_data _)) rfl).trans ?_⟩
      rfl
    · have ow : (List.range (n + 1)).map (rk ks) = (List.range n).map (rk ks) ++ [rk ks n] := by rw [List.range_succ, List.map_append]; rfl
      have hr := rk_len hKL (n := n) (by omega)
      have hp := rk_part ks n
      repeat' first
        | (show XO _ _ _ (Oper.mk _ _ _ _ _ none :: _) _ _ _; first | refine X.sl2 (g := g8) (sz := 1) rfl rfl rfl (by omega) (fun _ => rfl) ?_ | refine X.apF0 (g := g8) (rk ks n) rfl (by rw [← hp]; rfl) (fun _ => rfl) (fun _ => rfl) (by omega) ?_ | refine X.ap1 (g := gB) (rk ks n) rfl rfl rfl (by rw [List.length_map, List.length_range]; omega) ?_)
        | (show XO _ _ _ (Oper.mk (some _) (Op.move _) _ _ _ none :: _) _ _ _; refine X.mv ?_)
        | (show XO _ _ _ (Oper.mk (some _) (Op.assign _) _ _ _ none :: _) _ _ _; refine X.as ?_)
        | (show XO _ _ _ (Oper.mk (some _) (Op.binOp BinOp.add _ _ _ _) _ _ _ none :: _) _ _ _; refine X.addI rfl rfl (by omega) ?_)
        | (show XO _ _ _ (Oper.mk (some _) (Op.binOp BinOp.mul _ _ _ _) _ _ _ none :: _) _ _ _; refine X.mulI rfl rfl (by omega) ?_)
        | (show XO _ _ _ (Oper.mk (some _) (Op.buildSlice _ _ _) _ _ _ none :: _) _ _ _; first | refine X.bs0 ?_ | refine X.bs1 (by (conv => lhs; whnf) <;> rfl) ?_)
        | (show XO _ _ _ (Oper.mk (some _) (_) _ _ _ none :: _) _ _ _; refine X.go rfl ?_)
        | (show XO _ _ _ [] _ _ _; refine X.nil ?_)
        | (show CW _ _ _ _ (Code.seq (Code.region _ _ false) _) _ _ _; refine W.rq ?_)
        | (show CW _ _ _ _ (Code.region _ _ false) _ _ _; refine W.rz ?_)
        | (show CW _ _ _ _ (Code.cond _ _ _) _ _ _; refine W.jpt (by (conv => lhs; whnf) <;> rfl) (by with_reducible rfl) (by first | omega | decide) ?_)
        | (show CW _ _ _ _ _ _ _ _; first | refine W.kn ?_ | refine W.bl ?_ | refine W.sq ?_)
        | (show KO _ _ _ _; first | refine K.sn ?_ | refine K.bn ?_ | refine K.fn _ ?_ [_] _ rfl rfl (by repeat' first | exact obs_nil | refine obs_cons ?_ ?_ | exact ob_buf (map_data gB_data _)) ⟨n + 1, cutv_sl (map_data g8_data _), by rw [ow]; rfl, vI (by omega), by rw [ow], ?_, rfl⟩)
        | refine K.nx ?_
        | refine K.re ?_
      · omega
      · omega
  · have hv : keysV key = ([], 1) := if_neg hk
    rw [hv]
    refine SE.weak (v := .tup [.sl true true [], .int .i64 1]) ?_ fun G r h => tw h
    refine SE.data H Try.func11 rfl ?_
    repeat' first
      | (show XO _ _ _ (Oper.mk (some _) (Op.move _) _ _ _ none :: _) _ _ _; refine X.mv ?_)
      | (show XO _ _ _ (Oper.mk (some _) (Op.assign _) _ _ _ none :: _) _ _ _; refine X.as ?_)
      | (show XO _ _ _ (Oper.mk (some _) (Op.call (Call.mk (Callee.builtin Builtin.len) _ _)) _ _ _ none :: _) _ _ _; refine X.lnS rfl ?_)
      | (show XO _ _ _ (Oper.mk (some _) (_) _ _ _ none :: _) _ _ _; refine X.go rfl ?_)
      | (show XO _ _ _ [] _ _ _; refine X.nil ?_)
      | (show CW _ _ _ _ (Code.seq (Code.region _ _ false) _) _ _ _; refine W.rq ?_)
      | (show CW _ _ _ _ (Code.cond _ _ _) _ _ _; refine W.jqt (by (conv => lhs; whnf) <;> rfl) (by with_reducible rfl) (by first | omega | decide) ?_)
      | (show CW _ _ _ _ _ _ _ _; first | refine W.kr ?_ | refine W.sq ?_)
      | (show KO _ _ _ _; refine K.sr ?_)
      | refine K.nx ?_
    exact end_data rfl rfl rfl
theorem refKeysL (H : ZC Z) (key : List UInt8) (L : List Go.Pv.Obj) : SE Try.prog Z 11 [gB key] L (.tup [gBs (keysV key).1, .int .i64 (keysV key).2]) L :=
  SE.lift (refKeys1 H key) L (by simp [V.lts, gB_data]) (by simp [V.lt, V.lts, gBs_data])

theorem refStream0 (H : ZC Z) (key nonce b : List UInt8) (hb : b.length ≤ 300) : SE Try.prog Z 20 [gB key, gB nonce, gB b] [] (.tup [gB (streamV key nonce b).1, .int .i64 (streamV key nonce b).2]) [] := by
  by_cases hkn : key.length = 16 ∧ nonce.length = 12
  · have hv : streamV key nonce b = (streamL (keysL key) nonce b, 0) := if_pos hkn
    rw [hv]
    obtain ⟨hk, hn⟩ := hkn
    have hKL := keysL_len hk
    have hks := refKeys H key hk
    by_cases hb0 : b.length = 0
    · have hs0 : streamL (keysL key) nonce b = [] := by unfold streamL; rw [hb0]; rfl
      rw [hs0]
      refine SE.weak (v := .tup [.sl true true [], .int .i64 0]) ?_ fun G r h => tw h
      refine SE.data H Try.func20 rfl ?_
      repeat' first
        | (show XO _ _ _ (Oper.mk (some _) (Op.move _) _ _ _ none :: _) _ _ _; refine X.mv ?_)
        | (show XO _ _ _ (Oper.mk (some _) (Op.assign _) _ _ _ none :: _) _ _ _; refine X.as ?_)
        | (show XO _ _ _ (Oper.mk (some _) (Op.call (Call.mk (Callee.builtin Builtin.len) _ _)) _ _ _ none :: _) _ _ _; refine X.lnS rfl ?_)
        | (show XO _ _ _ (Oper.mk (some _) (_) _ _ _ none :: _) _ _ _; refine X.go rfl ?_)
        | (show XO _ _ _ (Oper.mk _ _ _ _ _ (some _) :: _) _ _ _; first | refine X.hy rfl (by (conv => lhs; whnf) <;> rfl) (by first | with_reducible rfl | with_reducible exact notT | with_reducible exact notF) ?_ | refine X.hqf rfl (by (conv => lhs; whnf) <;> rfl) (by with_reducible rfl) (by first | omega | decide) ?_)
        | (show XO _ _ _ [] _ _ _; refine X.nil ?_)
        | (show CW _ _ _ _ (Code.seq (Code.region _ _ false) _) _ _ _; refine W.rq ?_)
        | (show CW _ _ _ _ (Code.cond _ _ _) _ _ _; first | refine W.jpt (by (conv => lhs; whnf) <;> rfl) (by with_reducible rfl) (by first | omega | decide) ?_ | refine W.jqf (by (conv => lhs; whnf) <;> rfl) (by with_reducible rfl) (by first | omega | decide) ?_)
        | (show CW _ _ _ _ _ _ _ _; first | refine W.kr ?_ | refine W.kn ?_ | refine W.sq ?_)
        | (show KO _ _ _ _; first | refine K.sn ?_ | refine K.sr ?_)
        | refine K.nx ?_
      all_goals exact end_data rfl rfl rfl
    · refine SE.data H Try.func20 rfl ?_
      generalize keysL key = ks at *
      repeat' first
        | (show XO _ _ _ (Oper.mk (some _) (Op.move _) _ _ _ none :: _) _ _ _; refine X.mv ?_)
        | (show XO _ _ _ (Oper.mk (some _) (Op.assign _) _ _ _ none :: _) _ _ _; refine X.as ?_)
        | (show XO _ _ _ (Oper.mk (some _) (Op.call (Call.mk (Callee.builtin Builtin.len) _ _)) _ _ _ none :: _) _ _ _; refine X.lnS rfl ?_)
        | (show XO _ _ _ (Oper.mk (some _) (Op.call _) _ _ _ none :: _) _ _ _; first | refine X.call (refBoxes H _) ?_ | refine X.call (hks _) ?_)
        | (show XO _ _ _ (Oper.mk (some _) (_) _ _ _ none :: _) _ _ _; refine X.go rfl ?_)
        | (show XO _ _ _ (Oper.mk _ _ _ _ _ (some _) :: _) _ _ _; first | refine X.hy rfl (by (conv => lhs; whnf) <;> rfl) (by first | with_reducible rfl | with_reducible exact notT | with_reducible exact notF) ?_ | refine X.hqf rfl (by (conv => lhs; whnf) <;> rfl) (by with_reducible rfl) (by first | omega | decide) ?_)
        | (show XO _ _ _ [] _ _ _; refine X.nil ?_)
        | (show CW _ _ _ _ (Code.seq (Code.region _ _ false) _) _ _ _; refine W.rq ?_)
        | (show CW _ _ _ _ (Code.cond _ _ _) _ _ _; first | refine W.jpf (by (conv => lhs; whnf) <;> rfl) (by with_reducible rfl) (by first | omega | decide) ?_ | refine W.jqf (by (conv => lhs; whnf) <;> rfl) (by with_reducible rfl) (by first | omega | decide) ?_)
        | (show CW _ _ _ _ _ _ _ _; first | refine W.kn ?_ | refine W.bl ?_ | refine W.sq ?_)
        | (show KO _ _ _ _; refine K.sn ?_)
        | refine K.nx ?_
      refine W.ghost 8 1 rfl ?_
      have hz0 : min (16 * 0) b.length = 0 := by omega
      refine W.lqF 1 (fun mz st => ∃ (j : Nat), st.env 1 = gB nonce ∧ st.env 2 = gB b ∧ st.env 8 = .own 0 0 (((List.range (min (16 * j) b.length)).map (streamB ks nonce b)).map g8).length (((List.range (min (16 * j) b.length)).map (streamB ks nonce b)).map g8).length ∧ st.env 9 = gB boxL ∧ st.env 10 = gB ks ∧ st.env 11 = .int .i64 (16 * (j : Int)) ∧ st.L = [Go.Pv.Obj.buf 1 0 (((List.range (min (16 * j) b.length)).map (streamB ks nonce b)).map g8)] ∧ (16 * j ≤ b.length + 15) ∧ mz = b.length + 16 - 16 * j) ?_ ?_
      · refine ⟨_, 0, rfl, rfl, by rw [hz0]; rfl, rfl, rfl, rfl, by rw [hz0]; rfl, ?_, rfl⟩
        omega
      rintro mz env L ⟨j, e1, e2, e8, e9, e10, e11, eL, hI, hm⟩
      dsimp only at e1 e2 e8 e9 e10 e11 eL
      subst eL
      refine W.ev 1 e1 ?_
      refine W.ev 2 e2 ?_
      refine W.ev 8 e8 ?_
      refine W.ev 9 e9 ?_
      refine W.ev 10 e10 ?_
      refine W.ev 11 e11 ?_
      by_cases hend : b.length ≤ 16 * j
      · have hmin : min (16 * j) b.length = b.length := by omega
        repeat' first
          | (show XO _ _ _ (Oper.mk (some _) (Op.move _) _ _ _ none :: _) _ _ _; refine X.mv ?_)
          | (show XO _ _ _ (Oper.mk (some _) (Op.assign _) _ _ _ none :: _) _ _ _; refine X.as ?_)
          | (show XO _ _ _ (Oper.mk (some _) (Op.call (Call.mk (Callee.builtin Builtin.len) _ _)) _ _ _ none :: _) _ _ _; refine X.lnS rfl ?_)
          | (show XO _ _ _ (Oper.mk (some _) (_) _ _ _ none :: _) _ _ _; refine X.go rfl ?_)
          | (show XO _ _ _ [] _ _ _; refine X.nil ?_)
          | (show CW _ _ _ _ (Code.seq (Code.region _ _ false) _) _ _ _; refine W.rq ?_)
          | (show CW _ _ _ _ (Code.cond _ _ _) _ _ _; refine W.jpf (by (conv => lhs; whnf) <;> rfl) (by with_reducible rfl) (by first | omega | decide) ?_)
          | (show CW _ _ _ _ _ _ _ _; first | refine W.kr ?_ | refine W.ke ?_ | refine W.sq ?_)
          | (show KO _ _ _ _; first | refine K.sn ?_ | refine K.se ?_ | refine K.be ?_ | refine K.le ?_)
          | refine K.nx ?_
        refine K.fin rfl ⟨_, rfl, (frz_tup2 (frz_own rfl (Nat.zero_le _) (map_data g8_data _)) rfl).trans ?_⟩
        rw [hmin]; rfl
      · have hg1 : 16 * (j + 1) ≤ b.length + 15 := by omega
        have hg2 : b.length + 16 - 16 * (j + 1) < mz := by omega
        have hz1 : min (16 * j) b.length = 16 * j := by omega
        have hnum := refNum H (j + 1) 4 (by omega) (by omega) (by omega) (by omega)
        rw [show ((j + 1 : Nat) : Int) = 16 * (j : Int) / 16 + 1 by omega] at hnum
        have hnl := numL_len (j + 1) 4
        have hsl : (nonce ++ numL (j + 1) 4).length = 16 := by rw [List.length_append, hn, hnl]
        have hlk := lock H ks (nonce ++ numL (j + 1) 4) hKL hsl
        have hll := lockS_len ks (nonce ++ numL (j + 1) 4)
        repeat' first
          | (show XO _ _ _ (Oper.mk _ _ _ _ _ none :: _) _ _ _; first | refine X.apO (g := g8) nonce rfl rfl (fun _ => rfl) (fun _ => rfl) (by omega) ?_ | refine X.apLF (g := g8) nonce (numL (j + 1) 4) rfl rfl rfl (fun _ => rfl) (fun _ => rfl) (by omega) ?_)
          | (show XO _ _ _ (Oper.mk (some _) (Op.move _) _ _ _ none :: _) _ _ _; refine X.mv ?_)
          | (show XO _ _ _ (Oper.mk (some _) (Op.assign _) _ _ _ none :: _) _ _ _; refine X.as ?_)
          | (show XO _ _ _ (Oper.mk (some _) (Op.call (Call.mk (Callee.builtin Builtin.len) _ _)) _ _ _ none :: _) _ _ _; refine X.lnS rfl ?_)
          | (show XO _ _ _ (Oper.mk (some _) (Op.call _) _ _ _ none :: _) _ _ _; first | refine X.call (hnum _) ?_ | refine X.call (hlk _) ?_)
          | (show XO _ _ _ (Oper.mk (some _) (Op.binOp BinOp.add _ _ _ _) _ _ _ none :: _) _ _ _; refine X.addI rfl rfl (by omega) ?_)
          | (show XO _ _ _ (Oper.mk (some _) (Op.binOp BinOp.quo _ _ _ _) _ _ _ none :: _) _ _ _; refine X.quoI rfl rfl (by omega) ?_)
          | (show XO _ _ _ (Oper.mk (some _) (Op.buildSlice _ _ _) _ _ _ none :: _) _ _ _; refine X.bs0 ?_)
          | (show XO _ _ _ (Oper.mk (some _) (_) _ _ _ none :: _) _ _ _; refine X.go rfl ?_)
          | (show XO _ _ _ [] _ _ _; refine X.nil ?_)
          | (show CW _ _ _ _ (Code.seq (Code.region _ _ false) _) _ _ _; refine W.rq ?_)
          | (show CW _ _ _ _ (Code.cond _ _ _) _ _ _; refine W.jpt (by (conv => lhs; whnf) <;> rfl) (by with_reducible rfl) (by first | omega | decide) ?_)
          | (show CW _ _ _ _ _ _ _ _; first | refine W.kn ?_ | refine W.bl ?_ | refine W.sq ?_)
          | (show KO _ _ _ _; refine K.sn ?_)
          | refine K.nx ?_
        refine W.lq (fun mz st => ∃ (i : Nat), st.env 1 = gB nonce ∧ st.env 2 = gB b ∧ st.env 8 = .own 0 0 (((List.range (i)).map (streamB ks nonce b)).map g8).length (((List.range (i)).map (streamB ks nonce b)).map g8).length ∧ st.env 9 = gB boxL ∧ st.env 10 = gB ks ∧ st.env 11 = .int .i64 (16 * (j : Int)) ∧ st.env 14 = gB (lockS ks (nonce ++ numL (j + 1) 4)) ∧ st.env 15 = .int .i64 i ∧ st.L = [Go.Pv.Obj.buf 1 0 (((List.range (i)).map (streamB ks nonce b)).map g8), .buf 1 16 ((nonce ++ numL (j + 1) 4).map g8)] ∧ (16 * j ≤ i ∧ i ≤ 16 * j + 16 ∧ i ≤ b.length) ∧ mz = b.length - i) ?_ ?_
        · refine ⟨_, 16 * j, rfl, rfl, by rw [hz1]; rfl, rfl, rfl, rfl, rfl, vI (by omega), by rw [hz1, ← hsl]; rfl, ?_, rfl⟩
          omega
        rintro mz env L ⟨i, e1, e2, e8, e9, e10, e11, e14, e15, eL, hi, hm⟩
        dsimp only at e1 e2 e8 e9 e10 e11 e14 e15 eL
        subst eL
        refine W.ev 1 e1 ?_
        refine W.ev 2 e2 ?_
        refine W.ev 8 e8 ?_
        refine W.ev 9 e9 ?_
        refine W.ev 10 e10 ?_
        refine W.ev 11 e11 ?_
        refine W.ev 14 e14 ?_
        refine W.ev 15 e15 ?_
        obtain ⟨i1, i2, i3⟩ := hi
        by_cases hd : i = 16 * j + 16 ∨ i = b.length
        · have hmn : min (16 * (j + 1)) b.length = i := by omega
          repeat' first
            | (show XO _ _ _ (Oper.mk (some _) (Op.move _) _ _ _ none :: _) _ _ _; refine X.mv ?_)
            | (show XO _ _ _ (Oper.mk (some _) (Op.assign _) _ _ _ none :: _) _ _ _; refine X.as ?_)
            | (show XO _ _ _ (Oper.mk (some _) (Op.call (Call.mk (Callee.builtin Builtin.len) _ _)) _ _ _ none :: _) _ _ _; refine X.lnS rfl ?_)
            | (show XO _ _ _ (Oper.mk (some _) (Op.binOp BinOp.add _ _ _ _) _ _ _ none :: _) _ _ _; refine X.addI rfl rfl (by omega) ?_)
            | (show XO _ _ _ (Oper.mk (some _) (_) _ _ _ none :: _) _ _ _; refine X.go rfl ?_)
            | (show XO _ _ _ (Oper.mk _ _ _ _ _ (some _) :: _) _ _ _; first | refine X.hy rfl (by (conv => lhs; whnf) <;> rfl) (by first | with_reducible rfl | with_reducible exact notT | with_reducible exact notF) ?_ | refine X.hnf rfl (by (conv => lhs; whnf) <;> rfl) (by first | with_reducible rfl | with_reducible exact notT | with_reducible exact notF) ?_ | refine X.hp rfl (by (conv => lhs; whnf) <;> rfl) (by with_reducible rfl) (fun h => ?_) (fun h => ?_))
            | (show XO _ _ _ [] _ _ _; refine X.nil ?_)
            | (show CW _ _ _ _ (Code.seq (Code.region _ _ false) _) _ _ _; refine W.rq ?_)
            | (show CW _ _ _ _ (Code.region _ _ false) _ _ _; refine W.rz ?_)
            | (show CW _ _ _ _ (Code.cond _ _ _) _ _ _; first | refine W.jf (by (conv => lhs; whnf) <;> rfl) (by first | with_reducible rfl | with_reducible exact notT | with_reducible exact notF) ?_ | refine W.jpf (by (conv => lhs; whnf) <;> rfl) (by with_reducible rfl) (by first | omega | decide) ?_)
            | (show CW _ _ _ _ _ _ _ _; first | refine W.ke ?_ | refine W.sq ?_)
            | (show KO _ _ _ _; first | refine K.sn ?_ | refine K.se ?_ | refine K.bn ?_ | refine K.be ?_ | refine K.le ?_ | refine K.fn _ ?_ [_] _ rfl rfl (by repeat' first | exact obs_nil | refine obs_cons ?_ ?_ | exact ob_buf (map_data g8_data _)) ⟨j + 1, cutv_sl (map_data g8_data _), cutv_sl (map_data g8_data _), by rw [hmn]; rfl, cutv_sl (map_data g8_data _), cutv_sl (map_data g8_data _), vI (by omega), by rw [hmn], ?_, rfl⟩)
            | refine K.nx ?_
            | refine K.re ?_
          all_goals first | exact hg2 | exact hg1
        · have hval : g8 (rd b (i : Int) ^^^ rd (lockS ks (nonce ++ numL (j + 1) 4)) ((i : Int) - 16 * (j : Int))) = g8 (streamB ks nonce b i) := by
            unfold streamB
            rw [show i / 16 = j by omega, show ((i % 16 : Nat) : Int) = (i : Int) - 16 * (j : Int) by omega]
          have ow : (List.range (i + 1)).map (streamB ks nonce b) = (List.range i).map (streamB ks nonce b) ++ [streamB ks nonce b i] := by rw [List.range_succ, List.map_append]; rfl
          repeat' first
            | (show XO _ _ _ (Oper.mk _ _ _ _ _ none :: _) _ _ _; refine X.ap1 (g := g8) (streamB ks nonce b i) rfl rfl (by rw [← hval]; rfl) (by rw [List.length_map, List.length_range]; omega) ?_)
            | (show XO _ _ _ (Oper.mk (some _) (Op.move _) _ _ _ none :: _) _ _ _; refine X.mv ?_)
            | (show XO _ _ _ (Oper.mk (some _) (Op.assign _) _ _ _ none :: _) _ _ _; refine X.as ?_)
            | (show XO _ _ _ (Oper.mk (some _) (Op.call (Call.mk (Callee.builtin Builtin.len) _ _)) _ _ _ none :: _) _ _ _; refine X.lnS rfl ?_)
            | (show XO _ _ _ (Oper.mk (some _) (Op.binOp BinOp.add _ _ _ _) _ _ _ none :: _) _ _ _; refine X.addI rfl rfl (by omega) ?_)
            | (show XO _ _ _ (Oper.mk (some _) (_) _ _ _ none :: _) _ _ _; refine X.go rfl ?_)
            | (show XO _ _ _ (Oper.mk _ _ _ _ _ (some _) :: _) _ _ _; first | refine X.hy rfl (by (conv => lhs; whnf) <;> rfl) (by first | with_reducible rfl | with_reducible exact notT | with_reducible exact notF) ?_ | refine X.hpt rfl (by (conv => lhs; whnf) <;> rfl) (by with_reducible rfl) (by first | omega | decide) ?_)
            | (show XO _ _ _ [] _ _ _; refine X.nil ?_)
            | (show AO _ _ _ (Oper.mk _ _ _ _ _ none :: _) _ _ _; refine A.xor8 rfl rfl ?_)
            | (show AO _ _ _ (Oper.mk (some _) (Op.move _) _ _ _ none :: _) _ _ _; refine A.mv ?_)
            | (show AO _ _ _ (Oper.mk (some _) (Op.binOp BinOp.sub _ _ _ _) _ _ _ none :: _) _ _ _; refine A.subI rfl rfl (by omega) ?_)
            | (show AO _ _ _ (Oper.mk (some _) (Op.buildSlice _ _ _) _ _ _ none :: _) _ _ _; refine A.bs1 (by (conv => lhs; whnf) <;> rfl) ?_)
            | (show AO _ _ _ (Oper.mk (some _) (Op.indexAddr _ _ _) _ _ _ none :: _) _ _ _; refine A.iaS rfl rfl (by omega) ?_)
            | (show AO _ _ _ (Oper.mk (some _) (Op.load _ _) _ _ _ none :: _) _ _ _; refine A.go rfl ?_)
            | (show AO _ _ _ [] _ _ _; refine A.nil ?_)
            | (show CW _ _ _ _ (Code.seq (Code.region _ _ false) _) _ _ _; refine W.rq ?_)
            | (show CW _ _ _ _ (Code.region _ _ false) _ _ _; refine W.rz ?_)
            | (show CW _ _ _ _ (Code.region _ _ true) _ _ _; refine W.dz 13 ?_)
            | (show CW _ _ _ _ (Code.cond _ _ _) _ _ _; refine W.jpt (by (conv => lhs; whnf) <;> rfl) (by with_reducible rfl) (by first | omega | decide) ?_)
            | (show CW _ _ _ _ _ _ _ _; first | refine W.kn ?_ | refine W.bl ?_ | refine W.sq ?_)
            | (show KO _ _ _ _; first | refine K.sn ?_ | refine K.bn ?_ | refine K.ln _ ?_ ⟨i + 1, rfl, rfl, by rw [ow]; rfl, rfl, rfl, rfl, rfl, vI (by omega), by rw [ow], ?_, rfl⟩)
            | refine K.nx ?_
            | refine K.re ?_
            | refine K.dr ?_
          · omega
          · omega
  · have hv : streamV key nonce b = ([], 1) := if_neg hkn
    rw [hv]
    refine SE.weak (v := .tup [.sl true true [], .int .i64 1]) ?_ fun G r h => tw h
    refine SE.data H Try.func20 rfl ?_
    repeat' first
      | (show XO _ _ _ (Oper.mk (some _) (Op.move _) _ _ _ none :: _) _ _ _; refine X.mv ?_)
      | (show XO _ _ _ (Oper.mk (some _) (Op.assign _) _ _ _ none :: _) _ _ _; refine X.as ?_)
      | (show XO _ _ _ (Oper.mk (some _) (Op.call (Call.mk (Callee.builtin Builtin.len) _ _)) _ _ _ none :: _) _ _ _; refine X.lnS rfl ?_)
      | (show XO _ _ _ (Oper.mk (some _) (_) _ _ _ none :: _) _ _ _; refine X.go rfl ?_)
      | (show XO _ _ _ (Oper.mk _ _ _ _ _ (some _) :: _) _ _ _; first | refine X.hy rfl (by (conv => lhs; whnf) <;> rfl) (by first | with_reducible rfl | with_reducible exact notT | with_reducible exact notF) ?_ | refine X.hnt rfl (by (conv => lhs; whnf) <;> rfl) (by first | with_reducible rfl | with_reducible exact notT | with_reducible exact notF) ?_ | refine X.hq rfl (by (conv => lhs; whnf) <;> rfl) (by with_reducible rfl) (fun h => ?_) (fun h => ?_))
      | (show XO _ _ _ [] _ _ _; refine X.nil ?_)
      | (show CW _ _ _ _ (Code.seq (Code.region _ _ false) _) _ _ _; refine W.rq ?_)
      | (show CW _ _ _ _ (Code.cond _ _ _) _ _ _; first | refine W.jt (by (conv => lhs; whnf) <;> rfl) (by first | with_reducible rfl | with_reducible exact notT | with_reducible exact notF) ?_ | refine W.jqt (by (conv => lhs; whnf) <;> rfl) (by with_reducible rfl) (by first | omega | decide) ?_)
      | (show CW _ _ _ _ _ _ _ _; first | refine W.kr ?_ | refine W.sq ?_)
      | (show KO _ _ _ _; refine K.sr ?_)
      | refine K.nx ?_
    all_goals first | exact end_data rfl rfl rfl | exact absurd ⟨by omega, by omega⟩ hkn
theorem refStream (H : ZC Z) (key nonce b : List UInt8) (hb : b.length ≤ 300) (L : List Go.Pv.Obj) : SE Try.prog Z 20 [gB key, gB nonce, gB b] L (.tup [gB (streamV key nonce b).1, .int .i64 (streamV key nonce b).2]) L :=
  SE.lift (refStream0 H key nonce b hb) L (by simp [V.lts, gB_data]) (by simp [V.lt, V.lts, gB_data])
end Go.Proofs.Aes
end
section
set_option linter.unusedVariables false
set_option linter.unusedSimpArgs false
set_option maxHeartbeats 4000000
set_option maxRecDepth 100000
namespace Go.Proofs.Aes
open Go Go.Pv Go.Proofs
variable {Z : Nat → Go.Obj → Prop}
attribute [local irreducible] boxL mulU exE exW lockS numL
def figL : List UInt8 := [48, 49, 50, 51, 52, 53, 54, 55, 56, 57, 97, 98, 99, 100, 101, 102]
/-- The figure of a number below sixteen. -/
def fig (n : Nat) : UInt8 := figL.getD n 0
theorem fig_cut : ∀ n, n < 16 → (figL.take (n + 1)).drop n = [fig n] := by decide +kernel
theorem figure (H : ZC Z) (n : Nat) (h : n < 16) (L : List Go.Pv.Obj) : SE Try.prog Z 36 [.int .i64 n] L (.str (bS [fig n])) L := by
  refine SE.data H Try.func36 rfl ?_
  repeat' first
    | (show XO _ _ _ (Oper.mk _ _ _ _ _ none :: _) _ _ _; refine X.slT (s := bS figL) rfl rfl rfl (by rw [bS_size]; exact ⟨by omega, by omega, by show (n : Int) + 1 ≤ 16; omega⟩) ?_)
    | (show XO _ _ _ (Oper.mk (some _) (Op.move _) _ _ _ none :: _) _ _ _; refine X.mv ?_)
    | (show XO _ _ _ (Oper.mk (some _) (Op.assign _) _ _ _ none :: _) _ _ _; refine X.as ?_)
    | (show XO _ _ _ (Oper.mk (some _) (Op.binOp BinOp.add _ _ _ _) _ _ _ none :: _) _ _ _; refine X.addI rfl rfl (by omega) ?_)
    | (show XO _ _ _ [] _ _ _; refine X.nil ?_)
    | (show CW _ _ _ _ (Code.seq (Code.region _ _ false) _) _ _ _; refine W.rq ?_)
    | (show CW _ _ _ _ _ _ _ _; refine W.kr ?_)
    | refine K.nx ?_
  refine end_data rfl rfl ?_
  rw [← fig_cut n h, ← bS_ext]; rfl
/-- Bytes as text: two figures a byte. -/
def hexL (l : List UInt8) : List UInt8 := l.flatMap fun b => [fig (b.toNat / 16), fig (b.toNat % 16)]
theorem hexL_len (l : List UInt8) : (hexL l).length = 2 * l.length := by
  induction l with
  | nil => rfl
  | cons a l ih => simp only [hexL, List.flatMap_cons, List.length_append, List.length_cons, List.length_nil] at *; omega
theorem hexL_app (l l' : List UInt8) : hexL (l ++ l') = hexL l ++ hexL l' := List.flatMap_append

theorem text0 (H : ZC Z) (x : List UInt8) (nl ex : Bool) (hx : x.length ≤ 1000) : SE Try.prog Z 23 [.sl nl ex (x.map g8)] [] (.str (bS (hexL x))) [] := by
  refine SE.data H Try.func23 rfl ?_
  repeat' first
    | (show XO _ _ _ (Oper.mk (some _) (Op.assign _) _ _ _ none :: _) _ _ _; refine X.as ?_)
    | (show XO _ _ _ [] _ _ _; refine X.nil ?_)
    | (show CW _ _ _ _ (Code.seq (Code.region _ _ false) _) _ _ _; refine W.rq ?_)
    | (show CW _ _ _ _ _ _ _ _; first | refine W.bl ?_ | refine W.sq ?_)
    | refine K.nx ?_
  refine W.lq (fun mz st => ∃ (i : Nat), st.env 0 = .sl nl ex (x.map g8) ∧ st.env 3 = .str (bS (hexL (x.take i))) ∧ st.env 4 = .int .i64 i ∧ st.L = [] ∧ (i ≤ x.length) ∧ mz = x.length - i) ?_ ?_
  · refine ⟨_, 0, rfl, rfl, rfl, rfl, ?_, rfl⟩
    omega
  rintro mz env L ⟨i, e0, e3, e4, eL, hI, hm⟩
  dsimp only at e0 e3 e4 eL
  subst eL
  refine W.ev 0 e0 ?_
  refine W.ev 3 e3 ?_
  refine W.ev 4 e4 ?_
  by_cases h : i = x.length
  · subst h
    repeat' first
      | (show XO _ _ _ (Oper.mk (some _) (Op.move _) _ _ _ none :: _) _ _ _; refine X.mv ?_)
      | (show XO _ _ _ (Oper.mk (some _) (Op.assign _) _ _ _ none :: _) _ _ _; refine X.as ?_)
      | (show XO _ _ _ (Oper.mk (some _) (Op.call (Call.mk (Callee.builtin Builtin.len) _ _)) _ _ _ none :: _) _ _ _; refine X.lnS rfl ?_)
      | (show XO _ _ _ (Oper.mk (some _) (_) _ _ _ none :: _) _ _ _; refine X.go rfl ?_)
      | (show XO _ _ _ [] _ _ _; refine X.nil ?_)
      | (show CW _ _ _ _ (Code.seq (Code.region _ _ false) _) _ _ _; refine W.rq ?_)
      | (show CW _ _ _ _ (Code.cond _ _ _) _ _ _; refine W.jpf (by (conv => lhs; whnf) <;> rfl) (by with_reducible rfl) (by first | omega | decide) ?_)
      | (show CW _ _ _ _ _ _ _ _; first | refine W.kr ?_ | refine W.ke ?_ | refine W.sq ?_)
      | (show KO _ _ _ _; first | refine K.sn ?_ | refine K.se ?_ | refine K.be ?_ | refine K.le ?_)
      | refine K.nx ?_
    refine end_data rfl rfl ?_
    rw [List.take_length]; rfl
  · have hr : (rd x (i : Int)).toNat < 256 := (rd x (i : Int)).toNat_lt
    have ow : x.take (i + 1) = x.take i ++ [rd x (i : Int)] := by
      rw [List.take_add_one]; unfold rd; simp [List.getElem?_eq_getElem (show i < x.length by omega)]
    have hl : (x.take i).length = i := by rw [List.length_take]; omega
    have f1 := figure H ((rd x (i : Int)).toNat / 16) (by omega)
    have f2 := figure H ((rd x (i : Int)).toNat % 16) (by omega)
    rw [show (((rd x (i : Int)).toNat / 16 : Nat) : Int) = ((rd x (i : Int)).toNat : Int) / 16 by omega] at f1
    rw [show (((rd x (i : Int)).toNat % 16 : Nat) : Int) = ((rd x (i : Int)).toNat : Int) % 16 by omega] at f2
    have s1 : (bS (hexL (x.take i))).size = 2 * i := by rw [bS_size, hexL_len, hl]
    have s2 : ∀ n, (bS [fig n]).size = 1 := fun n => bS_size _
    have s3 : ∀ n, (bS (hexL (x.take i)) ++ bS [fig n]).size = 2 * i + 1 := fun n => by rw [bS_app, bS_size, List.length_append, hexL_len, hl]; rfl
    have hb : bS (hexL (x.take i)) ++ bS [fig ((rd x (i : Int)).toNat / 16)] ++ bS [fig ((rd x (i : Int)).toNat % 16)] = bS (hexL (x.take (i + 1))) := by
      rw [ow, hexL_app, bS_app, bS_app, List.append_assoc]; rfl
    repeat' first
      | (show XO _ _ _ (Oper.mk (some _) (Op.move _) _ _ _ none :: _) _ _ _; refine X.mv ?_)
      | (show XO _ _ _ (Oper.mk (some _) (Op.assign _) _ _ _ none :: _) _ _ _; refine X.as ?_)
      | (show XO _ _ _ (Oper.mk (some _) (Op.call (Call.mk (Callee.builtin Builtin.len) _ _)) _ _ _ none :: _) _ _ _; refine X.lnS rfl ?_)
      | (show XO _ _ _ (Oper.mk (some _) (Op.binOp BinOp.add _ _ _ _) _ _ _ none :: _) _ _ _; refine X.addI rfl rfl (by omega) ?_)
      | (show XO _ _ _ (Oper.mk (some _) (_) _ _ _ none :: _) _ _ _; refine X.go rfl ?_)
      | (show XO _ _ _ [] _ _ _; refine X.nil ?_)
      | (show AO _ _ _ (Oper.mk _ _ _ _ _ none :: _) _ _ _; refine A.adT rfl rfl (by first | (rw [s1, s2]; omega) | (rw [s3, s2]; omega)) ?_)
      | (show AO _ _ _ (Oper.mk (some _) (Op.move _) _ _ _ none :: _) _ _ _; refine A.mv ?_)
      | (show AO _ _ _ (Oper.mk (some _) (Op.call _) _ _ _ none :: _) _ _ _; first | refine A.call (f1 _) ?_ | refine A.call (f2 _) ?_)
      | (show AO _ _ _ (Oper.mk (some _) (Op.binOp BinOp.quo _ _ _ _) _ _ _ none :: _) _ _ _; refine A.quoI rfl rfl (by omega) ?_)
      | (show AO _ _ _ (Oper.mk (some _) (Op.binOp BinOp.rem _ _ _ _) _ _ _ none :: _) _ _ _; refine A.remI rfl rfl (by omega) ?_)
      | (show AO _ _ _ (Oper.mk (some _) (Op.convert _ _ _) _ _ _ none :: _) _ _ _; refine A.cvI rfl rfl rfl (w64R (by omega)) ?_)
      | (show AO _ _ _ (Oper.mk (some _) (Op.indexAddr _ _ _) _ _ _ none :: _) _ _ _; refine A.iaS rfl rfl (by omega) ?_)
      | (show AO _ _ _ (Oper.mk (some _) (Op.load _ _) _ _ _ none :: _) _ _ _; refine A.go rfl ?_)
      | (show AO _ _ _ [] _ _ _; refine A.nil ?_)
      | (show CW _ _ _ _ (Code.seq (Code.region _ _ false) _) _ _ _; refine W.rq ?_)
      | (show CW _ _ _ _ (Code.region _ _ false) _ _ _; refine W.rz ?_)
      | (show CW _ _ _ _ (Code.region _ _ true) _ _ _; refine W.dz 17 ?_)
      | (show CW _ _ _ _ (Code.cond _ _ _) _ _ _; refine W.jpt (by (conv => lhs; whnf) <;> rfl) (by with_reducible rfl) (by first | omega | decide) ?_)
      | (show CW _ _ _ _ _ _ _ _; first | refine W.kn ?_ | refine W.bl ?_ | refine W.sq ?_)
      | (show KO _ _ _ _; first | refine K.sn ?_ | refine K.bn ?_ | refine K.ln _ ?_ ⟨i + 1, rfl, by rw [← hb]; rfl, vI (by omega), rfl, ?_, rfl⟩)
      | refine K.nx ?_
      | refine K.re ?_
      | refine K.dr ?_
    all_goals omega
theorem text (H : ZC Z) (x : List UInt8) (nl ex : Bool) (hx : x.length ≤ 1000) (L : List Go.Pv.Obj) : SE Try.prog Z 23 [.sl nl ex (x.map g8)] L (.str (bS (hexL x))) L :=
  SE.lift (text0 H x nl ex hx) L (by simp [V.lts, V.lt, map_data g8_data]) (by simp [V.lt])
end Go.Proofs.Aes
end
