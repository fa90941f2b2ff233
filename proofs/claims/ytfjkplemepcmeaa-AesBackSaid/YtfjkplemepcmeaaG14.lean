import Derived.Test.YtfjkplemepcmeaaG13
set_option linter.unusedVariables false
set_option linter.unusedSimpArgs false
set_option linter.unusedSectionVars false
section
set_option linter.unusedVariables false
set_option linter.unusedSimpArgs false
set_option maxHeartbeats 8000000
set_option maxRecDepth 100000
namespace Go.Proofs.Aes
open Go Go.Pv Go.Proofs
variable {Z : Nat → Go.Obj → Prop}
attribute [local irreducible] mulU invU boxL
theorem rk_rd {ks : List UInt8} (h : ks.length = 176) {n i : Nat} (hn : n ≤ 10) (hi : i < 16) : rd (rk ks n) (i : Int) = rd ks ((16 * n + i : Nat) : Int) := by
  rw [rd_nat, rd_nat, List.getD_eq_getElem?_getD, List.getD_eq_getElem?_getD]
  unfold rk
  rw [List.getElem?_take_of_lt hi, List.getElem?_drop, Nat.mul_comm]
def xs (u ks : List UInt8) (n q : Nat) : UInt8 := rd u (q : Int) ^^^ rd ks (16 * (n : Int) + (q : Int))
theorem xs_add {u ks : List UInt8} (h : ks.length = 176) {n : Nat} (hn : n ≤ 10) : (List.range 16).map (xs u ks n) = addS u (rk ks n) := by
  unfold addS
  refine List.map_congr_left fun q hq => ?_
  have hq : q < 16 := List.mem_range.1 hq
  rw [rk_rd h hn hq]
  unfold xs
  rw [show ((16 * n + q : Nat) : Int) = 16 * (n : Int) + q by omega]

theorem lock0 (H : ZC Z) (ks b : List UInt8) (hks : ks.length = 176) (hb : b.length = 16) : SE Try.prog Z 33 [gB ks, gB boxL, gB b] [] (gB (lockS ks b)) [] := by
  have hbl := boxL_len
  refine SE.data H Try.func33 rfl ?_
  repeat' first
    | (show XO _ _ _ (Oper.mk _ _ _ _ _ none :: _) _ _ _; refine X.mk (g := g8) 0 16 rfl rfl (by omega) ?_)
    | (show XO _ _ _ (Oper.mk (some _) (Op.assign _) _ _ _ none :: _) _ _ _; refine X.as ?_)
    | (show XO _ _ _ [] _ _ _; refine X.nil ?_)
    | (show CW _ _ _ _ (Code.seq (Code.region _ _ false) _) _ _ _; refine W.rq ?_)
    | (show CW _ _ _ _ _ _ _ _; first | refine W.bl ?_ | refine W.sq ?_)
    | refine K.nx ?_
  refine W.lq (fun mz st => ∃ (i : Nat), st.env 0 = gB ks ∧ st.env 1 = gB boxL ∧ st.env 7 = .own 0 0 16 16 ∧ st.env 2 = gB b ∧ st.env 8 = .int .i64 i ∧ st.L = [Go.Pv.Obj.buf 1 0 ((fill (xs b ks 0) (List.replicate 16 (0 : UInt8)) i).map g8)] ∧ (i ≤ 16) ∧ mz = 16 - i) ?_ ?_
  · refine ⟨_, 0, rfl, rfl, rfl, rfl, rfl, by rw [fill_zero]; rfl, ?_, rfl⟩
    omega
  rintro mz env L ⟨i, e0, e1, e7, e2, e8, eL, hI, hm⟩
  dsimp only at e0 e1 e7 e2 e8 eL
  subst eL
  refine W.ev 0 e0 ?_
  refine W.ev 1 e1 ?_
  refine W.ev 7 e7 ?_
  refine W.ev 2 e2 ?_
  refine W.ev 8 e8 ?_
  have hfl := fill_len (xs b ks 0) (List.replicate 16 (0 : UInt8)) i
  rw [List.length_replicate] at hfl
  by_cases h : i = 16
  · subst h
    have hs0 : fill (xs b ks 0) (List.replicate 16 (0 : UInt8)) 16 = lockF ks b 0 := by
      rw [fill_all _ _ _ (by simp), List.length_replicate, xs_add hks (by omega)]; rfl
    repeat' first
      | (show XO _ _ _ (Oper.mk (some _) (Op.move _) _ _ _ none :: _) _ _ _; refine X.mv ?_)
      | (show XO _ _ _ (Oper.mk (some _) (Op.assign _) _ _ _ none :: _) _ _ _; refine X.as ?_)
      | (show XO _ _ _ (Oper.mk (some _) (_) _ _ _ none :: _) _ _ _; refine X.go rfl ?_)
      | (show XO _ _ _ [] _ _ _; refine X.nil ?_)
      | (show CW _ _ _ _ (Code.seq (Code.region _ _ false) _) _ _ _; refine W.rq ?_)
      | (show CW _ _ _ _ (Code.cond _ _ _) _ _ _; refine W.jpf (by (conv => lhs; whnf) <;> rfl) (by with_reducible rfl) (by first | omega | decide) ?_)
      | (show CW _ _ _ _ _ _ _ _; first | refine W.ke ?_ | refine W.bl ?_ | refine W.sq ?_)
      | (show KO _ _ _ _; first | refine K.sn ?_ | refine K.se ?_ | refine K.be ?_ | refine K.le ?_)
      | refine K.nx ?_
    refine W.lqF 1 (fun mz st => ∃ (m : Nat), st.env 0 = gB ks ∧ st.env 1 = gB boxL ∧ st.env 7 = .own 0 0 16 16 ∧ st.env 9 = .int .i64 ((m : Int) + 1) ∧ st.L = [Go.Pv.Obj.buf 1 0 ((lockF ks b m).map g8)] ∧ (m ≤ 10) ∧ mz = 10 - m) ?_ ?_
    · refine ⟨_, 0, rfl, rfl, rfl, rfl, by rw [hs0], ?_, rfl⟩
      omega
    rintro mz env L ⟨m, e0, e1, e7, e9, eL, hm10, hm⟩
    dsimp only at e0 e1 e7 e9 eL
    subst eL
    refine W.ev 0 e0 ?_
    refine W.ev 1 e1 ?_
    refine W.ev 7 e7 ?_
    refine W.ev 9 e9 ?_
    have hsl := lockF_len ks b m
    by_cases hme : m = 10
    · subst hme
      repeat' first
        | (show XO _ _ _ (Oper.mk (some _) (Op.move _) _ _ _ none :: _) _ _ _; refine X.mv ?_)
        | (show XO _ _ _ (Oper.mk (some _) (Op.assign _) _ _ _ none :: _) _ _ _; refine X.as ?_)
        | (show XO _ _ _ (Oper.mk (some _) (_) _ _ _ none :: _) _ _ _; refine X.go rfl ?_)
        | (show XO _ _ _ [] _ _ _; refine X.nil ?_)
        | (show CW _ _ _ _ (Code.seq (Code.region _ _ false) _) _ _ _; refine W.rq ?_)
        | (show CW _ _ _ _ (Code.cond _ _ _) _ _ _; refine W.jpf (by (conv => lhs; whnf) <;> rfl) (by with_reducible rfl) (by first | omega | decide) ?_)
        | (show CW _ _ _ _ _ _ _ _; first | refine W.kr ?_ | refine W.ke ?_ | refine W.sq ?_)
        | (show KO _ _ _ _; first | refine K.sn ?_ | refine K.se ?_ | refine K.be ?_ | refine K.le ?_)
        | refine K.nx ?_
      exact K.fin rfl ⟨_, rfl, frzN rfl (Nat.zero_le _) hsl (map_data g8_data _)⟩
    · have hg1 : m + 1 ≤ 10 := by omega
      have hg2 : 10 - (m + 1) < mz := by omega
      have hlock : lockF ks b (m + 1) = addS (if m + 1 < 10 then mixS (shiftS (lockF ks b m)) else shiftS (lockF ks b m)) (rk ks (m + 1)) := rfl
      generalize lockF ks b m = s at *
      repeat' first
        | (show XO _ _ _ (Oper.mk _ _ _ _ _ none :: _) _ _ _; refine X.mk (g := g8) 0 16 rfl rfl (by omega) ?_)
        | (show XO _ _ _ (Oper.mk (some _) (Op.move _) _ _ _ none :: _) _ _ _; refine X.mv ?_)
        | (show XO _ _ _ (Oper.mk (some _) (Op.assign _) _ _ _ none :: _) _ _ _; refine X.as ?_)
        | (show XO _ _ _ (Oper.mk (some _) (_) _ _ _ none :: _) _ _ _; refine X.go rfl ?_)
        | (show XO _ _ _ [] _ _ _; refine X.nil ?_)
        | (show CW _ _ _ _ (Code.seq (Code.region _ _ false) _) _ _ _; refine W.rq ?_)
        | (show CW _ _ _ _ (Code.cond _ _ _) _ _ _; refine W.jpt (by (conv => lhs; whnf) <;> rfl) (by with_reducible rfl) (by first | omega | decide) ?_)
        | (show CW _ _ _ _ _ _ _ _; first | refine W.kn ?_ | refine W.bl ?_ | refine W.sq ?_)
        | (show KO _ _ _ _; refine K.sn ?_)
        | refine K.nx ?_
      refine W.lq (fun mz st => ∃ (c : Nat), st.env 0 = gB ks ∧ st.env 1 = gB boxL ∧ st.env 7 = .own 0 0 16 16 ∧ st.env 9 = .int .i64 ((m : Int) + 1) ∧ st.env 10 = .own 1 0 16 16 ∧ st.env 11 = .int .i64 c ∧ st.L = [Go.Pv.Obj.buf 1 0 ((s).map g8), Go.Pv.Obj.buf 1 0 ((fill (shiftB s) (List.replicate 16 (0 : UInt8)) (4 * c)).map g8)] ∧ (c ≤ 4) ∧ mz = 4 - c) ?_ ?_
      · refine ⟨_, 0, rfl, rfl, rfl, rfl, rfl, rfl, by rw [Nat.mul_zero, fill_zero]; rfl, ?_, rfl⟩
        omega
      rintro mz env L ⟨c, e0, e1, e7, e9, e10, e11, eL, hc, hm⟩
      dsimp only at e0 e1 e7 e9 e10 e11 eL
      subst eL
      refine W.ev 0 e0 ?_
      refine W.ev 1 e1 ?_
      refine W.ev 7 e7 ?_
      refine W.ev 9 e9 ?_
      refine W.ev 10 e10 ?_
      refine W.ev 11 e11 ?_
      have hft := fill_len (shiftB s) (List.replicate 16 (0 : UInt8)) (4 * c)
      rw [List.length_replicate] at hft
      by_cases hc4 : c = 4
      · subst hc4
        have ht : fill (shiftB s) (List.replicate 16 (0 : UInt8)) (4 * 4) = shiftS s := by
          rw [fill_all _ _ _ (by simp), List.length_replicate]; rfl
        rw [ht]
        have htl := shiftS_len s
        generalize shiftS s = t at *
        clear ht hft
        repeat' first
          | (show XO _ _ _ (Oper.mk _ _ _ _ _ none :: _) _ _ _; refine X.apON (g := g8) 16 t htl rfl (elems_ownN rfl htl) (fun _ => rfl) (fun _ => rfl) (by omega) ?_)
          | (show XO _ _ _ (Oper.mk (some _) (Op.move _) _ _ _ none :: _) _ _ _; refine X.mv ?_)
          | (show XO _ _ _ (Oper.mk (some _) (Op.assign _) _ _ _ none :: _) _ _ _; refine X.as ?_)
          | (show XO _ _ _ (Oper.mk (some _) (Op.buildSlice _ _ _) _ _ _ none :: _) _ _ _; refine X.bs0 ?_)
          | (show XO _ _ _ (Oper.mk (some _) (_) _ _ _ none :: _) _ _ _; refine X.go rfl ?_)
          | (show XO _ _ _ [] _ _ _; refine X.nil ?_)
          | (show CW _ _ _ _ (Code.seq (Code.region _ _ false) _) _ _ _; refine W.rq ?_)
          | (show CW _ _ _ _ (Code.cond _ _ _) _ _ _; refine W.jpf (by (conv => lhs; whnf) <;> rfl) (by with_reducible rfl) (by first | omega | decide) ?_)
          | (show CW _ _ _ _ _ _ _ _; first | refine W.ke ?_ | refine W.bl ?_ | refine W.sq ?_)
          | (show KO _ _ _ _; first | refine K.sn ?_ | refine K.se ?_ | refine K.be ?_ | refine K.le ?_)
          | refine K.nx ?_
        by_cases hm9 : m + 1 < 10
        · rw [if_pos hm9] at hlock
          refine W.lq (fun mz st => ∃ (c : Nat), st.env 0 = gB ks ∧ st.env 1 = gB boxL ∧ st.env 7 = .own 0 0 16 16 ∧ st.env 9 = .int .i64 ((m : Int) + 1) ∧ st.env 10 = .own 1 0 16 16 ∧ st.env 13 = .own 2 0 16 16 ∧ st.env 14 = .int .i64 c ∧ st.L = [Go.Pv.Obj.buf 1 0 ((s).map g8), Go.Pv.Obj.buf 1 0 ((t).map g8), Go.Pv.Obj.buf 1 0 ((fill (mixB t) t (4 * c)).map g8)] ∧ (c ≤ 4) ∧ mz = 4 - c) ?_ ?_
          · refine ⟨_, 0, rfl, rfl, rfl, rfl, rfl, rfl, rfl, by rw [Nat.mul_zero, fill_zero], ?_, rfl⟩
            omega
          rintro mz env L ⟨c, e0, e1, e7, e9, e10, e13, e14, eL, hc, hm⟩
          dsimp only at e0 e1 e7 e9 e10 e13 e14 eL
          subst eL
          refine W.ev 0 e0 ?_
          refine W.ev 1 e1 ?_
          refine W.ev 7 e7 ?_
          refine W.ev 9 e9 ?_
          refine W.ev 10 e10 ?_
          refine W.ev 13 e13 ?_
          refine W.ev 14 e14 ?_
          have hfu := fill_len (mixB t) t (4 * c)
          rw [htl] at hfu
          by_cases hcc : c = 4
          · subst hcc
            have hu : fill (mixB t) t (4 * 4) = mixS t := by
              rw [fill_all _ _ _ (by omega), htl]; rfl
            have hul := mixS_len t
            repeat' first
              | (show XO _ _ _ (Oper.mk (some _) (Op.move _) _ _ _ none :: _) _ _ _; refine X.mv ?_)
              | (show XO _ _ _ (Oper.mk (some _) (Op.assign _) _ _ _ none :: _) _ _ _; refine X.as ?_)
              | (show XO _ _ _ (Oper.mk (some _) (_) _ _ _ none :: _) _ _ _; refine X.go rfl ?_)
              | (show XO _ _ _ (Oper.mk _ _ _ _ _ (some _) :: _) _ _ _; first | refine X.hnf rfl (by (conv => lhs; whnf) <;> rfl) (by first | with_reducible rfl | with_reducible exact notT | with_reducible exact notF) ?_ | refine X.hpf rfl (by (conv => lhs; whnf) <;> rfl) (by with_reducible rfl) (by first | omega | decide) ?_)
              | (show XO _ _ _ [] _ _ _; refine X.nil ?_)
              | (show CW _ _ _ _ (Code.seq (Code.region _ _ false) _) _ _ _; refine W.rq ?_)
              | (show CW _ _ _ _ (Code.cond _ _ _) _ _ _; refine W.jf (by (conv => lhs; whnf) <;> rfl) (by first | with_reducible rfl | with_reducible exact notT | with_reducible exact notF) ?_)
              | (show CW _ _ _ _ _ _ _ _; first | refine W.ke ?_ | refine W.bl ?_ | refine W.sq ?_)
              | (show KO _ _ _ _; first | refine K.sn ?_ | refine K.se ?_ | refine K.be ?_ | refine K.le ?_)
              | refine K.nx ?_
            refine W.lq (fun mz st => ∃ (i : Nat), st.env 0 = gB ks ∧ st.env 1 = gB boxL ∧ st.env 7 = .own 0 0 16 16 ∧ st.env 9 = .int .i64 ((m : Int) + 1) ∧ st.env 10 = .own 1 0 16 16 ∧ st.env 13 = .own 2 0 16 16 ∧ st.env 16 = .int .i64 i ∧ st.L = [Go.Pv.Obj.buf 1 0 ((fill (xs (mixS t) ks (m + 1)) s i).map g8), Go.Pv.Obj.buf 1 0 ((t).map g8), Go.Pv.Obj.buf 1 0 (((mixS t)).map g8)] ∧ (i ≤ 16) ∧ mz = 16 - i) ?_ ?_
            · refine ⟨_, 0, rfl, rfl, rfl, rfl, rfl, rfl, rfl, by rw [fill_zero, hu], ?_, rfl⟩
              omega
            rintro mz env L ⟨i, e0, e1, e7, e9, e10, e13, e16, eL, hi, hm⟩
            dsimp only at e0 e1 e7 e9 e10 e13 e16 eL
            subst eL
            refine W.ev 0 e0 ?_
            refine W.ev 1 e1 ?_
            refine W.ev 7 e7 ?_
            refine W.ev 9 e9 ?_
            refine W.ev 10 e10 ?_
            refine W.ev 13 e13 ?_
            refine W.ev 16 e16 ?_
            have hfs := fill_len (xs (mixS t) ks (m + 1)) s i
            rw [hsl] at hfs
            by_cases hi16 : i = 16
            · subst hi16
              have hend : fill (xs (mixS t) ks (m + 1)) s 16 = lockF ks b (m + 1) := by
                rw [fill_all _ _ _ (by omega), hsl, xs_add hks (by omega)]; exact hlock.symm
              repeat' first
                | (show XO _ _ _ (Oper.mk (some _) (Op.move _) _ _ _ none :: _) _ _ _; refine X.mv ?_)
                | (show XO _ _ _ (Oper.mk (some _) (Op.assign _) _ _ _ none :: _) _ _ _; refine X.as ?_)
                | (show XO _ _ _ (Oper.mk (some _) (Op.binOp BinOp.add _ _ _ _) _ _ _ none :: _) _ _ _; refine X.addI rfl rfl (by omega) ?_)
                | (show XO _ _ _ (Oper.mk (some _) (_) _ _ _ none :: _) _ _ _; refine X.go rfl ?_)
                | (show XO _ _ _ [] _ _ _; refine X.nil ?_)
                | (show CW _ _ _ _ (Code.seq (Code.region _ _ false) _) _ _ _; refine W.rq ?_)
                | (show CW _ _ _ _ (Code.region _ _ false) _ _ _; refine W.rz ?_)
                | (show CW _ _ _ _ (Code.cond _ _ _) _ _ _; refine W.jpf (by (conv => lhs; whnf) <;> rfl) (by with_reducible rfl) (by first | omega | decide) ?_)
                | (show CW _ _ _ _ _ _ _ _; first | refine W.ke ?_ | refine W.sq ?_)
                | (show KO _ _ _ _; first | refine K.sn ?_ | refine K.se ?_ | refine K.bn ?_ | refine K.be ?_ | refine K.le ?_ | refine K.fn _ ?_ [_] _ rfl rfl (by repeat' first | exact obs_nil | refine obs_cons ?_ ?_ | exact ob_box (map_data g8_data _) | exact ob_buf (map_data g8_data _) | exact ob_box rfl | exact ob_buf rfl) ⟨m + 1, cutv_sl (map_data g8_data _), cutv_sl (map_data g8_data _), rfl, vI (by omega), by rw [hend], ?_, rfl⟩)
                | refine K.nx ?_
                | refine K.re ?_
              · exact hg2
              · exact hg1
            · have hval : g8 (rd (mixS t) (i : Int) ^^^ rd ks (16 * ((m : Int) + 1) + (i : Int))) = g8 (xs (mixS t) ks (m + 1) i) := by
                unfold xs; rw [show ((m + 1 : Nat) : Int) = (m : Int) + 1 by omega]
              repeat' first
                | (show XO _ _ _ (Oper.mk _ _ _ _ _ none :: _) _ _ _; first | refine X.iaN rfl rfl (by omega) rfl hfs ?_ | refine X.stN (xs (mixS t) ks (m + 1) i) rfl rfl hval (by omega) hfs (fun _ => rfl) ?_)
                | (show XO _ _ _ (Oper.mk (some _) (Op.move _) _ _ _ none :: _) _ _ _; refine X.mv ?_)
                | (show XO _ _ _ (Oper.mk (some _) (Op.assign _) _ _ _ none :: _) _ _ _; refine X.as ?_)
                | (show XO _ _ _ (Oper.mk (some _) (Op.binOp BinOp.add _ _ _ _) _ _ _ none :: _) _ _ _; refine X.addI rfl rfl (by omega) ?_)
                | (show XO _ _ _ (Oper.mk (some _) (_) _ _ _ none :: _) _ _ _; refine X.go rfl ?_)
                | (show XO _ _ _ [] _ _ _; refine X.nil ?_)
                | (show AO _ _ _ (Oper.mk _ _ _ _ _ none :: _) _ _ _; first | refine A.iaN rfl rfl (by omega) rfl hul ?_ | refine A.ldN (g := g8) rfl rfl (by omega) hul ?_ | refine A.xor8 rfl rfl ?_)
                | (show AO _ _ _ (Oper.mk (some _) (Op.move _) _ _ _ none :: _) _ _ _; refine A.mv ?_)
                | (show AO _ _ _ (Oper.mk (some _) (Op.binOp BinOp.add _ _ _ _) _ _ _ none :: _) _ _ _; refine A.addI rfl rfl (by omega) ?_)
                | (show AO _ _ _ (Oper.mk (some _) (Op.binOp BinOp.mul _ _ _ _) _ _ _ none :: _) _ _ _; refine A.mulI rfl rfl (by omega) ?_)
                | (show AO _ _ _ (Oper.mk (some _) (Op.indexAddr _ _ _) _ _ _ none :: _) _ _ _; refine A.iaS rfl rfl (by omega) ?_)
                | (show AO _ _ _ (Oper.mk (some _) (Op.load _ _) _ _ _ none :: _) _ _ _; refine A.go rfl ?_)
                | (show AO _ _ _ [] _ _ _; refine A.nil ?_)
                | (show CW _ _ _ _ (Code.seq (Code.region _ _ false) _) _ _ _; refine W.rq ?_)
                | (show CW _ _ _ _ (Code.region _ _ false) _ _ _; refine W.rz ?_)
                | (show CW _ _ _ _ (Code.region _ _ true) _ _ _; refine W.dz 14 ?_)
                | (show CW _ _ _ _ (Code.cond _ _ _) _ _ _; refine W.jpt (by (conv => lhs; whnf) <;> rfl) (by with_reducible rfl) (by first | omega | decide) ?_)
                | (show CW _ _ _ _ _ _ _ _; first | refine W.kn ?_ | refine W.bl ?_ | refine W.sq ?_)
                | (show KO _ _ _ _; first | refine K.sn ?_ | refine K.bn ?_ | refine K.ln _ ?_ ⟨i + 1, rfl, rfl, rfl, rfl, rfl, rfl, vI (by omega), by rw [fill_set _ _ _ _ _ rfl rfl], ?_, rfl⟩)
                | refine K.nx ?_
                | refine K.re ?_
                | refine K.dr ?_
              · omega
              · omega
          · have hg3 : 4 - (c + 1) < mz := by omega
            repeat' first
              | (show XO _ _ _ (Oper.mk (some _) (Op.move _) _ _ _ none :: _) _ _ _; refine X.mv ?_)
              | (show XO _ _ _ (Oper.mk (some _) (Op.assign _) _ _ _ none :: _) _ _ _; refine X.as ?_)
              | (show XO _ _ _ (Oper.mk (some _) (_) _ _ _ none :: _) _ _ _; refine X.go rfl ?_)
              | (show XO _ _ _ (Oper.mk _ _ _ _ _ (some _) :: _) _ _ _; first | refine X.hy rfl (by (conv => lhs; whnf) <;> rfl) (by first | with_reducible rfl | with_reducible exact notT | with_reducible exact notF) ?_ | refine X.hpt rfl (by (conv => lhs; whnf) <;> rfl) (by with_reducible rfl) (by first | omega | decide) ?_)
              | (show XO _ _ _ [] _ _ _; refine X.nil ?_)
              | (show CW _ _ _ _ (Code.seq (Code.region _ _ false) _) _ _ _; refine W.rq ?_)
              | (show CW _ _ _ _ (Code.cond _ _ _) _ _ _; refine W.jpt (by (conv => lhs; whnf) <;> rfl) (by with_reducible rfl) (by first | omega | decide) ?_)
              | (show CW _ _ _ _ _ _ _ _; first | refine W.kn ?_ | refine W.bl ?_ | refine W.sq ?_)
              | (show KO _ _ _ _; refine K.sn ?_)
              | refine K.nx ?_
            refine W.lq (fun mz st => ∃ (r : Nat), st.env 0 = gB ks ∧ st.env 1 = gB boxL ∧ st.env 7 = .own 0 0 16 16 ∧ st.env 9 = .int .i64 ((m : Int) + 1) ∧ st.env 10 = .own 1 0 16 16 ∧ st.env 13 = .own 2 0 16 16 ∧ st.env 14 = .int .i64 c ∧ st.env 15 = .int .i64 r ∧ st.L = [Go.Pv.Obj.buf 1 0 ((s).map g8), Go.Pv.Obj.buf 1 0 ((t).map g8), Go.Pv.Obj.buf 1 0 ((fill (mixB t) t (4 * c + r)).map g8)] ∧ (r ≤ 4) ∧ mz = 4 - r) ?_ ?_
            · refine ⟨_, 0, rfl, rfl, rfl, rfl, rfl, rfl, rfl, rfl, rfl, ?_, rfl⟩
              omega
            rintro mz env L ⟨r, e0, e1, e7, e9, e10, e13, e14, e15, eL, hr, hm⟩
            dsimp only at e0 e1 e7 e9 e10 e13 e14 e15 eL
            subst eL
            refine W.ev 0 e0 ?_
            refine W.ev 1 e1 ?_
            refine W.ev 7 e7 ?_
            refine W.ev 9 e9 ?_
            refine W.ev 10 e10 ?_
            refine W.ev 13 e13 ?_
            refine W.ev 14 e14 ?_
            refine W.ev 15 e15 ?_
            have hfu2 := fill_len (mixB t) t (4 * c + r)
            rw [htl] at hfu2
            by_cases hr4 : r = 4
            · subst hr4
              repeat' first
                | (show XO _ _ _ (Oper.mk (some _) (Op.move _) _ _ _ none :: _) _ _ _; refine X.mv ?_)
                | (show XO _ _ _ (Oper.mk (some _) (Op.assign _) _ _ _ none :: _) _ _ _; refine X.as ?_)
                | (show XO _ _ _ (Oper.mk (some _) (Op.binOp BinOp.add _ _ _ _) _ _ _ none :: _) _ _ _; refine X.addI rfl rfl (by omega) ?_)
                | (show XO _ _ _ (Oper.mk (some _) (_) _ _ _ none :: _) _ _ _; refine X.go rfl ?_)
                | (show XO _ _ _ [] _ _ _; refine X.nil ?_)
                | (show CW _ _ _ _ (Code.seq (Code.region _ _ false) _) _ _ _; refine W.rq ?_)
                | (show CW _ _ _ _ (Code.region _ _ false) _ _ _; refine W.rz ?_)
                | (show CW _ _ _ _ (Code.cond _ _ _) _ _ _; refine W.jpf (by (conv => lhs; whnf) <;> rfl) (by with_reducible rfl) (by first | omega | decide) ?_)
                | (show CW _ _ _ _ _ _ _ _; first | refine W.ke ?_ | refine W.sq ?_)
                | (show KO _ _ _ _; first | refine K.sn ?_ | refine K.se ?_ | refine K.bn ?_ | refine K.be ?_ | refine K.le ?_ | refine K.ln _ ?_ ⟨c + 1, rfl, rfl, rfl, rfl, rfl, rfl, vI (by omega), by rw [show 4 * c + 4 = 4 * (c + 1) by omega], ?_, rfl⟩)
                | refine K.nx ?_
                | refine K.re ?_
              · exact hg3
              · omega
            · have hval : g8 (mulU (rd t (4 * (c : Int) + r)) 2 ^^^ mulU (rd t (4 * (c : Int) + ((r : Int) + 1) % 4)) 3 ^^^ rd t (4 * (c : Int) + ((r : Int) + 2) % 4) ^^^ rd t (4 * (c : Int) + ((r : Int) + 3) % 4)) = g8 (mixB t (4 * c + r)) := by
                unfold mixB
                rw [show ((4 * c + r : Nat) : Int) / 4 * 4 + (((4 * c + r : Nat) : Int) + 0) % 4 = 4 * (c : Int) + r by omega, show ((4 * c + r : Nat) : Int) / 4 * 4 + (((4 * c + r : Nat) : Int) + 1) % 4 = 4 * (c : Int) + ((r : Int) + 1) % 4 by omega,
                  show ((4 * c + r : Nat) : Int) / 4 * 4 + (((4 * c + r : Nat) : Int) + 2) % 4 = 4 * (c : Int) + ((r : Int) + 2) % 4 by omega, show ((4 * c + r : Nat) : Int) / 4 * 4 + (((4 * c + r : Nat) : Int) + 3) % 4 = 4 * (c : Int) + ((r : Int) + 3) % 4 by omega]
              repeat' first
                | (show XO _ _ _ (Oper.mk _ _ _ _ _ none :: _) _ _ _; first | refine X.iaN rfl rfl (by omega) rfl hfu2 ?_ | refine X.stN (mixB t (4 * c + r)) rfl rfl hval (by omega) hfu2 (fun _ => rfl) ?_)
                | (show XO _ _ _ (Oper.mk (some _) (Op.move _) _ _ _ none :: _) _ _ _; refine X.mv ?_)
                | (show XO _ _ _ (Oper.mk (some _) (Op.assign _) _ _ _ none :: _) _ _ _; refine X.as ?_)
                | (show XO _ _ _ (Oper.mk (some _) (Op.binOp BinOp.add _ _ _ _) _ _ _ none :: _) _ _ _; refine X.addI rfl rfl (by omega) ?_)
                | (show XO _ _ _ (Oper.mk (some _) (_) _ _ _ none :: _) _ _ _; refine X.go rfl ?_)
                | (show XO _ _ _ [] _ _ _; refine X.nil ?_)
                | (show AO _ _ _ (Oper.mk _ _ _ _ _ none :: _) _ _ _; first | refine A.iaN rfl rfl (by omega) rfl htl ?_ | refine A.ldN (g := g8) rfl rfl (by omega) htl ?_ | refine A.xor8 rfl rfl ?_)
                | (show AO _ _ _ (Oper.mk (some _) (Op.move _) _ _ _ none :: _) _ _ _; refine A.mv ?_)
                | (show AO _ _ _ (Oper.mk (some _) (Op.call _) _ _ _ none :: _) _ _ _; first | refine A.call (refMul H _ 2 _) ?_ | refine A.call (refMul H _ 3 _) ?_)
                | (show AO _ _ _ (Oper.mk (some _) (Op.binOp BinOp.add _ _ _ _) _ _ _ none :: _) _ _ _; refine A.addI rfl rfl (by omega) ?_)
                | (show AO _ _ _ (Oper.mk (some _) (Op.binOp BinOp.mul _ _ _ _) _ _ _ none :: _) _ _ _; refine A.mulI rfl rfl (by omega) ?_)
                | (show AO _ _ _ (Oper.mk (some _) (Op.binOp BinOp.rem _ _ _ _) _ _ _ none :: _) _ _ _; refine A.remI rfl rfl (by omega) ?_)
                | (show AO _ _ _ [] _ _ _; refine A.nil ?_)
                | (show CW _ _ _ _ (Code.seq (Code.region _ _ false) _) _ _ _; refine W.rq ?_)
                | (show CW _ _ _ _ (Code.region _ _ false) _ _ _; refine W.rz ?_)
                | (show CW _ _ _ _ (Code.region _ _ true) _ _ _; refine W.dz 44 ?_)
                | (show CW _ _ _ _ (Code.cond _ _ _) _ _ _; refine W.jpt (by (conv => lhs; whnf) <;> rfl) (by with_reducible rfl) (by first | omega | decide) ?_)
                | (show CW _ _ _ _ _ _ _ _; first | refine W.kn ?_ | refine W.bl ?_ | refine W.sq ?_)
                | (show KO _ _ _ _; first | refine K.sn ?_ | refine K.bn ?_ | refine K.ln _ ?_ ⟨r + 1, rfl, rfl, rfl, rfl, rfl, rfl, rfl, vI (by omega), by rw [fill_set _ _ (4 * c + r) _ _ (by omega) rfl]; rfl, ?_, rfl⟩)
                | refine K.nx ?_
                | refine K.re ?_
                | refine K.dr ?_
              · omega
              · omega
        · rw [if_neg hm9] at hlock
          refine W.lq (fun mz st => st.env 0 = gB ks ∧ st.env 1 = gB boxL ∧ st.env 7 = .own 0 0 16 16 ∧ st.env 9 = .int .i64 ((m : Int) + 1) ∧ st.env 10 = .own 1 0 16 16 ∧ st.env 13 = .own 2 0 16 16 ∧ st.env 14 = .int .i64 0 ∧ st.L = [Go.Pv.Obj.buf 1 0 ((s).map g8), Go.Pv.Obj.buf 1 0 ((t).map g8), Go.Pv.Obj.buf 1 0 ((t).map g8)] ∧ (True) ∧ mz = 0) ?_ ?_
          · refine ⟨_, rfl, rfl, rfl, rfl, rfl, rfl, rfl, rfl, ?_, rfl⟩
            trivial
          rintro mz env L ⟨e0, e1, e7, e9, e10, e13, e14, eL, hz, hm⟩
          dsimp only at e0 e1 e7 e9 e10 e13 e14 eL
          subst eL
          refine W.ev 0 e0 ?_
          refine W.ev 1 e1 ?_
          refine W.ev 7 e7 ?_
          refine W.ev 9 e9 ?_
          refine W.ev 10 e10 ?_
          refine W.ev 13 e13 ?_
          refine W.ev 14 e14 ?_
          repeat' first
            | (show XO _ _ _ (Oper.mk (some _) (Op.move _) _ _ _ none :: _) _ _ _; refine X.mv ?_)
            | (show XO _ _ _ (Oper.mk (some _) (Op.assign _) _ _ _ none :: _) _ _ _; refine X.as ?_)
            | (show XO _ _ _ (Oper.mk (some _) (_) _ _ _ none :: _) _ _ _; refine X.go rfl ?_)
            | (show XO _ _ _ (Oper.mk _ _ _ _ _ (some _) :: _) _ _ _; first | refine X.hy rfl (by (conv => lhs; whnf) <;> rfl) (by first | with_reducible rfl | with_reducible exact notT | with_reducible exact notF) ?_ | refine X.hpt rfl (by (conv => lhs; whnf) <;> rfl) (by with_reducible rfl) (by first | omega | decide) ?_)
            | (show XO _ _ _ [] _ _ _; refine X.nil ?_)
            | (show CW _ _ _ _ (Code.seq (Code.region _ _ false) _) _ _ _; refine W.rq ?_)
            | (show CW _ _ _ _ (Code.cond _ _ _) _ _ _; refine W.jpf (by (conv => lhs; whnf) <;> rfl) (by with_reducible rfl) (by first | omega | decide) ?_)
            | (show CW _ _ _ _ _ _ _ _; first | refine W.ke ?_ | refine W.bl ?_ | refine W.sq ?_)
            | (show KO _ _ _ _; first | refine K.sn ?_ | refine K.se ?_ | refine K.be ?_ | refine K.le ?_)
            | refine K.nx ?_
          refine W.lq (fun mz st => ∃ (i : Nat), st.env 0 = gB ks ∧ st.env 1 = gB boxL ∧ st.env 7 = .own 0 0 16 16 ∧ st.env 9 = .int .i64 ((m : Int) + 1) ∧ st.env 10 = .own 1 0 16 16 ∧ st.env 13 = .own 2 0 16 16 ∧ st.env 16 = .int .i64 i ∧ st.L = [Go.Pv.Obj.buf 1 0 ((fill (xs t ks (m + 1)) s i).map g8), Go.Pv.Obj.buf 1 0 ((t).map g8), Go.Pv.Obj.buf 1 0 ((t).map g8)] ∧ (i ≤ 16) ∧ mz = 16 - i) ?_ ?_
          · refine ⟨_, 0, rfl, rfl, rfl, rfl, rfl, rfl, rfl, by rw [fill_zero], ?_, rfl⟩
            omega
          rintro mz env L ⟨i, e0, e1, e7, e9, e10, e13, e16, eL, hi, hm⟩
          dsimp only at e0 e1 e7 e9 e10 e13 e16 eL
          subst eL
          refine W.ev 0 e0 ?_
          refine W.ev 1 e1 ?_
          refine W.ev 7 e7 ?_
          refine W.ev 9 e9 ?_
          refine W.ev 10 e10 ?_
          refine W.ev 13 e13 ?_
          refine W.ev 16 e16 ?_
          have hfs := fill_len (xs t ks (m + 1)) s i
          rw [hsl] at hfs
          by_cases hi16 : i = 16
          · subst hi16
            have hend : fill (xs t ks (m + 1)) s 16 = lockF ks b (m + 1) := by
              rw [fill_all _ _ _ (by omega), hsl, xs_add hks (by omega)]; exact hlock.symm
            repeat' first
              | (show XO _ _ _ (Oper.mk (some _) (Op.move _) _ _ _ none :: _) _ _ _; refine X.mv ?_)
              | (show XO _ _ _ (Oper.mk (some _) (Op.assign _) _ _ _ none :: _) _ _ _; refine X.as ?_)
              | (show XO _ _ _ (Oper.mk (some _) (Op.binOp BinOp.add _ _ _ _) _ _ _ none :: _) _ _ _; refine X.addI rfl rfl (by omega) ?_)
              | (show XO _ _ _ (Oper.mk (some _) (_) _ _ _ none :: _) _ _ _; refine X.go rfl ?_)
              | (show XO _ _ _ [] _ _ _; refine X.nil ?_)
              | (show CW _ _ _ _ (Code.seq (Code.region _ _ false) _) _ _ _; refine W.rq ?_)
              | (show CW _ _ _ _ (Code.region _ _ false) _ _ _; refine W.rz ?_)
              | (show CW _ _ _ _ (Code.cond _ _ _) _ _ _; refine W.jpf (by (conv => lhs; whnf) <;> rfl) (by with_reducible rfl) (by first | omega | decide) ?_)
              | (show CW _ _ _ _ _ _ _ _; first | refine W.ke ?_ | refine W.sq ?_)
              | (show KO _ _ _ _; first | refine K.sn ?_ | refine K.se ?_ | refine K.bn ?_ | refine K.be ?_ | refine K.le ?_ | refine K.fn _ ?_ [_] _ rfl rfl (by repeat' first | exact obs_nil | refine obs_cons ?_ ?_ | exact ob_box (map_data g8_data _) | exact ob_buf (map_data g8_data _) | exact ob_box rfl | exact ob_buf rfl) ⟨m + 1, cutv_sl (map_data g8_data _), cutv_sl (map_data g8_data _), rfl, vI (by omega), by rw [hend], ?_, rfl⟩)
              | refine K.nx ?_
              | refine K.re ?_
            · exact hg2
            · exact hg1
          · have hval : g8 (rd t (i : Int) ^^^ rd ks (16 * ((m : Int) + 1) + (i : Int))) = g8 (xs t ks (m + 1) i) := by
              unfold xs; rw [show ((m + 1 : Nat) : Int) = (m : Int) + 1 by omega]
            repeat' first
              | (show XO _ _ _ (Oper.mk _ _ _ _ _ none :: _) _ _ _; first | refine X.iaN rfl rfl (by omega) rfl hfs ?_ | refine X.stN (xs t ks (m + 1) i) rfl rfl hval (by omega) hfs (fun _ => rfl) ?_)
              | (show XO _ _ _ (Oper.mk (some _) (Op.move _) _ _ _ none :: _) _ _ _; refine X.mv ?_)
              | (show XO _ _ _ (Oper.mk (some _) (Op.assign _) _ _ _ none :: _) _ _ _; refine X.as ?_)
              | (show XO _ _ _ (Oper.mk (some _) (Op.binOp BinOp.add _ _ _ _) _ _ _ none :: _) _ _ _; refine X.addI rfl rfl (by omega) ?_)
              | (show XO _ _ _ (Oper.mk (some _) (_) _ _ _ none :: _) _ _ _; refine X.go rfl ?_)
              | (show XO _ _ _ [] _ _ _; refine X.nil ?_)
              | (show AO _ _ _ (Oper.mk _ _ _ _ _ none :: _) _ _ _; first | refine A.iaN rfl rfl (by omega) rfl htl ?_ | refine A.ldN (g := g8) rfl rfl (by omega) htl ?_ | refine A.xor8 rfl rfl ?_)
              | (show AO _ _ _ (Oper.mk (some _) (Op.move _) _ _ _ none :: _) _ _ _; refine A.mv ?_)
              | (show AO _ _ _ (Oper.mk (some _) (Op.binOp BinOp.add _ _ _ _) _ _ _ none :: _) _ _ _; refine A.addI rfl rfl (by omega) ?_)
              | (show AO _ _ _ (Oper.mk (some _) (Op.binOp BinOp.mul _ _ _ _) _ _ _ none :: _) _ _ _; refine A.mulI rfl rfl (by omega) ?_)
              | (show AO _ _ _ (Oper.mk (some _) (Op.indexAddr _ _ _) _ _ _ none :: _) _ _ _; refine A.iaS rfl rfl (by omega) ?_)
              | (show AO _ _ _ (Oper.mk (some _) (Op.load _ _) _ _ _ none :: _) _ _ _; refine A.go rfl ?_)
              | (show AO _ _ _ [] _ _ _; refine A.nil ?_)
              | (show CW _ _ _ _ (Code.seq (Code.region _ _ false) _) _ _ _; refine W.rq ?_)
              | (show CW _ _ _ _ (Code.region _ _ false) _ _ _; refine W.rz ?_)
              | (show CW _ _ _ _ (Code.region _ _ true) _ _ _; refine W.dz 14 ?_)
              | (show CW _ _ _ _ (Code.cond _ _ _) _ _ _; refine W.jpt (by (conv => lhs; whnf) <;> rfl) (by with_reducible rfl) (by first | omega | decide) ?_)
              | (show CW _ _ _ _ _ _ _ _; first | refine W.kn ?_ | refine W.bl ?_ | refine W.sq ?_)
              | (show KO _ _ _ _; first | refine K.sn ?_ | refine K.bn ?_ | refine K.ln _ ?_ ⟨i + 1, rfl, rfl, rfl, rfl, rfl, rfl, vI (by omega), by rw [fill_set _ _ _ _ _ rfl rfl], ?_, rfl⟩)
              | refine K.nx ?_
              | refine K.re ?_
              | refine K.dr ?_
            · omega
            · omega
      · have hg3 : 4 - (c + 1) < mz := by omega
        repeat' first
          | (show XO _ _ _ (Oper.mk (some _) (Op.move _) _ _ _ none :: _) _ _ _; refine X.mv ?_)
          | (show XO _ _ _ (Oper.mk (some _) (Op.assign _) _ _ _ none :: _) _ _ _; refine X.as ?_)
          | (show XO _ _ _ (Oper.mk (some _) (_) _ _ _ none :: _) _ _ _; refine X.go rfl ?_)
          | (show XO _ _ _ [] _ _ _; refine X.nil ?_)
          | (show CW _ _ _ _ (Code.seq (Code.region _ _ false) _) _ _ _; refine W.rq ?_)
          | (show CW _ _ _ _ (Code.cond _ _ _) _ _ _; refine W.jpt (by (conv => lhs; whnf) <;> rfl) (by with_reducible rfl) (by first | omega | decide) ?_)
          | (show CW _ _ _ _ _ _ _ _; first | refine W.kn ?_ | refine W.bl ?_ | refine W.sq ?_)
          | (show KO _ _ _ _; refine K.sn ?_)
          | refine K.nx ?_
        refine W.lq (fun mz st => ∃ (r : Nat), st.env 0 = gB ks ∧ st.env 1 = gB boxL ∧ st.env 7 = .own 0 0 16 16 ∧ st.env 9 = .int .i64 ((m : Int) + 1) ∧ st.env 10 = .own 1 0 16 16 ∧ st.env 11 = .int .i64 c ∧ st.env 12 = .int .i64 r ∧ st.L = [Go.Pv.Obj.buf 1 0 ((s).map g8), Go.Pv.Obj.buf 1 0 ((fill (shiftB s) (List.replicate 16 (0 : UInt8)) (4 * c + r)).map g8)] ∧ (r ≤ 4) ∧ mz = 4 - r) ?_ ?_
        · refine ⟨_, 0, rfl, rfl, rfl, rfl, rfl, rfl, rfl, rfl, ?_, rfl⟩
          omega
        rintro mz env L ⟨r, e0, e1, e7, e9, e10, e11, e12, eL, hr, hm⟩
        dsimp only at e0 e1 e7 e9 e10 e11 e12 eL
        subst eL
        refine W.ev 0 e0 ?_
        refine W.ev 1 e1 ?_
        refine W.ev 7 e7 ?_
        refine W.ev 9 e9 ?_
        refine W.ev 10 e10 ?_
        refine W.ev 11 e11 ?_
        refine W.ev 12 e12 ?_
        have hft2 := fill_len (shiftB s) (List.replicate 16 (0 : UInt8)) (4 * c + r)
        rw [List.length_replicate] at hft2
        by_cases hr4 : r = 4
        · subst hr4
          repeat' first
            | (show XO _ _ _ (Oper.mk (some _) (Op.move _) _ _ _ none :: _) _ _ _; refine X.mv ?_)
            | (show XO _ _ _ (Oper.mk (some _) (Op.assign _) _ _ _ none :: _) _ _ _; refine X.as ?_)
            | (show XO _ _ _ (Oper.mk (some _) (Op.binOp BinOp.add _ _ _ _) _ _ _ none :: _) _ _ _; refine X.addI rfl rfl (by omega) ?_)
            | (show XO _ _ _ (Oper.mk (some _) (_) _ _ _ none :: _) _ _ _; refine X.go rfl ?_)
            | (show XO _ _ _ [] _ _ _; refine X.nil ?_)
            | (show CW _ _ _ _ (Code.seq (Code.region _ _ false) _) _ _ _; refine W.rq ?_)
            | (show CW _ _ _ _ (Code.region _ _ false) _ _ _; refine W.rz ?_)
            | (show CW _ _ _ _ (Code.cond _ _ _) _ _ _; refine W.jpf (by (conv => lhs; whnf) <;> rfl) (by with_reducible rfl) (by first | omega | decide) ?_)
            | (show CW _ _ _ _ _ _ _ _; first | refine W.ke ?_ | refine W.sq ?_)
            | (show KO _ _ _ _; first | refine K.sn ?_ | refine K.se ?_ | refine K.bn ?_ | refine K.be ?_ | refine K.le ?_ | refine K.ln _ ?_ ⟨c + 1, rfl, rfl, rfl, rfl, rfl, vI (by omega), by rw [show 4 * c + 4 = 4 * (c + 1) by omega], ?_, rfl⟩)
            | refine K.nx ?_
            | refine K.re ?_
          · exact hg3
          · omega
        · have hb2 := (rd s (4 * (((c : Int) + r) % 4) + r)).toNat_lt
          have hval : g8 (rd boxL ((rd s (4 * (((c : Int) + r) % 4) + r)).toNat : Int)) = g8 (shiftB s (4 * c + r)) := by
            unfold shiftB
            rw [show (((4 * c + r : Nat) : Int) + 4 * (((4 * c + r : Nat) : Int) % 4)) % 16 = 4 * (((c : Int) + r) % 4) + r by omega]
          repeat' first
            | (show XO _ _ _ (Oper.mk _ _ _ _ _ none :: _) _ _ _; first | refine X.iaN rfl rfl (by omega) rfl hsl ?_ | refine X.iaN rfl rfl (by omega) rfl hft2 ?_ | refine X.ldN (g := g8) rfl rfl (by omega) hsl ?_ | refine X.stN (shiftB s (4 * c + r)) rfl rfl hval (by omega) hft2 (fun _ => rfl) ?_)
            | (show XO _ _ _ (Oper.mk (some _) (Op.move _) _ _ _ none :: _) _ _ _; refine X.mv ?_)
            | (show XO _ _ _ (Oper.mk (some _) (Op.assign _) _ _ _ none :: _) _ _ _; refine X.as ?_)
            | (show XO _ _ _ (Oper.mk (some _) (Op.binOp BinOp.add _ _ _ _) _ _ _ none :: _) _ _ _; refine X.addI rfl rfl (by omega) ?_)
            | (show XO _ _ _ (Oper.mk (some _) (Op.binOp BinOp.mul _ _ _ _) _ _ _ none :: _) _ _ _; refine X.mulI rfl rfl (by omega) ?_)
            | (show XO _ _ _ (Oper.mk (some _) (Op.binOp BinOp.rem _ _ _ _) _ _ _ none :: _) _ _ _; refine X.remI rfl rfl (by omega) ?_)
            | (show XO _ _ _ (Oper.mk (some _) (Op.convert _ _ _) _ _ _ none :: _) _ _ _; refine X.cvI rfl rfl rfl (w64R (by omega)) ?_)
            | (show XO _ _ _ (Oper.mk (some _) (Op.indexAddr _ _ _) _ _ _ none :: _) _ _ _; refine X.iaS rfl rfl (by omega) ?_)
            | (show XO _ _ _ (Oper.mk (some _) (Op.load _ _) _ _ _ none :: _) _ _ _; refine X.go rfl ?_)
            | (show XO _ _ _ (Oper.mk (some _) (_) _ _ _ none :: _) _ _ _; refine X.go rfl ?_)
            | (show XO _ _ _ [] _ _ _; refine X.nil ?_)
            | (show CW _ _ _ _ (Code.seq (Code.region _ _ false) _) _ _ _; refine W.rq ?_)
            | (show CW _ _ _ _ (Code.region _ _ false) _ _ _; refine W.rz ?_)
            | (show CW _ _ _ _ (Code.cond _ _ _) _ _ _; refine W.jpt (by (conv => lhs; whnf) <;> rfl) (by with_reducible rfl) (by first | omega | decide) ?_)
            | (show CW _ _ _ _ _ _ _ _; first | refine W.kn ?_ | refine W.bl ?_ | refine W.sq ?_)
            | (show KO _ _ _ _; first | refine K.sn ?_ | refine K.bn ?_ | refine K.ln _ ?_ ⟨r + 1, rfl, rfl, rfl, rfl, rfl, rfl, vI (by omega), by rw [fill_set _ _ (4 * c + r) _ _ (by omega) rfl]; rfl, ?_, rfl⟩)
            | refine K.nx ?_
            | refine K.re ?_
          · omega
          · omega
  · have hval : g8 (rd b (i : Int) ^^^ rd ks (i : Int)) = g8 (xs b ks 0 i) := by
      unfold xs; rw [show 16 * ((0 : Nat) : Int) + (i : Int) = i by omega]
    repeat' first
      | (show XO _ _ _ (Oper.mk _ _ _ _ _ none :: _) _ _ _; first | refine X.iaN rfl rfl (by omega) rfl hfl ?_ | refine X.stN (xs b ks 0 i) rfl rfl hval (by omega) hfl (fun _ => rfl) ?_)
      | (show XO _ _ _ (Oper.mk (some _) (Op.move _) _ _ _ none :: _) _ _ _; refine X.mv ?_)
      | (show XO _ _ _ (Oper.mk (some _) (Op.assign _) _ _ _ none :: _) _ _ _; refine X.as ?_)
      | (show XO _ _ _ (Oper.mk (some _) (Op.binOp BinOp.add _ _ _ _) _ _ _ none :: _) _ _ _; refine X.addI rfl rfl (by omega) ?_)
      | (show XO _ _ _ (Oper.mk (some _) (_) _ _ _ none :: _) _ _ _; refine X.go rfl ?_)
      | (show XO _ _ _ [] _ _ _; refine X.nil ?_)
      | (show AO _ _ _ (Oper.mk _ _ _ _ _ none :: _) _ _ _; refine A.xor8 rfl rfl ?_)
      | (show AO _ _ _ (Oper.mk (some _) (Op.move _) _ _ _ none :: _) _ _ _; refine A.mv ?_)
      | (show AO _ _ _ (Oper.mk (some _) (Op.indexAddr _ _ _) _ _ _ none :: _) _ _ _; refine A.iaS rfl rfl (by omega) ?_)
      | (show AO _ _ _ (Oper.mk (some _) (Op.load _ _) _ _ _ none :: _) _ _ _; refine A.go rfl ?_)
      | (show AO _ _ _ [] _ _ _; refine A.nil ?_)
      | (show CW _ _ _ _ (Code.seq (Code.region _ _ false) _) _ _ _; refine W.rq ?_)
      | (show CW _ _ _ _ (Code.region _ _ false) _ _ _; refine W.rz ?_)
      | (show CW _ _ _ _ (Code.region _ _ true) _ _ _; refine W.dz 11 ?_)
      | (show CW _ _ _ _ (Code.cond _ _ _) _ _ _; refine W.jpt (by (conv => lhs; whnf) <;> rfl) (by with_reducible rfl) (by first | omega | decide) ?_)
      | (show CW _ _ _ _ _ _ _ _; first | refine W.kn ?_ | refine W.bl ?_ | refine W.sq ?_)
      | (show KO _ _ _ _; first | refine K.sn ?_ | refine K.bn ?_ | refine K.ln _ ?_ ⟨i + 1, rfl, rfl, rfl, rfl, vI (by omega), by rw [fill_set _ _ _ _ _ rfl rfl], ?_, rfl⟩)
      | refine K.nx ?_
      | refine K.re ?_
      | refine K.dr ?_
    · omega
    · omega
theorem lock (H : ZC Z) (ks b : List UInt8) (hks : ks.length = 176) (hb : b.length = 16) (L : List Go.Pv.Obj) : SE Try.prog Z 33 [gB ks, gB boxL, gB b] L (gB (lockS ks b)) L :=
  SE.lift (lock0 H ks b hks hb) L (by simp [V.lts, gB_data]) (gB_data _)
end Go.Proofs.Aes
end
