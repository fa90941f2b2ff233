import Derived.Test.YtfjkplemepcmeaaG12
set_option linter.unusedVariables false
set_option linter.unusedSimpArgs false
set_option linter.unusedSectionVars false
section
set_option linter.unusedVariables false
set_option linter.unusedSimpArgs false
set_option maxHeartbeats 4000000
set_option maxRecDepth 100000
namespace Go.Proofs.Aes
open Go Go.Pv Go.Proofs
variable {Z : Nat → Go.Obj → Prop}
attribute [local irreducible] mulU invU boxL
theorem refBoxes (H : ZC Z) (L : List Go.Pv.Obj) : SE Try.prog Z 27 [] L (gB boxL) L := SE.lift (refBoxes0 H) L rfl (gB_data _)
theorem word_at (w : List UInt8) (m k : Nat) (hk : k < 4) : wordB w (4 + (4 * m + k) / 4) ((4 * m + k) % 4) = rd w (4 * ((m : Int) + 4) - 16 + k) ^^^ (if m % 4 = 0 then (if k = 0 then rd boxL ((rd w (4 * ((m : Int) + 4) - 4 + ((k : Int) + 1) % 4)).toNat : Int) ^^^ rc (m / 4) else rd boxL ((rd w (4 * ((m : Int) + 4) - 4 + ((k : Int) + 1) % 4)).toNat : Int)) else rd w (4 * ((m : Int) + 4) - 4 + k)) := by
  have e1 : 4 + (4 * m + k) / 4 = m + 4 := by omega
  have e2 : (4 * m + k) % 4 = k := by omega
  have e3 : (m + 4) / 4 - 1 = m / 4 := by omega
  have e4 : (((m + 4 : Nat)) : Int) = (m : Int) + 4 := by omega
  unfold wordB
  rw [e1, e2, e3, e4]
  by_cases h : m % 4 = 0
  · rw [if_pos h, if_pos (by omega)]
  · rw [if_neg h, if_neg (by omega)]
theorem frzO {L : List Go.Pv.Obj} {id sz m kk : Nat} {α : Type} {g : α → V} {l : List α} (hL : L[id]? = some (.buf sz m (l.map g))) (hk : kk ≤ id) (hl : V.lts 0 (l.map g) = true) : frz kk L (.own id 0 (l.map g).length (l.map g).length) = some (.sl false false (l.map g)) := by
  have := frzN (n := (l.map g).length) hL hk (by simp) hl
  exact this

theorem refKeys0 (H : ZC Z) (key : List UInt8) (hk : key.length = 16) : SE Try.prog Z 26 [gB key, gB boxL] [] (gB (keysL key)) [] := by
  refine SE.data H Try.func26 rfl ?_
  repeat' first
    | (show XO _ _ _ (Oper.mk _ _ _ _ _ none :: _) _ _ _; refine X.apO (g := g8) key rfl rfl (fun _ => rfl) (fun _ => rfl) (by omega) ?_)
    | (show XO _ _ _ (Oper.mk (some _) (Op.move _) _ _ _ none :: _) _ _ _; refine X.mv ?_)
    | (show XO _ _ _ (Oper.mk (some _) (Op.assign _) _ _ _ none :: _) _ _ _; refine X.as ?_)
    | (show XO _ _ _ (Oper.mk (some _) (Op.buildSlice _ _ _) _ _ _ none :: _) _ _ _; refine X.bs0 ?_)
    | (show XO _ _ _ [] _ _ _; refine X.nil ?_)
    | (show CW _ _ _ _ (Code.seq (Code.region _ _ false) _) _ _ _; refine W.rq ?_)
    | (show CW _ _ _ _ _ _ _ _; first | refine W.bl ?_ | refine W.sq ?_)
    | refine K.nx ?_
  refine W.lq (fun mz st => ∃ (m : Nat), st.env 0 = gB key ∧ st.env 1 = gB boxL ∧ st.env 5 = .own 0 0 ((exW key (4 * m)).map g8).length ((exW key (4 * m)).map g8).length ∧ st.env 6 = g8 (rc ((m + 3) / 4)) ∧ st.env 7 = .int .i64 ((m : Int) + 4) ∧ st.L = [Go.Pv.Obj.buf 1 0 ((exW key (4 * m)).map g8)] ∧ (m ≤ 40) ∧ mz = 40 - m) ?_ ?_
  · refine ⟨_, 0, rfl, rfl, rfl, rfl, rfl, rfl, ?_, rfl⟩
    omega
  rintro mz env L ⟨m, e0, e1, e5, e6, e7, eL, hI, hm⟩
  dsimp only at e0 e1 e5 e6 e7 eL
  subst eL
  refine W.ev 0 e0 ?_
  refine W.ev 1 e1 ?_
  refine W.ev 5 e5 ?_
  refine W.ev 6 e6 ?_
  refine W.ev 7 e7 ?_
  by_cases h : m = 40
  · subst h
    repeat' first
      | (show XO _ _ _ (Oper.mk (some _) (Op.move _) _ _ _ none :: _) _ _ _; refine X.mv ?_)
      | (show XO _ _ _ (Oper.mk (some _) (Op.assign _) _ _ _ none :: _) _ _ _; refine X.as ?_)
      | (show XO _ _ _ (Oper.mk (some _) (_) _ _ _ none :: _) _ _ _; refine X.go rfl ?_)
      | (show XO _ _ _ [] _ _ _; refine X.nil ?_)
      | (show CW _ _ _ _ (Code.seq (Code.region _ _ false) _) _ _ _; refine W.rq ?_)
      | (show CW _ _ _ _ (Code.cond _ _ _) _ _ _; refine W.jpf (by (conv => lhs; whnf) <;> rfl) (by with_reducible rfl) (by first | omega | decide) ?_)
      | (show CW _ _ _ _ _ _ _ _; first | refine W.kr ?_ | refine W.ke ?_ | refine W.sq ?_)
      | (show KO _ _ _ _; first | refine K.sn ?_ | refine K.se ?_ | refine K.be ?_ | refine K.le ?_)
      | refine K.nx ?_
    exact K.fin rfl ⟨_, rfl, frzO rfl (Nat.zero_le _) (map_data g8_data _)⟩
  · have hg2 : 40 - (m + 1) < mz := by omega
    repeat' first
      | (show XO _ _ _ (Oper.mk (some _) (Op.move _) _ _ _ none :: _) _ _ _; refine X.mv ?_)
      | (show XO _ _ _ (Oper.mk (some _) (Op.assign _) _ _ _ none :: _) _ _ _; refine X.as ?_)
      | (show XO _ _ _ (Oper.mk (some _) (_) _ _ _ none :: _) _ _ _; refine X.go rfl ?_)
      | (show XO _ _ _ [] _ _ _; refine X.nil ?_)
      | (show CW _ _ _ _ (Code.seq (Code.region _ _ false) _) _ _ _; refine W.rq ?_)
      | (show CW _ _ _ _ (Code.cond _ _ _) _ _ _; refine W.jpt (by (conv => lhs; whnf) <;> rfl) (by with_reducible rfl) (by first | omega | decide) ?_)
      | (show CW _ _ _ _ _ _ _ _; first | refine W.kn ?_ | refine W.bl ?_ | refine W.sq ?_)
      | (show KO _ _ _ _; refine K.sn ?_)
      | refine K.nx ?_
    refine W.lq (fun mz st => ∃ (k : Nat), st.env 0 = gB key ∧ st.env 1 = gB boxL ∧ st.env 5 = .own 0 0 ((exW key (4 * m + k)).map g8).length ((exW key (4 * m + k)).map g8).length ∧ st.env 6 = g8 (rc ((m + 3) / 4)) ∧ st.env 7 = .int .i64 ((m : Int) + 4) ∧ st.env 8 = .int .i64 k ∧ st.L = [Go.Pv.Obj.buf 1 0 ((exW key (4 * m + k)).map g8)] ∧ (k ≤ 4) ∧ mz = 4 - k) ?_ ?_
    · refine ⟨_, 0, rfl, rfl, rfl, rfl, rfl, rfl, rfl, ?_, rfl⟩
      omega
    rintro mz env L ⟨k, e0, e1, e5, e6, e7, e8, eL, hk4, hm⟩
    dsimp only at e0 e1 e5 e6 e7 e8 eL
    subst eL
    refine W.ev 0 e0 ?_
    refine W.ev 1 e1 ?_
    refine W.ev 5 e5 ?_
    refine W.ev 6 e6 ?_
    refine W.ev 7 e7 ?_
    refine W.ev 8 e8 ?_
    have hwl := exW_len hk (4 * m + k)
    have hbl := boxL_len
    by_cases h4 : k = 4
    · subst h4
      by_cases h0 : m % 4 = 0
      · have hrc : mulU (rc ((m + 3) / 4)) 2 = rc ((m + 1 + 3) / 4) := by
          rw [show (m + 1 + 3) / 4 = (m + 3) / 4 + 1 by omega]; rfl
        have hmul := refMul H (rc ((m + 3) / 4)) 2
        rw [hrc] at hmul
        repeat' first
          | (show XO _ _ _ (Oper.mk (some _) (Op.move _) _ _ _ none :: _) _ _ _; refine X.mv ?_)
          | (show XO _ _ _ (Oper.mk (some _) (Op.assign _) _ _ _ none :: _) _ _ _; refine X.as ?_)
          | (show XO _ _ _ (Oper.mk (some _) (Op.call _) _ _ _ none :: _) _ _ _; refine X.call (hmul _) ?_)
          | (show XO _ _ _ (Oper.mk (some _) (Op.binOp BinOp.add _ _ _ _) _ _ _ none :: _) _ _ _; refine X.addI rfl rfl (by omega) ?_)
          | (show XO _ _ _ (Oper.mk (some _) (Op.binOp BinOp.rem _ _ _ _) _ _ _ none :: _) _ _ _; refine X.remI rfl rfl (by omega) ?_)
          | (show XO _ _ _ (Oper.mk (some _) (_) _ _ _ none :: _) _ _ _; refine X.go rfl ?_)
          | (show XO _ _ _ [] _ _ _; refine X.nil ?_)
          | (show CW _ _ _ _ (Code.seq (Code.region _ _ false) _) _ _ _; refine W.rq ?_)
          | (show CW _ _ _ _ (Code.region _ _ false) _ _ _; refine W.rz ?_)
          | (show CW _ _ _ _ (Code.cond _ _ _) _ _ _; first | refine W.jpt (by (conv => lhs; whnf) <;> rfl) (by with_reducible rfl) (by first | omega | decide) ?_ | refine W.jpf (by (conv => lhs; whnf) <;> rfl) (by with_reducible rfl) (by first | omega | decide) ?_)
          | (show CW _ _ _ _ _ _ _ _; first | refine W.ke ?_ | refine W.sq ?_)
          | (show KO _ _ _ _; first | refine K.sn ?_ | refine K.se ?_ | refine K.bn ?_ | refine K.be ?_ | refine K.le ?_ | refine K.ln _ ?_ ⟨m + 1, rfl, rfl, rfl, rfl, vI (by omega), rfl, ?_, rfl⟩)
          | refine K.nx ?_
          | refine K.re ?_
        · exact hg2
        · omega
      · have hrc : rc ((m + 3) / 4) = rc ((m + 1 + 3) / 4) := by rw [show (m + 1 + 3) / 4 = (m + 3) / 4 by omega]
        rw [hrc]
        repeat' first
          | (show XO _ _ _ (Oper.mk (some _) (Op.move _) _ _ _ none :: _) _ _ _; refine X.mv ?_)
          | (show XO _ _ _ (Oper.mk (some _) (Op.assign _) _ _ _ none :: _) _ _ _; refine X.as ?_)
          | (show XO _ _ _ (Oper.mk (some _) (Op.binOp BinOp.add _ _ _ _) _ _ _ none :: _) _ _ _; refine X.addI rfl rfl (by omega) ?_)
          | (show XO _ _ _ (Oper.mk (some _) (Op.binOp BinOp.rem _ _ _ _) _ _ _ none :: _) _ _ _; refine X.remI rfl rfl (by omega) ?_)
          | (show XO _ _ _ (Oper.mk (some _) (_) _ _ _ none :: _) _ _ _; refine X.go rfl ?_)
          | (show XO _ _ _ [] _ _ _; refine X.nil ?_)
          | (show CW _ _ _ _ (Code.seq (Code.region _ _ false) _) _ _ _; refine W.rq ?_)
          | (show CW _ _ _ _ (Code.region _ _ false) _ _ _; refine W.rz ?_)
          | (show CW _ _ _ _ (Code.cond _ _ _) _ _ _; refine W.jpf (by (conv => lhs; whnf) <;> rfl) (by with_reducible rfl) (by first | omega | decide) ?_)
          | (show CW _ _ _ _ _ _ _ _; first | refine W.kn ?_ | refine W.ke ?_ | refine W.sq ?_)
          | (show KO _ _ _ _; first | refine K.sn ?_ | refine K.se ?_ | refine K.bn ?_ | refine K.be ?_ | refine K.le ?_ | refine K.ln _ ?_ ⟨m + 1, rfl, rfl, rfl, rfl, vI (by omega), rfl, ?_, rfl⟩)
          | refine K.nx ?_
          | refine K.re ?_
        · exact hg2
        · omega
    · have hw := word_at (exW key (4 * m + k)) m k (by omega)
      have b1 := (rd (exW key (4 * m + k)) (4 * ((m : Int) + 4) - 4 + ((k : Int) + 1) % 4)).toNat_lt
      by_cases h0 : m % 4 = 0
      · rw [if_pos h0] at hw
        by_cases hk0 : k = 0
        · rw [if_pos hk0, show m / 4 = (m + 3) / 4 by omega] at hw
          repeat' first
            | (show XO _ _ _ (Oper.mk _ _ _ _ _ none :: _) _ _ _; first | refine X.xor8 rfl rfl ?_ | refine X.ap1 (g := g8) (wordB (exW key (4 * m + k)) (4 + (4 * m + k) / 4) ((4 * m + k) % 4)) rfl rfl (by rw [hw]; rfl) (by omega) ?_)
            | (show XO _ _ _ (Oper.mk (some _) (Op.move _) _ _ _ none :: _) _ _ _; refine X.mv ?_)
            | (show XO _ _ _ (Oper.mk (some _) (Op.assign _) _ _ _ none :: _) _ _ _; refine X.as ?_)
            | (show XO _ _ _ (Oper.mk (some _) (Op.binOp BinOp.add _ _ _ _) _ _ _ none :: _) _ _ _; refine X.addI rfl rfl (by omega) ?_)
            | (show XO _ _ _ (Oper.mk (some _) (Op.binOp BinOp.sub _ _ _ _) _ _ _ none :: _) _ _ _; refine X.subI rfl rfl (by omega) ?_)
            | (show XO _ _ _ (Oper.mk (some _) (Op.binOp BinOp.mul _ _ _ _) _ _ _ none :: _) _ _ _; refine X.mulI rfl rfl (by omega) ?_)
            | (show XO _ _ _ (Oper.mk (some _) (Op.binOp BinOp.rem _ _ _ _) _ _ _ none :: _) _ _ _; refine X.remI rfl rfl (by omega) ?_)
            | (show XO _ _ _ (Oper.mk (some _) (Op.convert _ _ _) _ _ _ none :: _) _ _ _; refine X.cvI rfl rfl rfl (w64R (by omega)) ?_)
            | (show XO _ _ _ (Oper.mk (some _) (Op.buildSlice _ _ _) _ _ _ none :: _) _ _ _; refine X.bs1 (by (conv => lhs; whnf) <;> rfl) ?_)
            | (show XO _ _ _ (Oper.mk (some _) (Op.indexAddr _ _ _) _ _ _ none :: _) _ _ _; first | refine X.iaS rfl rfl (by omega) ?_ | refine X.iaO rfl rfl (by omega) rfl ?_)
            | (show XO _ _ _ (Oper.mk (some _) (Op.load _ _) _ _ _ none :: _) _ _ _; first | refine X.go rfl ?_ | refine X.ldO rfl rfl (by omega) ?_)
            | (show XO _ _ _ (Oper.mk (some _) (_) _ _ _ none :: _) _ _ _; refine X.go rfl ?_)
            | (show XO _ _ _ (Oper.mk _ _ _ _ _ (some _) :: _) _ _ _; first | refine X.hy rfl (by (conv => lhs; whnf) <;> rfl) (by first | with_reducible rfl | with_reducible exact notT | with_reducible exact notF) ?_ | refine X.hpt rfl (by (conv => lhs; whnf) <;> rfl) (by with_reducible rfl) (by first | omega | decide) ?_)
            | (show XO _ _ _ [] _ _ _; refine X.nil ?_)
            | (show CW _ _ _ _ (Code.seq (Code.region _ _ false) _) _ _ _; refine W.rq ?_)
            | (show CW _ _ _ _ (Code.region _ _ false) _ _ _; refine W.rz ?_)
            | (show CW _ _ _ _ (Code.cond _ _ _) _ _ _; refine W.jpt (by (conv => lhs; whnf) <;> rfl) (by with_reducible rfl) (by first | omega | decide) ?_)
            | (show CW _ _ _ _ _ _ _ _; first | refine W.kn ?_ | refine W.bl ?_ | refine W.sq ?_)
            | (show KO _ _ _ _; first | refine K.sn ?_ | refine K.bn ?_ | refine K.ln _ ?_ ⟨k + 1, rfl, rfl, rfl, rfl, rfl, vI (by omega), rfl, ?_, rfl⟩)
            | refine K.nx ?_
            | refine K.re ?_
          · omega
          · omega
        · rw [if_neg hk0] at hw
          repeat' first
            | (show XO _ _ _ (Oper.mk _ _ _ _ _ none :: _) _ _ _; first | refine X.xor8 rfl rfl ?_ | refine X.ap1 (g := g8) (wordB (exW key (4 * m + k)) (4 + (4 * m + k) / 4) ((4 * m + k) % 4)) rfl rfl (by rw [hw]; rfl) (by omega) ?_)
            | (show XO _ _ _ (Oper.mk (some _) (Op.move _) _ _ _ none :: _) _ _ _; refine X.mv ?_)
            | (show XO _ _ _ (Oper.mk (some _) (Op.assign _) _ _ _ none :: _) _ _ _; refine X.as ?_)
            | (show XO _ _ _ (Oper.mk (some _) (Op.binOp BinOp.add _ _ _ _) _ _ _ none :: _) _ _ _; refine X.addI rfl rfl (by omega) ?_)
            | (show XO _ _ _ (Oper.mk (some _) (Op.binOp BinOp.sub _ _ _ _) _ _ _ none :: _) _ _ _; refine X.subI rfl rfl (by omega) ?_)
            | (show XO _ _ _ (Oper.mk (some _) (Op.binOp BinOp.mul _ _ _ _) _ _ _ none :: _) _ _ _; refine X.mulI rfl rfl (by omega) ?_)
            | (show XO _ _ _ (Oper.mk (some _) (Op.binOp BinOp.rem _ _ _ _) _ _ _ none :: _) _ _ _; refine X.remI rfl rfl (by omega) ?_)
            | (show XO _ _ _ (Oper.mk (some _) (Op.convert _ _ _) _ _ _ none :: _) _ _ _; refine X.cvI rfl rfl rfl (w64R (by omega)) ?_)
            | (show XO _ _ _ (Oper.mk (some _) (Op.buildSlice _ _ _) _ _ _ none :: _) _ _ _; refine X.bs1 (by (conv => lhs; whnf) <;> rfl) ?_)
            | (show XO _ _ _ (Oper.mk (some _) (Op.indexAddr _ _ _) _ _ _ none :: _) _ _ _; first | refine X.iaS rfl rfl (by omega) ?_ | refine X.iaO rfl rfl (by omega) rfl ?_)
            | (show XO _ _ _ (Oper.mk (some _) (Op.load _ _) _ _ _ none :: _) _ _ _; first | refine X.go rfl ?_ | refine X.ldO rfl rfl (by omega) ?_)
            | (show XO _ _ _ (Oper.mk (some _) (_) _ _ _ none :: _) _ _ _; refine X.go rfl ?_)
            | (show XO _ _ _ (Oper.mk _ _ _ _ _ (some _) :: _) _ _ _; first | refine X.hy rfl (by (conv => lhs; whnf) <;> rfl) (by first | with_reducible rfl | with_reducible exact notT | with_reducible exact notF) ?_ | refine X.hpt rfl (by (conv => lhs; whnf) <;> rfl) (by with_reducible rfl) (by first | omega | decide) ?_)
            | (show XO _ _ _ [] _ _ _; refine X.nil ?_)
            | (show CW _ _ _ _ (Code.seq (Code.region _ _ false) _) _ _ _; refine W.rq ?_)
            | (show CW _ _ _ _ (Code.region _ _ false) _ _ _; refine W.rz ?_)
            | (show CW _ _ _ _ (Code.cond _ _ _) _ _ _; first | refine W.jpt (by (conv => lhs; whnf) <;> rfl) (by with_reducible rfl) (by first | omega | decide) ?_ | refine W.jpf (by (conv => lhs; whnf) <;> rfl) (by with_reducible rfl) (by first | omega | decide) ?_)
            | (show CW _ _ _ _ _ _ _ _; first | refine W.kn ?_ | refine W.bl ?_ | refine W.sq ?_)
            | (show KO _ _ _ _; first | refine K.sn ?_ | refine K.bn ?_ | refine K.ln _ ?_ ⟨k + 1, rfl, rfl, rfl, rfl, rfl, vI (by omega), rfl, ?_, rfl⟩)
            | refine K.nx ?_
            | refine K.re ?_
          · omega
          · omega
      · rw [if_neg h0] at hw
        repeat' first
          | (show XO _ _ _ (Oper.mk _ _ _ _ _ none :: _) _ _ _; first | refine X.xor8 rfl rfl ?_ | refine X.ap1 (g := g8) (wordB (exW key (4 * m + k)) (4 + (4 * m + k) / 4) ((4 * m + k) % 4)) rfl rfl (by rw [hw]; rfl) (by omega) ?_)
          | (show XO _ _ _ (Oper.mk (some _) (Op.move _) _ _ _ none :: _) _ _ _; refine X.mv ?_)
          | (show XO _ _ _ (Oper.mk (some _) (Op.assign _) _ _ _ none :: _) _ _ _; refine X.as ?_)
          | (show XO _ _ _ (Oper.mk (some _) (Op.binOp BinOp.add _ _ _ _) _ _ _ none :: _) _ _ _; refine X.addI rfl rfl (by omega) ?_)
          | (show XO _ _ _ (Oper.mk (some _) (Op.binOp BinOp.sub _ _ _ _) _ _ _ none :: _) _ _ _; refine X.subI rfl rfl (by omega) ?_)
          | (show XO _ _ _ (Oper.mk (some _) (Op.binOp BinOp.mul _ _ _ _) _ _ _ none :: _) _ _ _; refine X.mulI rfl rfl (by omega) ?_)
          | (show XO _ _ _ (Oper.mk (some _) (Op.binOp BinOp.rem _ _ _ _) _ _ _ none :: _) _ _ _; refine X.remI rfl rfl (by omega) ?_)
          | (show XO _ _ _ (Oper.mk (some _) (Op.buildSlice _ _ _) _ _ _ none :: _) _ _ _; refine X.bs1 (by (conv => lhs; whnf) <;> rfl) ?_)
          | (show XO _ _ _ (Oper.mk (some _) (Op.indexAddr _ _ _) _ _ _ none :: _) _ _ _; refine X.iaO rfl rfl (by omega) rfl ?_)
          | (show XO _ _ _ (Oper.mk (some _) (Op.load _ _) _ _ _ none :: _) _ _ _; refine X.ldO rfl rfl (by omega) ?_)
          | (show XO _ _ _ (Oper.mk (some _) (_) _ _ _ none :: _) _ _ _; refine X.go rfl ?_)
          | (show XO _ _ _ (Oper.mk _ _ _ _ _ (some _) :: _) _ _ _; first | refine X.hnf rfl (by (conv => lhs; whnf) <;> rfl) (by first | with_reducible rfl | with_reducible exact notT | with_reducible exact notF) ?_ | refine X.hpf rfl (by (conv => lhs; whnf) <;> rfl) (by with_reducible rfl) (by first | omega | decide) ?_)
          | (show XO _ _ _ [] _ _ _; refine X.nil ?_)
          | (show CW _ _ _ _ (Code.seq (Code.region _ _ false) _) _ _ _; refine W.rq ?_)
          | (show CW _ _ _ _ (Code.region _ _ false) _ _ _; refine W.rz ?_)
          | (show CW _ _ _ _ (Code.cond _ _ _) _ _ _; first | refine W.jf (by (conv => lhs; whnf) <;> rfl) (by first | with_reducible rfl | with_reducible exact notT | with_reducible exact notF) ?_ | refine W.jpt (by (conv => lhs; whnf) <;> rfl) (by with_reducible rfl) (by first | omega | decide) ?_ | refine W.jpf (by (conv => lhs; whnf) <;> rfl) (by with_reducible rfl) (by first | omega | decide) ?_)
          | (show CW _ _ _ _ _ _ _ _; first | refine W.kn ?_ | refine W.bl ?_ | refine W.sq ?_)
          | (show KO _ _ _ _; first | refine K.sn ?_ | refine K.bn ?_ | refine K.ln _ ?_ ⟨k + 1, rfl, rfl, rfl, rfl, rfl, vI (by omega), rfl, ?_, rfl⟩)
          | refine K.nx ?_
          | refine K.re ?_
        · omega
        · omega
theorem refKeys (H : ZC Z) (key : List UInt8) (hk : key.length = 16) (L : List Go.Pv.Obj) : SE Try.prog Z 26 [gB key, gB boxL] L (gB (keysL key)) L :=
  SE.lift (refKeys0 H key hk) L (by simp [V.lts, gB_data]) (gB_data _)
end Go.Proofs.Aes
end
