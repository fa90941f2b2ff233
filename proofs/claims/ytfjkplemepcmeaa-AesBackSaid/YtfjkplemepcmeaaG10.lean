import Derived.Test.YtfjkplemepcmeaaG9
import Derived.Test.YtfjkplemepcmeaaG7
import Derived.Test.YtfjkplemepcmeaaG2
import Derived.Test.YtfjkplemepcmeaaPv35
set_option linter.unusedVariables false
set_option linter.unusedSimpArgs false
set_option linter.unusedSectionVars false
section
set_option linter.unusedVariables false
set_option linter.unusedSimpArgs false
set_option maxHeartbeats 4000000
set_option maxRecDepth 100000
namespace Go.Proofs.Aes
open Go Go.Pv Go.Proofs
variable {Z : Nat → Go.Obj → Prop}
attribute [local irreducible] boxL mulU
theorem with_ (H : ZC Z) (s k : List UInt8) (hs : s.length = 16) (hk : k.length = 16) (L : List Go.Pv.Obj) : SE Try.prog Z 38 [ag s, ag k] L (ag (addS s k)) L :=
  SE.lift (with0 H s k hs hk) L (by simp [V.lts, ag_data]) (ag_data _)
theorem shifted (H : ZC Z) (s : List UInt8) (hs : s.length = 16) (L : List Go.Pv.Obj) : SE Try.prog Z 39 [ag s, .cref (boxL.map g8)] L (ag (shiftS s)) L :=
  SE.lift (shifted0 H s hs) L (by simp [V.lts, V.lt, ag_data, map_data g8_data]) (ag_data _)
theorem mixed (H : ZC Z) (s : List UInt8) (hs : s.length = 16) (L : List Go.Pv.Obj) : SE Try.prog Z 40 [ag s] L (ag (mixS s)) L :=
  SE.lift (mixed0 H s hs) L (by simp [V.lts, ag_data]) (ag_data _)

theorem locked0 (H : ZC Z) (ks s : List UInt8) (hK : ks.length = 176) (hs : s.length = 16) : SE Try.prog Z 32 [.cref (ks.map g8), .cref (boxL.map g8), ag s] [] (ag (lockS ks s)) [] := by
  have hr0 := rk_len hK (n := 0) (by omega)
  refine SE.data H Try.func32 rfl ?_
  repeat' first
    | (show XO _ _ _ (Oper.mk _ _ _ _ _ none :: _) _ _ _; first | refine X.bx rfl (by (conv => lhs; whnf) <;> rfl) (one8 _) ?_ | refine X.stW (n := 16) rfl rfl rfl (by simp [hs, addS_len, lockF_len, shiftS_len, mixS_len]) (by simp [hs, addS_len, lockF_len, shiftS_len, mixS_len]) (one8 _) ?_)
    | (show XO _ _ _ (Oper.mk (some _) (Op.assign _) _ _ _ none :: _) _ _ _; refine X.as ?_)
    | (show XO _ _ _ (Oper.mk (some _) (Op.call _) _ _ _ none :: _) _ _ _; refine X.call (with_ H s (rk ks 0) hs hr0 _) ?_)
    | (show XO _ _ _ (Oper.mk (some _) (_) _ _ _ none :: _) _ _ _; refine X.go rfl ?_)
    | (show XO _ _ _ [] _ _ _; refine X.nil ?_)
    | (show AO _ _ _ (Oper.mk _ _ _ _ _ none :: _) _ _ _; first | refine A.ldW (n := 16) rfl rfl (by simp [hs, addS_len, lockF_len, shiftS_len, mixS_len]) ?_ | refine A.ldS (l := ks) (g' := g8) (n := 16) rfl (by omega) ?_ | refine A.iaC (n := 11) (sz := 16) rfl rfl (by omega) (by rw [List.length_map, hK]; omega) ?_)
    | (show AO _ _ _ (Oper.mk (some _) (Op.move _) _ _ _ none :: _) _ _ _; refine A.mv ?_)
    | (show AO _ _ _ (Oper.mk (some _) (_) _ _ _ none :: _) _ _ _; refine A.go rfl ?_)
    | (show AO _ _ _ [] _ _ _; refine A.nil ?_)
    | (show CW _ _ _ _ (Code.seq (Code.region _ _ false) _) _ _ _; refine W.rq ?_)
    | (show CW _ _ _ _ (Code.seq (Code.region _ _ true) _) _ _ _; refine W.dq 5 ?_)
    | (show CW _ _ _ _ _ _ _ _; first | refine W.bl ?_ | refine W.sq ?_)
    | refine K.nx ?_
    | refine K.dr ?_
  refine W.lq (fun mz st => ∃ (n : Nat), st.env 0 = .cref (ks.map g8) ∧ st.env 1 = .cref (boxL.map g8) ∧ st.env 5 = .ref 0 0 ∧ st.env 6 = .ref 1 0 ∧ st.env 7 = .int .i64 ((n : Int) + 1) ∧ st.L = [Go.Pv.Obj.box ((lockF ks s n).map g8), .box ((List.replicate 16 0).map g8)] ∧ (n ≤ 10) ∧ mz = 10 - n) ?_ ?_
  · refine ⟨_, 0, rfl, rfl, rfl, rfl, rfl, rfl, ?_, rfl⟩
    omega
  rintro mz env L ⟨n, e0, e1, e5, e6, e7, eL, hI, hm⟩
  dsimp only at e0 e1 e5 e6 e7 eL
  subst eL
  refine W.ev 0 e0 ?_
  refine W.ev 1 e1 ?_
  refine W.ev 5 e5 ?_
  refine W.ev 6 e6 ?_
  refine W.ev 7 e7 ?_
  have hl := lockF_len ks s n
  by_cases h : n = 10
  · subst h
    repeat' first
      | (show XO _ _ _ (Oper.mk _ _ _ _ _ none :: _) _ _ _; first | refine X.ldW (n := 16) rfl rfl (by simp [hs, addS_len, lockF_len, shiftS_len, mixS_len]) ?_ | refine X.stW (n := 16) rfl rfl rfl (by simp [hs, addS_len, lockF_len, shiftS_len, mixS_len]) (by simp [hs, addS_len, lockF_len, shiftS_len, mixS_len]) (one8 _) ?_)
      | (show XO _ _ _ (Oper.mk (some _) (Op.move _) _ _ _ none :: _) _ _ _; refine X.mv ?_)
      | (show XO _ _ _ (Oper.mk (some _) (_) _ _ _ none :: _) _ _ _; refine X.go rfl ?_)
      | (show XO _ _ _ [] _ _ _; refine X.nil ?_)
      | (show CW _ _ _ _ (Code.seq (Code.region _ _ false) _) _ _ _; refine W.rq ?_)
      | (show CW _ _ _ _ (Code.cond _ _ _) _ _ _; refine W.jpf (by (conv => lhs; whnf) <;> rfl) (by with_reducible rfl) (by first | omega | decide) ?_)
      | (show CW _ _ _ _ _ _ _ _; first | refine W.kr ?_ | refine W.ke ?_ | refine W.sq ?_)
      | (show KO _ _ _ _; first | refine K.sn ?_ | refine K.se ?_ | refine K.be ?_ | refine K.le ?_)
      | refine K.nx ?_
    refine K.fin (resV_cell (n := 16) rfl rfl (by simp [lockF_len])) ⟨_, rfl, (frz_agg (map_data g8_data _)).trans ?_⟩
    rfl
  · have hr := rk_len hK (n := n + 1) (by omega)
    by_cases h9 : n + 1 < 10
    · have hl2 : lockF ks s (n + 1) = addS (mixS (shiftS (lockF ks s n))) (rk ks (n + 1)) := by rw [lockF, if_pos h9]
      repeat' first
        | (show XO _ _ _ (Oper.mk _ _ _ _ _ none :: _) _ _ _; first | refine X.ldW (n := 16) rfl rfl (by simp [hs, addS_len, lockF_len, shiftS_len, mixS_len]) ?_ | refine X.stW (n := 16) rfl rfl rfl (by simp [hs, addS_len, lockF_len, shiftS_len, mixS_len]) (by simp [hs, addS_len, lockF_len, shiftS_len, mixS_len]) (one8 _) ?_)
        | (show XO _ _ _ (Oper.mk (some _) (Op.move _) _ _ _ none :: _) _ _ _; refine X.mv ?_)
        | (show XO _ _ _ (Oper.mk (some _) (Op.assign _) _ _ _ none :: _) _ _ _; refine X.as ?_)
        | (show XO _ _ _ (Oper.mk (some _) (Op.call _) _ _ _ none :: _) _ _ _; first | refine X.call (shifted H _ hl _) ?_ | refine X.call (mixed H _ (shiftS_len _) _) ?_ | refine X.call (with_ H (mixS (shiftS (lockF ks s n))) (rk ks (n + 1)) (mixS_len _) hr _) ?_)
        | (show XO _ _ _ (Oper.mk (some _) (Op.binOp BinOp.add _ _ _ _) _ _ _ none :: _) _ _ _; refine X.addI rfl rfl (by omega) ?_)
        | (show XO _ _ _ (Oper.mk (some _) (_) _ _ _ none :: _) _ _ _; refine X.go rfl ?_)
        | (show XO _ _ _ [] _ _ _; refine X.nil ?_)
        | (show AO _ _ _ (Oper.mk _ _ _ _ _ none :: _) _ _ _; first | refine A.ldW (n := 16) rfl rfl (by simp [hs, addS_len, lockF_len, shiftS_len, mixS_len]) ?_ | refine A.ldS (l := ks) (g' := g8) (n := 16) rfl (by omega) ?_ | refine A.iaC (n := 11) (sz := 16) rfl rfl (by omega) (by rw [List.length_map, hK]; omega) ?_)
        | (show AO _ _ _ (Oper.mk (some _) (Op.move _) _ _ _ none :: _) _ _ _; refine A.mv ?_)
        | (show AO _ _ _ (Oper.mk (some _) (_) _ _ _ none :: _) _ _ _; refine A.go rfl ?_)
        | (show AO _ _ _ [] _ _ _; refine A.nil ?_)
        | (show CW _ _ _ _ (Code.seq (Code.region _ _ false) _) _ _ _; refine W.rq ?_)
        | (show CW _ _ _ _ (Code.region _ _ false) _ _ _; refine W.rz ?_)
        | (show CW _ _ _ _ (Code.region _ _ true) _ _ _; refine W.dz 6 ?_)
        | (show CW _ _ _ _ (Code.cond _ _ _) _ _ _; refine W.jpt (by (conv => lhs; whnf) <;> rfl) (by with_reducible rfl) (by first | omega | decide) ?_)
        | (show CW _ _ _ _ _ _ _ _; first | refine W.kn ?_ | refine W.bl ?_ | refine W.sq ?_)
        | (show KO _ _ _ _; first | refine K.sn ?_ | refine K.bn ?_ | refine K.ln _ ?_ ⟨n + 1, rfl, rfl, rfl, rfl, vI (by omega), by rw [hl2], ?_, rfl⟩)
        | refine K.nx ?_
        | refine K.re ?_
        | refine K.dr ?_
      · omega
      · omega
    · have hl2 : lockF ks s (n + 1) = addS (shiftS (lockF ks s n)) (rk ks (n + 1)) := by rw [lockF, if_neg h9]
      repeat' first
        | (show XO _ _ _ (Oper.mk _ _ _ _ _ none :: _) _ _ _; first | refine X.ldW (n := 16) rfl rfl (by simp [hs, addS_len, lockF_len, shiftS_len, mixS_len]) ?_ | refine X.stW (n := 16) rfl rfl rfl (by simp [hs, addS_len, lockF_len, shiftS_len, mixS_len]) (by simp [hs, addS_len, lockF_len, shiftS_len, mixS_len]) (one8 _) ?_)
        | (show XO _ _ _ (Oper.mk (some _) (Op.move _) _ _ _ none :: _) _ _ _; refine X.mv ?_)
        | (show XO _ _ _ (Oper.mk (some _) (Op.assign _) _ _ _ none :: _) _ _ _; refine X.as ?_)
        | (show XO _ _ _ (Oper.mk (some _) (Op.call _) _ _ _ none :: _) _ _ _; first | refine X.call (shifted H _ hl _) ?_ | refine X.call (with_ H (shiftS (lockF ks s n)) (rk ks (n + 1)) (shiftS_len _) hr _) ?_)
        | (show XO _ _ _ (Oper.mk (some _) (Op.binOp BinOp.add _ _ _ _) _ _ _ none :: _) _ _ _; refine X.addI rfl rfl (by omega) ?_)
        | (show XO _ _ _ (Oper.mk (some _) (_) _ _ _ none :: _) _ _ _; refine X.go rfl ?_)
        | (show XO _ _ _ [] _ _ _; refine X.nil ?_)
        | (show AO _ _ _ (Oper.mk _ _ _ _ _ none :: _) _ _ _; first | refine A.ldW (n := 16) rfl rfl (by simp [hs, addS_len, lockF_len, shiftS_len, mixS_len]) ?_ | refine A.ldS (l := ks) (g' := g8) (n := 16) rfl (by omega) ?_ | refine A.iaC (n := 11) (sz := 16) rfl rfl (by omega) (by rw [List.length_map, hK]; omega) ?_)
        | (show AO _ _ _ (Oper.mk (some _) (Op.move _) _ _ _ none :: _) _ _ _; refine A.mv ?_)
        | (show AO _ _ _ (Oper.mk (some _) (_) _ _ _ none :: _) _ _ _; refine A.go rfl ?_)
        | (show AO _ _ _ [] _ _ _; refine A.nil ?_)
        | (show CW _ _ _ _ (Code.seq (Code.region _ _ false) _) _ _ _; refine W.rq ?_)
        | (show CW _ _ _ _ (Code.region _ _ false) _ _ _; refine W.rz ?_)
        | (show CW _ _ _ _ (Code.region _ _ true) _ _ _; refine W.dz 6 ?_)
        | (show CW _ _ _ _ (Code.cond _ _ _) _ _ _; first | refine W.jpt (by (conv => lhs; whnf) <;> rfl) (by with_reducible rfl) (by first | omega | decide) ?_ | refine W.jpf (by (conv => lhs; whnf) <;> rfl) (by with_reducible rfl) (by first | omega | decide) ?_)
        | (show CW _ _ _ _ _ _ _ _; first | refine W.kn ?_ | refine W.bl ?_ | refine W.sq ?_)
        | (show KO _ _ _ _; first | refine K.sn ?_ | refine K.bn ?_ | refine K.ln _ ?_ ⟨n + 1, rfl, rfl, rfl, rfl, vI (by omega), by rw [hl2], ?_, rfl⟩)
        | refine K.nx ?_
        | refine K.re ?_
        | refine K.dr ?_
      · omega
      · omega

end Go.Proofs.Aes
end
section
/- Aes: the rounds' keys, byte by byte. -/
set_option maxRecDepth 100000
namespace Go.Proofs.Aes
open Go.Pv
def rc : Nat → UInt8
  | 0 => 1
  | n + 1 => mulU (rc n) 2
def wordB (w : List UInt8) (i k : Nat) : UInt8 :=
  rd w (4 * (i : Int) - 16 + k) ^^^ (if i % 4 = 0 then (if k = 0 then rd boxL ((rd w (4 * (i : Int) - 4 + ((k : Int) + 1) % 4)).toNat : Int) ^^^ rc (i / 4 - 1) else rd boxL ((rd w (4 * (i : Int) - 4 + ((k : Int) + 1) % 4)).toNat : Int)) else rd w (4 * (i : Int) - 4 + k))
def exW (key : List UInt8) : Nat → List UInt8
  | 0 => key
  | p + 1 => exW key p ++ [wordB (exW key p) (4 + p / 4) (p % 4)]
def keysL (key : List UInt8) : List UInt8 := exW key 160
def exE (key : List UInt8) (q : Nat) : UInt8 := rd (keysL key) (q : Int)
variable {key : List UInt8}
theorem exW_len (hk : key.length = 16) : ∀ p, (exW key p).length = 16 + p
  | 0 => hk
  | p + 1 => by rw [exW, List.length_append, exW_len hk p]; rfl
theorem rd_app {l m : List UInt8} {q : Nat} (h : q < l.length) : rd (l ++ m) (q : Int) = rd l (q : Int) := by
  rw [rd_nat, rd_nat, List.getD_eq_getElem?_getD, List.getD_eq_getElem?_getD, List.getElem?_append_left h]
theorem rd_end {l : List UInt8} {a : UInt8} {q : Nat} (h : q = l.length) : rd (l ++ [a]) (q : Int) = a := by
  rw [rd_nat, List.getD_eq_getElem?_getD, List.getElem?_append_right (by omega), h, Nat.sub_self]; rfl
theorem exW_pre (hk : key.length = 16) {p q : Nat} (hq : q < 16 + p) : ∀ d, rd (exW key (p + d)) (q : Int) = rd (exW key p) (q : Int)
  | 0 => rfl
  | d + 1 => by
    rw [show p + (d + 1) = (p + d) + 1 by omega, exW, rd_app (by rw [exW_len hk]; omega)]
    exact exW_pre hk hq d
theorem exE_of (hk : key.length = 16) {p q : Nat} (hp : p ≤ 160) (hq : q < 16 + p) : rd (exW key p) (q : Int) = exE key q := by
  have := exW_pre hk hq (160 - p)
  rw [show p + (160 - p) = 160 by omega] at this
  exact this.symm
theorem exE_low (hk : key.length = 16) {q : Nat} (hq : q < 16) : exE key q = rd key (q : Int) := (exE_of hk (p := 0) (by omega) (by omega)).symm
theorem exE_word (hk : key.length = 16) {p : Nat} (hp : p < 160) : exE key (16 + p) = wordB (exW key p) (4 + p / 4) (p % 4) := by
  rw [← exE_of hk (p := p + 1) (by omega) (by omega), exW, rd_end (by rw [exW_len hk])]
/-- What a round's word is at first. -/
def x0 (key : List UInt8) (n j : Nat) : UInt8 := if j = 0 then rd boxL ((exE key (16 * (n - 1) + 13)).toNat : Int) ^^^ rc (n - 1) else rd boxL ((exE key (16 * (n - 1) + 12 + (j + 1) % 4)).toNat : Int)
theorem exE_first (hk : key.length = 16) {n i : Nat} (h1 : 1 ≤ n) (h2 : n ≤ 10) (hi : i < 4) : exE key (16 * n + i) = x0 key n i ^^^ exE key (16 * (n - 1) + i) := by
  rw [show 16 * n + i = 16 + (16 * (n - 1) + i) by omega, exE_word hk (by omega)]
  unfold wordB x0
  have e1 : (4 + (16 * (n - 1) + i) / 4) % 4 = 0 := by omega
  have e2 : (16 * (n - 1) + i) % 4 = i := by omega
  have e3 : 4 * ((4 + (16 * (n - 1) + i) / 4 : Nat) : Int) - 16 + (i : Int) = ((16 * (n - 1) + i : Nat) : Int) := by omega
  have e4 : 4 * ((4 + (16 * (n - 1) + i) / 4 : Nat) : Int) - 4 + ((i : Int) + 1) % 4 = ((16 * (n - 1) + 12 + (i + 1) % 4 : Nat) : Int) := by omega
  rw [if_pos e1, e2, e3, e4, exE_of hk (by omega) (by omega), exE_of hk (by omega) (by omega), show (4 + (16 * (n - 1) + i) / 4) / 4 - 1 = n - 1 by omega, UInt8.xor_comm]
  by_cases h0 : i = 0
  · subst h0; rw [if_pos rfl]
  · rw [if_neg h0, if_neg h0]
theorem exE_next (hk : key.length = 16) {n i : Nat} (h1 : 1 ≤ n) (h2 : n ≤ 10) (hi : 4 ≤ i) (hi2 : i < 16) : exE key (16 * n + i) = exE key (16 * n + i - 4) ^^^ exE key (16 * (n - 1) + i) := by
  rw [show 16 * n + i = 16 + (16 * (n - 1) + i) by omega, exE_word hk (by omega)]
  unfold wordB
  have e1 : (4 + (16 * (n - 1) + i) / 4) % 4 ≠ 0 := by omega
  have e3 : 4 * ((4 + (16 * (n - 1) + i) / 4 : Nat) : Int) - 16 + (((16 * (n - 1) + i) % 4 : Nat) : Int) = ((16 * (n - 1) + i : Nat) : Int) := by omega
  have e4 : 4 * ((4 + (16 * (n - 1) + i) / 4 : Nat) : Int) - 4 + (((16 * (n - 1) + i) % 4 : Nat) : Int) = ((16 + (16 * (n - 1) + i) - 4 : Nat) : Int) := by omega
  rw [if_neg e1, e3, e4, exE_of hk (by omega) (by omega), exE_of hk (by omega) (by omega), UInt8.xor_comm]
def wv (key : List UInt8) (n i j : Nat) : UInt8 := if i ≤ j then x0 key n j else exE key (16 * n + j + 4 * ((i - 1 - j) / 4))
theorem wv_step (hk : key.length = 16) {n i : Nat} (h1 : 1 ≤ n) (h2 : n ≤ 10) (hi : i < 16) : wv key n i (i % 4) ^^^ exE key (16 * (n - 1) + i) = exE key (16 * n + i) := by
  unfold wv
  by_cases h : i < 4
  · rw [if_pos (by omega), exE_first hk h1 h2 h, show i % 4 = i by omega]
  · rw [if_neg (by omega), exE_next hk h1 h2 (by omega) hi, show 16 * n + i % 4 + 4 * ((i - 1 - i % 4) / 4) = 16 * n + i - 4 by omega]
theorem wv_set {n i : Nat} (hi : i < 16) : ((List.range 4).map (wv key n i)).set (i % 4) (exE key (16 * n + i)) = (List.range 4).map (wv key n (i + 1)) := by
  refine List.ext_getElem (by simp) fun p q1 q2 => ?_
  have hp : p < 4 := by simpa using q2
  rw [List.getElem_set]
  simp only [List.getElem_map, List.getElem_range]
  unfold wv
  by_cases h : i % 4 = p
  · subst h
    rw [if_pos rfl, if_neg (by omega), show 16 * n + i % 4 + 4 * ((i + 1 - 1 - i % 4) / 4) = 16 * n + i by omega]
  · rw [if_neg h]
    by_cases h2 : i ≤ p
    · rw [if_pos h2, if_pos (by omega)]
    · rw [if_neg h2, if_neg (by omega), show (i + 1 - 1 - p) / 4 = (i - 1 - p) / 4 by omega]
/-- The round's key ahead. -/
def ah (key : List UInt8) (m : Nat) : List UInt8 := (List.range 16).map fun i => exE key (16 * m + i)
theorem ah_len (m : Nat) : (ah key m).length = 16 := by simp [ah]
theorem ah_rd (m i : Nat) (h : i < 16) : rd (ah key m) (i : Int) = exE key (16 * m + i) := by
  rw [rd_nat, List.getD_eq_getElem?_getD, List.getElem?_eq_getElem (by simp [ah]; exact h)]
  simp [ah]
theorem w_len (n i : Nat) : ((List.range 4).map (wv key n i)).length = 4 := by simp
theorem w_rd (n i j : Nat) (h : j < 4) : rd ((List.range 4).map (wv key n i)) (j : Int) = wv key n i j := by
  rw [rd_nat, List.getD_eq_getElem?_getD, List.getElem?_eq_getElem (by simp; exact h)]
  simp
theorem w_init (m : Nat) : (List.range 4).map (wv key (m + 1) 0) = [rd boxL ((rd (ah key m) 13).toNat : Int) ^^^ rc m, rd boxL ((rd (ah key m) 14).toNat : Int), rd boxL ((rd (ah key m) 15).toNat : Int), rd boxL ((rd (ah key m) 12).toNat : Int)] := by
  have h3 : rd (ah key m) 13 = exE key (16 * m + 13) := ah_rd m 13 (by omega)
  have h4 : rd (ah key m) 14 = exE key (16 * m + 14) := ah_rd m 14 (by omega)
  have h5 : rd (ah key m) 15 = exE key (16 * m + 15) := ah_rd m 15 (by omega)
  have h2 : rd (ah key m) 12 = exE key (16 * m + 12) := ah_rd m 12 (by omega)
  rw [h2, h3, h4, h5]
  rfl
theorem fill_part (m : Nat) (hm : m < 11) : ((fill (exE key) (List.replicate 176 0) (16 * (m + 1))).drop (16 * m)).take 16 = ah key m := by
  refine List.ext_getElem (by simp [fill, ah]; omega) fun p q1 q2 => ?_
  have hp : p < 16 := by simpa [ah] using q2
  simp only [List.getElem_take, List.getElem_drop, fill, List.getElem_map, List.getElem_range, ah]
  rw [if_pos (by omega)]
theorem keysL_len (hk : key.length = 16) : (keysL key).length = 176 := exW_len hk 160
theorem keysL_eq (hk : key.length = 16) : (List.range 176).map (exE key) = keysL key := by
  refine List.ext_getElem (by simp [keysL_len hk]) fun p q1 q2 => ?_
  simp only [List.getElem_map, List.getElem_range]
  unfold exE
  rw [rd_nat, List.getD_eq_getElem?_getD, List.getElem?_eq_getElem q2]; rfl
theorem fill_first (hk : key.length = 16) : (List.replicate 176 (0 : UInt8)).take 0 ++ key.take 16 ++ (List.replicate 176 (0 : UInt8)).drop (0 + min 16 key.length) = fill (exE key) (List.replicate 176 0) 16 := by
  refine List.ext_getElem (by simp [fill, hk]) fun p q1 q2 => ?_
  have hp : p < 176 := by simpa [fill] using q2
  simp only [fill, List.getElem_map, List.getElem_range, List.take_zero, List.nil_append]
  rw [List.getElem_append]
  by_cases h : p < 16
  · rw [dif_pos (by simp [hk]; exact h), if_pos h, exE_low hk h, rd_nat, List.getD_eq_getElem?_getD, List.getElem?_eq_getElem (by omega)]
    simp
  · have hl : (List.take 16 key).length = 16 := by rw [List.length_take, hk]; rfl
    rw [dif_neg (by omega), if_neg h, List.getElem_drop, List.getElem_replicate, List.getD_eq_getElem?_getD, List.getElem?_eq_getElem (by rw [List.length_replicate]; exact hp), List.getElem_replicate]; rfl
end Go.Proofs.Aes
end
section
set_option linter.unusedVariables false
set_option linter.unusedSimpArgs false
set_option maxHeartbeats 4000000
set_option maxRecDepth 100000
namespace Go.Proofs.Aes
open Go Go.Pv Go.Proofs
variable {Z : Nat → Go.Obj → Prop}
attribute [local irreducible] boxL mulU exE exW x0

theorem keys0 (H : ZC Z) (key : List UInt8) (hk : key.length = 16) (nl ex : Bool) : SE Try.prog Z 24 [.sl nl ex (key.map g8), .cref (boxL.map g8)] [] (ag (keysL key)) [] := by
  refine SE.data H Try.func24 rfl ?_
  repeat' first
    | (show XO _ _ _ (Oper.mk _ _ _ _ _ none :: _) _ _ _; refine X.cpB (o := 0) (fill (exE key) (List.replicate 176 0) 16) rfl rfl rfl (by simp) (fun _ => rfl) (fun _ => rfl) (fill_first hk) ?_)
    | (show XO _ _ _ (Oper.mk (some _) (Op.move _) _ _ _ none :: _) _ _ _; refine X.mv ?_)
    | (show XO _ _ _ (Oper.mk (some _) (Op.assign _) _ _ _ none :: _) _ _ _; refine X.as ?_)
    | (show XO _ _ _ (Oper.mk (some _) (Op.indexAddr _ _ _) _ _ _ none :: _) _ _ _; refine X.go rfl ?_)
    | (show XO _ _ _ (Oper.mk (some _) (_) _ _ _ none :: _) _ _ _; refine X.go rfl ?_)
    | (show XO _ _ _ [] _ _ _; refine X.nil ?_)
    | (show CW _ _ _ _ (Code.seq (Code.region _ _ false) _) _ _ _; refine W.rq ?_)
    | (show CW _ _ _ _ _ _ _ _; first | refine W.bl ?_ | refine W.sq ?_)
    | refine K.nx ?_
  refine W.lqF 2 (fun mz st => ∃ (m : Nat), st.env 0 = .sl nl ex (key.map g8) ∧ st.env 1 = .cref (boxL.map g8) ∧ st.env 4 = .ref 0 0 ∧ st.env 5 = .ref 1 0 ∧ st.env 6 = g8 (rc m) ∧ st.env 7 = .int .i64 ((m : Int) + 1) ∧ st.L = [Go.Pv.Obj.box ((List.replicate 176 (0 : UInt8)).map g8), .box ((fill (exE key) (List.replicate 176 (0 : UInt8)) (16 * (m + 1))).map g8)] ∧ (m ≤ 10) ∧ mz = 10 - m) ?_ ?_
  · refine ⟨_, 0, rfl, rfl, rfl, rfl, rfl, rfl, rfl, ?_, rfl⟩
    omega
  rintro mz env L ⟨m, e0, e1, e4, e5, e6, e7, eL, hI, hm⟩
  dsimp only at e0 e1 e4 e5 e6 e7 eL
  subst eL
  refine W.ev 0 e0 ?_
  refine W.ev 1 e1 ?_
  refine W.ev 4 e4 ?_
  refine W.ev 5 e5 ?_
  refine W.ev 6 e6 ?_
  refine W.ev 7 e7 ?_
  have hfl := fill_len (exE key) (List.replicate 176 (0 : UInt8)) (16 * (m + 1))
  rw [List.length_replicate] at hfl
  by_cases h : m = 10
  · subst h
    repeat' first
      | (show XO _ _ _ (Oper.mk _ _ _ _ _ none :: _) _ _ _; first | refine X.ldW (n := 176) rfl rfl (by simp [fill_len]) ?_ | refine X.stW (n := 176) rfl rfl rfl (by simp [fill_len]) (by simp) (one8 _) ?_)
      | (show XO _ _ _ (Oper.mk (some _) (Op.move _) _ _ _ none :: _) _ _ _; refine X.mv ?_)
      | (show XO _ _ _ (Oper.mk (some _) (_) _ _ _ none :: _) _ _ _; refine X.go rfl ?_)
      | (show XO _ _ _ [] _ _ _; refine X.nil ?_)
      | (show CW _ _ _ _ (Code.seq (Code.region _ _ false) _) _ _ _; refine W.rq ?_)
      | (show CW _ _ _ _ (Code.cond _ _ _) _ _ _; refine W.jpf (by (conv => lhs; whnf) <;> rfl) (by with_reducible rfl) (by first | omega | decide) ?_)
      | (show CW _ _ _ _ _ _ _ _; first | refine W.kr ?_ | refine W.ke ?_ | refine W.sq ?_)
      | (show KO _ _ _ _; first | refine K.sn ?_ | refine K.se ?_ | refine K.be ?_ | refine K.le ?_)
      | refine K.nx ?_
    refine K.fin (resV_cell (n := 176) rfl rfl (by simp [fill_len])) ⟨_, rfl, (frz_agg (map_data g8_data _)).trans ?_⟩
    rw [fill_all _ _ _ (by simp), List.length_replicate, keysL_eq hk]; rfl
  · have ho : (((m : Int) + 1 - 1).toNat * 16) = 16 * m := by omega
    have hal := ah_len (key := key) m
    have hbl := boxL_len
    have b2 := (rd (ah key m) 12).toNat_lt
    have b3 := (rd (ah key m) 13).toNat_lt
    have b4 := (rd (ah key m) 14).toNat_lt
    have b5 := (rd (ah key m) 15).toNat_lt
    repeat' first
      | (show XO _ _ _ (Oper.mk _ _ _ _ _ none :: _) _ _ _; first | refine X.ldQ (n := 16) (o := 16 * m) (ah key m) (by rw [← ho]; rfl) rfl (by rw [fill_len, List.length_replicate]; omega) (fill_part m (by omega)) ?_ | refine X.stW (n := 16) rfl rfl rfl (by simp [ah_len]) (by simp) (one8 _) ?_ | refine X.iaR (n := 11) (sz := 16) rfl rfl (by omega) ?_)
      | (show XO _ _ _ (Oper.mk (some _) (Op.move _) _ _ _ none :: _) _ _ _; refine X.mv ?_)
      | (show XO _ _ _ (Oper.mk (some _) (Op.binOp BinOp.sub _ _ _ _) _ _ _ none :: _) _ _ _; refine X.subI rfl rfl (by omega) ?_)
      | (show XO _ _ _ (Oper.mk (some _) (_) _ _ _ none :: _) _ _ _; refine X.go rfl ?_)
      | (show XO _ _ _ (Oper.mk none _ _ _ _ none :: _) _ _ _; refine X.st rfl ?_)
      | (show XO _ _ _ [] _ _ _; refine X.nil ?_)
      | (show AO _ _ _ (Oper.mk _ _ _ _ _ none :: _) _ _ _; first | refine A.iaR1 (n := 16) rfl rfl (by omega) ?_ | refine A.ldR (g := g8) rfl rfl (by omega) ?_ | refine A.iaC1 (n := 256) rfl rfl (by omega) (by omega) ?_ | refine A.ldC rfl (by omega) ?_ | refine A.xor8 rfl rfl ?_)
      | (show AO _ _ _ (Oper.mk (some _) (Op.move _) _ _ _ none :: _) _ _ _; refine A.mv ?_)
      | (show AO _ _ _ (Oper.mk (some _) (_) _ _ _ none :: _) _ _ _; refine A.go rfl ?_)
      | (show AO _ _ _ [] _ _ _; refine A.nil ?_)
      | (show CW _ _ _ _ (Code.seq (Code.region _ _ false) _) _ _ _; refine W.rq ?_)
      | (show CW _ _ _ _ (Code.seq (Code.region _ _ true) _) _ _ _; refine W.dqP 27 rfl rfl rfl rfl rfl rfl ?_)
      | (show CW _ _ _ _ (Code.cond _ _ _) _ _ _; refine W.jpt (by (conv => lhs; whnf) <;> rfl) (by with_reducible rfl) (by first | omega | decide) ?_)
      | (show CW _ _ _ _ _ _ _ _; first | refine W.kn ?_ | refine W.bl ?_ | refine W.sq ?_)
      | (show KO _ _ _ _; refine K.sn ?_)
      | refine K.nx ?_
      | refine K.dp ?_
    refine W.lq (fun mz st => ∃ (i : Nat), st.env 0 = .sl nl ex (key.map g8) ∧ st.env 1 = .cref (boxL.map g8) ∧ st.env 4 = .ref 0 0 ∧ st.env 5 = .ref 1 0 ∧ st.env 6 = g8 (rc m) ∧ st.env 7 = .int .i64 ((m : Int) + 1) ∧ st.env 8 = .ref 2 0 ∧ st.env 9 = .ref 3 0 ∧ st.env 50 = .int .i64 i ∧ st.L = [Go.Pv.Obj.box ((List.replicate 176 (0 : UInt8)).map g8), .box ((fill (exE key) (List.replicate 176 (0 : UInt8)) (16 * (m + 1) + i)).map g8), .box ((ah key m).map g8), .box (((List.range 4).map (wv key (m + 1) i)).map g8)] ∧ (i ≤ 16) ∧ mz = 16 - i) ?_ ?_
    · refine ⟨_, 0, rfl, rfl, rfl, rfl, rfl, rfl, rfl, rfl, rfl, by rw [w_init]; rfl, ?_, rfl⟩
      omega
    rintro mz env L ⟨i, e0, e1, e4, e5, e6, e7, e8, e9, e50, eL, hi, hm⟩
    dsimp only at e0 e1 e4 e5 e6 e7 e8 e9 e50 eL
    subst eL
    refine W.ev 0 e0 ?_
    refine W.ev 1 e1 ?_
    refine W.ev 4 e4 ?_
    refine W.ev 5 e5 ?_
    refine W.ev 6 e6 ?_
    refine W.ev 7 e7 ?_
    refine W.ev 8 e8 ?_
    refine W.ev 9 e9 ?_
    refine W.ev 50 e50 ?_
    have hwl := w_len (key := key) (m + 1) i
    have hfl2 := fill_len (exE key) (List.replicate 176 (0 : UInt8)) (16 * (m + 1) + i)
    rw [List.length_replicate] at hfl2
    by_cases h16 : i = 16
    · subst h16
      repeat' first
        | (show XO _ _ _ (Oper.mk (some _) (Op.move _) _ _ _ none :: _) _ _ _; refine X.mv ?_)
        | (show XO _ _ _ (Oper.mk (some _) (Op.assign _) _ _ _ none :: _) _ _ _; refine X.as ?_)
        | (show XO _ _ _ (Oper.mk (some _) (Op.call _) _ _ _ none :: _) _ _ _; refine X.call (mul H _ 2 _) ?_)
        | (show XO _ _ _ (Oper.mk (some _) (Op.binOp BinOp.add _ _ _ _) _ _ _ none :: _) _ _ _; refine X.addI rfl rfl (by omega) ?_)
        | (show XO _ _ _ (Oper.mk (some _) (_) _ _ _ none :: _) _ _ _; refine X.go rfl ?_)
        | (show XO _ _ _ [] _ _ _; refine X.nil ?_)
        | (show CW _ _ _ _ (Code.seq (Code.region _ _ false) _) _ _ _; refine W.rq ?_)
        | (show CW _ _ _ _ (Code.region _ _ false) _ _ _; refine W.rz ?_)
        | (show CW _ _ _ _ (Code.cond _ _ _) _ _ _; refine W.jpf (by (conv => lhs; whnf) <;> rfl) (by with_reducible rfl) (by first | omega | decide) ?_)
        | (show CW _ _ _ _ _ _ _ _; first | refine W.ke ?_ | refine W.sq ?_)
        | (show KO _ _ _ _; first | refine K.sn ?_ | refine K.se ?_ | refine K.bn ?_ | refine K.be ?_ | refine K.le ?_)
        | refine K.nx ?_
        | refine K.re ?_
      have hrc : g8 (mulU (rc m) 2) = g8 (rc (m + 1)) := rfl
      refine K.fn _ ?_ [_, _] _ rfl rfl ?_ ⟨m + 1, cutv_sl (map_data g8_data _), cutv_cref (map_data g8_data _), rfl, rfl, hrc, vI (by omega), by rw [show 16 * (m + 1) + 16 = 16 * (m + 1 + 1) by omega], ?_, rfl⟩
      · omega
      · exact obs_cons (ob_box (map_data g8_data _)) (obs_cons (ob_box (map_data g8_data _)) obs_nil)
      · omega
    · have hs1 : rd ((List.range 4).map (wv key (m + 1) i)) ((i : Int) % 4) ^^^ rd (ah key m) (i : Int) = exE key (16 * (m + 1) + i) := by
        rw [show (i : Int) % 4 = ((i % 4 : Nat) : Int) by omega, w_rd _ _ _ (by omega), ah_rd m i (by omega)]
        exact wv_step hk (n := m + 1) (i := i) (by omega) (by omega) (by omega)
      have hs2 : ((List.range 4).map (wv key (m + 1) i)).set ((i : Int) % 4).toNat (exE key (16 * (m + 1) + i)) = (List.range 4).map (wv key (m + 1) (i + 1)) := by
        rw [show ((i : Int) % 4).toNat = i % 4 by omega, wv_set (by omega)]
      have hs3 : rd ((List.range 4).map (wv key (m + 1) (i + 1))) ((i : Int) % 4) = exE key (16 * (m + 1) + i) := by
        rw [show (i : Int) % 4 = ((i % 4 : Nat) : Int) by omega, w_rd _ _ _ (by omega)]
        unfold wv
        rw [if_neg (by omega), show 16 * (m + 1) + i % 4 + 4 * ((i + 1 - 1 - i % 4) / 4) = 16 * (m + 1) + i by omega]
      have hs4 : (fill (exE key) (List.replicate 176 (0 : UInt8)) (16 * (m + 1) + i)).set (((m : Int) + 1) * (16 : Nat) + i).toNat (exE key (16 * (m + 1) + i)) = fill (exE key) (List.replicate 176 0) (16 * (m + 1) + (i + 1)) := fill_set _ _ (16 * (m + 1) + i) _ _ (by omega) rfl
      have hwl2 := w_len (key := key) (m + 1) (i + 1)
      repeat' first
        | (show XO _ _ _ (Oper.mk _ _ _ _ _ none :: _) _ _ _; first | refine X.iaR1 (n := 4) rfl rfl (by omega) ?_ | refine X.iaR2 (n := 16) (o := 16) rfl rfl (by omega) (by omega) ?_ | refine X.xor8 rfl rfl ?_ | refine X.stR (exE key (16 * (m + 1) + i)) (c := (i : Int) % 4) rfl rfl (by rw [← hs1]; rfl) (by omega) ?_ (hL' := by ((try simp only [hs2, List.set_cons_zero, List.set_cons_succ]) <;> rfl)) | refine X.stR (exE key (16 * (m + 1) + i)) (c := ((m : Int) + 1) * (16 : Nat) + i) rfl rfl (by rw [← hs3]; rfl) (by omega) ?_ (hL' := by ((try simp only [hs4, List.set_cons_zero, List.set_cons_succ]) <;> rfl)))
        | (show XO _ _ _ (Oper.mk (some _) (Op.move _) _ _ _ none :: _) _ _ _; refine X.mv ?_)
        | (show XO _ _ _ (Oper.mk (some _) (Op.assign _) _ _ _ none :: _) _ _ _; refine X.as ?_)
        | (show XO _ _ _ (Oper.mk (some _) (Op.binOp BinOp.add _ _ _ _) _ _ _ none :: _) _ _ _; refine X.addI rfl rfl (by omega) ?_)
        | (show XO _ _ _ (Oper.mk (some _) (_) _ _ _ none :: _) _ _ _; refine X.go rfl ?_)
        | (show XO _ _ _ [] _ _ _; refine X.nil ?_)
        | (show AO _ _ _ (Oper.mk _ _ _ _ _ none :: _) _ _ _; first | refine A.iaR1 (n := 4) rfl rfl (by omega) ?_ | refine A.iaR1 (n := 16) rfl rfl (by omega) ?_ | refine A.iaR (n := 11) (sz := 16) rfl rfl (by omega) ?_ | refine A.ldR (g := g8) rfl rfl (by omega) ?_)
        | (show AO _ _ _ (Oper.mk (some _) (Op.move _) _ _ _ none :: _) _ _ _; refine A.mv ?_)
        | (show AO _ _ _ (Oper.mk (some _) (Op.binOp BinOp.rem _ _ _ _) _ _ _ none :: _) _ _ _; refine A.remI rfl rfl (by omega) ?_)
        | (show AO _ _ _ [] _ _ _; refine A.nil ?_)
        | (show CW _ _ _ _ (Code.seq (Code.region _ _ false) _) _ _ _; refine W.rq ?_)
        | (show CW _ _ _ _ (Code.region _ _ false) _ _ _; refine W.rz ?_)
        | (show CW _ _ _ _ (Code.seq (Code.region _ _ true) _) _ _ _; refine W.dq 7 ?_)
        | (show CW _ _ _ _ (Code.region _ _ true) _ _ _; refine W.dz 7 ?_)
        | (show CW _ _ _ _ (Code.cond _ _ _) _ _ _; refine W.jpt (by (conv => lhs; whnf) <;> rfl) (by with_reducible rfl) (by first | omega | decide) ?_)
        | (show CW _ _ _ _ _ _ _ _; first | refine W.kn ?_ | refine W.bl ?_ | refine W.sq ?_)
        | (show KO _ _ _ _; first | refine K.sn ?_ | refine K.bn ?_ | refine K.ln _ ?_ ⟨i + 1, rfl, rfl, rfl, rfl, rfl, rfl, rfl, rfl, vI (by omega), rfl, ?_, rfl⟩)
        | refine K.nx ?_
        | refine K.re ?_
        | refine K.dr ?_
      · omega
      · omega

end Go.Proofs.Aes
end
section
set_option linter.unusedVariables false
set_option linter.unusedSimpArgs false
set_option maxHeartbeats 4000000
set_option maxRecDepth 100000
namespace Go.Proofs.Aes
open Go Go.Pv Go.Proofs
variable {Z : Nat → Go.Obj → Prop}
attribute [local irreducible] boxL mulU exE exW
theorem ag_plain (l : List UInt8) : V.plain (ag l) = true := plain8 l
def blockV (key b : List UInt8) : List UInt8 × Int := if key.length = 16 ∧ b.length = 16 then (lockS (keysL key) b, 0) else ([], 1)
theorem lockS_len (K s : List UInt8) : (lockS K s).length = 16 := lockF_len K s 10
theorem keysB (H : ZC Z) (key : List UInt8) (hk : key.length = 16) (L : List Go.Pv.Obj) (id : Nat) (hL : L[id]? = some (.box (boxL.map g8))) : SE Try.prog Z 24 [gB key, .ref id 0] L (ag (keysL key)) L :=
  SE.borrow (keys0 H key hk false false) (.cons (.same (gB_data _)) (.cons (Bor.ref hL (map_data g8_data _) rfl) .nil)) (ag_plain _)
theorem lockedB (H : ZC Z) (K s : List UInt8) (hK : K.length = 176) (hs : s.length = 16) (L : List Go.Pv.Obj) (i1 i2 : Nat) (h1 : L[i1]? = some (.box (K.map g8))) (h2 : L[i2]? = some (.box (boxL.map g8))) :
    SE Try.prog Z 32 [.ref i1 0, .ref i2 0, ag s] L (ag (lockS K s)) L :=
  SE.borrow (locked0 H K s hK hs) (.cons (Bor.ref h1 (map_data g8_data _) rfl) (.cons (Bor.ref h2 (map_data g8_data _) rfl) (.cons (.same (ag_data _)) .nil))) (ag_plain _)
theorem tw {l : List V} {k : IntKind} {n : Int} {G : Gh} {r : Value} {a b : Bool} (h : VR G (.tup [.sl a b l, .int k n]) r) : VR G (.tup [.sl false false l, .int k n]) r := h.tup2 (fun r h => h.slw) (fun r h => h)
theorem block0 (H : ZC Z) (key b : List UInt8) : SE Try.prog Z 17 [gB key, gB b] [] (.tup [gB (blockV key b).1, .int .i64 (blockV key b).2]) [] := by
  by_cases hkb : key.length = 16 ∧ b.length = 16
  · have hv : blockV key b = (lockS (keysL key) b, 0) := if_pos hkb
    rw [hv]
    obtain ⟨hk, hb⟩ := hkb
    have hKL := keysL_len hk
    have hll := lockS_len (keysL key) b
    refine SE.data H Try.func17 rfl ?_
    repeat' first
      | (show XO _ _ _ (Oper.mk _ _ _ _ _ none :: _) _ _ _; first | refine X.s2a (n := 16) rfl (fun _ => rfl) (by omega) ?_ | refine X.ldZ (n := 16) rfl hb ?_ | refine X.stW (n := 176) rfl rfl rfl (by simp [hKL]) (by simp) (one8 _) ?_ | refine X.stW (n := 16) rfl rfl rfl (by simp [hll]) (by simp) (one8 _) ?_)
      | (show XO _ _ _ (Oper.mk (some _) (Op.move _) _ _ _ none :: _) _ _ _; refine X.mv ?_)
      | (show XO _ _ _ (Oper.mk (some _) (Op.assign _) _ _ _ none :: _) _ _ _; refine X.as ?_)
      | (show XO _ _ _ (Oper.mk (some _) (Op.call (Call.mk (Callee.builtin Builtin.len) _ _)) _ _ _ none :: _) _ _ _; refine X.lnS rfl ?_)
      | (show XO _ _ _ (Oper.mk (some _) (Op.call _) _ _ _ none :: _) _ _ _; first | refine X.call (boxes H _) ?_ | refine X.call (keysB H key hk _ 0 rfl) ?_ | refine X.call (lockedB H (keysL key) b hKL hb _ 1 0 rfl rfl) ?_)
      | (show XO _ _ _ (Oper.mk (some _) (_) _ _ _ none :: _) _ _ _; refine X.go rfl ?_)
      | (show XO _ _ _ (Oper.mk _ _ _ _ _ (some _) :: _) _ _ _; first | refine X.hy rfl (by (conv => lhs; whnf) <;> rfl) (by first | with_reducible rfl | with_reducible exact notT | with_reducible exact notF) ?_ | refine X.hqf rfl (by (conv => lhs; whnf) <;> rfl) (by with_reducible rfl) (by first | omega | decide) ?_)
      | (show XO _ _ _ [] _ _ _; refine X.nil ?_)
      | (show CW _ _ _ _ (Code.seq (Code.region _ _ false) _) _ _ _; refine W.rq ?_)
      | (show CW _ _ _ _ (Code.cond _ _ _) _ _ _; refine W.jqf (by (conv => lhs; whnf) <;> rfl) (by with_reducible rfl) (by first | omega | decide) ?_)
      | (show CW _ _ _ _ _ _ _ _; first | refine W.kr ?_ | refine W.kn ?_ | refine W.sq ?_)
      | (show KO _ _ _ _; refine K.sn ?_)
      | refine K.nx ?_
    refine K.fin rfl ⟨_, rfl, (frz_tup2 (frz_bsl rfl (Nat.zero_le _) (by simp [hll]) (map_data g8_data _)) rfl).trans ?_⟩
    show some (V.tup [.sl false false (((lockS (keysL key) b).map g8).drop 0 |>.take 16), _]) = _
    rw [List.drop_zero, List.take_of_length_le (by simp [hll])]; rfl
  · have hv : blockV key b = ([], 1) := if_neg hkb
    rw [hv]
    refine SE.weak (v := .tup [.sl true true [], .int .i64 1]) ?_ fun G r h => tw h
    refine SE.data H Try.func17 rfl ?_
    repeat' first
      | (show XO _ _ _ (Oper.mk (some _) (Op.move _) _ _ _ none :: _) _ _ _; refine X.mv ?_)
      | (show XO _ _ _ (Oper.mk (some _) (Op.assign _) _ _ _ none :: _) _ _ _; refine X.as ?_)
      | (show XO _ _ _ (Oper.mk (some _) (Op.call (Call.mk (Callee.builtin Builtin.len) _ _)) _ _ _ none :: _) _ _ _; refine X.lnS rfl ?_)
      | (show XO _ _ _ (Oper.mk (some _) (_) _ _ _ none :: _) _ _ _; refine X.go rfl ?_)
      | (show XO _ _ _ (Oper.mk _ _ _ _ _ (some _) :: _) _ _ _; first | refine X.hy rfl (by (conv => lhs; whnf) <;> rfl) (by first | with_reducible rfl | with_reducible exact notT | with_reducible exact notF) ?_ | refine X.hnt rfl (by (conv => lhs; whnf) <;> rfl) (by first | with_reducible rfl | with_reducible exact notT | with_reducible exact notF) ?_ | refine X.hq rfl (by (conv => lhs; whnf) <;> rfl) (by with_reducible rfl) (fun h => ?_) (fun h => ?_))
      | (show XO _ _ _ [] _ _ _; refine X.nil ?_)
      | (show CW _ _ _ _ (Code.seq (Code.region _ _ false) _) _ _ _; refine W.rq ?_)
      | (show CW _ _ _ _ (Code.cond _ _ _) _ _ _; first | refine W.jt (by (conv => lhs; whnf) <;> rfl) (by first | with_reducible rfl | with_reducible exact notT | with_reducible exact notF) ?_ | refine W.jqt (by (conv => lhs; whnf) <;> rfl) (by with_reducible rfl) (by first | omega | decide) ?_)
      | (show CW _ _ _ _ _ _ _ _; first | refine W.kr ?_ | refine W.sq ?_)
      | (show KO _ _ _ _; refine K.sr ?_)
      | refine K.nx ?_
    all_goals first | exact end_data rfl rfl rfl | exact absurd ⟨by omega, by omega⟩ hkb
theorem block (H : ZC Z) (key b : List UInt8) (L : List Go.Pv.Obj) : SE Try.prog Z 17 [gB key, gB b] L (.tup [gB (blockV key b).1, .int .i64 (blockV key b).2]) L :=
  SE.lift (block0 H key b) L (by simp [V.lts, gB_data]) (by simp [V.lt, V.lts, gB_data])
end Go.Proofs.Aes
end
