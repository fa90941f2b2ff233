import Derived.Test.YtfjkplemepcmeaaG10
import Derived.Test.YtfjkplemepcmeaaG3
set_option linter.unusedVariables false
set_option linter.unusedSimpArgs false
set_option linter.unusedSectionVars false
section
set_option linter.unusedVariables false
set_option linter.unusedSimpArgs false
set_option maxHeartbeats 4000000
set_option maxRecDepth 100000
namespace Go.Proofs.Aes
open Go Go.Pv Go.Proofs
variable {Z : Nat → Go.Obj → Prop}
attribute [local irreducible] boxL mulU exE exW
def keysV (key : List UInt8) : List (List UInt8) × Int := if key.length = 16 then ((List.range 11).map (rk (keysL key)), 0) else ([], 1)
def gBs (l : List (List UInt8)) : V := .sl false false (l.map gB)
theorem gBs_data (l : List (List UInt8)) : V.lt 0 (gBs l) = true := map_data gB_data l

theorem keys1 (H : ZC Z) (key : List UInt8) : SE Try.prog Z 10 [gB key] [] (.tup [gBs (keysV key).1, .int .i64 (keysV key).2]) [] := by
  by_cases hk : key.length = 16
  · have hv : keysV key = ((List.range 11).map (rk (keysL key)), 0) := if_pos hk
    rw [hv]
    have hKL := keysL_len hk
    have hks := keysB H key hk
    refine SE.data H Try.func10 rfl ?_
    generalize keysL key = ks at *
    repeat' first
      | (show XO _ _ _ (Oper.mk (some _) (Op.move _) _ _ _ none :: _) _ _ _; refine X.mv ?_)
      | (show XO _ _ _ (Oper.mk (some _) (Op.assign _) _ _ _ none :: _) _ _ _; refine X.as ?_)
      | (show XO _ _ _ (Oper.mk (some _) (Op.call (Call.mk (Callee.builtin Builtin.len) _ _)) _ _ _ none :: _) _ _ _; refine X.lnS rfl ?_)
      | (show XO _ _ _ (Oper.mk (some _) (Op.call _) _ _ _ none :: _) _ _ _; first | refine X.call (boxes H _) ?_ | refine X.call (hks _ 0 rfl) ?_)
      | (show XO _ _ _ (Oper.mk (some _) (_) _ _ _ none :: _) _ _ _; refine X.go rfl ?_)
      | (show XO _ _ _ [] _ _ _; refine X.nil ?_)
      | (show CW _ _ _ _ (Code.seq (Code.region _ _ false) _) _ _ _; refine W.rq ?_)
      | (show CW _ _ _ _ (Code.cond _ _ _) _ _ _; refine W.jqf (by (conv => lhs; whnf) <;> rfl) (by with_reducible rfl) (by first | omega | decide) ?_)
      | (show CW _ _ _ _ _ _ _ _; first | refine W.kn ?_ | refine W.bl ?_ | refine W.sq ?_)
      | (show KO _ _ _ _; refine K.sn ?_)
      | refine K.nx ?_
    refine W.ghost 4 1 rfl ?_
    refine W.lqF 2 (fun mz st => ∃ (n : Nat), st.env 4 = .own 1 0 (((List.range n).map (rk ks)).map gB).length (((List.range n).map (rk ks)).map gB).length ∧ st.env 12 = ag ks ∧ st.env 13 = .int .i64 n ∧ st.L = [Go.Pv.Obj.box (boxL.map g8), .buf 1 0 (((List.range n).map (rk ks)).map gB)] ∧ (n ≤ 11) ∧ mz = 11 - n) ?_ ?_
    · refine ⟨_, 0, rfl, rfl, rfl, rfl, ?_, rfl⟩
      omega
    rintro mz env L ⟨n, e4, e12, e13, eL, hI, hm⟩
    dsimp only at e4 e12 e13 eL
    subst eL
    refine W.ev 4 e4 ?_
    refine W.ev 12 e12 ?_
    refine W.ev 13 e13 ?_
    by_cases h : n = 11
    · subst h
      repeat' first
        | (show XO _ _ _ (Oper.mk (some _) (Op.move _) _ _ _ none :: _) _ _ _; refine X.mv ?_)
        | (show XO _ _ _ (Oper.mk (some _) (Op.assign _) _ _ _ none :: _) _ _ _; refine X.as ?_)
        | (show XO _ _ _ (Oper.mk (some _) (_) _ _ _ none :: _) _ _ _; refine X.go rfl ?_)
        | (show XO _ _ _ [] _ _ _; refine X.nil ?_)
        | (show CW _ _ _ _ (Code.seq (Code.region _ _ false) _) _ _ _; refine W.rq ?_)
        | (show CW _ _ _ _ (Code.cond _ _ _) _ _ _; refine W.jpf (by (conv => lhs; whnf) <;> rfl) (by with_reducible rfl) (by first | omega | decide) ?_)
        | (show CW _ _ _ _ _ _ _ _; first | refine W.kr ?_ | refine W.ke ?_ | refine W.sq ?_)
        | (show KO _ _ _ _; first | refine K.sn ?_ | refine K.se ?_ | refine K.be ?_ | refine K.le ?_)
        | refine K.nx ?_
      refine K.fin rfl ⟨_, rfl, (frz_tup2 (frz_own rfl (Nat.zero_le _) (map_data gB_data _)) rfl).trans ?_⟩
      rfl
    · have ow : (List.range (n + 1)).map (rk ks) = (List.range n).map (rk ks) ++ [rk ks n] := by rw [List.range_succ, List.map_append]; rfl
      have hr := rk_len hKL (n := n) (by omega)
      have hrk : (ks.drop ((n : Int).toNat * 16)).take 16 = rk ks n := rfl
      repeat' first
        | (show XO _ _ _ (Oper.mk _ _ _ _ _ none :: _) _ _ _; first | refine X.ixS (n := 11) (sz := 16) rfl rfl (by omega) (by omega) ?_ | refine X.stW (n := 16) rfl rfl rfl (by rw [hrk]; simp [hr]) (by simp) (one8 _) ?_ | refine X.apF0 (g := g8) (rk ks n) rfl (elems_bslA (len := 16) rfl hr) (fun _ => rfl) (fun _ => rfl) (by omega) ?_ | refine X.ap1 (g := gB) (rk ks n) rfl rfl rfl (by rw [List.length_map, List.length_range]; omega) ?_)
        | (show XO _ _ _ (Oper.mk (some _) (Op.move _) _ _ _ none :: _) _ _ _; refine X.mv ?_)
        | (show XO _ _ _ (Oper.mk (some _) (Op.assign _) _ _ _ none :: _) _ _ _; refine X.as ?_)
        | (show XO _ _ _ (Oper.mk (some _) (Op.binOp BinOp.add _ _ _ _) _ _ _ none :: _) _ _ _; refine X.addI rfl rfl (by omega) ?_)
        | (show XO _ _ _ (Oper.mk (some _) (Op.buildSlice _ _ _) _ _ _ none :: _) _ _ _; first | refine X.bs0 ?_ | refine X.bs1 (by (conv => lhs; whnf) <;> rfl) ?_)
        | (show XO _ _ _ (Oper.mk (some _) (_) _ _ _ none :: _) _ _ _; refine X.go rfl ?_)
        | (show XO _ _ _ [] _ _ _; refine X.nil ?_)
        | (show CW _ _ _ _ (Code.seq (Code.region _ _ false) _) _ _ _; refine W.rq ?_)
        | (show CW _ _ _ _ (Code.region _ _ false) _ _ _; refine W.rz ?_)
        | (show CW _ _ _ _ (Code.cond _ _ _) _ _ _; refine W.jpt (by (conv => lhs; whnf) <;> rfl) (by with_reducible rfl) (by first | omega | decide) ?_)
        | (show CW _ _ _ _ _ _ _ _; first | refine W.kn ?_ | refine W.bl ?_ | refine W.sq ?_)
        | (show KO _ _ _ _; first | refine K.sn ?_ | refine K.bn ?_ | refine K.fn _ ?_ [_, _] _ rfl rfl (by repeat' first | exact obs_nil | refine obs_cons ?_ ?_ | exact ob_box (map_data g8_data _) | exact ob_buf (map_data gB_data _)) ⟨n + 1, by rw [ow]; rfl, cutv_data (ag_plain _), vI (by omega), by rw [ow], ?_, rfl⟩)
        | refine K.nx ?_
        | refine K.re ?_
      · omega
      · omega
  · have hv : keysV key = ([], 1) := if_neg hk
    rw [hv]
    refine SE.weak (v := .tup [.sl true true [], .int .i64 1]) ?_ fun G r h => tw h
    refine SE.data H Try.func10 rfl ?_
    repeat' first
      | (show XO _ _ _ (Oper.mk (some _) (Op.move _) _ _ _ none :: _) _ _ _; refine X.mv ?_)
      | (show XO _ _ _ (Oper.mk (some _) (Op.assign _) _ _ _ none :: _) _ _ _; refine X.as ?_)
      | (show XO _ _ _ (Oper.mk (some _) (Op.call (Call.mk (Callee.builtin Builtin.len) _ _)) _ _ _ none :: _) _ _ _; refine X.lnS rfl ?_)
      | (show XO _ _ _ (Oper.mk (some _) (_) _ _ _ none :: _) _ _ _; refine X.go rfl ?_)
      | (show XO _ _ _ [] _ _ _; refine X.nil ?_)
      | (show CW _ _ _ _ (Code.seq (Code.region _ _ false) _) _ _ _; refine W.rq ?_)
      | (show CW _ _ _ _ (Code.cond _ _ _) _ _ _; refine W.jqt (by (conv => lhs; whnf) <;> rfl) (by with_reducible rfl) (by first | omega | decide) ?_)
      | (show CW _ _ _ _ _ _ _ _; first | refine W.kr ?_ | refine W.sq ?_)
      | (show KO _ _ _ _; refine K.sr ?_)
      | refine K.nx ?_
    exact end_data rfl rfl rfl
theorem keys (H : ZC Z) (key : List UInt8) (L : List Go.Pv.Obj) : SE Try.prog Z 10 [gB key] L (.tup [gBs (keysV key).1, .int .i64 (keysV key).2]) L :=
  SE.lift (keys1 H key) L (by simp [V.lts, gB_data]) (by simp [V.lt, V.lts, gBs_data])
end Go.Proofs.Aes
end
section
set_option linter.unusedVariables false
set_option linter.unusedSimpArgs false
set_option maxHeartbeats 4000000
set_option maxRecDepth 100000
namespace Go.Proofs.Aes
open Go Go.Pv Go.Proofs
variable {Z : Nat → Go.Obj → Prop}
def numB (n w i : Nat) : UInt8 := UInt8.ofNat (n / 256 ^ (w - 1 - i))
def numL (n w : Nat) : List UInt8 := (List.range w).map (numB n w)
theorem numL_len (n w : Nat) : (numL n w).length = w := by simp [numL]
theorem shr_num (n k : Nat) (hk : k ≤ 7) : ((n : Nat) : Int).fdiv (2 ^ min (8 * (k : Int)).toNat IntKind.i64.bits) = ((n / 256 ^ k : Nat) : Int) := by
  have h1 : min (8 * (k : Int)).toNat IntKind.i64.bits = 8 * k := by
    have : (8 * (k : Int)).toNat = 8 * k := by omega
    rw [this]; exact Nat.min_eq_left (by show 8 * k ≤ 64; omega)
  have h2 : (2 : Int) ^ (8 * k) = ((256 ^ k : Nat) : Int) := by
    rw [show (256 : Nat) = 2 ^ 8 by rfl, ← Nat.pow_mul, Int.natCast_pow]; rfl
  rw [h1, h2, Int.fdiv_eq_ediv_of_nonneg _ (Int.natCast_nonneg _)]
  rfl
theorem cv_num (n k : Nat) : IntKind.u8.wrap ((n / 256 ^ k : Nat) : Int) = ((UInt8.ofNat (n / 256 ^ k)).toNat : Int) := by
  have e1 : (2 ^ IntKind.u8.bits : Int) = 256 := by decide
  have e2 : IntKind.u8.signed = false := rfl
  simp [IntKind.wrap, e1, e2]

theorem num0 (H : ZC Z) (n w : Nat) (hw : 1 ≤ w) (hw7 : w ≤ 7) (hn : n < 256 ^ w) (hn2 : n < 65536) : SE Try.prog Z 34 [.int .i64 n, .int .i64 w] [] (.tup [gB (numL n w), .int .i64 0]) [] := by
  have hs : ((n : Nat) : Int).fdiv (2 ^ min (8 * (w : Int)).toNat IntKind.i64.bits) = 0 := by
    rw [shr_num n w hw7, Nat.div_eq_of_lt hn]; rfl
  refine SE.data H Try.func34 rfl ?_
  repeat' first
    | (show XO _ _ _ (Oper.mk _ _ _ _ _ none :: _) _ _ _; first | refine X.mk (g := g8) 0 w rfl rfl (by omega) ?_ | refine X.lnN rfl ?_)
    | (show XO _ _ _ (Oper.mk (some _) (Op.move _) _ _ _ none :: _) _ _ _; refine X.mv ?_)
    | (show XO _ _ _ (Oper.mk (some _) (Op.assign _) _ _ _ none :: _) _ _ _; refine X.as ?_)
    | (show XO _ _ _ (Oper.mk (some _) (Op.binOp BinOp.mul _ _ _ _) _ _ _ none :: _) _ _ _; refine X.mulI rfl rfl (by omega) ?_)
    | (show XO _ _ _ (Oper.mk (some _) (_) _ _ _ none :: _) _ _ _; refine X.go rfl ?_)
    | (show XO _ _ _ (Oper.mk _ _ _ _ _ (some _) :: _) _ _ _; first | refine X.hy rfl (by (conv => lhs; whnf) <;> rfl) (by first | with_reducible rfl | with_reducible exact notT | with_reducible exact notF) ?_ | refine X.hpf rfl (by (conv => lhs; whnf) <;> rfl) (by with_reducible rfl) (by first | omega | decide | (rw [hs]; decide)) ?_)
    | (show XO _ _ _ [] _ _ _; refine X.nil ?_)
    | (show CW _ _ _ _ (Code.seq (Code.region _ _ false) _) _ _ _; refine W.rq ?_)
    | (show CW _ _ _ _ (Code.cond _ _ _) _ _ _; refine W.jpf (by (conv => lhs; whnf) <;> rfl) (by with_reducible rfl) (by first | omega | decide | (rw [hs]; decide)) ?_)
    | (show CW _ _ _ _ _ _ _ _; first | refine W.kn ?_ | refine W.bl ?_ | refine W.sq ?_)
    | (show KO _ _ _ _; refine K.sn ?_)
    | refine K.nx ?_
  refine W.lq (fun mz st => ∃ (i : Nat), st.env 0 = .int .i64 n ∧ st.env 1 = .int .i64 w ∧ st.env 6 = .own 0 0 w w ∧ st.env 28 = .int .i64 w ∧ st.env 29 = .int .i64 i ∧ st.L = [Go.Pv.Obj.buf 1 0 ((fill (numB n w) (List.replicate w 0) i).map g8)] ∧ (i ≤ w) ∧ mz = w - i) ?_ ?_
  · refine ⟨_, 0, rfl, rfl, rfl, rfl, rfl, by rw [fill_zero]; rfl, ?_, rfl⟩
    omega
  rintro mz env L ⟨i, e0, e1, e6, e28, e29, eL, hI, hm⟩
  dsimp only at e0 e1 e6 e28 e29 eL
  subst eL
  refine W.ev 0 e0 ?_
  refine W.ev 1 e1 ?_
  refine W.ev 6 e6 ?_
  refine W.ev 28 e28 ?_
  refine W.ev 29 e29 ?_
  have hfl := fill_len (numB n w) (List.replicate w (0 : UInt8)) i
  rw [List.length_replicate] at hfl
  by_cases h : i = w
  · subst h
    repeat' first
      | (show XO _ _ _ (Oper.mk (some _) (Op.move _) _ _ _ none :: _) _ _ _; refine X.mv ?_)
      | (show XO _ _ _ (Oper.mk (some _) (Op.assign _) _ _ _ none :: _) _ _ _; refine X.as ?_)
      | (show XO _ _ _ (Oper.mk (some _) (_) _ _ _ none :: _) _ _ _; refine X.go rfl ?_)
      | (show XO _ _ _ [] _ _ _; refine X.nil ?_)
      | (show CW _ _ _ _ (Code.seq (Code.region _ _ false) _) _ _ _; refine W.rq ?_)
      | (show CW _ _ _ _ (Code.cond _ _ _) _ _ _; refine W.jpf (by (conv => lhs; whnf) <;> rfl) (by with_reducible rfl) (by first | omega | decide) ?_)
      | (show CW _ _ _ _ _ _ _ _; first | refine W.kr ?_ | refine W.ke ?_ | refine W.sq ?_)
      | (show KO _ _ _ _; first | refine K.sn ?_ | refine K.se ?_ | refine K.be ?_ | refine K.le ?_)
      | refine K.nx ?_
    refine K.fin rfl ⟨_, rfl, (frz_tup2 (frz_ownN rfl (Nat.zero_le _) hfl (map_data g8_data _)) rfl).trans ?_⟩
    rw [fill_all _ _ _ (by simp), List.length_replicate]; rfl
  · have hk : 8 * ((w : Int) - 1 - (i : Int)) = 8 * ((w - 1 - i : Nat) : Int) := by omega
    have hv : IntKind.u8.wrap (((n : Nat) : Int).fdiv (2 ^ min (8 * ((w : Int) - 1 - (i : Int))).toNat IntKind.i64.bits)) = ((numB n w i).toNat : Int) := by
      rw [hk, shr_num n _ (by omega)]; exact cv_num n _
    repeat' first
      | (show XO _ _ _ (Oper.mk _ _ _ _ _ none :: _) _ _ _; first | refine X.iaN rfl rfl (by omega) rfl hfl ?_ | refine X.stN (numB n w i) rfl rfl (vI hv) (by omega) hfl (fun _ => rfl) ?_)
      | (show XO _ _ _ (Oper.mk (some _) (Op.move _) _ _ _ none :: _) _ _ _; refine X.mv ?_)
      | (show XO _ _ _ (Oper.mk (some _) (Op.assign _) _ _ _ none :: _) _ _ _; refine X.as ?_)
      | (show XO _ _ _ (Oper.mk (some _) (Op.binOp BinOp.add _ _ _ _) _ _ _ none :: _) _ _ _; refine X.addI rfl rfl (by omega) ?_)
      | (show XO _ _ _ (Oper.mk (some _) (Op.binOp BinOp.sub _ _ _ _) _ _ _ none :: _) _ _ _; refine X.subI rfl rfl (by omega) ?_)
      | (show XO _ _ _ (Oper.mk (some _) (Op.binOp BinOp.mul _ _ _ _) _ _ _ none :: _) _ _ _; refine X.mulI rfl rfl (by omega) ?_)
      | (show XO _ _ _ (Oper.mk (some _) (Op.convert _ _ _) _ _ _ none :: _) _ _ _; refine X.go rfl ?_)
      | (show XO _ _ _ (Oper.mk (some _) (_) _ _ _ none :: _) _ _ _; first | refine X.go rfl ?_ | refine X.shr rfl rfl (by first | omega | exact Int.natCast_nonneg _) ?_)
      | (show XO _ _ _ [] _ _ _; refine X.nil ?_)
      | (show CW _ _ _ _ (Code.seq (Code.region _ _ false) _) _ _ _; refine W.rq ?_)
      | (show CW _ _ _ _ (Code.region _ _ false) _ _ _; refine W.rz ?_)
      | (show CW _ _ _ _ (Code.cond _ _ _) _ _ _; refine W.jpt (by (conv => lhs; whnf) <;> rfl) (by with_reducible rfl) (by first | omega | decide) ?_)
      | (show CW _ _ _ _ _ _ _ _; first | refine W.kn ?_ | refine W.bl ?_ | refine W.sq ?_)
      | (show KO _ _ _ _; first | refine K.sn ?_ | refine K.bn ?_ | refine K.ln _ ?_ ⟨i + 1, rfl, rfl, rfl, rfl, vI (by omega), by rw [fill_set _ _ _ _ _ rfl rfl], ?_, rfl⟩)
      | refine K.nx ?_
      | refine K.re ?_
    · omega
    · omega
theorem num (H : ZC Z) (n w : Nat) (hw : 1 ≤ w) (hw7 : w ≤ 7) (hn : n < 256 ^ w) (hn2 : n < 65536) (L : List Go.Pv.Obj) : SE Try.prog Z 34 [.int .i64 n, .int .i64 w] L (.tup [gB (numL n w), .int .i64 0]) L :=
  SE.lift (num0 H n w hw hw7 hn hn2) L rfl (by simp [V.lt, V.lts, gB_data])
end Go.Proofs.Aes
end
section
set_option linter.unusedVariables false
set_option linter.unusedSimpArgs false
set_option maxHeartbeats 4000000
set_option maxRecDepth 100000
namespace Go.Proofs.Aes
open Go Go.Pv Go.Proofs
variable {Z : Nat → Go.Obj → Prop}
attribute [local irreducible] boxL mulU exE exW lockS numL
def streamB (ks nonce b : List UInt8) (q : Nat) : UInt8 := rd b (q : Int) ^^^ rd (lockS ks (nonce ++ numL (q / 16 + 1) 4)) ((q % 16 : Nat) : Int)
def streamL (ks nonce b : List UInt8) : List UInt8 := (List.range b.length).map (streamB ks nonce b)
def streamV (key nonce b : List UInt8) : List UInt8 × Int := if key.length = 16 ∧ nonce.length = 12 then (streamL (keysL key) nonce b, 0) else ([], 1)
theorem cp1 {nonce : List UInt8} (h : nonce.length = 12) : (List.replicate 16 (0 : UInt8)).take 0 ++ nonce.take 16 ++ (List.replicate 16 (0 : UInt8)).drop (0 + min 16 nonce.length) = nonce ++ List.replicate 4 0 := by
  rw [List.take_zero, List.nil_append, List.take_of_length_le (by omega), h]; rfl
theorem cp2 {nonce c : List UInt8} (h : nonce.length = 12) (hc : c.length = 4) : (nonce ++ List.replicate 4 (0 : UInt8)).take 12 ++ c.take 4 ++ (nonce ++ List.replicate 4 (0 : UInt8)).drop (12 + min 4 c.length) = nonce ++ c := by
  rw [List.take_append_of_le_length (by omega), List.take_of_length_le (by omega), List.take_of_length_le (by omega), hc, List.drop_of_length_le (by simp [h]), List.append_nil]

theorem stream0 (H : ZC Z) (key nonce b : List UInt8) (hb : b.length ≤ 300) : SE Try.prog Z 19 [gB key, gB nonce, gB b] [] (.tup [gB (streamV key nonce b).1, .int .i64 (streamV key nonce b).2]) [] := by
  by_cases hkn : key.length = 16 ∧ nonce.length = 12
  · have hv : streamV key nonce b = (streamL (keysL key) nonce b, 0) := if_pos hkn
    rw [hv]
    obtain ⟨hk, hn⟩ := hkn
    have hKL := keysL_len hk
    have hks := keysB H key hk
    refine SE.data H Try.func19 rfl ?_
    generalize keysL key = ks at *
    repeat' first
      | (show XO _ _ _ (Oper.mk _ _ _ _ _ none :: _) _ _ _; first | refine X.stW (n := 176) rfl rfl rfl (by simp [hKL]) (by simp) (one8 _) ?_ | refine X.mk (g := g8) 0 b.length rfl rfl (by omega) ?_)
      | (show XO _ _ _ (Oper.mk (some _) (Op.move _) _ _ _ none :: _) _ _ _; refine X.mv ?_)
      | (show XO _ _ _ (Oper.mk (some _) (Op.assign _) _ _ _ none :: _) _ _ _; refine X.as ?_)
      | (show XO _ _ _ (Oper.mk (some _) (Op.call (Call.mk (Callee.builtin Builtin.len) _ _)) _ _ _ none :: _) _ _ _; refine X.lnS rfl ?_)
      | (show XO _ _ _ (Oper.mk (some _) (Op.call _) _ _ _ none :: _) _ _ _; first | refine X.call (boxes H _) ?_ | refine X.call (hks _ 0 rfl) ?_)
      | (show XO _ _ _ (Oper.mk (some _) (_) _ _ _ none :: _) _ _ _; refine X.go rfl ?_)
      | (show XO _ _ _ (Oper.mk _ _ _ _ _ (some _) :: _) _ _ _; first | refine X.hy rfl (by (conv => lhs; whnf) <;> rfl) (by first | with_reducible rfl | with_reducible exact notT | with_reducible exact notF) ?_ | refine X.hqf rfl (by (conv => lhs; whnf) <;> rfl) (by with_reducible rfl) (by first | omega | decide) ?_)
      | (show XO _ _ _ [] _ _ _; refine X.nil ?_)
      | (show CW _ _ _ _ (Code.seq (Code.region _ _ false) _) _ _ _; refine W.rq ?_)
      | (show CW _ _ _ _ (Code.cond _ _ _) _ _ _; refine W.jqf (by (conv => lhs; whnf) <;> rfl) (by with_reducible rfl) (by first | omega | decide) ?_)
      | (show CW _ _ _ _ _ _ _ _; first | refine W.kn ?_ | refine W.bl ?_ | refine W.sq ?_)
      | (show KO _ _ _ _; refine K.sn ?_)
      | refine K.nx ?_
    refine W.lqF 3 (fun mz st => ∃ (j : Nat), st.env 1 = gB nonce ∧ st.env 2 = gB b ∧ st.env 8 = .ref 0 0 ∧ st.env 9 = .ref 1 0 ∧ st.env 10 = .own 2 0 b.length b.length ∧ st.env 11 = .int .i64 (16 * (j : Int)) ∧ st.L = [Go.Pv.Obj.box (boxL.map g8), .box (ks.map g8), .buf 1 0 ((fill (streamB ks nonce b) (List.replicate b.length 0) (min (16 * j) b.length)).map g8)] ∧ (16 * j ≤ b.length + 15) ∧ mz = b.length + 16 - 16 * j) ?_ ?_
    · refine ⟨_, 0, rfl, rfl, rfl, rfl, rfl, rfl, by rw [show min (16 * 0) b.length = 0 by omega, fill_zero]; rfl, ?_, rfl⟩
      omega
    rintro mz env L ⟨j, e1, e2, e8, e9, e10, e11, eL, hI, hm⟩
    dsimp only at e1 e2 e8 e9 e10 e11 eL
    subst eL
    refine W.ev 1 e1 ?_
    refine W.ev 2 e2 ?_
    refine W.ev 8 e8 ?_
    refine W.ev 9 e9 ?_
    refine W.ev 10 e10 ?_
    refine W.ev 11 e11 ?_
    by_cases hend : b.length ≤ 16 * j
    · have hmin : min (16 * j) b.length = b.length := by omega
      repeat' first
        | (show XO _ _ _ (Oper.mk (some _) (Op.move _) _ _ _ none :: _) _ _ _; refine X.mv ?_)
        | (show XO _ _ _ (Oper.mk (some _) (Op.assign _) _ _ _ none :: _) _ _ _; refine X.as ?_)
        | (show XO _ _ _ (Oper.mk (some _) (Op.call (Call.mk (Callee.builtin Builtin.len) _ _)) _ _ _ none :: _) _ _ _; refine X.lnS rfl ?_)
        | (show XO _ _ _ (Oper.mk (some _) (_) _ _ _ none :: _) _ _ _; refine X.go rfl ?_)
        | (show XO _ _ _ [] _ _ _; refine X.nil ?_)
        | (show CW _ _ _ _ (Code.seq (Code.region _ _ false) _) _ _ _; refine W.rq ?_)
        | (show CW _ _ _ _ (Code.cond _ _ _) _ _ _; refine W.jpf (by (conv => lhs; whnf) <;> rfl) (by with_reducible rfl) (by first | omega | decide) ?_)
        | (show CW _ _ _ _ _ _ _ _; first | refine W.kr ?_ | refine W.ke ?_ | refine W.sq ?_)
        | (show KO _ _ _ _; first | refine K.sn ?_ | refine K.se ?_ | refine K.be ?_ | refine K.le ?_)
        | refine K.nx ?_
      refine K.fin rfl ⟨_, rfl, (frz_tup2 (frz_ownN rfl (Nat.zero_le _) (by rw [fill_len, List.length_replicate]) (map_data g8_data _)) rfl).trans ?_⟩
      rw [hmin, fill_all _ _ _ (by simp), List.length_replicate]; rfl
    · have hg1 : 16 * (j + 1) ≤ b.length + 15 := by omega
      have hg2 : b.length + 16 - 16 * (j + 1) < mz := by omega
      have hnum := num H (j + 1) 4 (by omega) (by omega) (by omega) (by omega)
      rw [show ((j + 1 : Nat) : Int) = 16 * (j : Int) / 16 + 1 by omega] at hnum
      have hnl := numL_len (j + 1) 4
      have hsl : (nonce ++ numL (j + 1) 4).length = 16 := by rw [List.length_append, hn, hnl]
      have hlk := lockedB H ks (nonce ++ numL (j + 1) 4) hKL hsl
      have hll := lockS_len ks (nonce ++ numL (j + 1) 4)
      repeat' first
        | (show XO _ _ _ (Oper.mk _ _ _ _ _ none :: _) _ _ _; first | refine X.cpB (o := 0) (len := 16) (nonce ++ List.replicate 4 0) rfl rfl rfl (by simp) (fun _ => rfl) (fun _ => rfl) (cp1 hn) ?_ | refine X.cpB (o := 12) (len := 4) (nonce ++ numL (j + 1) 4) rfl rfl rfl (by simp [hn]) (fun _ => rfl) (fun _ => rfl) (cp2 hn hnl) ?_ | refine X.ldW (n := 16) rfl rfl (by simp [hn, hnl]) ?_ | refine X.stW (n := 16) rfl rfl rfl (by simp [hll]) (by simp [hn, hnl]) (one8 _) ?_)
        | (show XO _ _ _ (Oper.mk (some _) (Op.move _) _ _ _ none :: _) _ _ _; refine X.mv ?_)
        | (show XO _ _ _ (Oper.mk (some _) (Op.assign _) _ _ _ none :: _) _ _ _; refine X.as ?_)
        | (show XO _ _ _ (Oper.mk (some _) (Op.call (Call.mk (Callee.builtin Builtin.len) _ _)) _ _ _ none :: _) _ _ _; refine X.lnS rfl ?_)
        | (show XO _ _ _ (Oper.mk (some _) (Op.call _) _ _ _ none :: _) _ _ _; first | refine X.call (hnum _) ?_ | refine X.call (hlk _ 1 0 rfl rfl) ?_)
        | (show XO _ _ _ (Oper.mk (some _) (Op.binOp BinOp.add _ _ _ _) _ _ _ none :: _) _ _ _; refine X.addI rfl rfl (by omega) ?_)
        | (show XO _ _ _ (Oper.mk (some _) (Op.binOp BinOp.quo _ _ _ _) _ _ _ none :: _) _ _ _; refine X.quoI rfl rfl (by omega) ?_)
        | (show XO _ _ _ (Oper.mk (some _) (_) _ _ _ none :: _) _ _ _; refine X.go rfl ?_)
        | (show XO _ _ _ [] _ _ _; refine X.nil ?_)
        | (show CW _ _ _ _ (Code.seq (Code.region _ _ false) _) _ _ _; refine W.rq ?_)
        | (show CW _ _ _ _ (Code.cond _ _ _) _ _ _; refine W.jpt (by (conv => lhs; whnf) <;> rfl) (by with_reducible rfl) (by first | omega | decide) ?_)
        | (show CW _ _ _ _ _ _ _ _; first | refine W.kn ?_ | refine W.bl ?_ | refine W.sq ?_)
        | (show KO _ _ _ _; refine K.sn ?_)
        | refine K.nx ?_
      refine W.lq (fun mz st => ∃ (i : Nat), st.env 1 = gB nonce ∧ st.env 2 = gB b ∧ st.env 8 = .ref 0 0 ∧ st.env 9 = .ref 1 0 ∧ st.env 10 = .own 2 0 b.length b.length ∧ st.env 11 = .int .i64 (16 * (j : Int)) ∧ st.env 12 = .ref 3 0 ∧ st.env 15 = .int .i64 i ∧ st.L = [Go.Pv.Obj.box (boxL.map g8), .box (ks.map g8), .buf 1 0 ((fill (streamB ks nonce b) (List.replicate b.length 0) i).map g8), .box ((lockS ks (nonce ++ numL (j + 1) 4)).map g8)] ∧ (16 * j ≤ i ∧ i ≤ 16 * j + 16 ∧ i ≤ b.length) ∧ mz = b.length - i) ?_ ?_
      · refine ⟨_, 16 * j, rfl, rfl, rfl, rfl, rfl, rfl, rfl, vI (by omega), by rw [show min (16 * j) b.length = 16 * j by omega]; rfl, ?_, rfl⟩
        omega
      rintro mz env L ⟨i, e1, e2, e8, e9, e10, e11, e12, e15, eL, hi, hm⟩
      dsimp only at e1 e2 e8 e9 e10 e11 e12 e15 eL
      subst eL
      refine W.ev 1 e1 ?_
      refine W.ev 2 e2 ?_
      refine W.ev 8 e8 ?_
      refine W.ev 9 e9 ?_
      refine W.ev 10 e10 ?_
      refine W.ev 11 e11 ?_
      refine W.ev 12 e12 ?_
      refine W.ev 15 e15 ?_
      obtain ⟨i1, i2, i3⟩ := hi
      have hfl := fill_len (streamB ks nonce b) (List.replicate b.length (0 : UInt8)) i
      rw [List.length_replicate] at hfl
      by_cases hd : i = 16 * j + 16 ∨ i = b.length
      · have hmn : min (16 * (j + 1)) b.length = i := by omega
        repeat' first
          | (show XO _ _ _ (Oper.mk (some _) (Op.move _) _ _ _ none :: _) _ _ _; refine X.mv ?_)
          | (show XO _ _ _ (Oper.mk (some _) (Op.assign _) _ _ _ none :: _) _ _ _; refine X.as ?_)
          | (show XO _ _ _ (Oper.mk (some _) (Op.call (Call.mk (Callee.builtin Builtin.len) _ _)) _ _ _ none :: _) _ _ _; refine X.lnS rfl ?_)
          | (show XO _ _ _ (Oper.mk (some _) (Op.call (Call.mk (Callee.builtin Builtin.min) _ _)) _ _ _ none :: _) _ _ _; refine X.min2 rfl rfl ?_)
          | (show XO _ _ _ (Oper.mk (some _) (Op.binOp BinOp.add _ _ _ _) _ _ _ none :: _) _ _ _; refine X.addI rfl rfl (by omega) ?_)
          | (show XO _ _ _ (Oper.mk (some _) (_) _ _ _ none :: _) _ _ _; refine X.go rfl ?_)
          | (show XO _ _ _ [] _ _ _; refine X.nil ?_)
          | (show CW _ _ _ _ (Code.seq (Code.region _ _ false) _) _ _ _; refine W.rq ?_)
          | (show CW _ _ _ _ (Code.region _ _ false) _ _ _; refine W.rz ?_)
          | (show CW _ _ _ _ (Code.cond _ _ _) _ _ _; refine W.jpf (by (conv => lhs; whnf) <;> rfl) (by with_reducible rfl) (by first | omega | decide) ?_)
          | (show CW _ _ _ _ _ _ _ _; first | refine W.ke ?_ | refine W.sq ?_)
          | (show KO _ _ _ _; first | refine K.sn ?_ | refine K.se ?_ | refine K.bn ?_ | refine K.be ?_ | refine K.le ?_ | refine K.fn _ ?_ [_, _, _] _ rfl rfl (by repeat' first | exact obs_nil | refine obs_cons ?_ ?_ | exact ob_box (map_data g8_data _) | exact ob_buf (map_data g8_data _)) ⟨j + 1, cutv_sl (map_data g8_data _), cutv_sl (map_data g8_data _), rfl, rfl, rfl, vI (by omega), by rw [hmn], ?_, rfl⟩)
          | refine K.nx ?_
          | refine K.re ?_
        · exact hg2
        · exact hg1
      · have hval : g8 (rd b (i : Int) ^^^ rd (lockS ks (nonce ++ numL (j + 1) 4)) ((i : Int) - 16 * (j : Int))) = g8 (streamB ks nonce b i) := by
          unfold streamB
          rw [show i / 16 = j by omega, show ((i % 16 : Nat) : Int) = (i : Int) - 16 * (j : Int) by omega]
        repeat' first
          | (show XO _ _ _ (Oper.mk _ _ _ _ _ none :: _) _ _ _; first | refine X.iaN rfl rfl (by omega) rfl hfl ?_ | refine X.stN (streamB ks nonce b i) rfl rfl hval (by omega) hfl (fun _ => rfl) ?_)
          | (show XO _ _ _ (Oper.mk (some _) (Op.move _) _ _ _ none :: _) _ _ _; refine X.mv ?_)
          | (show XO _ _ _ (Oper.mk (some _) (Op.assign _) _ _ _ none :: _) _ _ _; refine X.as ?_)
          | (show XO _ _ _ (Oper.mk (some _) (Op.call (Call.mk (Callee.builtin Builtin.len) _ _)) _ _ _ none :: _) _ _ _; refine X.lnS rfl ?_)
          | (show XO _ _ _ (Oper.mk (some _) (Op.call (Call.mk (Callee.builtin Builtin.min) _ _)) _ _ _ none :: _) _ _ _; refine X.min2 rfl rfl ?_)
          | (show XO _ _ _ (Oper.mk (some _) (Op.binOp BinOp.add _ _ _ _) _ _ _ none :: _) _ _ _; refine X.addI rfl rfl (by omega) ?_)
          | (show XO _ _ _ (Oper.mk (some _) (_) _ _ _ none :: _) _ _ _; refine X.go rfl ?_)
          | (show XO _ _ _ [] _ _ _; refine X.nil ?_)
          | (show AO _ _ _ (Oper.mk _ _ _ _ _ none :: _) _ _ _; first | refine A.iaR1 (n := 16) rfl rfl (by omega) ?_ | refine A.ldR (g := g8) rfl rfl (by omega) ?_ | refine A.xor8 rfl rfl ?_)
          | (show AO _ _ _ (Oper.mk (some _) (Op.move _) _ _ _ none :: _) _ _ _; refine A.mv ?_)
          | (show AO _ _ _ (Oper.mk (some _) (Op.binOp BinOp.sub _ _ _ _) _ _ _ none :: _) _ _ _; refine A.subI rfl rfl (by omega) ?_)
          | (show AO _ _ _ (Oper.mk (some _) (Op.indexAddr _ _ _) _ _ _ none :: _) _ _ _; refine A.iaS rfl rfl (by omega) ?_)
          | (show AO _ _ _ (Oper.mk (some _) (Op.load _ _) _ _ _ none :: _) _ _ _; refine A.go rfl ?_)
          | (show AO _ _ _ [] _ _ _; refine A.nil ?_)
          | (show CW _ _ _ _ (Code.seq (Code.region _ _ false) _) _ _ _; refine W.rq ?_)
          | (show CW _ _ _ _ (Code.region _ _ false) _ _ _; refine W.rz ?_)
          | (show CW _ _ _ _ (Code.region _ _ true) _ _ _; refine W.dz 12 ?_)
          | (show CW _ _ _ _ (Code.cond _ _ _) _ _ _; refine W.jpt (by (conv => lhs; whnf) <;> rfl) (by with_reducible rfl) (by first | omega | decide) ?_)
          | (show CW _ _ _ _ _ _ _ _; first | refine W.kn ?_ | refine W.bl ?_ | refine W.sq ?_)
          | (show KO _ _ _ _; first | refine K.sn ?_ | refine K.bn ?_ | refine K.ln _ ?_ ⟨i + 1, rfl, rfl, rfl, rfl, rfl, rfl, rfl, vI (by omega), by rw [fill_set _ _ _ _ _ rfl rfl], ?_, rfl⟩)
          | refine K.nx ?_
          | refine K.re ?_
          | refine K.dr ?_
        · omega
        · omega
  · have hv : streamV key nonce b = ([], 1) := if_neg hkn
    rw [hv]
    refine SE.weak (v := .tup [.sl true true [], .int .i64 1]) ?_ fun G r h => tw h
    refine SE.data H Try.func19 rfl ?_
    repeat' first
      | (show XO _ _ _ (Oper.mk (some _) (Op.move _) _ _ _ none :: _) _ _ _; refine X.mv ?_)
      | (show XO _ _ _ (Oper.mk (some _) (Op.assign _) _ _ _ none :: _) _ _ _; refine X.as ?_)
      | (show XO _ _ _ (Oper.mk (some _) (Op.call (Call.mk (Callee.builtin Builtin.len) _ _)) _ _ _ none :: _) _ _ _; refine X.lnS rfl ?_)
      | (show XO _ _ _ (Oper.mk (some _) (_) _ _ _ none :: _) _ _ _; refine X.go rfl ?_)
      | (show XO _ _ _ (Oper.mk _ _ _ _ _ (some _) :: _) _ _ _; first | refine X.hy rfl (by (conv => lhs; whnf) <;> rfl) (by first | with_reducible rfl | with_reducible exact notT | with_reducible exact notF) ?_ | refine X.hnt rfl (by (conv => lhs; whnf) <;> rfl) (by first | with_reducible rfl | with_reducible exact notT | with_reducible exact notF) ?_ | refine X.hq rfl (by (conv => lhs; whnf) <;> rfl) (by with_reducible rfl) (fun h => ?_) (fun h => ?_))
      | (show XO _ _ _ [] _ _ _; refine X.nil ?_)
      | (show CW _ _ _ _ (Code.seq (Code.region _ _ false) _) _ _ _; refine W.rq ?_)
      | (show CW _ _ _ _ (Code.cond _ _ _) _ _ _; first | refine W.jt (by (conv => lhs; whnf) <;> rfl) (by first | with_reducible rfl | with_reducible exact notT | with_reducible exact notF) ?_ | refine W.jqt (by (conv => lhs; whnf) <;> rfl) (by with_reducible rfl) (by first | omega | decide) ?_)
      | (show CW _ _ _ _ _ _ _ _; first | refine W.kr ?_ | refine W.sq ?_)
      | (show KO _ _ _ _; refine K.sr ?_)
      | refine K.nx ?_
    all_goals first | exact end_data rfl rfl rfl | exact absurd ⟨by omega, by omega⟩ hkn
theorem stream (H : ZC Z) (key nonce b : List UInt8) (hb : b.length ≤ 300) (L : List Go.Pv.Obj) : SE Try.prog Z 19 [gB key, gB nonce, gB b] L (.tup [gB (streamV key nonce b).1, .int .i64 (streamV key nonce b).2]) L :=
  SE.lift (stream0 H key nonce b hb) L (by simp [V.lts, gB_data]) (by simp [V.lt, V.lts, gB_data])
end Go.Proofs.Aes
end
