import Derived.Test.YtfjkplemepcmeaaG4
set_option linter.unusedVariables false
set_option linter.unusedSimpArgs false
set_option linter.unusedSectionVars false
section
/- Aes: the block map is one to one. -/
set_option linter.unusedVariables false
set_option maxRecDepth 100000
namespace Go.Proofs.Aes
open Go Go.Pv Go.Proofs
/-- What boxU came from: the map's own table, searched. -/
def unbox (y : UInt8) : UInt8 := UInt8.ofNat ((List.range 256).findIdx fun i => boxU (UInt8.ofNat i) == y)
theorem boxU_inj0 : ((List.range 256).map fun i => boxU (UInt8.ofNat i)).Nodup := by decide +kernel
theorem boxL_at (x : UInt8) : rd boxL (x.toNat : Int) = boxU x := by
  have hx := x.toNat_lt
  unfold boxL
  rw [rd_nat, List.getD_eq_getElem?_getD, List.getElem?_map, List.getElem?_range (by omega)]
  show boxU (UInt8.ofNat x.toNat) = _
  rw [UInt8.ofNat_toNat]
theorem boxU_inj {x y : UInt8} (h : boxU x = boxU y) : x = y := by
  have hx := x.toNat_lt
  have hy := y.toNat_lt
  have h0 := boxU_inj0
  have e := (List.getElem_inj (h₀ := by simp; omega) (h₁ := by simp; omega) h0 (i := x.toNat) (j := y.toNat)).1 (by simpa using h)
  exact UInt8.toNat_inj.1 e
theorem list16 {s t : List UInt8} (hs : s.length = 16) (ht : t.length = 16) (h : ∀ q : Nat, q < 16 → rd s (q : Int) = rd t (q : Int)) : s = t := by
  apply List.ext_getElem (by rw [hs, ht])
  intro i h1 h2
  have := h i (by omega)
  rw [rd_nat, rd_nat, List.getD_eq_getElem?_getD, List.getD_eq_getElem?_getD, List.getElem?_eq_getElem h1, List.getElem?_eq_getElem h2] at this
  exact this
theorem rd_map16 (f : Nat → UInt8) {q : Nat} (h : q < 16) : rd ((List.range 16).map f) (q : Int) = f q := by
  rw [rd_nat, List.getD_eq_getElem?_getD, List.getElem?_map, List.getElem?_range h]; rfl
theorem addS_inj {s t k : List UInt8} (hs : s.length = 16) (ht : t.length = 16) (h : addS s k = addS t k) : s = t := by
  apply list16 hs ht
  intro q hq
  have := congrArg (fun l => rd l (q : Int)) h
  simp only [addS, rd_map16 _ hq] at this
  exact xor_eq_zero (by rw [← UInt8.xor_self (a := rd t q ^^^ rd k q), ← this]; rw [show rd s (q : Int) ^^^ rd t (q : Int) = (rd s q ^^^ rd k q) ^^^ (rd t q ^^^ rd k q) by rw [x4, UInt8.xor_self (a := rd k q), UInt8.xor_zero]]; rw [this])
theorem shiftS_inj {s t : List UInt8} (hs : s.length = 16) (ht : t.length = 16) (h : shiftS s = shiftS t) : s = t := by
  apply list16 hs ht
  intro q hq
  have hp : (q + 12 * (q % 4)) % 16 < 16 := by omega
  have := congrArg (fun l => rd l (((q + 12 * (q % 4)) % 16 : Nat) : Int)) h
  simp only [shiftS, rd_map16 _ hp, shiftB] at this
  rw [boxL_at, boxL_at, show ((((q + 12 * (q % 4)) % 16 : Nat) : Int) + 4 * ((((q + 12 * (q % 4)) % 16 : Nat) : Int) % 4)) % 16 = (q : Int) by omega] at this
  exact boxU_inj this
def mixC (a b c d : UInt8) : UInt8 := mulU a 2 ^^^ mulU b 3 ^^^ c ^^^ d
theorem unA (a : UInt8) : mulU (mulU a 2) 14 ^^^ mulU a 11 ^^^ mulU a 13 ^^^ mulU (mulU a 3) 9 = a := all_u8' (Q := fun a => mulU (mulU a 2) 14 ^^^ mulU a 11 ^^^ mulU a 13 ^^^ mulU (mulU a 3) 9 = a) (by kernel_rfl) a
theorem unB (a : UInt8) : mulU (mulU a 3) 14 ^^^ mulU (mulU a 2) 11 ^^^ mulU a 13 ^^^ mulU a 9 = 0 := all_u8' (Q := fun a => mulU (mulU a 3) 14 ^^^ mulU (mulU a 2) 11 ^^^ mulU a 13 ^^^ mulU a 9 = 0) (by kernel_rfl) a
theorem unC (a : UInt8) : mulU a 14 ^^^ mulU (mulU a 3) 11 ^^^ mulU (mulU a 2) 13 ^^^ mulU a 9 = 0 := all_u8' (Q := fun a => mulU a 14 ^^^ mulU (mulU a 3) 11 ^^^ mulU (mulU a 2) 13 ^^^ mulU a 9 = 0) (by kernel_rfl) a
theorem unD (a : UInt8) : mulU a 14 ^^^ mulU a 11 ^^^ mulU (mulU a 3) 13 ^^^ mulU (mulU a 2) 9 = 0 := all_u8' (Q := fun a => mulU a 14 ^^^ mulU a 11 ^^^ mulU (mulU a 3) 13 ^^^ mulU (mulU a 2) 9 = 0) (by kernel_rfl) a
theorem unmix (a b c d : UInt8) : mulU (mixC a b c d) 14 ^^^ mulU (mixC b c d a) 11 ^^^ mulU (mixC c d a b) 13 ^^^ mulU (mixC d a b c) 9 = a := by
  simp only [mixC, xor_mul]
  have h : ∀ a1 a2 a3 a4 b1 b2 b3 b4 c1 c2 c3 c4 d1 d2 d3 d4 : UInt8,
      (a1 ^^^ b1 ^^^ c1 ^^^ d1) ^^^ (b2 ^^^ c2 ^^^ d2 ^^^ a2) ^^^ (c3 ^^^ d3 ^^^ a3 ^^^ b3) ^^^ (d4 ^^^ a4 ^^^ b4 ^^^ c4) =
      (a1 ^^^ a2 ^^^ a3 ^^^ a4) ^^^ (b1 ^^^ b2 ^^^ b3 ^^^ b4) ^^^ (c1 ^^^ c2 ^^^ c3 ^^^ c4) ^^^ (d1 ^^^ d2 ^^^ d3 ^^^ d4) := by
    intros; ac_rfl
  rw [h, unA, unB, unC, unD, UInt8.xor_zero, UInt8.xor_zero, UInt8.xor_zero]
theorem mixB_eq (s : List UInt8) (m : Nat) (r : Nat) (hr : r < 4) : mixB s (4 * m + r) = mixC (rd s (4 * (m : Int) + r)) (rd s (4 * (m : Int) + ((r : Int) + 1) % 4)) (rd s (4 * (m : Int) + ((r : Int) + 2) % 4)) (rd s (4 * (m : Int) + ((r : Int) + 3) % 4)) := by
  unfold mixB mixC
  rw [show (((4 * m + r : Nat) : Int) / 4 * 4 + (((4 * m + r : Nat) : Int) + 0) % 4) = 4 * (m : Int) + r by omega,
    show (((4 * m + r : Nat) : Int) / 4 * 4 + (((4 * m + r : Nat) : Int) + 1) % 4) = 4 * (m : Int) + ((r : Int) + 1) % 4 by omega,
    show (((4 * m + r : Nat) : Int) / 4 * 4 + (((4 * m + r : Nat) : Int) + 2) % 4) = 4 * (m : Int) + ((r : Int) + 2) % 4 by omega,
    show (((4 * m + r : Nat) : Int) / 4 * 4 + (((4 * m + r : Nat) : Int) + 3) % 4) = 4 * (m : Int) + ((r : Int) + 3) % 4 by omega]
theorem mixS_at (s : List UInt8) (m r : Nat) (hm : m < 4) (hr : r < 4) : rd s (4 * (m : Int) + r) =
    mulU (mixB s (4 * m + r)) 14 ^^^ mulU (mixB s (4 * m + (r + 1) % 4)) 11 ^^^ mulU (mixB s (4 * m + (r + 2) % 4)) 13 ^^^ mulU (mixB s (4 * m + (r + 3) % 4)) 9 := by
  rw [mixB_eq s m r hr, mixB_eq s m ((r + 1) % 4) (by omega), mixB_eq s m ((r + 2) % 4) (by omega), mixB_eq s m ((r + 3) % 4) (by omega)]
  rw [show ((((r + 1) % 4 : Nat) : Int)) = ((r : Int) + 1) % 4 by omega, show ((((r + 2) % 4 : Nat) : Int)) = ((r : Int) + 2) % 4 by omega, show ((((r + 3) % 4 : Nat) : Int)) = ((r : Int) + 3) % 4 by omega]
  have e1 : ∀ i j : Nat, (((r : Int) + (i : Int)) % 4 + (j : Int)) % 4 = ((r : Int) + (i : Int) + j) % 4 := fun i j => by omega
  have e12 : (((r : Int) + 1) % 4 + 1) % 4 = ((r : Int) + 2) % 4 := by omega
  have e13 : (((r : Int) + 1) % 4 + 2) % 4 = ((r : Int) + 3) % 4 := by omega
  have e14 : (((r : Int) + 1) % 4 + 3) % 4 = (r : Int) := by omega
  have e22 : (((r : Int) + 2) % 4 + 1) % 4 = ((r : Int) + 3) % 4 := by omega
  have e23 : (((r : Int) + 2) % 4 + 2) % 4 = (r : Int) := by omega
  have e24 : (((r : Int) + 2) % 4 + 3) % 4 = ((r : Int) + 1) % 4 := by omega
  have e32 : (((r : Int) + 3) % 4 + 1) % 4 = (r : Int) := by omega
  have e33 : (((r : Int) + 3) % 4 + 2) % 4 = ((r : Int) + 1) % 4 := by omega
  have e34 : (((r : Int) + 3) % 4 + 3) % 4 = ((r : Int) + 2) % 4 := by omega
  rw [e12, e13, e14, e22, e23, e24, e32, e33, e34, unmix]
theorem mixS_inj {s t : List UInt8} (hs : s.length = 16) (ht : t.length = 16) (h : mixS s = mixS t) : s = t := by
  have hb : ∀ q : Nat, q < 16 → mixB s q = mixB t q := fun q hq => by
    have := congrArg (fun l => rd l (q : Int)) h
    simpa only [mixS, rd_map16 _ hq] using this
  apply list16 hs ht
  intro q hq
  have e : (q : Int) = 4 * ((q / 4 : Nat) : Int) + ((q % 4 : Nat) : Int) := by omega
  rw [e, mixS_at s _ _ (by omega) (by omega), mixS_at t _ _ (by omega) (by omega), hb _ (by omega), hb _ (by omega), hb _ (by omega), hb _ (by omega)]
theorem lockF_inj {K s t : List UInt8} (hs : s.length = 16) (ht : t.length = 16) : ∀ n, lockF K s n = lockF K t n → s = t
  | 0, h => addS_inj hs ht h
  | n + 1, h => by
    apply lockF_inj hs ht n
    rw [lockF, lockF] at h
    split at h
    · exact shiftS_inj (lockF_len _ _ _) (lockF_len _ _ _) (mixS_inj (shiftS_len _) (shiftS_len _) (addS_inj (mixS_len _) (mixS_len _) h))
    · exact shiftS_inj (lockF_len _ _ _) (lockF_len _ _ _) (addS_inj (shiftS_len _) (shiftS_len _) h)
theorem lockS_inj {K s t : List UInt8} (hs : s.length = 16) (ht : t.length = 16) (h : lockS K s = lockS K t) : s = t := lockF_inj hs ht 10 h
end Go.Proofs.Aes
end
section
set_option linter.unusedVariables false
set_option linter.unusedSimpArgs false
set_option maxHeartbeats 4000000
set_option maxRecDepth 100000
namespace Go.Proofs.Aes
open Go Go.Pv Go.Proofs
variable {Z : Nat → Go.Obj → Prop}
attribute [local irreducible] boxL mulU exE exW lockS numL lockF keysL streamV keysV boxU
theorem apart_walk (H : ZC Z) (key a b : List UInt8) : SE Try.prog Z 8 [gB key, gB a, gB b] [] (.bool true) [] := by
  by_cases hk : key.length = 16 ∧ a.length = 16 ∧ b.length = 16
  · obtain ⟨hk, ha, hb⟩ := hk
    have k1 := block H key a
    have k2 := block H key b
    rw [show blockV key a = (lockS (keysL key) a, 0) from if_pos ⟨hk, ha⟩] at k1
    rw [show blockV key b = (lockS (keysL key) b, 0) from if_pos ⟨hk, hb⟩] at k2
    have k3 := same H (lockS (keysL key) a) (lockS (keysL key) b)
    have he : decide (lockS (keysL key) a = lockS (keysL key) b) = decide (a = b) := by
      by_cases h : a = b
      · rw [decide_eq_true h, h]; exact decide_eq_true rfl
      · rw [decide_eq_false h]; exact decide_eq_false fun h' => h (lockS_inj ha hb h')
    rw [he] at k3
    have k4 := same H a b
    have hl := lockS_len (keysL key) a
    dsimp only at *
    generalize lockS (keysL key) a = x at *
    generalize lockS (keysL key) b = y at *
    generalize decide (a = b) = e at *
    refine SE.data H Try.func8 rfl ?_
    repeat' first
      | (show XO _ _ _ (Oper.mk (some _) (Op.move _) _ _ _ none :: _) _ _ _; refine X.mv ?_)
      | (show XO _ _ _ (Oper.mk (some _) (Op.assign _) _ _ _ none :: _) _ _ _; refine X.as ?_)
      | (show XO _ _ _ (Oper.mk (some _) (Op.call (Call.mk (Callee.builtin Builtin.len) _ _)) _ _ _ none :: _) _ _ _; refine X.lnS rfl ?_)
      | (show XO _ _ _ (Oper.mk (some _) (Op.call _) _ _ _ none :: _) _ _ _; first | refine X.call (shown H _) ?_ | refine X.call (k1 _) ?_ | refine X.call (k2 _) ?_ | refine X.call (k3 _) ?_ | refine X.call (k4 _) ?_)
      | (show XO _ _ _ (Oper.mk (some _) (_) _ _ _ none :: _) _ _ _; refine X.go rfl ?_)
      | (show XO _ _ _ (Oper.mk _ _ _ _ _ (some _) :: _) _ _ _; first | refine X.hy rfl (by (conv => lhs; whnf) <;> rfl) (by first | with_reducible rfl | with_reducible exact notT | with_reducible exact notF) ?_ | refine X.hpt rfl (by (conv => lhs; whnf) <;> rfl) (by with_reducible rfl) (by first | omega | decide) ?_ | refine X.hqf rfl (by (conv => lhs; whnf) <;> rfl) (by with_reducible rfl) (by first | omega | decide) ?_)
      | (show XO _ _ _ [] _ _ _; refine X.nil ?_)
      | (show CW _ _ _ _ (Code.seq (Code.region _ _ false) _) _ _ _; refine W.rq ?_)
      | (show CW _ _ _ _ (Code.cond _ _ _) _ _ _; refine W.jqf (by (conv => lhs; whnf) <;> rfl) (by with_reducible rfl) (by first | omega | decide) ?_)
      | (show CW _ _ _ _ _ _ _ _; first | refine W.kr ?_ | refine W.kn ?_ | refine W.sq ?_)
      | (show KO _ _ _ _; refine K.sn ?_)
      | refine K.nx ?_
    cases e <;> exact end_data rfl rfl rfl
  · refine SE.data H Try.func8 rfl ?_
    repeat' first
      | (show XO _ _ _ (Oper.mk (some _) (Op.move _) _ _ _ none :: _) _ _ _; refine X.mv ?_)
      | (show XO _ _ _ (Oper.mk (some _) (Op.assign _) _ _ _ none :: _) _ _ _; refine X.as ?_)
      | (show XO _ _ _ (Oper.mk (some _) (Op.call (Call.mk (Callee.builtin Builtin.len) _ _)) _ _ _ none :: _) _ _ _; refine X.lnS rfl ?_)
      | (show XO _ _ _ (Oper.mk (some _) (Op.call _) _ _ _ none :: _) _ _ _; refine X.call (shown H _) ?_)
      | (show XO _ _ _ (Oper.mk (some _) (_) _ _ _ none :: _) _ _ _; refine X.go rfl ?_)
      | (show XO _ _ _ (Oper.mk _ _ _ _ _ (some _) :: _) _ _ _; first | refine X.hy rfl (by (conv => lhs; whnf) <;> rfl) (by first | with_reducible rfl | with_reducible exact notT | with_reducible exact notF) ?_ | refine X.hnt rfl (by (conv => lhs; whnf) <;> rfl) (by first | with_reducible rfl | with_reducible exact notT | with_reducible exact notF) ?_ | refine X.hq rfl (by (conv => lhs; whnf) <;> rfl) (by with_reducible rfl) (fun h => ?_) (fun h => ?_))
      | (show XO _ _ _ [] _ _ _; refine X.nil ?_)
      | (show CW _ _ _ _ (Code.seq (Code.region _ _ false) _) _ _ _; refine W.rq ?_)
      | (show CW _ _ _ _ (Code.cond _ _ _) _ _ _; first | refine W.jt (by (conv => lhs; whnf) <;> rfl) (by first | with_reducible rfl | with_reducible exact notT | with_reducible exact notF) ?_ | refine W.jqt (by (conv => lhs; whnf) <;> rfl) (by with_reducible rfl) (by first | omega | decide) ?_)
      | (show CW _ _ _ _ _ _ _ _; first | refine W.kr ?_ | refine W.sq ?_)
      | (show KO _ _ _ _; refine K.sr ?_)
      | refine K.nx ?_
    all_goals first | exact end_data rfl rfl rfl | exact absurd ⟨by omega, by omega, by omega⟩ hk
end Go.Proofs.Aes
end
