/- Math: where two leaves meet; below which nodes a leaf is. -/
import Derived.Test.YthhoacanegbeaaaDoorMA
set_option linter.unusedSimpArgs false
set_option linter.unusedVariables false
namespace Go.Proofs.Mth
open Go Go.Pv Go.Proofs
theorem least {p : Nat → Bool} : ∀ j, p j = true → ∃ k, k ≤ j ∧ p k = true ∧ ∀ i, i < k → p i = false := by
  intro j
  induction j using Nat.strongRecOn with
  | ind j ih =>
    intro hj
    by_cases h : ∃ i, i < j ∧ p i = true
    · obtain ⟨i, hi, hp⟩ := h
      obtain ⟨k, h1, h2, h3⟩ := ih i hi hp
      exact ⟨k, by omega, h2, h3⟩
    · refine ⟨j, Nat.le_refl _, hj, fun i hi => ?_⟩
      cases hp : p i with
      | false => rfl
      | true => exact absurd ⟨i, hi, hp⟩ h
theorem div_between {a b q : Nat} (hq : 0 < q) : (a / q * q ≤ b ∧ b ≤ a / q * q + q - 1) ↔ a / q = b / q := by
  constructor
  · rintro ⟨h1, h2⟩
    refine (Nat.div_eq_of_lt_le ?_ ?_).symm
    · exact h1
    · have : (a / q + 1) * q = a / q * q + q := Nat.succ_mul _ _
      omega
  · intro h
    have h1 := Nat.div_add_mod b q
    have h2 := Nat.mod_lt b hq
    rw [h, Nat.mul_comm]
    omega
theorem pow_pos2 (k : Nat) : 0 < 2 ^ k := Nat.pos_of_ne_zero (by simp)
theorem inB_anc {a b k : Nat} (ha : a < 1024) (hk : k < 11) : inB (b : Int) (anc a k : Nat) = (a / 2 ^ k == b / 2 ^ k) := by
  unfold inB
  rw [anc_leaves a ha k hk]
  have h := div_between (a := a) (b := b) (pow_pos2 k)
  have hp := pow_pos2 k
  rw [Bool.eq_iff_iff, Bool.and_eq_true, decide_eq_true_eq, decide_eq_true_eq, beq_iff_eq, ← h]
  show (((a / 2 ^ k * 2 ^ k : Nat) : Int) ≤ (b : Int) ∧ (b : Int) ≤ ((a / 2 ^ k * 2 ^ k + 2 ^ k - 1 : Nat) : Int)) ↔ _
  rw [Int.ofNat_le, Int.ofNat_le]
theorem comL_anc {j a : Nat} (hj : j < 11) (ha : a < 2 ^ j) : comL (a : Int) ((2 ^ j : Nat) : Int) = (List.range (j + 1)).map fun i => ((anc a i : Nat) : Int) := by
  unfold comL
  have h0 := anc_lt hj ha 0 (Nat.zero_le _)
  rw [anc_zero] at h0
  rw [show (2 : Int) * (a : Int) = ((2 * a : Nat) : Int) by omega, wayN gP hj h0]
  have h := ups_anc hj ha j 0 (by omega)
  rw [anc_zero] at h
  have e : (ups (2 * a) (2 ^ j)).map gP = ((ups (2 * a) (2 ^ j)).map (·.2)).map (fun q : Nat => (q : Int)) := by rw [List.map_map]; rfl
  rw [List.range_succ_eq_map, List.map_cons, anc_zero, List.map_map]
  show _ :: (ups (2 * a) (2 ^ j)).map gP = _
  rw [e, h, List.map_map]
  congr 1
  refine List.map_congr_left fun i _ => ?_
  show ((anc a (0 + 1 + i) : Nat) : Int) = ((anc a (i + 1) : Nat) : Int)
  rw [show 0 + 1 + i = i + 1 by omega]
theorem meets {j a b : Nat} (hj : j < 11) (ha : a < 2 ^ j) (hb : b < 2 ^ j) : ∃ k, k ≤ j ∧ a / 2 ^ k = b / 2 ^ k ∧ (∀ i, i < k → a / 2 ^ i ≠ b / 2 ^ i) ∧
    comV (a : Int) (b : Int) ((2 ^ j : Nat) : Int) = (((anc a k : Nat) : Int), 0) ∧ comV (b : Int) (a : Int) ((2 ^ j : Nat) : Int) = (((anc a k : Nat) : Int), 0) := by
  have hp := two_pow_bound hj
  obtain ⟨k, h1, h2, h3⟩ := least (p := fun i => a / 2 ^ i == b / 2 ^ i) j (by rw [Nat.div_eq_of_lt ha, Nat.div_eq_of_lt hb]; rfl)
  have h2' : a / 2 ^ k = b / 2 ^ k := by simpa using h2
  have key : ∀ {c d : Nat}, c < 2 ^ j → d < 2 ^ j → c / 2 ^ k = d / 2 ^ k → (∀ i, i < k → (c / 2 ^ i == d / 2 ^ i) = false) → comV (c : Int) (d : Int) ((2 ^ j : Nat) : Int) = (((anc c k : Nat) : Int), 0) := by
    intro c d hc hd he hn
    unfold comV
    rw [if_pos ⟨isT_of hj, by omega, by omega, by omega, by omega⟩, comL_anc hj hc, List.find?_map]
    have : (List.range (j + 1)).find? (inB (d : Int) ∘ fun i => ((anc c i : Nat) : Int)) = some k := by
      rw [List.find?_eq_some_iff_getElem]
      refine ⟨?_, k, by simp; omega, by simp, fun i hi => ?_⟩
      · show inB (d : Int) ((anc c k : Nat) : Int) = true
        rw [inB_anc (by omega) (by omega), he, beq_self_eq_true]
      · show (!inB (d : Int) ((anc c ((List.range (j + 1))[i]'(by simp; omega)) : Nat) : Int)) = true
        rw [List.getElem_range, inB_anc (by omega) (by omega), hn i hi]; rfl
    rw [this]; rfl
  refine ⟨k, h1, h2', fun i hi he => ?_, key ha hb h2' h3, ?_⟩
  · have := h3 i hi
    rw [he] at this; simp at this
  · rw [key hb ha h2'.symm (fun i hi => by have := h3 i hi; rw [beq_eq_false_iff_ne] at this ⊢; exact fun e => this e.symm)]
    unfold anc; rw [h2']
end Go.Proofs.Mth
namespace Go.Proofs.Mth
open Go Go.Pv Go.Proofs
theorem anc_left : ∀ a, a < 1024 → ∀ k, k < 10 → anc a (k + 1) % 2 = 1 ∧ (leavesV (lN (anc a (k + 1)) : Nat)).2 = ((a / 2 ^ (k + 1) * 2 ^ (k + 1) + 2 ^ k - 1 : Nat) : Int) := by
  have h : ((List.range 1024).all fun a => (List.range 10).all fun k => decide (anc a (k + 1) % 2 = 1 ∧ (leavesV (lN (anc a (k + 1)) : Nat)).2 = ((a / 2 ^ (k + 1) * 2 ^ (k + 1) + 2 ^ k - 1 : Nat) : Int))) = true := by kernel_rfl
  intro a ha k hk
  exact of_decide_eq_true (all_lt (all_lt h a ha) k hk)
theorem halves {a b k : Nat} (h1 : a / 2 ^ (k + 1) = b / 2 ^ (k + 1)) (h2 : a / 2 ^ k ≠ b / 2 ^ k) (hlt : a < b) : a ≤ a / 2 ^ (k + 1) * 2 ^ (k + 1) + 2 ^ k - 1 ∧ a / 2 ^ (k + 1) * 2 ^ (k + 1) + 2 ^ k - 1 < b := by
  have hp := pow_pos2 k
  rw [Nat.pow_succ] at h1 ⊢
  generalize 2 ^ k = h at *
  have ea := Nat.div_div_eq_div_mul a h 2
  have eb := Nat.div_div_eq_div_mul b h 2
  have hle : a / h ≤ b / h := Nat.div_le_div_right (by omega)
  have a1 := Nat.div_add_mod a h
  have a2 := Nat.mod_lt a hp
  have b1 := Nat.div_add_mod b h
  have b2 := Nat.mod_lt b hp
  rw [← ea]
  rw [← ea, ← eb] at h1
  have c1 : a / h = 2 * (a / h / 2) := by omega
  have c2 : b / h = 2 * (a / h / 2) + 1 := by omega
  generalize a / h / 2 = q at *
  rw [c1] at a1
  rw [c2] at b1
  have m1 : h * (2 * q) = q * (h * 2) := by rw [← Nat.mul_assoc, Nat.mul_comm]
  have m2 : h * (2 * q + 1) = q * (h * 2) + h := by rw [Nat.mul_add, m1, Nat.mul_one]
  omega
end Go.Proofs.Mth
