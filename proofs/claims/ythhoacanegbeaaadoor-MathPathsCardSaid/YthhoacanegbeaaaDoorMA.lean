/- Math: the nodes over a leaf, by their levels. -/
import Derived.Test.YthhoacanegbeaaaDoorM7
set_option linter.unusedSimpArgs false
set_option linter.unusedVariables false
namespace Go.Proofs.Mth
open Go Go.Pv Go.Proofs
def anc (a k : Nat) : Nat := a / 2 ^ k * 2 ^ (k + 1) + 2 ^ k - 1
theorem anc_up : ∀ a, a < 1024 → ∀ k, k < 10 → upN (anc a k) = anc a (k + 1) := by
  have h : ((List.range 1024).all fun a => (List.range 10).all fun k => upN (anc a k) == anc a (k + 1)) = true := by kernel_rfl
  intro a ha k hk
  exact eq_of_beq (all_lt (all_lt h a ha) k hk)
theorem anc_lev : ∀ a, a < 1024 → ∀ k, k < 11 → lev (anc a k) = k := by
  have h : ((List.range 1024).all fun a => (List.range 11).all fun k => lev (anc a k) == k) = true := by kernel_rfl
  intro a ha k hk
  exact eq_of_beq (all_lt (all_lt h a ha) k hk)
theorem anc_leaves : ∀ a, a < 1024 → ∀ k, k < 11 → leavesV (anc a k : Nat) = (((a / 2 ^ k * 2 ^ k : Nat) : Int), ((a / 2 ^ k * 2 ^ k + 2 ^ k - 1 : Nat) : Int)) := by
  have h : ((List.range 1024).all fun a => (List.range 11).all fun k => decide (leavesV (anc a k : Nat) = (((a / 2 ^ k * 2 ^ k : Nat) : Int), ((a / 2 ^ k * 2 ^ k + 2 ^ k - 1 : Nat) : Int)))) = true := by kernel_rfl
  intro a ha k hk
  exact of_decide_eq_true (all_lt (all_lt h a ha) k hk)
theorem anc_zero (a : Nat) : anc a 0 = 2 * a := by unfold anc; simp; omega
theorem anc_lt {j a : Nat} (hj : j < 11) (ha : a < 2 ^ j) : ∀ k, k ≤ j → anc a k < 2 * 2 ^ j - 1 := by
  have h : ((List.range 11).all fun j => (List.range (2 ^ j)).all fun a => (List.range (j + 1)).all fun k => decide (anc a k < 2 * 2 ^ j - 1)) = true := by kernel_rfl
  intro k hk
  exact of_decide_eq_true (all_lt (all_lt (all_lt h j hj) a ha) k (by omega))
theorem anc_root {j a : Nat} (hj : j < 11) (ha : a < 2 ^ j) : ∀ k, k ≤ j → (anc a k + 1 = 2 ^ j ↔ k = j) := by
  have h : ((List.range 11).all fun j => (List.range (2 ^ j)).all fun a => (List.range (j + 1)).all fun k => decide (anc a k + 1 = 2 ^ j ↔ k = j)) = true := by kernel_rfl
  intro k hk
  exact of_decide_eq_true (all_lt (all_lt (all_lt h j hj) a ha) k (by omega))
/-- The nodes over a leaf, from a level on. -/
theorem ups_anc {j a : Nat} (hj : j < 11) (ha : a < 2 ^ j) : ∀ m k, k + m = j → (ups (anc a k) (2 ^ j)).map (·.2) = (List.range m).map fun i => anc a (k + 1 + i) := by
  have hb := two_pow_bound hj
  intro m
  induction m with
  | zero =>
    intro k hk
    rw [ups_end hj ((anc_root hj ha k (by omega)).2 (by omega))]; rfl
  | succ m ih =>
    intro k hk
    have hr : anc a k + 1 ≠ 2 ^ j := fun h => by have := (anc_root hj ha k (by omega)).1 h; omega
    rw [ups_step hj (anc_lt hj ha k (by omega)) hr, List.map_cons, anc_up a (by omega) k (by omega), ih (k + 1) (by omega), List.range_succ_eq_map, List.map_cons, List.map_map]
    congr 1
    refine List.map_congr_left fun i _ => ?_
    show _ = anc a (k + 1 + (i + 1))
    congr 1; omega
end Go.Proofs.Mth
