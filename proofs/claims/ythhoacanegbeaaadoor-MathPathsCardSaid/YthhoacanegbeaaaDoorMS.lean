/- Math: the plain functions, and what the kernel reckons of them (numbers below 2047). -/
import Derived.Lib.TrailingZeros
import Derived.KernelRfl
import Derived.Test.YthhoacanegbeaaaDoorPv22
import Derived.Laws.Bits64
import Derived.Laws.BitsLemmas
set_option linter.unusedSimpArgs false
set_option linter.unusedVariables false
namespace Go.Proofs.Mth
open Go Go.Proofs
def levF : Nat → Nat → Nat
  | 0, _ => 0
  | f + 1, n => if n % 2 = 1 then levF f (n / 2) + 1 else 0
/-- The level of a node. -/
def lev (x : Nat) : Nat := levF 11 x
/-- The node over another one. -/
def upN (x : Nat) : Nat := if x / 2 ^ (lev x + 1) % 2 = 1 then x - 2 ^ lev x else x + 2 ^ lev x
/-- The level, of any number. -/
def lv (x : Int) : Nat := if x < 0 ∨ 2047 ≤ x then 0 else lev x.toNat
def isT (n : Int) : Bool := decide (1 ≤ n) && decide (n ≤ 1024) && (n.toNat == 2 ^ Nat.log2 n.toNat)
def isN (x n : Int) : Bool := isT n && decide (0 ≤ x) && decide (x < 2 * n - 1)
def childV (x : Int) (s : Int) : Int × Int := if lv x = 0 then (0, 1) else (x + s * 2 ^ (lv x - 1), 0)
def widthV (n : Int) : Int × Int := if isT n then (2 * n - 1, 0) else (0, 1)
def parV (x n : Int) : Int × Int := if isN x n then if x = n - 1 then (0, 11) else ((upN x.toNat : Nat), 0) else (0, 1)
def sibV (x n : Int) : Int × Int := if (parV x n).2 = 0 then (2 * (parV x n).1 - x, 0) else (0, (parV x n).2)
theorem all_lt {n : Nat} {p : Nat → Bool} (h : (List.range n).all p = true) : ∀ x, x < n → p x = true := fun x hx => by
  rw [List.all_eq_true] at h; exact h x (List.mem_range.2 hx)
theorem ctz_lev : ∀ x : Nat, x < 2047 → (Lib.ctz 64 (18446744073709551615 - x) == lev x) = true := all_lt (by kernel_rfl)
def w64 (x : Nat) : Int := IntKind.i64.wrap (x : Int)
def upB (x : Nat) (a b : Int) : Int := IntKind.i64.wrap ((BitVec.ofInt 64 (IntKind.i64.wrap ((BitVec.ofInt 64 (x : Int) ||| BitVec.ofInt 64 a).toNat : Nat)) &&& ~~~(BitVec.ofInt 64 b)).toNat : Nat)
theorem up_bits : ∀ x : Nat, x < 2047 → (upB x (IntKind.i64.wrap (1 * 2 ^ (min (lev x) 64))) (IntKind.i64.wrap (2 * 2 ^ (min (lev x) 64))) == ((upN x : Nat) : Int)) = true := all_lt (by kernel_rfl)
theorem isT_bits : ∀ x : Nat, x < 1025 → ((x == 0) || (IntKind.i64.wrap ((BitVec.ofInt 64 (x : Int) &&& BitVec.ofInt 64 (IntKind.i64.wrap ((x : Int) - 1))).toNat : Nat) == 0) == (x == 2 ^ Nat.log2 x)) = true := all_lt (by kernel_rfl)
theorem lev_le (x : Nat) (hx : x < 2047) : lev x ≤ 10 := of_decide_eq_true (all_lt (n := 2047) (p := fun x => decide (lev x ≤ 10)) (by kernel_rfl) x hx)
theorem lv_le (x : Int) : lv x ≤ 10 := by
  unfold lv; split
  · omega
  · exact lev_le _ (by omega)
theorem lv_of (x : Nat) (hx : x < 2047) : lv x = lev x := by unfold lv; rw [if_neg (by omega)]; rfl
theorem upN_lt (x : Nat) (hx : x < 2047) : upN x < 4096 := of_decide_eq_true (all_lt (n := 2047) (p := fun x => decide (upN x < 4096)) (by kernel_rfl) x hx)
theorem pow_le {k : Nat} (h : k ≤ 10) : (2 : Int) ^ k ≤ 1024 ∧ 1 ≤ (2 : Int) ^ k := by
  have : k = 0 ∨ k = 1 ∨ k = 2 ∨ k = 3 ∨ k = 4 ∨ k = 5 ∨ k = 6 ∨ k = 7 ∨ k = 8 ∨ k = 9 ∨ k = 10 := by omega
  rcases this with h | h | h | h | h | h | h | h | h | h | h <;> subst h <;> decide
theorem lev_low (x : Nat) (hx : x < 2047) : 2 ^ lev x ≤ x + 1 := of_decide_eq_true (all_lt (n := 2047) (p := fun x => decide (2 ^ lev x ≤ x + 1)) (by kernel_rfl) x hx)
def upsF : Nat → Nat → Nat → List (Nat × Nat)
  | 0, _, _ => []
  | f + 1, x, m => if x + 1 = m then [] else (x, upN x) :: upsF f (upN x) m
/-- A node and the one over it, and so on up to the root. -/
def ups (x m : Nat) : List (Nat × Nat) := upsF (11 - lev x) x m
theorem isT_pow {n : Int} (h : isT n = true) : ∃ j, j < 11 ∧ n = ((2 ^ j : Nat) : Int) := by
  unfold isT at h
  simp only [Bool.and_eq_true, decide_eq_true_eq, beq_iff_eq] at h
  obtain ⟨⟨h1, h2⟩, h3⟩ := h
  refine ⟨Nat.log2 n.toNat, ?_, ?_⟩
  · exact (Nat.log2_lt (by omega)).2 (by omega)
  · rw [← h3]; omega
theorem up_node : ∀ j, j < 11 → ∀ x, x < 2 * 2 ^ j - 1 → x + 1 ≠ 2 ^ j → upN x < 2 * 2 ^ j - 1 ∧ lev (upN x) = lev x + 1 := by
  have h : ((List.range 11).all fun j => (List.range (2 * 2 ^ j - 1)).all fun x => decide (x + 1 ≠ 2 ^ j → upN x < 2 * 2 ^ j - 1 ∧ lev (upN x) = lev x + 1)) = true := by kernel_rfl
  intro j hj x hx
  exact of_decide_eq_true (all_lt (all_lt h j hj) x hx)
theorem isN_nat {x n : Int} (h : isN x n = true) : ∃ j y : Nat, j < 11 ∧ y < 2 * 2 ^ j - 1 ∧ x = (y : Int) ∧ n = ((2 ^ j : Nat) : Int) := by
  unfold isN at h
  simp only [Bool.and_eq_true, decide_eq_true_eq] at h
  obtain ⟨j, hj, rfl⟩ := isT_pow h.1.1
  exact ⟨j, x.toNat, hj, by omega, by omega, rfl⟩
theorem two_pow_bound {j : Nat} (h : j < 11) : 2 ^ j ≤ 1024 ∧ 1 ≤ 2 ^ j := by
  have : j = 0 ∨ j = 1 ∨ j = 2 ∨ j = 3 ∨ j = 4 ∨ j = 5 ∨ j = 6 ∨ j = 7 ∨ j = 8 ∨ j = 9 ∨ j = 10 := by omega
  rcases this with h | h | h | h | h | h | h | h | h | h | h <;> subst h <;> decide
theorem isT_of {j : Nat} (h : j < 11) : isT ((2 ^ j : Nat) : Int) = true := by
  have := two_pow_bound h
  unfold isT
  rw [decide_eq_true (by omega), decide_eq_true (by omega), Bool.true_and, Bool.true_and, Int.toNat_natCast, Nat.log2_two_pow, beq_self_eq_true]
theorem isN_of {j y : Nat} (h : j < 11) (hy : y < 2 * 2 ^ j - 1) : isN (y : Int) ((2 ^ j : Nat) : Int) = true := by
  unfold isN
  rw [isT_of h, decide_eq_true (by omega), decide_eq_true (by omega)]; rfl
theorem ups_step {j x : Nat} (hj : j < 11) (hx : x < 2 * 2 ^ j - 1) (hr : x + 1 ≠ 2 ^ j) : ups x (2 ^ j) = (x, upN x) :: ups (upN x) (2 ^ j) := by
  have h1 := (up_node j hj x hx hr).2
  have h2 := two_pow_bound hj
  have h3 := lev_le (upN x) (by have := (up_node j hj x hx hr).1; omega)
  unfold ups
  rw [h1, show 11 - lev x = (11 - (lev x + 1)) + 1 by omega, upsF, if_neg hr]
theorem ups_end {j x : Nat} (hj : j < 11) (hx : x + 1 = 2 ^ j) : ups x (2 ^ j) = [] := by
  have h2 := two_pow_bound hj
  have h3 := lev_le x (by omega)
  unfold ups
  rw [show 11 - lev x = (11 - lev x - 1) + 1 by omega, upsF, if_pos hx]
theorem upsF_len : ∀ f x m, (upsF f x m).length ≤ f
  | 0, _, _ => Nat.le_refl _
  | f + 1, x, m => by
    rw [upsF]; split
    · simp
    · have := upsF_len f (upN x) m; simp; omega
theorem ups_len (x m : Nat) : (ups x m).length ≤ 11 := Nat.le_trans (upsF_len _ _ _) (by omega)
def lN (y : Nat) : Nat := y - 2 ^ (lev y - 1)
def rN (y : Nat) : Nat := y + 2 ^ (lev y - 1)
theorem kids : ∀ j, j < 11 → ∀ y, y < 2 * 2 ^ j - 1 → y % 2 = 1 → lev y ≠ 0 ∧ lN y < y ∧ y < rN y ∧ rN y < 2 * 2 ^ j - 1 ∧ upN (lN y) = y ∧ upN (rN y) = y ∧ lN y + 1 ≠ 2 ^ j ∧ rN y + 1 ≠ 2 ^ j ∧ lev (lN y) = lev y - 1 ∧ lev (rN y) = lev y - 1 ∧ lN y + rN y = 2 * y := by
  have h : ((List.range 11).all fun j => (List.range (2 * 2 ^ j - 1)).all fun y => decide (y % 2 = 1 → lev y ≠ 0 ∧ lN y < y ∧ y < rN y ∧ rN y < 2 * 2 ^ j - 1 ∧ upN (lN y) = y ∧ upN (rN y) = y ∧ lN y + 1 ≠ 2 ^ j ∧ rN y + 1 ≠ 2 ^ j ∧ lev (lN y) = lev y - 1 ∧ lev (rN y) = lev y - 1 ∧ lN y + rN y = 2 * y)) = true := by kernel_rfl
  intro j hj x hx
  exact of_decide_eq_true (all_lt (all_lt h j hj) x hx)
theorem lev_even {y : Nat} (h : y % 2 = 0) : lev y = 0 := by
  unfold lev levF
  rw [if_neg (by omega)]
end Go.Proofs.Mth
