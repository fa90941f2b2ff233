import Derived.Lib.TrailingZeros
import Derived.KernelRfl
import Derived.Test.YtpipbkalkkagpaaDoorPv22
import Derived.Laws.Bits64
import Derived.Laws.BitsLemmas
import Derived.Test.YtpipbkalkkagpaaDoorPv24
set_option linter.unusedVariables false
set_option linter.unusedSimpArgs false
set_option linter.unusedSectionVars false
section
/- Math: the plain functions, and what the kernel reckons of them (numbers below 2047). -/
namespace Go.Proofs.Mth
open Go Go.Proofs
def levF : Nat → Nat → Nat
  | 0, _ => 0
  | f + 1, n => if n % 2 = 1 then levF f (n / 2) + 1 else 0
/-- The level of a node. -/
def lev (x : Nat) : Nat := levF 11 x
/-- The node over another one. -/
def upN (x : Nat) : Nat := if x / 2 ^ (lev x + 1) % 2 = 1 then x - 2 ^ lev x else x + 2 ^ lev x
/-- The level, of any number. -/
def lv (x : Int) : Nat := if x < 0 ∨ 2047 ≤ x then 0 else lev x.toNat
def isT (n : Int) : Bool := decide (1 ≤ n) && decide (n ≤ 1024) && (n.toNat == 2 ^ Nat.log2 n.toNat)
def isN (x n : Int) : Bool := isT n && decide (0 ≤ x) && decide (x < 2 * n - 1)
def childV (x : Int) (s : Int) : Int × Int := if lv x = 0 then (0, 1) else (x + s * 2 ^ (lv x - 1), 0)
def widthV (n : Int) : Int × Int := if isT n then (2 * n - 1, 0) else (0, 1)
def parV (x n : Int) : Int × Int := if isN x n then if x = n - 1 then (0, 11) else ((upN x.toNat : Nat), 0) else (0, 1)
def sibV (x n : Int) : Int × Int := if (parV x n).2 = 0 then (2 * (parV x n).1 - x, 0) else (0, (parV x n).2)
theorem all_lt {n : Nat} {p : Nat → Bool} (h : (List.range n).all p = true) : ∀ x, x < n → p x = true := fun x hx => by
  rw [List.all_eq_true] at h; exact h x (List.mem_range.2 hx)
theorem ctz_lev : ∀ x : Nat, x < 2047 → (Lib.ctz 64 (18446744073709551615 - x) == lev x) = true := all_lt (by kernel_rfl)
def w64 (x : Nat) : Int := IntKind.i64.wrap (x : Int)
def upB (x : Nat) (a b : Int) : Int := IntKind.i64.wrap ((BitVec.ofInt 64 (IntKind.i64.wrap ((BitVec.ofInt 64 (x : Int) ||| BitVec.ofInt 64 a).toNat : Nat)) &&& ~~~(BitVec.ofInt 64 b)).toNat : Nat)
theorem up_bits : ∀ x : Nat, x < 2047 → (upB x (IntKind.i64.wrap (1 * 2 ^ (min (lev x) 64))) (IntKind.i64.wrap (2 * 2 ^ (min (lev x) 64))) == ((upN x : Nat) : Int)) = true := all_lt (by kernel_rfl)
theorem isT_bits : ∀ x : Nat, x < 1025 → ((x == 0) || (IntKind.i64.wrap ((BitVec.ofInt 64 (x : Int) &&& BitVec.ofInt 64 (IntKind.i64.wrap ((x : Int) - 1))).toNat : Nat) == 0) == (x == 2 ^ Nat.log2 x)) = true := all_lt (by kernel_rfl)
theorem lev_le (x : Nat) (hx : x < 2047) : lev x ≤ 10 := of_decide_eq_true (all_lt (n := 2047) (p := fun x => decide (lev x ≤ 10)) (by kernel_rfl) x hx)
theorem lv_le (x : Int) : lv x ≤ 10 := by
  unfold lv; split
  · omega
  · exact lev_le _ (by omega)
theorem lv_of (x : Nat) (hx : x < 2047) : lv x = lev x := by unfold lv; rw [if_neg (by omega)]; rfl
theorem upN_lt (x : Nat) (hx : x < 2047) : upN x < 4096 := of_decide_eq_true (all_lt (n := 2047) (p := fun x => decide (upN x < 4096)) (by kernel_rfl) x hx)
theorem pow_le {k : Nat} (h : k ≤ 10) : (2 : Int) ^ k ≤ 1024 ∧ 1 ≤ (2 : Int) ^ k := by
  have : k = 0 ∨ k = 1 ∨ k = 2 ∨ k = 3 ∨ k = 4 ∨ k = 5 ∨ k = 6 ∨ k = 7 ∨ k = 8 ∨ k = 9 ∨ k = 10 := by omega
  rcases this with h | h | h | h | h | h | h | h | h | h | h <;> subst h <;> decide
theorem lev_low (x : Nat) (hx : x < 2047) : 2 ^ lev x ≤ x + 1 := of_decide_eq_true (all_lt (n := 2047) (p := fun x => decide (2 ^ lev x ≤ x + 1)) (by kernel_rfl) x hx)
def upsF : Nat → Nat → Nat → List (Nat × Nat)
  | 0, _, _ => []
  | f + 1, x, m => if x + 1 = m then [] else (x, upN x) :: upsF f (upN x) m
/-- A node and the one over it, and so on up to the root. -/
def ups (x m : Nat) : List (Nat × Nat) := upsF (11 - lev x) x m
theorem isT_pow {n : Int} (h : isT n = true) : ∃ j, j < 11 ∧ n = ((2 ^ j : Nat) : Int) := by
  unfold isT at h
  simp only [Bool.and_eq_true, decide_eq_true_eq, beq_iff_eq] at h
  obtain ⟨⟨h1, h2⟩, h3⟩ := h
  refine ⟨Nat.log2 n.toNat, ?_, ?_⟩
  · exact (Nat.log2_lt (by omega)).2 (by omega)
  · rw [← h3]; omega
theorem up_node : ∀ j, j < 11 → ∀ x, x < 2 * 2 ^ j - 1 → x + 1 ≠ 2 ^ j → upN x < 2 * 2 ^ j - 1 ∧ lev (upN x) = lev x + 1 := by
  have h : ((List.range 11).all fun j => (List.range (2 * 2 ^ j - 1)).all fun x => decide (x + 1 ≠ 2 ^ j → upN x < 2 * 2 ^ j - 1 ∧ lev (upN x) = lev x + 1)) = true := by kernel_rfl
  intro j hj x hx
  exact of_decide_eq_true (all_lt (all_lt h j hj) x hx)
theorem isN_nat {x n : Int} (h : isN x n = true) : ∃ j y : Nat, j < 11 ∧ y < 2 * 2 ^ j - 1 ∧ x = (y : Int) ∧ n = ((2 ^ j : Nat) : Int) := by
  unfold isN at h
  simp only [Bool.and_eq_true, decide_eq_true_eq] at h
  obtain ⟨j, hj, rfl⟩ := isT_pow h.1.1
  exact ⟨j, x.toNat, hj, by omega, by omega, rfl⟩
theorem two_pow_bound {j : Nat} (h : j < 11) : 2 ^ j ≤ 1024 ∧ 1 ≤ 2 ^ j := by
  have : j = 0 ∨ j = 1 ∨ j = 2 ∨ j = 3 ∨ j = 4 ∨ j = 5 ∨ j = 6 ∨ j = 7 ∨ j = 8 ∨ j = 9 ∨ j = 10 := by omega
  rcases this with h | h | h | h | h | h | h | h | h | h | h <;> subst h <;> decide
theorem isT_of {j : Nat} (h : j < 11) : isT ((2 ^ j : Nat) : Int) = true := by
  have := two_pow_bound h
  unfold isT
  rw [decide_eq_true (by omega), decide_eq_true (by omega), Bool.true_and, Bool.true_and, Int.toNat_natCast, Nat.log2_two_pow, beq_self_eq_true]
theorem isN_of {j y : Nat} (h : j < 11) (hy : y < 2 * 2 ^ j - 1) : isN (y : Int) ((2 ^ j : Nat) : Int) = true := by
  unfold isN
  rw [isT_of h, decide_eq_true (by omega), decide_eq_true (by omega)]; rfl
theorem ups_step {j x : Nat} (hj : j < 11) (hx : x < 2 * 2 ^ j - 1) (hr : x + 1 ≠ 2 ^ j) : ups x (2 ^ j) = (x, upN x) :: ups (upN x) (2 ^ j) := by
  have h1 := (up_node j hj x hx hr).2
  have h2 := two_pow_bound hj
  have h3 := lev_le (upN x) (by have := (up_node j hj x hx hr).1; omega)
  unfold ups
  rw [h1, show 11 - lev x = (11 - (lev x + 1)) + 1 by omega, upsF, if_neg hr]
theorem ups_end {j x : Nat} (hj : j < 11) (hx : x + 1 = 2 ^ j) : ups x (2 ^ j) = [] := by
  have h2 := two_pow_bound hj
  have h3 := lev_le x (by omega)
  unfold ups
  rw [show 11 - lev x = (11 - lev x - 1) + 1 by omega, upsF, if_pos hx]
theorem upsF_len : ∀ f x m, (upsF f x m).length ≤ f
  | 0, _, _ => Nat.le_refl _
  | f + 1, x, m => by
    rw [upsF]; split
    · simp
    · have := upsF_len f (upN x) m; simp; omega
theorem ups_len (x m : Nat) : (ups x m).length ≤ 11 := Nat.le_trans (upsF_len _ _ _) (by omega)
def lN (y : Nat) : Nat := y - 2 ^ (lev y - 1)
def rN (y : Nat) : Nat := y + 2 ^ (lev y - 1)
theorem kids : ∀ j, j < 11 → ∀ y, y < 2 * 2 ^ j - 1 → y % 2 = 1 → lev y ≠ 0 ∧ lN y < y ∧ y < rN y ∧ rN y < 2 * 2 ^ j - 1 ∧ upN (lN y) = y ∧ upN (rN y) = y ∧ lN y + 1 ≠ 2 ^ j ∧ rN y + 1 ≠ 2 ^ j ∧ lev (lN y) = lev y - 1 ∧ lev (rN y) = lev y - 1 ∧ lN y + rN y = 2 * y := by
  have h : ((List.range 11).all fun j => (List.range (2 * 2 ^ j - 1)).all fun y => decide (y % 2 = 1 → lev y ≠ 0 ∧ lN y < y ∧ y < rN y ∧ rN y < 2 * 2 ^ j - 1 ∧ upN (lN y) = y ∧ upN (rN y) = y ∧ lN y + 1 ≠ 2 ^ j ∧ rN y + 1 ≠ 2 ^ j ∧ lev (lN y) = lev y - 1 ∧ lev (rN y) = lev y - 1 ∧ lN y + rN y = 2 * y)) = true := by kernel_rfl
  intro j hj x hx
  exact of_decide_eq_true (all_lt (all_lt h j hj) x hx)
theorem lev_even {y : Nat} (h : y % 2 = 0) : lev y = 0 := by
  unfold lev levF
  rw [if_neg (by omega)]
end Go.Proofs.Mth
end
section
/- A part of a slice, up to a bound that is no numeral. -/
set_option linter.unusedVariables false
namespace Go.Pv
variable {P : Program} {Z : Nat → Go.Obj → Prop} {env : Nat → V} {L L' : List Obj} {ops : Array Oper} {rest : List Oper} {K : St → Prop} {d : Tmp}
  {ty t e : TypeId} {pos : String} {af : Array Edge} {x hi : Operand} {sz h : Nat} {xs ys : List V} {k : IntKind} {nl ex : Bool}
theorem pop_slc (hte : P.underlying t = some (.slice e)) (hsz : szT P e = some sz) (hx : St.ev ⟨env, L⟩ x = .sl nl ex xs) (hh : St.ev ⟨env, L⟩ hi = .int k (h : Int)) (hle : h ≤ xs.length)
    (hall : xs.all (fun y => y.cells.length == sz) = true) (hy : xs.take h = ys) :
    pop P L (St.ev ⟨env, L⟩) (.slice t x none (some hi) none) = some (.sl nl (ex && (h == xs.length)) ys, L) := by
  simp only [pop, Option.map_none, Option.map_some, pslice, hte, hx, hsz, hall, if_true, hh]
  simp [pbounds, toNat?, hle, hy]
theorem X.slc (h : Nat) (hx : St.ev ⟨env, L⟩ x = .sl nl ex xs) (hh : St.ev ⟨env, L⟩ hi = .int k (h : Int)) (hle : h ≤ xs.length) (hy : xs.take h = ys)
    (hall : xs.all (fun y => y.cells.length == sz) = true) (hK : XO P Z ops rest (upd env d (.sl nl (ex && (h == xs.length)) ys)) L K)
    (hte : P.underlying t = some (.slice e) := by rfl) (hsz : szT P e = some sz := by rfl) :
    XO P Z ops (⟨some d, .slice t x none (some hi) none, ty, pos, af, none⟩ :: rest) env L K := X.go0 (pop_slc hte hsz hx hh hle hall hy) hK
theorem A.slc (h : Nat) (hx : St.ev ⟨env, L⟩ x = .sl nl ex xs) (hh : St.ev ⟨env, L⟩ hi = .int k (h : Int)) (hle : h ≤ xs.length) (hy : xs.take h = ys)
    (hall : xs.all (fun y => y.cells.length == sz) = true) (hK : AO P Z ops rest (upd env d (.sl nl (ex && (h == xs.length)) ys)) L K)
    (hte : P.underlying t = some (.slice e) := by rfl) (hsz : szT P e = some sz := by rfl) :
    AO P Z ops (⟨some d, .slice t x none (some hi) none, ty, pos, af, none⟩ :: rest) env L K := A.go0 (pop_slc hte hsz hx hh hle hall hy) hK
end Go.Pv
end
section
/- Numbers that stay in range; tests as propositions; nil slices that will grow; slices that will not turn any more; calls that only read. -/
set_option linter.unusedVariables false
set_option linter.unusedSimpArgs false
namespace Go.Pv
variable {P : Program} {Z : Nat → Go.Obj → Prop}
theorem w64R {a : Int} (h : -9223372036854775808 ≤ a ∧ a ≤ 9223372036854775807) : IntKind.i64.wrap a = a := by rw [IntKind.wrap_i64]; omega
section arith
variable {env : Nat → V} {L : List Obj} {ops : Array Oper} {rest : List Oper} {K : St → Prop} {d : Tmp} {ty t t' : TypeId} {pos : String} {af : Array Edge} {x y : Operand} {k k' : IntKind} {a b : Int}
theorem X.addI (hx : St.ev ⟨env, L⟩ x = .int .i64 a) (hy : St.ev ⟨env, L⟩ y = .int .i64 b) (h : -9223372036854775808 ≤ a + b ∧ a + b ≤ 9223372036854775807) (hK : XO P Z ops rest (upd env d (.int .i64 (a + b))) L K) :
    XO P Z ops (⟨some d, .binOp .add t x y t', ty, pos, af, none⟩ :: rest) env L K := X.go0 (by simp [pop, hx, hy, pbin, pint, w64R h]) hK
theorem X.subI (hx : St.ev ⟨env, L⟩ x = .int .i64 a) (hy : St.ev ⟨env, L⟩ y = .int .i64 b) (h : -9223372036854775808 ≤ a - b ∧ a - b ≤ 9223372036854775807) (hK : XO P Z ops rest (upd env d (.int .i64 (a - b))) L K) :
    XO P Z ops (⟨some d, .binOp .sub t x y t', ty, pos, af, none⟩ :: rest) env L K := X.go0 (by simp [pop, hx, hy, pbin, pint, w64R h]) hK
theorem X.mulI (hx : St.ev ⟨env, L⟩ x = .int .i64 a) (hy : St.ev ⟨env, L⟩ y = .int .i64 b) (h : -9223372036854775808 ≤ a * b ∧ a * b ≤ 9223372036854775807) (hK : XO P Z ops rest (upd env d (.int .i64 (a * b))) L K) :
    XO P Z ops (⟨some d, .binOp .mul t x y t', ty, pos, af, none⟩ :: rest) env L K := X.go0 (by simp [pop, hx, hy, pbin, pint, w64R h]) hK
theorem X.remI (hx : St.ev ⟨env, L⟩ x = .int k a) (hy : St.ev ⟨env, L⟩ y = .int k b) (h : 0 ≤ a ∧ 0 < b) (hK : XO P Z ops rest (upd env d (.int k (a % b))) L K) :
    XO P Z ops (⟨some d, .binOp .rem t x y t', ty, pos, af, none⟩ :: rest) env L K := X.rem hx hy (by omega) (Int.tmod_eq_emod_of_nonneg h.1) hK
theorem quo_in {a b : Int} (h : 0 ≤ a ∧ 0 < b ∧ a ≤ 9223372036854775807) : IntKind.i64.wrap (a.tdiv b) = a / b := by
  rw [Int.tdiv_eq_ediv_of_nonneg h.1]
  refine w64R ⟨?_, ?_⟩
  · have := Int.ediv_nonneg h.1 (Int.le_of_lt h.2.1); omega
  · have := Int.ediv_le_self b h.1; omega
theorem X.quoI (hx : St.ev ⟨env, L⟩ x = .int .i64 a) (hy : St.ev ⟨env, L⟩ y = .int .i64 b) (h : 0 ≤ a ∧ 0 < b ∧ a ≤ 9223372036854775807) (hK : XO P Z ops rest (upd env d (.int .i64 (a / b))) L K) :
    XO P Z ops (⟨some d, .binOp .quo t x y t', ty, pos, af, none⟩ :: rest) env L K := X.quo hx hy (by omega) (quo_in h) hK
theorem A.addI (hx : St.ev ⟨env, L⟩ x = .int .i64 a) (hy : St.ev ⟨env, L⟩ y = .int .i64 b) (h : -9223372036854775808 ≤ a + b ∧ a + b ≤ 9223372036854775807) (hK : AO P Z ops rest (upd env d (.int .i64 (a + b))) L K) :
    AO P Z ops (⟨some d, .binOp .add t x y t', ty, pos, af, none⟩ :: rest) env L K := A.go0 (by simp [pop, hx, hy, pbin, pint, w64R h]) hK
theorem A.subI (hx : St.ev ⟨env, L⟩ x = .int .i64 a) (hy : St.ev ⟨env, L⟩ y = .int .i64 b) (h : -9223372036854775808 ≤ a - b ∧ a - b ≤ 9223372036854775807) (hK : AO P Z ops rest (upd env d (.int .i64 (a - b))) L K) :
    AO P Z ops (⟨some d, .binOp .sub t x y t', ty, pos, af, none⟩ :: rest) env L K := A.go0 (by simp [pop, hx, hy, pbin, pint, w64R h]) hK
theorem A.mulI (hx : St.ev ⟨env, L⟩ x = .int .i64 a) (hy : St.ev ⟨env, L⟩ y = .int .i64 b) (h : -9223372036854775808 ≤ a * b ∧ a * b ≤ 9223372036854775807) (hK : AO P Z ops rest (upd env d (.int .i64 (a * b))) L K) :
    AO P Z ops (⟨some d, .binOp .mul t x y t', ty, pos, af, none⟩ :: rest) env L K := A.go0 (by simp [pop, hx, hy, pbin, pint, w64R h]) hK
theorem A.remI (hx : St.ev ⟨env, L⟩ x = .int k a) (hy : St.ev ⟨env, L⟩ y = .int k b) (h : 0 ≤ a ∧ 0 < b) (hK : AO P Z ops rest (upd env d (.int k (a % b))) L K) :
    AO P Z ops (⟨some d, .binOp .rem t x y t', ty, pos, af, none⟩ :: rest) env L K :=
  A.go0 (by have hb : b ≠ 0 := by omega
            simp [pop, hx, hy, pbin, pint, hb, Int.tmod_eq_emod_of_nonneg h.1]) hK
theorem A.quoI (hx : St.ev ⟨env, L⟩ x = .int .i64 a) (hy : St.ev ⟨env, L⟩ y = .int .i64 b) (h : 0 ≤ a ∧ 0 < b ∧ a ≤ 9223372036854775807) (hK : AO P Z ops rest (upd env d (.int .i64 (a / b))) L K) :
    AO P Z ops (⟨some d, .binOp .quo t x y t', ty, pos, af, none⟩ :: rest) env L K :=
  A.go0 (by have hb : b ≠ 0 := by omega
            simp [pop, hx, hy, pbin, pint, hb, quo_in h]) hK
/-- A conversion that keeps the number. -/
theorem X.cvI {u u' : TypeId} {dd : TypeDesc} (hx : St.ev ⟨env, L⟩ x = .int k' a) (hu : P.underlying u = some dd) (hu' : P.underlying u' = some (.int k)) (h : k.wrap a = a) (hK : XO P Z ops rest (upd env d (.int k a)) L K) :
    XO P Z ops (⟨some d, .convert u u' x, ty, pos, af, none⟩ :: rest) env L K := X.go0 (by simp [pop, hx, pconv, hu, hu', h]) hK
theorem A.cvI {u u' : TypeId} {dd : TypeDesc} (hx : St.ev ⟨env, L⟩ x = .int k' a) (hu : P.underlying u = some dd) (hu' : P.underlying u' = some (.int k)) (h : k.wrap a = a) (hK : AO P Z ops rest (upd env d (.int k a)) L K) :
    AO P Z ops (⟨some d, .convert u u' x, ty, pos, af, none⟩ :: rest) env L K := A.go0 (by simp [pop, hx, pconv, hu, hu', h]) hK
end arith

section tests
variable {r : Option Nat} {n : Nat} {Q : Ex → St → Prop} {env : Nat → V} {L : List Obj} {x y : Code} {ops : Array Oper} {rest : List Oper} {K : St → Prop} {dst : Option Tmp} {op : Op} {ty : TypeId} {pos : String} {af : Array Edge} {j : Nat} {want : Bool} {g : Tmp} {p : Prop} {ip : Decidable p}
/-- A test: its proposition. -/
theorem W.cp {c : Operand} (hc : St.ev ⟨env, L⟩ c = .bool (@decide p ip)) (h1 : p → CW P Z r n x Q env L) (h2 : ¬ p → CW P Z r n y Q env L) (ho : okX n c = true := by kernel_rfl) : CW P Z r n (.cond c x y) Q env L :=
  W.cd hc (fun h => h1 (of_decide_eq_true h)) (fun h => h2 (of_decide_eq_false h)) ho
theorem W.cnp {c : Operand} (hc : St.ev ⟨env, L⟩ c = .bool (!@decide p ip)) (h1 : ¬ p → CW P Z r n x Q env L) (h2 : p → CW P Z r n y Q env L) (ho : okX n c = true := by kernel_rfl) : CW P Z r n (.cond c x y) Q env L :=
  W.cd hc (fun h => h1 (of_decide_eq_false (by simpa using h))) (fun h => h2 (of_decide_eq_true (by simpa using h))) ho
theorem W.cpt {c : Operand} (hc : St.ev ⟨env, L⟩ c = .bool (@decide p ip)) (h : p) (h1 : CW P Z r n x Q env L) (ho : okX n c = true := by kernel_rfl) : CW P Z r n (.cond c x y) Q env L :=
  W.ct (by rw [hc, decide_eq_true h]) h1 ho
theorem W.cpf {c : Operand} (hc : St.ev ⟨env, L⟩ c = .bool (@decide p ip)) (h : ¬ p) (h1 : CW P Z r n y Q env L) (ho : okX n c = true := by kernel_rfl) : CW P Z r n (.cond c x y) Q env L :=
  W.cf (by rw [hc, decide_eq_false h]) h1 ho
theorem W.cnt {c : Operand} (hc : St.ev ⟨env, L⟩ c = .bool (!@decide p ip)) (h : ¬ p) (h1 : CW P Z r n x Q env L) (ho : okX n c = true := by kernel_rfl) : CW P Z r n (.cond c x y) Q env L :=
  W.ct (by rw [hc, decide_eq_false h]; rfl) h1 ho
theorem W.cnf {c : Operand} (hc : St.ev ⟨env, L⟩ c = .bool (!@decide p ip)) (h : p) (h1 : CW P Z r n y Q env L) (ho : okX n c = true := by kernel_rfl) : CW P Z r n (.cond c x y) Q env L :=
  W.cf (by rw [hc, decide_eq_true h]; rfl) h1 ho
theorem X.gp (hj : (ops[j]?).bind (·.dst) = some g) (hg : env g = .bool (@decide p ip)) (h1 : p → XO P Z ops (⟨dst, op, ty, pos, af, some (j, want)⟩ :: rest) (upd env g (.bool true)) L K)
    (h2 : ¬ p → XO P Z ops (⟨dst, op, ty, pos, af, some (j, want)⟩ :: rest) (upd env g (.bool false)) L K) : XO P Z ops (⟨dst, op, ty, pos, af, some (j, want)⟩ :: rest) env L K :=
  X.gs hj hg (fun h => h1 (of_decide_eq_true h)) (fun h => h2 (of_decide_eq_false h))
theorem A.gp (hj : (ops[j]?).bind (·.dst) = some g) (hg : env g = .bool (@decide p ip)) (h1 : p → AO P Z ops (⟨dst, op, ty, pos, af, some (j, want)⟩ :: rest) (upd env g (.bool true)) L K)
    (h2 : ¬ p → AO P Z ops (⟨dst, op, ty, pos, af, some (j, want)⟩ :: rest) (upd env g (.bool false)) L K) : AO P Z ops (⟨dst, op, ty, pos, af, some (j, want)⟩ :: rest) env L K :=
  A.gs hj hg (fun h => h1 (of_decide_eq_true h)) (fun h => h2 (of_decide_eq_false h))
theorem X.gnp (hj : (ops[j]?).bind (·.dst) = some g) (hg : env g = .bool (!@decide p ip)) (h1 : ¬ p → XO P Z ops (⟨dst, op, ty, pos, af, some (j, want)⟩ :: rest) (upd env g (.bool true)) L K)
    (h2 : p → XO P Z ops (⟨dst, op, ty, pos, af, some (j, want)⟩ :: rest) (upd env g (.bool false)) L K) : XO P Z ops (⟨dst, op, ty, pos, af, some (j, want)⟩ :: rest) env L K :=
  X.gs hj hg (fun h => h1 (of_decide_eq_false (by simpa using h))) (fun h => h2 (of_decide_eq_true (by simpa using h)))
theorem A.gnp (hj : (ops[j]?).bind (·.dst) = some g) (hg : env g = .bool (!@decide p ip)) (h1 : ¬ p → AO P Z ops (⟨dst, op, ty, pos, af, some (j, want)⟩ :: rest) (upd env g (.bool true)) L K)
    (h2 : p → AO P Z ops (⟨dst, op, ty, pos, af, some (j, want)⟩ :: rest) (upd env g (.bool false)) L K) : AO P Z ops (⟨dst, op, ty, pos, af, some (j, want)⟩ :: rest) env L K :=
  A.gs hj hg (fun h => h1 (of_decide_eq_false (by simpa using h))) (fun h => h2 (of_decide_eq_true (by simpa using h)))
/-- The guard, decided. -/
theorem X.gpt (hj : (ops[j]?).bind (·.dst) = some g) (hg : env g = .bool (@decide p ip)) (h : p) (h1 : XO P Z ops (⟨dst, op, ty, pos, af, some (j, want)⟩ :: rest) (upd env g (.bool true)) L K) : XO P Z ops (⟨dst, op, ty, pos, af, some (j, want)⟩ :: rest) env L K :=
  X.gp hj hg (fun _ => h1) (fun hn => absurd h hn)
theorem X.gpf (hj : (ops[j]?).bind (·.dst) = some g) (hg : env g = .bool (@decide p ip)) (h : ¬ p) (h1 : XO P Z ops (⟨dst, op, ty, pos, af, some (j, want)⟩ :: rest) (upd env g (.bool false)) L K) : XO P Z ops (⟨dst, op, ty, pos, af, some (j, want)⟩ :: rest) env L K :=
  X.gp hj hg (fun hp => absurd hp h) (fun _ => h1)
theorem X.gnt (hj : (ops[j]?).bind (·.dst) = some g) (hg : env g = .bool (!@decide p ip)) (h : ¬ p) (h1 : XO P Z ops (⟨dst, op, ty, pos, af, some (j, want)⟩ :: rest) (upd env g (.bool true)) L K) : XO P Z ops (⟨dst, op, ty, pos, af, some (j, want)⟩ :: rest) env L K :=
  X.gnp hj hg (fun _ => h1) (fun hp => absurd hp h)
theorem X.gnf (hj : (ops[j]?).bind (·.dst) = some g) (hg : env g = .bool (!@decide p ip)) (h : p) (h1 : XO P Z ops (⟨dst, op, ty, pos, af, some (j, want)⟩ :: rest) (upd env g (.bool false)) L K) : XO P Z ops (⟨dst, op, ty, pos, af, some (j, want)⟩ :: rest) env L K :=
  X.gnp hj hg (fun hn => absurd h hn) (fun _ => h1)
theorem A.gpt (hj : (ops[j]?).bind (·.dst) = some g) (hg : env g = .bool (@decide p ip)) (h : p) (h1 : AO P Z ops (⟨dst, op, ty, pos, af, some (j, want)⟩ :: rest) (upd env g (.bool true)) L K) : AO P Z ops (⟨dst, op, ty, pos, af, some (j, want)⟩ :: rest) env L K :=
  A.gp hj hg (fun _ => h1) (fun hn => absurd h hn)
theorem A.gpf (hj : (ops[j]?).bind (·.dst) = some g) (hg : env g = .bool (@decide p ip)) (h : ¬ p) (h1 : AO P Z ops (⟨dst, op, ty, pos, af, some (j, want)⟩ :: rest) (upd env g (.bool false)) L K) : AO P Z ops (⟨dst, op, ty, pos, af, some (j, want)⟩ :: rest) env L K :=
  A.gp hj hg (fun hp => absurd hp h) (fun _ => h1)
theorem A.gnt (hj : (ops[j]?).bind (·.dst) = some g) (hg : env g = .bool (!@decide p ip)) (h : ¬ p) (h1 : AO P Z ops (⟨dst, op, ty, pos, af, some (j, want)⟩ :: rest) (upd env g (.bool true)) L K) : AO P Z ops (⟨dst, op, ty, pos, af, some (j, want)⟩ :: rest) env L K :=
  A.gnp hj hg (fun _ => h1) (fun hp => absurd hp h)
theorem A.gnf (hj : (ops[j]?).bind (·.dst) = some g) (hg : env g = .bool (!@decide p ip)) (h : p) (h1 : AO P Z ops (⟨dst, op, ty, pos, af, some (j, want)⟩ :: rest) (upd env g (.bool false)) L K) : AO P Z ops (⟨dst, op, ty, pos, af, some (j, want)⟩ :: rest) env L K :=
  A.gnp hj hg (fun hn => absurd h hn) (fun _ => h1)
end tests

section ghosts
variable {r : Option Nat} {n : Nat} {Q : Ex → St → Prop} {env : Nat → V} {L : List Obj} {c : Code}
theorem SR.rel' {N0 : Nat} {G G' : Gh} {st : St} {env' : Nat → V} {L' : List Obj} {a : Act} {w : World} (h : SR Z N0 n G st a w) (hr : Rel Z G' L' w) (hv : ∀ t, t < n → VR G' (env' t) (a.tmps.getD t undef)) :
    SR Z N0 n G' ⟨env', L'⟩ a w := ⟨h.size, hv, hr, h.ds⟩
/-- An empty slice without room, seen as one that grows. -/
theorem W.ghost (t sz : Nat) {nl : Bool} (h : env t = .sl nl true []) (hK : CW P Z r n c Q (upd env t (.own L.length 0 0 0)) (L ++ [.buf sz 0 []])) : CW P Z r n c Q env L := by
  refine ⟨?_⟩
  intro N0 G a w hN hs
  obtain ⟨hr1, he1⟩ := hs.rel.addExt (sz := sz) (B := 0) (O := 0) (xs := []) (by simp) ⟨fun _ => undef, fun p hp => by simp [flat] at hp⟩
  refine (hK.out N0 _ a w hN (hs.rel' hr1 fun i hi => ?_)).mono fun e a' w' ⟨st', G', h1, h2, h3⟩ => ⟨st', G', h1, h2, he1.trans h3⟩
  unfold upd
  split
  · rename_i hit; subst hit
    have hv := hs.tm i hi
    simp only at hv
    rw [h] at hv
    have key : ∀ v, VR G (.sl nl true []) v → ∃ A, v = .slice A 0 0 := by
      intro v hv
      cases hv with
      | slnil => exact ⟨_, rfl⟩
      | sl0 hx => rw [hx rfl]; exact ⟨_, rfl⟩
      | sl sz vs hne _ _ _ _ _ => exact absurd rfl hne
    obtain ⟨A, hA⟩ := key _ hv
    rw [hA]
    exact .own (loc := .ext 0 0 sz) (Gh.addR_self _ _ _ _) (Nat.le_refl _) ⟨rfl, .inl rfl⟩
  · exact (hs.tm i hi).mono he1.le

/-- A slice that will not turn any more. -/
theorem Rel.freeze {G : Gh} {w : World} (hr : Rel Z G L w) {id sz m : Nat} {xs : List V} (hL : L[id]? = some (.buf sz m xs)) :
    ∃ G', Rel Z G' (L.set id (.buf sz xs.length xs)) w ∧ Evo G L w G' (L.set id (.buf sz xs.length xs)) w ∧
      ∀ {off len : Nat} {v : Value}, VR G (.own id off len xs.length) v → VR G' (.sl false false ((xs.drop off).take len)) v := by
  obtain ⟨hmx, hszs, loc, hloc, hlo⟩ := hr.ok id _ hL
  have hslice : ∀ {G' : Gh} (ys : List V) (A : Option Addr) (len c : Nat), ys.length = len → len ≤ c → (ys = [] ∨ ∃ B O sz, A = some ⟨B, O, Option.none⟩ ∧ (∀ y ∈ ys, y.cells.length = sz) ∧
      ∃ vs : Nat → Value, (∀ p, p < (flat ys).length → G'.K B (O + p) (vs p)) ∧ ∀ p (hp : p < (flat ys).length), VR G' (flat ys)[p] (vs p)) → VR G' (.sl false false ys) (.slice A len c) := by
    rintro G' ys A len c rfl hc hh
    by_cases hne : ys = []
    · subst hne; exact .sl0 (by simp)
    · obtain ⟨B, O, sz, rfl, hsz, vs, h1, h2⟩ := hh.resolve_left hne
      exact .sl sz vs hne (by simp) hc hsz h1 h2
  cases loc with
  | obj b => exact hlo.elim
  | ext B O sz' =>
    obtain ⟨hs2, hm2, vs, hvv⟩ := hlo
    subst hs2 hm2
    have hset : L.set id (.buf sz' xs.length xs) = L := by
      refine List.ext_getElem? fun i => ?_
      by_cases hi : id = i
      · subst hi; rw [List.getElem?_set_self (List.getElem?_eq_some_iff.1 hL).1]; exact hL.symm
      · rw [List.getElem?_set_ne hi]
    rw [hset]
    refine ⟨G, hr, .refl _ _ _, fun {off len v} hv => ?_⟩
    cases hv with
    | own hid hle ha =>
      have hloc2 := hr.fn _ _ _ _ hid hloc
      subst hloc2
      have hflat : flat ((xs.drop off).take len) = ((flat xs).drop (off * sz')).take (len * sz') := by
        rw [flat_take len (fun y hy => hszs y (List.mem_of_mem_drop hy)), flat_drop off hszs]
      obtain ⟨a1, a2⟩ := ha
      refine hslice _ _ _ _ (by simp; omega) (by omega) ?_
      by_cases hn0 : len = 0
      · exact .inl (by subst hn0; simp)
      · refine .inr ⟨B, O + off * sz', sz', a2.resolve_left (by omega), fun y hy => hszs y (List.mem_of_mem_drop (List.mem_of_mem_take hy)), fun p => vs (off * sz' + p), fun p hp => ?_, fun p hp => ?_⟩
        · rw [hflat] at hp
          have hlt : off * sz' + p < (flat xs).length := by simp at hp; omega
          rw [Nat.add_assoc]; exact (hvv _ hlt).1
        · have hp' := hp
          rw [hflat] at hp'
          have hlt : off * sz' + p < (flat xs).length := by simp at hp'; omega
          have := (hvv _ hlt).2
          simpa [hflat] using this
  | blk b cap sz' =>
    obtain ⟨hs2, hcap, cc, e, fr, hh, hf, hcs, hvv⟩ := hlo
    subst hs2
    have hat : At G id (.buf sz' m xs) b := .inr ⟨_, _, hloc⟩
    have hle := Gh.le_addK G fun B o v => B = b ∧ o < xs.length * sz' ∧ w.cell? ⟨b, o, Option.none⟩ = some v
    have hfl := flat_length hszs
    have hcell : ∀ o, o < cap * sz' → w.cell? ⟨b, o, Option.none⟩ = some (cc.getD o undef) := fun o ho => cell_of_heap hh (by rw [hcs]; exact ho)
    have hlec : xs.length * sz' ≤ cap * sz' := Nat.mul_le_mul_right _ hcap.1
    obtain ⟨h1, h2⟩ := hr.change (G' := G.addK fun B o v => B = b ∧ o < xs.length * sz' ∧ w.cell? ⟨b, o, Option.none⟩ = some v) (w' := w) (ob' := .buf sz' xs.length xs) hL hat hle rfl (fun _ _ => rfl)
      ⟨Nat.le_refl _, hszs, .blk b cap sz', hloc, rfl, hcap, cc, e, fr, hh, hf, hcs, fun p hp => (hvv p hp).mono hle⟩
      (fun B hB => by
        rcases hB with hB | ⟨c', s', hB⟩ <;> have := hr.fn _ _ _ _ hB hloc <;> simp at this
        exact this.1)
      (fun _ _ _ h => .inl h) hr.fn
      (fun sz2 m2 xs2 heq g l hg => by
        simp only [Obj.buf.injEq] at heq
        rw [← heq.2.2]
        exact hr.rg _ _ _ _ _ _ hg hL)
      (fun o v hk => by
        rcases hk with hk | ⟨_, ho, hk⟩
        · refine ⟨hr.kc _ _ _ hk, sz', _, xs, rfl, ?_⟩
          obtain ⟨s3, m3, x3, he3, ho3⟩ := hr.kw _ _ _ _ _ hk hL hat
          simp only [Obj.buf.injEq] at he3
          obtain ⟨rfl, rfl, rfl⟩ := he3
          exact Nat.lt_of_lt_of_le ho3 (Nat.mul_le_mul_right _ hmx)
        · exact ⟨hk, sz', _, xs, rfl, ho⟩)
      (fun B o v hne hk => hk.resolve_right fun h => hne h.1)
    refine ⟨_, h1, h2, fun {off len v} hv => ?_⟩
    cases hv with
    | own hid hle' ha =>
      have hloc2 := hr.fn _ _ _ _ hid hloc
      subst hloc2
      have hflat : flat ((xs.drop off).take len) = ((flat xs).drop (off * sz')).take (len * sz') := by
        rw [flat_take len (fun y hy => hszs y (List.mem_of_mem_drop hy)), flat_drop off hszs]
      obtain ⟨a1, a2, a3⟩ := ha
      refine hslice _ _ _ _ (by simp; omega) (by omega) ?_
      by_cases hn0 : len = 0
      · exact .inl (by subst hn0; simp)
      · refine .inr ⟨b, off * sz', sz', a3.resolve_left (by omega), fun y hy => hszs y (List.mem_of_mem_drop (List.mem_of_mem_take hy)), fun p => cc.getD (off * sz' + p) undef, fun p hp => ?_, fun p hp => ?_⟩
        · rw [hflat] at hp
          have hlt : off * sz' + p < (flat xs).length := by simp at hp; omega
          exact .inr ⟨rfl, by omega, hcell _ (by omega)⟩
        · have hp' := hp
          rw [hflat] at hp'
          have hlt : off * sz' + p < (flat xs).length := by simp at hp'; omega
          have := (hvv _ hlt).mono hle
          simpa [hflat] using this
theorem W.fz (t : Nat) {id off len sz m : Nat} {xs : List V} (h : env t = .own id off len xs.length) (hL : L[id]? = some (.buf sz m xs))
    (hK : CW P Z r n c Q (upd env t (.sl false false ((xs.drop off).take len))) (L.set id (.buf sz xs.length xs))) : CW P Z r n c Q env L := by
  refine ⟨?_⟩
  intro N0 G a w hN hs
  obtain ⟨G1, hr1, he1, hv1⟩ := hs.rel.freeze hL
  refine (hK.out N0 _ a w hN (hs.rel' hr1 fun i hi => ?_)).mono fun e a' w' ⟨st', G', h1, h2, h3⟩ => ⟨st', G', h1, h2, he1.trans h3⟩
  unfold upd
  split
  · rename_i hit; subst hit
    have hv := hs.tm i hi
    simp only at hv
    rw [h] at hv
    exact hv1 hv
  · exact (hs.tm i hi).mono he1.le
/-- A slice of which less is told. -/
theorem W.weak (t : Nat) {nl ex : Bool} {xs : List V} (h : env t = .sl nl ex xs) (hK : CW P Z r n c Q (upd env t (.sl false false xs)) L) : CW P Z r n c Q env L := by
  refine ⟨?_⟩
  intro N0 G a w hN hs
  refine hK.out N0 _ a w hN (hs.rel' hs.rel fun i hi => ?_)
  unfold upd
  split
  · rename_i hit; subst hit
    have hv := hs.tm i hi
    simp only at hv
    rw [h] at hv
    generalize a.tmps.getD i undef = u at hv
    cases hv with
    | slnil => exact .sl0 (by simp)
    | sl0 hx => exact .sl0 (by simp)
    | sl sz vs hne hx hc hsz hk hv => exact .sl sz vs hne (by simp) hc hsz hk hv
  · exact hs.tm i hi
end ghosts

/-! ### calls that only read -/
mutual
/-- A value without memory. -/
def V.plain : V → Bool
  | .bool _ | .int _ _ | .str _ | .nilp | .nilf | .nilmap => true
  | .tup vs | .agg vs => V.plains vs
  | _ => false
def V.plains : List V → Bool
  | [] => true
  | v :: vs => V.plain v && V.plains vs
end
theorem V.plains_iff : ∀ {vs : List V}, V.plains vs = true ↔ ∀ v ∈ vs, V.plain v = true
  | [] => by simp [V.plains]
  | v :: vs => by simp [V.plains, V.plains_iff (vs := vs)]
theorem VR.plain {G G' : Gh} {v : V} {r : Value} (h : VR G v r) : V.plain v = true → VR G' v r := by
  induction h with
  | bool b => exact fun _ => .bool b
  | int k n => exact fun _ => .int k n
  | str s => exact fun _ => .str s
  | nilp => exact fun _ => .nilp
  | nilf => exact fun _ => .nilf
  | nilmap => exact fun _ => .nilmap
  | agg hn _ ih => exact fun hp => .agg hn fun p h => ih p h (V.plains_iff.1 hp _ (List.getElem_mem h))
  | tup hn _ ih => exact fun hp => .tup hn fun p h => ih p h (V.plains_iff.1 hp _ (List.getElem_mem h))
  | _ => intro hp; simp [V.plain] at hp
/-- What is lent for a call, and what the call sees. -/
inductive Bor (L : List Obj) : V → V → Prop
  | same {v : V} (h : V.lt 0 v = true) : Bor L v v
  | own {id off len sz m : Nat} {xs ys : List V} (hL : L[id]? = some (.buf sz m xs)) (hx : V.lts 0 xs = true) (hy : (xs.drop off).take len = ys) : Bor L (.own id off len xs.length) (.sl false false ys)
  | ref {id off : Nat} {cs ds : List V} (hL : L[id]? = some (.box cs)) (hx : V.lts 0 cs = true) (hd : cs.drop off = ds) : Bor L (.ref id off) (.cref ds)
  | bsl {id off len : Nat} {cs ds : List V} (hL : L[id]? = some (.box cs)) (hx : V.lts 0 cs = true) (hd : (cs.drop off).take len = ds) (hle : off + len ≤ cs.length) : Bor L (.bsl id off len) (.sl false false ds)
inductive Bors (L : List Obj) : List V → List V → Prop
  | nil : Bors L [] []
  | cons {a b : V} {as bs : List V} (h : Bor L a b) (hs : Bors L as bs) : Bors L (a :: as) (b :: bs)
theorem Bors.length {L : List Obj} {as bs : List V} (h : Bors L as bs) : as.length = bs.length := by induction h <;> simp_all
theorem Bors.get {L : List Obj} {as bs : List V} (h : Bors L as bs) : ∀ p (h1 : p < as.length) (h2 : p < bs.length), Bor L as[p] bs[p] := by
  induction h with
  | nil => intro p h1; simp at h1
  | cons h _ ih =>
    intro p h1 h2
    cases p with
    | zero => exact h
    | succ p => exact ih p (by simpa using h1) (by simpa using h2)
theorem Bor.sound {G : Gh} {L : List Obj} {w : World} (hr : Rel Z G L w) {a b : V} {v : Value} (hb : Bor L a b) (hv : VR G a v) :
    VR ⟨fun B o u => G.K B o u ∨ (Held G L B ∧ w.cell? ⟨B, o, none⟩ = some u), fun _ _ _ => False⟩ b v := by
  have hcut : ∀ {a : V} {v : Value}, VR G a v → V.lt 0 a = true → VR ⟨fun B o u => G.K B o u ∨ (Held G L B ∧ w.cell? ⟨B, o, none⟩ = some u), fun _ _ _ => False⟩ a v := by
    intro a v hv h
    have h1 : VR (G.cut 0) a v := hv.cut h
    refine h1.mono ⟨fun {B o v} hk => Or.inl hk, fun {id g l} hh => ?_⟩
    have := hh.2
    omega
  have hslice : ∀ {G' : Gh} (ys : List V) (A : Option Addr) (len c : Nat), ys.length = len → len ≤ c → (ys = [] ∨ ∃ B O sz, A = some ⟨B, O, none⟩ ∧ (∀ y ∈ ys, y.cells.length = sz) ∧
      ∃ vs : Nat → Value, (∀ p, p < (flat ys).length → G'.K B (O + p) (vs p)) ∧ ∀ p (hp : p < (flat ys).length), VR G' (flat ys)[p] (vs p)) → VR G' (.sl false false ys) (.slice A len c) := by
    rintro G' ys A len c rfl hc hh
    by_cases hne : ys = []
    · subst hne; exact .sl0 (by simp)
    · obtain ⟨B, O, sz, rfl, hsz, vs, h1, h2⟩ := hh.resolve_left hne
      exact .sl sz vs hne (by simp) hc hsz h1 h2
  cases hb with
  | same h => exact hcut hv h
  | @own id off len sz m xs ys hL hx hy =>
    subst hy
    obtain ⟨hmx, hszs, loc, hloc, hlo⟩ := hr.ok id _ hL
    cases hv with
    | own hid hle ha =>
      have hloc2 := hr.fn _ _ _ _ hid hloc
      subst hloc2
      rename_i c0 loc A0
      cases loc with
      | obj b => exact hlo.elim
      | ext B O sz' =>
        obtain ⟨hs2, hm2, vs, hvv⟩ := hlo
        subst hs2
        have hflat : flat ((xs.drop off).take len) = ((flat xs).drop (off * sz')).take (len * sz') := by
          rw [flat_take len (fun y hy => hszs y (List.mem_of_mem_drop hy)), flat_drop off hszs]
        obtain ⟨a1, a2⟩ := ha
        refine hslice _ _ _ _ (by simp; omega) (by omega) ?_
        by_cases hn0 : len = 0
        · exact .inl (by subst hn0; simp)
        · refine .inr ⟨B, O + off * sz', sz', a2.resolve_left (by omega), fun y hy => hszs y (List.mem_of_mem_drop (List.mem_of_mem_take hy)), fun p => vs (off * sz' + p), fun p hp => ?_, fun p hp => ?_⟩
          · rw [hflat] at hp
            have hlt : off * sz' + p < (flat xs).length := by simp at hp; omega
            rw [Nat.add_assoc]; exact .inl (hvv _ hlt).1
          · have hp' := hp
            rw [hflat] at hp'
            have hlt : off * sz' + p < (flat xs).length := by simp at hp'; omega
            have := hcut (hvv _ hlt).2 (V.lts_mem (V.lts_flat hx) hlt)
            simpa [hflat] using this
      | blk b cap sz' =>
        obtain ⟨hs2, hcap, cc, e, fr, hh, hf, hcs, hvv⟩ := hlo
        subst hs2
        have hat : At G id (.buf sz' m xs) b := .inr ⟨_, _, hloc⟩
        have hfl := flat_length hszs
        have hlec : xs.length * sz' ≤ cap * sz' := Nat.mul_le_mul_right _ hcap.1
        have hflat : flat ((xs.drop off).take len) = ((flat xs).drop (off * sz')).take (len * sz') := by
          rw [flat_take len (fun y hy => hszs y (List.mem_of_mem_drop hy)), flat_drop off hszs]
        obtain ⟨a1, a2, a3⟩ := ha
        refine hslice _ _ _ _ (by simp; omega) (by omega) ?_
        by_cases hn0 : len = 0
        · exact .inl (by subst hn0; simp)
        · refine .inr ⟨b, off * sz', sz', a3.resolve_left (by omega), fun y hy => hszs y (List.mem_of_mem_drop (List.mem_of_mem_take hy)), fun p => cc.getD (off * sz' + p) undef, fun p hp => ?_, fun p hp => ?_⟩
          · rw [hflat] at hp
            have hlt : off * sz' + p < (flat xs).length := by simp at hp; omega
            exact .inr ⟨⟨id, _, hL, hat⟩, cell_of_heap hh (by omega)⟩
          · have hp' := hp
            rw [hflat] at hp'
            have hlt : off * sz' + p < (flat xs).length := by simp at hp'; omega
            have := hcut (hvv _ hlt) (V.lts_mem (V.lts_flat hx) hlt)
            simpa [hflat] using this
  | @ref id off cs ds hL hx hd =>
    subst hd
    obtain ⟨b, cc, e, fr, hrb, hh, hf, hcs, hvv, hone⟩ := hr.ok id _ hL
    cases hv with
    | ref hid =>
      have hloc2 := hr.fn _ _ _ _ hid hrb
      simp only [Loc.obj.injEq] at hloc2
      subst hloc2
      refine .cref (fun p => cc.getD (off + p) undef) (fun p hp => ?_) (fun p hp => ?_)
      · have hlt : off + p < cs.length := by simp at hp; omega
        exact .inr ⟨⟨id, _, hL, .inl hrb⟩, cell_of_heap hh (by omega)⟩
      · have hlt : off + p < cs.length := by simp at hp; omega
        have := hcut (hvv _ hlt) (V.lts_mem hx hlt)
        simpa using this
  | @bsl id off len cs ds hL hx hd hle =>
    subst hd
    obtain ⟨b, cc, e, fr, hrb, hh, hf, hcs, hvv, hone⟩ := hr.ok id _ hL
    cases hv with
    | bsl hid hc ha =>
      have hloc2 := hr.fn _ _ _ _ hid hrb
      simp only [Loc.obj.injEq] at hloc2
      subst hloc2
      have ho : ∀ c ∈ (cs.drop off).take len, c.one = true := fun c hc => hone c (List.mem_of_mem_drop (List.mem_of_mem_take hc))
      have hfl := flat_ones ho
      refine hslice _ _ _ _ (by simp; omega) hc ?_
      by_cases hn0 : len = 0
      · exact .inl (by subst hn0; simp)
      · refine .inr ⟨_, off, 1, ha.resolve_left (by omega), fun y hy => ?_, fun p => cc.getD (off + p) undef, fun p hp => ?_, fun p hp => ?_⟩
        · have := ho y hy; cases y <;> first | rfl | (simp [V.one] at this)
        · rw [hfl] at hp
          have hlt : off + p < cs.length := by simp at hp; omega
          exact .inr ⟨⟨id, _, hL, .inl hrb⟩, cell_of_heap hh (by omega)⟩
        · have hp' := hp
          rw [hfl] at hp'
          have hlt : off + p < cs.length := by simp at hp'; omega
          have := hcut (hvv _ hlt) (V.lts_mem hx hlt)
          simpa [hfl] using this
/-- A call that only reads, made with slices and places that are one's own. -/
theorem SE.borrow {f : FuncId} {args args' : List V} {v : V} {L : List Obj} (h : SE P Z f args' [] v []) (hb : Bors L args args') (hv : V.plain v = true) : SE P Z f args L v L := by
  refine ⟨⟨h.out.1, fun G w rargs hr hra => ?_⟩⟩
  let G0 : Gh := ⟨fun B o u => G.K B o u ∨ (Held G L B ∧ w.cell? ⟨B, o, none⟩ = some u), fun _ _ _ => False⟩
  have hheld0 : ∀ G1 B, ¬ Held G1 [] B := fun G1 B ⟨id, ob, h, _⟩ => by simp at h
  have hr0 : Rel Z G0 [] w := ⟨fun B o u hk => hk.elim (hr.kc B o u) (·.2), by simp, fun _ _ _ _ h => h.elim, by simp, by simp, fun _ _ _ h => h.elim, by simp, hr.zc, fun B _ _ => hheld0 _ B⟩
  refine (h.out.2 G0 w rargs hr0 ⟨by rw [hra.1, hb.length], fun p hp => Bor.sound hr (hb.get p (by rw [hb.length]; exact hp) hp) (hra.2 p (by rw [hb.length]; exact hp))⟩).mono ?_
  rintro rv w' ⟨G', M, u, ⟨rfl, rfl⟩, hr', he, hvv⟩
  have hold : ∀ B, B < w.heap.size → w'.heap[B]? = w.heap[B]? := fun B hB => he.keep B hB (hheld0 _ B)
  refine ⟨G, L, _, ⟨rfl, rfl⟩, ⟨fun B o u hk => ?_, fun id ob hid => (hr.ok id ob hid).mono (.refl _) (fun b _ hb => hold b hb), hr.fn, hr.dis, hr.kw, hr.rl, hr.rg, hr'.zc, hr.zh⟩,
    ⟨.refl _, he.size, fun B hB _ => hold B hB, fun _ ob _ h1 h2 => .inl ⟨ob, h1, h2⟩, fun _ _ _ hk => .inl hk, he.io⟩, hvv.plain hv⟩
  have := hr.kc B o u hk
  rw [World.cell_congr (w := w) (hold B (World.cell_lt this))]; exact this
end Go.Pv
end
section
/- Slices of elements that are alike: their lengths, elements, stores, appends. -/
set_option linter.unusedVariables false
set_option linter.unusedSimpArgs false
set_option linter.unusedSectionVars false
namespace Go.Pv
variable {P : Program} {Z : Nat → Go.Obj → Prop}
def rd {α : Type} [Inhabited α] (l : List α) (i : Int) : α := l.getD i.toNat default
theorem rd_nat {α : Type} [Inhabited α] (l : List α) (i : Nat) : rd l (i : Int) = l.getD i default := rfl
theorem rd_get {α : Type} [Inhabited α] {l : List α} {i : Int} (h : 0 ≤ i ∧ i < (l.length : Int)) : l[i.toNat]? = some (rd l i) := by
  have hi : i.toNat < l.length := by omega
  rw [rd, List.getD_eq_getElem?_getD, List.getElem?_eq_getElem hi]; rfl
section
variable {env : Nat → V} {L L' : List Obj} {ops : Array Oper} {rest : List Oper} {K : St → Prop} {d : Tmp}
  {ty t e u : TypeId} {pos : String} {af : Array Edge} {x s i y : Operand} {id sz m gen len off : Nat} {k : IntKind} {nl ex : Bool} {α : Type} [Inhabited α] {g : α → V} {l l2 : List α} {c : Int} {a : α} {ats : Array TypeId} {cs : List V} {dd : TypeDesc}
theorem X.lnS (hx : St.ev ⟨env, L⟩ x = .sl nl ex (l.map g)) (hK : XO P Z ops rest (upd env d (.int .i64 (l.length : Nat))) L K) (ht : ats[0]? = some t := by rfl) (hu : P.underlying t = some (.slice e) := by rfl) :
    XO P Z ops (⟨some d, .call ⟨.builtin .len, #[x], ats⟩, ty, pos, af, none⟩ :: rest) env L K := X.go0 (by simp [pop, pbuiltin, hx, ht, hu]) hK
theorem A.lnS (hx : St.ev ⟨env, L⟩ x = .sl nl ex (l.map g)) (hK : AO P Z ops rest (upd env d (.int .i64 (l.length : Nat))) L K) (ht : ats[0]? = some t := by rfl) (hu : P.underlying t = some (.slice e) := by rfl) :
    AO P Z ops (⟨some d, .call ⟨.builtin .len, #[x], ats⟩, ty, pos, af, none⟩ :: rest) env L K := A.go0 (by simp [pop, pbuiltin, hx, ht, hu]) hK
theorem X.lnO (hx : St.ev ⟨env, L⟩ x = .own id off (l.map g).length gen) (hK : XO P Z ops rest (upd env d (.int .i64 (l.length : Nat))) L K) (ht : ats[0]? = some t := by rfl) (hu : P.underlying t = some (.slice e) := by rfl) :
    XO P Z ops (⟨some d, .call ⟨.builtin .len, #[x], ats⟩, ty, pos, af, none⟩ :: rest) env L K := X.go0 (by simp [pop, pbuiltin, hx, ht, hu]) hK
theorem A.lnO (hx : St.ev ⟨env, L⟩ x = .own id off (l.map g).length gen) (hK : AO P Z ops rest (upd env d (.int .i64 (l.length : Nat))) L K) (ht : ats[0]? = some t := by rfl) (hu : P.underlying t = some (.slice e) := by rfl) :
    AO P Z ops (⟨some d, .call ⟨.builtin .len, #[x], ats⟩, ty, pos, af, none⟩ :: rest) env L K := A.go0 (by simp [pop, pbuiltin, hx, ht, hu]) hK
theorem map_rd (h : 0 ≤ c ∧ c < (l.length : Int)) : (l.map g)[c.toNat]? = some (g (rd l c)) := by
  rw [List.getElem?_map, rd_get h]; rfl
theorem pop_iaS (hx : St.ev ⟨env, L⟩ x = .sl nl ex (l.map g)) (hi : St.ev ⟨env, L⟩ i = .int k c) (h : 0 ≤ c ∧ c < (l.length : Int)) (hte : P.underlying t = some (.slice e)) (hsz : szT P e = some sz) (hy : (g (rd l c)).cells.length = sz) :
    pop P L (St.ev ⟨env, L⟩) (.indexAddr t x i) = some (.cref (g (rd l c)).cells, L) :=
  pop_ias (n := c.toNat) hte hsz hx (by rw [hi, Int.toNat_of_nonneg h.1]) (map_rd h) hy
theorem X.iaS (hx : St.ev ⟨env, L⟩ x = .sl nl ex (l.map g)) (hi : St.ev ⟨env, L⟩ i = .int k c) (h : 0 ≤ c ∧ c < (l.length : Int)) (hK : XO P Z ops rest (upd env d (.cref (g (rd l c)).cells)) L K)
    (hte : P.underlying t = some (.slice e) := by rfl) (hsz : szT P e = some sz := by rfl) (hy : (g (rd l c)).cells.length = sz := by rfl) :
    XO P Z ops (⟨some d, .indexAddr t x i, ty, pos, af, none⟩ :: rest) env L K := X.go0 (pop_iaS hx hi h hte hsz hy) hK
theorem A.iaS (hx : St.ev ⟨env, L⟩ x = .sl nl ex (l.map g)) (hi : St.ev ⟨env, L⟩ i = .int k c) (h : 0 ≤ c ∧ c < (l.length : Int)) (hK : AO P Z ops rest (upd env d (.cref (g (rd l c)).cells)) L K)
    (hte : P.underlying t = some (.slice e) := by rfl) (hsz : szT P e = some sz := by rfl) (hy : (g (rd l c)).cells.length = sz := by rfl) :
    AO P Z ops (⟨some d, .indexAddr t x i, ty, pos, af, none⟩ :: rest) env L K := A.go0 (pop_iaS hx hi h hte hsz hy) hK
theorem pop_iaO (hx : St.ev ⟨env, L⟩ x = .own id 0 (l.map g).length (l.map g).length) (hi : St.ev ⟨env, L⟩ i = .int k c) (h : 0 ≤ c ∧ c < (l.length : Int)) (hL : L[id]? = some (.buf sz m (l.map g))) (hte : P.underlying t = some (.slice e)) (hsz : szT P e = some sz) :
    pop P L (St.ev ⟨env, L⟩) (.indexAddr t x i) = some (.eref id (l.map g).length c.toNat 0, L) := by
  have := pop_iao (n := c.toNat) hte hsz hx (by rw [hi, Int.toNat_of_nonneg h.1]) hL rfl (by simp; omega)
  rw [this, Nat.zero_add]
theorem X.iaO (hx : St.ev ⟨env, L⟩ x = .own id 0 (l.map g).length (l.map g).length) (hi : St.ev ⟨env, L⟩ i = .int k c) (h : 0 ≤ c ∧ c < (l.length : Int)) (hL : L[id]? = some (.buf sz m (l.map g))) (hK : XO P Z ops rest (upd env d (.eref id (l.map g).length c.toNat 0)) L K)
    (hte : P.underlying t = some (.slice e) := by rfl) (hsz : szT P e = some sz := by rfl) :
    XO P Z ops (⟨some d, .indexAddr t x i, ty, pos, af, none⟩ :: rest) env L K := X.go0 (pop_iaO hx hi h hL hte hsz) hK
theorem A.iaO (hx : St.ev ⟨env, L⟩ x = .own id 0 (l.map g).length (l.map g).length) (hi : St.ev ⟨env, L⟩ i = .int k c) (h : 0 ≤ c ∧ c < (l.length : Int)) (hL : L[id]? = some (.buf sz m (l.map g))) (hK : AO P Z ops rest (upd env d (.eref id (l.map g).length c.toNat 0)) L K)
    (hte : P.underlying t = some (.slice e) := by rfl) (hsz : szT P e = some sz := by rfl) :
    AO P Z ops (⟨some d, .indexAddr t x i, ty, pos, af, none⟩ :: rest) env L K := A.go0 (pop_iaO hx hi h hL hte hsz) hK
/-- A whole element is read. -/
theorem pop_ldO (hx : St.ev ⟨env, L⟩ x = .eref id (l.map g).length c.toNat 0) (hL : L[id]? = some (.buf sz m (l.map g))) (h : 0 ≤ c ∧ c < (l.length : Int)) (hsz : szT P t = some 1) (ha : aggT P t = some false) (hy : (g (rd l c)).cells = [g (rd l c)]) :
    pop P L (St.ev ⟨env, L⟩) (.load t x) = some (g (rd l c), L) := pop_lde hx hL rfl (map_rd h) hsz ha hy
theorem X.ldO (hx : St.ev ⟨env, L⟩ x = .eref id (l.map g).length c.toNat 0) (hL : L[id]? = some (.buf sz m (l.map g))) (h : 0 ≤ c ∧ c < (l.length : Int)) (hK : XO P Z ops rest (upd env d (g (rd l c))) L K)
    (hsz : szT P t = some 1 := by rfl) (ha : aggT P t = some false := by rfl) (hy : (g (rd l c)).cells = [g (rd l c)] := by rfl) :
    XO P Z ops (⟨some d, .load t x, ty, pos, af, none⟩ :: rest) env L K := X.go0 (pop_ldO hx hL h hsz ha hy) hK
theorem A.ldO (hx : St.ev ⟨env, L⟩ x = .eref id (l.map g).length c.toNat 0) (hL : L[id]? = some (.buf sz m (l.map g))) (h : 0 ≤ c ∧ c < (l.length : Int)) (hK : AO P Z ops rest (upd env d (g (rd l c))) L K)
    (hsz : szT P t = some 1 := by rfl) (ha : aggT P t = some false := by rfl) (hy : (g (rd l c)).cells = [g (rd l c)] := by rfl) :
    AO P Z ops (⟨some d, .load t x, ty, pos, af, none⟩ :: rest) env L K := A.go0 (pop_ldO hx hL h hsz ha hy) hK
/-- A struct of an element is read. -/
theorem pop_ldA (hx : St.ev ⟨env, L⟩ x = .eref id (l.map g).length c.toNat 0) (hL : L[id]? = some (.buf sz m (l.map g))) (h : 0 ≤ c ∧ c < (l.length : Int)) (hsz : szT P t = some sz) (ha : aggT P t = some true) (hy : g (rd l c) = .agg cs) (hn : cs.length = sz) :
    pop P L (St.ev ⟨env, L⟩) (.load t x) = some (.agg cs, L) := by
  have h1 := map_rd (g := g) h
  simp only [pop, pload, pcells, hx, hL, h1, hsz, ha, hy, V.cells, if_true, Option.map_some, List.drop_zero]
  rw [if_pos (by omega), List.take_of_length_le (by omega)]
  rfl
theorem X.ldA (hx : St.ev ⟨env, L⟩ x = .eref id (l.map g).length c.toNat 0) (hL : L[id]? = some (.buf sz m (l.map g))) (h : 0 ≤ c ∧ c < (l.length : Int)) (hy : g (rd l c) = .agg cs) (hK : XO P Z ops rest (upd env d (.agg cs)) L K)
    (hsz : szT P t = some sz := by rfl) (ha : aggT P t = some true := by rfl) (hn : cs.length = sz := by rfl) :
    XO P Z ops (⟨some d, .load t x, ty, pos, af, none⟩ :: rest) env L K := X.go0 (pop_ldA hx hL h hsz ha hy hn) hK
theorem A.ldA (hx : St.ev ⟨env, L⟩ x = .eref id (l.map g).length c.toNat 0) (hL : L[id]? = some (.buf sz m (l.map g))) (h : 0 ≤ c ∧ c < (l.length : Int)) (hy : g (rd l c) = .agg cs) (hK : AO P Z ops rest (upd env d (.agg cs)) L K)
    (hsz : szT P t = some sz := by rfl) (ha : aggT P t = some true := by rfl) (hn : cs.length = sz := by rfl) :
    AO P Z ops (⟨some d, .load t x, ty, pos, af, none⟩ :: rest) env L K := A.go0 (pop_ldA hx hL h hsz ha hy hn) hK
/-- A whole element is written. -/
theorem pop_stO (hx : St.ev ⟨env, L⟩ x = .eref id (l.map g).length c.toNat 0) (hy : St.ev ⟨env, L⟩ y = g a) (hL : L[id]? = some (.buf sz 0 (l.map g))) (h : 0 ≤ c ∧ c < (l.length : Int)) (hsz : szT P t = some 1) (hs1 : sz = 1) (hc : ∀ b, (g b).cells = [g b]) (ho : (g a).one = true) :
    pop P L (St.ev ⟨env, L⟩) (.store t x y) = some (.undef, L.set id (.buf sz 0 ((l.set c.toNat a).map g))) := by
  have h1 := map_rd (g := g) h
  subst hs1
  simp only [pop, pstore, hx, hy, hc, hsz, hL, h1, List.length_singleton, List.all_cons, List.all_nil, ho, Bool.and_true]
  rw [if_pos (by simp), if_pos (by simp)]
  have : setElem (g (rd l c)) 0 [g a] = g a := by
    have := hc (rd l c)
    unfold setElem
    split
    · rename_i cs heq
      rw [heq] at this
      simp only [V.cells] at this
      have := congrArg (fun q : List V => SizeOf.sizeOf q) this
      simp at this
      omega
    · rfl
  simp [this, List.map_set]
theorem X.stO (a : α) (hx : St.ev ⟨env, L⟩ x = .eref id (l.map g).length c.toNat 0) (hL : L[id]? = some (.buf sz 0 (l.map g))) (hy : St.ev ⟨env, L⟩ y = g a) (h : 0 ≤ c ∧ c < (l.length : Int)) (hc : ∀ b, (g b).cells = [g b])
    (hK : XO P Z ops rest env L' K) (hL' : L.set id (.buf sz 0 ((l.set c.toNat a).map g)) = L' := by ((try simp only [List.set_cons_zero, List.set_cons_succ, List.cons_append, List.nil_append]) <;> rfl)) (hsz : szT P t = some 1 := by rfl) (hs1 : sz = 1 := by rfl) (ho : (g a).one = true := by rfl) :
    XO P Z ops (⟨none, .store t x y, ty, pos, af, none⟩ :: rest) env L K := X.st0 (by rw [← hL']; exact pop_stO hx hy hL h hsz hs1 hc ho) hK
/-- One element more. -/
theorem X.ap1 (a : α) (hs : St.ev ⟨env, L⟩ s = .own id 0 (l.map g).length (l.map g).length) (hL : L[id]? = some (.buf sz m (l.map g))) (hx : elems L (St.ev ⟨env, L⟩ x) = some [g a]) (hb : l.length ≤ 1000000000)
    (hK : XO P Z ops rest (upd env d (.own id 0 ((l ++ [a]).map g).length ((l ++ [a]).map g).length)) L' K)
    (hL' : L.set id (.buf sz m ((l ++ [a]).map g)) = L' := by ((try simp only [List.set_cons_zero, List.set_cons_succ, List.cons_append, List.nil_append]) <;> rfl)) (ht : ats[0]? = some t := by rfl) (hu : ats[1]? = some u := by rfl)
    (hd : (match P.underlying u with | some (.slice _) => true | some .string => true | _ => false) = true := by rfl) (hte : P.underlying t = some (.slice e) := by rfl) (hsz : szT P e = some sz := by rfl) {z : V} (hz : zeroV P e = some z := by rfl)
    (hzc : z.cells.length = sz := by rfl) (h0 : 0 < sz := by decide) (hys : [g a].all (fun y => y.cells.length == sz && y.cells.all V.one) = true := by rfl) (hbt : byT P e ≤ 1000 := by decide +kernel) :
    XO P Z ops (⟨some d, .call ⟨.builtin .append, #[s, x], ats⟩, ty, pos, af, none⟩ :: rest) env L K := by
  subst hL'
  have := pop_app_own (P := P) (env := env) (L := L) (ats := ats) (x := x) (s := s) ht hu hd hte hsz hz hzc h0 hs hL hx hys (by
    simp only [List.length_map, List.length_singleton]
    have : (l.length + 1) * byT P e ≤ (1000000000 + 1) * 1000 := Nat.mul_le_mul (by omega) hbt
    omega) (by simp only [List.length_map, List.length_singleton]; omega)
  refine X.go0 (this.trans ?_) hK
  simp
end
theorem wU8 {a : Int} (h : 0 ≤ a ∧ a < 256) : IntKind.u8.wrap a = a := by
  have e1 : (2 ^ IntKind.u8.bits : Int) = 256 := by decide
  have : IntKind.u8.signed = false := rfl
  simp [IntKind.wrap, e1, this]; omega
theorem wU16 {a : Int} (h : 0 ≤ a ∧ a < 65536) : IntKind.u16.wrap a = a := by
  have e1 : (2 ^ IntKind.u16.bits : Int) = 65536 := by decide
  have : IntKind.u16.signed = false := rfl
  simp [IntKind.wrap, e1, this]; omega
theorem wU32 {a : Int} (h : 0 ≤ a ∧ a < 4294967296) : IntKind.u32.wrap a = a := by
  have e1 : (2 ^ IntKind.u32.bits : Int) = 4294967296 := by decide
  have : IntKind.u32.signed = false := rfl
  simp [IntKind.wrap, e1, this]; omega
theorem wU64 {a : Int} (h : 0 ≤ a ∧ a < 18446744073709551616) : IntKind.u64.wrap a = a := by
  have e1 : (2 ^ IntKind.u64.bits : Int) = 18446744073709551616 := by decide
  have : IntKind.u64.signed = false := rfl
  simp [IntKind.wrap, e1, this]; omega
end Go.Pv
end
section
/- Tests and guards whose values are read as they stand: nothing is reckoned. -/
set_option linter.unusedVariables false
namespace Go.Pv
variable {P : Program} {Z : Nat → Go.Obj → Prop}
theorem notT : V.bool (!true) = V.bool false := rfl
theorem notF : V.bool (!false) = V.bool true := rfl
section
variable {r : Option Nat} {n : Nat} {Q : Ex → St → Prop} {env : Nat → V} {L : List Obj} {x y : Code} {ops : Array Oper} {rest : List Oper} {K : St → Prop} {dst : Option Tmp} {d : Tmp} {op : Op} {ty : TypeId} {pos : String} {af : Array Edge} {j : Nat} {want : Bool} {g : Tmp} {p : Prop} {ip : Decidable p} {v : V} {b : Bool}
theorem X.hy (hj : (ops[j]?).bind (·.dst) = some g) (hg : env g = v) (hv : v = .bool want) (hK : XO P Z ops (⟨dst, op, ty, pos, af, none⟩ :: rest) env L K) : XO P Z ops (⟨dst, op, ty, pos, af, some (j, want)⟩ :: rest) env L K := X.gy hj (hg.trans hv) hK
theorem X.hnt (hj : (ops[j]?).bind (·.dst) = some g) (hg : env g = v) (hv : v = .bool true) (hK : XO P Z ops rest (upd env d .undef) L K) : XO P Z ops (⟨some d, op, ty, pos, af, some (j, false)⟩ :: rest) env L K := X.gn hj (hg.trans hv) rfl hK
theorem X.hnf (hj : (ops[j]?).bind (·.dst) = some g) (hg : env g = v) (hv : v = .bool false) (hK : XO P Z ops rest (upd env d .undef) L K) : XO P Z ops (⟨some d, op, ty, pos, af, some (j, true)⟩ :: rest) env L K := X.gn hj (hg.trans hv) rfl hK
theorem X.hu (hj : (ops[j]?).bind (·.dst) = some g) (hg : env g = v) (hv : v = .tup []) (hK : XO P Z ops rest (upd env d .undef) L K) : XO P Z ops (⟨some d, op, ty, pos, af, some (j, want)⟩ :: rest) env L K := X.gu hj (hg.trans hv) hK
theorem X.hpt (hj : (ops[j]?).bind (·.dst) = some g) (hg : env g = v) (hv : v = .bool (@decide p ip)) (h : p) (hK : XO P Z ops (⟨dst, op, ty, pos, af, some (j, want)⟩ :: rest) (upd env g (.bool true)) L K) : XO P Z ops (⟨dst, op, ty, pos, af, some (j, want)⟩ :: rest) env L K := X.gpt hj (hg.trans hv) h hK
theorem X.hpf (hj : (ops[j]?).bind (·.dst) = some g) (hg : env g = v) (hv : v = .bool (@decide p ip)) (h : ¬ p) (hK : XO P Z ops (⟨dst, op, ty, pos, af, some (j, want)⟩ :: rest) (upd env g (.bool false)) L K) : XO P Z ops (⟨dst, op, ty, pos, af, some (j, want)⟩ :: rest) env L K := X.gpf hj (hg.trans hv) h hK
theorem X.hqt (hj : (ops[j]?).bind (·.dst) = some g) (hg : env g = v) (hv : v = .bool (!@decide p ip)) (h : ¬ p) (hK : XO P Z ops (⟨dst, op, ty, pos, af, some (j, want)⟩ :: rest) (upd env g (.bool true)) L K) : XO P Z ops (⟨dst, op, ty, pos, af, some (j, want)⟩ :: rest) env L K := X.gnt hj (hg.trans hv) h hK
theorem X.hqf (hj : (ops[j]?).bind (·.dst) = some g) (hg : env g = v) (hv : v = .bool (!@decide p ip)) (h : p) (hK : XO P Z ops (⟨dst, op, ty, pos, af, some (j, want)⟩ :: rest) (upd env g (.bool false)) L K) : XO P Z ops (⟨dst, op, ty, pos, af, some (j, want)⟩ :: rest) env L K := X.gnf hj (hg.trans hv) h hK
theorem X.hp (hj : (ops[j]?).bind (·.dst) = some g) (hg : env g = v) (hv : v = .bool (@decide p ip)) (h1 : p → XO P Z ops (⟨dst, op, ty, pos, af, some (j, want)⟩ :: rest) (upd env g (.bool true)) L K) (h2 : ¬ p → XO P Z ops (⟨dst, op, ty, pos, af, some (j, want)⟩ :: rest) (upd env g (.bool false)) L K) : XO P Z ops (⟨dst, op, ty, pos, af, some (j, want)⟩ :: rest) env L K := X.gp hj (hg.trans hv) h1 h2
theorem X.hq (hj : (ops[j]?).bind (·.dst) = some g) (hg : env g = v) (hv : v = .bool (!@decide p ip)) (h1 : ¬ p → XO P Z ops (⟨dst, op, ty, pos, af, some (j, want)⟩ :: rest) (upd env g (.bool true)) L K) (h2 : p → XO P Z ops (⟨dst, op, ty, pos, af, some (j, want)⟩ :: rest) (upd env g (.bool false)) L K) : XO P Z ops (⟨dst, op, ty, pos, af, some (j, want)⟩ :: rest) env L K := X.gnp hj (hg.trans hv) h1 h2
theorem X.hb (hj : (ops[j]?).bind (·.dst) = some g) (hg : env g = v) (hv : v = .bool b) (h1 : b = true → XO P Z ops (⟨dst, op, ty, pos, af, some (j, want)⟩ :: rest) (upd env g (.bool true)) L K) (h2 : b = false → XO P Z ops (⟨dst, op, ty, pos, af, some (j, want)⟩ :: rest) (upd env g (.bool false)) L K) : XO P Z ops (⟨dst, op, ty, pos, af, some (j, want)⟩ :: rest) env L K := X.gs hj (hg.trans hv) h1 h2
theorem A.hy (hj : (ops[j]?).bind (·.dst) = some g) (hg : env g = v) (hv : v = .bool want) (hK : AO P Z ops (⟨dst, op, ty, pos, af, none⟩ :: rest) env L K) : AO P Z ops (⟨dst, op, ty, pos, af, some (j, want)⟩ :: rest) env L K := A.gy hj (hg.trans hv) hK
theorem A.hnt (hj : (ops[j]?).bind (·.dst) = some g) (hg : env g = v) (hv : v = .bool true) (hK : AO P Z ops rest (upd env d .undef) L K) : AO P Z ops (⟨some d, op, ty, pos, af, some (j, false)⟩ :: rest) env L K := A.gn hj (hg.trans hv) rfl hK
theorem A.hnf (hj : (ops[j]?).bind (·.dst) = some g) (hg : env g = v) (hv : v = .bool false) (hK : AO P Z ops rest (upd env d .undef) L K) : AO P Z ops (⟨some d, op, ty, pos, af, some (j, true)⟩ :: rest) env L K := A.gn hj (hg.trans hv) rfl hK
theorem A.hu (hj : (ops[j]?).bind (·.dst) = some g) (hg : env g = v) (hv : v = .tup []) (hK : AO P Z ops rest (upd env d .undef) L K) : AO P Z ops (⟨some d, op, ty, pos, af, some (j, want)⟩ :: rest) env L K := A.gu hj (hg.trans hv) hK
theorem A.hpt (hj : (ops[j]?).bind (·.dst) = some g) (hg : env g = v) (hv : v = .bool (@decide p ip)) (h : p) (hK : AO P Z ops (⟨dst, op, ty, pos, af, some (j, want)⟩ :: rest) (upd env g (.bool true)) L K) : AO P Z ops (⟨dst, op, ty, pos, af, some (j, want)⟩ :: rest) env L K := A.gpt hj (hg.trans hv) h hK
theorem A.hpf (hj : (ops[j]?).bind (·.dst) = some g) (hg : env g = v) (hv : v = .bool (@decide p ip)) (h : ¬ p) (hK : AO P Z ops (⟨dst, op, ty, pos, af, some (j, want)⟩ :: rest) (upd env g (.bool false)) L K) : AO P Z ops (⟨dst, op, ty, pos, af, some (j, want)⟩ :: rest) env L K := A.gpf hj (hg.trans hv) h hK
theorem A.hqt (hj : (ops[j]?).bind (·.dst) = some g) (hg : env g = v) (hv : v = .bool (!@decide p ip)) (h : ¬ p) (hK : AO P Z ops (⟨dst, op, ty, pos, af, some (j, want)⟩ :: rest) (upd env g (.bool true)) L K) : AO P Z ops (⟨dst, op, ty, pos, af, some (j, want)⟩ :: rest) env L K := A.gnt hj (hg.trans hv) h hK
theorem A.hqf (hj : (ops[j]?).bind (·.dst) = some g) (hg : env g = v) (hv : v = .bool (!@decide p ip)) (h : p) (hK : AO P Z ops (⟨dst, op, ty, pos, af, some (j, want)⟩ :: rest) (upd env g (.bool false)) L K) : AO P Z ops (⟨dst, op, ty, pos, af, some (j, want)⟩ :: rest) env L K := A.gnf hj (hg.trans hv) h hK
theorem A.hp (hj : (ops[j]?).bind (·.dst) = some g) (hg : env g = v) (hv : v = .bool (@decide p ip)) (h1 : p → AO P Z ops (⟨dst, op, ty, pos, af, some (j, want)⟩ :: rest) (upd env g (.bool true)) L K) (h2 : ¬ p → AO P Z ops (⟨dst, op, ty, pos, af, some (j, want)⟩ :: rest) (upd env g (.bool false)) L K) : AO P Z ops (⟨dst, op, ty, pos, af, some (j, want)⟩ :: rest) env L K := A.gp hj (hg.trans hv) h1 h2
theorem A.hq (hj : (ops[j]?).bind (·.dst) = some g) (hg : env g = v) (hv : v = .bool (!@decide p ip)) (h1 : ¬ p → AO P Z ops (⟨dst, op, ty, pos, af, some (j, want)⟩ :: rest) (upd env g (.bool true)) L K) (h2 : p → AO P Z ops (⟨dst, op, ty, pos, af, some (j, want)⟩ :: rest) (upd env g (.bool false)) L K) : AO P Z ops (⟨dst, op, ty, pos, af, some (j, want)⟩ :: rest) env L K := A.gnp hj (hg.trans hv) h1 h2
theorem A.hb (hj : (ops[j]?).bind (·.dst) = some g) (hg : env g = v) (hv : v = .bool b) (h1 : b = true → AO P Z ops (⟨dst, op, ty, pos, af, some (j, want)⟩ :: rest) (upd env g (.bool true)) L K) (h2 : b = false → AO P Z ops (⟨dst, op, ty, pos, af, some (j, want)⟩ :: rest) (upd env g (.bool false)) L K) : AO P Z ops (⟨dst, op, ty, pos, af, some (j, want)⟩ :: rest) env L K := A.gs hj (hg.trans hv) h1 h2
theorem W.jt {c : Operand} (hc : St.ev ⟨env, L⟩ c = v) (hv : v = .bool true) (h1 : CW P Z r n x Q env L) (ho : okX n c = true := by kernel_rfl) : CW P Z r n (.cond c x y) Q env L := W.ct (hc.trans hv) h1 ho
theorem W.jf {c : Operand} (hc : St.ev ⟨env, L⟩ c = v) (hv : v = .bool false) (h1 : CW P Z r n y Q env L) (ho : okX n c = true := by kernel_rfl) : CW P Z r n (.cond c x y) Q env L := W.cf (hc.trans hv) h1 ho
theorem W.jpt {c : Operand} (hc : St.ev ⟨env, L⟩ c = v) (hv : v = .bool (@decide p ip)) (h : p) (h1 : CW P Z r n x Q env L) (ho : okX n c = true := by kernel_rfl) : CW P Z r n (.cond c x y) Q env L := W.cpt (hc.trans hv) h h1 ho
theorem W.jpf {c : Operand} (hc : St.ev ⟨env, L⟩ c = v) (hv : v = .bool (@decide p ip)) (h : ¬ p) (h1 : CW P Z r n y Q env L) (ho : okX n c = true := by kernel_rfl) : CW P Z r n (.cond c x y) Q env L := W.cpf (hc.trans hv) h h1 ho
theorem W.jqt {c : Operand} (hc : St.ev ⟨env, L⟩ c = v) (hv : v = .bool (!@decide p ip)) (h : ¬ p) (h1 : CW P Z r n x Q env L) (ho : okX n c = true := by kernel_rfl) : CW P Z r n (.cond c x y) Q env L := W.cnt (hc.trans hv) h h1 ho
theorem W.jqf {c : Operand} (hc : St.ev ⟨env, L⟩ c = v) (hv : v = .bool (!@decide p ip)) (h : p) (h1 : CW P Z r n y Q env L) (ho : okX n c = true := by kernel_rfl) : CW P Z r n (.cond c x y) Q env L := W.cnf (hc.trans hv) h h1 ho
theorem W.jp {c : Operand} (hc : St.ev ⟨env, L⟩ c = v) (hv : v = .bool (@decide p ip)) (h1 : p → CW P Z r n x Q env L) (h2 : ¬ p → CW P Z r n y Q env L) (ho : okX n c = true := by kernel_rfl) : CW P Z r n (.cond c x y) Q env L := W.cp (hc.trans hv) h1 h2 ho
theorem W.jq {c : Operand} (hc : St.ev ⟨env, L⟩ c = v) (hv : v = .bool (!@decide p ip)) (h1 : ¬ p → CW P Z r n x Q env L) (h2 : p → CW P Z r n y Q env L) (ho : okX n c = true := by kernel_rfl) : CW P Z r n (.cond c x y) Q env L := W.cnp (hc.trans hv) h1 h2 ho
theorem W.jb {c : Operand} (hc : St.ev ⟨env, L⟩ c = v) (hv : v = .bool b) (h1 : b = true → CW P Z r n x Q env L) (h2 : b = false → CW P Z r n y Q env L) (ho : okX n c = true := by kernel_rfl) : CW P Z r n (.cond c x y) Q env L := W.cd (hc.trans hv) h1 h2 ho
end
end Go.Pv
end
section
/- Results of which less is told. -/
namespace Go.Pv
variable {P : Program} {Z : Nat → Go.Obj → Prop}
theorem SE.weak {f : FuncId} {args : List V} {L L' : List Obj} {v v' : V} (h : SE P Z f args L v L') (hw : ∀ G r, VR G v r → VR G v' r) : SE P Z f args L v' L' :=
  ⟨⟨h.out.1, fun G w rargs h1 h2 => (h.out.2 G w rargs h1 h2).mono fun _ _ ⟨G', M, u, ⟨hu, hM⟩, a, b, c⟩ => ⟨G', M, v', ⟨rfl, hM⟩, a, b, hw _ _ (hu ▸ c)⟩⟩⟩
theorem VR.slw {G : Gh} {n x : Bool} {xs : List V} {r : Value} (h : VR G (.sl n x xs) r) : VR G (.sl false false xs) r := by
  cases h with
  | slnil => exact .sl0 (by simp)
  | sl0 hx => exact .sl0 (by simp)
  | sl sz vs hne hx hc hsz hk hv => exact .sl sz vs hne (by simp) hc hsz hk hv
theorem VR.tup2 {G : Gh} {a b a' b' : V} {r : Value} (h : VR G (.tup [a, b]) r) (ha : ∀ r, VR G a r → VR G a' r) (hb : ∀ r, VR G b r → VR G b' r) : VR G (.tup [a', b']) r := by
  cases h with
  | tup hn hv =>
    refine .tup hn fun p hp => ?_
    match p, hp with
    | 0, _ => exact ha _ (hv 0 (by simp))
    | 1, _ => exact hb _ (hv 1 (by simp))
/-- Arguments of which less is told to the call than is known. -/
theorem SE.argw {f : FuncId} {args args' : List V} {L L' : List Obj} {v : V} (h : SE P Z f args' L v L') (hn : args.length = args'.length) (hw : ∀ p (h1 : p < args.length) (h2 : p < args'.length) G r, VR G args[p] r → VR G args'[p] r) : SE P Z f args L v L' :=
  ⟨⟨h.out.1, fun G w rargs h1 h2 => h.out.2 G w rargs h1 ⟨by rw [h2.1, hn], fun p hp => hw p (by omega) hp _ _ (h2.2 p (by omega))⟩⟩⟩
end Go.Pv
end
section
/- Bytes; arrays in their own place, and read through a pointer. -/
set_option linter.unusedVariables false
set_option linter.unusedSimpArgs false
set_option linter.unusedSectionVars false
namespace Go.Pv
variable {P : Program} {Z : Nat → Go.Obj → Prop}
def g8 (b : UInt8) : V := .int .u8 (b.toNat : Int)
instance : Inhabited UInt8 := ⟨0⟩
theorem all_u8 {p : UInt8 → Bool} (h : ((List.range 256).all fun n => p (UInt8.ofNat n)) = true) (a : UInt8) : p a = true := by
  rw [List.all_eq_true] at h
  have := h a.toNat (List.mem_range.2 (by have := a.toNat_lt; omega))
  simpa using this
theorem ofInt_nat (n a : Nat) (h : a < 2 ^ n) : (BitVec.ofInt n (a : Int)).toNat = a := by
  rw [BitVec.toNat_ofInt]
  have : ((a : Int) % ((2 ^ n : Nat) : Int)) = (a : Int) := Int.emod_eq_of_lt (by omega) (by omega)
  rw [this]; rfl
theorem xor_raw {n a b : Nat} (ha : a < 2 ^ n) (hb : b < 2 ^ n) : (BitVec.ofInt n (a : Int) ^^^ BitVec.ofInt n (b : Int)).toNat = a ^^^ b := by
  rw [BitVec.toNat_xor, ofInt_nat n a ha, ofInt_nat n b hb]
theorem and_raw {n a b : Nat} (ha : a < 2 ^ n) (hb : b < 2 ^ n) : (BitVec.ofInt n (a : Int) &&& BitVec.ofInt n (b : Int)).toNat = a &&& b := by
  rw [BitVec.toNat_and, ofInt_nat n a ha, ofInt_nat n b hb]
theorem or_raw {n a b : Nat} (ha : a < 2 ^ n) (hb : b < 2 ^ n) : (BitVec.ofInt n (a : Int) ||| BitVec.ofInt n (b : Int)).toNat = a ||| b := by
  rw [BitVec.toNat_or, ofInt_nat n a ha, ofInt_nat n b hb]
theorem u8_lt (a : UInt8) : a.toNat < 2 ^ 8 := a.toNat_lt
theorem xor8v (a b : UInt8) : pint .xor .u8 (a.toNat : Int) (b.toNat : Int) = some (g8 (a ^^^ b)) := by
  show some (V.int .u8 (IntKind.u8.wrap ((BitVec.ofInt 8 (a.toNat : Int) ^^^ BitVec.ofInt 8 (b.toNat : Int)).toNat : Nat))) = _
  rw [xor_raw (u8_lt a) (u8_lt b), wU8 ⟨by omega, by have := Nat.xor_lt_two_pow (u8_lt a) (u8_lt b); omega⟩]
  rfl
theorem and8v (a b : UInt8) : pint .and .u8 (a.toNat : Int) (b.toNat : Int) = some (g8 (a &&& b)) := by
  show some (V.int .u8 (IntKind.u8.wrap ((BitVec.ofInt 8 (a.toNat : Int) &&& BitVec.ofInt 8 (b.toNat : Int)).toNat : Nat))) = _
  rw [and_raw (u8_lt a) (u8_lt b), wU8 ⟨by omega, by have := Nat.and_lt_two_pow a.toNat (u8_lt b); omega⟩]
  rfl
theorem or8v (a b : UInt8) : pint .or .u8 (a.toNat : Int) (b.toNat : Int) = some (g8 (a ||| b)) := by
  show some (V.int .u8 (IntKind.u8.wrap ((BitVec.ofInt 8 (a.toNat : Int) ||| BitVec.ofInt 8 (b.toNat : Int)).toNat : Nat))) = _
  rw [or_raw (u8_lt a) (u8_lt b), wU8 ⟨by omega, by have := Nat.or_lt_two_pow (u8_lt a) (u8_lt b); omega⟩]
  rfl
section
variable {env : Nat → V} {L L' : List Obj} {ops : Array Oper} {rest : List Oper} {K : St → Prop} {d : Tmp}
  {ty t t' e u : TypeId} {pos : String} {af : Array Edge} {x s i y : Operand} {id sz n o : Nat} {k : IntKind} {α : Type} [Inhabited α] {g : α → V} {l : List α} {c p : Int} {cs : List V} {dd : TypeDesc} {v : V} 
theorem X.xor8 {a b : UInt8} (hx : St.ev ⟨env, L⟩ x = g8 a) (hy : St.ev ⟨env, L⟩ y = g8 b) (hK : XO P Z ops rest (upd env d (g8 (a ^^^ b))) L K) : XO P Z ops (⟨some d, .binOp .xor t x y t', ty, pos, af, none⟩ :: rest) env L K := X.go0 (by simp only [pop, hx, hy, g8, pbin, if_true]; rw [xor8v]; rfl) hK
theorem A.xor8 {a b : UInt8} (hx : St.ev ⟨env, L⟩ x = g8 a) (hy : St.ev ⟨env, L⟩ y = g8 b) (hK : AO P Z ops rest (upd env d (g8 (a ^^^ b))) L K) : AO P Z ops (⟨some d, .binOp .xor t x y t', ty, pos, af, none⟩ :: rest) env L K := A.go0 (by simp only [pop, hx, hy, g8, pbin, if_true]; rw [xor8v]; rfl) hK
theorem X.and8 {a b : UInt8} (hx : St.ev ⟨env, L⟩ x = g8 a) (hy : St.ev ⟨env, L⟩ y = g8 b) (hK : XO P Z ops rest (upd env d (g8 (a &&& b))) L K) : XO P Z ops (⟨some d, .binOp .and t x y t', ty, pos, af, none⟩ :: rest) env L K := X.go0 (by simp only [pop, hx, hy, g8, pbin, if_true]; rw [and8v]; rfl) hK
theorem A.and8 {a b : UInt8} (hx : St.ev ⟨env, L⟩ x = g8 a) (hy : St.ev ⟨env, L⟩ y = g8 b) (hK : AO P Z ops rest (upd env d (g8 (a &&& b))) L K) : AO P Z ops (⟨some d, .binOp .and t x y t', ty, pos, af, none⟩ :: rest) env L K := A.go0 (by simp only [pop, hx, hy, g8, pbin, if_true]; rw [and8v]; rfl) hK
theorem X.or8 {a b : UInt8} (hx : St.ev ⟨env, L⟩ x = g8 a) (hy : St.ev ⟨env, L⟩ y = g8 b) (hK : XO P Z ops rest (upd env d (g8 (a ||| b))) L K) : XO P Z ops (⟨some d, .binOp .or t x y t', ty, pos, af, none⟩ :: rest) env L K := X.go0 (by simp only [pop, hx, hy, g8, pbin, if_true]; rw [or8v]; rfl) hK
theorem A.or8 {a b : UInt8} (hx : St.ev ⟨env, L⟩ x = g8 a) (hy : St.ev ⟨env, L⟩ y = g8 b) (hK : AO P Z ops rest (upd env d (g8 (a ||| b))) L K) : AO P Z ops (⟨some d, .binOp .or t x y t', ty, pos, af, none⟩ :: rest) env L K := A.go0 (by simp only [pop, hx, hy, g8, pbin, if_true]; rw [or8v]; rfl) hK
theorem pop_iaR  (hx : St.ev ⟨env, L⟩ x = .ref id 0) (hi : St.ev ⟨env, L⟩ i = .int k c) (h : 0 ≤ c ∧ c < (n : Int)) (hte : P.underlying t = some (.array n e)) (hsz : szT P e = some sz) : pop P L (St.ev ⟨env, L⟩) (.indexAddr t x i) = some (.ref id (c.toNat * sz), L) := by
  have h1 : c.toNat < n := by omega
  simp [pop, pindexAddr, hte, hx, hi, toNat?, hsz, h.1, h1]
theorem X.iaR  (hx : St.ev ⟨env, L⟩ x = .ref id 0) (hi : St.ev ⟨env, L⟩ i = .int k c) (h : 0 ≤ c ∧ c < (n : Int)) (hK : XO P Z ops rest (upd env d (.ref id (c.toNat * sz))) L K) (hte : P.underlying t = some (.array n e) := by rfl) (hsz : szT P e = some sz := by rfl) : XO P Z ops (⟨some d, .indexAddr t x i, ty, pos, af, none⟩ :: rest) env L K := X.go0 (pop_iaR hx hi h hte hsz) hK
theorem A.iaR  (hx : St.ev ⟨env, L⟩ x = .ref id 0) (hi : St.ev ⟨env, L⟩ i = .int k c) (h : 0 ≤ c ∧ c < (n : Int)) (hK : AO P Z ops rest (upd env d (.ref id (c.toNat * sz))) L K) (hte : P.underlying t = some (.array n e) := by rfl) (hsz : szT P e = some sz := by rfl) : AO P Z ops (⟨some d, .indexAddr t x i, ty, pos, af, none⟩ :: rest) env L K := A.go0 (pop_iaR hx hi h hte hsz) hK
theorem pop_iaR1  (hx : St.ev ⟨env, L⟩ x = .ref id 0) (hi : St.ev ⟨env, L⟩ i = .int k c) (h : 0 ≤ c ∧ c < (n : Int)) (hte : P.underlying t = some (.array n e)) (hsz : szT P e = some 1) : pop P L (St.ev ⟨env, L⟩) (.indexAddr t x i) = some (.ref id c.toNat, L) := by
  have h1 : c.toNat < n := by omega
  simp [pop, pindexAddr, hte, hx, hi, toNat?, hsz, h.1, h1]
theorem X.iaR1  (hx : St.ev ⟨env, L⟩ x = .ref id 0) (hi : St.ev ⟨env, L⟩ i = .int k c) (h : 0 ≤ c ∧ c < (n : Int)) (hK : XO P Z ops rest (upd env d (.ref id c.toNat)) L K) (hte : P.underlying t = some (.array n e) := by rfl) (hsz : szT P e = some 1 := by rfl) : XO P Z ops (⟨some d, .indexAddr t x i, ty, pos, af, none⟩ :: rest) env L K := X.go0 (pop_iaR1 hx hi h hte hsz) hK
theorem A.iaR1  (hx : St.ev ⟨env, L⟩ x = .ref id 0) (hi : St.ev ⟨env, L⟩ i = .int k c) (h : 0 ≤ c ∧ c < (n : Int)) (hK : AO P Z ops rest (upd env d (.ref id c.toNat)) L K) (hte : P.underlying t = some (.array n e) := by rfl) (hsz : szT P e = some 1 := by rfl) : AO P Z ops (⟨some d, .indexAddr t x i, ty, pos, af, none⟩ :: rest) env L K := A.go0 (pop_iaR1 hx hi h hte hsz) hK
theorem pop_iaR2  (hx : St.ev ⟨env, L⟩ x = .ref id (p.toNat * o)) (hi : St.ev ⟨env, L⟩ i = .int k c) (h : 0 ≤ c ∧ c < (n : Int)) (hp : 0 ≤ p) (hte : P.underlying t = some (.array n e)) (hsz : szT P e = some 1) : pop P L (St.ev ⟨env, L⟩) (.indexAddr t x i) = some (.ref id (p * (o : Nat) + c).toNat, L) := by
  have h1 : c.toNat < n := by omega
  have h2 : (p * (o : Int) + c).toNat = p.toNat * o + c.toNat := by
    have : p * (o : Int) = ((p.toNat * o : Nat) : Int) := by rw [Int.natCast_mul, Int.toNat_of_nonneg hp]
    omega
  simp [pop, pindexAddr, hte, hx, hi, toNat?, hsz, h.1, h1, h2]
theorem X.iaR2  (hx : St.ev ⟨env, L⟩ x = .ref id (p.toNat * o)) (hi : St.ev ⟨env, L⟩ i = .int k c) (h : 0 ≤ c ∧ c < (n : Int)) (hp : 0 ≤ p) (hK : XO P Z ops rest (upd env d (.ref id (p * (o : Nat) + c).toNat)) L K) (hte : P.underlying t = some (.array n e) := by rfl) (hsz : szT P e = some 1 := by rfl) : XO P Z ops (⟨some d, .indexAddr t x i, ty, pos, af, none⟩ :: rest) env L K := X.go0 (pop_iaR2 hx hi h hp hte hsz) hK
theorem A.iaR2  (hx : St.ev ⟨env, L⟩ x = .ref id (p.toNat * o)) (hi : St.ev ⟨env, L⟩ i = .int k c) (h : 0 ≤ c ∧ c < (n : Int)) (hp : 0 ≤ p) (hK : AO P Z ops rest (upd env d (.ref id (p * (o : Nat) + c).toNat)) L K) (hte : P.underlying t = some (.array n e) := by rfl) (hsz : szT P e = some 1 := by rfl) : AO P Z ops (⟨some d, .indexAddr t x i, ty, pos, af, none⟩ :: rest) env L K := A.go0 (pop_iaR2 hx hi h hp hte hsz) hK
theorem pop_iaC  (hx : St.ev ⟨env, L⟩ x = .cref cs) (hi : St.ev ⟨env, L⟩ i = .int k c) (h : 0 ≤ c ∧ c < (n : Int)) (hl : c.toNat * sz ≤ cs.length) (hte : P.underlying t = some (.array n e)) (hsz : szT P e = some sz) : pop P L (St.ev ⟨env, L⟩) (.indexAddr t x i) = some (.cref (cs.drop (c.toNat * sz)), L) := by
  have h1 : c.toNat < n := by omega
  simp [pop, pindexAddr, hte, hx, hi, toNat?, hsz, h.1, h1, hl]
theorem X.iaC  (hx : St.ev ⟨env, L⟩ x = .cref cs) (hi : St.ev ⟨env, L⟩ i = .int k c) (h : 0 ≤ c ∧ c < (n : Int)) (hl : c.toNat * sz ≤ cs.length) (hK : XO P Z ops rest (upd env d (.cref (cs.drop (c.toNat * sz)))) L K) (hte : P.underlying t = some (.array n e) := by rfl) (hsz : szT P e = some sz := by rfl) : XO P Z ops (⟨some d, .indexAddr t x i, ty, pos, af, none⟩ :: rest) env L K := X.go0 (pop_iaC hx hi h hl hte hsz) hK
theorem A.iaC  (hx : St.ev ⟨env, L⟩ x = .cref cs) (hi : St.ev ⟨env, L⟩ i = .int k c) (h : 0 ≤ c ∧ c < (n : Int)) (hl : c.toNat * sz ≤ cs.length) (hK : AO P Z ops rest (upd env d (.cref (cs.drop (c.toNat * sz)))) L K) (hte : P.underlying t = some (.array n e) := by rfl) (hsz : szT P e = some sz := by rfl) : AO P Z ops (⟨some d, .indexAddr t x i, ty, pos, af, none⟩ :: rest) env L K := A.go0 (pop_iaC hx hi h hl hte hsz) hK
theorem pop_iaC1  (hx : St.ev ⟨env, L⟩ x = .cref (l.map g)) (hi : St.ev ⟨env, L⟩ i = .int k c) (h : 0 ≤ c ∧ c < (n : Int)) (hl : c < (l.length : Int)) (hte : P.underlying t = some (.array n e)) (hsz : szT P e = some 1) : pop P L (St.ev ⟨env, L⟩) (.indexAddr t x i) = some (.cref ((l.map g).drop c.toNat), L) := by
  have h1 : c.toNat < n := by omega
  have h2 : c.toNat * 1 ≤ (l.map g).length := by simp; omega
  simp only [pop, pindexAddr, hte, hx, hi, toNat?, hsz, h.1, h1, if_true, Nat.mul_one] at h2 ⊢
  rw [if_pos ⟨trivial, h2⟩]; rfl
theorem X.iaC1  (hx : St.ev ⟨env, L⟩ x = .cref (l.map g)) (hi : St.ev ⟨env, L⟩ i = .int k c) (h : 0 ≤ c ∧ c < (n : Int)) (hl : c < (l.length : Int)) (hK : XO P Z ops rest (upd env d (.cref ((l.map g).drop c.toNat))) L K) (hte : P.underlying t = some (.array n e) := by rfl) (hsz : szT P e = some 1 := by rfl) : XO P Z ops (⟨some d, .indexAddr t x i, ty, pos, af, none⟩ :: rest) env L K := X.go0 (pop_iaC1 hx hi h hl hte hsz) hK
theorem A.iaC1  (hx : St.ev ⟨env, L⟩ x = .cref (l.map g)) (hi : St.ev ⟨env, L⟩ i = .int k c) (h : 0 ≤ c ∧ c < (n : Int)) (hl : c < (l.length : Int)) (hK : AO P Z ops rest (upd env d (.cref ((l.map g).drop c.toNat))) L K) (hte : P.underlying t = some (.array n e) := by rfl) (hsz : szT P e = some 1 := by rfl) : AO P Z ops (⟨some d, .indexAddr t x i, ty, pos, af, none⟩ :: rest) env L K := A.go0 (pop_iaC1 hx hi h hl hte hsz) hK
theorem pop_ldR  (hx : St.ev ⟨env, L⟩ x = .ref id c.toNat) (hL : L[id]? = some (.box (l.map g))) (h : 0 ≤ c ∧ c < (l.length : Int)) (hsz : szT P t = some 1) (ha : aggT P t = some false) : pop P L (St.ev ⟨env, L⟩) (.load t x) = some (g (rd l c), L) := by
  have := map_rd (g := g) h
  simp only [pop, pload, pcells, hx, hL, hsz, ha]
  rw [List.getElem?_drop, Nat.add_zero, this]; rfl
theorem X.ldR  (hx : St.ev ⟨env, L⟩ x = .ref id c.toNat) (hL : L[id]? = some (.box (l.map g))) (h : 0 ≤ c ∧ c < (l.length : Int)) (hK : XO P Z ops rest (upd env d (g (rd l c))) L K) (hsz : szT P t = some 1 := by rfl) (ha : aggT P t = some false := by rfl) : XO P Z ops (⟨some d, .load t x, ty, pos, af, none⟩ :: rest) env L K := X.go0 (pop_ldR hx hL h hsz ha) hK
theorem A.ldR  (hx : St.ev ⟨env, L⟩ x = .ref id c.toNat) (hL : L[id]? = some (.box (l.map g))) (h : 0 ≤ c ∧ c < (l.length : Int)) (hK : AO P Z ops rest (upd env d (g (rd l c))) L K) (hsz : szT P t = some 1 := by rfl) (ha : aggT P t = some false := by rfl) : AO P Z ops (⟨some d, .load t x, ty, pos, af, none⟩ :: rest) env L K := A.go0 (pop_ldR hx hL h hsz ha) hK
theorem pop_ldC  (hx : St.ev ⟨env, L⟩ x = .cref ((l.map g).drop c.toNat)) (h : 0 ≤ c ∧ c < (l.length : Int)) (hsz : szT P t = some 1) (ha : aggT P t = some false) : pop P L (St.ev ⟨env, L⟩) (.load t x) = some (g (rd l c), L) := by
  have := map_rd (g := g) h
  simp only [pop, pload, pcells, hx, hsz, ha]
  rw [List.getElem?_drop, Nat.add_zero, this]; rfl
theorem X.ldC  (hx : St.ev ⟨env, L⟩ x = .cref ((l.map g).drop c.toNat)) (h : 0 ≤ c ∧ c < (l.length : Int)) (hK : XO P Z ops rest (upd env d (g (rd l c))) L K) (hsz : szT P t = some 1 := by rfl) (ha : aggT P t = some false := by rfl) : XO P Z ops (⟨some d, .load t x, ty, pos, af, none⟩ :: rest) env L K := X.go0 (pop_ldC hx h hsz ha) hK
theorem A.ldC  (hx : St.ev ⟨env, L⟩ x = .cref ((l.map g).drop c.toNat)) (h : 0 ≤ c ∧ c < (l.length : Int)) (hK : AO P Z ops rest (upd env d (g (rd l c))) L K) (hsz : szT P t = some 1 := by rfl) (ha : aggT P t = some false := by rfl) : AO P Z ops (⟨some d, .load t x, ty, pos, af, none⟩ :: rest) env L K := A.go0 (pop_ldC hx h hsz ha) hK
theorem pop_ldW  (hx : St.ev ⟨env, L⟩ x = .ref id 0) (hL : L[id]? = some (.box cs)) (hn : cs.length = n) (hsz : szT P t = some n) (ha : aggT P t = some true) : pop P L (St.ev ⟨env, L⟩) (.load t x) = some (.agg cs, L) := by
  simp only [pop, pload, pcells, hx, hL, hsz, ha, List.drop_zero]
  rw [if_pos (by omega), List.take_of_length_le (by omega)]; rfl
theorem X.ldW  (hx : St.ev ⟨env, L⟩ x = .ref id 0) (hL : L[id]? = some (.box cs)) (hn : cs.length = n) (hK : XO P Z ops rest (upd env d (.agg cs)) L K) (hsz : szT P t = some n := by rfl) (ha : aggT P t = some true := by rfl) : XO P Z ops (⟨some d, .load t x, ty, pos, af, none⟩ :: rest) env L K := X.go0 (pop_ldW hx hL hn hsz ha) hK
theorem A.ldW  (hx : St.ev ⟨env, L⟩ x = .ref id 0) (hL : L[id]? = some (.box cs)) (hn : cs.length = n) (hK : AO P Z ops rest (upd env d (.agg cs)) L K) (hsz : szT P t = some n := by rfl) (ha : aggT P t = some true := by rfl) : AO P Z ops (⟨some d, .load t x, ty, pos, af, none⟩ :: rest) env L K := A.go0 (pop_ldW hx hL hn hsz ha) hK
theorem pop_ixA  (hx : St.ev ⟨env, L⟩ x = .agg (l.map g)) (hi : St.ev ⟨env, L⟩ i = .int k c) (h : 0 ≤ c ∧ c < (n : Int)) (hl : c < (l.length : Int)) (hte : P.underlying t = some (.array n e)) (hsz : szT P e = some 1) (ha : aggT P e = some false) : pop P L (St.ev ⟨env, L⟩) (.index t x i) = some (g (rd l c), L) := by
  have h1 : c.toNat < n := by omega
  have := map_rd (g := g) (l := l) (c := c) ⟨h.1, hl⟩
  simp only [pop, pindex, hte, hx, hi, toNat?, hsz, ha, h.1, h1, if_true, Nat.mul_one]
  rw [this]; rfl
theorem X.ixA  (hx : St.ev ⟨env, L⟩ x = .agg (l.map g)) (hi : St.ev ⟨env, L⟩ i = .int k c) (h : 0 ≤ c ∧ c < (n : Int)) (hl : c < (l.length : Int)) (hK : XO P Z ops rest (upd env d (g (rd l c))) L K) (hte : P.underlying t = some (.array n e) := by rfl) (hsz : szT P e = some 1 := by rfl) (ha : aggT P e = some false := by rfl) : XO P Z ops (⟨some d, .index t x i, ty, pos, af, none⟩ :: rest) env L K := X.go0 (pop_ixA hx hi h hl hte hsz ha) hK
theorem A.ixA  (hx : St.ev ⟨env, L⟩ x = .agg (l.map g)) (hi : St.ev ⟨env, L⟩ i = .int k c) (h : 0 ≤ c ∧ c < (n : Int)) (hl : c < (l.length : Int)) (hK : AO P Z ops rest (upd env d (g (rd l c))) L K) (hte : P.underlying t = some (.array n e) := by rfl) (hsz : szT P e = some 1 := by rfl) (ha : aggT P e = some false := by rfl) : AO P Z ops (⟨some d, .index t x i, ty, pos, af, none⟩ :: rest) env L K := A.go0 (pop_ixA hx hi h hl hte hsz ha) hK
theorem pop_stR {a : α} (hx : St.ev ⟨env, L⟩ x = .ref id c.toNat) (hL : L[id]? = some (.box (l.map g))) (hy : St.ev ⟨env, L⟩ y = g a) (h : 0 ≤ c ∧ c < (l.length : Int)) (hc : (g a).cells = [g a]) (ho : (g a).one = true) (hsz : szT P t = some 1) :
    pop P L (St.ev ⟨env, L⟩) (.store t x y) = some (.undef, L.set id (.box ((l.set c.toNat a).map g))) := by
  simp only [pop, pstore, hx, hy, hc, hsz, hL, List.length_singleton, List.all_cons, List.all_nil, ho, Bool.and_true]
  rw [if_pos (by simp), if_pos (by simp; omega)]
  have : setAt (l.map g) c.toNat [g a] = (l.set c.toNat a).map g := by
    unfold setAt
    rw [List.length_singleton, List.map_set]
    have hlt : c.toNat < (l.map g).length := by simp; omega
    rw [List.set_eq_take_append_cons_drop, if_pos hlt, List.append_assoc]; rfl
  rw [this]; rfl
theorem X.stR (a : α) (hx : St.ev ⟨env, L⟩ x = .ref id c.toNat) (hL : L[id]? = some (.box (l.map g))) (hy : St.ev ⟨env, L⟩ y = g a) (h : 0 ≤ c ∧ c < (l.length : Int))
    (hK : XO P Z ops rest env L' K) (hL' : L.set id (.box ((l.set c.toNat a).map g)) = L' := by ((try simp only [List.set_cons_zero, List.set_cons_succ, List.cons_append, List.nil_append]) <;> rfl)) (hc : (g a).cells = [g a] := by rfl) (ho : (g a).one = true := by rfl) (hsz : szT P t = some 1 := by rfl) :
    XO P Z ops (⟨none, .store t x y, ty, pos, af, none⟩ :: rest) env L K := X.st0 (by rw [← hL']; exact pop_stR hx hL hy h hc ho hsz) hK
/-- A whole array is written to its place. -/
theorem X.stW {ds : List V} (hx : St.ev ⟨env, L⟩ x = .ref id 0) (hL : L[id]? = some (.box ds)) (hy : St.ev ⟨env, L⟩ y = .agg cs) (hn : cs.length = n) (hn' : ds.length = n) (ho : cs.all V.one = true)
    (hK : XO P Z ops rest env L' K) (hL' : L.set id (.box cs) = L' := by ((try simp only [List.set_cons_zero, List.set_cons_succ, List.cons_append, List.nil_append]) <;> rfl)) (hsz : szT P t = some n := by rfl) :
    XO P Z ops (⟨none, .store t x y, ty, pos, af, none⟩ :: rest) env L K := X.st0 (v := .undef) (by
      rw [← hL']
      simp only [pop, pstore, hx, hy, V.cells, hsz, hL, hn, ho]
      rw [if_pos (by simp), if_pos (by simp; omega)]
      simp [setAt, hn', hn, List.drop_of_length_le (Nat.le_of_eq hn')]) hK
/-- A value is laid into a place of its own. -/
theorem X.bx (hx : St.ev ⟨env, L⟩ x = v) (hv : v.cells = cs) (ho : cs.all V.one = true) (hK : XO P Z ops rest (upd env d (.ref L.length 0)) L' K) (hL' : L ++ [.box cs] = L' := by ((try simp only [List.set_cons_zero, List.set_cons_succ, List.cons_append, List.nil_append]) <;> rfl)) :
    XO P Z ops (⟨some d, .box t x, ty, pos, af, none⟩ :: rest) env L K := X.go0 (by subst hL'; simp only [pop, hx, hv, ho, if_true]) hK
theorem ones_map (hg : ∀ a, (g a).one = true) : (l.map g).all V.one = true := by simp [hg]
end
end Go.Pv
end
section
/- Rows that are filled one by one; a new place handed back. -/
set_option linter.unusedVariables false
set_option linter.unusedSimpArgs false
namespace Go.Pv
variable {P : Program} {Z : Nat → Go.Obj → Prop}
/-- The first i are told by f; the others stay as they were. -/
def fill {α : Type} (f : Nat → α) (r : List α) (i : Nat) : List α := (List.range r.length).map fun q => if q < i then f q else r.getD q (f q)
theorem fill_len {α : Type} (f : Nat → α) (r : List α) (i : Nat) : (fill f r i).length = r.length := by simp [fill]
theorem fill_zero {α : Type} (f : Nat → α) (r : List α) : fill f r 0 = r := by
  refine List.ext_getElem (by simp [fill]) fun p h1 h2 => ?_
  simp [fill, List.getD_eq_getElem?_getD, h2]
theorem fill_all {α : Type} (f : Nat → α) (r : List α) (n : Nat) (h : r.length ≤ n) : fill f r n = (List.range r.length).map f := by
  refine List.ext_getElem (by simp [fill]) fun p h1 h2 => ?_
  have : p < n := by simp at h2; omega
  simp [fill, this]
theorem fill_step {α : Type} (f : Nat → α) (r : List α) (i : Nat) : (fill f r i).set i (f i) = fill f r (i + 1) := by
  refine List.ext_getElem (by simp [fill]) fun p h1 h2 => ?_
  rw [List.getElem_set]
  by_cases hp : i = p
  · subst hp
    rw [if_pos rfl]
    simp [fill]
  · rw [if_neg hp]
    simp only [fill, List.getElem_map, List.getElem_range]
    by_cases h : p < i
    · rw [if_pos h, if_pos (by omega)]
    · rw [if_neg h, if_neg (by omega)]
theorem fill_get {α : Type} [Inhabited α] (f : Nat → α) (r : List α) (i p : Nat) (h : p < r.length) : (fill f r i).getD p default = if p < i then f p else r.getD p default := by
  rw [List.getD_eq_getElem?_getD, List.getElem?_eq_getElem (by simp [fill]; exact h)]
  simp only [fill, List.getElem_map, List.getElem_range, Option.getD_some]
  split
  · rfl
  · rw [List.getD_eq_getElem?_getD, List.getD_eq_getElem?_getD, List.getElem?_eq_getElem h]; rfl
theorem fill_set {α : Type} (f : Nat → α) (r : List α) (i : Nat) (c : Int) (a : α) (hc : c = (i : Int)) (ha : a = f i) : (fill f r i).set c.toNat a = fill f r (i + 1) := by
  subst hc ha; exact fill_step f r i
theorem map_data {α : Type} {g : α → V} (h : ∀ a, V.lt 0 (g a) = true) : ∀ l : List α, V.lts 0 (l.map g) = true
  | [] => rfl
  | a :: l => by simp only [List.map_cons, V.lts, h a, map_data h l, Bool.and_self]
theorem sh_map {α : Type} {g : α → V} (h : ∀ a, V.lt 0 (g a) = true) (d : Nat) (l : List α) : (l.map g).map (V.sh d) = l.map g := by
  rw [List.map_map]; exact List.map_congr_left fun a _ => V.sh_data d (g a) (h a)
/-- A new place, handed back. -/
theorem SE.lift_box {f : FuncId} {args cs : List V} (h : SE P Z f args [] (.ref 0 0) [.box cs]) (L : List Obj) (ha : V.lts 0 args = true) (hc : V.lts 0 cs = true) : SE P Z f args L (.ref L.length 0) (L ++ [.box cs]) :=
  ⟨(SC.lift h.out ha L).mono fun u M ⟨u', M', ⟨h1, h2⟩, h3, h4⟩ => by
    subst h1 h2
    refine ⟨by rw [h3]; simp [V.sh], ?_⟩
    rw [h4]
    simp only [List.map_cons, List.map_nil, Obj.sh]
    have : cs.map (V.sh L.length) = cs := by
      rw [V.lts_iff] at hc
      conv => rhs; rw [← List.map_id cs]
      exact List.map_congr_left fun x hxm => V.sh_data _ _ (hc x hxm)
    rw [this]⟩
theorem g8_data (a : UInt8) : V.lt 0 (g8 a) = true := rfl
theorem all_u8' {Q : UInt8 → Prop} [DecidablePred Q] (h : ((List.range 256).all fun n => decide (Q (UInt8.ofNat n))) = true) (a : UInt8) : Q a := of_decide_eq_true (all_u8 (p := fun a => decide (Q a)) h a)
end Go.Pv
end
section
/- Loops whose rounds leave things behind: these are forgotten at each round's end. -/
set_option linter.unusedVariables false
set_option linter.unusedSimpArgs false
namespace Go.Pv
variable {P : Program} {Z : Nat → Go.Obj → Prop}
mutual
/-- A value, of which what names later objects is not told any more. -/
def V.cutv (N : Nat) : V → V
  | .agg cs => .agg (V.cutvs N cs)
  | .tup cs => .tup (V.cutvs N cs)
  | .bool b => .bool b
  | .int k n => .int k n
  | .str s => .str s
  | .nilp => .nilp
  | .nilf => .nilf
  | .nilmap => .nilmap
  | .top => .top
  | .ref id off => if id < N then .ref id off else .top
  | .eref id a b c => if id < N then .eref id a b c else .top
  | .own id a b c => if id < N then .own id a b c else .top
  | .bsl id a b => if id < N then .bsl id a b else .top
  | .yl id => if id < N then .yl id else .top
  | .map id => if id < N then .map id else .top
  | .cref cs => if V.lts N cs = true then .cref cs else .top
  | .sl n x xs => if V.lts N xs = true then .sl n x xs else .top
  | .fn f cs => if V.lts N cs = true then .fn f cs else .top
def V.cutvs (N : Nat) : List V → List V
  | [] => []
  | v :: vs => V.cutv N v :: V.cutvs N vs
end
theorem V.cutvs_eq (N : Nat) : ∀ vs : List V, V.cutvs N vs = vs.map (V.cutv N)
  | [] => rfl
  | v :: vs => by rw [V.cutvs, V.cutvs_eq N vs, List.map_cons]
theorem VR.cutv {G G' : Gh} {N : Nat} (hG : ∀ {v r}, VR G v r → V.lt N v = true → VR G' v r) {v : V} {r : Value} (h : VR G v r) : VR G' (V.cutv N v) r := by
  induction h with
  | agg hn _ ih =>
    rw [V.cutv, V.cutvs_eq]
    refine .agg (by rw [hn, List.length_map]) fun p hp => ?_
    rw [List.getElem_map]; exact ih p (by simpa using hp)
  | tup hn _ ih =>
    rw [V.cutv, V.cutvs_eq]
    refine .tup (by rw [hn, List.length_map]) fun p hp => ?_
    rw [List.getElem_map]; exact ih p (by simpa using hp)
  | bool b => exact .bool b
  | int k n => exact .int k n
  | str s => exact .str s
  | nilp => exact .nilp
  | nilf => exact .nilf
  | nilmap => exact .nilmap
  | top r h => exact .top r h
  | ref h => rw [V.cutv]; split <;> first | exact hG (.ref h) (by simp [V.lt, *]) | exact .top _ rfl
  | eref h => rw [V.cutv]; split <;> first | exact hG (.eref h) (by simp [V.lt, *]) | exact .top _ rfl
  | erefx h => rw [V.cutv]; split <;> first | exact hG (.erefx h) (by simp [V.lt, *]) | exact .top _ rfl
  | own hr hl ha => rw [V.cutv]; split <;> first | exact hG (.own hr hl ha) (by simp [V.lt, *]) | exact .top _ rfl
  | bsl h hc ha => rw [V.cutv]; split <;> first | exact hG (.bsl h hc ha) (by simp [V.lt, *]) | exact .top _ rfl
  | yl h => rw [V.cutv]; split <;> first | exact hG (.yl h) (by simp [V.lt, *]) | exact .top _ rfl
  | map h => rw [V.cutv]; split <;> first | exact hG (.map h) (by simp [V.lt, *]) | exact .top _ rfl
  | cref vs hk hv _ => rw [V.cutv]; split <;> first | exact hG (.cref vs hk hv) (by simp [V.lt, *]) | exact .top _ rfl
  | slnil => exact hG .slnil rfl
  | sl0 hx => exact hG (.sl0 hx) rfl
  | sl sz vs hne hx hc hsz hk hv _ => rw [V.cutv]; split <;> first | exact hG (.sl sz vs hne hx hc hsz hk hv) (by simp [V.lt, *]) | exact .top _ rfl
  | fn hn hv _ => rw [V.cutv]; split <;> first | exact hG (.fn hn hv) (by simp [V.lt, *]) | exact .top _ rfl
/-- What is left when objects from N on are forgotten. -/
def Cut (N : Nat) (J : St → Prop) (s : St) : Prop := ∃ L' B, s.L = L' ++ B ∧ L'.length = N ∧ (∀ ob ∈ L', objLts N ob) ∧ J ⟨fun t => V.cutv N (s.env t), L'⟩
def lpF (N : Nat) (J : Nat → St → Prop) (k : Nat) (Q : Ex → St → Prop) : Ex → St → Prop
  | .normal, s => ∃ k', k' < k ∧ Cut N (J k') s
  | e, s => Q e s
theorem SW.loopF {r : Option Nat} {n : Nat} {Q : Ex → St → Prop} {st : St} {c : Code} (I : Nat → St → Prop) (k : Nat) (h₀ : I k st) (round : ∀ k s, I k s → SW P Z r n c (lpF st.L.length I k Q) s) : SW P Z r n (.loop c) Q st := by
  intro N0 G a w hN hs
  refine .loop (fun k a' w' => ∃ st' G', I k st' ∧ st'.L.length = st.L.length ∧ SR Z N0 n G' st' a' w' ∧ Evo G st.L w G' st'.L w') k ⟨st, G, h₀, rfl, hs, .refl _ _ _⟩ ?_
  rintro k a' w' ⟨st', G', hI, hlen, hs', he⟩
  refine (round k st' hI N0 G' a' w' (Nat.le_trans hN he.size) hs').mono fun e a2 w2 ⟨st2, G2, k1, k2, k3⟩ => ?_
  cases e with
  | exit _ => exact ⟨st2, G2, k1, k2, he.trans k3⟩
  | ret => exact ⟨st2, G2, k1, k2, he.trans k3⟩
  | normal =>
    obtain ⟨k', hk, L', B, hL, hl, hob, hJ⟩ := k1
    obtain ⟨env2, L2⟩ := st2
    simp only at hL
    subst hL
    have he2 := he.trans k3
    obtain ⟨G3, f1, f2, f3, _⟩ := k2.rel.forget he2 (fun id g l h => by rw [hl]; exact hs.rel.rl id g l h) (fun id ob hid => by rw [hl]; exact hob ob (List.mem_of_getElem? hid)) (by
      intro b hb hn
      obtain ⟨id, ob, h1, h2⟩ := hb
      by_cases hid : id < L'.length
      · refine (hn ⟨id, ob, by rwa [List.getElem?_append_left hid] at h1, ?_⟩).elim
        exact h2.imp (fun h => ⟨h, hid⟩) (fun ⟨c, s, h⟩ => ⟨c, s, h, hid⟩)
      · rcases he2.heldi id ob b h1 h2 with ⟨ob0, h3, _⟩ | h3
        · have := (List.getElem?_eq_some_iff.1 h3).1
          omega
        · exact h3)
    rw [hl] at f3
    exact ⟨k', hk, ⟨fun t => V.cutv st.L.length (env2 t), L'⟩, G3, hJ, hl, k2.rel' f1 (fun t ht => (k2.tm t ht).cutv f3), f2⟩
section
variable {r : Option Nat} {n : Nat} {Q : Ex → St → Prop} {env : Nat → V} {L : List Obj} {i : Nat}
theorem W.lpF {c : Code} (J : Nat → St → Prop) (k : Nat) (h₀ : J k ⟨env, L⟩) (round : ∀ k env L1, J k ⟨env, L1⟩ → CW P Z r n c (lpF L.length J k Q) env L1) : CW P Z r n (.loop c) Q env L :=
  ⟨SW.loopF J k h₀ (fun k s hs => (round k s.env s.L hs).out)⟩
theorem K.fe {N : Nat} {J : Nat → St → Prop} {k : Nat} (h : KO Q (.exit i) env L) : KO (Go.Pv.lpF N J k Q) (.exit i) env L := ⟨h.out⟩
theorem K.fr {N : Nat} {J : Nat → St → Prop} {k : Nat} (h : KO Q .ret env L) : KO (Go.Pv.lpF N J k Q) .ret env L := ⟨h.out⟩
theorem K.fn {N : Nat} {J : Nat → St → Prop} {k : Nat} (k' : Nat) (hk : k' < k) (L' B : List Obj) (hL : L = L' ++ B) (hl : L'.length = N) (hob : ∀ ob ∈ L', objLts N ob) (h : J k' ⟨fun t => V.cutv N (env t), L'⟩) : KO (Go.Pv.lpF N J k Q) .normal env L :=
  ⟨k', hk, L', B, hL, hl, hob, h⟩
end
theorem lts_le {n m : Nat} (h : n ≤ m) {vs : List V} (hv : V.lts n vs = true) : V.lts m vs = true := by
  rw [V.lts_iff] at hv ⊢; exact fun v hm => V.lt_mono h v (hv v hm)
theorem cutv_sl {N : Nat} {nl x : Bool} {xs : List V} (h : V.lts 0 xs = true) : V.cutv N (.sl nl x xs) = .sl nl x xs := by
  rw [V.cutv, if_pos (lts_le (Nat.zero_le _) h)]
theorem cutv_cref {N : Nat} {xs : List V} (h : V.lts 0 xs = true) : V.cutv N (.cref xs) = .cref xs := by
  rw [V.cutv, if_pos (lts_le (Nat.zero_le _) h)]
theorem obs_nil {n : Nat} : ∀ ob ∈ ([] : List Obj), objLts n ob := fun _ h => by simp at h
theorem obs_cons {n : Nat} {ob : Obj} {L : List Obj} (h : objLts n ob) (hs : ∀ o ∈ L, objLts n o) : ∀ o ∈ ob :: L, objLts n o := fun o ho => by
  rcases List.mem_cons.1 ho with rfl | ho
  · exact h
  · exact hs o ho
theorem ob_box {n : Nat} {cs : List V} (h : V.lts 0 cs = true) : objLts n (.box cs) := lts_le (Nat.zero_le _) h
theorem ob_buf {n sz m : Nat} {cs : List V} (h : V.lts 0 cs = true) : objLts n (.buf sz m cs) := lts_le (Nat.zero_le _) h
end Go.Pv
end
section
/- Functions that hand back an array out of its place. -/
set_option linter.unusedVariables false
set_option linter.unusedSimpArgs false
namespace Go.Pv
variable {P : Program} {Z : Nat → Go.Obj → Prop}
theorem resV_cell {env : Nat → V} {L : List Obj} {a : Tmp} {t : TypeId} {id n : Nat} {cs : List V} (ha : env a = .ref id 0) (hL : L[id]? = some (.box cs)) (hn : cs.length = n) (hsz : szT P t = some n := by rfl) (hg : aggT P t = some true := by rfl) :
    resV P ⟨env, L⟩ [.cell a t] = some (.agg cs) := by
  have : pload P L t (env a) = some (.agg cs) := by
    simp only [pload, pcells, ha, hL, hsz, hg, List.drop_zero]
    rw [if_pos (by omega), List.take_of_length_le (by omega)]
  simp [resV, resVs, resV1, this]
theorem frzs_data {n : Nat} {L : List Obj} : ∀ {vs : List V}, V.lts 0 vs = true → frzs n L vs = some vs
  | [], _ => rfl
  | v :: vs, h => by
    simp only [V.lts, Bool.and_eq_true] at h
    have h1 : frz1 n L v = some v := by
      unfold frz1
      split
      · simp [V.lt] at h
      · simp [V.lt] at h
      · rw [if_pos h.1]
    rw [frzs, h1, frzs_data h.2]
theorem frz_agg {n : Nat} {L : List Obj} {cs : List V} (h : V.lts 0 cs = true) : frz n L (.agg cs) = some (.agg cs) := by
  rw [frz, frzs_data h]; rfl
theorem agg_data {cs : List V} (h : V.lts 0 cs = true) : V.lt 0 (.agg cs) = true := h
end Go.Pv
namespace Go.Pv
section
variable {P : Program} {Z : Nat → Go.Obj → Prop} {ops : Array Oper} {rest : List Oper} {env : Nat → V} {L L' : List Obj} {K : St → Prop} {d : Tmp} {ty : TypeId} {pos : String} {af : Array Edge} {v : V} {f : Operand} {args : Array Operand} {ats : Array TypeId} {g : FuncId} {caps as : List V}
/-- A call of a function value. -/
theorem X.callf (hf : St.ev ⟨env, L⟩ f = .fn g caps) (ha : args.toList.map (St.ev ⟨env, L⟩) = as) (h : SE P Z g (as ++ caps) L v L') (hK : XO P Z ops rest (upd env d v) L' K) :
    XO P Z ops (⟨some d, .call ⟨.value f, args, ats⟩, ty, pos, af, none⟩ :: rest) env L K :=
  X.callv hf ha (CallV.of_SC (h.out.mono fun u M ⟨h1, h2⟩ => by subst h1 h2; exact hK))
theorem A.callf (hf : St.ev ⟨env, L⟩ f = .fn g caps) (ha : args.toList.map (St.ev ⟨env, L⟩) = as) (h : SE P Z g (as ++ caps) L v L) (hK : AO P Z ops rest (upd env d v) L K) :
    AO P Z ops (⟨some d, .call ⟨.value f, args, ats⟩, ty, pos, af, none⟩ :: rest) env L K :=
  A.callv hf ha (CallV.of_SC h.out) hK
variable {t : TypeId} {x : Operand} {α : Type} [Inhabited α] {g' : α → V} {l : List α} {n o : Nat}
/-- A whole array is read out of a row of cells. -/
theorem pop_ldS (hx : St.ev ⟨env, L⟩ x = .cref ((l.map g').drop o)) (h : o + n ≤ l.length) (hsz : szT P t = some n) (ha : aggT P t = some true) : pop P L (St.ev ⟨env, L⟩) (.load t x) = some (.agg (((l.drop o).take n).map g'), L) := by
  simp only [pop, pload, pcells, hx, hsz, ha]
  rw [if_pos (by simp; omega)]
  simp [List.map_drop, List.map_take]
theorem X.ldS (hx : St.ev ⟨env, L⟩ x = .cref ((l.map g').drop o)) (h : o + n ≤ l.length) (hK : XO P Z ops rest (upd env d (.agg (((l.drop o).take n).map g'))) L K) (hsz : szT P t = some n := by rfl) (ha : aggT P t = some true := by rfl) :
    XO P Z ops (⟨some d, .load t x, ty, pos, af, none⟩ :: rest) env L K := X.go0 (pop_ldS hx h hsz ha) hK
theorem A.ldS (hx : St.ev ⟨env, L⟩ x = .cref ((l.map g').drop o)) (h : o + n ≤ l.length) (hK : AO P Z ops rest (upd env d (.agg (((l.drop o).take n).map g'))) L K) (hsz : szT P t = some n := by rfl) (ha : aggT P t = some true := by rfl) :
    AO P Z ops (⟨some d, .load t x, ty, pos, af, none⟩ :: rest) env L K := A.go0 (pop_ldS hx h hsz ha) hK
end
end Go.Pv
end
section
/- Copies into an array; parts of an array read and written. -/
set_option linter.unusedVariables false
set_option linter.unusedSimpArgs false
set_option linter.unusedSectionVars false
namespace Go.Pv
variable {P : Program} {Z : Nat → Go.Obj → Prop}
section
variable {ops : Array Oper} {rest : List Oper} {env : Nat → V} {L L' : List Obj} {K : St → Prop} {d : Tmp} {ty t e : TypeId} {pos : String} {af : Array Edge} {x y : Operand} {ats : Array TypeId} {α : Type} [Inhabited α] {g : α → V} {l ys l' : List α} {id n o len : Nat} {nl ex : Bool}
theorem flat_map {g : α → V} (hg : ∀ a, (g a).cells = [g a]) : ∀ l : List α, flat (l.map g) = l.map g
  | [] => rfl
  | a :: l => by rw [List.map_cons, flat_cons, hg a, flat_map hg l]; rfl
/-- copy into an array's part. -/
theorem X.cpB (l' : List α) (hx : St.ev ⟨env, L⟩ x = .bsl id o len) (hy : St.ev ⟨env, L⟩ y = .sl nl ex (ys.map g)) (hL : L[id]? = some (.box (l.map g))) (hl : o + len ≤ l.length) (hg : ∀ a, (g a).cells = [g a]) (ho : ∀ a, (g a).one = true)
    (hl' : l.take o ++ ys.take len ++ l.drop (o + min len ys.length) = l') (hK : XO P Z ops rest (upd env d (.int .i64 (min ys.length len : Nat))) L' K) (hL' : L.set id (.box (l'.map g)) = L' := by ((try simp only [List.set_cons_zero, List.set_cons_succ, List.cons_append, List.nil_append]) <;> rfl))
    (ht : ats[0]? = some t := by rfl) (hte : P.underlying t = some (.slice e) := by rfl) (hsz : szT P e = some 1 := by rfl) :
    XO P Z ops (⟨some d, .call ⟨.builtin .copy, #[x, y], ats⟩, ty, pos, af, none⟩ :: rest) env L K := X.go0 (by
      subst hL' hl'
      have h1 : (ys.map g).all (fun y => y.cells.length == 1 && y.cells.all V.one) = true := by simp [hg, ho]
      simp only [pop, pbuiltin, List.map_cons, List.map_nil, hx, hy, ht, pcopy, hte, hsz, elems]
      rw [if_pos ⟨by decide, h1⟩]
      simp only [hL]
      rw [if_pos ⟨by simpa using hl, trivial⟩]
      rw [← List.map_take, flat_map hg]
      simp only [List.length_map, setAt, List.length_take, List.map_append, List.map_take, List.map_drop]) hK
/-- A whole array is read out of a part of a place. -/
theorem pop_ldP (hx : St.ev ⟨env, L⟩ x = .ref id o) (hL : L[id]? = some (.box (l.map g))) (h : o + n ≤ l.length) (hsz : szT P t = some n) (ha : aggT P t = some true) : pop P L (St.ev ⟨env, L⟩) (.load t x) = some (.agg (((l.drop o).take n).map g), L) := by
  simp only [pop, pload, pcells, hx, hL, hsz, ha]
  rw [if_pos (by simp; omega)]
  simp [List.map_drop, List.map_take]
theorem X.ldP (hx : St.ev ⟨env, L⟩ x = .ref id o) (hL : L[id]? = some (.box (l.map g))) (h : o + n ≤ l.length) (hK : XO P Z ops rest (upd env d (.agg (((l.drop o).take n).map g))) L K) (hsz : szT P t = some n := by rfl) (ha : aggT P t = some true := by rfl) :
    XO P Z ops (⟨some d, .load t x, ty, pos, af, none⟩ :: rest) env L K := X.go0 (pop_ldP hx hL h hsz ha) hK
theorem A.ldP (hx : St.ev ⟨env, L⟩ x = .ref id o) (hL : L[id]? = some (.box (l.map g))) (h : o + n ≤ l.length) (hK : AO P Z ops rest (upd env d (.agg (((l.drop o).take n).map g))) L K) (hsz : szT P t = some n := by rfl) (ha : aggT P t = some true := by rfl) :
    AO P Z ops (⟨some d, .load t x, ty, pos, af, none⟩ :: rest) env L K := A.go0 (pop_ldP hx hL h hsz ha) hK
theorem X.ldQ (k : List α) (hx : St.ev ⟨env, L⟩ x = .ref id o) (hL : L[id]? = some (.box (l.map g))) (h : o + n ≤ l.length) (hk : (l.drop o).take n = k) (hK : XO P Z ops rest (upd env d (.agg (k.map g))) L K) (hsz : szT P t = some n := by rfl) (ha : aggT P t = some true := by rfl) :
    XO P Z ops (⟨some d, .load t x, ty, pos, af, none⟩ :: rest) env L K := X.ldP hx hL h (by rw [hk]; exact hK) hsz ha
theorem A.ldQ (k : List α) (hx : St.ev ⟨env, L⟩ x = .ref id o) (hL : L[id]? = some (.box (l.map g))) (h : o + n ≤ l.length) (hk : (l.drop o).take n = k) (hK : AO P Z ops rest (upd env d (.agg (k.map g))) L K) (hsz : szT P t = some n := by rfl) (ha : aggT P t = some true := by rfl) :
    AO P Z ops (⟨some d, .load t x, ty, pos, af, none⟩ :: rest) env L K := A.ldP hx hL h (by rw [hk]; exact hK) hsz ha
end
theorem W.lq {r : Option Nat} {n : Nat} {Q : Ex → St → Prop} {env : Nat → V} {L : List Obj} {c : Code} (J : Nat → St → Prop) (h₀ : ∃ k, J k ⟨env, L⟩) (round : ∀ k env L, J k ⟨env, L⟩ → CW P Z r n c (lpK J k Q) env L) : CW P Z r n (.loop c) Q env L :=
  h₀.elim fun k h => W.lp J k h round
theorem W.lqF {r : Option Nat} {n : Nat} {Q : Ex → St → Prop} {env : Nat → V} {L : List Obj} {c : Code} (N : Nat) (J : Nat → St → Prop) (h₀ : ∃ k, J k ⟨env, L⟩) (round : ∀ k env L1, J k ⟨env, L1⟩ → CW P Z r n c (Go.Pv.lpF N J k Q) env L1) (hN : L.length = N := by rfl) : CW P Z r n (.loop c) Q env L :=
  h₀.elim fun k h => W.lpF J k h (by rw [hN]; exact round)
end Go.Pv
end
