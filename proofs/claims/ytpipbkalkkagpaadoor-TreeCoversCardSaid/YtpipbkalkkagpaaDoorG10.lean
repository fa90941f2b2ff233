import Derived.Test.YtpipbkalkkagpaaDoorG8
import Derived.Test.YtpipbkalkkagpaaDoorG4
import Derived.Test.YtpipbkalkkagpaaDoorG9
set_option linter.unusedVariables false
set_option linter.unusedSimpArgs false
set_option linter.unusedSectionVars false
section
/- Trees: places in rows that rise; a number that is put into a row. -/
set_option linter.unusedVariables false
set_option linter.unusedSimpArgs false
set_option maxRecDepth 100000
set_option maxHeartbeats 2000000
namespace Go.Proofs.Mth
open Go Go.Pv Go.Proofs Go.Shelf
def rnI : Ren := ⟨fun x => if x = 21 then 59 else if x = 27 then 83 else if x = 28 then 84 else if x = 35 then 89 else if x = 39 then 93 else x, fun x => if x = 0 then 0 else if x = 3 then 3 else if x = 4 then 4 else if x = 22 then 38 else x, fun x => x⟩
set_option maxRecDepth 100000 in
theorem insL : Lays2.n21 Tryd.prog rnI := by constructor <;> first | rfl | (intro _; rfl) | kernel_rfl
instance insI : CC Tryd.prog 59 (∀ (l : List Int) (i x : Int), 0 ≤ i ∧ i ≤ l.length → l.length ≤ 1000000 → ∀ {Z}, ZT Z → ∀ L id, L[id]? = some (Go.Pv.Obj.buf 1 0 (l.map (V.int .i64))) →
    SE Tryd.prog Z 59 [.own id 0 l.length l.length, .int .i64 i, .sl false true [.int .i64 x]] L (gI (insV l i.toNat x)) (L.set id (.buf 1 (l.length + 1) ((insV l i.toNat x).map (V.int .i64))))) := ⟨fun l i x hi hn {Z} H L id hL => by
  obtain ⟨i, rfl⟩ := Int.eq_ofNat_of_zero_le hi.1
  rw [Int.toNat_natCast]
  refine ⟨⟨⟨_, (rfl : Tryd.prog.funcs[59]? = some Tryd.f59), by kernel_rfl, by kernel_rfl⟩, fun G w rargs hr ha => ?_⟩⟩
  obtain ⟨hs, hv⟩ := ha
  obtain ⟨a, b, c, rfl⟩ : ∃ a b c, rargs = #[a, b, c] := by
    obtain ⟨l⟩ := rargs
    simp only [List.size_toArray] at hs
    match l, hs with
    | [a, b, c], _ => exact ⟨a, b, c, rfl⟩
  have h0 := hv 0 (by simp)
  have h1 := hv 1 (by simp)
  have h2 := hv 2 (by simp)
  have e0 : (#[a, b, c] : Array Value).getD 0 undef = a := rfl
  have e1 : (#[a, b, c] : Array Value).getD 1 undef = b := rfl
  have e2 : (#[a, b, c] : Array Value).getD 2 undef = c := rfl
  rw [e0] at h0; rw [e1] at h1; rw [e2] at h2
  simp only [List.getElem_cons_zero, List.getElem_cons_succ] at h0 h1 h2
  obtain rfl : b = .int .i64 (i : Int) := by cases h1; rfl
  refine Calls0.of_calls ((ins_sound insL hr hL (by omega) hn h0 h2).mono ?_)
  rintro e w' ⟨r, rfl, G', q1, q2, q3⟩
  exact ⟨r, rfl, G', _, _, ⟨rfl, rfl⟩, q1, q2, q3⟩⟩
/-- The first place of a row that rises at which no smaller number stands. -/
def lbV (l : List Int) (x : Int) : Nat := (l.takeWhile fun a => decide (a < x)).length
def Srt (l : List Int) : Prop := ∀ p q, p < q → q < l.length → rd l (p : Int) ≤ rd l (q : Int)
theorem lb_is {l : List Int} {x : Int} : ∀ {i : Nat}, i ≤ l.length → (∀ q, q < i → rd l (q : Int) < x) → (i < l.length → ¬ rd l (i : Int) < x) → lbV l x = i := by
  induction l with
  | nil => intro i hi _ _; simp at hi; subst hi; rfl
  | cons a l ih =>
    intro i hi h1 h2
    cases i with
    | zero =>
      have := h2 (by simp)
      have e : rd (a :: l) ((0 : Nat) : Int) = a := rfl
      rw [e] at this
      unfold lbV
      rw [List.takeWhile_cons, if_neg (by simpa using this)]; rfl
    | succ i =>
      have := h1 0 (by omega)
      have e : rd (a :: l) ((0 : Nat) : Int) = a := rfl
      rw [e] at this
      have hs : ∀ q : Nat, rd (a :: l) ((q + 1 : Nat) : Int) = rd l (q : Int) := fun q => by rw [rd_nat, rd_nat]; rfl
      have := ih (i := i) (by simpa using hi) (fun q hq => by have := h1 (q + 1) (by omega); rwa [hs] at this) (fun hq => by have := h2 (by simpa using hq); rwa [hs] at this)
      unfold lbV at this ⊢
      rw [List.takeWhile_cons, if_pos (by simpa using ‹a < x›), List.length_cons, this]
theorem lb_le (l : List Int) (x : Int) : lbV l x ≤ l.length := by
  unfold lbV
  induction l with
  | nil => simp
  | cons a l ih => rw [List.takeWhile_cons]; split <;> simp; omega
theorem ins_put {l : List Int} {x : Int} (hs : Srt l) : insV l (lbV l x) x = putV x l := by
  induction l with
  | nil => rfl
  | cons a l ih =>
    have hs' : Srt l := fun p q h1 h2 => by
      have := hs (p + 1) (q + 1) (by omega) (by simpa using h2)
      rwa [show rd (a :: l) ((p + 1 : Nat) : Int) = rd l (p : Int) by rw [rd_nat, rd_nat]; rfl, show rd (a :: l) ((q + 1 : Nat) : Int) = rd l (q : Int) by rw [rd_nat, rd_nat]; rfl] at this
    have ha : ∀ b ∈ l, a ≤ b := fun b hb => by
      obtain ⟨q, hq, rfl⟩ := List.getElem_of_mem hb
      have := hs 0 (q + 1) (by omega) (by simpa using hq)
      rwa [show rd (a :: l) ((0 : Nat) : Int) = a from rfl, show rd (a :: l) ((q + 1 : Nat) : Int) = l[q] by rw [rd_nat]; simp [List.getD_eq_getElem?_getD, hq]] at this
    have heq : ∀ l : List Int, (∀ b ∈ l, x ≤ b) → putV x l = x :: l ∨ ∃ r, l = x :: r ∧ putV x l = x :: putV x r := by
      intro l hl
      cases l with
      | nil => exact .inl rfl
      | cons b r =>
        rw [putV]; split
        · exact .inl rfl
        · have := hl b (by simp)
          obtain rfl : b = x := by omega
          exact .inr ⟨r, rfl, rfl⟩
    have hall : ∀ l : List Int, (∀ b ∈ l, x ≤ b) → putV x l = x :: l := by
      intro l
      induction l with
      | nil => intro _; rfl
      | cons b r ihr =>
        intro hl
        rcases heq (b :: r) hl with h | ⟨r', h1, h2⟩
        · exact h
        · obtain ⟨rfl, rfl⟩ := List.cons.inj h1
          rw [h2, ihr fun c hc => hl c (by simp [hc])]
    by_cases h : a < x
    · have e : lbV (a :: l) x = lbV l x + 1 := by unfold lbV; rw [List.takeWhile_cons, if_pos (by simpa using h)]; rfl
      rw [e, putV, if_neg (by omega), ← ih hs']; rfl
    · have e : lbV (a :: l) x = 0 := by unfold lbV; rw [List.takeWhile_cons, if_neg (by simpa using h)]; rfl
      rw [e, hall (a :: l) (fun b hb => by by_cases e : b = a; (subst e; omega); have := ha b ((List.mem_cons.1 hb).resolve_left e); omega)]; rfl
instance nan1 : CC Tryd.prog 88 (∀ (x : Int), C 88 [.int .i64 x] (.bool false)) := ⟨fun x => by
  refine ct Tryd.func88 fun {Z} H => ?_
  repeat' first | refine go ?_ | (refine sp ?_ ?_ <;> intro h) | intro b
  refine fin (vB ?_)
  simp⟩
instance nan2 : CC Tryd.prog 82 (∀ (x : Int), C 82 [.int .i64 x] (.bool false)) := ⟨fun x => by
  refine ct Tryd.func82 fun {Z} H => ?_
  repeat' first | refine go ?_ | (refine sp ?_ ?_ <;> intro h) | intro b
  refine fin (vB ?_)
  simp⟩
instance less : CC Tryd.prog 81 (∀ (a b : Int), C 81 [.int .i64 a, .int .i64 b] (.bool (decide (a < b)))) := ⟨fun a b => by
  refine ct Tryd.func81 fun {Z} H => ?_
  repeat' first | refine go ?_ | (refine sp ?_ ?_ <;> intro h) | intro b
  exact fin rfl⟩
def foundB (l : List Int) (x : Int) : Bool := decide (lbV l x < l.length ∧ rd l (lbV l x : Int) = x)
instance bsI : CC Tryd.prog 58 (∀ (l : List Int) (x : Int), Srt l → l.length ≤ 1000000 → C 58 [gI l, .int .i64 x] (.tup [.int .i64 (lbV l x : Nat), .bool (foundB l x)])) := ⟨fun l x h1 h2 => by
  refine ct Tryd.func58 fun {Z} H => ?_
  repeat' first | refine go ?_ | (refine sp ?_ ?_ <;> intro h) | intro b
  refine W.loop (fun s : Nat × Nat => [(0, gI l), (1, .int .i64 x), (6, .int .i64 (l.length : Nat)), (7, .int .i64 s.1), (8, .int .i64 s.2)]) (fun _ => []) (fun s => s.1 ≤ s.2 ∧ s.2 ≤ l.length ∧ (∀ q, q < s.1 → rd l (q : Int) < x) ∧ ∀ q, s.2 ≤ q → q < l.length → ¬ rd l (q : Int) < x) (fun s => s.2 - s.1) (0, l.length) ⟨Nat.zero_le _, Nat.le_refl _, fun q hq => absurd hq (Nat.not_lt_zero q), fun q h1 h2 => by dsimp only at h1; omega⟩ ?_
  rintro ⟨i, j⟩ env ⟨hi, hj, hq1, hq2⟩
  dsimp only at *
  repeat' first | refine go ?_ | (refine sp ?_ ?_ <;> intro h) | intro b
  · have hh : ((i : Int) + (j : Int)) / 2 ^ 1 = (((i + j) / 2 : Nat) : Int) := by omega
    rw [hh] at h
    have hs : ∀ q, q ≤ (i + j) / 2 → rd l (q : Int) < x := fun q hq => by
      by_cases e : q = (i + j) / 2
      · subst e; exact h
      · have := h1 q ((i + j) / 2) (by omega) (by omega); omega
    exact lp ((i + j) / 2 + 1, j) ⟨by dsimp only; omega, hj, fun q hq => hs q (by dsimp only at hq; omega), hq2⟩ (by dsimp only; omega)
  · have hh : ((i : Int) + (j : Int)) / 2 ^ 1 = (((i + j) / 2 : Nat) : Int) := by omega
    rw [hh] at h
    have hs : ∀ q, (i + j) / 2 ≤ q → q < l.length → ¬ rd l (q : Int) < x := fun q hq hq' => by
      by_cases e : q = (i + j) / 2
      · subst e; exact h
      · have := h1 ((i + j) / 2) q (by omega) (by omega); omega
    exact lp (i, (i + j) / 2) ⟨by dsimp only; omega, by dsimp only; omega, hq1, hs⟩ (by dsimp only; omega)
  all_goals
    have hij : j = i := by omega
    subst hij
    have hlb : lbV l x = j := lb_is hj hq1 (fun hl => hq2 j (Nat.le_refl _) hl)
    rw [hlb]
    refine fin ?_
    have hf : foundB l x = decide (j < l.length ∧ rd l (j : Int) = x) := by unfold foundB; rw [hlb]
    rw [hf]
  · rw [decide_eq_true ⟨by omega, by assumption⟩]; rfl
  · rw [decide_eq_false (by rintro ⟨_, hh⟩; exact ‹¬ rd l (j : Int) = x› hh)]; rfl
  · rw [decide_eq_false (by rintro ⟨hh, _⟩; omega)]; rfl⟩
end Go.Proofs.Mth
end
section
/- Right trees: the plain facts; no program in sight. -/
set_option linter.unusedVariables false
set_option linter.unusedSimpArgs false
set_option maxRecDepth 100000
set_option maxHeartbeats 2000000
namespace Go.Proofs.Mth
open Go Go.Pv Go.Proofs
/-! places -/
def loN (x : Nat) : Nat := (x + 1 - 2 ^ lev x) / 2
def hiN (x : Nat) : Nat := (x + 2 ^ lev x - 1) / 2
theorem lv_lo {x : Nat} (h : x < 2047) : (leavesV (x : Int)).1 = loN x := by rw [leaves_nat x h]; rfl
theorem lv_hi {x : Nat} (h : x < 2047) : (leavesV (x : Int)).2 = hiN x := by rw [leaves_nat x h]; rfl
def pathN (j i : Nat) : List Nat := (ups (2 * i) (2 ^ j)).map (·.2)
theorem path_iff {j i x : Nat} (hj : j < 7) (hi : i < 2 ^ j) (hx : x < 2 * 2 ^ j - 1) : x ∈ pathN j i ↔ x % 2 = 1 ∧ loN x ≤ i ∧ i ≤ hiN x := by
  have h : ((List.range 7).all fun j => (List.range (2 ^ j)).all fun i => (List.range (2 * 2 ^ j - 1)).all fun x => decide (x ∈ pathN j i ↔ x % 2 = 1 ∧ loN x ≤ i ∧ i ≤ hiN x)) = true := by kernel_rfl
  exact of_decide_eq_true (all_lt (all_lt (all_lt h j hj) i hi) x hx)
theorem path_ok {j i : Nat} (hj : j < 7) (hi : i < 2 ^ j) : (pathN j i).Nodup ∧ ∀ x ∈ pathN j i, x < 2 * 2 ^ j - 1 := by
  have h : ((List.range 7).all fun j => (List.range (2 ^ j)).all fun i => decide ((pathN j i).Nodup) && (pathN j i).all fun x => decide (x < 2 * 2 ^ j - 1)) = true := by kernel_rfl
  have := all_lt (all_lt h j hj) i hi
  rw [Bool.and_eq_true, decide_eq_true_iff, List.all_eq_true] at this
  exact ⟨this.1, fun x hx => of_decide_eq_true (this.2 x hx)⟩
theorem leaf_at {x : Nat} (hx : x < 127) (h : x % 2 = 0) : loN x = x / 2 ∧ hiN x = x / 2 := by
  have hh : ((List.range 127).all fun x => decide (x % 2 = 0 → loN x = x / 2 ∧ hiN x = x / 2)) = true := by kernel_rfl
  exact of_decide_eq_true (all_lt hh x hx) h
theorem below {j x : Nat} (hj : j < 7) (hx : x < 2 * 2 ^ j - 1) : loN x ≤ hiN x ∧ hiN x < 2 ^ j := by
  have hh : ((List.range 7).all fun j => (List.range (2 * 2 ^ j - 1)).all fun x => decide (loN x ≤ hiN x ∧ hiN x < 2 ^ j)) = true := by kernel_rfl
  exact of_decide_eq_true (all_lt (all_lt hh j hj) x hx)
theorem kids_at {x : Nat} (hx : x < 127) (h : x % 2 = 1) : loN (lN x) = loN x ∧ hiN (rN x) = hiN x ∧ hiN (lN x) + 1 = loN (rN x) := by
  have hh : ((List.range 127).all fun x => decide (x % 2 = 1 → loN (lN x) = loN x ∧ hiN (rN x) = hiN x ∧ hiN (lN x) + 1 = loN (rN x))) = true := by kernel_rfl
  exact of_decide_eq_true (all_lt hh x hx) h
theorem pathV_nat {t : List Nd} {j i : Nat} (hj : j < 11) (hl : t.length = 2 * 2 ^ j - 1) (hi : i < 2 ^ j) : pathV t (i : Int) = (pathN j i).map fun (x : Nat) => (x : Int) := by
  have hc := cnt_of hl
  have hn : isN (2 * (i : Int)) (cnt t : Nat) = true := by
    rw [hc, show 2 * (i : Int) = ((2 * i : Nat) : Int) by omega]
    exact isN_of hj (by omega)
  unfold pathV pathN
  rw [if_pos hn, hc, show 2 * (i : Int) = ((2 * i : Nat) : Int) by omega, Int.toNat_natCast, List.map_map]
  rfl
theorem mem_pathV {t : List Nd} {j i x : Nat} (hj : j < 7) (hl : t.length = 2 * 2 ^ j - 1) (hi : i < 2 ^ j) (hx : x < t.length) : (x : Int) ∈ pathV t (i : Int) ↔ x % 2 = 1 ∧ loN x ≤ i ∧ i ≤ hiN x := by
  rw [pathV_nat (by omega) hl hi, ← path_iff hj hi (by omega)]
  constructor
  · intro h
    obtain ⟨y, hy, e⟩ := List.mem_map.1 h
    obtain rfl : y = x := by omega
    exact hy
  · exact fun h => List.mem_map.2 ⟨x, h, rfl⟩
/-- Any path's nodes are the tree's. -/
theorem ups_in {j : Nat} (hj : j < 11) : ∀ f x, x < 2 * 2 ^ j - 1 → ∀ q ∈ upsF f x (2 ^ j), q.2 < 2 * 2 ^ j - 1
  | 0, x, _, q, hq => by simp [upsF] at hq
  | f + 1, x, hx, q, hq => by
    rw [upsF] at hq; split at hq
    · simp at hq
    · have hu := (up_node j hj x hx ‹_›).1
      rcases List.mem_cons.1 hq with rfl | hq
      · exact hu
      · exact ups_in hj f _ hu q hq
theorem pathV_in {t : List Nd} (h : okS t) {i : Int} (h0 : 0 ≤ i) (hi : i < (cnt t : Int)) : ∀ x ∈ pathV t i, 0 ≤ x ∧ x < (t.length : Int) := by
  obtain ⟨j, hj, hl⟩ := h
  obtain ⟨i, rfl⟩ := Int.eq_ofNat_of_zero_le h0
  have hc := cnt_of hl
  rw [pathV_nat hj hl (by omega)]
  intro x hx
  obtain ⟨y, hy, rfl⟩ := List.mem_map.1 hx
  unfold pathN at hy
  obtain ⟨q, hq, rfl⟩ := List.mem_map.1 hy
  have := ups_in hj _ (2 * i) (by omega) q hq
  omega
/-! trees, place by place -/
theorem rd_set {t : List Nd} {x y : Int} {n : Nd} (h : 0 ≤ x ∧ x < (t.length : Int)) (hy : 0 ≤ y) : rd (setN t y n) x = if x = y then n else rd t x := by
  obtain ⟨x, rfl⟩ := Int.eq_ofNat_of_zero_le h.1
  obtain ⟨y, rfl⟩ := Int.eq_ofNat_of_zero_le hy
  rw [rd_nat, rd_nat, setN, Int.toNat_natCast, List.getD_eq_getElem?_getD, List.getD_eq_getElem?_getD, List.getElem?_set]
  by_cases e : y = x
  · subst e; rw [if_pos rfl, if_pos (by omega), if_pos rfl]; rfl
  · rw [if_neg e, if_neg (by omega)]
theorem len_set {t : List Nd} {y : Int} {n : Nd} : (setN t y n).length = t.length := by simp [setN]
theorem rd_blanks {x : Int} : ∀ {l : List Int} {t : List Nd}, (∀ y ∈ l, 0 ≤ y) → 0 ≤ x ∧ x < (t.length : Int) → rd (l.foldl (fun t y => setN t y blankN) t) x = if x ∈ l then blankN else rd t x
  | [], t, _, _ => by simp
  | y :: l, t, hl, hx => by
    rw [List.foldl_cons, rd_blanks (fun z hz => hl z (by simp [hz])) (by rw [len_set]; exact hx), rd_set hx (hl y (by simp))]
    by_cases h1 : x ∈ l
    · rw [if_pos h1, if_pos (by simp [h1])]
    · rw [if_neg h1]
      by_cases h2 : x = y
      · rw [if_pos h2, if_pos (by simp [h2])]
      · rw [if_neg h2, if_neg (by simp [h1, h2])]
theorem rd_blankV {t : List Nd} {i x : Int} (hp : ∀ y ∈ pathV t i, 0 ≤ y ∧ y < (t.length : Int)) (hx : 0 ≤ x ∧ x < (t.length : Int)) : rd (blankV t i) x = if x ∈ pathV t i then blankN else rd t x :=
  rd_blanks (fun y hy => (hp y hy).1) hx
/-! rows that rise -/
theorem unB_iff {t : List Nd} {lo hi : Int} {l : List Int} : unB t lo hi l = true ↔ l.Pairwise (· < ·) ∧ ∀ u ∈ l, lo ≤ u ∧ u ≤ hi ∧ (rd t (2 * u)).kind = 1 := by
  have hget : ∀ q (h : q < l.length), rd l (q : Int) = l[q] := fun q h => by rw [rd_nat, List.getD_eq_getElem?_getD, List.getElem?_eq_getElem h]; rfl
  constructor
  · intro h
    have hu : ∀ q, q < l.length → unAt t lo hi l q = true := fun q hq => unB_at h hq
    simp only [unAt, Bool.and_eq_true, Bool.or_eq_true, decide_eq_true_iff] at hu
    refine ⟨List.pairwise_iff_getElem.2 fun p q hp hq hpq => ?_, fun u hu' => ?_⟩
    · have key : ∀ q, q < l.length → ∀ p, p < q → rd l (p : Int) < rd l (q : Int) := by
        intro q
        induction q with
        | zero => intro _ p hp; omega
        | succ q ih =>
          intro hq p hp
          have h1 := (hu (q + 1) hq).2.resolve_left (by omega)
          rw [show ((q + 1 : Nat) : Int) - 1 = (q : Int) by omega] at h1
          by_cases hpq : p = q
          · subst hpq; exact h1
          · have := ih (by omega) p (by omega); omega
      have := key q hq p hpq
      rwa [hget p hp, hget q hq] at this
    · obtain ⟨q, hq, rfl⟩ := List.getElem_of_mem hu'
      have := (hu q hq).1
      rw [hget q hq] at this
      exact ⟨this.1.1, this.1.2, this.2⟩
  · rintro ⟨h1, h2⟩
    refine unB_of fun q hq => ?_
    simp only [unAt, Bool.and_eq_true, Bool.or_eq_true, decide_eq_true_iff]
    have := h2 _ (List.getElem_mem hq)
    rw [hget q hq]
    refine ⟨⟨⟨this.1, this.2.1⟩, this.2.2⟩, ?_⟩
    cases q with
    | zero => exact .inl rfl
    | succ q =>
      right
      rw [show ((q + 1 : Nat) : Int) - 1 = (q : Int) by omega, hget q (by omega)]
      exact List.pairwise_iff_getElem.1 h1 q (q + 1) (by omega) hq (by omega)
theorem mem_put {n u : Int} : ∀ {l : List Int}, u ∈ putV n l ↔ u = n ∨ u ∈ l
  | [] => by simp [putV]
  | a :: l => by
    rw [putV]; split
    · simp
    · rw [List.mem_cons, mem_put, List.mem_cons]; grind
theorem put_rise {n : Int} : ∀ {l : List Int}, l.Pairwise (· < ·) → n ∉ l → (putV n l).Pairwise (· < ·)
  | [], _, _ => by simp [putV]
  | a :: l, h, hn => by
    rw [List.pairwise_cons] at h
    rw [putV]; split
    · rw [List.pairwise_cons, List.pairwise_cons]
      refine ⟨fun b hb => ?_, h⟩
      rcases List.mem_cons.1 hb with rfl | hb
      · omega
      · have := h.1 b hb; omega
    · rw [List.pairwise_cons]
      simp only [List.mem_cons, not_or] at hn
      refine ⟨fun b hb => ?_, put_rise h.2 hn.2⟩
      rcases mem_put.1 hb with rfl | hb
      · omega
      · exact h.1 b hb
theorem put_len {n : Int} : ∀ {l : List Int}, (putV n l).length = l.length + 1
  | [] => rfl
  | a :: l => by rw [putV]; split <;> simp [put_len]
/-! right trees -/
/-- A node that is right, at its place. -/
theorem whole_iff {t : List Nd} {x : Int} : wholeB t x = true ↔ rd t x = blankN ∨ ((rd t x).kind = 1 ∧ isNm (rd t x).name (rd t x).pub = true ∧ ((rd t x).hash.length = 0 ∨ (rd t x).hash.length = 32) ∧ x % 2 = 0 ∧ (rd t x).un = []) ∨
    ((rd t x).kind = 2 ∧ isNm (rd t x).name (rd t x).pub = true ∧ ((rd t x).hash.length = 0 ∨ (rd t x).hash.length = 32) ∧ x % 2 = 1 ∧ (rd t x).name = 0 ∧ unB t (leavesV x).1 (leavesV x).2 (rd t x).un = true) := by
  by_cases h0 : (rd t x).kind = 0
  · rw [wh0 h0, decide_eq_true_iff]
    constructor
    · exact .inl
    · rintro (h | h | h)
      · exact h
      · omega
      · omega
  · have hb : rd t x ≠ blankN := fun e => h0 (by rw [e]; rfl)
    by_cases h1 : (rd t x).kind = 1
    · rw [wh1 h1]
      simp only [Bool.and_eq_true, Bool.or_eq_true, decide_eq_true_iff, List.length_eq_zero_iff]
      constructor
      · rintro ⟨⟨⟨a, b⟩, c⟩, d⟩; exact .inr (.inl ⟨h1, a, b, c, d⟩)
      · rintro (h | ⟨_, a, b, c, d⟩ | h)
        · exact absurd h hb
        · exact ⟨⟨⟨a, b⟩, c⟩, d⟩
        · omega
    · by_cases h2 : (rd t x).kind = 2
      · rw [wh2 h2]
        simp only [Bool.and_eq_true, Bool.or_eq_true, decide_eq_true_iff, List.length_eq_zero_iff]
        constructor
        · rintro ⟨⟨⟨⟨a, b⟩, c⟩, d⟩, e⟩; exact .inr (.inr ⟨h2, a, b, c, d, e⟩)
        · rintro (h | h | ⟨_, a, b, c, d, e⟩)
          · exact absurd h hb
          · omega
          · exact ⟨⟨⟨⟨a, b⟩, c⟩, d⟩, e⟩
      · rw [whN h0 h1 h2]
        constructor
        · simp
        · rintro (h | h | h)
          · exact absurd h hb
          · omega
          · omega
structure RT (t : List Nd) (j : Nat) : Prop where
  hj : j < 11
  len : t.length = 2 * 2 ^ j - 1
  wh : ∀ x : Nat, x < t.length → wholeB t (x : Int) = true
  nm : ∀ x y : Nat, x < t.length → y < t.length → (rd t (x : Int)).kind = 1 → (rd t (y : Int)).kind = 1 → (rd t (x : Int)).name = (rd t (y : Int)).name → x = y
  ne : ∃ x : Nat, x < t.length ∧ (rd t (x : Int)).kind = 1
theorem had_nd {t : List Nd} : ∀ {k : Nat}, (had t k).Nodup ↔ ∀ x y : Nat, x < k → y < k → (rd t (x : Int)).kind = 1 → (rd t (y : Int)).kind = 1 → (rd t (x : Int)).name = (rd t (y : Int)).name → x = y
  | 0 => by simp [had]
  | k + 1 => by
    constructor
    · intro h x y hx hy h1 h2 he
      have hk : ∀ z : Nat, z < k → (rd t (z : Int)).kind = 1 → (rd t (k : Int)).kind = 1 → (rd t (z : Int)).name = (rd t (k : Int)).name → False := fun z hz g1 g2 g3 => by
        rw [had_yes g2, List.nodup_append] at h
        exact h.2.2 _ (mem_had.2 ⟨z, hz, g1, g3⟩) _ (List.mem_singleton.2 rfl) rfl
      have hn := had_nodup (m := 1) h
      by_cases e1 : x = k
      · by_cases e2 : y = k
        · omega
        · subst e1; exact (hk y (by omega) h2 h1 he.symm).elim
      · by_cases e2 : y = k
        · subst e2; exact (hk x (by omega) h1 h2 he).elim
        · exact had_nd.1 hn x y (by omega) (by omega) h1 h2 he
    · intro h
      refine had_step (had_nd.2 fun x y hx hy => h x y (by omega) (by omega)) fun h1 hm => ?_
      obtain ⟨y, hy, g1, g2⟩ := mem_had.1 hm
      have := h y k (by omega) (by omega) g1 h1 g2
      omega
theorem right_iff {t : List Nd} : rightB t = true ↔ ∃ j, RT t j := by
  constructor
  · intro h
    simp only [rightB, Bool.and_eq_true, decide_eq_true_iff] at h
    obtain ⟨⟨⟨⟨h1, h2⟩, h3⟩, h4⟩, h5⟩ := h
    obtain ⟨j, hj, hc⟩ := isT_pow h1
    have hb := two_pow_bound hj
    refine ⟨j, hj, by omega, fun x hx => wholeA_at h3 hx, had_nd.1 h4, ?_⟩
    obtain ⟨n, hn⟩ := List.exists_mem_of_ne_nil _ h5
    obtain ⟨y, hy, g1, _⟩ := mem_had.1 hn
    exact ⟨y, hy, g1⟩
  · rintro ⟨j, h⟩
    have hc := cnt_of h.len
    have hb := two_pow_bound h.hj
    obtain ⟨x, hx, hk⟩ := h.ne
    have hne : had t t.length ≠ [] := List.ne_nil_of_mem (mem_had.2 ⟨x, hx, hk, rfl⟩)
    simp only [rightB, Bool.and_eq_true, decide_eq_true_iff]
    exact ⟨⟨⟨⟨by rw [hc]; exact isT_of h.hj, by rw [hc, h.len]⟩, wholeA_of h.wh⟩, had_nd.2 h.nm⟩, hne⟩
end Go.Proofs.Mth
end
section
/- Trees: a leaf that is added: the program and its reference. -/
set_option linter.unusedVariables false
set_option linter.unusedSimpArgs false
set_option maxRecDepth 100000
set_option maxHeartbeats 4000000
namespace Go.Proofs.Mth
open Go Go.Pv Go.Proofs Go.Shelf
/-- A node over a leaf that comes. -/
def upS (i : Int) (n : Nd) : Nd := if n.kind = 2 then { n with un := putV i n.un } else n
def addS (i : Int) (o : List Nd) (x : Int) : List Nd := setN o x (upS i (rd o x))
/-- The tree that has room. -/
def growT (t : List Nd) : List Nd := t ++ List.replicate (if freeN t = cnt t then 2 * cnt t else 0) blankN
def addO (t : List Nd) (name : Int) (pub : List UInt8) : List Nd :=
  (pathV (growT t) (freeN t : Nat)).foldl (addS (freeN t : Nat)) (setN (growT t) (2 * (freeN t : Nat)) (leafN name pub))
def addV (t : List Nd) (name : Int) (pub : List UInt8) : List Nd × Int × Int :=
  if isNm name pub = false then (t, 0, 1) else if (findV t name).2 = true then (t, 0, 12) else if (freeN t : Int) = 1024 then (t, 0, 4) else (addO t name pub, (freeN t : Nat), 0)
theorem freeN_le (t : List Nd) : freeN t ≤ cnt t := by
  unfold freeN
  cases h : (List.range (cnt t)).find? fun i => decide ((lf t i).kind = 0) with
  | none => exact Nat.le_refl _
  | some i =>
    have := List.mem_of_find?_eq_some h
    have := List.mem_range.1 this
    simp only [Option.getD_some]; omega
theorem grow_len (t : List Nd) : (growT t).length = t.length + (if freeN t = cnt t then 2 * cnt t else 0) := by simp [growT]
theorem grow_okS {t : List Nd} (h : okS t) (h1 : ¬ (freeN t : Int) = 1024) : okS (growT t) ∧ freeN t < cnt (growT t) := by
  obtain ⟨j, hj, hl⟩ := h
  have hc := cnt_of hl
  have hb := two_pow_bound hj
  have hf := freeN_le t
  by_cases hg : freeN t = cnt t
  · have hj10 : j ≠ 10 := by rintro rfl; rw [hg, hc] at h1; exact h1 rfl
    have e : 2 ^ (j + 1) = 2 * 2 ^ j := Nat.pow_succ'
    have hl2 : (growT t).length = 2 * 2 ^ (j + 1) - 1 := by rw [grow_len, if_pos hg]; omega
    exact ⟨⟨j + 1, by omega, hl2⟩, by rw [cnt_of hl2]; omega⟩
  · have hl2 : (growT t).length = 2 * 2 ^ j - 1 := by rw [grow_len, if_neg hg]; omega
    exact ⟨⟨j, hj, hl2⟩, by rw [cnt_of hl2]; omega⟩
/-- Rows of leaves rise, and are few. -/
def okW (m : Nat) (t : List Nd) : Prop := ∀ n ∈ t, Srt n.un ∧ n.un.length ≤ m
theorem put_srt {n : Int} {l : List Int} (h : Srt l) : Srt (putV n l) := by
  have hp : ∀ {l : List Int}, Srt l ↔ l.Pairwise (· ≤ ·) := fun {l} => by
    have hget : ∀ q (h : q < l.length), rd l (q : Int) = l[q] := fun q h => by rw [rd_nat, List.getD_eq_getElem?_getD, List.getElem?_eq_getElem h]; rfl
    constructor
    · exact fun h => List.pairwise_iff_getElem.2 fun p q hp hq hpq => by have := h p q hpq hq; rwa [hget p hp, hget q hq] at this
    · intro h p q hpq hq
      rw [hget p (by omega), hget q hq]
      exact List.pairwise_iff_getElem.1 h p q (by omega) hq hpq
  rw [hp] at h ⊢
  induction l with
  | nil => simp [putV]
  | cons a l ih =>
    rw [List.pairwise_cons] at h
    rw [putV]; split
    · rw [List.pairwise_cons, List.pairwise_cons]
      refine ⟨fun b hb => ?_, h⟩
      rcases List.mem_cons.1 hb with rfl | hb
      · omega
      · have := h.1 b hb; omega
    · rw [List.pairwise_cons]
      refine ⟨fun b hb => ?_, ih h.2⟩
      rcases mem_put.1 hb with rfl | hb
      · omega
      · exact h.1 b hb
theorem okW_set {m : Nat} {t : List Nd} {x : Int} {n : Nd} (h : okW m t) (hn : Srt n.un ∧ n.un.length ≤ m) : okW m (setN t x n) := fun y hy => by
  rcases List.mem_or_eq_of_mem_set hy with hy | rfl
  · exact h y hy
  · exact hn
theorem okW_add {m : Nat} {o : List Nd} {i x : Int} (h : okW m o) (hx : 0 ≤ x ∧ x < (o.length : Int)) : okW (m + 1) (addS i o x) := by
  have h1 := h _ (rd_mem hx)
  refine okW_set (fun y hy => ⟨(h y hy).1, by have := (h y hy).2; omega⟩) ?_
  unfold upS; split
  · exact ⟨put_srt h1.1, by rw [put_len]; omega⟩
  · exact ⟨h1.1, by omega⟩
theorem tcountO {Z : Nat → Go.Obj → Prop} (H : ZT Z) (id n : Nat) (hn : n ≤ 1000000) (L : List Go.Pv.Obj) : SE Tryd.prog Z 45 [.own id 0 n n] L (.int .i64 (((n : Int) + 1) / 2)) L := by
  refine SE.full H.z Tryd.func45 rfl ?_
  repeat' first | refine go ?_ | (refine sp ?_ ?_ <;> intro h) | intro b
  exact K.fin rfl ⟨rfl, rfl⟩
theorem tpathO {Z : Nat → Go.Obj → Prop} (H : ZT Z) {t : List Nd} {id n : Nat} (h : t.length = n) {i : Int} (hn : n ≤ 1000000) (hi : 0 ≤ i ∧ i ≤ 1000000) (L : List Go.Pv.Obj) : SE Tryd.prog Z 57 [.own id 0 n n, .int .i64 i] L (gI (pathV t i)) L := by
  have k1 := tcountO H id n hn
  refine SE.full H.z Tryd.func57 rfl ?_
  repeat' first | refine go ?_ | (refine sp ?_ ?_ <;> intro h) | intro b
  refine K.fin rfl ⟨?_, rfl⟩
  show gI _ = gI _
  rw [← way_pathV]
  have : ((cnt t : Nat) : Int) = ((n : Int) + 1) / 2 := by unfold cnt; omega
  rw [this]
theorem rcountO {Z : Nat → Go.Obj → Prop} (H : ZT Z) (id n : Nat) (hn : n ≤ 1000000) (L : List Go.Pv.Obj) : SE Tryd.prog Z 26 [.own id 0 n n] L (.int .i64 (((n : Int) + 1) / 2)) L := by
  refine SE.full H.z Tryd.func26 rfl ?_
  repeat' first | refine go ?_ | (refine sp ?_ ?_ <;> intro h) | intro b
  exact K.fin rfl ⟨rfl, rfl⟩
theorem rpathO {Z : Nat → Go.Obj → Prop} (H : ZT Z) {t : List Nd} {id n : Nat} (h : t.length = n) {i : Int} (hn : n ≤ 1000000) (hi : 0 ≤ i ∧ i ≤ 1000000) (L : List Go.Pv.Obj) : SE Tryd.prog Z 63 [.own id 0 n n, .int .i64 i] L (gI (pathV t i)) L := by
  have k1 := rcountO H id n hn
  refine SE.full H.z Tryd.func63 rfl ?_
  repeat' first | refine go ?_ | (refine sp ?_ ?_ <;> intro h) | intro b
  refine K.fin rfl ⟨?_, rfl⟩
  show gI _ = gI _
  rw [← way_pathV]
  have : ((cnt t : Nat) : Int) = ((n : Int) + 1) / 2 := by unfold cnt; omega
  rw [this]
instance cloneI : CC Tryd.prog 60 (∀ (l : List Int), l.length ≤ 1000000 → O 60 [gI l] 1 l.length (l.map (V.int .i64))) := ⟨fun l h1 => by
  refine co Tryd.func60 fun {Z} H => ?_
  repeat' first | refine go ?_ | (refine sp ?_ ?_ <;> intro h) | intro b
  · obtain rfl := ‹_ → _› ‹_›
    exact finG
  · exact finO⟩
instance add : CC Tryd.prog 30 (∀ (t : List Nd) (name : Int) (pub : List UInt8), okS t → okW 1000 t → pub.length ≤ 1000000 → C 30 [gT t, .int .i64 name, gB pub] (.tup [gT (addV t name pub).1, .int .i64 (addV t name pub).2.1, .int .i64 (addV t name pub).2.2])) := ⟨fun t name pub h1 h2 h3 => by
  refine ct Tryd.func30 fun {Z} H => ?_
  have hS := h1
  obtain ⟨j, hj, hlen⟩ := h1
  have hb := two_pow_bound hj
  have hct := cnt_of hlen
  have hf := freeN_le t
  by_cases hn : isNm name pub = true
  · by_cases hh : (findV t name).2 = true
    · have e : addV t name pub = (t, 0, 12) := by unfold addV; rw [if_neg (by simp [hn]), if_pos hh]
      rw [e]
      repeat' first | refine go ?_ | (refine sp ?_ ?_ <;> intro h) | intro b
      exact fin rfl
    · by_cases h4 : (freeN t : Int) = 1024
      · have e : addV t name pub = (t, 0, 4) := by unfold addV; rw [if_neg (by simp [hn]), if_neg hh, if_pos h4]
        rw [e]
        repeat' first | refine go ?_ | (refine sp ?_ ?_ <;> intro h) | intro b
        exact fin rfl
      · have e : addV t name pub = (addO t name pub, ((freeN t : Nat) : Int), 0) := by unfold addV; rw [if_neg (by simp [hn]), if_neg hh, if_neg h4]
        rw [e]
        obtain ⟨hG, hfG⟩ := grow_okS hS h4
        have hpin := pathV_in hG (i := (freeN t : Nat)) (by omega) (by omega)
        have hgl := grow_len t
        have k1 := tpathO H (t := growT t) (id := 0) rfl (i := (freeN t : Nat)) (by rw [hgl]; split <;> omega) (by omega)
        have hW0 : okW 1000 (growT t) := fun n hn => by
          rcases List.mem_append.1 hn with hn | hn
          · exact h2 n hn
          · rw [List.eq_of_mem_replicate hn]; exact ⟨fun p q _ hq => by simp [blankN] at hq, by simp [blankN]⟩
        have hul : (growT t).length ≤ 10000 := by rw [hgl]; split <;> omega
        have hfu := lf_at hfG
        have go1 : addO t name pub = (pathV (growT t) (freeN t : Nat)).foldl (addS (freeN t : Nat)) (setN (growT t) (2 * (freeN t : Nat)) (leafN name pub)) := rfl
        have eg1 : freeN t = cnt t → t ++ List.replicate (2 * cnt t) blankN = growT t := fun hg => by rw [growT, if_pos hg]
        have eg2 : ¬ freeN t = cnt t → t = growT t := fun hg => by rw [growT, if_neg hg]; simp
        rw [go1]
        clear hgl go1 e
        generalize growT t = u at *
        have hpl := pathV_len u (freeN t : Nat)
        by_cases hg : freeN t = cnt t
        · repeat' first | refine go ?_ | (refine sp ?_ ?_ <;> intro h) | intro b
          refine X.apz (g := gN) (l := t) blankN (2 * cnt t) ?_ (congrArg (V.int .i64) (by omega)) (by omega) (by omega)
          rw [eg1 hg]
          repeat' first | refine go ?_ | (refine sp ?_ ?_ <;> intro h) | intro b
          generalize freeN t = f at *
          clear eg1 eg2 k1
          generalize hpe : pathV u (f : Int) = pa at *
          generalize hoe : setN u (2 * (f : Int)) (leafN name pub) = o0 at *
          have hol : o0.length = u.length := by rw [← hoe]; exact len_set
          have hoW : okW 1000 o0 := by rw [← hoe]; exact okW_set hW0 ⟨fun p q _ hq => by simp [leafN] at hq, by simp [leafN]⟩
          refine W.loop (fun s : Nat × List Nd => [(13, .own 0 0 u.length u.length), (11, .int .i64 f), (59, gI pa), (60, .int .i64 (pa.length : Nat)), (61, .int .i64 s.1)]) (fun s => [.buf 5 0 (s.2.map gN)]) (fun s => s.1 ≤ pa.length ∧ s.2.length = u.length ∧ okW (1000 + s.1) s.2 ∧ s.2 = (pa.take s.1).foldl (addS f) o0) (fun s => pa.length - s.1) (0, o0) ⟨Nat.zero_le _, hol, hoW, rfl⟩ ?_ (hL := by rw [← hoe]; rfl)
          rintro ⟨k, o⟩ env ⟨hk, hl, hW, ho⟩
          dsimp only at *
          have hx : k < pa.length → 0 ≤ rd pa (k : Int) ∧ rd pa (k : Int) < (u.length : Int) := fun h => hpin _ (rd_mem (by omega))
          have hSr : k < pa.length → Srt (rd o (rd pa (k : Int))).un ∧ (rd o (rd pa (k : Int))).un.length ≤ 1000 + k := fun h => hW _ (rd_mem (by have := hx h; omega))
          have hst : k < pa.length → (pa.take (k + 1)).foldl (addS f) o0 = addS f o (rd pa (k : Int)) := fun h => by rw [foldl_step h, ← ho]
          by_cases hkl : k < pa.length
          · have hx := hx hkl
            obtain ⟨hS1, hS2⟩ := hSr hkl
            have hst := hst hkl
            have hlb := lb_le (rd o (rd pa (k : Int))).un (f : Int)
            have hW' := okW_add (i := (f : Int)) hW (x := rd pa (k : Int)) (by omega)
            have hip := ins_put (x := (f : Int)) hS1
            repeat' first | refine go ?_ | (refine sp ?_ ?_ <;> intro h) | intro b
            · have e : addS (f : Int) o (rd pa (k : Int)) = o := by
                rw [addS, upS, if_neg h, setN]
                have h5 := rd_get (l := o) (i := rd pa (k : Int)) (by omega)
                exact List.set_self h5
              rw [e] at hst hW'
              exact lp (k + 1, o) ⟨by dsimp only; omega, hl, hW', hst.symm⟩ (by dsimp only; omega)
            · refine X.sta { rd o (rd pa (k : Int)) with un := insV (rd o (rd pa (k : Int))).un ((lbV (rd o (rd pa (k : Int))).un (f : Int) : Nat) : Int).toNat (f : Int) } ?_
              have e : o.set (rd pa (k : Int)).toNat { rd o (rd pa (k : Int)) with un := insV (rd o (rd pa (k : Int))).un ((lbV (rd o (rd pa (k : Int))).un (f : Int) : Nat) : Int).toNat (f : Int) } = addS (f : Int) o (rd pa (k : Int)) := by
                rw [addS, upS, if_pos h, Int.toNat_natCast, hip]; rfl
              rw [e]
              repeat' first | refine go ?_ | (refine sp ?_ ?_ <;> intro h) | intro b
              exact lp (k + 1, addS (f : Int) o (rd pa (k : Int))) ⟨by dsimp only; omega, by rw [← hl]; exact len_set, hW', hst.symm⟩ (by dsimp only; omega)
          · repeat' first | refine go ?_ | (refine sp ?_ ?_ <;> intro h) | intro b
            rw [List.take_of_length_le (by omega)] at ho
            rw [← ho]
            exact fin rfl
        · obtain rfl : u = t := (eg2 hg).symm
          repeat' first | refine go ?_ | (refine sp ?_ ?_ <;> intro h) | intro b
          generalize freeN u = f at *
          clear eg1 eg2 k1
          generalize hpe : pathV u (f : Int) = pa at *
          generalize hoe : setN u (2 * (f : Int)) (leafN name pub) = o0 at *
          have hol : o0.length = u.length := by rw [← hoe]; exact len_set
          have hoW : okW 1000 o0 := by rw [← hoe]; exact okW_set hW0 ⟨fun p q _ hq => by simp [leafN] at hq, by simp [leafN]⟩
          refine W.loop (fun s : Nat × List Nd => [(13, .own 0 0 u.length u.length), (11, .int .i64 f), (59, gI pa), (60, .int .i64 (pa.length : Nat)), (61, .int .i64 s.1)]) (fun s => [.buf 5 0 (s.2.map gN)]) (fun s => s.1 ≤ pa.length ∧ s.2.length = u.length ∧ okW (1000 + s.1) s.2 ∧ s.2 = (pa.take s.1).foldl (addS f) o0) (fun s => pa.length - s.1) (0, o0) ⟨Nat.zero_le _, hol, hoW, rfl⟩ ?_ (hL := by rw [← hoe]; rfl)
          rintro ⟨k, o⟩ env ⟨hk, hl, hW, ho⟩
          dsimp only at *
          have hx : k < pa.length → 0 ≤ rd pa (k : Int) ∧ rd pa (k : Int) < (u.length : Int) := fun h => hpin _ (rd_mem (by omega))
          have hSr : k < pa.length → Srt (rd o (rd pa (k : Int))).un ∧ (rd o (rd pa (k : Int))).un.length ≤ 1000 + k := fun h => hW _ (rd_mem (by have := hx h; omega))
          have hst : k < pa.length → (pa.take (k + 1)).foldl (addS f) o0 = addS f o (rd pa (k : Int)) := fun h => by rw [foldl_step h, ← ho]
          by_cases hkl : k < pa.length
          · have hx := hx hkl
            obtain ⟨hS1, hS2⟩ := hSr hkl
            have hst := hst hkl
            have hlb := lb_le (rd o (rd pa (k : Int))).un (f : Int)
            have hW' := okW_add (i := (f : Int)) hW (x := rd pa (k : Int)) (by omega)
            have hip := ins_put (x := (f : Int)) hS1
            repeat' first | refine go ?_ | (refine sp ?_ ?_ <;> intro h) | intro b
            · have e : addS (f : Int) o (rd pa (k : Int)) = o := by
                rw [addS, upS, if_neg h, setN]
                have h5 := rd_get (l := o) (i := rd pa (k : Int)) (by omega)
                exact List.set_self h5
              rw [e] at hst hW'
              exact lp (k + 1, o) ⟨by dsimp only; omega, hl, hW', hst.symm⟩ (by dsimp only; omega)
            · refine X.sta { rd o (rd pa (k : Int)) with un := insV (rd o (rd pa (k : Int))).un ((lbV (rd o (rd pa (k : Int))).un (f : Int) : Nat) : Int).toNat (f : Int) } ?_
              have e : o.set (rd pa (k : Int)).toNat { rd o (rd pa (k : Int)) with un := insV (rd o (rd pa (k : Int))).un ((lbV (rd o (rd pa (k : Int))).un (f : Int) : Nat) : Int).toNat (f : Int) } = addS (f : Int) o (rd pa (k : Int)) := by
                rw [addS, upS, if_pos h, Int.toNat_natCast, hip]; rfl
              rw [e]
              repeat' first | refine go ?_ | (refine sp ?_ ?_ <;> intro h) | intro b
              exact lp (k + 1, addS (f : Int) o (rd pa (k : Int))) ⟨by dsimp only; omega, by rw [← hl]; exact len_set, hW', hst.symm⟩ (by dsimp only; omega)
          · repeat' first | refine go ?_ | (refine sp ?_ ?_ <;> intro h) | intro b
            rw [List.take_of_length_le (by omega)] at ho
            rw [← ho]
            exact fin rfl
  · have e : addV t name pub = (t, 0, 1) := by unfold addV; rw [if_pos (by simpa using hn)]
    rw [e]
    repeat' first | refine go ?_ | (refine sp ?_ ?_ <;> intro h) | intro b
    exact fin rfl⟩
end Go.Proofs.Mth
end
