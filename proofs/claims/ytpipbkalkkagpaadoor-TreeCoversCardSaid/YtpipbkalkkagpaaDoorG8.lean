import Derived.Test.YtpipbkalkkagpaaDoorG7
set_option linter.unusedVariables false
set_option linter.unusedSimpArgs false
set_option linter.unusedSectionVars false
section
/- Trees that are right. -/
set_option linter.unusedVariables false
set_option linter.unusedSimpArgs false
set_option maxRecDepth 100000
set_option maxHeartbeats 2000000
namespace Go.Proofs.Mth
open Go Go.Pv Go.Proofs Go.Shelf
/-- The names of the leaves among the first nodes. -/
def had (t : List Nd) : Nat → List Int
  | 0 => []
  | k + 1 => if (rd t (k : Int)).kind = 1 then had t k ++ [(rd t (k : Int)).name] else had t k
theorem had_yes {t : List Nd} {k : Nat} (h : (rd t (k : Int)).kind = 1) : had t (k + 1) = had t k ++ [(rd t (k : Int)).name] := by rw [had, if_pos h]
theorem had_no {t : List Nd} {k : Nat} (h : ¬ (rd t (k : Int)).kind = 1) : had t (k + 1) = had t k := by rw [had, if_neg h]
theorem mem_had {t : List Nd} {n : Int} : ∀ {k : Nat}, n ∈ had t k ↔ ∃ y, y < k ∧ (rd t (y : Int)).kind = 1 ∧ (rd t (y : Int)).name = n
  | 0 => by simp [had]
  | k + 1 => by
    by_cases h : (rd t (k : Int)).kind = 1
    · rw [had_yes h, List.mem_append, mem_had, List.mem_singleton]
      constructor
      · rintro (⟨y, hy, h1, h2⟩ | rfl)
        · exact ⟨y, by omega, h1, h2⟩
        · exact ⟨k, by omega, h, rfl⟩
      · rintro ⟨y, hy, h1, h2⟩
        by_cases hyk : y = k
        · subst hyk; exact .inr h2.symm
        · exact .inl ⟨y, by omega, h1, h2⟩
    · rw [had_no h, mem_had]
      constructor
      · rintro ⟨y, hy, h1, h2⟩; exact ⟨y, by omega, h1, h2⟩
      · rintro ⟨y, hy, h1, h2⟩
        by_cases hyk : y = k
        · subst hyk; exact absurd h1 h
        · exact ⟨y, by omega, h1, h2⟩
theorem had_len (t : List Nd) : ∀ k, (had t k).length ≤ k
  | 0 => Nat.le_refl _
  | k + 1 => by
    have := had_len t k
    rw [had]; split
    · rw [List.length_append]; simp; omega
    · omega
/-- Is a tree right? -/
def wholeA (t : List Nd) : Bool := (List.range t.length).all fun x => wholeB t (x : Int)
def rightB (t : List Nd) : Bool := isT (cnt t : Nat) && decide (2 * cnt t - 1 = t.length) && wholeA t && decide ((had t t.length).Nodup) && decide (had t t.length ≠ [])
theorem wholeA_of {t : List Nd} (h : ∀ q, q < t.length → wholeB t (q : Int) = true) : wholeA t = true := by
  rw [wholeA, List.all_eq_true]
  exact fun q hq => h q (List.mem_range.1 hq)
theorem wholeA_at {t : List Nd} (h : wholeA t = true) {q : Nat} (hq : q < t.length) : wholeB t (q : Int) = true := by
  rw [wholeA, List.all_eq_true] at h
  exact h q (List.mem_range.2 hq)
theorem right_no {t : List Nd} {k : Nat} (hk : k < t.length) (h : ¬ wholeB t (k : Int) = true) : rightB t = false := by
  rw [Bool.eq_false_iff]; intro hb
  simp only [rightB, Bool.and_eq_true] at hb
  exact h (wholeA_at hb.1.1.2 hk)
theorem had_nodup {t : List Nd} : ∀ {k m : Nat}, (had t (k + m)).Nodup → (had t k).Nodup
  | k, 0, h => h
  | k, m + 1, h => by
    refine had_nodup (m := m) ?_
    rw [← Nat.add_assoc, had] at h
    split at h
    · exact (List.nodup_append.1 h).1
    · exact h
theorem right_two {t : List Nd} {k : Nat} (hk : k < t.length) (h1 : (rd t (k : Int)).kind = 1) (h : (rd t (k : Int)).name ∈ had t k) : rightB t = false := by
  rw [Bool.eq_false_iff]; intro hb
  simp only [rightB, Bool.and_eq_true, decide_eq_true_iff] at hb
  have := hb.1.2
  rw [show t.length = (k + 1) + (t.length - (k + 1)) by omega] at this
  have := had_nodup this
  rw [had_yes h1, List.nodup_append] at this
  exact this.2.2 _ h _ (List.mem_singleton.2 rfl) rfl
theorem had_step {t : List Nd} {k : Nat} (h : (had t k).Nodup) (hn : (rd t (k : Int)).kind = 1 → (rd t (k : Int)).name ∉ had t k) : (had t (k + 1)).Nodup := by
  rw [had]; split
  · rename_i h1
    refine List.nodup_append.2 ⟨h, by simp, ?_⟩
    rintro a ha b hb rfl
    rw [List.mem_singleton] at hb
    exact hn h1 (hb ▸ ha)
  · exact h
theorem leaves_lt {j x : Nat} (hj : j < 11) (hx : x < 2 * 2 ^ j - 1) : 0 ≤ (leavesV (x : Int)).1 ∧ 2 * (leavesV (x : Int)).2 < ((2 * 2 ^ j - 1 : Nat) : Int) ∧ (leavesV (x : Int)).1 ≤ 1000000 := by
  have h : ((List.range 11).all fun j => (List.range (2 * 2 ^ j - 1)).all fun x => decide (2 * ((x + 2 ^ lev x - 1) / 2) < 2 * 2 ^ j - 1 ∧ (x + 1 - 2 ^ lev x) / 2 ≤ 1000000)) = true := by kernel_rfl
  have := of_decide_eq_true (all_lt (all_lt h j hj) x hx)
  have hb := two_pow_bound hj
  rw [leaves_nat x (by have := hb.1; omega)]
  dsimp only
  omega
theorem step_all {p : Nat → Prop} {i : Nat} (hq : ∀ q, q < i → p q) (h : p i) : ∀ q, q < i + 1 → p q := fun q hq' => by
  by_cases hqi : q = i
  · subst hqi; exact h
  · exact hq q (by omega)
instance rightT : CC Tryd.prog 17 (∀ (t : List Nd), okL t → C 17 [gT t] (.bool (rightB t))) := ⟨fun t h1 => by
  refine ct Tryd.func17 fun {Z} H => ?_
  have hl := h1.1
  have hc : cnt t = (t.length + 1) / 2 := rfl
  by_cases hT : isT (cnt t : Nat) = true ∧ 2 * cnt t - 1 = t.length
  · obtain ⟨j, hj, hcj⟩ := isT_pow hT.1
    have hb := two_pow_bound hj
    have hlen : t.length = 2 * 2 ^ j - 1 := by omega
    have e : widthV (cnt t : Nat) = ((t.length : Int), 0) := by rw [widthV, if_pos hT.1]; refine Prod.ext ?_ rfl; show 2 * (cnt t : Int) - 1 = t.length; omega
    have k1 : ∀ L, SE Tryd.prog Z 44 [.int .i64 (cnt t : Nat)] L (.tup [.int .i64 (t.length : Nat), .int .i64 0]) L := fun L => by
      have := width.out (cnt t : Nat) H L
      rwa [e] at this
    repeat' first | refine go ?_ | (refine sp ?_ ?_ <;> intro h) | intro b
    refine W.loop (fun k : Nat => [(0, gT t), (5, .map 0), (23, gT t), (24, .int .i64 (t.length : Nat)), (25, .int .i64 k)]) (fun k => [.map ((had t k).map mS)]) (fun k => k ≤ t.length ∧ (∀ q, q < k → wholeB t (q : Int) = true) ∧ (had t k).Nodup) (fun k => t.length - k) 0 ⟨Nat.zero_le _, fun q hq => absurd hq (Nat.not_lt_zero q), List.nodup_nil⟩ ?_
    rintro k env ⟨hk, hq, hd⟩
    have hlv : k < t.length → 0 ≤ (leavesV (k : Int)).1 ∧ 2 * (leavesV (k : Int)).2 < (t.length : Int) ∧ (leavesV (k : Int)).1 ≤ 1000000 := fun h => by rw [hlen]; exact leaves_lt hj (by omega)
    have hln := had_len t k
    repeat' first | refine go ?_ | (refine sp ?_ ?_ <;> intro h) | intro b
    · refine fin (vB ?_); rw [right_no (k := k) (by omega) (by simp [*])]
    · refine fin (vB ?_); rw [right_two (k := k) (by omega) (by assumption) (by assumption)]
    · exact lp (k + 1) ⟨by omega, step_all hq ‹_›, had_step hd fun _ => ‹_›⟩ (by omega) (hL := by rw [had_yes (by assumption)]; rfl)
    · exact lp (k + 1) ⟨by omega, step_all hq ‹_›, had_step hd fun h => absurd h (by assumption)⟩ (by omega) (hL := by rw [had_no (by assumption)]; rfl)
    · have hkl : k = t.length := by omega
      subst hkl
      refine fin (vB ?_)
      rw [rightB, hT.1, decide_eq_true hT.2, wholeA_of hq, decide_eq_true hd]
      simp [List.length_pos_iff]
  · have e : rightB t = false := by
      rw [Bool.eq_false_iff]; intro hb
      simp only [rightB, Bool.and_eq_true, decide_eq_true_iff] at hb
      exact hT hb.1.1.1
    rw [e]
    have e : ¬ (widthV (cnt t : Nat)).2 = 0 ∨ ¬ (widthV (cnt t : Nat)).1 = t.length := by
      rw [widthV]; split
      · right; intro hh; exact hT ⟨‹_›, by dsimp only at hh; omega⟩
      · left; decide
    repeat' first | refine go ?_ | (refine sp ?_ ?_ <;> intro h) | intro b
    · exact fin rfl
    · have hh : ¬ (widthV (cnt t : Nat)).1 = t.length := by omega
      refine fin (vB ?_)
      simp [hh]⟩
instance rRightT : CC Tryd.prog 15 (∀ (t : List Nd), okL t → C 15 [gT t] (.bool (rightB t))) := ⟨fun t h1 => by
  refine ct Tryd.func15 fun {Z} H => ?_
  have hl := h1.1
  have hc : cnt t = (t.length + 1) / 2 := rfl
  by_cases hT : isT (cnt t : Nat) = true ∧ 2 * cnt t - 1 = t.length
  · obtain ⟨j, hj, hcj⟩ := isT_pow hT.1
    have hb := two_pow_bound hj
    have hlen : t.length = 2 * 2 ^ j - 1 := by omega
    have e : widthV (cnt t : Nat) = ((t.length : Int), 0) := by rw [widthV, if_pos hT.1]; refine Prod.ext ?_ rfl; show 2 * (cnt t : Int) - 1 = t.length; omega
    have k1 : ∀ L, SE Tryd.prog Z 42 [.int .i64 (cnt t : Nat)] L (.tup [.int .i64 (t.length : Nat), .int .i64 0]) L := fun L => by
      have := rWidth.out (cnt t : Nat) H L
      rwa [e] at this
    repeat' first | refine go ?_ | (refine sp ?_ ?_ <;> intro h) | intro b
    refine W.loop (fun k : Nat => [(0, gT t), (6, .int .i64 ((had t k).length : Nat)), (7, .int .i64 k)]) (fun k => []) (fun k => k ≤ t.length ∧ (∀ q, q < k → wholeB t (q : Int) = true) ∧ (had t k).Nodup) (fun k => t.length - k) 0 ⟨Nat.zero_le _, fun q hq => absurd hq (Nat.not_lt_zero q), List.nodup_nil⟩ ?_
    rintro k env ⟨hk, hq, hd⟩
    have hlv : k < t.length → 0 ≤ (leavesV (k : Int)).1 ∧ 2 * (leavesV (k : Int)).2 < (t.length : Int) ∧ (leavesV (k : Int)).1 ≤ 1000000 := fun h => by rw [hlen]; exact leaves_lt hj (by omega)
    have hln := had_len t k
    repeat' first | refine go ?_ | (refine sp ?_ ?_ <;> intro h) | intro b
    · refine fin (vB ?_); rw [right_no (k := k) (by omega) (by simp [*])]
    · have hu : (had t (k + 1)).length = (had t k).length + 1 := by rw [had_yes (by assumption), List.length_append]; rfl
      refine W.loop (fun y : Nat => [(0, gT t), (6, .int .i64 ((had t (k + 1)).length : Nat)), (7, .int .i64 k), (9, .int .i64 y)]) (fun k => []) (fun y => y ≤ k ∧ ((rd t (k : Int)).kind = 1 → ∀ q, q < y → (rd t (q : Int)).kind = 1 → (rd t (q : Int)).name ≠ (rd t (k : Int)).name)) (fun y => k - y) 0 ⟨Nat.zero_le _, fun _ q hq => absurd hq (Nat.not_lt_zero q)⟩ ?_
      rintro y env ⟨hy, hyq⟩
      repeat' first | refine go ?_ | (refine sp ?_ ?_ <;> intro h) | intro b
      · refine fin (vB ?_); rw [right_two (k := k) (by omega) (by assumption) (mem_had.2 ⟨y, by omega, by assumption, Eq.symm (by assumption)⟩)]
      · exact lp (y + 1) ⟨by omega, fun hk1 => step_all (hyq hk1) fun _ hh => (by assumption : ¬ _) hh.symm⟩ (by omega)
      · exact lp (y + 1) ⟨by omega, fun hk1 => step_all (hyq hk1) fun hy1 => absurd hy1 (by assumption)⟩ (by omega)
      · exact lp (k + 1) ⟨by omega, step_all hq ‹_›, had_step hd fun h1 hm => by obtain ⟨q, hq1, hq2, hq3⟩ := mem_had.1 hm; exact hyq h1 q (by omega) hq2 hq3⟩ (by omega)
    · have hu : (had t (k + 1)).length = (had t k).length := by rw [had_no (by assumption)]
      refine W.loop (fun y : Nat => [(0, gT t), (6, .int .i64 ((had t (k + 1)).length : Nat)), (7, .int .i64 k), (9, .int .i64 y)]) (fun k => []) (fun y => y ≤ k ∧ ((rd t (k : Int)).kind = 1 → ∀ q, q < y → (rd t (q : Int)).kind = 1 → (rd t (q : Int)).name ≠ (rd t (k : Int)).name)) (fun y => k - y) 0 ⟨Nat.zero_le _, fun _ q hq => absurd hq (Nat.not_lt_zero q)⟩ ?_
      rintro y env ⟨hy, hyq⟩
      repeat' first | refine go ?_ | (refine sp ?_ ?_ <;> intro h) | intro b
      · exact lp (y + 1) ⟨by omega, fun hk1 => absurd hk1 (by assumption)⟩ (by omega)
      · exact lp (k + 1) ⟨by omega, step_all hq ‹_›, had_step hd fun h1 => absurd h1 (by assumption)⟩ (by omega)
    · have hkl : k = t.length := by omega
      subst hkl
      refine fin (vB ?_)
      rw [rightB, hT.1, decide_eq_true hT.2, wholeA_of hq, decide_eq_true hd]
      simp [List.length_pos_iff]
  · have e : rightB t = false := by
      rw [Bool.eq_false_iff]; intro hb
      simp only [rightB, Bool.and_eq_true, decide_eq_true_iff] at hb
      exact hT hb.1.1.1
    rw [e]
    have e : ¬ (widthV (cnt t : Nat)).2 = 0 ∨ ¬ (widthV (cnt t : Nat)).1 = t.length := by
      rw [widthV]; split
      · right; intro hh; exact hT ⟨‹_›, by dsimp only at hh; omega⟩
      · left; decide
    repeat' first | refine go ?_ | (refine sp ?_ ?_ <;> intro h) | intro b
    · exact fin rfl
    · have hh : ¬ (widthV (cnt t : Nat)).1 = t.length := by omega
      refine fin (vB ?_)
      simp [hh]⟩
end Go.Proofs.Mth
end
section
/- Trees: the references of paths, blank paths, places in rows that rise. -/
set_option linter.unusedVariables false
set_option linter.unusedSimpArgs false
set_option maxRecDepth 100000
set_option maxHeartbeats 2000000
namespace Go.Proofs.Mth
open Go Go.Pv Go.Proofs Go.Shelf
instance rWay : CC Tryd.prog 37 (∀ (x n : Int), C 37 [.int .i64 x, .int .i64 n] (.tup [gI (wayV gP x n).1, .int .i64 (wayV gP x n).2])) := ⟨fun x n => by
  refine ct Tryd.func37 fun {Z} H => ?_
  by_cases h : isN x n = true
  · obtain ⟨j, y, hj, hy, rfl, rfl⟩ := isN_nat h
    have hb := two_pow_bound hj
    repeat' first | refine go ?_ | (refine sp ?_ ?_ <;> intro h) | intro b
    refine W.ghost 7 1 rfl ?_
    refine W.loop (fun s : Nat × List Int => [(0, .int .i64 s.1), (1, .int .i64 ((2 ^ j : Nat) : Int)), (7, .own 0 0 s.2.length s.2.length)]) (fun s => [.buf 1 0 (s.2.map (V.int .i64))])
      (fun s => s.1 < 2 * 2 ^ j - 1 ∧ ∃ done, s.2 = done.map gP ∧ ups y (2 ^ j) = done ++ ups s.1 (2 ^ j)) (fun s => 11 - lev s.1) (y, []) ⟨hy, [], rfl, rfl⟩ ?_
    rintro ⟨z, acc⟩ env ⟨hz, done, rfl, hd⟩
    have hl : done.length ≤ 11 := by
      have := ups_len y (2 ^ j)
      rw [hd, List.length_append] at this
      omega
    dsimp only at *
    have k1 : z + 1 ≠ 2 ^ j → ∀ L, SE Tryd.prog Z 69 [.int .i64 z, .int .i64 ((2 ^ j : Nat) : Int)] L (.tup [.int .i64 (upN z : Nat), .int .i64 0]) L := fun hne L => by
      have := rParent.out (z : Int) ((2 ^ j : Nat) : Int) H L
      rwa [show parV (z : Int) ((2 ^ j : Nat) : Int) = (((upN z : Nat) : Int), 0) by unfold parV; rw [if_pos (isN_of hj hz), if_neg (by omega)]; rfl] at this
    by_cases hr : z + 1 = 2 ^ j
    · repeat' first | refine go ?_ | (refine sp ?_ ?_ <;> intro h) | intro b
      rw [ups_end (x := z) hj (by omega), List.append_nil] at hd
      have hv : wayV gP (y : Int) ((2 ^ j : Nat) : Int) = (done.map gP, 0) := by
        unfold wayV
        rw [if_pos ‹_›, Int.toNat_natCast, Int.toNat_natCast, hd]
      rw [hv]
      exact fin rfl
    · replace k1 := k1 hr
      repeat' first | refine go ?_ | (refine sp ?_ ?_ <;> intro h) | intro b
      have hu := up_node j hj z hz (by omega)
      rw [ups_step hj hz (by omega)] at hd
      refine lp (upN z, done.map gP ++ [gP (z, upN z)]) ⟨hu.1, done ++ [(z, upN z)], by simp, by rw [hd, List.append_assoc]; rfl⟩ ?_
      have := lev_le (upN z) (by omega)
      dsimp only
      omega
  · have e : wayV gP x n = ([], 1) := by unfold wayV; rw [if_neg h]
    rw [e]
    repeat' first | refine go ?_ | (refine sp ?_ ?_ <;> intro h) | intro b
    exact fin rfl⟩
instance rPathT : CC Tryd.prog 63 (∀ (t : List Nd) (i : Int), t.length ≤ 1000000 → 0 ≤ i ∧ i ≤ 1000000 → C 63 [gT t, .int .i64 i] (gI (pathV t i))) := ⟨fun t i h1 h2 => by
  refine ct Tryd.func63 fun {Z} H => ?_
  obtain ⟨hi, hi2⟩ := h2
  repeat' first | refine go ?_ | (refine sp ?_ ?_ <;> intro h) | intro b
  refine fin ?_
  show gI _ = gI _
  rw [way_pathV]⟩
instance rBlank : CC Tryd.prog 66 (∀ (t : List Nd) (i : Int), t.length ≤ 1000000 → 0 ≤ i ∧ i ≤ 1000000 → (∀ x ∈ pathV t i, 0 ≤ x ∧ x < (t.length : Int)) → O 66 [gT t, .int .i64 i] 5 t.length ((blankV t i).map gN)) := ⟨fun t i h1 h2 h3 => by
  refine co Tryd.func66 fun {Z} H => ?_
  obtain ⟨hi, hi2⟩ := h2
  have hpl := pathV_len t i
  repeat' first | refine go ?_ | (refine sp ?_ ?_ <;> intro h) | intro b
  refine W.loop (fun s : Nat × List Nd => [(5, .own 0 0 t.length t.length), (6, gI (pathV t i)), (7, .int .i64 s.1)]) (fun s => [.buf 5 0 (s.2.map gN)]) (fun s => s.1 ≤ (pathV t i).length ∧ s.2.length = t.length ∧ s.2 = ((pathV t i).take s.1).foldl (fun t x => setN t x blankN) t) (fun s => (pathV t i).length - s.1) (0, t) ⟨Nat.zero_le _, rfl, rfl⟩ ?_
  rintro ⟨k, o⟩ env ⟨hk, hl, ho⟩
  dsimp only at *
  have hx : k < (pathV t i).length → 0 ≤ rd (pathV t i) (k : Int) ∧ rd (pathV t i) (k : Int) < (t.length : Int) := fun h => h3 _ (rd_mem (by omega))
  repeat' first | refine go ?_ | (refine sp ?_ ?_ <;> intro h) | intro b
  · have hx := hx (by omega)
    refine X.sta blankN ?_
    repeat' first | refine go ?_ | (refine sp ?_ ?_ <;> intro h) | intro b
    exact lp (k + 1, setN o (rd (pathV t i) (k : Int)) blankN) ⟨by dsimp only; omega, by simp [setN, hl], by dsimp only; rw [foldl_step (by omega), ← ho]⟩ (by dsimp only; omega)
  · have e : o = blankV t i := by rw [ho, List.take_of_length_le (by omega)]; rfl
    rw [← e]
    exact finO⟩
/-- A row that rises, with a number more. -/
def putV (n : Int) : List Int → List Int
  | [] => [n]
  | a :: l => if a > n then n :: a :: l else a :: putV n l
theorem drop_rd {l : List Int} {k : Nat} (h : k < l.length) : l.drop k = rd l (k : Int) :: l.drop (k + 1) := by
  rw [List.drop_eq_getElem_cons h, rd_nat, List.getD_eq_getElem?_getD, List.getElem?_eq_getElem h]; rfl
instance rPut : CC Tryd.prog 64 (∀ (l : List Int) (n : Int), l.length ≤ 1000000 → C 64 [gI l, .int .i64 n] (gI (putV n l))) := ⟨fun l n h1 => by
  refine ct Tryd.func64 fun {Z} H => ?_
  repeat' first | refine go ?_ | (refine sp ?_ ?_ <;> intro h) | intro b
  refine W.ghost 5 1 rfl ?_
  refine W.loop (fun s : Nat × List Int × Bool => [(0, gI l), (1, .int .i64 n), (5, .own 0 0 s.2.1.length s.2.1.length), (6, .bool s.2.2), (7, .int .i64 s.1)]) (fun s => [.buf 1 0 (s.2.1.map (V.int .i64))])
    (fun s => s.1 ≤ l.length ∧ s.2.1.length ≤ s.1 + s.2.2.toNat ∧ putV n l = s.2.1 ++ (if s.2.2 then l.drop s.1 else putV n (l.drop s.1))) (fun s => l.length - s.1) (0, [], false) ⟨Nat.zero_le _, Nat.zero_le _, rfl⟩ ?_
  rintro ⟨k, o, d⟩ env ⟨hk, ho, he⟩
  dsimp only at *
  have hd : k < l.length → l.drop k = rd l (k : Int) :: l.drop (k + 1) := drop_rd
  cases d with
  | true =>
    rw [Bool.toNat_true] at ho
    repeat' first | refine go ?_ | (refine sp ?_ ?_ <;> intro h) | intro b
    · have hd := hd (by omega)
      refine lp (k + 1, o ++ [rd l (k : Int)], true) ⟨by dsimp only; omega, by simp; omega, ?_⟩ (by dsimp only; omega)
      dsimp only
      rw [he, if_pos rfl, if_pos rfl, hd, List.append_assoc]; rfl
    · rw [if_pos rfl, List.drop_of_length_le (by omega), List.append_nil] at he
      rw [he]
      exact fin rfl
  | false =>
    rw [if_neg Bool.false_ne_true] at he
    rw [Bool.toNat_false] at ho
    repeat' first | refine go ?_ | (refine sp ?_ ?_ <;> intro h) | intro b
    · have hd := hd (by omega)
      refine lp (k + 1, o ++ [n] ++ [rd l (k : Int)], true) ⟨by dsimp only; omega, by simp; omega, ?_⟩ (by dsimp only; omega)
      dsimp only
      rw [he, if_pos rfl, hd, putV, if_pos (by assumption), List.append_assoc, List.append_assoc]; rfl
    · have hd := hd (by omega)
      refine lp (k + 1, o ++ [rd l (k : Int)], false) ⟨by dsimp only; omega, by simp; omega, ?_⟩ (by dsimp only; omega)
      dsimp only
      rw [he, if_neg Bool.false_ne_true, hd, putV, if_neg (by assumption), List.append_assoc]; rfl
    · rw [List.drop_of_length_le (by omega)] at he
      rw [he]
      exact fin rfl⟩
instance rUpdate : CC Tryd.prog 35 (∀ (t : List Nd) (i : Int) (pub : List UInt8), t.length ≤ 1000000 → pub.length ≤ 1000000 → (0 ≤ i → i < (cnt t : Int) → ∀ x ∈ pathV t i, 0 ≤ x ∧ x < (t.length : Int)) → C 35 [gT t, .int .i64 i, gB pub] (.tup [gT (updV t i pub).1, .int .i64 (updV t i pub).2])) := ⟨fun t i pub h1 h2 h3 => by
  refine ct Tryd.func35 fun {Z} H => ?_
  have hc : cnt t = (t.length + 1) / 2 := rfl
  by_cases hb : pub.length = 32
  · by_cases ht : thereB t i = true
    · have hr := thereB_le ht
      have h3 := h3 hr.1 hr.2.1
      have e : updV t i pub = (setN (blankV t i) (2 * i) (leafN (rd t (2 * i)).name pub), 0) := by unfold updV; rw [if_neg (by simp [hb]), if_pos ht]
      have hbl : (blankV t i).length = t.length := blankV_len t i
      rw [e]
      repeat' first | refine go ?_ | (refine sp ?_ ?_ <;> intro h) | intro b
      refine X.sta (leafN (rd t (2 * i)).name pub) ?_
      repeat' first | refine go ?_ | (refine sp ?_ ?_ <;> intro h) | intro b
      exact fin rfl
    · have e : updV t i pub = (t, 11) := by unfold updV; rw [if_neg (by simp [hb]), if_neg ht]
      rw [e]
      repeat' first | refine go ?_ | (refine sp ?_ ?_ <;> intro h) | intro b
      exact fin rfl
  · have e : updV t i pub = (t, 1) := by unfold updV; rw [if_pos (by simp [hb])]
    rw [e]
    repeat' first | refine go ?_ | (refine sp ?_ ?_ <;> intro h) | intro b
    exact fin rfl⟩
end Go.Proofs.Mth
end
section
/- Trees: the reference of a leaf that is removed. -/
set_option linter.unusedVariables false
set_option linter.unusedSimpArgs false
set_option maxRecDepth 100000
set_option maxHeartbeats 2000000
namespace Go.Proofs.Mth
open Go Go.Pv Go.Proofs Go.Shelf
/-- Leaves are blank, or leaves. -/
def okK (t : List Nd) : Prop := ∀ i, i < cnt t → (lf t i).kind = 0 ∨ (lf t i).kind = 1
instance rEmptyI : CC Tryd.prog 67 (∀ (t : List Nd) (k : Int), t.length ≤ 1000000 → 0 ≤ k ∧ k ≤ 1000000 → C 67 [gT t, .int .i64 k] (.bool (emptyB t k.toNat))) := ⟨fun t k h1 h2 => by
  obtain ⟨k, rfl⟩ := Int.eq_ofNat_of_zero_le h2.1
  rw [Int.toNat_natCast]
  exact rEmpty.out t k h1 (by omega)⟩
theorem lf_nat (t : List Nd) (p : Nat) : lf t p = t.getD (2 * p) default := by
  rw [lf, show 2 * (p : Int) = ((2 * p : Nat) : Int) by omega, rd_nat]
theorem lf_take {t : List Nd} {n p : Nat} (h : 2 * p < n) : lf (t.take n) p = lf t p := by
  rw [lf_nat, lf_nat, List.getD_eq_getElem?_getD, List.getD_eq_getElem?_getD, List.getElem?_take_of_lt h]
theorem okK_set {t : List Nd} (h : okK t) (x : Int) : okK (setN t x blankN) := fun i hi => by
  have hc : cnt (setN t x blankN) = cnt t := by simp [cnt, setN]
  rw [hc] at hi
  have := h i hi
  have hx := lf_at hi
  rw [lf_nat, List.getD_eq_getElem?_getD] at this ⊢
  rw [setN, List.getElem?_set]
  split
  · rename_i e; rw [if_pos (by omega)]; exact .inl rfl
  · exact this
theorem okK_fold {l : List Int} : ∀ {t : List Nd}, okK t → okK (l.foldl (fun t x => setN t x blankN) t) := by
  induction l with
  | nil => exact fun h => h
  | cons a l ih => exact fun h => ih (okK_set h a)
theorem okK_rem {t : List Nd} (h : okK t) (i : Int) : okK (remO t i) := okK_set (okK_fold h) _
theorem last_is (t : List Nd) : ∀ k, lastF t k = -1 ∨ (0 ≤ lastF t k ∧ (lf t (lastF t k).toNat).kind = 1)
  | 0 => .inl rfl
  | k + 1 => by
    rw [lastF]; split
    · exact .inr ⟨by omega, by rwa [Int.toNat_natCast]⟩
    · exact last_is t k
theorem last_no {t : List Nd} : ∀ {k q : Nat}, lastF t k < (q : Int) → q < k → ¬ (lf t q).kind = 1
  | 0, q, _, h => absurd h (Nat.not_lt_zero q)
  | k + 1, q, h, hq => by
    rw [lastF] at h; split at h
    · omega
    · by_cases e : q = k
      · subst e; assumption
      · exact last_no h (by omega)
theorem empty_take {o : List Nd} {j q k : Nat} (hlen : o.length = 2 * 2 ^ j - 1) (hq : q ≤ j) (hk : okK o) (hl : lastF o (2 ^ j) < ((2 ^ q : Nat) : Int)) : emptyB (o.take (2 * 2 ^ q - 1)) k = decide (lastF o (2 ^ j) < (k : Int)) := by
  have hqj : 2 ^ q ≤ 2 ^ j := Nat.pow_le_pow_right (by decide) hq
  have h1 : 1 ≤ 2 ^ q := Nat.one_le_two_pow
  have hc : cnt (o.take (2 * 2 ^ q - 1)) = 2 ^ q := cnt_of (by rw [List.length_take]; omega)
  have hco : cnt o = 2 ^ j := cnt_of hlen
  rw [Bool.eq_iff_iff, decide_eq_true_iff]
  constructor
  · intro he
    by_cases hlk : lastF o (2 ^ j) < (k : Int)
    · exact hlk
    · rcases last_is o (2 ^ j) with h | ⟨h0, h⟩
      · omega
      · have := emptyB_at he (q := (lastF o (2 ^ j)).toNat) (by omega) (by omega)
        rw [lf_take (by omega), h] at this
        exact absurd this (by decide)
  · intro hlk
    refine emptyB_of fun p hp hpc => ?_
    rw [hc] at hpc
    rw [lf_take (by omega)]
    have := last_no (t := o) (k := 2 ^ j) (q := p) (by omega) (by omega)
    rcases hk p (by omega) with h | h
    · exact h
    · exact absurd h this
instance rRemove : CC Tryd.prog 33 (∀ (t : List Nd) (i : Int), okS t → okK t → (0 ≤ i → i < (cnt t : Int) → ∀ x ∈ pathV t i, 0 ≤ x ∧ x < (t.length : Int)) → C 33 [gT t, .int .i64 i] (.tup [gT (remV t i).1, .int .i64 (remV t i).2])) := ⟨fun t i h1 h2 h3 => by
  refine ct Tryd.func33 fun {Z} H => ?_
  obtain ⟨j, hj, hlen⟩ := h1
  have hb := two_pow_bound hj
  have hct := cnt_of hlen
  by_cases ht : thereB t i = true
  · have hr := thereB_le ht
    have h3 := h3 hr.1 hr.2.1
    have hbl : (blankV t i).length = t.length := blankV_len t i
    repeat' first | refine go ?_ | (refine sp ?_ ?_ <;> intro h) | intro b
    refine X.sta blankN ?_
    repeat' first | refine go ?_ | (refine sp ?_ ?_ <;> intro h) | intro b
    rw [show (blankV t i).set (2 * i).toNat blankN = remO t i from rfl]
    have hol := remO_len t i
    have hrem : remV t i = if lastF (remO t i) (cnt t) < 0 then (t, 13) else ((remO t i).take (2 * 2 ^ wid (lastF (remO t i) (cnt t)) (Nat.log2 (cnt t)) - 1), 0) := by rw [remV, if_pos ht]
    have hoc : cnt (remO t i) = cnt t := by unfold cnt; rw [hol]
    have hok0 := okK_rem h2 i
    generalize remO t i = o at *
    have hok : okK o := hok0
    have hlo := lastF_lt o (2 ^ j)
    have he0 : emptyB o 0 = decide (lastF o (2 ^ j) < 0) := by
      have := empty_take (k := 0) (hol.trans hlen) (Nat.le_refl j) hok hlo.2
      rwa [List.take_of_length_le (by omega)] at this
    have hc0 : ((0 : Int).toNat) = 0 := rfl
    repeat' first | refine go ?_ | (refine sp ?_ ?_ <;> intro h) | intro b
    · have hn : lastF o (2 ^ j) < 0 := of_decide_eq_true (he0.symm.trans ‹_›)
      rw [hrem, if_pos (by rw [hct]; exact hn)]
      exact fin rfl
    · have hn : ¬ lastF o (2 ^ j) < 0 := of_decide_eq_false (he0.symm.trans ‹_›)
      rw [if_neg (by rw [hct]; exact hn), hct, Nat.log2_two_pow] at hrem
      rw [hrem]
      refine W.loop (fun q : Nat => [(7, .own 0 0 (2 * 2 ^ q - 1) t.length)]) (fun _ => [.buf 5 0 (o.map gN)]) (fun q => q ≤ j ∧ wid (lastF o (2 ^ j)) q = wid (lastF o (2 ^ j)) j ∧ lastF o (2 ^ j) < ((2 ^ q : Nat) : Int)) (fun q => q) j ⟨Nat.le_refl _, rfl, hlo.2⟩ ?_ (hF := ⟨by rw [← hlen]; rfl, True.intro⟩)
      rintro q env ⟨hq, hw, hlq⟩
      have hqb : 2 ^ q ≤ 2 ^ j := Nat.pow_le_pow_right (by decide) hq
      have hq1 : 1 ≤ 2 ^ q := Nat.one_le_two_pow
      have htl : (o.take (2 * 2 ^ q - 1)).length = 2 * 2 ^ q - 1 := by rw [List.length_take]; omega
      have hcq : cnt (o.take (2 * 2 ^ q - 1)) = 2 ^ q := cnt_of htl
      have hem := fun k => empty_take (k := k) (hol.trans hlen) hq hok hlq
      rcases q with _ | q
      · repeat' first | refine go ?_ | (refine sp ?_ ?_ <;> intro h) | intro b
        rw [← hw]
        exact fin rfl
      · have e2 : 2 ^ (q + 1) = 2 * 2 ^ q := Nat.pow_succ'
        have e1 : 1 ≤ 2 ^ q := Nat.one_le_two_pow
        have e3 : (((cnt (o.take (2 * 2 ^ (q + 1) - 1)) : Nat) : Int) / 2).toNat = 2 ^ q := by omega
        have e4 : (((2 * 2 ^ (q + 1) - 1 : Nat) : Int) / 2).toNat = 2 * 2 ^ q - 1 := by omega
        have e5 := hem (2 ^ q)
        repeat' first | refine go ?_ | (refine sp ?_ ?_ <;> intro h) | intro b
        · have hlt : lastF o (2 ^ j) < ((2 ^ q : Nat) : Int) := of_decide_eq_true (e5.symm.trans (e3 ▸ ‹_›))
          exact lp q ⟨by omega, by rw [← hw, wid, if_pos hlt], hlt⟩ (by omega) (hE := ⟨congrArg (fun n => V.own 0 0 n _) e4, True.intro⟩)
        · have hlt : ¬ lastF o (2 ^ j) < ((2 ^ q : Nat) : Int) := of_decide_eq_false (e5.symm.trans (e3 ▸ ‹_›))
          rw [← hw, wid, if_neg hlt]
          exact fin rfl
  · have e : remV t i = (t, 11) := by unfold remV; rw [if_neg ht]
    rw [e]
    repeat' first | refine go ?_ | (refine sp ?_ ?_ <;> intro h) | intro b
    exact fin rfl⟩
end Go.Proofs.Mth
end
section
/- Trees: resolutions. -/
set_option linter.unusedVariables false
set_option linter.unusedSimpArgs false
set_option maxRecDepth 100000
set_option maxHeartbeats 2000000
namespace Go.Proofs.Mth
open Go Go.Pv Go.Proofs Go.Shelf
/-- What a node is told to stand for: itself, and the leaves that don't know it. -/
def selfV (t : List Nd) (x : Int) : List Int := x :: (rd t x).un.map fun i => 2 * i
def resF : Nat → List Nd → Int → List Int
  | 0, _, _ => []
  | f + 1, t, x => if x < 0 ∨ (t.length : Int) ≤ x then [] else if ¬ (rd t x).kind = 0 then selfV t x else if x % 2 = 0 then [] else resF f t (childV x (-1)).1 ++ resF f t (childV x 1).1
/-- Leaves that don't know are few, and small numbers. -/
def okU (t : List Nd) : Prop := ∀ n ∈ t, n.un.length ≤ 1000 ∧ ∀ i ∈ n.un, 0 ≤ i ∧ i ≤ 1000000
theorem res_len {t : List Nd} (h : okU t) : ∀ f x, (resF f t x).length ≤ 1001 * 2 ^ f
  | 0, _ => by simp [resF]
  | f + 1, x => by
    have e : 2 ^ (f + 1) = 2 * 2 ^ f := Nat.pow_succ'
    have e1 : 1 ≤ 2 ^ f := Nat.one_le_two_pow
    rw [resF]; split
    · simp
    · split
      · have := (h _ (rd_mem (l := t) (i := x) (by omega))).1
        simp [selfV]; omega
      · split
        · simp
        · have h1 := res_len h f (childV x (-1)).1
          have h2 := res_len h f (childV x 1).1
          rw [List.length_append]; omega
theorem take_rd {l : List Int} {k : Nat} (h : k < l.length) : l.take (k + 1) = l.take k ++ [rd l (k : Int)] := by
  rw [List.take_add_one, List.getElem?_eq_getElem h, rd_nat, List.getD_eq_getElem?_getD, List.getElem?_eq_getElem h]; rfl
theorem el_own {L : List Go.Pv.Obj} {v : V} {id n sz m : Nat} {α : Type} {g : α → V} {l : List α} (h : v = .own id 0 n n) (hL : L[id]? = some (.buf sz m (l.map g))) (hn : l.length = n) : elems L v = some (l.map g) := by
  subst h hn
  simp [elems, hL]
  rw [List.take_of_length_le (by simp)]
theorem lev_kids {y : Nat} (hy : y < 2047) (h : y % 2 = 1) : lev (lN y) < lev y ∧ lev (rN y) < lev y := by
  have hh : ((List.range 2047).all fun y => decide (y % 2 = 1 → lev (lN y) < lev y ∧ lev (rN y) < lev y)) = true := by kernel_rfl
  exact of_decide_eq_true (all_lt hh y hy) h
theorem resolve_at {t : List Nd} (ht : okU t) (hl : t.length ≤ 2047) : ∀ f, f ≤ 11 → ∀ x : Int, (0 ≤ x → x < (t.length : Int) → lev x.toNat < f) → 0 < f → O 22 [gT t, .int .i64 x] 1 (resF f t x).length ((resF f t x).map (V.int .i64)) := by
  intro f
  induction f with
  | zero => intro _ _ _ h; omega
  | succ f ih =>
    intro hf x hx _
    refine co Tryd.func22 fun {Z} H => ?_
    by_cases hr : x < 0 ∨ (t.length : Int) ≤ x
    · rw [resF, if_pos hr]
      repeat' first | refine go ?_ | (refine sp ?_ ?_ <;> intro h) | intro b
      all_goals exact finG
    · have hbig := ht _ (rd_mem (l := t) (i := x) (by omega))
      rw [resF, if_neg hr]
      by_cases hk0 : ¬ (rd t x).kind = 0
      · rw [if_pos hk0, selfV]
        repeat' first | refine go ?_ | (refine sp ?_ ?_ <;> intro h) | intro b
        generalize hun : (rd t x).un = un at *
        refine W.loop (fun s : Nat × List Int => [(5, .own 1 0 s.2.length s.2.length), (38, gI un), (39, .int .i64 (un.length : Nat)), (40, .int .i64 s.1)]) (fun s => [.box [.int .i64 (rd t x).kind, .int .i64 (rd t x).name, gB (rd t x).pub, gI un, gB (rd t x).hash], .buf 1 0 (s.2.map (V.int .i64))]) (fun s => s.1 ≤ un.length ∧ s.2.length = s.1 + 1 ∧ s.2 = x :: (un.take s.1).map fun i => 2 * i) (fun s => un.length - s.1) (0, [x]) ⟨Nat.zero_le _, rfl, rfl⟩ ?_
        rintro ⟨k, l⟩ env ⟨hk, hll, hle⟩
        dsimp only at *
        have hie : k < un.length → 0 ≤ rd un (k : Int) ∧ rd un (k : Int) ≤ 1000000 := fun h => hbig.2 _ (rd_mem (by omega))
        repeat' first | refine go ?_ | (refine sp ?_ ?_ <;> intro h) | intro b
        · refine lp (k + 1, l ++ [2 * rd un (k : Int)]) ⟨by dsimp only; omega, by simp; omega, ?_⟩ (by dsimp only; omega)
          dsimp only
          rw [hle, take_rd (by omega), List.map_append]; rfl
        · rw [List.take_of_length_le (by omega)] at hle
          rw [← hle]
          first | exact finO | exact finG | fail
      · rw [if_neg hk0]
        by_cases ho : x % 2 = 0
        · rw [if_pos ho]
          repeat' first | refine go ?_ | (refine sp ?_ ?_ <;> intro h) | intro b
          first | exact finO | exact finG | fail
        · rw [if_neg ho]
          obtain ⟨y, rfl⟩ := Int.eq_ofNat_of_zero_le (show 0 ≤ x by omega)
          have hy : y < 2047 := by omega
          have hlk := lev_kids hy (by omega)
          have hx := hx (by omega) (by omega)
          rw [Int.toNat_natCast] at hx
          have e1 := childL (j := 10) (by omega) (y := y) (by omega) (by omega)
          have e2 := childR (j := 10) (by omega) (y := y) (by omega) (by omega)
          have k1 := ih (by omega) (childV y (-1)).1 (fun _ _ => by rw [e1, Int.toNat_natCast]; omega) (by omega) H
          have k2 := ih (by omega) (childV y 1).1 (fun _ _ => by rw [e2, Int.toNat_natCast]; omega) (by omega) H
          have hl1 := res_len ht f (childV y (-1)).1
          have hl2 := res_len ht f (childV y 1).1
          have hf2 : 2 ^ f ≤ 2 ^ 11 := Nat.pow_le_pow_right (by decide) (by omega)
          repeat' first | refine go ?_ | (refine sp ?_ ?_ <;> intro h) | intro b
          refine X.opr (I.ap (resF f t (childV (y : Int) 1).1) (g := V.int .i64) (el_own rfl rfl rfl) rfl rfl lenI ltI elI nrmL) ?_
          repeat' first | refine go ?_ | (refine sp ?_ ?_ <;> intro h) | intro b
          exact finO
def rslV (t : List Nd) (x : Int) : List Int := resF 11 t x
instance resolve : CC Tryd.prog 22 (∀ (t : List Nd) (x : Int), okU t → t.length ≤ 2047 → O 22 [gT t, .int .i64 x] 1 (rslV t x).length ((rslV t x).map (V.int .i64))) := ⟨fun t x h1 h2 => resolve_at h1 h2 11 (Nat.le_refl _) x (fun h0 hx => by have := lev_le x.toNat (by omega); omega) (by omega)⟩
theorem finGm {Z : Nat → Go.Obj → Prop} {fn : Func} {env : Nat → V} {L : List Go.Pv.Obj} {sz : Nat} {nl : Bool} {u : V} (h : resV Tryd.prog ⟨env, L⟩ fn.results.toList = some u := by first | exact resI | fail) (hu : u = .sl nl true [] := by rfl) :
    KO (FinP Tryd.prog Z fn sz 0 0 []) .ret env L := finG h hu
/-- How many elements of a resolution are known from the start on. -/
def resM : Nat → List Nd → Int → Nat
  | 0, _, _ => 0
  | f + 1, t, x => if x < 0 ∨ (t.length : Int) ≤ x then 0 else if ¬ (rd t x).kind = 0 then 1 else if x % 2 = 0 then 0 else resM f t (childV x (-1)).1
theorem rResolve_at {t : List Nd} (ht : okU t) (hl : t.length ≤ 2047) : ∀ f, f ≤ 11 → ∀ x : Int, (0 ≤ x → x < (t.length : Int) → lev x.toNat < f) → 0 < f → Om 23 [gT t, .int .i64 x] 1 (resM f t x) (resF f t x).length ((resF f t x).map (V.int .i64)) := by
  intro f
  induction f with
  | zero => intro _ _ _ h; omega
  | succ f ih =>
    intro hf x hx _
    refine com Tryd.func23 fun {Z} H => ?_
    by_cases hr : x < 0 ∨ (t.length : Int) ≤ x
    · rw [resF, resM, if_pos hr, if_pos hr]
      repeat' first | refine go ?_ | (refine sp ?_ ?_ <;> intro h) | intro b
      all_goals exact finGm
    · have hbig := ht _ (rd_mem (l := t) (i := x) (by omega))
      rw [resF, resM, if_neg hr, if_neg hr]
      by_cases hk0 : ¬ (rd t x).kind = 0
      · rw [if_pos hk0, if_pos hk0, selfV]
        repeat' first | refine go ?_ | (refine sp ?_ ?_ <;> intro h) | intro b
        refine W.ownify 5 1 (xs := [.int .i64 x]) rfl (by simp [V.cells]) (by decide) ?_
        generalize hun : (rd t x).un = un at *
        refine W.loop (fun s : Nat × List Int => [(0, gT t), (1, .int .i64 x), (5, .own 0 0 s.2.length s.2.length), (6, .int .i64 s.1)]) (fun s => [.buf 1 1 (s.2.map (V.int .i64))]) (fun s => s.1 ≤ un.length ∧ s.2.length = s.1 + 1 ∧ s.2 = x :: (un.take s.1).map fun i => 2 * i) (fun s => un.length - s.1) (0, [x]) ⟨Nat.zero_le _, rfl, rfl⟩ ?_
        rintro ⟨k, l⟩ env ⟨hk, hll, hle⟩
        dsimp only at *
        subst hun
        have hie : k < (rd t x).un.length → 0 ≤ rd (rd t x).un (k : Int) ∧ rd (rd t x).un (k : Int) ≤ 1000000 := fun h => hbig.2 _ (rd_mem (by omega))
        repeat' first | refine go ?_ | (refine sp ?_ ?_ <;> intro h) | intro b
        · refine lp (k + 1, l ++ [2 * rd (rd t x).un (k : Int)]) ⟨by dsimp only; omega, by simp; omega, ?_⟩ (by dsimp only; omega)
          dsimp only
          rw [hle, take_rd (by omega), List.map_append]; rfl
        · rw [List.take_of_length_le (by omega)] at hle
          rw [← hle]
          first | exact finP | exact finGm | fail
      · rw [if_neg hk0, if_neg hk0]
        by_cases ho : x % 2 = 0
        · rw [if_pos ho, if_pos ho]
          repeat' first | refine go ?_ | (refine sp ?_ ?_ <;> intro h) | intro b
          first | exact finP | exact finGm | fail
        · rw [if_neg ho, if_neg ho]
          obtain ⟨y, rfl⟩ := Int.eq_ofNat_of_zero_le (show 0 ≤ x by omega)
          have hy : y < 2047 := by omega
          have hlk := lev_kids hy (by omega)
          have hx := hx (by omega) (by omega)
          rw [Int.toNat_natCast] at hx
          have e1 := childL (j := 10) (by omega) (y := y) (by omega) (by omega)
          have e2 := childR (j := 10) (by omega) (y := y) (by omega) (by omega)
          have k1 := ih (by omega) (childV y (-1)).1 (fun _ _ => by rw [e1, Int.toNat_natCast]; omega) (by omega) H
          have k2 := ih (by omega) (childV y 1).1 (fun _ _ => by rw [e2, Int.toNat_natCast]; omega) (by omega) H
          have hl1 := res_len ht f (childV y (-1)).1
          have hl2 := res_len ht f (childV y 1).1
          have hf2 : 2 ^ f ≤ 2 ^ 11 := Nat.pow_le_pow_right (by decide) (by omega)
          repeat' first | refine go ?_ | (refine sp ?_ ?_ <;> intro h) | intro b
          refine X.opr (I.ap (resF f t (childV (y : Int) 1).1) (g := V.int .i64) (el_own rfl rfl rfl) rfl rfl lenI ltI elI nrmL) ?_
          repeat' first | refine go ?_ | (refine sp ?_ ?_ <;> intro h) | intro b
          exact finP
end Go.Proofs.Mth
end
