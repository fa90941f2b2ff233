import Derived.Test.YtpipbkalkkagpaaDoorG12
set_option linter.unusedSectionVars false
/- Trees: a leaf that is changed, or goes, leaves no node on its path, nor its place. -/
set_option linter.unusedVariables false
set_option linter.unusedSimpArgs false
set_option maxRecDepth 100000
set_option maxHeartbeats 4000000
namespace Go.Proofs.Mth
open Go Go.Pv Go.Proofs Go.Shelf
theorem mem_used {t : List Nd} {u : Int} : u ∈ usedL t ↔ ∃ k : Nat, u = k ∧ k < cnt t ∧ (rd t (2 * (k : Int))).kind = 1 := by
  unfold usedL
  simp only [List.mem_map, List.mem_filter, List.mem_range, decide_eq_true_iff]
  exact ⟨fun ⟨k, ⟨h1, h2⟩, e⟩ => ⟨k, e.symm, h1, h2⟩, fun ⟨k, e, h1, h2⟩ => ⟨k, ⟨h1, h2⟩, e.symm⟩⟩
theorem used_nd (t : List Nd) : (usedL t).Pairwise (· < ·) := by
  unfold usedL
  refine List.Pairwise.map _ (fun a b hab => ?_) (List.Pairwise.filter _ List.pairwise_lt_range)
  omega
theorem used_len (t : List Nd) : (usedL t).length ≤ cnt t := by
  unfold usedL; rw [List.length_map]
  exact Nat.le_trans (List.length_filter_le _ _) (by simp)
theorem used_pos {t : List Nd} {j : Nat} (h : RT t j) : 0 < (usedL t).length := by
  obtain ⟨y, hy, hk⟩ := h.ne
  obtain ⟨hev, _⟩ := kind_leaf (h.wh y hy) hk
  have hl := h.len
  have e : (y : Int) = 2 * ((y / 2 : Nat) : Int) := by omega
  rw [e] at hk
  exact List.length_pos_of_mem (mem_used.2 ⟨y / 2, rfl, by rw [cnt_of hl]; omega, hk⟩)
/-- A node of the tree with a leaf changed, or gone. -/
theorem clean_at {t : List Nd} {j n k : Nat} {m : Nd} (h : RT t j) (hj : j < 7) (hn : n < 2 ^ j) (hm : m.un = []) (hk : k < t.length) :
    ((k : Int) ∈ pathV t (n : Int) → (rd (newL t n m) (k : Int)).kind = 0) ∧ ¬ (n : Int) ∈ (rd (newL t n m) (k : Int)).un ∧ (¬ (k : Int) ∈ pathV t (n : Int) → ¬ (k : Int) = 2 * n → rd (newL t n m) (k : Int) = rd t (k : Int)) ∧ ((k : Int) = 2 * n → rd (newL t n m) (k : Int) = m) := by
  have hmem := mem_pathV hj h.len hn hk
  have hr := rd_newL (n := m) hj h.len hn hk
  by_cases h1 : k = 2 * n
  · rw [if_pos h1] at hr
    rw [hr, hm]
    exact ⟨fun hp => by have := (hmem.1 hp).1; omega, by simp, fun _ h2 => by omega, fun _ => rfl⟩
  · rw [if_neg h1] at hr
    by_cases h2 : k % 2 = 1 ∧ loN k ≤ n ∧ n ≤ hiN k
    · rw [if_pos h2] at hr
      rw [hr]
      exact ⟨fun _ => rfl, by simp [blankN], fun h3 => absurd (hmem.2 h2) h3, fun h3 => by omega⟩
    · rw [if_neg h2] at hr
      rw [hr]
      refine ⟨fun hp => absurd (hmem.1 hp) h2, fun hu => ?_, fun _ _ => rfl, fun h3 => by omega⟩
      have := (right_un h hk).2 _ hu
      exact h2 ⟨this.2.2.2.2, by omega, by omega⟩
theorem one_leaf {t : List Nd} {j n : Nat} (h : RT t j) (hn : n < 2 ^ j) (hk : (rd t (2 * (n : Int))).kind = 1) (h1 : ∀ k : Nat, k < 2 ^ j → ¬ k = n → ¬ (rd t (2 * (k : Int))).kind = 1) : (usedL t).length = 1 := by
  have hc := cnt_of h.len
  have hnd := used_nd t
  have hall : ∀ u ∈ usedL t, u = (n : Int) := fun u hu => by
    obtain ⟨k, rfl, hk1, hk2⟩ := mem_used.1 hu
    by_cases e : k = n
    · rw [e]
    · exact absurd hk2 (h1 k (by omega) e)
  have hpos := List.length_pos_of_mem (mem_used.2 ⟨n, rfl, by omega, hk⟩)
  match hu : usedL t with
  | [] => rw [hu] at hpos; simp at hpos
  | [a] => rfl
  | a :: b :: l =>
    rw [hu] at hall hnd
    have e1 := hall a (by simp)
    have e2 := hall b (by simp)
    have := (List.pairwise_cons.1 hnd).1 b (by simp)
    omega
theorem two_leaves {t : List Nd} {j n k : Nat} (h : RT t j) (hn : n < 2 ^ j) (hk : k < 2 ^ j) (hne : k ≠ n) (h1 : (rd t (2 * (n : Int))).kind = 1) (h2 : (rd t (2 * (k : Int))).kind = 1) : 1 < (usedL t).length := by
  have hc := cnt_of h.len
  have m1 := mem_used.2 ⟨n, rfl, by omega, h1⟩
  have m2 := mem_used.2 ⟨k, rfl, by omega, h2⟩
  match hu : usedL t with
  | [] => rw [hu] at m1; simp at m1
  | [a] => rw [hu] at m1 m2; simp at m1 m2; omega
  | a :: b :: l => simp
/-- What TreeClean asks of the two trees. -/
theorem clean_both {t : List Nd} {j : Nat} (h : May t j) {u : Int} {pub : List UInt8} (hp : pub.length = 32) (hu : u ∈ usedL t) :
    0 ≤ u ∧ 2 * u < (t.length : Int) ∧ (updV t u pub).2 = 0 ∧ (updV t u pub).1.length = t.length ∧ ((remV t u).2 = 0 ↔ 1 < (usedL t).length) ∧
      (∀ k : Nat, k < t.length → ((k : Int) ∈ pathV t u → (rd (updV t u pub).1 (k : Int)).kind = 0) ∧ ¬ u ∈ (rd (updV t u pub).1 (k : Int)).un ∧ (¬ (k : Int) ∈ pathV t u → ¬ (k : Int) = 2 * u → rd (updV t u pub).1 (k : Int) = rd t (k : Int))) ∧
      ((remV t u).2 = 0 → (remV t u).1.length ≤ t.length ∧ ∀ k : Nat, k < (remV t u).1.length → ((k : Int) ∈ pathV t u → (rd (remV t u).1 (k : Int)).kind = 0) ∧ ((k : Int) = 2 * u → (rd (remV t u).1 (k : Int)).kind = 0) ∧ (¬ (k : Int) ∈ pathV t u → ¬ (k : Int) = 2 * u → rd (remV t u).1 (k : Int) = rd t (k : Int))) := by
  obtain ⟨n, rfl, h1, h2⟩ := mem_used.1 hu
  have hl := h.r.len
  have hj := h.hj
  have hc := cnt_of hl
  rw [hc] at h1
  have hth := there_of' hl h1 h2
  have e := upd_newL hp hth
  rw [Int.toNat_natCast] at e
  rw [e]
  refine ⟨by omega, by omega, rfl, newL_len _ _ _, ?_, fun k hk => ?_, fun h0 => ?_⟩
  · rcases rem_cases h.r (by omega) (i := (n : Int)) with ⟨g1, g2, g3⟩ | ⟨m, q, l, hm, g1, g2, g3, g4, g5, g6, g7, _⟩
    · refine ⟨fun h0 => absurd h0 g1, fun h0 => ?_⟩
      have := one_leaf h.r h1 h2 fun k hk hkn hkk => g3 hth n rfl k hk (by rw [rd_newL_leaf (by omega) hl h1 (by omega), if_neg hkn]; exact hkk)
      omega
    · obtain rfl : n = m := by omega
      refine ⟨fun _ => ?_, fun _ => by rw [g4]⟩
      have hqj : 2 ^ q ≤ 2 ^ j := Nat.pow_le_pow_right (by decide) g3
      rw [rd_newL_leaf (by omega) hl h1 (by omega)] at g6
      by_cases hln : l = n
      · rw [if_pos hln] at g6; exact absurd g6 (by decide)
      · rw [if_neg hln] at g6
        exact two_leaves h.r h1 (by omega) hln h2 g6
  · have := clean_at (m := leafN (rd t (2 * (n : Int))).name pub) h.r (by omega) h1 rfl hk
    exact ⟨this.1, this.2.1, this.2.2.1⟩
  · rcases rem_cases h.r (by omega) (i := (n : Int)) with ⟨g1, g2, g3⟩ | ⟨m, q, l, hm, g1, g2, g3, g4, g5, g6, g7, _⟩
    · exact absurd h0 g1
    · obtain rfl : n = m := by omega
      rw [g4]
      have hqj : 2 ^ q ≤ 2 ^ j := Nat.pow_le_pow_right (by decide) g3
      have htl := take_len (n := blankN) (i := n) hl g3
      refine ⟨by rw [htl]; omega, fun k hk => ?_⟩
      rw [htl] at hk
      have := clean_at (m := blankN) h.r (by omega) h1 rfl (k := k) (by omega)
      rw [rd_takeN hk]
      exact ⟨this.1, fun hh => by rw [this.2.2.2 hh]; rfl, this.2.2.1⟩
where
  there_of' {t : List Nd} {j f : Nat} (hl : t.length = 2 * 2 ^ j - 1) (hf : f < 2 ^ j) (h : (rd t (2 * (f : Int))).kind = 1) : thereB t (f : Int) = true := by
    have := cnt_of hl
    unfold thereB; rw [decide_eq_true (by omega), decide_eq_true (by omega), decide_eq_true h]; rfl
instance clean : CC Tryd.prog 10 (∀ (t : List Nd) (i b : Int), 0 ≤ i ∧ i < 256 → 0 ≤ b ∧ b < 256 → C 10 [gT t, .int .u8 i, .int .u8 b] (.bool true)) := ⟨fun t i b h1 h2 => by
  refine ct Tryd.func10 fun {Z} H => ?_
  by_cases g1 : mayB t = true
  · obtain ⟨j, h⟩ := may_of g1
    have hS := h.S
    have hW := h.W
    have l1 := h.len
    have hhb := half_len b
    have k1 := half.out b h2 H
    have oL := h.L
    generalize hpb : halfL b = pb at *
    have hpos := used_pos h.r
    have hul := used_len t
    have hcb : cnt t ≤ 1000 := by unfold cnt; omega
    have hmod := Int.emod_lt_of_pos i (b := ((usedL t).length : Int)) (by omega)
    have hmod0 := Int.emod_nonneg i (b := ((usedL t).length : Int)) (by omega)
    have hu := rd_mem (l := usedL t) (i := i % ((usedL t).length : Int)) ⟨hmod0, hmod⟩
    repeat' first | refine go ?_ | (refine sp ?_ ?_ <;> intro h) | intro b
    generalize hue : rd (usedL t) (i % ((usedL t).length : Int)) = u at *
    obtain ⟨c1, c2, c3, c4, c5, c6, c7⟩ := clean_both h (pub := pb) hhb hu
    have hp := h.p u
    have hpl := pathV_len t u
    have o2 := remV_okL h (i := u)
    have o3 := updV_okL h (i := u) (pub := pb) (by omega)
    have k3 := rWay.out (2 * u) (cnt t : Nat) H
    rw [way_pathV] at k3
    have hbeq : (decide ((remV t u).2 = 0) == decide (((usedL t).length : Int) > 1)) = true := by
      by_cases hF : (remV t u).2 = 0
      · rw [decide_eq_true hF, decide_eq_true (by have := c5.1 hF; omega)]; rfl
      · rw [decide_eq_false hF, decide_eq_false (fun hh => hF (c5.2 (by omega)))]; rfl
    repeat' first | refine go ?_ | (refine sp ?_ ?_ <;> intro h) | intro b
    refine W.loop (fun k : Nat => [(0, gT t), (7, .bool true), (8, gI (usedL t)), (9, .int .i64 u), (10, gT (updV t u pb).1), (11, .int .i64 (updV t u pb).2), (12, gT (remV t u).1), (13, .int .i64 (remV t u).2), (14, gI (pathV t u)), (16, .int .i64 k)]) (fun _ => []) (fun k => k ≤ t.length) (fun k => t.length - k) 0 (Nat.zero_le _) ?_
    intro k env hk
    by_cases hkl : k < t.length
    · obtain ⟨q1, q2, q3⟩ := c6 k hkl
      have q4 := (o3.2 _ (rd_mem (l := (updV t u pb).1) (i := (k : Int)) (by omega))).2.1
      by_cases hon : (k : Int) ∈ pathV t u
      · have q1 := q1 hon
        repeat' first | refine go ?_ | (refine sp ?_ ?_ <;> intro h) | intro b
        all_goals first | exact lp (k + 1) (by omega) (by omega) | trace_state
      · by_cases h2u : (k : Int) = 2 * u
        · repeat' first | refine go ?_ | (refine sp ?_ ?_ <;> intro h) | intro b
          all_goals first | exact lp (k + 1) (by omega) (by omega) | trace_state
        · have q3 := q3 hon h2u
          repeat' first | refine go ?_ | (refine sp ?_ ?_ <;> intro h) | intro b
          all_goals first | exact lp (k + 1) (by omega) (by omega) | trace_state
    · by_cases hF : (remV t u).2 = 0
      · obtain ⟨c8, c9⟩ := c7 hF
        repeat' first | refine go ?_ | (refine sp ?_ ?_ <;> intro h) | intro b
        refine W.loop (fun k : Nat => [(0, gT t), (7, .bool true), (9, .int .i64 u), (12, gT (remV t u).1), (13, .int .i64 (remV t u).2), (14, gI (pathV t u)), (18, .int .i64 k)]) (fun _ => []) (fun k => k ≤ (remV t u).1.length) (fun k => (remV t u).1.length - k) 0 (Nat.zero_le _) ?_
        intro k env hk
        by_cases hkl : k < (remV t u).1.length
        · obtain ⟨q1, q2, q3⟩ := c9 k hkl
          have q4 := (o2.2 _ (rd_mem (l := (remV t u).1) (i := (k : Int)) (by omega))).2.1
          by_cases hon : (k : Int) ∈ pathV t u
          · have q1 := q1 hon
            repeat' first | refine go ?_ | (refine sp ?_ ?_ <;> intro h) | intro b
            all_goals first | exact lp (k + 1) (by omega) (by omega) | trace_state
          · by_cases h2u : (k : Int) = 2 * u
            · have q2 := q2 h2u
              repeat' first | refine go ?_ | (refine sp ?_ ?_ <;> intro h) | intro b
              all_goals first | exact lp (k + 1) (by omega) (by omega) | trace_state
            · have q3 := q3 hon h2u
              repeat' first | refine go ?_ | (refine sp ?_ ?_ <;> intro h) | intro b
              all_goals first | exact lp (k + 1) (by omega) (by omega) | trace_state
        · repeat' first | refine go ?_ | (refine sp ?_ ?_ <;> intro h) | intro b
          all_goals first | exact fin rfl | trace_state
      · repeat' first | refine go ?_ | (refine sp ?_ ?_ <;> intro h) | intro b
        refine W.loop (fun k : Nat => [(7, .bool true), (12, gT (remV t u).1), (13, .int .i64 (remV t u).2), (18, .int .i64 k)]) (fun _ => []) (fun k => k = 0) (fun k => 0) 0 rfl ?_
        rintro k env rfl
        repeat' first | refine go ?_ | (refine sp ?_ ?_ <;> intro h) | intro b
        all_goals first | exact fin rfl | trace_state
  · have g1 : mayB t = false := by simpa using g1
    repeat' first | refine go ?_ | (refine sp ?_ ?_ <;> intro h) | intro b
    all_goals first | exact fin rfl | trace_state⟩
end Go.Proofs.Mth
