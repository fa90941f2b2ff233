import Derived.Test.YtpipbkalkkagpaaDoorG12
set_option linter.unusedSectionVars false
/- Trees: what resolutions cover. -/
set_option linter.unusedVariables false
set_option linter.unusedSimpArgs false
set_option maxRecDepth 100000
set_option maxHeartbeats 4000000
namespace Go.Proofs.Mth
open Go Go.Pv Go.Proofs Go.Shelf
/-- Does a node of a resolution cover a leaf? -/
def covB (t : List Nd) (i e : Int) : Bool := decide ((leavesV e).1 ≤ i) && decide (i ≤ (leavesV e).2) && !decide (i ∈ (rd t e).un)
def covN (t : List Nd) (i : Int) (l : List Int) : Nat := (l.filter (covB t i)).length
theorem covN_app (t : List Nd) (i : Int) (a b : List Int) : covN t i (a ++ b) = covN t i a + covN t i b := by
  unfold covN; rw [List.filter_append, List.length_append]
theorem covN_cons (t : List Nd) (i a : Int) (b : List Int) : covN t i (a :: b) = (if covB t i a = true then 1 else 0) + covN t i b := by
  unfold covN; rw [List.filter_cons]; split
  · rw [List.length_cons]; omega
  · omega
/-- The leaves of a row: each covers itself. -/
theorem cov_leaves {t : List Nd} {j : Nat} (h : RT t j) (hj : j < 7) {i : Nat} : ∀ {l : List Int}, l.Pairwise (· < ·) → (∀ u ∈ l, ∃ k : Nat, u = k ∧ k < 2 ^ j ∧ (rd t (2 * u)).kind = 1) → covN t i (l.map fun u => 2 * u) = if (i : Int) ∈ l then 1 else 0
  | [], _, _ => by simp [covN]
  | a :: l, hp, hl => by
    rw [List.pairwise_cons] at hp
    obtain ⟨k, rfl, hk1, hk2⟩ := hl _ (List.mem_cons_self ..)
    have ih := cov_leaves h hj (i := i) hp.2 fun u hu => hl u (List.mem_cons_of_mem _ hu)
    have hlen := h.len
    have hb := two_pow_bound (j := j) (by omega)
    have hj7 : 2 ^ j ≤ 2 ^ 6 := Nat.pow_le_pow_right (by decide) (by omega)
    rw [List.map_cons, covN_cons, ih]
    have e2 : 2 * (k : Int) = ((2 * k : Nat) : Int) := by omega
    have hu : (rd t (2 * (k : Int))).un = [] := by
      rw [e2] at hk2 ⊢
      rcases h.at (x := 2 * k) (by omega) with h0 | h1 | h1
      · rw [h0]; rfl
      · exact h1.2.2.2.2
      · omega
    have hlo := leaf_at (x := 2 * k) (by omega) (by omega)
    have hc : covB t i (2 * (k : Int)) = decide ((i : Int) = k) := by
      unfold covB
      rw [hu, e2, lv_lo (by omega), lv_hi (by omega), hlo.1, hlo.2, Bool.eq_iff_iff]
      simp only [Bool.and_eq_true, decide_eq_true_iff, List.not_mem_nil, decide_false, Bool.not_false, and_true]
      omega
    rw [hc]
    by_cases hik : (i : Int) = k
    · rw [decide_eq_true hik, if_pos rfl, if_neg (fun hm => by have := hp.1 _ hm; omega), if_pos (by rw [hik]; exact List.mem_cons_self ..)]
    · rw [decide_eq_false hik, if_neg (by simp)]
      by_cases hm : (i : Int) ∈ l
      · rw [if_pos hm, if_pos (List.mem_cons_of_mem _ hm)]
      · rw [if_neg hm, if_neg (fun h => (List.mem_cons.1 h).elim hik hm)]
/-- A resolution covers each leaf below once, and none else; its nodes are not blank. -/
theorem res_covers {t : List Nd} {j : Nat} (h : RT t j) (hj : j < 7) : ∀ f, ∀ x : Nat, x < t.length → lev x < f →
    (∀ e ∈ resF f t x, 0 ≤ e ∧ e < (t.length : Int) ∧ ¬ (rd t e).kind = 0) ∧ ∀ i : Nat, i < 2 ^ j → (rd t (2 * (i : Int))).kind = 1 → covN t i (resF f t x) = if loN x ≤ i ∧ i ≤ hiN x then 1 else 0
  | 0, x, _, hl => by omega
  | f + 1, x, hx, hl => by
    have hlen := h.len
    have hb := two_pow_bound (j := j) (by omega)
    have hj7 : 2 ^ j ≤ 2 ^ 6 := Nat.pow_le_pow_right (by decide) (by omega)
    rw [resF, if_neg (by omega)]
    by_cases hk : ¬ (rd t (x : Int)).kind = 0
    · rw [if_pos hk, selfV]
      obtain ⟨hu1, hu2⟩ := right_un h hx
      have hul : ∀ u ∈ (rd t (x : Int)).un, ∃ k : Nat, u = k ∧ k < 2 ^ j ∧ (rd t (2 * u)).kind = 1 := fun u hu => by
        obtain ⟨g1, g2, g3, _⟩ := hu2 u hu
        obtain ⟨k, rfl, hk1, _⟩ := leaf_in hj hlen hx g1 g2
        exact ⟨k, rfl, hk1, g3⟩
      refine ⟨fun e he => ?_, fun i hi hik => ?_⟩
      · rcases List.mem_cons.1 he with rfl | he
        · exact ⟨by omega, by omega, hk⟩
        · obtain ⟨u, hu, rfl⟩ := List.mem_map.1 he
          obtain ⟨k, rfl, hk1, hk2⟩ := hul u hu
          exact ⟨by omega, by omega, by omega⟩
      · rw [covN_cons, cov_leaves h hj hu1 hul]
        have hc : covB t i (x : Int) = (decide (loN x ≤ i ∧ i ≤ hiN x) && !decide ((i : Int) ∈ (rd t (x : Int)).un)) := by
          unfold covB
          rw [lv_lo (by omega), lv_hi (by omega), Bool.eq_iff_iff]
          simp only [Bool.and_eq_true, decide_eq_true_iff]
          exact ⟨fun ⟨⟨a, b⟩, c⟩ => ⟨⟨by omega, by omega⟩, c⟩, fun ⟨⟨a, b⟩, c⟩ => ⟨⟨by omega, by omega⟩, c⟩⟩
        rw [hc]
        by_cases hin : loN x ≤ i ∧ i ≤ hiN x
        · rw [decide_eq_true hin, if_pos hin]
          by_cases hm : (i : Int) ∈ (rd t (x : Int)).un
          · rw [decide_eq_true hm, if_pos hm]; rfl
          · rw [decide_eq_false hm, if_neg hm]; rfl
        · have hm : ¬ (i : Int) ∈ (rd t (x : Int)).un := fun hm => by have := hu2 _ hm; omega
          rw [decide_eq_false hin, decide_eq_false hm, if_neg hin, if_neg hm]; rfl
    · rw [if_neg hk]
      have hk0 : (rd t (x : Int)).kind = 0 := Classical.not_not.1 hk
      by_cases ho : (x : Int) % 2 = 0
      · rw [if_pos ho]
        refine ⟨fun e he => by simp at he, fun i hi hik => ?_⟩
        have hlo := leaf_at (x := x) (by omega) (by omega)
        rw [if_neg]; rfl
        rintro ⟨h1, h2⟩
        have : 2 * (i : Int) = (x : Int) := by omega
        rw [this] at hik; omega
      · rw [if_neg ho]
        have ho2 : x % 2 = 1 := by omega
        have hkid := kids j (by omega) x (by omega) ho2
        have hlk := lev_kids (y := x) (by omega) ho2
        have e1 := childL (j := j) (by omega) (y := x) (by omega) ho2
        have e2 := childR (j := j) (by omega) (y := x) (by omega) ho2
        rw [e1, e2]
        obtain ⟨a1, a2⟩ := res_covers h hj f (lN x) (by omega) (by omega)
        obtain ⟨b1, b2⟩ := res_covers h hj f (rN x) (by omega) (by omega)
        have hka := kids_at (x := x) (by omega) ho2
        have hbl := below hj (x := lN x) (by omega)
        have hbr := below hj (x := rN x) (by omega)
        refine ⟨fun e he => ?_, fun i hi hik => ?_⟩
        · rcases List.mem_append.1 he with he | he
          · exact a1 e he
          · exact b1 e he
        · rw [covN_app, a2 i hi hik, b2 i hi hik]
          split <;> split <;> split <;> omega
instance covers : CC Tryd.prog 4 (∀ (t : List Nd) (at0 : Int), 0 ≤ at0 ∧ at0 < 256 → C 4 [gT t, .int .u8 at0] (.bool true)) := ⟨fun t at0 h1 => by
  refine ct Tryd.func4 fun {Z} H => ?_
  by_cases g1 : mayB t = true
  · obtain ⟨j, h⟩ := may_of g1
    have l1 := h.len
    have hU := h.U
    have hl := h.r.len
    have hc := cnt_of hl
    have hb := two_pow_bound h.r.hj
    have hj := h.hj
    have hmod := Int.emod_lt_of_pos at0 (b := (t.length : Int)) (by omega)
    have hmod0 := Int.emod_nonneg at0 (b := (t.length : Int)) (by omega)
    obtain ⟨x, hxe⟩ := Int.eq_ofNat_of_zero_le hmod0
    have hx : x < t.length := by omega
    have hlx := lev_le x (by omega)
    obtain ⟨c1, c2⟩ := res_covers h.r (by omega) 11 x hx (by omega)
    have hrl : (rslV t x).length ≤ 1000000000 := Nat.le_trans (res_len hU 11 x) (by decide)
    have hlo := lv_lo (x := x) (by omega)
    have hhi := lv_hi (x := x) (by omega)
    repeat' first | refine go ?_ | (refine sp ?_ ?_ <;> intro h) | intro b
    rw [hxe]
    have hle : rslV t (x : Int) = resF 11 t x := rfl
    generalize rslV t (x : Int) = l at *
    rw [← hle] at c1 c2
    clear hle
    refine W.loop (fun i : Nat => [(0, gT t), (5, .bool true), (6, .int .i64 x), (7, .own 0 0 l.length l.length), (8, .int .i64 (leavesV x).1), (9, .int .i64 (leavesV x).2), (10, .int .i64 i)]) (fun _ => [.buf 1 0 (l.map (V.int .i64))]) (fun i => i ≤ cnt t) (fun i => cnt t - i) 0 (Nat.zero_le _) ?_
    intro i env hi
    by_cases hic : i < cnt t
    · have hx2 := lf_at hic
      have c2 := c2 i (by omega)
      repeat' first | refine go ?_ | (refine sp ?_ ?_ <;> intro h) | intro b
      refine W.loop (fun k : Nat => [(0, gT t), (5, .bool true), (6, .int .i64 x), (7, .own 0 0 l.length l.length), (8, .int .i64 (leavesV x).1), (9, .int .i64 (leavesV x).2), (10, .int .i64 i), (11, .int .i64 (covN t i (l.take k) : Nat)), (12, .int .i64 k)]) (fun _ => [.buf 1 0 (l.map (V.int .i64))]) (fun k => k ≤ l.length) (fun k => l.length - k) 0 (Nat.zero_le _) ?_
      intro k env hk
      have hcn : covN t i (l.take k) ≤ 1000000000 := Nat.le_trans (List.length_filter_le _ _) (by rw [List.length_take]; omega)
      by_cases hkl : k < l.length
      · obtain ⟨d1, d2, d3⟩ := c1 _ (rd_mem (l := l) (i := (k : Int)) (by omega))
        have hun := (hU _ (rd_mem (l := t) (i := rd l (k : Int)) ⟨d1, d2⟩)).1
        have hst : covN t i (l.take (k + 1)) = covN t i (l.take k) + if covB t i (rd l (k : Int)) = true then 1 else 0 := by
          rw [take_rd hkl, covN_app, covN_cons]; rfl
        have hcov : covB t i (rd l (k : Int)) = (decide ((leavesV (rd l (k : Int))).1 ≤ i) && decide ((i : Int) ≤ (leavesV (rd l (k : Int))).2) && !decide ((i : Int) ∈ (rd t (rd l (k : Int))).un)) := rfl
        repeat' first | refine go ?_ | (refine sp ?_ ?_ <;> intro h) | intro b
        · have e : covN t i (l.take (k + 1)) = covN t i (l.take k) + 1 := by rw [hst, hcov, if_pos (by simp [*])]
          exact lp (k + 1) (by omega) (by omega)
        all_goals
          have e : covN t i (l.take (k + 1)) = covN t i (l.take k) := by rw [hst, hcov, if_neg (by simp [*]), Nat.add_zero]
          exact lp (k + 1) (by omega) (by omega)
      · rw [List.take_of_length_le (by omega)]
        repeat' first | refine go ?_ | (refine sp ?_ ?_ <;> intro h) | intro b
        all_goals first | exact lp (i + 1) (by omega) (by omega) | (exfalso; have c3 := c2 (by assumption); split at c3 <;> omega) | trace_state
    · repeat' first | refine go ?_ | (refine sp ?_ ?_ <;> intro h) | intro b
      all_goals first | exact fin rfl | trace_state
  · have g1 : mayB t = false := by simpa using g1
    repeat' first | refine go ?_ | (refine sp ?_ ?_ <;> intro h) | intro b
    all_goals first | exact fin rfl | trace_state⟩
end Go.Proofs.Mth
