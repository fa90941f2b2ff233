import Derived.Test.YtpipbkalkkagpaaDoorG11
set_option linter.unusedSectionVars false
/- Trees: the first laws. -/
set_option linter.unusedVariables false
set_option linter.unusedSimpArgs false
set_option maxRecDepth 100000
set_option maxHeartbeats 4000000
namespace Go.Proofs.Mth
open Go Go.Pv Go.Proofs Go.Shelf
theorem small_len {t : List Nd} {m : Nat} (h : smallB t m = true) : t.length ≤ m := by
  simp only [smallB, Bool.and_eq_true, decide_eq_true_iff] at h; exact h.1
theorem right_un {t : List Nd} {j : Nat} (h : RT t j) {x : Nat} (hx : x < t.length) : (rd t (x : Int)).un.Pairwise (· < ·) ∧ ∀ u ∈ (rd t (x : Int)).un, (loN x : Int) ≤ u ∧ u ≤ hiN x ∧ (rd t (2 * u)).kind = 1 ∧ (rd t (x : Int)).kind = 2 ∧ x % 2 = 1 := by
  have hb := two_pow_bound h.hj
  have hl := h.len
  rcases whole_iff.1 (h.wh x hx) with h0 | ⟨_, _, _, _, h0⟩ | ⟨h2, _, _, ho, _, hu⟩
  · rw [h0]; simp [blankN]
  · rw [h0]; simp
  · rw [lv_lo (by omega), lv_hi (by omega), unB_iff] at hu
    exact ⟨hu.1, fun u hu' => by have := hu.2 u hu'; exact ⟨this.1, this.2.1, this.2.2, h2, by omega⟩⟩
theorem nd_at {t : List Nd} {n : Nd} (h : n ∈ t) : ∃ x : Nat, x < t.length ∧ rd t (x : Int) = n := by
  obtain ⟨x, hx, rfl⟩ := List.getElem_of_mem h
  exact ⟨x, hx, by rw [rd_nat, List.getD_eq_getElem?_getD, List.getElem?_eq_getElem hx]; rfl⟩
theorem right_okU {t : List Nd} (hs : smallB t 80 = true) (h : rightB t = true) : okU t := fun n hn => by
  obtain ⟨j, hr⟩ := right_iff.1 h
  have hl := small_len hs
  have hlen := hr.len
  have hj : j < 7 := by
    by_cases hj : j < 7
    · exact hj
    · have : 2 ^ 7 ≤ 2 ^ j := Nat.pow_le_pow_right (by decide) (by omega)
      omega
  obtain ⟨x, hx, rfl⟩ := nd_at hn
  have hu := (right_un hr hx).2
  have hb := below hj (x := x) (by omega)
  have hp := two_pow_bound hr.hj
  simp only [smallB, Bool.and_eq_true, decide_eq_true_iff, List.all_eq_true, okNd] at hs
  exact ⟨by have := hs.2 _ hn; omega, fun i hi => by have := hu i hi; omega⟩
theorem right_okW {t : List Nd} (hs : smallB t 80 = true) (h : rightB t = true) : okW 1000 t := fun n hn => by
  obtain ⟨j, hr⟩ := right_iff.1 h
  obtain ⟨x, hx, rfl⟩ := nd_at hn
  have hu := (right_un hr hx).1
  simp only [smallB, Bool.and_eq_true, decide_eq_true_iff, List.all_eq_true, okNd] at hs
  refine ⟨fun p q hpq hq => ?_, by have := hs.2 _ hn; omega⟩
  have hget : ∀ {l : List Int} q (h : q < l.length), rd l (q : Int) = l[q] := fun q h => by rw [rd_nat, List.getD_eq_getElem?_getD, List.getElem?_eq_getElem h]; rfl
  rw [hget p (by omega), hget q hq]
  exact Int.le_of_lt (List.pairwise_iff_getElem.1 hu p q (by omega) hq hpq)
theorem right_okS {t : List Nd} (h : rightB t = true) : okS t := by
  obtain ⟨j, hr⟩ := right_iff.1 h
  exact ⟨j, hr.hj, hr.len⟩
theorem new_okL {name : Int} {pub : List UInt8} (h : pub.length ≤ 40) : okL (newV name pub).1 := by
  unfold newV; split
  · exact ⟨by simp, fun n hn => by rw [List.mem_singleton.1 hn]; simp [leafN]; omega⟩
  · exact ⟨by simp, fun n hn => by simp at hn⟩
instance tells : CC Tryd.prog 3 (∀ (a b : List Nd) (name : Int) (pub : List UInt8) (x : Int), C 3 [.agg [gT a, gT b, .int .i64 name, gB pub, .int .i64 x]] (.bool true)) := ⟨fun a b name pub x => by
  refine ct Tryd.func3 fun {Z} H => ?_
  by_cases g1 : smallB a 80 = true
  · by_cases g2 : smallB b 80 = true
    · by_cases g3 : pub.length ≤ 40
      · have l1 := small_len g1
        have l2 := small_len g2
        have o1 := small_okL g1
        have o2 := small_okL g2
        have o4 := new_okL (name := name) g3
        by_cases hr : rightB a = true
        · have o3 := right_okU g1 hr
          have hrl2 : (rslV a x).length ≤ 1000000000 := Nat.le_trans (res_len o3 11 x) (by decide)
          repeat' first | refine go ?_ | (refine sp ?_ ?_ <;> intro h) | intro b
          all_goals first | (exfalso; simp at *; done) | (refine fin (vB ?_); simp) | trace_state
        · have hr : rightB a = false := by simpa using hr
          repeat' first | refine go ?_ | (refine sp ?_ ?_ <;> intro h) | intro b
          all_goals first | (exfalso; simp at *; done) | (refine fin (vB ?_); simp) | trace_state
      · repeat' first | refine go ?_ | (refine sp ?_ ?_ <;> intro h) | intro b
        all_goals first | exact fin rfl | (exfalso; omega) | trace_state
    · have g2 : smallB b 80 = false := by simpa using g2
      repeat' first | refine go ?_ | (refine sp ?_ ?_ <;> intro h) | intro b
      all_goals first | exact fin rfl | trace_state
  · have g1 : smallB a 80 = false := by simpa using g1
    repeat' first | refine go ?_ | (refine sp ?_ ?_ <;> intro h) | intro b
    all_goals first | exact fin rfl | trace_state⟩
end Go.Proofs.Mth
