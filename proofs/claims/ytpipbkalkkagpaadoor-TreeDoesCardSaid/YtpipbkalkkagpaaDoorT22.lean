import Derived.Test.YtpipbkalkkagpaaDoorG11
import Derived.Test.YtpipbkalkkagpaaDoorG12
set_option linter.unusedSectionVars false
/- Trees: a leaf that is added, removed, changed, as the document says. -/
set_option linter.unusedVariables false
set_option linter.unusedSimpArgs false
set_option maxRecDepth 100000
set_option maxHeartbeats 4000000
namespace Go.Proofs.Mth
open Go Go.Pv Go.Proofs Go.Shelf
/-- What is known of a small right tree. -/
structure May (t : List Nd) (j : Nat) : Prop where
  r : RT t j
  hj : j < 6
  len : t.length ≤ 80
  L : okL t
  S : okS t
  W : okW 1000 t
  U : okU t
  K : okK t
  F : ∀ n ∈ t, okF 900000 n
  p : ∀ i : Int, 0 ≤ i → i < (cnt t : Int) → ∀ x ∈ pathV t i, 0 ≤ x ∧ x < (t.length : Int)
theorem RT.okK {t : List Nd} {j : Nat} (h : RT t j) : okK t := fun i hi => by
  have h1 := lf_at hi
  have := h.at h1
  rw [show ((2 * i : Nat) : Int) = 2 * (i : Int) by omega] at this
  rcases this with h0 | h1 | h2
  · exact .inl (by show (rd t _).kind = 0; rw [h0]; rfl)
  · exact .inr h1.1
  · omega
theorem may_of {t : List Nd} (h : mayB t = true) : ∃ j, May t j := by
  simp only [mayB, Bool.and_eq_true] at h
  obtain ⟨hs, hr⟩ := h
  obtain ⟨j, r⟩ := right_iff.1 hr
  have hl := small_len hs
  have hlen := r.len
  have hj : j < 6 := by
    by_cases hj : j < 6
    · exact hj
    · have : 2 ^ 6 ≤ 2 ^ j := Nat.pow_le_pow_right (by decide) (by omega)
      omega
  have S := right_okS hr
  exact ⟨j, r, hj, hl, small_okL hs, S, right_okW hs hr, right_okU hs hr, r.okK, small_okF hs, fun i h1 h2 => pathV_in S h1 h2⟩
theorem addV_okL {t : List Nd} {j : Nat} (h : May t j) {name : Int} {pub : List UInt8} (hp : pub.length ≤ 1000000) : okL (addV t name pub).1 := by
  unfold addV
  split; exact h.L
  split; exact h.L
  split; exact h.L
  exact addO_okL h.r.len h.hj h.F hp
theorem upd_newL {t : List Nd} {i : Int} {pub : List UInt8} (hp : pub.length = 32) (ht : thereB t i = true) : updV t i pub = (newL t i.toNat (leafN (rd t (2 * i)).name pub), 0) := by
  have := (thereB_le ht).1
  unfold updV; rw [if_neg (by simp [hp]), if_pos ht, newL, Int.toNat_of_nonneg this]
theorem rem_newL {t : List Nd} {i : Int} (ht : thereB t i = true) : remO t i = newL t i.toNat blankN := by
  have := (thereB_le ht).1
  rw [newL, Int.toNat_of_nonneg this]; rfl
theorem updV_okL {t : List Nd} {j : Nat} (h : May t j) {i : Int} {pub : List UInt8} (hp : pub.length ≤ 1000000) : okL (updV t i pub).1 := by
  by_cases h1 : pub.length = 32
  · by_cases h2 : thereB t i = true
    · rw [upd_newL h1 h2]; exact newL_okL h.L (okF_leaf _ hp)
    · unfold updV; rw [if_neg (by simp [h1]), if_neg h2]; exact h.L
  · unfold updV; rw [if_pos (by simp [h1])]; exact h.L
theorem remV_okL {t : List Nd} {j : Nat} (h : May t j) {i : Int} : okL (remV t i).1 := by
  unfold remV
  split
  · rename_i h2
    rw [rem_newL h2]
    split; exact h.L
    exact take_okL _ (newL_okL h.L (okF_blank _))
  · exact h.L
instance does : CC Tryd.prog 7 (∀ (t : List Nd) (name : Int) (pub : List UInt8) (i : Int), C 7 [.agg [gT t, .int .i64 name, gB pub, .int .i64 i]] (.bool true)) := ⟨fun t name pub i => by
  refine ct Tryd.func7 fun {Z} H => ?_
  by_cases g1 : mayB t = true
  · by_cases g3 : pub.length ≤ 40
    · obtain ⟨j, h⟩ := may_of g1
      have hS := h.S
      have hW := h.W
      have hK := h.K
      have hp := h.p i
      have l1 := h.len
      have o1 := addV_okL h (name := name) (pub := pub) (by omega)
      have o2 := remV_okL h (i := i)
      have o3 := updV_okL h (i := i) (pub := pub) (by omega)
      repeat' first | refine go ?_ | (refine sp ?_ ?_ <;> intro h) | intro b
      all_goals first | (exfalso; simp at *; done) | (refine fin (vB ?_); simp) | trace_state
    · repeat' first | refine go ?_ | (refine sp ?_ ?_ <;> intro h) | intro b
      all_goals first | exact fin rfl | (exfalso; omega) | trace_state
  · have g1 : mayB t = false := by simpa using g1
    repeat' first | refine go ?_ | (refine sp ?_ ?_ <;> intro h) | intro b
    all_goals first | exact fin rfl | trace_state⟩
end Go.Proofs.Mth
