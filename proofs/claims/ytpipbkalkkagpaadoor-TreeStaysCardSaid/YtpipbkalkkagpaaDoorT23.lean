import Derived.Test.YtpipbkalkkagpaaDoorG12
set_option linter.unusedSectionVars false
/- Trees: they stay right; a name that is added is found, one that is removed isn't; all other leaves stay. -/
set_option linter.unusedVariables false
set_option linter.unusedSimpArgs false
set_option maxRecDepth 100000
set_option maxHeartbeats 4000000
namespace Go.Proofs.Mth
open Go Go.Pv Go.Proofs Go.Shelf
theorem others_refl (t : List Nd) (but : Int) : othersB t t but = true := others_of fun _ _ => rfl
theorem add_stays {t : List Nd} {j : Nat} (h : May t j) {name : Int} {pub : List UInt8} (hp : pub.length ≤ 1000000) :
    rightB (addV t name pub).1 = true ∧ othersB t (addV t name pub).1 (addV t name pub).2.1 = true ∧ ((addV t name pub).2.2 = 0 → findV (addV t name pub).1 name = ((addV t name pub).2.1, true)) ∧ (¬ (addV t name pub).2.2 = 0 → (addV t name pub).1 = t) := by
  rcases add_cases (t := t) (name := name) (pub := pub) with ⟨h1, h2⟩ | ⟨e, h1, h2⟩
  · rw [h2]; exact ⟨rt_rightB h.r, others_refl _ _, fun h0 => absurd h0 h1, fun _ => rfl⟩
  · obtain ⟨q, hq, hg, hf, hqj, hr⟩ := add_right h.r h.hj h1 h2
    have hl := rd_addO_leaf (k := freeN t) (name := name) (pub := pub) hq hg hf (by omega)
    rw [if_pos rfl] at hl
    rw [e]
    exact ⟨rt_rightB hr, others_of fun i hi => (lfB_addO h.r.len hq hg hf (by omega) (fun hh => hi (by rw [hh]))).symm, fun _ => find_is hr hf (by rw [hl]; rfl) (by rw [hl]; rfl), fun h0 => absurd rfl h0⟩
theorem upd_stays {t : List Nd} {j : Nat} (h : May t j) {i : Int} {pub : List UInt8} (hp : pub.length = 32) :
    rightB (updV t i pub).1 = true ∧ othersB t (updV t i pub).1 i = true ∧ (¬ (updV t i pub).2 = 0 → (updV t i pub).1 = t) := by
  have hj := h.hj
  rcases upd_cases h.r.len (i := i) hp with ⟨h1, h2, _⟩ | ⟨n, rfl, h1, h2, e⟩
  · rw [h2]; exact ⟨rt_rightB h.r, others_refl _ _, fun _ => rfl⟩
  · rw [e]
    exact ⟨rt_rightB (upd_right h.r (by omega) h1 h2 hp), others_of fun k hk => (lfB_newL h.r (by omega) h1 (by omega)).symm, fun h0 => absurd rfl h0⟩
theorem rem_stays {t : List Nd} {j : Nat} (h : May t j) {i : Int} :
    rightB (remV t i).1 = true ∧ othersB t (remV t i).1 i = true ∧ (¬ (remV t i).2 = 0 → (remV t i).1 = t) ∧ ((remV t i).2 = 0 → (findV (remV t i).1 (rd t (2 * i)).name).2 = false ∧ 0 ≤ i ∧ 2 * i < (t.length : Int)) := by
  have hj := h.hj
  have hl := h.r.len
  rcases rem_cases h.r (by omega) (i := i) with ⟨h1, h2, _⟩ | ⟨n, q, l, rfl, h1, h2, h3, e, h4, h5, h6, _⟩
  · rw [h2]; exact ⟨rt_rightB h.r, others_refl _ _, fun _ => rfl, fun h0 => absurd h0 h1⟩
  · rw [e]
    have hr := rem_right h.r (by omega) h1 h3 h4 h5
    have hqj : 2 ^ q ≤ 2 ^ j := Nat.pow_le_pow_right (by decide) h3
    refine ⟨rt_rightB hr, others_of fun k hk => (lfB_take h.r (by omega) h1 h3 h4 h6 (by omega)).symm, fun h0 => absurd rfl h0, fun _ => ⟨?_, by omega, by omega⟩⟩
    have htl := take_len (n := blankN) (i := n) hl h3
    rw [find_not fun k hk hk1 hk2 => ?_]
    rw [cnt_of htl] at hk
    have e2 : rd ((newL t n blankN).take (2 * 2 ^ q - 1)) (2 * (k : Int)) = rd (newL t n blankN) (2 * (k : Int)) := by
      rw [show 2 * (k : Int) = ((2 * k : Nat) : Int) by omega, rd_takeN (by omega)]
    rw [e2, rd_newL_leaf (by omega) hl h1 (by omega)] at hk1 hk2
    by_cases hkn : k = n
    · rw [if_pos hkn] at hk1; exact absurd hk1 (by decide)
    · rw [if_neg hkn] at hk1 hk2
      rw [show 2 * (k : Int) = ((2 * k : Nat) : Int) by omega] at hk1 hk2
      rw [show 2 * (n : Int) = ((2 * n : Nat) : Int) by omega] at h2 hk2
      have := h.r.nm (2 * k) (2 * n) (by omega) (by omega) hk1 h2 hk2
      omega
instance stays : CC Tryd.prog 8 (∀ (t : List Nd) (name i : Int) (b : UInt8), C 8 [.agg [gT t, .int .i64 name, .int .i64 i, g8 b]] (.bool true)) := ⟨fun t name i b => by
  refine ct Tryd.func8 fun {Z} H => ?_
  by_cases g1 : mayB t = true
  · obtain ⟨j, h⟩ := may_of g1
    have hS := h.S
    have hW := h.W
    have hK := h.K
    have hp := h.p i
    have l1 := h.len
    have hbl := UInt8.toNat_lt b
    have hh := half_len (b.toNat : Int)
    generalize hpe : halfL (b.toNat : Int) = pub at *
    have k1 := half.out (b.toNat : Int) (by omega) H
    rw [hpe] at k1
    have o1 := addV_okL h (name := name) (pub := pub) (by omega)
    have o2 := remV_okL h (i := i)
    have o3 := updV_okL h (i := i) (pub := pub) (by omega)
    have oL := h.L
    obtain ⟨a1, a2, a3, a4⟩ := add_stays h (name := name) (pub := pub) (by omega)
    obtain ⟨u1, u2, u3⟩ := upd_stays h (i := i) hh
    obtain ⟨r1, r2, r3, r4⟩ := rem_stays h (i := i)
    have m1 : (addV t name pub).1.length ≤ 1000000 := by have := o1.1; omega
    have m2 : (remV t i).1.length ≤ 1000000 := by have := o2.1; omega
    have m3 : (updV t i pub).1.length ≤ 1000000 := by have := o3.1; omega
    by_cases hA : (addV t name pub).2.2 = 0
    · have k2 := rFind.out (addV t name pub).1 name m1 H
      rw [a3 hA] at k2
      dsimp only at k2
      by_cases hF : (remV t i).2 = 0
      · obtain ⟨r5, r6, r7⟩ := r4 hF
        by_cases hG : (updV t i pub).2 = 0
        · repeat' first | refine go ?_ | (refine sp ?_ ?_ <;> intro h) | intro b
          all_goals first | (refine fin (vB ?_); rw [r5]; rfl) | trace_state
        · have u4 := u3 hG
          repeat' first | refine go ?_ | (refine sp ?_ ?_ <;> intro h) | intro b
          all_goals first | (refine fin (vB ?_); rw [r5]; rfl) | trace_state
      · have r5 := r3 hF
        by_cases hG : (updV t i pub).2 = 0
        · repeat' first | refine go ?_ | (refine sp ?_ ?_ <;> intro h) | intro b
          all_goals first | exact fin rfl | trace_state
        · have u4 := u3 hG
          repeat' first | refine go ?_ | (refine sp ?_ ?_ <;> intro h) | intro b
          all_goals first | exact fin rfl | trace_state
    · have a5 := a4 hA
      by_cases hF : (remV t i).2 = 0
      · obtain ⟨r5, r6, r7⟩ := r4 hF
        by_cases hG : (updV t i pub).2 = 0
        · repeat' first | refine go ?_ | (refine sp ?_ ?_ <;> intro h) | intro b
          all_goals first | (refine fin (vB ?_); rw [r5]; rfl) | trace_state
        · have u4 := u3 hG
          repeat' first | refine go ?_ | (refine sp ?_ ?_ <;> intro h) | intro b
          all_goals first | (refine fin (vB ?_); rw [r5]; rfl) | trace_state
      · have r5 := r3 hF
        by_cases hG : (updV t i pub).2 = 0
        · repeat' first | refine go ?_ | (refine sp ?_ ?_ <;> intro h) | intro b
          all_goals first | exact fin rfl | trace_state
        · have u4 := u3 hG
          repeat' first | refine go ?_ | (refine sp ?_ ?_ <;> intro h) | intro b
          all_goals first | exact fin rfl | trace_state
  · have g1 : mayB t = false := by simpa using g1
    repeat' first | refine go ?_ | (refine sp ?_ ?_ <;> intro h) | intro b
    all_goals first | exact fin rfl | trace_state⟩
end Go.Proofs.Mth
