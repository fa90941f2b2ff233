import Derived.Test.YtpipbkalkkagpaaDoorG12
set_option linter.unusedSectionVars false
/- Trees: a leaf that is added and removed again; changed twice. -/
set_option linter.unusedVariables false
set_option linter.unusedSimpArgs false
set_option maxRecDepth 100000
set_option maxHeartbeats 4000000
namespace Go.Proofs.Mth
open Go Go.Pv Go.Proofs Go.Shelf
theorem ext_rd {a b : List Nd} (hl : a.length = b.length) (h : ∀ x : Nat, x < a.length → rd a (x : Int) = rd b (x : Int)) : a = b := by
  refine List.ext_getElem? fun x => ?_
  by_cases hx : x < a.length
  · have h1 := rd_get (l := a) (i := (x : Int)) (by omega)
    have h2 := rd_get (l := b) (i := (x : Int)) (by omega)
    rw [Int.toNat_natCast] at h1 h2
    rw [h1, h2, h x hx]
  · rw [List.getElem?_eq_none (by omega), List.getElem?_eq_none (by omega)]
theorem there_of {t : List Nd} {j f : Nat} (hl : t.length = 2 * 2 ^ j - 1) (hf : f < 2 ^ j) (h : (rd t (2 * (f : Int))).kind = 1) : thereB t (f : Int) = true := by
  have := cnt_of hl
  unfold thereB; rw [decide_eq_true (by omega), decide_eq_true (by omega), decide_eq_true h]; rfl
theorem newL_twice {t : List Nd} {j i : Nat} {m n : Nd} (hj : j < 7) (hl : t.length = 2 * 2 ^ j - 1) (hi : i < 2 ^ j) : newL (newL t i m) i n = newL t i n := by
  refine ext_rd (by simp only [newL_len]) fun x hx => ?_
  rw [newL_len, newL_len] at hx
  have hl2 : (newL t i m).length = 2 * 2 ^ j - 1 := by rw [newL_len]; exact hl
  rw [rd_newL hj hl2 hi (by rw [newL_len]; exact hx), rd_newL hj hl hi hx]
  by_cases h1 : x = 2 * i
  · rw [if_pos h1, rd_newL hj hl hi hx, if_pos h1]
  · rw [if_neg h1]
    by_cases h2 : x % 2 = 1 ∧ loN x ≤ i ∧ i ≤ hiN x
    · rw [if_pos h2, rd_newL hj hl hi hx, if_neg h1, if_pos h2]
    · simp only [rd_newL hj hl hi hx, if_neg h1, if_neg h2]
/-- All that is asked of a tree to which a leaf was added. -/
theorem add_back {t : List Nd} {j : Nat} (h : May t j) {name : Int} {pa pb : List UInt8} (ha : pa.length = 32) (hb : pb.length = 32) (h0 : (addV t name pa).2.2 = 0) :
    okS (addV t name pa).1 ∧ okL (addV t name pa).1 ∧ (remV (addV t name pa).1 (addV t name pa).2.1).2 = 0 ∧ rightB (remV (addV t name pa).1 (addV t name pa).2.1).1 = true ∧ othersB t (remV (addV t name pa).1 (addV t name pa).2.1).1 (-1) = true ∧
      okL (remV (addV t name pa).1 (addV t name pa).2.1).1 ∧
      (updV (addV t name pa).1 (addV t name pa).2.1 pa).2 = 0 ∧ (updV (addV t name pa).1 (addV t name pa).2.1 pb).2 = 0 ∧ okS (updV (addV t name pa).1 (addV t name pa).2.1 pa).1 ∧
      (updV (addV t name pa).1 (addV t name pa).2.1 pa).1.length ≤ 1000000 ∧
      (updV (updV (addV t name pa).1 (addV t name pa).2.1 pa).1 (addV t name pa).2.1 pb).2 = 0 ∧ (updV (updV (addV t name pa).1 (addV t name pa).2.1 pa).1 (addV t name pa).2.1 pb).1 = (updV (addV t name pa).1 (addV t name pa).2.1 pb).1 ∧
      okL (updV (addV t name pa).1 (addV t name pa).2.1 pb).1 ∧ 0 ≤ (addV t name pa).2.1 ∧ (addV t name pa).2.1 ≤ 1000000 := by
  rcases add_cases (t := t) (name := name) (pub := pa) with ⟨h1, h2⟩ | ⟨e, h1, h2⟩
  · exact absurd h0 h1
  · obtain ⟨q, hq, hg, hf, hqj, hr⟩ := add_right h.r h.hj h1 h2
    have hj := h.hj
    have hl := h.r.len
    have hax := addO_okL (name := name) hl hj h.F (pub := pa) (by omega)
    have hlf := rd_addO_leaf (k := freeN t) (name := name) (pub := pa) hq hg hf (by omega)
    rw [if_pos rfl] at hlf
    have hxl := hr.len
    have hbq := two_pow_bound (j := q) (by omega)
    rw [e]
    dsimp only
    have hlv : ∀ k : Nat, k ≠ freeN t → lfB (addO t name pa) k = lfB t k := fun k hk => lfB_addO hl hq hg hf (by omega) hk
    have hfree : lfB t (freeN t) = blankN := by
      by_cases hfj : freeN t < 2 ^ j
      · rw [lfB_in hl hfj]
        exact blank_of h.r hfj ((free_spec t).2 (by rw [cnt_of hl]; exact hfj))
      · exact lfB_out hl hfj
    generalize addO t name pa = x at *
    generalize freeN t = f at *
    have hth := there_of hxl hf (by rw [hlf]; rfl)
    -- the leaf that was there
    obtain ⟨y, hy, hyk⟩ := h.r.ne
    obtain ⟨hev, _⟩ := kind_leaf (h.r.wh y hy) hyk
    have ey : (y : Int) = 2 * ((y / 2 : Nat) : Int) := by omega
    rw [ey] at hyk
    have hqj2 : 2 ^ j ≤ 2 ^ q := Nat.pow_le_pow_right (by decide) (by omega)
    have hyf : y / 2 ≠ f := by
      intro hh
      rw [← hh, lfB_in hl (by omega)] at hfree
      rw [hfree] at hyk; exact absurd hyk (by decide)
    have hyx : (rd (newL x f blankN) (2 * ((y / 2 : Nat) : Int))).kind = 1 := by
      have := hlv (y / 2) hyf
      rw [lfB_in hxl (by omega), lfB_in hl (by omega)] at this
      rw [rd_newL_leaf hq hxl hf (by omega), if_neg hyf, this]; exact hyk
    have hu1 : ∀ {pub : List UInt8}, pub.length = 32 → updV x (f : Int) pub = (newL x f (leafN (rd x (2 * (f : Int))).name pub), 0) := fun hp => by
      rw [upd_newL hp hth, Int.toNat_natCast]
    have hl2 : (newL x f (leafN (rd x (2 * (f : Int))).name pa)).length = 2 * 2 ^ q - 1 := by rw [newL_len]; exact hxl
    have hlf2 := rd_newL_leaf (n := leafN (rd x (2 * (f : Int))).name pa) hq hxl hf (k := f) (by omega)
    rw [if_pos rfl] at hlf2
    have hth2 := there_of hl2 hf (by rw [hlf2]; rfl)
    have hu2 : updV (newL x f (leafN (rd x (2 * (f : Int))).name pa)) (f : Int) pb = (newL x f (leafN (rd x (2 * (f : Int))).name pb), 0) := by
      rw [upd_newL hb hth2, Int.toNat_natCast, hlf2, newL_twice hq hxl hf]; rfl
    rw [hu1 ha, hu1 hb, hu2]
    rcases rem_cases hr (by omega) (i := (f : Int)) with ⟨_, _, h5⟩ | ⟨n, p, l, hn, h1, h2, h3, e, h4, h5, h6, _⟩
    · exact absurd hyx (h5 hth f rfl (y / 2) (by omega))
    · obtain rfl : f = n := by omega
      rw [e]
      have hpj : 2 ^ p ≤ 2 ^ q := Nat.pow_le_pow_right (by decide) h3
      refine ⟨⟨q, by omega, hxl⟩, hax, rfl, rt_rightB (rem_right hr (by omega) h1 h3 h4 h5), others_of fun i _ => ?_, take_okL _ (newL_okL hax (okF_blank _)), rfl, rfl, ⟨q, by omega, hl2⟩, by rw [newL_len]; omega, rfl, rfl, newL_okL hax (okF_leaf _ (by omega)), by omega, by omega⟩
      by_cases hif : i = f
      · subst hif
        have htl := take_len (n := blankN) (i := i) hxl h3
        rw [hfree]
        by_cases hip : i < 2 ^ p
        · rw [lfB_in htl hip, show 2 * (i : Int) = ((2 * i : Nat) : Int) by omega, rd_takeN (by omega), show ((2 * i : Nat) : Int) = 2 * (i : Int) by omega, rd_newL_leaf hq hxl hf (by omega), if_pos rfl]
        · rw [lfB_out htl hip]
      · rw [lfB_take hr (by omega) h1 h3 h4 h6 hif]
        exact (hlv i hif).symm
instance back : CC Tryd.prog 9 (∀ (t : List Nd) (name : Int) (a b : UInt8), C 9 [.agg [gT t, .int .i64 name, g8 a, g8 b]] (.bool true)) := ⟨fun t name a b => by
  refine ct Tryd.func9 fun {Z} H => ?_
  by_cases g1 : mayB t = true
  · obtain ⟨j, h⟩ := may_of g1
    have hS := h.S
    have hW := h.W
    have l1 := h.len
    have hal := UInt8.toNat_lt a
    have hbl := UInt8.toNat_lt b
    have hha := half_len (a.toNat : Int)
    have hhb := half_len (b.toNat : Int)
    have k1 := half.out (a.toNat : Int) (by omega) H
    have k2 := half.out (b.toNat : Int) (by omega) H
    have oL := h.L
    generalize hpa : halfL (a.toNat : Int) = pa at *
    generalize hpb : halfL (b.toNat : Int) = pb at *
    by_cases hA : (addV t name pa).2.2 = 0
    · obtain ⟨b1, b2, b3, b4, b5, b6, b7, b8, b9, b10, b11, b12, b13, b14, b15⟩ := add_back h (pa := pa) (pb := pb) hha hhb hA
      have l2 := b2.1
      have l3 := b6.1
      have p1 := fun a b => pathV_in b1 (i := (addV t name pa).2.1) a b
      have p2 := fun a b => pathV_in b9 (i := (addV t name pa).2.1) a b
      have l4 : (updV (updV (addV t name pa).1 (addV t name pa).2.1 pa).1 (addV t name pa).2.1 pb).1.length ≤ 1000000 := by rw [b12]; have := b13.1; omega
      have b14' : okL (updV (updV (addV t name pa).1 (addV t name pa).2.1 pa).1 (addV t name pa).2.1 pb).1 := by rw [b12]; exact b13
      repeat' first | refine go ?_ | (refine sp ?_ ?_ <;> intro h) | intro b
      refine fin (vB ?_)
      rw [decide_eq_true b12]
    · repeat' first | refine go ?_ | (refine sp ?_ ?_ <;> intro h) | intro b
      all_goals first | exact fin rfl | trace_state
  · have g1 : mayB t = false := by simpa using g1
    repeat' first | refine go ?_ | (refine sp ?_ ?_ <;> intro h) | intro b
    all_goals first | exact fin rfl | trace_state⟩
end Go.Proofs.Mth
