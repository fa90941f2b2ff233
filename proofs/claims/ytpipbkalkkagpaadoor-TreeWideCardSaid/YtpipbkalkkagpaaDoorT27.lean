import Derived.Test.YtpipbkalkkagpaaDoorG12
set_option linter.unusedSectionVars false
/- Trees: room for as many leaves as a power of 2. -/
set_option linter.unusedVariables false
set_option linter.unusedSimpArgs false
set_option maxRecDepth 100000
set_option maxHeartbeats 4000000
namespace Go.Proofs.Mth
open Go Go.Pv Go.Proofs Go.Shelf
theorem rd_getI {l : List Int} {q : Nat} (h : q < l.length) : rd l (q : Int) = l[q] := by rw [rd_nat, List.getD_eq_getElem?_getD, List.getElem?_eq_getElem h]; rfl
theorem used_free {t : List Nd} (hK : okK t) : freeN t ≤ (usedL t).length ∧ (∀ q, q < freeN t → rd (usedL t) (q : Int) = q) ∧ (freeN t < (usedL t).length → ¬ rd (usedL t) (freeN t : Int) = (freeN t : Int)) := by
  have hf := freeN_le t
  obtain ⟨h1, h2⟩ := free_spec t
  have hR : ∃ R : List Int, usedL t = (List.range (freeN t)).map (fun (i : Nat) => (i : Int)) ++ R ∧ ∀ r ∈ R, (freeN t : Int) < r := by
    generalize freeN t = f at *
    refine ⟨((((List.range (cnt t - f)).map (f + ·)).filter fun i => decide ((lf t i).kind = 1)).map fun (i : Nat) => (i : Int)), ?_, fun r hr => ?_⟩
    · unfold usedL
      rw [show cnt t = f + (cnt t - f) by omega, List.range_add, List.filter_append, List.map_append]
      congr 2
      · refine List.filter_eq_self.2 fun q hq => ?_
        have hq := List.mem_range.1 hq
        exact decide_eq_true ((hK q (by omega)).resolve_left (h1 q hq))
      · rw [show f + (cnt t - f) - f = cnt t - f by omega]
    · obtain ⟨i, hi, rfl⟩ := List.mem_map.1 hr
      obtain ⟨hi, hk⟩ := List.mem_filter.1 hi
      obtain ⟨d, hd, rfl⟩ := List.mem_map.1 hi
      have hd := List.mem_range.1 hd
      by_cases h0 : d = 0
      · subst h0
        have := h2 (by omega)
        have hk := of_decide_eq_true hk
        rw [Nat.add_zero] at hk
        rw [this] at hk; exact absurd hk (by decide)
      · omega
  obtain ⟨R, e, hr⟩ := hR
  have hll : ((List.range (freeN t)).map (fun (i : Nat) => (i : Int))).length = freeN t := by simp
  refine ⟨by rw [e, List.length_append, hll]; omega, fun q hq => ?_, fun hlt => ?_⟩
  · rw [rd_nat, e, List.getD_eq_getElem?_getD, List.getElem?_append_left (by omega)]
    simp [hq]
  · have hR0 : 0 < R.length := by rw [e, List.length_append, hll] at hlt; omega
    rw [rd_nat, e, List.getD_eq_getElem?_getD, List.getElem?_append_right (by omega), hll, Nat.sub_self, List.getElem?_eq_getElem hR0]
    have := hr _ (List.getElem_mem hR0)
    simp only [Option.getD_some]
    omega
theorem rise_eq : ∀ {a b : List Int}, a.Pairwise (· < ·) → b.Pairwise (· < ·) → (∀ x, x ∈ a ↔ x ∈ b) → a = b
  | [], [], _, _, _ => rfl
  | [], y :: b, _, _, h => by have := (h y).2 (by simp); simp at this
  | x :: a, [], _, _, h => by have := (h x).1 (by simp); simp at this
  | x :: a, y :: b, ha, hb, h => by
    rw [List.pairwise_cons] at ha hb
    have hxy : x = y := by
      have h1 := (h x).1 (by simp)
      have h2 := (h y).2 (by simp)
      rcases List.mem_cons.1 h1 with e | h1
      · exact e
      · rcases List.mem_cons.1 h2 with e | h2
        · exact e.symm
        · have := hb.1 x h1; have := ha.1 y h2; omega
    subst hxy
    congr 1
    refine rise_eq ha.2 hb.2 fun z => ?_
    have := h z
    simp only [List.mem_cons] at this
    constructor
    · intro hz
      rcases this.1 (.inr hz) with rfl | hz'
      · have := ha.1 z hz; omega
      · exact hz'
    · intro hz
      rcases this.2 (.inr hz) with rfl | hz'
      · have := hb.1 z hz; omega
      · exact hz'
theorem rise_last {l : List Int} (h : l.Pairwise (· < ·)) {m : Int} (hm : m ∈ l) (hall : ∀ x ∈ l, x ≤ m) : rd l ((l.length : Int) - 1) = m := by
  have hpos := List.length_pos_of_mem hm
  obtain ⟨i, hi, e⟩ := List.getElem_of_mem hm
  rw [show (l.length : Int) - 1 = ((l.length - 1 : Nat) : Int) by omega, rd_getI (by omega)]
  by_cases hil : i = l.length - 1
  · subst hil; exact e
  · have := List.pairwise_iff_getElem.1 h i (l.length - 1) hi (by omega) (by omega)
    have := hall _ (List.getElem_mem (show l.length - 1 < l.length by omega))
    omega
/-- What TreeWide asks of the tree to which a leaf was added. -/
theorem wide_at {t : List Nd} {j : Nat} (h : May t j) {name : Int} {pub : List UInt8} (hp : pub.length = 32) (h0 : (addV t name pub).2.2 = 0) :
    (addV t name pub).2.1 = (freeN t : Nat) ∧ okS (addV t name pub).1 ∧ okL (addV t name pub).1 ∧ ((addV t name pub).1.length = t.length ∨ (freeN t = cnt t ∧ (addV t name pub).1.length = 2 * t.length + 1)) ∧
      0 < (usedL (addV t name pub).1).length ∧ ∃ p : Nat, p < 7 ∧ (remV (addV t name pub).1 (rd (usedL (addV t name pub).1) (((usedL (addV t name pub).1).length : Int) - 1))).2 = 0 ∧
        (remV (addV t name pub).1 (rd (usedL (addV t name pub).1) (((usedL (addV t name pub).1).length : Int) - 1))).1.length = 2 * 2 ^ p - 1 ∧
        (usedL (remV (addV t name pub).1 (rd (usedL (addV t name pub).1) (((usedL (addV t name pub).1).length : Int) - 1))).1).length + 1 = (usedL (addV t name pub).1).length ∧
        0 < (usedL (remV (addV t name pub).1 (rd (usedL (addV t name pub).1) (((usedL (addV t name pub).1).length : Int) - 1))).1).length ∧
        ∃ l : Nat, l < 2 ^ p ∧ (p = 0 ∨ 2 ^ (p - 1) ≤ l) ∧ rd (usedL (remV (addV t name pub).1 (rd (usedL (addV t name pub).1) (((usedL (addV t name pub).1).length : Int) - 1))).1) (((usedL (remV (addV t name pub).1 (rd (usedL (addV t name pub).1) (((usedL (addV t name pub).1).length : Int) - 1))).1).length : Int) - 1) = l := by
  rcases add_cases (t := t) (name := name) (pub := pub) with ⟨h1, h2⟩ | ⟨e, h1, h2⟩
  · exact absurd h0 h1
  · obtain ⟨q, hq, hg, hf, hqj, hr⟩ := add_right h.r h.hj h1 h2
    have hj := h.hj
    have hl := h.r.len
    have hax := addO_okL (name := name) hl hj h.F (pub := pub) (by omega)
    have hlf := rd_addO_leaf (k := freeN t) (name := name) (pub := pub) hq hg hf (by omega)
    rw [if_pos rfl] at hlf
    have hxl := hr.len
    have hct := cnt_of hl
    have hlv : ∀ k : Nat, k ≠ freeN t → lfB (addO t name pub) k = lfB t k := fun k hk => lfB_addO hl hq hg hf (by omega) hk
    have hfs := free_spec t
    rw [e]
    dsimp only
    -- two leaves
    obtain ⟨y, hy, hyk⟩ := h.r.ne
    obtain ⟨hev, _⟩ := kind_leaf (h.r.wh y hy) hyk
    have ey : (y : Int) = 2 * ((y / 2 : Nat) : Int) := by omega
    rw [ey] at hyk
    have hqj2 : 2 ^ j ≤ 2 ^ q := Nat.pow_le_pow_right (by decide) (by omega)
    have hyf : y / 2 ≠ freeN t := by
      intro hh
      have := hfs.2 (by omega)
      rw [← hh] at this
      have hyk' : (lf t (y / 2)).kind = 1 := hyk
      omega
    have hyx : (rd (addO t name pub) (2 * ((y / 2 : Nat) : Int))).kind = 1 := by
      have := hlv (y / 2) hyf
      rw [lfB_in hxl (by omega), lfB_in hl (by omega)] at this
      rw [this]; exact hyk
    have h2l := two_leaves hr hf (k := y / 2) (by omega) hyf (by rw [hlf]; rfl) hyx
    have hgl : (addO t name pub).length = t.length ∨ (freeN t = cnt t ∧ (addO t name pub).length = 2 * t.length + 1) := by
      rcases hqj with ⟨rfl, _⟩ | ⟨rfl, hh⟩
      · exact .inl (by omega)
      · have : 2 ^ (j + 1) = 2 * 2 ^ j := Nat.pow_succ'
        have := two_pow_bound (j := j) (by omega)
        exact .inr ⟨by omega, by omega⟩
    generalize addO t name pub = x at *
    refine ⟨rfl, ⟨q, by omega, hxl⟩, hax, hgl, by omega, ?_⟩
    have hnd := used_nd x
    have hmm := rd_mem (l := usedL x) (i := ((usedL x).length : Int) - 1) (by omega)
    have hmax : ∀ u ∈ usedL x, u ≤ rd (usedL x) (((usedL x).length : Int) - 1) := fun u hu => by
      obtain ⟨i, hi, rfl⟩ := List.getElem_of_mem hu
      rw [show ((usedL x).length : Int) - 1 = (((usedL x).length - 1 : Nat) : Int) by omega, rd_getI (by omega)]
      by_cases hil : i = (usedL x).length - 1
      · subst hil; exact Int.le_refl _
      · exact Int.le_of_lt (List.pairwise_iff_getElem.1 hnd i _ hi (by omega) (by omega))
    generalize rd (usedL x) (((usedL x).length : Int) - 1) = mi at *
    obtain ⟨m, rfl, hm1, hm2⟩ := mem_used.1 hmm
    rw [cnt_of hxl] at hm1
    have hth := clean_both.there_of' (pub := pub) hxl hm1 hm2
    -- another leaf
    have hother : ∃ k : Nat, k < 2 ^ q ∧ k ≠ m ∧ (rd x (2 * (k : Int))).kind = 1 := by
      by_cases hmf : m = freeN t
      · exact ⟨y / 2, by omega, by omega, hyx⟩
      · exact ⟨freeN t, hf, by omega, by rw [hlf]; rfl⟩
    obtain ⟨k, hk1, hk2, hk3⟩ := hother
    rcases rem_cases hr (by omega) (i := (m : Int)) with ⟨_, _, g3⟩ | ⟨n, p, l, hn, g1, g2, g3, g4, g5, g6, g7, g8⟩
    · exact absurd (by rw [rd_newL_leaf hq hxl hm1 (by omega), if_neg hk2]; exact hk3) (g3 hth m rfl k hk1)
    · obtain rfl : m = n := by omega
      have hpq : 2 ^ p ≤ 2 ^ q := Nat.pow_le_pow_right (by decide) g3
      have htl := take_len (n := blankN) (i := m) hxl g3
      have hmem : ∀ u, u ∈ usedL ((newL x m blankN).take (2 * 2 ^ p - 1)) ↔ u ∈ usedL x ∧ u ≠ (m : Int) := fun u => by
        rw [mem_used, mem_used, cnt_of htl, cnt_of hxl]
        have hrd : ∀ z : Nat, z < 2 ^ p → rd ((newL x m blankN).take (2 * 2 ^ p - 1)) (2 * (z : Int)) = rd (newL x m blankN) (2 * (z : Int)) := fun z hz => by
          rw [show 2 * (z : Int) = ((2 * z : Nat) : Int) by omega, rd_takeN (by omega)]
        constructor
        · rintro ⟨z, rfl, hz1, hz2⟩
          rw [hrd z hz1, rd_newL_leaf hq hxl hm1 (by omega)] at hz2
          by_cases hzm : z = m
          · rw [if_pos hzm] at hz2; exact absurd hz2 (by decide)
          · rw [if_neg hzm] at hz2
            exact ⟨⟨z, rfl, by omega, hz2⟩, by omega⟩
        · rintro ⟨⟨z, rfl, hz1, hz2⟩, hzm⟩
          have hzm : z ≠ m := by omega
          have hz3 : (rd (newL x m blankN) (2 * (z : Int))).kind = 1 := by rw [rd_newL_leaf hq hxl hm1 (by omega), if_neg hzm]; exact hz2
          have hzl : z < 2 ^ p := by
            by_cases hzl : l < z
            · have := g7 z hzl hz1; omega
            · omega
          exact ⟨z, rfl, hzl, by rw [hrd z hzl]; exact hz3⟩
      have hdrop : usedL ((newL x m blankN).take (2 * 2 ^ p - 1)) = (usedL x).filter (fun u => decide (u ≠ (m : Int))) := rise_eq (used_nd _) (List.Pairwise.filter _ hnd) fun u => by
        rw [hmem u, List.mem_filter, decide_eq_true_iff]
      have hlen : (usedL ((newL x m blankN).take (2 * 2 ^ p - 1))).length + 1 = (usedL x).length := by
        rw [hdrop]
        have key : ∀ {l : List Int}, l.Pairwise (· < ·) → (m : Int) ∈ l → (l.filter (fun u => decide (u ≠ (m : Int)))).length + 1 = l.length := by
          intro l
          induction l with
          | nil => intro _ h; simp at h
          | cons a l ih =>
            intro hpw hml
            rw [List.pairwise_cons] at hpw
            by_cases ham : a = (m : Int)
            · subst ham
              rw [List.filter_cons, if_neg (by simp), List.filter_eq_self.2 (fun u hu => by have := hpw.1 u hu; exact decide_eq_true (by omega))]; rfl
            · rw [List.filter_cons, if_pos (by simpa using ham), List.length_cons, List.length_cons, ih hpw.2 ((List.mem_cons.1 hml).resolve_left (fun e => ham e.symm))]
        exact key hnd hmm
      have hlm : l ≠ m := by
        rintro rfl
        rw [rd_newL_leaf hq hxl hm1 (by omega), if_pos rfl] at g6; exact absurd g6 (by decide)
      have hlx : (l : Int) ∈ usedL ((newL x m blankN).take (2 * 2 ^ p - 1)) := by
        refine (hmem _).2 ⟨mem_used.2 ⟨l, rfl, by rw [cnt_of hxl]; omega, ?_⟩, by omega⟩
        rw [rd_newL_leaf hq hxl hm1 (by omega), if_neg hlm] at g6; exact g6
      rw [g4]
      refine ⟨p, by omega, rfl, htl, hlen, List.length_pos_of_mem hlx, l, g5, g8, rise_last (used_nd _) hlx fun u hu => ?_⟩
      obtain ⟨⟨z, hz0, hz1, hz2⟩, hzm⟩ : _ ∧ _ := ⟨mem_used.1 ((hmem u).1 hu).1, ((hmem u).1 hu).2⟩
      subst hz0
      rw [cnt_of hxl] at hz1
      by_cases hzl : l < z
      · have := g7 z hzl hz1
        rw [rd_newL_leaf hq hxl hm1 (by omega), if_neg (by omega)] at this
        omega
      · omega
instance wide : CC Tryd.prog 6 (∀ (t : List Nd) (name : Int), C 6 [gT t, .int .i64 name] (.bool true)) := ⟨fun t name => by
  refine ct Tryd.func6 fun {Z} H => ?_
  by_cases g1 : mayB t = true
  · obtain ⟨j, h⟩ := may_of g1
    have hS := h.S
    have hW := h.W
    have l1 := h.len
    have hhb := half_len 1
    have oL := h.L
    generalize hpb : halfL 1 = pb at *
    have k1 := half.out 1 (by decide) H
    rw [hpb] at k1
    have hcb : cnt t ≤ 1000 := by unfold cnt; omega
    by_cases hA : (addV t name pb).2.2 = 0
    · obtain ⟨b1, b2, b3, b4, b5, p, b6, b7, b8, b9, b10, l, b11, b12, b13⟩ := wide_at h (pub := pb) hhb hA
      obtain ⟨f1, f2, f3⟩ := used_free h.K
      have hfl := freeN_le t
      have hul := used_len t
      have hux := used_len (addV t name pb).1
      have hcx : cnt (addV t name pb).1 ≤ 1000 := by have := b3.1; unfold cnt; omega
      have hmx := rd_mem (l := usedL (addV t name pb).1) (i := ((usedL (addV t name pb).1).length : Int) - 1) (by omega)
      have p1 := fun a b => pathV_in b2 (i := rd (usedL (addV t name pb).1) (((usedL (addV t name pb).1).length : Int) - 1)) a b
      have o2 := b3.1
      have hcy := cnt_of b8
      have hp7 : 2 ^ p ≤ 2 ^ 7 := Nat.pow_le_pow_right (by decide) (by omega)
      repeat' first | refine go ?_ | (refine sp ?_ ?_ <;> intro h) | intro b
      refine W.loop (fun k : Nat => [(0, gT t), (1, .int .i64 name), (5, .bool true), (6, gI (usedL t)), (7, .int .i64 (cnt t : Nat)), (8, gT (addV t name pb).1), (9, .int .i64 (addV t name pb).2.1), (10, .int .i64 (addV t name pb).2.2), (11, .int .i64 k)]) (fun _ => []) (fun k => k ≤ (usedL t).length ∧ ∀ q, q < k → rd (usedL t) (q : Int) = q) (fun k => (usedL t).length - k) 0 ⟨Nat.zero_le _, fun q hq => absurd hq (Nat.not_lt_zero q)⟩ ?_
      rintro k env ⟨hk, hkq⟩
      by_cases hgo : k < (usedL t).length ∧ rd (usedL t) (k : Int) = k
      · obtain ⟨g1, g2⟩ := hgo
        repeat' first | refine go ?_ | (refine sp ?_ ?_ <;> intro h) | intro b
        exact lp (k + 1) ⟨by omega, step_all hkq g2⟩ (by omega)
      · have hkf : k = freeN t := by
          rcases Nat.lt_trichotomy k (freeN t) with hlt | he | hgt
          · exact absurd ⟨by omega, f2 k hlt⟩ hgo
          · exact he
          · exact absurd (hkq _ hgt) (f3 (by omega))
        have hstop : ¬ (k < (usedL t).length) ∨ ¬ rd (usedL t) (k : Int) = (k : Int) := by
          by_cases h1 : k < (usedL t).length
          · exact .inr fun h2 => hgo ⟨h1, h2⟩
          · exact .inl h1
        have b1' : (addV t name pb).2.1 = (k : Int) := by rw [b1, hkf]
        have hlp : (p = 0 ∨ (2 : Int) ^ (p - 1) ≤ l) := b12.imp id fun h => by
          have : ((2 ^ (p - 1) : Nat) : Int) ≤ (l : Int) := Int.ofNat_le.2 h
          rwa [Int.natCast_pow] at this
        repeat' first | refine go ?_ | (refine sp ?_ ?_ <;> intro h) | intro b
        all_goals
          generalize hrm : remV (addV t name pb).1 (rd (usedL (addV t name pb).1) (((usedL (addV t name pb).1).length : Int) - 1)) = rm at *
          generalize hV : usedL rm.1 = vv at *
          generalize hWW : usedL (addV t name pb).1 = ww at *
          refine W.loop (fun w : Nat => [(5, .bool true), (12, gI ww), (13, gT rm.1), (14, .int .i64 rm.2), (15, gI vv), (16, .int .i64 ((2 ^ w : Nat) : Int))]) (fun _ => []) (fun w => w ≤ p) (fun w => p - w) 0 (Nat.zero_le _) ?_
          intro w env hw
          have hw7 : 2 ^ w ≤ 2 ^ p := Nat.pow_le_pow_right (by decide) hw
          have hwb : 2 ^ w ≤ 128 := Nat.le_trans hw7 (Nat.le_trans hp7 (by decide))
          clear hp7 hw7
          by_cases hwp : w < p
          · have hle : 2 ^ w ≤ 2 ^ (p - 1) := Nat.pow_le_pow_right (by decide) (by omega)
            have e1 := dbl w
            have hw1 : 1 ≤ 2 ^ w := Nat.one_le_two_pow
            repeat' first | refine go ?_ | (refine sp ?_ ?_ <;> intro h) | intro b
            exact lp (w + 1) (by omega) (by omega)
          · obtain rfl : w = p := by omega
            have hw1 : 1 ≤ 2 ^ w := Nat.one_le_two_pow
            repeat' first | refine go ?_ | (refine sp ?_ ?_ <;> intro h) | intro b
            all_goals first | (refine fin (vB ?_); exact decide_eq_true (by omega)) | (exfalso; omega) | trace_state
    · repeat' first | refine go ?_ | (refine sp ?_ ?_ <;> intro h) | intro b
      all_goals first | exact fin rfl | trace_state
  · have g1 : mayB t = false := by simpa using g1
    repeat' first | refine go ?_ | (refine sp ?_ ?_ <;> intro h) | intro b
    all_goals first | exact fin rfl | trace_state⟩
end Go.Proofs.Mth
