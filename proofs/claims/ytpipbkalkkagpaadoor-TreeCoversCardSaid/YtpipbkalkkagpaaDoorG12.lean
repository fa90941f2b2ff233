import Derived.Test.YtpipbkalkkagpaaDoorG11
set_option linter.unusedVariables false
set_option linter.unusedSimpArgs false
set_option linter.unusedSectionVars false
section
/- Right trees: a leaf that is added; rows of nodes stay small. -/
set_option linter.unusedVariables false
set_option linter.unusedSimpArgs false
set_option maxRecDepth 100000
set_option maxHeartbeats 4000000
namespace Go.Proofs.Mth
open Go Go.Pv Go.Proofs
theorem rd_adds {i x : Int} : ∀ {l : List Int} {o : List Nd}, l.Nodup → (∀ y ∈ l, 0 ≤ y) → 0 ≤ x ∧ x < (o.length : Int) → rd (l.foldl (addS i) o) x = if x ∈ l then upS i (rd o x) else rd o x
  | [], o, _, _, _ => by simp
  | y :: l, o, hn, hl, hx => by
    rw [List.nodup_cons] at hn
    have hy := hl y (by simp)
    rw [List.foldl_cons, rd_adds hn.2 (fun z hz => hl z (by simp [hz])) (by rw [addS, len_set]; exact hx), addS, rd_set hx hy]
    by_cases h2 : x = y
    · subst h2; rw [if_neg hn.1, if_pos rfl, if_pos (by simp)]
    · rw [if_neg h2]
      by_cases h1 : x ∈ l
      · rw [if_pos h1, if_pos (by simp [h1])]
      · rw [if_neg h1, if_neg (by simp [h1, h2])]
theorem adds_len {i : Int} : ∀ {l : List Int} {o : List Nd}, (l.foldl (addS i) o).length = o.length
  | [], _ => rfl
  | y :: l, o => by rw [List.foldl_cons, adds_len, addS, len_set]
theorem rd_grow {t : List Nd} {x : Nat} (hx : x < (growT t).length) : rd (growT t) (x : Int) = if x < t.length then rd t (x : Int) else blankN := by
  rw [rd_nat, rd_nat, List.getD_eq_getElem?_getD, List.getD_eq_getElem?_getD]
  unfold growT at hx ⊢
  by_cases h : x < t.length
  · rw [if_pos h, List.getElem?_append_left h]
  · rw [if_neg h, List.getElem?_append_right (by omega), List.getElem?_replicate, if_pos (by rw [List.length_append, List.length_replicate] at hx; omega)]; rfl
theorem free_spec (t : List Nd) : (∀ q, q < freeN t → ¬ (lf t q).kind = 0) ∧ (freeN t < cnt t → (lf t (freeN t)).kind = 0) := by
  unfold freeN
  cases h : (List.range (cnt t)).find? fun i => decide ((lf t i).kind = 0) with
  | none =>
    have hn := List.find?_range_eq_none.1 h
    exact ⟨fun q hq => by have := hn q hq; simpa using this, fun hlt => absurd hlt (Nat.lt_irrefl _)⟩
  | some i =>
    obtain ⟨h1, h2, h3⟩ := List.find?_range_eq_some.1 h
    exact ⟨fun q hq => by have := h3 q hq; simpa using this, fun _ => by simpa using h1⟩
theorem addO_len (t : List Nd) (name : Int) (pub : List UInt8) : (addO t name pub).length = (growT t).length := by rw [addO, adds_len, len_set]
/-- Where a leaf is added: the new tree's power of 2. -/
theorem grow_at {t : List Nd} {j : Nat} (hl : t.length = 2 * 2 ^ j - 1) : ∃ q, (growT t).length = 2 * 2 ^ q - 1 ∧ freeN t < 2 ^ q ∧ (q = j ∧ freeN t < 2 ^ j ∨ q = j + 1 ∧ freeN t = 2 ^ j) := by
  have hc := cnt_of hl
  have hf := freeN_le t
  have h1 : 1 ≤ 2 ^ j := Nat.one_le_two_pow
  by_cases hg : freeN t = cnt t
  · have e : 2 ^ (j + 1) = 2 * 2 ^ j := Nat.pow_succ'
    exact ⟨j + 1, by rw [grow_len, if_pos hg]; omega, by omega, .inr ⟨rfl, by omega⟩⟩
  · exact ⟨j, by rw [grow_len, if_neg hg]; omega, by omega, .inl ⟨rfl, by omega⟩⟩
theorem rd_addO {t : List Nd} {q x : Nat} {name : Int} {pub : List UInt8} (hq : q < 7) (hl : (growT t).length = 2 * 2 ^ q - 1) (hf : freeN t < 2 ^ q) (hx : x < (growT t).length) :
    rd (addO t name pub) (x : Int) = if x = 2 * freeN t then leafN name pub else if x % 2 = 1 ∧ loN x ≤ freeN t ∧ freeN t ≤ hiN x then upS (freeN t : Nat) (rd (growT t) (x : Int)) else rd (growT t) (x : Int) := by
  have hp := pathV_in ⟨q, by omega, hl⟩ (i := (freeN t : Nat)) (by omega) (by rw [cnt_of hl]; omega)
  have hm := mem_pathV hq hl hf hx
  have hnd : (pathV (growT t) (freeN t : Nat)).Nodup := by
    rw [pathV_nat (by omega) hl hf]
    exact List.Pairwise.map _ (fun a b hab => by omega) (path_ok hq hf).1
  rw [addO, rd_adds hnd (fun y hy => (hp y hy).1) (by rw [len_set]; omega), rd_set (by omega) (by omega)]
  by_cases h1 : x = 2 * freeN t
  · rw [if_pos h1, if_pos (show (x : Int) = 2 * (freeN t : Nat) by omega), if_neg (fun h => by have := (hm.1 h).1; omega)]
  · rw [if_neg h1, if_neg (show ¬ (x : Int) = 2 * (freeN t : Nat) by omega)]
    by_cases h2 : x % 2 = 1 ∧ loN x ≤ freeN t ∧ freeN t ≤ hiN x
    · rw [if_pos h2, if_pos (hm.2 h2)]
    · rw [if_neg h2, if_neg (fun h => h2 (hm.1 h))]
theorem rd_addO_leaf {t : List Nd} {q k : Nat} {name : Int} {pub : List UInt8} (hq : q < 7) (hl : (growT t).length = 2 * 2 ^ q - 1) (hf : freeN t < 2 ^ q) (hk : 2 * k < (growT t).length) :
    rd (addO t name pub) (2 * (k : Int)) = if k = freeN t then leafN name pub else if 2 * k < t.length then rd t (2 * (k : Int)) else blankN := by
  rw [show 2 * (k : Int) = ((2 * k : Nat) : Int) by omega, rd_addO hq hl hf hk]
  by_cases h1 : k = freeN t
  · rw [if_pos (by omega), if_pos h1]
  · rw [if_neg (by omega), if_neg (by omega), if_neg h1, rd_grow hk]
theorem upS_blank (i : Int) : upS i blankN = blankN := rfl
theorem find_no {t : List Nd} {name : Int} (h : ¬ (findV t name).2 = true) : ∀ k, k < cnt t → (lf t k).kind = 1 → ¬ (lf t k).name = name := by
  unfold findV at h
  split at h
  · simp at h
  · rename_i hn
    intro k hk h1 h2
    have := List.find?_range_eq_none.1 hn k hk
    simp [isLf, h1, h2] at this
theorem add_right {t : List Nd} {j : Nat} {name : Int} {pub : List UInt8} (h : RT t j) (hj : j < 6) (hn : isNm name pub = true) (hh : ¬ (findV t name).2 = true) :
    ∃ q, q < 7 ∧ (growT t).length = 2 * 2 ^ q - 1 ∧ freeN t < 2 ^ q ∧ (q = j ∧ freeN t < 2 ^ j ∨ q = j + 1 ∧ freeN t = 2 ^ j) ∧ RT (addO t name pub) q := by
  have hl := h.len
  have hc := cnt_of hl
  obtain ⟨q, hg, hf, hq⟩ := grow_at hl
  have hq7 : q < 7 := by omega
  have hqj : 2 ^ j ≤ 2 ^ q := Nat.pow_le_pow_right (by decide) (by omega)
  have hfs := free_spec t
  have h2f : 2 * freeN t < (growT t).length := by omega
  have e0 := rd_addO_leaf (name := name) (pub := pub) hq7 hg hf h2f
  rw [if_pos rfl] at e0
  have hfb : 2 * freeN t < t.length → rd t (2 * (freeN t : Int)) = blankN := fun hlt => by
    have hk := hfs.2 (by omega)
    have hw := h.at hlt
    rw [show ((2 * freeN t : Nat) : Int) = 2 * (freeN t : Int) by omega] at hw
    have hk : (rd t (2 * (freeN t : Int))).kind = 0 := hk
    rcases hw with h0 | ⟨h1, _⟩ | ⟨h1, _⟩
    · exact h0
    · omega
    · omega
  -- leaves
  have hleaf : ∀ x : Nat, x < (growT t).length → (rd (addO t name pub) (x : Int)).kind = 1 → (x = 2 * freeN t ∧ (rd (addO t name pub) (x : Int)).name = name) ∨ (x ≠ 2 * freeN t ∧ x < t.length ∧ (rd t (x : Int)).kind = 1 ∧ (rd (addO t name pub) (x : Int)).name = (rd t (x : Int)).name) := fun x hx hk => by
    have hr := rd_addO (name := name) (pub := pub) hq7 hg hf hx
    by_cases h1 : x = 2 * freeN t
    · rw [if_pos h1] at hr; rw [hr]; exact .inl ⟨h1, rfl⟩
    · rw [if_neg h1, rd_grow hx] at hr
      right
      by_cases hlt : x < t.length
      · rw [if_pos hlt] at hr
        split at hr
        · rw [hr] at hk ⊢
          unfold upS at hk ⊢
          split at hk
          · rename_i h2; exact absurd (h2.symm.trans hk) (by decide)
          · rw [if_neg ‹_›]; exact ⟨h1, hlt, hk, rfl⟩
        · rw [hr] at hk ⊢; exact ⟨h1, hlt, hk, rfl⟩
      · rw [if_neg hlt, upS_blank, ite_self] at hr
        rw [hr] at hk; exact absurd hk (by decide)
  refine ⟨q, hq7, hg, hf, hq, h.of (by omega) hq7 (by rw [addO_len]; exact hg) (fun x hx => ?_) (fun x y hx hy h1 h2 h3 => ?_) ⟨2 * freeN t, by rw [addO_len]; exact h2f, by rw [show ((2 * freeN t : Nat) : Int) = 2 * (freeN t : Int) by omega, e0]; rfl⟩⟩
  · rw [addO_len] at hx
    have hr := rd_addO (name := name) (pub := pub) hq7 hg hf hx
    by_cases h1 : x = 2 * freeN t
    · rw [if_pos h1] at hr; rw [hr]
      exact .inr (.inl ⟨rfl, hn, .inl rfl, by omega, rfl⟩)
    · rw [if_neg h1, rd_grow hx] at hr
      by_cases hlt : x < t.length
      · rw [if_pos hlt] at hr
        rcases h.at hlt with h0 | ⟨a, b, c, d, e⟩ | ⟨a, b, c, d, e, f, g⟩
        · rw [h0, upS_blank, ite_self] at hr; exact .inl hr
        · have hne : upS (freeN t : Nat) (rd t (x : Int)) = rd t (x : Int) := by unfold upS; rw [if_neg (by omega)]
          rw [hne, ite_self] at hr; rw [hr]
          exact .inr (.inl ⟨a, b, c, d, e⟩)
        · -- a node over leaves
          have hk1 : ∀ k ∈ (rd t (x : Int)).un, (loN x : Int) ≤ k ∧ k ≤ hiN x ∧ (rd (addO t name pub) (2 * k)).kind = 1 := fun k hk => by
            obtain ⟨g1, g2, g3⟩ := g k hk
            obtain ⟨m, rfl, hm1, hm2, _, _⟩ := leaf_in (by omega) hl hlt g1 g2
            refine ⟨g1, g2, ?_⟩
            rw [rd_addO_leaf hq7 hg hf (by omega)]
            split
            · rfl
            · first | exact g3 | (rw [if_pos hm2]; exact g3)
          by_cases hin : x % 2 = 1 ∧ loN x ≤ freeN t ∧ freeN t ≤ hiN x
          · rw [if_pos hin] at hr
            have hu : upS (freeN t : Nat) (rd t (x : Int)) = { rd t (x : Int) with un := putV (freeN t : Nat) (rd t (x : Int)).un } := by unfold upS; rw [if_pos a]
            rw [hu] at hr
            rw [hr]
            refine .inr (.inr ⟨a, b, c, d, e, put_rise f fun hm => ?_, fun k hk => ?_⟩)
            · obtain ⟨g1, g2, g3⟩ := g _ hm
              obtain ⟨m, hme, hm1, hm2, _, _⟩ := leaf_in (by omega) hl hlt g1 g2
              have : freeN t = m := by omega
              rw [hfb (by omega)] at g3
              exact absurd g3 (by decide)
            · rcases mem_put.1 hk with rfl | hk
              · exact ⟨by omega, by omega, by rw [e0]; rfl⟩
              · exact hk1 k hk
          · rw [if_neg hin] at hr
            rw [hr]
            exact .inr (.inr ⟨a, b, c, d, e, f, hk1⟩)
      · rw [if_neg hlt, upS_blank, ite_self] at hr; exact .inl hr
  · rw [addO_len] at hx hy
    have key : ∀ z : Nat, z < t.length → (rd t (z : Int)).kind = 1 → ¬ (rd t (z : Int)).name = name := fun z hz hk he => by
      obtain ⟨hev, _⟩ := kind_leaf (h.wh z hz) hk
      have e2 : (z : Int) = 2 * ((z / 2 : Nat) : Int) := by omega
      rw [e2] at hk he
      exact find_no hh (z / 2) (by omega) hk he
    rcases hleaf x hx h1 with ⟨a1, a2⟩ | ⟨a0, a1, a2, a3⟩ <;> rcases hleaf y hy h2 with ⟨b1, b2⟩ | ⟨b0, b1, b2, b3⟩
    · omega
    · exact absurd (by rw [← b3, ← h3, a2]) (key y b1 b2)
    · exact absurd (by rw [← a3, h3, b2]) (key x a1 a2)
    · exact h.nm x y a1 b1 a2 b2 (by rw [← a3, ← b3]; exact h3)
/-! few bytes, few leaves -/
def okF (m : Nat) (n : Nd) : Prop := n.pub.length ≤ 1000000 ∧ n.un.length ≤ m ∧ n.hash.length ≤ 1000000
theorem okL_iff {t : List Nd} : okL t ↔ t.length ≤ 1000 ∧ ∀ n ∈ t, okF 1000000 n := Iff.rfl
theorem okF_set {m : Nat} {t : List Nd} {x : Int} {n : Nd} (h : ∀ n ∈ t, okF m n) (hn : okF m n) : ∀ y ∈ setN t x n, okF m y := fun y hy => by
  rcases List.mem_or_eq_of_mem_set hy with hy | rfl
  · exact h y hy
  · exact hn
theorem okF_blank (m : Nat) : okF m blankN := ⟨by simp [blankN], by simp [blankN], by simp [blankN]⟩
theorem okF_leaf (m : Nat) {name : Int} {pub : List UInt8} (h : pub.length ≤ 1000000) : okF m (leafN name pub) := ⟨h, by simp [leafN], by simp [leafN]⟩
theorem okF_blanks {m : Nat} : ∀ {l : List Int} {t : List Nd}, (∀ n ∈ t, okF m n) → ∀ n ∈ l.foldl (fun t x => setN t x blankN) t, okF m n
  | [], _, h => h
  | x :: l, t, h => by rw [List.foldl_cons]; exact okF_blanks (okF_set h (okF_blank m))
theorem okF_rd {m : Nat} {t : List Nd} (h : ∀ n ∈ t, okF m n) (x : Int) : okF m (rd t x) := by
  by_cases hx : x.toNat < t.length
  · exact h _ (List.mem_of_getElem? (show t[x.toNat]? = some (rd t x) by rw [rd, List.getD_eq_getElem?_getD, List.getElem?_eq_getElem hx]; rfl))
  · rw [rd, List.getD_eq_getElem?_getD, List.getElem?_eq_none (by omega)]
    exact ⟨Nat.zero_le _, Nat.zero_le _, Nat.zero_le _⟩
theorem okF_adds {i : Int} : ∀ {l : List Int} {m : Nat} {o : List Nd}, (∀ n ∈ o, okF m n) → ∀ n ∈ l.foldl (addS i) o, okF (m + l.length) n
  | [], _, _, h => h
  | x :: l, m, o, h => by
    rw [List.foldl_cons, List.length_cons, show m + (l.length + 1) = (m + 1) + l.length by omega]
    refine okF_adds (okF_set (fun n hn => ⟨(h n hn).1, by have := (h n hn).2.1; omega, (h n hn).2.2⟩) ?_)
    have := okF_rd h x
    unfold upS; split
    · exact ⟨this.1, by rw [put_len]; have := this.2.1; omega, this.2.2⟩
    · exact ⟨this.1, by have := this.2.1; omega, this.2.2⟩
theorem addO_okL {t : List Nd} {j : Nat} {name : Int} {pub : List UInt8} (hl : t.length = 2 * 2 ^ j - 1) (hj : j < 6) (h : ∀ n ∈ t, okF 900000 n) (hp : pub.length ≤ 1000000) : okL (addO t name pub) := by
  obtain ⟨q, hg, hf, hq⟩ := grow_at hl
  have hqq : 2 ^ q ≤ 2 ^ 6 := Nat.pow_le_pow_right (by decide) (by omega)
  refine ⟨by rw [addO_len]; omega, fun n hn => ?_⟩
  have hpl := pathV_len (growT t) (freeN t : Nat)
  have h0 : ∀ n ∈ growT t, okF 900000 n := fun n hn => by
    rcases List.mem_append.1 hn with hn | hn
    · exact h n hn
    · rw [List.eq_of_mem_replicate hn]; exact okF_blank _
  have := okF_adds (okF_set (x := 2 * (freeN t : Nat)) h0 (okF_leaf _ (name := name) hp)) n hn
  exact ⟨this.1, by have := this.2.1; omega, this.2.2⟩
theorem newL_okL {t : List Nd} {i : Nat} {n : Nd} (h : okL t) (hn : okF 1000000 n) : okL (newL t i n) := by
  refine ⟨by rw [newL_len]; exact h.1, ?_⟩
  exact okF_set (okF_blanks h.2) hn
theorem take_okL {t : List Nd} (n : Nat) (h : okL t) : okL (t.take n) := ⟨by rw [List.length_take]; have := h.1; omega, fun m hm => h.2 m (List.mem_of_mem_take hm)⟩
theorem small_okF {t : List Nd} (h : smallB t 80 = true) : ∀ n ∈ t, okF 900000 n := by
  simp only [smallB, Bool.and_eq_true, decide_eq_true_iff, List.all_eq_true, okNd] at h
  exact fun n hn => by have := h.2 n hn; exact ⟨by omega, by omega, by omega⟩
end Go.Proofs.Mth
end
section
/- Trees: a leaf that is added, removed, changed, as the document says. -/
set_option linter.unusedVariables false
set_option linter.unusedSimpArgs false
set_option maxRecDepth 100000
set_option maxHeartbeats 4000000
namespace Go.Proofs.Mth
open Go Go.Pv Go.Proofs Go.Shelf
/-- What is known of a small right tree. -/
structure May (t : List Nd) (j : Nat) : Prop where
  r : RT t j
  hj : j < 6
  len : t.length ≤ 80
  L : okL t
  S : okS t
  W : okW 1000 t
  U : okU t
  K : okK t
  F : ∀ n ∈ t, okF 900000 n
  p : ∀ i : Int, 0 ≤ i → i < (cnt t : Int) → ∀ x ∈ pathV t i, 0 ≤ x ∧ x < (t.length : Int)
theorem RT.okK {t : List Nd} {j : Nat} (h : RT t j) : okK t := fun i hi => by
  have h1 := lf_at hi
  have := h.at h1
  rw [show ((2 * i : Nat) : Int) = 2 * (i : Int) by omega] at this
  rcases this with h0 | h1 | h2
  · exact .inl (by show (rd t _).kind = 0; rw [h0]; rfl)
  · exact .inr h1.1
  · omega
theorem may_of {t : List Nd} (h : mayB t = true) : ∃ j, May t j := by
  simp only [mayB, Bool.and_eq_true] at h
  obtain ⟨hs, hr⟩ := h
  obtain ⟨j, r⟩ := right_iff.1 hr
  have hl := small_len hs
  have hlen := r.len
  have hj : j < 6 := by
    by_cases hj : j < 6
    · exact hj
    · have : 2 ^ 6 ≤ 2 ^ j := Nat.pow_le_pow_right (by decide) (by omega)
      omega
  have S := right_okS hr
  exact ⟨j, r, hj, hl, small_okL hs, S, right_okW hs hr, right_okU hs hr, r.okK, small_okF hs, fun i h1 h2 => pathV_in S h1 h2⟩
theorem addV_okL {t : List Nd} {j : Nat} (h : May t j) {name : Int} {pub : List UInt8} (hp : pub.length ≤ 1000000) : okL (addV t name pub).1 := by
  unfold addV
  split; exact h.L
  split; exact h.L
  split; exact h.L
  exact addO_okL h.r.len h.hj h.F hp
theorem upd_newL {t : List Nd} {i : Int} {pub : List UInt8} (hp : pub.length = 32) (ht : thereB t i = true) : updV t i pub = (newL t i.toNat (leafN (rd t (2 * i)).name pub), 0) := by
  have := (thereB_le ht).1
  unfold updV; rw [if_neg (by simp [hp]), if_pos ht, newL, Int.toNat_of_nonneg this]
theorem rem_newL {t : List Nd} {i : Int} (ht : thereB t i = true) : remO t i = newL t i.toNat blankN := by
  have := (thereB_le ht).1
  rw [newL, Int.toNat_of_nonneg this]; rfl
theorem updV_okL {t : List Nd} {j : Nat} (h : May t j) {i : Int} {pub : List UInt8} (hp : pub.length ≤ 1000000) : okL (updV t i pub).1 := by
  by_cases h1 : pub.length = 32
  · by_cases h2 : thereB t i = true
    · rw [upd_newL h1 h2]; exact newL_okL h.L (okF_leaf _ hp)
    · unfold updV; rw [if_neg (by simp [h1]), if_neg h2]; exact h.L
  · unfold updV; rw [if_pos (by simp [h1])]; exact h.L
theorem remV_okL {t : List Nd} {j : Nat} (h : May t j) {i : Int} : okL (remV t i).1 := by
  unfold remV
  split
  · rename_i h2
    rw [rem_newL h2]
    split; exact h.L
    exact take_okL _ (newL_okL h.L (okF_blank _))
  · exact h.L
instance does : CC Tryd.prog 7 (∀ (t : List Nd) (name : Int) (pub : List UInt8) (i : Int), C 7 [.agg [gT t, .int .i64 name, gB pub, .int .i64 i]] (.bool true)) := ⟨fun t name pub i => by
  refine ct Tryd.func7 fun {Z} H => ?_
  by_cases g1 : mayB t = true
  · by_cases g3 : pub.length ≤ 40
    · obtain ⟨j, h⟩ := may_of g1
      have hS := h.S
      have hW := h.W
      have hK := h.K
      have hp := h.p i
      have l1 := h.len
      have o1 := addV_okL h (name := name) (pub := pub) (by omega)
      have o2 := remV_okL h (i := i)
      have o3 := updV_okL h (i := i) (pub := pub) (by omega)
      repeat' first | refine go ?_ | (refine sp ?_ ?_ <;> intro h) | intro b
      all_goals first | (exfalso; simp at *; done) | (refine fin (vB ?_); simp) | trace_state
    · repeat' first | refine go ?_ | (refine sp ?_ ?_ <;> intro h) | intro b
      all_goals first | exact fin rfl | (exfalso; omega) | trace_state
  · have g1 : mayB t = false := by simpa using g1
    repeat' first | refine go ?_ | (refine sp ?_ ?_ <;> intro h) | intro b
    all_goals first | exact fin rfl | trace_state⟩
end Go.Proofs.Mth
end
section
/- Right trees: what adding, changing, removing a leaf comes to; other leaves; names that are found. -/
set_option linter.unusedVariables false
set_option linter.unusedSimpArgs false
set_option maxRecDepth 100000
set_option maxHeartbeats 4000000
namespace Go.Proofs.Mth
open Go Go.Pv Go.Proofs
theorem wid_spec {l : Int} {n : Nat} (hl : l = (n : Int)) : ∀ {j : Nat}, n < 2 ^ j → n < 2 ^ wid l j ∧ wid l j ≤ j ∧ (wid l j = 0 ∨ 2 ^ (wid l j - 1) ≤ n)
  | 0, h => by simpa [wid] using h
  | j + 1, h => by
    rw [wid]; split
    · have := wid_spec (l := l) hl (j := j) (by omega)
      exact ⟨this.1, by omega, this.2.2⟩
    · exact ⟨h, Nat.le_refl _, .inr (by rw [Nat.add_sub_cancel]; omega)⟩
theorem add_cases {t : List Nd} {name : Int} {pub : List UInt8} : ((addV t name pub).2.2 ≠ 0 ∧ (addV t name pub).1 = t) ∨ (addV t name pub = (addO t name pub, ((freeN t : Nat) : Int), 0) ∧ isNm name pub = true ∧ ¬ (findV t name).2 = true) := by
  unfold addV
  split
  · exact .inl ⟨by simp, rfl⟩
  · split
    · exact .inl ⟨by simp, rfl⟩
    · split
      · exact .inl ⟨by simp, rfl⟩
      · exact .inr ⟨rfl, by simpa using ‹¬ isNm name pub = false›, by assumption⟩
theorem there_nat {t : List Nd} {j : Nat} (hl : t.length = 2 * 2 ^ j - 1) {i : Int} (h : thereB t i = true) : ∃ n : Nat, i = n ∧ n < 2 ^ j ∧ (rd t (2 * (n : Int))).kind = 1 := by
  obtain ⟨h1, h2, h3⟩ := thereB_le h
  rw [cnt_of hl] at h2
  obtain ⟨n, rfl⟩ := Int.eq_ofNat_of_zero_le h1
  exact ⟨n, rfl, by omega, h3⟩
theorem upd_cases {t : List Nd} {j : Nat} (hl : t.length = 2 * 2 ^ j - 1) {i : Int} {pub : List UInt8} (hp : pub.length = 32) : ((updV t i pub).2 ≠ 0 ∧ (updV t i pub).1 = t ∧ ¬ thereB t i = true) ∨ ∃ n : Nat, i = n ∧ n < 2 ^ j ∧ (rd t (2 * (n : Int))).kind = 1 ∧ updV t i pub = (newL t n (leafN (rd t (2 * (n : Int))).name pub), 0) := by
  by_cases h : thereB t i = true
  · obtain ⟨n, rfl, h1, h2⟩ := there_nat hl h
    exact .inr ⟨n, rfl, h1, h2, upd_newL hp h⟩
  · unfold updV; rw [if_neg (by simp [hp]), if_neg h]
    exact .inl ⟨by simp, rfl, h⟩
theorem kind01 {t : List Nd} {j i k : Nat} (h : RT t j) (hj : j < 7) (hi : i < 2 ^ j) (hk : k < 2 ^ j) : (rd (newL t i blankN) (2 * (k : Int))).kind = 0 ∨ (rd (newL t i blankN) (2 * (k : Int))).kind = 1 := by
  have hl := h.len
  rw [rd_newL_leaf hj hl hi (by omega)]
  split
  · exact .inl rfl
  · exact h.okK k (by rw [cnt_of hl]; omega)
theorem rem_cases {t : List Nd} {j : Nat} (h : RT t j) (hj : j < 7) {i : Int} : ((remV t i).2 ≠ 0 ∧ (remV t i).1 = t ∧ (thereB t i = true → ∀ n : Nat, i = n → ∀ k : Nat, k < 2 ^ j → ¬ (rd (newL t n blankN) (2 * (k : Int))).kind = 1)) ∨
    ∃ n q l : Nat, i = n ∧ n < 2 ^ j ∧ (rd t (2 * (n : Int))).kind = 1 ∧ q ≤ j ∧ remV t i = ((newL t n blankN).take (2 * 2 ^ q - 1), 0) ∧ l < 2 ^ q ∧ (rd (newL t n blankN) (2 * (l : Int))).kind = 1 ∧ (∀ k : Nat, l < k → k < 2 ^ j → (rd (newL t n blankN) (2 * (k : Int))).kind = 0) ∧ (q = 0 ∨ 2 ^ (q - 1) ≤ l) := by
  have hl := h.len
  by_cases ht : thereB t i = true
  · obtain ⟨n, rfl, h1, h2⟩ := there_nat hl ht
    have hrem : remV t (n : Int) = if lastF (newL t n blankN) (cnt t) < 0 then (t, 13) else ((newL t n blankN).take (2 * 2 ^ wid (lastF (newL t n blankN) (cnt t)) (Nat.log2 (cnt t)) - 1), 0) := by rw [remV, if_pos ht, rem_newL ht, Int.toNat_natCast]
    rw [cnt_of hl, Nat.log2_two_pow] at hrem
    have hlt := lastF_lt (newL t n blankN) (2 ^ j)
    have hno : ∀ k : Nat, lastF (newL t n blankN) (2 ^ j) < (k : Int) → k < 2 ^ j → ¬ (rd (newL t n blankN) (2 * (k : Int))).kind = 1 := fun k hk hk2 => last_no (t := newL t n blankN) hk hk2
    by_cases hn : lastF (newL t n blankN) (2 ^ j) < 0
    · rw [hrem, if_pos hn]
      refine .inl ⟨by simp, rfl, fun _ m hm k hk => ?_⟩
      obtain rfl : n = m := by omega
      exact hno k (by omega) hk
    · rcases last_is (newL t n blankN) (2 ^ j) with hm | ⟨h0, hm⟩
      · omega
      · obtain ⟨l, hle⟩ := Int.eq_ofNat_of_zero_le h0
        rw [hle, Int.toNat_natCast] at hm
        obtain ⟨w1, w2, w3⟩ := wid_spec hle (j := j) (by omega)
        rw [if_neg hn] at hrem
        refine .inr ⟨n, _, l, rfl, h1, h2, w2, hrem, w1, hm, fun k hk1 hk2 => ?_, w3⟩
        exact (kind01 h hj h1 hk2).resolve_right (hno k (by omega) hk2)
  · unfold remV; rw [if_neg ht]
    exact .inl ⟨by simp, rfl, fun h => absurd h ht⟩
/-! other leaves -/
theorem others_of {a b : List Nd} {but : Int} (h : ∀ i : Nat, (i : Int) ≠ but → lfB a i = lfB b i) : othersB a b but = true := others_yes fun i _ => by
  by_cases e : (i : Int) = but
  · exact .inl e
  · exact .inr (h i e)
theorem lfB_in {t : List Nd} {j k : Nat} (hl : t.length = 2 * 2 ^ j - 1) (hk : k < 2 ^ j) : lfB t k = rd t (2 * (k : Int)) := by rw [lfB, if_pos (by rw [cnt_of hl]; exact hk)]; rfl
theorem lfB_out {t : List Nd} {j k : Nat} (hl : t.length = 2 * 2 ^ j - 1) (hk : ¬ k < 2 ^ j) : lfB t k = blankN := by rw [lfB, if_neg (by rw [cnt_of hl]; exact hk)]
theorem blank_of {t : List Nd} {j k : Nat} (h : RT t j) (hk : k < 2 ^ j) (h0 : (rd t (2 * (k : Int))).kind = 0) : rd t (2 * (k : Int)) = blankN := by
  have hl := h.len
  have := h.at (x := 2 * k) (by omega)
  rw [show ((2 * k : Nat) : Int) = 2 * (k : Int) by omega] at this
  rcases this with h1 | h1 | h1
  · exact h1
  · omega
  · omega
theorem lfB_newL {t : List Nd} {j i k : Nat} {n : Nd} (h : RT t j) (hj : j < 7) (hi : i < 2 ^ j) (hk : k ≠ i) : lfB (newL t i n) k = lfB t k := by
  have hl := h.len
  have hl2 : (newL t i n).length = 2 * 2 ^ j - 1 := by rw [newL_len]; exact hl
  by_cases hkj : k < 2 ^ j
  · rw [lfB_in hl2 hkj, lfB_in hl hkj, rd_newL_leaf hj hl hi (by omega), if_neg hk]
  · rw [lfB_out hl2 hkj, lfB_out hl hkj]
theorem take_len {t : List Nd} {j q i : Nat} {n : Nd} (hl : t.length = 2 * 2 ^ j - 1) (hq : q ≤ j) : ((newL t i n).take (2 * 2 ^ q - 1)).length = 2 * 2 ^ q - 1 := by
  have : 2 ^ q ≤ 2 ^ j := Nat.pow_le_pow_right (by decide) hq
  rw [List.length_take, newL_len]; omega
theorem lfB_take {t : List Nd} {j q i l k : Nat} (h : RT t j) (hj : j < 7) (hi : i < 2 ^ j) (hq : q ≤ j) (hl : l < 2 ^ q) (hz : ∀ k, l < k → k < 2 ^ j → (rd (newL t i blankN) (2 * (k : Int))).kind = 0) (hk : k ≠ i) : lfB ((newL t i blankN).take (2 * 2 ^ q - 1)) k = lfB t k := by
  have hlen := h.len
  have hqj : 2 ^ q ≤ 2 ^ j := Nat.pow_le_pow_right (by decide) hq
  have h1 := take_len (n := blankN) (i := i) hlen hq
  by_cases hkq : k < 2 ^ q
  · rw [lfB_in h1 hkq, lfB_in hlen (by omega), show 2 * (k : Int) = ((2 * k : Nat) : Int) by omega, rd_takeN (by omega), show ((2 * k : Nat) : Int) = 2 * (k : Int) by omega, rd_newL_leaf hj hlen hi (by omega), if_neg hk]
  · rw [lfB_out h1 hkq]
    by_cases hkj : k < 2 ^ j
    · rw [lfB_in hlen hkj]
      have := hz k (by omega) hkj
      rw [rd_newL_leaf hj hlen hi (by omega), if_neg hk] at this
      exact (blank_of h hkj this).symm
    · rw [lfB_out hlen hkj]
theorem lfB_addO {t : List Nd} {j q k : Nat} {name : Int} {pub : List UInt8} (hl : t.length = 2 * 2 ^ j - 1) (hq : q < 7) (hg : (growT t).length = 2 * 2 ^ q - 1) (hf : freeN t < 2 ^ q) (hjq : j ≤ q) (hk : k ≠ freeN t) : lfB (addO t name pub) k = lfB t k := by
  have hl2 : (addO t name pub).length = 2 * 2 ^ q - 1 := by rw [addO_len]; exact hg
  have hqj : 2 ^ j ≤ 2 ^ q := Nat.pow_le_pow_right (by decide) hjq
  by_cases hkq : k < 2 ^ q
  · rw [lfB_in hl2 hkq, rd_addO_leaf hq hg hf (by omega), if_neg hk]
    by_cases hkj : k < 2 ^ j
    · rw [if_pos (by omega), lfB_in hl hkj]
    · rw [if_neg (by omega), lfB_out hl hkj]
  · rw [lfB_out hl2 hkq, lfB_out hl (by omega)]
/-! names -/
theorem isLf_iff {t : List Nd} {name : Int} {q : Nat} : isLf t name q = true ↔ (rd t (2 * (q : Int))).kind = 1 ∧ (rd t (2 * (q : Int))).name = name := by
  unfold isLf; rw [Bool.and_eq_true, decide_eq_true_iff, decide_eq_true_iff]; exact Iff.rfl
theorem find_is {t : List Nd} {j k : Nat} {name : Int} (h : RT t j) (hk : k < 2 ^ j) (h1 : (rd t (2 * (k : Int))).kind = 1) (h2 : (rd t (2 * (k : Int))).name = name) : findV t name = ((k : Int), true) := by
  have hl := h.len
  have hc := cnt_of hl
  rw [findV, find_some (i := k) (by omega) (isLf_iff.2 ⟨h1, h2⟩) (fun q hq => ?_)]
  rw [Bool.eq_false_iff]; intro hb
  rw [isLf_iff] at hb
  rw [show 2 * (k : Int) = ((2 * k : Nat) : Int) by omega] at h1 h2
  rw [show 2 * (q : Int) = ((2 * q : Nat) : Int) by omega] at hb
  have := h.nm (2 * q) (2 * k) (by omega) (by omega) hb.1 h1 (by rw [hb.2, h2])
  omega
theorem find_not {t : List Nd} {name : Int} (h : ∀ k : Nat, k < cnt t → (rd t (2 * (k : Int))).kind = 1 → ¬ (rd t (2 * (k : Int))).name = name) : findV t name = (0, false) := by
  rw [findV, find_none fun q hq => ?_]
  rw [Bool.eq_false_iff]; intro hb
  rw [isLf_iff] at hb
  exact h q hq hb.1 hb.2
theorem rt_rightB {t : List Nd} {j : Nat} (h : RT t j) : rightB t = true := right_iff.2 ⟨j, h⟩
end Go.Proofs.Mth
end
