import Derived.Test.YtpipbkalkkagpaaDoorG10
set_option linter.unusedVariables false
set_option linter.unusedSimpArgs false
set_option linter.unusedSectionVars false
section
/- Trees: the reference of a leaf that is added. -/
set_option linter.unusedVariables false
set_option linter.unusedSimpArgs false
set_option maxRecDepth 100000
set_option maxHeartbeats 4000000
namespace Go.Proofs.Mth
open Go Go.Pv Go.Proofs Go.Shelf
theorem free_is {t : List Nd} {i : Nat} (hi : i ≤ cnt t) (hq : ∀ q, q < i → ¬ (lf t q).kind = 0) (h : i < cnt t → (lf t i).kind = 0) : freeN t = i := by
  by_cases hc : i < cnt t
  · rw [freeN, find_some (i := i) hc (by simp [h hc]) (fun q hq' => by simp [hq q hq'])]; rfl
  · rw [freeN, find_none (fun q hq' => by simp [hq q (by omega)])]; show cnt t = i; omega
theorem grow_m (t : List Nd) {M : Nat} (h : M = if freeN t = cnt t then 2 * cnt t else 0) : t ++ List.replicate M blankN = growT t := by rw [growT, ← h]
instance rAdd : CC Tryd.prog 32 (∀ (t : List Nd) (name : Int) (pub : List UInt8), okS t → okW 1000 t → pub.length ≤ 1000000 → C 32 [gT t, .int .i64 name, gB pub] (.tup [gT (addV t name pub).1, .int .i64 (addV t name pub).2.1, .int .i64 (addV t name pub).2.2])) := ⟨fun t name pub h1 h2 h3 => by
  refine ct Tryd.func32 fun {Z} H => ?_
  have hS := h1
  obtain ⟨j, hj, hlen⟩ := h1
  have hb := two_pow_bound hj
  have hct := cnt_of hlen
  have hf := freeN_le t
  by_cases hn : isNm name pub = true
  · by_cases hh : (findV t name).2 = true
    · have e : addV t name pub = (t, 0, 12) := by unfold addV; rw [if_neg (by simp [hn]), if_pos hh]
      rw [e]
      repeat' first | refine go ?_ | (refine sp ?_ ?_ <;> intro h) | intro b
      exact fin rfl
    · repeat' first | refine go ?_ | (refine sp ?_ ?_ <;> intro h) | intro b
      refine W.loop (fun i : Nat => [(0, gT t), (1, .int .i64 name), (2, gB pub), (12, .int .i64 i)]) (fun _ => []) (fun i => i ≤ cnt t ∧ ∀ q, q < i → ¬ (lf t q).kind = 0) (fun i => cnt t - i) 0 ⟨Nat.zero_le _, fun q hq => absurd hq (Nat.not_lt_zero q)⟩ ?_
      rintro i env ⟨hi, hq⟩
      have hx : i < cnt t → 2 * i < t.length := lf_at
      by_cases hgo : i < cnt t ∧ ¬ (lf t i).kind = 0
      · obtain ⟨hg1, hg2⟩ := hgo
        have hx := hx hg1
        have hg2 : ¬ (rd t (2 * (i : Int))).kind = 0 := hg2
        repeat' first | refine go ?_ | (refine sp ?_ ?_ <;> intro h) | intro b
        exact lp (i + 1) ⟨by omega, fun q hq' => by by_cases e : q = i; (subst e; assumption); exact hq q (by omega)⟩ (by omega)
      · have hfi : freeN t = i := free_is hi hq (fun hc => by by_cases h0 : (lf t i).kind = 0; assumption; exact absurd ⟨hc, h0⟩ hgo)
        have hg2 : i < cnt t → (rd t (2 * (i : Int))).kind = 0 := fun hc => by by_cases h0 : (lf t i).kind = 0; exact h0; exact absurd ⟨hc, h0⟩ hgo
        by_cases h4 : (freeN t : Int) = 1024
        · have e : addV t name pub = (t, 0, 4) := by unfold addV; rw [if_neg (by simp [hn]), if_neg hh, if_pos h4]
          rw [e]
          rw [hfi] at h4
          repeat' first | refine go ?_ | (refine sp ?_ ?_ <;> intro h) | intro b
          all_goals first | (exact fin rfl) | trace_state
        · have e : addV t name pub = (addO t name pub, ((freeN t : Nat) : Int), 0) := by unfold addV; rw [if_neg (by simp [hn]), if_neg hh, if_neg h4]
          rw [e]
          obtain ⟨hG, hfG⟩ := grow_okS hS h4
          have hgl := grow_len t
          obtain ⟨M, hM⟩ : ∃ M, M = if freeN t = cnt t then 2 * cnt t else 0 := ⟨_, rfl⟩
          have hMc : (freeN t = cnt t ∧ M = 2 * cnt t) ∨ (¬ freeN t = cnt t ∧ M = 0) := by
            by_cases hz : freeN t = cnt t
            · exact .inl ⟨hz, hM.trans (if_pos hz)⟩
            · exact .inr ⟨hz, hM.trans (if_neg hz)⟩
          rw [← hM] at hgl
          have hgm := grow_m t hM
          rw [hfi] at h4
          clear hM
          have hW0 : okW 1000 (growT t) := fun n hn => by
            rcases List.mem_append.1 hn with hn | hn
            · exact h2 n hn
            · rw [List.eq_of_mem_replicate hn]; exact ⟨fun p q _ hq => by simp [blankN] at hq, by simp [blankN]⟩
          have hul : (growT t).length ≤ 10000 := by omega
          have hfu := lf_at hfG
          have hpin := pathV_in hG (i := (freeN t : Nat)) (by omega) (by omega)
          rw [show addO t name pub = (pathV (growT t) (freeN t : Nat)).foldl (addS (freeN t : Nat)) (setN (growT t) (2 * (freeN t : Nat)) (leafN name pub)) from rfl]
          clear e
          rw [hfi] at hfG hfu hpin hMc ⊢
          have hpl := pathV_len (growT t) (i : Int)
          repeat' first | refine go ?_ | (refine sp ?_ ?_ <;> intro h) | intro b
          all_goals
            refine W.loop (fun m : Nat => [(0, gT t), (1, .int .i64 name), (2, gB pub), (12, .int .i64 i), (13, .own 0 0 (t.length + m) (t.length + m))]) (fun m => [.buf 5 0 ((t ++ List.replicate m blankN).map gN)]) (fun m => m ≤ M) (fun m => M - m) 0 (Nat.zero_le _) ?_ (hL := by rw [List.replicate_zero, List.append_nil]; rfl)
            intro m env hm
            have hml : (t ++ List.replicate m blankN).length = t.length + m := by simp
            by_cases hmM : m < M
            · have hic : (i : Int) = (cnt t : Nat) := by omega
              repeat' first | refine go ?_ | (refine sp ?_ ?_ <;> intro h) | intro b
              refine X.apw (g := gN) (l := t ++ List.replicate m blankN) [blankN] ?_
              rw [show t ++ List.replicate m blankN ++ [blankN] = t ++ List.replicate (m + 1) blankN by rw [List.append_assoc, ← List.replicate_succ'], show (t ++ List.replicate (m + 1) blankN).length = t.length + (m + 1) by simp]
              repeat' first | refine go ?_ | (refine sp ?_ ?_ <;> intro h) | intro b
              exact lp (m + 1) (by omega) (by omega)
            · obtain rfl : m = M := by omega
              have hnot : ¬ ((i : Int) = (cnt t : Nat) ∧ (t.length : Int) + m < 2 * t.length + 1) := by omega
              rw [← hgl, hgm]
              generalize growT t = u at *
              have k1 := rpathO H (t := u) (id := 0) rfl (i := (i : Int)) (by omega) (by omega)
              repeat' first | refine go ?_ | (refine sp ?_ ?_ <;> intro h) | intro b
              all_goals
                refine X.sta (leafN name pub) ?_
                repeat' first | refine go ?_ | (refine sp ?_ ?_ <;> intro h) | intro b
                generalize hpe : pathV u (i : Int) = pa at *
                generalize hoe : setN u (2 * (i : Int)) (leafN name pub) = o0 at *
                have hol : o0.length = u.length := by rw [← hoe]; exact len_set
                have hoW : okW 1000 o0 := by rw [← hoe]; exact okW_set hW0 ⟨fun p q _ hq => by simp [leafN] at hq, by simp [leafN]⟩
                refine W.loop (fun s : Nat × List Nd => [(13, .own 0 0 u.length u.length), (12, .int .i64 i), (14, gI pa), (15, .int .i64 s.1)]) (fun s => [.buf 5 0 (s.2.map gN)]) (fun s => s.1 ≤ pa.length ∧ s.2.length = u.length ∧ okW (1000 + s.1) s.2 ∧ s.2 = (pa.take s.1).foldl (addS i) o0) (fun s => pa.length - s.1) (0, o0) ⟨Nat.zero_le _, hol, hoW, rfl⟩ ?_ (hL := by rw [← hoe]; rfl)
                rintro ⟨k, o⟩ env ⟨hk, hl, hW, ho⟩
                dsimp only at *
                by_cases hkl : k < pa.length
                · have hx := hpin _ (rd_mem (l := pa) (i := (k : Int)) (by omega))
                  have hS2 := (hW _ (rd_mem (l := o) (i := rd pa (k : Int)) (by omega))).2
                  have hst : (pa.take (k + 1)).foldl (addS i) o0 = addS i o (rd pa (k : Int)) := by rw [foldl_step hkl, ← ho]
                  have hW' := okW_add (i := (i : Int)) hW (x := rd pa (k : Int)) (by omega)
                  repeat' first | refine go ?_ | (refine sp ?_ ?_ <;> intro h) | intro b
                  · refine X.sta { rd o (rd pa (k : Int)) with un := putV (i : Int) (rd o (rd pa (k : Int))).un } ?_
                    have e : o.set (rd pa (k : Int)).toNat { rd o (rd pa (k : Int)) with un := putV (i : Int) (rd o (rd pa (k : Int))).un } = addS (i : Int) o (rd pa (k : Int)) := by
                      rw [addS, upS, if_pos (by assumption)]; rfl
                    rw [e]
                    repeat' first | refine go ?_ | (refine sp ?_ ?_ <;> intro h) | intro b
                    exact lp (k + 1, addS (i : Int) o (rd pa (k : Int))) ⟨by dsimp only; omega, by rw [← hl]; exact len_set, hW', hst.symm⟩ (by dsimp only; omega)
                  · have e : addS (i : Int) o (rd pa (k : Int)) = o := by
                      rw [addS, upS, if_neg (by assumption), setN]
                      exact List.set_self (rd_get (l := o) (i := rd pa (k : Int)) (by omega))
                    rw [e] at hst hW'
                    exact lp (k + 1, o) ⟨by dsimp only; omega, hl, hW', hst.symm⟩ (by dsimp only; omega)
                · repeat' first | refine go ?_ | (refine sp ?_ ?_ <;> intro h) | intro b
                  rw [List.take_of_length_le (by omega)] at ho
                  rw [← ho]
                  exact fin rfl
  · have e : addV t name pub = (t, 0, 1) := by unfold addV; rw [if_pos (by simpa using hn)]
    rw [e]
    repeat' first | refine go ?_ | (refine sp ?_ ?_ <;> intro h) | intro b
    exact fin rfl⟩
end Go.Proofs.Mth
end
section
/- Trees: what the laws use beside: the reference of Resolve, small right trees, rows of one byte, other leaves. -/
set_option linter.unusedVariables false
set_option linter.unusedSimpArgs false
set_option maxRecDepth 100000
set_option maxHeartbeats 4000000
namespace Go.Proofs.Mth
open Go Go.Pv Go.Proofs Go.Shelf
instance rResolve : CC Tryd.prog 23 (∀ (t : List Nd) (x : Int), okU t → t.length ≤ 2047 → Om 23 [gT t, .int .i64 x] 1 (resM 11 t x) (rslV t x).length ((rslV t x).map (V.int .i64))) :=
  ⟨fun t x h1 h2 => rResolve_at h1 h2 11 (Nat.le_refl _) x (fun h0 hx => by have := lev_le x.toNat (by omega); omega) (by omega)⟩
def mayB (t : List Nd) : Bool := smallB t 80 && rightB t
theorem small_okL {t : List Nd} (h : smallB t 80 = true) : okL t := by
  simp only [smallB, Bool.and_eq_true, decide_eq_true_iff, List.all_eq_true, okNd] at h
  exact ⟨by omega, fun n hn => by have := h.2 n hn; omega⟩
instance rSmall8 : CC Tryd.prog 12 (∀ (t : List Nd) (m : Int), 0 ≤ m ∧ m ≤ 1000000 → C 12 [gT t, .int .i64 m] (.bool (smallB t m.toNat))) := ⟨fun t m h1 => by
  refine ct Tryd.func12 fun {Z} H => ?_
  obtain ⟨m, rfl⟩ := Int.eq_ofNat_of_zero_le h1.1
  rw [Int.toNat_natCast]
  repeat' first | refine go ?_ | (refine sp ?_ ?_ <;> intro h) | intro b
  · refine fin (vB ?_)
    simp [smallB]; omega
  · refine W.loop (fun i : Nat => [(0, gT t), (1, .int .i64 m), (5, .int .i64 i)]) (fun _ => []) (fun i => i ≤ t.length ∧ ∀ q, q < i → okNd m (rd t (q : Int)) = true) (fun i => t.length - i) 0 ⟨Nat.zero_le _, fun q hq => absurd hq (Nat.not_lt_zero q)⟩ ?_
    rintro i env ⟨hi, hq⟩
    repeat' first | refine go ?_ | (refine sp ?_ ?_ <;> intro h) | intro b
    · refine fin (vB ?_); symm; rw [Bool.eq_false_iff]; intro hs
      have := smallB_rd hs (i := i) (by omega); simp [okNd] at this; omega
    · refine fin (vB ?_); symm; rw [Bool.eq_false_iff]; intro hs
      have := smallB_rd hs (i := i) (by omega); simp [okNd] at this; omega
    · refine fin (vB ?_); symm; rw [Bool.eq_false_iff]; intro hs
      have := smallB_rd hs (i := i) (by omega); simp [okNd] at this; omega
    · exact lp (i + 1) ⟨by omega, fun q hq' => by
        by_cases hqi : q = i
        · subst hqi; simp [okNd]; omega
        · exact hq q (by omega)⟩ (by omega)
    · refine fin (vB ?_)
      have := all_rd (p := okNd m) (l := t) fun q hq' => hq q (by omega)
      simp only [smallB, this, Bool.and_true]
      symm; rw [decide_eq_true_iff]; omega⟩
instance rMay80 : CC Tryd.prog 24 (∀ (t : List Nd), C 24 [gT t, .int .i64 80] (.bool (mayB t))) := ⟨fun t => by
  refine ct Tryd.func24 fun {Z} H => ?_
  by_cases h : smallB t 80 = true
  · have hL := small_okL h
    have k1 := rSmall8.out t 80 (by omega) H
    rw [show (80 : Int).toNat = 80 from rfl, h] at k1
    repeat' first | refine go ?_ | (refine sp ?_ ?_ <;> intro h) | intro b
    refine fin (vB ?_)
    rw [mayB, h]; rfl
  · have h : smallB t 80 = false := by simpa using h
    have k1 := rSmall8.out t 80 (by omega) H
    rw [show (80 : Int).toNat = 80 from rfl, h] at k1
    repeat' first | refine go ?_ | (refine sp ?_ ?_ <;> intro h) | intro b
    refine fin (vB ?_)
    rw [mayB, h]; rfl⟩
def halfL (n : Int) : List UInt8 := List.replicate 32 (UInt8.ofNat n.toNat)
theorem rep_set {b : UInt8} {k : Nat} (h : k < 32) : (List.replicate k b ++ List.replicate (32 - k) 0).set k b = List.replicate (k + 1) b ++ List.replicate (32 - (k + 1)) 0 := by
  rw [List.set_append_right _ _ (by simp), List.length_replicate, Nat.sub_self, show 32 - k = (32 - (k + 1)) + 1 by omega, List.replicate_succ, List.set_cons_zero, List.replicate_succ', List.append_assoc]; rfl
instance half : CC Tryd.prog 28 (∀ (n : Int), 0 ≤ n ∧ n < 256 → C 28 [.int .u8 n] (gB (halfL n))) := ⟨fun n h1 => by
  refine ct Tryd.func28 fun {Z} H => ?_
  obtain ⟨b, rfl⟩ : ∃ b : UInt8, n = (b.toNat : Int) := ⟨UInt8.ofNat n.toNat, by rw [UInt8.toNat_ofNat', Nat.mod_eq_of_lt (by omega)]; omega⟩
  have e : halfL (b.toNat : Int) = List.replicate 32 b := by unfold halfL; rw [Int.toNat_natCast]; simp
  rw [e]
  repeat' first | refine go ?_ | (refine sp ?_ ?_ <;> intro h) | intro b
  refine W.loop (fun k : Nat => [(0, g8 b), (3, .own 0 0 32 32), (4, .int .i64 k)]) (fun k => [.buf 1 0 ((List.replicate k b ++ List.replicate (32 - k) 0).map g8)]) (fun k => k ≤ 32) (fun k => 32 - k) 0 (Nat.zero_le _) ?_
  intro k env hk
  have hl : (List.replicate k b ++ List.replicate (32 - k) (0 : UInt8)).length = 32 := by simp; omega
  repeat' first | refine go ?_ | (refine sp ?_ ?_ <;> intro h) | intro b
  · rw [Int.toNat_natCast, rep_set (by omega)]
    exact lp (k + 1) (by omega) (by omega)
  · obtain rfl : k = 32 := by omega
    exact fin rfl⟩
/-- A leaf; where there is none: blank. -/
def lfB (t : List Nd) (i : Nat) : Nd := if i < cnt t then lf t i else blankN
def othersB (a b : List Nd) (but : Int) : Bool := (List.range (max (cnt a) (cnt b))).all fun i => decide ((i : Int) = but) || decide (lfB a i = lfB b i)
theorem sameW {Z : Nat → Go.Obj → Prop} (H : ZT Z) {a b : V} {x y : Nd} (ha : V.weak a = gN x) (hb : V.weak b = gN y) (hu : x.un.length ≤ 1000000) (L : List Go.Pv.Obj) : SE Tryd.prog Z 38 [a, b] L (.bool (decide (x = y))) L :=
  (rSameNode.out x y hu H L).argw rfl fun p h1 h2 G r hr => by
    match p, h1 with
    | 0, _ => show VR G (gN x) r; rw [← ha]; exact VR.weak hr
    | 1, _ => show VR G (gN y) r; rw [← hb]; exact VR.weak hr
abbrev zN : V := .agg [.int .i64 0, .int .i64 0, .sl true true [], .sl true true [], .sl true true []]
theorem others_no {a b : List Nd} {but : Int} {i : Nat} (hi : i < max (cnt a) (cnt b)) (h1 : ¬ (i : Int) = but) (h2 : ¬ lfB a i = lfB b i) : othersB a b but = false := by
  rw [Bool.eq_false_iff]; intro h
  rw [othersB, List.all_eq_true] at h
  have := h i (List.mem_range.2 hi)
  simp [h1, h2] at this
theorem others_yes {a b : List Nd} {but : Int} (h : ∀ i : Nat, i < max (cnt a) (cnt b) → (i : Int) = but ∨ lfB a i = lfB b i) : othersB a b but = true := by
  rw [othersB, List.all_eq_true]
  intro i hi
  have := h i (List.mem_range.1 hi)
  simpa using this
instance others : CC Tryd.prog 36 (∀ (a b : List Nd) (but : Int), okL a → b.length ≤ 1000000 → C 36 [gT a, gT b, .int .i64 but] (.bool (othersB a b but))) := ⟨fun a b but h1 h2 => by
  refine ct Tryd.func36 fun {Z} H => ?_
  have hal := h1.1
  repeat' first | refine go ?_ | (refine sp ?_ ?_ <;> intro h) | intro b
  refine W.loop (fun i : Nat => [(0, gT a), (1, gT b), (2, .int .i64 but), (7, .int .i64 i)]) (fun _ => []) (fun i => i ≤ max (cnt a) (cnt b) ∧ ∀ q : Nat, q < i → (q : Int) = but ∨ lfB a q = lfB b q) (fun i => max (cnt a) (cnt b) - i) 0 ⟨Nat.zero_le _, fun q hq => absurd hq (Nat.not_lt_zero q)⟩ ?_
  rintro i env ⟨hi, hq⟩
  have hxa : i < cnt a → 2 * i < a.length := lf_at
  have hxb : i < cnt b → 2 * i < b.length := lf_at
  have hla : i < cnt a → lfB a i = rd a (2 * (i : Int)) := fun h => by rw [lfB, if_pos h]; rfl
  have hlb : i < cnt b → lfB b i = rd b (2 * (i : Int)) := fun h => by rw [lfB, if_pos h]; rfl
  have hca : cnt a ≤ 1000000 := by unfold cnt; omega
  have hcb : cnt b ≤ 1000000 := by unfold cnt; omega
  have go1 : ∀ {x y : Nd}, lfB a i = x → lfB b i = y → i < max (cnt a) (cnt b) → ¬ (i : Int) = but → ¬ x = y → false = othersB a b but := fun h1 h2 h3 h4 h5 => (others_no (i := i) h3 h4 (by rw [h1, h2]; exact h5)).symm
  have go2 : ∀ {x y : Nd}, lfB a i = x → lfB b i = y → x = y → ∀ q : Nat, q < i + 1 → (q : Int) = but ∨ lfB a q = lfB b q := fun h1 h2 h3 => step_all hq (.inr (by rw [h1, h2, h3]))
  have go3 : (i : Int) = but → ∀ q : Nat, q < i + 1 → (q : Int) = but ∨ lfB a q = lfB b q := fun h => step_all hq (.inl h)
  have hna : ¬ i < cnt a → lfB a i = blankN := fun h => by rw [lfB, if_neg h]
  have hnb : ¬ i < cnt b → lfB b i = blankN := fun h => by rw [lfB, if_neg h]
  by_cases ha : i < cnt a
  · have hun := (h1.2 _ (rd_mem (l := a) (i := 2 * (i : Int)) (by have := hxa ha; omega))).2.1
    by_cases hb : i < cnt b
    · have k1 := sameW H (a := gN (rd a (2 * (i : Int)))) (b := gN (rd b (2 * (i : Int)))) (x := rd a (2 * (i : Int))) (y := rd b (2 * (i : Int))) rfl rfl hun
      repeat' first | refine go ?_ | (refine sp ?_ ?_ <;> intro h) | intro b
      · exact fin (vB (go1 (hla ha) (hlb hb) (by omega) (by assumption) (by assumption)))
      · exact lp (i + 1) ⟨by omega, go2 (hla ha) (hlb hb) (by assumption)⟩ (by omega)
      · exact lp (i + 1) ⟨by omega, go3 (by assumption)⟩ (by omega)
    · have k1 := sameW H (a := gN (rd a (2 * (i : Int)))) (b := zN) (x := rd a (2 * (i : Int))) (y := blankN) rfl rfl hun
      repeat' first | refine go ?_ | (refine sp ?_ ?_ <;> intro h) | intro b
      · exact fin (vB (go1 (hla ha) (hnb hb) (by omega) (by assumption) (by assumption)))
      · exact lp (i + 1) ⟨by omega, go2 (hla ha) (hnb hb) (by assumption)⟩ (by omega)
      · exact lp (i + 1) ⟨by omega, go3 (by assumption)⟩ (by omega)
      · exfalso; simp only [if_true] at h; split at h <;> omega
  · by_cases hb : i < cnt b
    · have k1 := sameW H (a := zN) (b := gN (rd b (2 * (i : Int)))) (x := blankN) (y := rd b (2 * (i : Int))) rfl rfl (by simp [blankN])
      repeat' first | refine go ?_ | (refine sp ?_ ?_ <;> intro h) | intro b
      · exact fin (vB (go1 (hna ha) (hlb hb) (by omega) (by assumption) (by assumption)))
      · exact lp (i + 1) ⟨by omega, go2 (hna ha) (hlb hb) (by assumption)⟩ (by omega)
      · exact lp (i + 1) ⟨by omega, go3 (by assumption)⟩ (by omega)
      · exfalso; simp only [if_true] at h; split at h <;> omega
    · repeat' first | refine go ?_ | (refine sp ?_ ?_ <;> intro h) | intro b
      exact fin (vB (others_yes fun q hq' => hq q (by omega)).symm)⟩
end Go.Proofs.Mth
end
section
/- Trees: the document's example. -/
set_option linter.unusedVariables false
set_option linter.unusedSimpArgs false
set_option maxRecDepth 100000
set_option maxHeartbeats 4000000
namespace Go.Proofs.Mth
open Go Go.Pv Go.Proofs Go.Shelf
def shL (i : Nat) : Nd := leafN (10 + i) (halfL i)
/-- The example's trees. -/
def shT : Nat → List Nd
  | 0 => []
  | 1 => [leafN 10 (halfL 1)]
  | 2 => [leafN 10 (halfL 1), blankN, shL 1]
  | 3 => [leafN 10 (halfL 1), blankN, shL 1, blankN, shL 2, blankN, blankN]
  | _ => [leafN 10 (halfL 1), blankN, shL 1, blankN, shL 2, blankN, shL 3]
def okWb (t : List Nd) : Bool := t.all fun n => decide (n.un = [])
theorem okW_of {t : List Nd} (h : okWb t = true) : okW 1000 t := fun n hn => by
  have := List.all_eq_true.1 h n hn
  rw [of_decide_eq_true this]
  exact ⟨fun p q _ hq => by simp at hq, by simp⟩
def okLb (t : List Nd) : Bool := decide (t.length ≤ 1000) && t.all fun n => decide (n.pub.length ≤ 1000000) && decide (n.un.length ≤ 1000000) && decide (n.hash.length ≤ 1000000)
theorem okL_of {t : List Nd} (h : okLb t = true) : okL t := by
  simp only [okLb, Bool.and_eq_true, decide_eq_true_iff, List.all_eq_true] at h
  exact ⟨h.1, fun n hn => by have := h.2 n hn; omega⟩
theorem shS : ∀ i, 1 ≤ i → i ≤ 4 → okS (shT i) ∧ okW 1000 (shT i) ∧ okL (shT i) := by
  intro i h1 h2
  have : i = 1 ∨ i = 2 ∨ i = 3 ∨ i = 4 := by omega
  rcases this with rfl | rfl | rfl | rfl
  · exact ⟨⟨0, by decide, rfl⟩, okW_of rfl, okL_of (by kernel_rfl)⟩
  · exact ⟨⟨1, by decide, rfl⟩, okW_of rfl, okL_of (by kernel_rfl)⟩
  · exact ⟨⟨2, by decide, rfl⟩, okW_of rfl, okL_of (by kernel_rfl)⟩
  · exact ⟨⟨2, by decide, rfl⟩, okW_of rfl, okL_of (by kernel_rfl)⟩
theorem shA : ∀ i : Nat, 1 ≤ i → i ≤ 3 → addV (shT i) (10 + (i : Int)) (halfL i) = (shT (i + 1), (i : Int), 0) := by
  intro i h1 h2
  have : i = 1 ∨ i = 2 ∨ i = 3 := by omega
  rcases this with rfl | rfl | rfl <;> exact of_decide_eq_true (by kernel_rfl)
theorem shR : remV (shT 4) 3 = (shT 3, 0) ∧ remV (shT 3) 2 = (shT 2, 0) ∧ findV (shT 4) 12 = (2, true) ∧ rightB (shT 4) = true ∧ rslV (shT 4) 3 = [0, 2, 4, 6] ∧ ¬ shT 4 = shT 3 ∧ newV 10 (halfL 1) = (shT 1, 0) :=
  ⟨of_decide_eq_true (by kernel_rfl), of_decide_eq_true (by kernel_rfl), of_decide_eq_true (by kernel_rfl), by kernel_rfl, of_decide_eq_true (by kernel_rfl), of_decide_eq_false (by kernel_rfl), of_decide_eq_true (by kernel_rfl)⟩
theorem half_len (n : Int) : (halfL n).length = 32 := by simp [halfL]
theorem okU_of {t : List Nd} (h : okWb t = true) : okU t := fun n hn => by
  have := List.all_eq_true.1 h n hn
  rw [of_decide_eq_true this]
  exact ⟨by simp, fun i hi => by simp at hi⟩
instance shown : CC Tryd.prog 11 (C 11 [] (.bool true)) := ⟨by
  refine ct Tryd.func11 fun {Z} H => ?_
  obtain ⟨r1, r2, r3, r4, r5, r6, r7⟩ := shR
  have hh1 := half_len 1
  have k1 := new.out 10 (halfL 1) (by omega) H
  rw [r7] at k1
  dsimp only at k1
  repeat' first | refine go ?_ | (refine sp ?_ ?_ <;> intro h) | intro b
  refine W.loop (fun i : Nat => [(1, gT (shT i)), (2, .int .i64 0), (3, .int .i64 i)]) (fun _ => []) (fun i => 1 ≤ i ∧ i ≤ 4) (fun i => 4 - i) 1 ⟨by decide, by decide⟩ ?_
  rintro i env ⟨h1, h2⟩
  by_cases h3 : i < 4
  · obtain ⟨s1, s2, s3⟩ := shS i h1 h2
    have hhi := half_len (i : Int)
    have k1 := add.out (shT i) (10 + (i : Int)) (halfL i) s1 s2 (by omega) H
    rw [shA i h1 (by omega)] at k1
    dsimp only at k1
    repeat' first | refine go ?_ | (refine sp ?_ ?_ <;> intro h) | intro b
    exact lp (i + 1) (by omega) (by omega)
  · obtain rfl : i = 4 := by omega
    obtain ⟨s1, s2, s3⟩ := shS 4 (by decide) (by decide)
    obtain ⟨q1, q2, q3⟩ := shS 3 (by decide) (by decide)
    have k1 := remove.out (shT 4) 3 s1 (fun a b => pathV_in s1 a b) H
    rw [r1] at k1
    dsimp only at k1
    have k2 := remove.out (shT 3) 2 q1 (fun a b => pathV_in q1 a b) H
    rw [r2] at k2
    dsimp only at k2
    have k3 := find.out (shT 4) 12 (by decide) H
    rw [r3] at k3
    dsimp only at k3
    have u1 : okU (shT 4) := okU_of rfl
    have u2 : (shT 4).length ≤ 2047 := by decide
    have l1 : ((shT 4).length : Int) = 7 := by decide
    have l2 : ((shT 3).length : Int) = 7 := by decide
    have l3 : ((shT 2).length : Int) = 3 := by decide
    have ki : SE Tryd.prog Z 21 [gI (rslV (shT 4) 3), .sl false true [.int .i64 0, .int .i64 2, .int .i64 4, .int .i64 6]] [] (.bool true) [] := by
      have := ints.out (rslV (shT 4) 3) [0, 2, 4, 6] (by rw [r5]; decide) H []
      rw [decide_eq_true r5] at this
      exact this.argw rfl (fun p h1 h2 G r hr => by
        match p, h1 with
        | 0, _ => exact hr
        | 1, _ => exact hr.slw)
    have kr := rightT.out (shT 4) s3 H
    rw [r4] at kr
    have ks := same.out (shT 4) (shT 3) s3 H
    rw [decide_eq_false r6] at ks
    repeat' first | refine go ?_ | (refine sp ?_ ?_ <;> intro h) | intro b
    refine X.call (ha := rfl) (SE.borrow ki borsI rfl) ?_
    repeat' first | refine go ?_ | (refine sp ?_ ?_ <;> intro h) | intro b
    refine fin (vB ?_)
    rw [decide_eq_false r6]; rfl⟩
end Go.Proofs.Mth
end
section
/- Trees: the first laws. -/
set_option linter.unusedVariables false
set_option linter.unusedSimpArgs false
set_option maxRecDepth 100000
set_option maxHeartbeats 4000000
namespace Go.Proofs.Mth
open Go Go.Pv Go.Proofs Go.Shelf
theorem small_len {t : List Nd} {m : Nat} (h : smallB t m = true) : t.length ≤ m := by
  simp only [smallB, Bool.and_eq_true, decide_eq_true_iff] at h; exact h.1
theorem right_un {t : List Nd} {j : Nat} (h : RT t j) {x : Nat} (hx : x < t.length) : (rd t (x : Int)).un.Pairwise (· < ·) ∧ ∀ u ∈ (rd t (x : Int)).un, (loN x : Int) ≤ u ∧ u ≤ hiN x ∧ (rd t (2 * u)).kind = 1 ∧ (rd t (x : Int)).kind = 2 ∧ x % 2 = 1 := by
  have hb := two_pow_bound h.hj
  have hl := h.len
  rcases whole_iff.1 (h.wh x hx) with h0 | ⟨_, _, _, _, h0⟩ | ⟨h2, _, _, ho, _, hu⟩
  · rw [h0]; simp [blankN]
  · rw [h0]; simp
  · rw [lv_lo (by omega), lv_hi (by omega), unB_iff] at hu
    exact ⟨hu.1, fun u hu' => by have := hu.2 u hu'; exact ⟨this.1, this.2.1, this.2.2, h2, by omega⟩⟩
theorem nd_at {t : List Nd} {n : Nd} (h : n ∈ t) : ∃ x : Nat, x < t.length ∧ rd t (x : Int) = n := by
  obtain ⟨x, hx, rfl⟩ := List.getElem_of_mem h
  exact ⟨x, hx, by rw [rd_nat, List.getD_eq_getElem?_getD, List.getElem?_eq_getElem hx]; rfl⟩
theorem right_okU {t : List Nd} (hs : smallB t 80 = true) (h : rightB t = true) : okU t := fun n hn => by
  obtain ⟨j, hr⟩ := right_iff.1 h
  have hl := small_len hs
  have hlen := hr.len
  have hj : j < 7 := by
    by_cases hj : j < 7
    · exact hj
    · have : 2 ^ 7 ≤ 2 ^ j := Nat.pow_le_pow_right (by decide) (by omega)
      omega
  obtain ⟨x, hx, rfl⟩ := nd_at hn
  have hu := (right_un hr hx).2
  have hb := below hj (x := x) (by omega)
  have hp := two_pow_bound hr.hj
  simp only [smallB, Bool.and_eq_true, decide_eq_true_iff, List.all_eq_true, okNd] at hs
  exact ⟨by have := hs.2 _ hn; omega, fun i hi => by have := hu i hi; omega⟩
theorem right_okW {t : List Nd} (hs : smallB t 80 = true) (h : rightB t = true) : okW 1000 t := fun n hn => by
  obtain ⟨j, hr⟩ := right_iff.1 h
  obtain ⟨x, hx, rfl⟩ := nd_at hn
  have hu := (right_un hr hx).1
  simp only [smallB, Bool.and_eq_true, decide_eq_true_iff, List.all_eq_true, okNd] at hs
  refine ⟨fun p q hpq hq => ?_, by have := hs.2 _ hn; omega⟩
  have hget : ∀ {l : List Int} q (h : q < l.length), rd l (q : Int) = l[q] := fun q h => by rw [rd_nat, List.getD_eq_getElem?_getD, List.getElem?_eq_getElem h]; rfl
  rw [hget p (by omega), hget q hq]
  exact Int.le_of_lt (List.pairwise_iff_getElem.1 hu p q (by omega) hq hpq)
theorem right_okS {t : List Nd} (h : rightB t = true) : okS t := by
  obtain ⟨j, hr⟩ := right_iff.1 h
  exact ⟨j, hr.hj, hr.len⟩
theorem new_okL {name : Int} {pub : List UInt8} (h : pub.length ≤ 40) : okL (newV name pub).1 := by
  unfold newV; split
  · exact ⟨by simp, fun n hn => by rw [List.mem_singleton.1 hn]; simp [leafN]; omega⟩
  · exact ⟨by simp, fun n hn => by simp at hn⟩
instance tells : CC Tryd.prog 3 (∀ (a b : List Nd) (name : Int) (pub : List UInt8) (x : Int), C 3 [.agg [gT a, gT b, .int .i64 name, gB pub, .int .i64 x]] (.bool true)) := ⟨fun a b name pub x => by
  refine ct Tryd.func3 fun {Z} H => ?_
  by_cases g1 : smallB a 80 = true
  · by_cases g2 : smallB b 80 = true
    · by_cases g3 : pub.length ≤ 40
      · have l1 := small_len g1
        have l2 := small_len g2
        have o1 := small_okL g1
        have o2 := small_okL g2
        have o4 := new_okL (name := name) g3
        by_cases hr : rightB a = true
        · have o3 := right_okU g1 hr
          have hrl2 : (rslV a x).length ≤ 1000000000 := Nat.le_trans (res_len o3 11 x) (by decide)
          repeat' first | refine go ?_ | (refine sp ?_ ?_ <;> intro h) | intro b
          all_goals first | (exfalso; simp at *; done) | (refine fin (vB ?_); simp) | trace_state
        · have hr : rightB a = false := by simpa using hr
          repeat' first | refine go ?_ | (refine sp ?_ ?_ <;> intro h) | intro b
          all_goals first | (exfalso; simp at *; done) | (refine fin (vB ?_); simp) | trace_state
      · repeat' first | refine go ?_ | (refine sp ?_ ?_ <;> intro h) | intro b
        all_goals first | exact fin rfl | (exfalso; omega) | trace_state
    · have g2 : smallB b 80 = false := by simpa using g2
      repeat' first | refine go ?_ | (refine sp ?_ ?_ <;> intro h) | intro b
      all_goals first | exact fin rfl | trace_state
  · have g1 : smallB a 80 = false := by simpa using g1
    repeat' first | refine go ?_ | (refine sp ?_ ?_ <;> intro h) | intro b
    all_goals first | exact fin rfl | trace_state⟩
end Go.Proofs.Mth
end
section
/- Right trees: they stay right when leaves are changed, removed, added; what the leaves are then. -/
set_option linter.unusedVariables false
set_option linter.unusedSimpArgs false
set_option maxRecDepth 100000
set_option maxHeartbeats 4000000
namespace Go.Proofs.Mth
open Go Go.Pv Go.Proofs
theorem kind_leaf {t : List Nd} {x : Nat} (h : wholeB t (x : Int) = true) (hk : (rd t (x : Int)).kind = 1) : x % 2 = 0 ∧ isNm (rd t (x : Int)).name (rd t (x : Int)).pub = true := by
  rcases whole_iff.1 h with h0 | h1 | h2
  · rw [h0] at hk; exact absurd hk (by decide)
  · exact ⟨by omega, h1.2.1⟩
  · omega
theorem isNm_iff {name : Int} {pub : List UInt8} : isNm name pub = true ↔ 0 ≤ name ∧ name < 65536 ∧ pub.length = 32 := by
  simp [isNm, and_assoc]
theorem leaf_in {j x : Nat} {t : List Nd} (hj : j < 7) (hl : t.length = 2 * 2 ^ j - 1) (hx : x < t.length) {u : Int} (h1 : (loN x : Int) ≤ u) (h2 : u ≤ hiN x) : ∃ k : Nat, u = k ∧ k < 2 ^ j ∧ 2 * k < t.length ∧ loN x ≤ k ∧ k ≤ hiN x := by
  have := below hj (x := x) (by omega)
  have hb := two_pow_bound (j := j) (by omega)
  exact ⟨u.toNat, by omega, by omega, by omega, by omega, by omega⟩
/-- A tree of which all that a right tree asks holds node by node. -/
theorem RT.of {t u : List Nd} {j q : Nat} (h : RT t j) (hj : j < 7) (hq : q < 7) (hlen : u.length = 2 * 2 ^ q - 1)
    (hn : ∀ x : Nat, x < u.length → rd u (x : Int) = blankN ∨ ((rd u (x : Int)).kind = 1 ∧ isNm (rd u (x : Int)).name (rd u (x : Int)).pub = true ∧ ((rd u (x : Int)).hash.length = 0 ∨ (rd u (x : Int)).hash.length = 32) ∧ x % 2 = 0 ∧ (rd u (x : Int)).un = []) ∨
      ((rd u (x : Int)).kind = 2 ∧ isNm (rd u (x : Int)).name (rd u (x : Int)).pub = true ∧ ((rd u (x : Int)).hash.length = 0 ∨ (rd u (x : Int)).hash.length = 32) ∧ x % 2 = 1 ∧ (rd u (x : Int)).name = 0 ∧
        (rd u (x : Int)).un.Pairwise (· < ·) ∧ ∀ i ∈ (rd u (x : Int)).un, (loN x : Int) ≤ i ∧ i ≤ hiN x ∧ (rd u (2 * i)).kind = 1))
    (hm : ∀ x y : Nat, x < u.length → y < u.length → (rd u (x : Int)).kind = 1 → (rd u (y : Int)).kind = 1 → (rd u (x : Int)).name = (rd u (y : Int)).name → x = y) (he : ∃ x : Nat, x < u.length ∧ (rd u (x : Int)).kind = 1) : RT u q where
  hj := by omega
  len := hlen
  wh x hx := by
    have hb := two_pow_bound (j := q) (by omega)
    rcases hn x hx with h0 | ⟨a, b, c, d, e⟩ | ⟨a, b, c, d, e, f⟩
    · exact whole_iff.2 (.inl h0)
    · exact whole_iff.2 (.inr (.inl ⟨a, b, c, by omega, e⟩))
    · refine whole_iff.2 (.inr (.inr ⟨a, b, c, by omega, e, ?_⟩))
      rw [lv_lo (by omega), lv_hi (by omega), unB_iff]
      exact f
  nm := hm
  ne := he
/-- A node of a right tree, seen so. -/
theorem RT.at {t : List Nd} {j : Nat} (h : RT t j) {x : Nat} (hx : x < t.length) : rd t (x : Int) = blankN ∨ ((rd t (x : Int)).kind = 1 ∧ isNm (rd t (x : Int)).name (rd t (x : Int)).pub = true ∧ ((rd t (x : Int)).hash.length = 0 ∨ (rd t (x : Int)).hash.length = 32) ∧ x % 2 = 0 ∧ (rd t (x : Int)).un = []) ∨
      ((rd t (x : Int)).kind = 2 ∧ isNm (rd t (x : Int)).name (rd t (x : Int)).pub = true ∧ ((rd t (x : Int)).hash.length = 0 ∨ (rd t (x : Int)).hash.length = 32) ∧ x % 2 = 1 ∧ (rd t (x : Int)).name = 0 ∧
        (rd t (x : Int)).un.Pairwise (· < ·) ∧ ∀ i ∈ (rd t (x : Int)).un, (loN x : Int) ≤ i ∧ i ≤ hiN x ∧ (rd t (2 * i)).kind = 1) := by
  have hb := two_pow_bound h.hj
  have hl := h.len
  rcases whole_iff.1 (h.wh x hx) with h0 | ⟨a, b, c, d, e⟩ | ⟨a, b, c, d, e, f⟩
  · exact .inl h0
  · exact .inr (.inl ⟨a, b, c, by omega, e⟩)
  · rw [lv_lo (by omega), lv_hi (by omega), unB_iff] at f
    exact .inr (.inr ⟨a, b, c, by omega, e, f⟩)
/-! a leaf that is changed, or goes -/
/-- The tree with a leaf's path blank, and another leaf at its place. -/
def newL (t : List Nd) (i : Nat) (n : Nd) : List Nd := setN (blankV t i) (2 * (i : Int)) n
theorem newL_len (t : List Nd) (i : Nat) (n : Nd) : (newL t i n).length = t.length := by simp [newL, setN, blankV_len]
theorem rd_newL {t : List Nd} {j i x : Nat} {n : Nd} (hj : j < 7) (hl : t.length = 2 * 2 ^ j - 1) (hi : i < 2 ^ j) (hx : x < t.length) : rd (newL t i n) (x : Int) = if x = 2 * i then n else if x % 2 = 1 ∧ loN x ≤ i ∧ i ≤ hiN x then blankN else rd t (x : Int) := by
  have hp := pathV_in ⟨j, by omega, hl⟩ (i := (i : Int)) (by omega) (by rw [cnt_of hl]; omega)
  rw [newL, rd_set (by rw [blankV_len]; omega) (by omega), rd_blankV hp (by omega)]
  have hm := mem_pathV hj hl hi hx
  by_cases h1 : x = 2 * i
  · rw [if_pos h1, if_pos (by omega)]
  · rw [if_neg h1, if_neg (by omega)]
    by_cases h2 : x % 2 = 1 ∧ loN x ≤ i ∧ i ≤ hiN x
    · rw [if_pos h2, if_pos (hm.2 h2)]
    · rw [if_neg h2, if_neg (fun h => h2 (hm.1 h))]
/-- .. its leaves. -/
theorem rd_newL_leaf {t : List Nd} {j i k : Nat} {n : Nd} (hj : j < 7) (hl : t.length = 2 * 2 ^ j - 1) (hi : i < 2 ^ j) (hk : 2 * k < t.length) : rd (newL t i n) (2 * (k : Int)) = if k = i then n else rd t (2 * (k : Int)) := by
  rw [show 2 * (k : Int) = ((2 * k : Nat) : Int) by omega, rd_newL hj hl hi hk]
  by_cases h1 : k = i
  · rw [if_pos (by omega), if_pos h1]
  · rw [if_neg (by omega), if_neg (by omega), if_neg h1]
theorem kind_newL {t : List Nd} {j i x : Nat} {n : Nd} (h : RT t j) (hj : j < 7) (hi : i < 2 ^ j) (hx : x < t.length) (hk : (rd (newL t i n) (x : Int)).kind = 1) : (x = 2 * i ∧ n.kind = 1 ∧ rd (newL t i n) (x : Int) = n) ∨ (x ≠ 2 * i ∧ (rd t (x : Int)).kind = 1 ∧ rd (newL t i n) (x : Int) = rd t (x : Int)) := by
  rw [rd_newL hj h.len hi hx] at hk ⊢
  by_cases h1 : x = 2 * i
  · rw [if_pos h1] at hk ⊢; exact .inl ⟨h1, hk, rfl⟩
  · rw [if_neg h1] at hk ⊢
    split at hk
    · exact absurd hk (by decide)
    · rw [if_neg ‹_›]; exact .inr ⟨h1, hk, rfl⟩
/-- The nodes of such a tree are right. -/
theorem newL_at {t : List Nd} {j i x : Nat} {n : Nd} (h : RT t j) (hj : j < 7) (hi : i < 2 ^ j) (hx : x < t.length) (hxi : x ≠ 2 * i) : rd (newL t i n) (x : Int) = blankN ∨ ((rd (newL t i n) (x : Int)).kind = 1 ∧ isNm (rd (newL t i n) (x : Int)).name (rd (newL t i n) (x : Int)).pub = true ∧ ((rd (newL t i n) (x : Int)).hash.length = 0 ∨ (rd (newL t i n) (x : Int)).hash.length = 32) ∧ x % 2 = 0 ∧ (rd (newL t i n) (x : Int)).un = []) ∨
      ((rd (newL t i n) (x : Int)).kind = 2 ∧ isNm (rd (newL t i n) (x : Int)).name (rd (newL t i n) (x : Int)).pub = true ∧ ((rd (newL t i n) (x : Int)).hash.length = 0 ∨ (rd (newL t i n) (x : Int)).hash.length = 32) ∧ x % 2 = 1 ∧ (rd (newL t i n) (x : Int)).name = 0 ∧
        (rd (newL t i n) (x : Int)).un.Pairwise (· < ·) ∧ ∀ k ∈ (rd (newL t i n) (x : Int)).un, (loN x : Int) ≤ k ∧ k ≤ hiN x ∧ (rd (newL t i n) (2 * k)).kind = 1) := by
  have hr := rd_newL (n := n) hj h.len hi hx
  rw [if_neg hxi] at hr
  by_cases h2 : x % 2 = 1 ∧ loN x ≤ i ∧ i ≤ hiN x
  · rw [if_pos h2] at hr; exact .inl hr
  · rw [if_neg h2] at hr
    rw [hr]
    rcases h.at hx with h0 | h1 | ⟨a, b, c, d, e, f, g⟩
    · exact .inl h0
    · exact .inr (.inl h1)
    · refine .inr (.inr ⟨a, b, c, d, e, f, fun k hk => ?_⟩)
      obtain ⟨g1, g2, g3⟩ := g k hk
      obtain ⟨m, rfl, hm1, hm2, hm3, hm4⟩ := leaf_in hj h.len hx g1 g2
      refine ⟨g1, g2, ?_⟩
      rw [rd_newL_leaf hj h.len hi hm2, if_neg (by rintro rfl; exact h2 ⟨d, hm3, hm4⟩)]
      exact g3
theorem upd_right {t : List Nd} {j i : Nat} {pub : List UInt8} (h : RT t j) (hj : j < 7) (hi : i < 2 ^ j) (hk : (rd t (2 * (i : Int))).kind = 1) (hp : pub.length = 32) : RT (newL t i (leafN (rd t (2 * (i : Int))).name pub)) j := by
  have hl := h.len
  have h2i : 2 * i < t.length := by omega
  have he : (2 * (i : Int)) = ((2 * i : Nat) : Int) := by omega
  have hnm := (kind_leaf (h.wh (2 * i) h2i) (by rw [← he]; exact hk)).2
  rw [← he, isNm_iff] at hnm
  have h0 := rd_newL_leaf (n := leafN (rd t (2 * (i : Int))).name pub) hj hl hi h2i
  rw [if_pos rfl] at h0
  have hnk : ∀ x : Nat, x < t.length → (rd (newL t i (leafN (rd t (2 * (i : Int))).name pub)) (x : Int)).kind = 1 → (rd t (x : Int)).kind = 1 ∧ (rd (newL t i (leafN (rd t (2 * (i : Int))).name pub)) (x : Int)).name = (rd t (x : Int)).name := fun x hx hkx => by
    rcases kind_newL h hj hi hx hkx with ⟨rfl, _, e⟩ | ⟨_, e1, e2⟩
    · rw [e, ← he]; exact ⟨hk, rfl⟩
    · rw [e2]; exact ⟨e1, rfl⟩
  refine h.of hj hj (by rw [newL_len]; exact hl) (fun x hx => ?_) (fun x y hx hy h1 h2 h3 => ?_) ⟨2 * i, by rw [newL_len]; exact h2i, by rw [← he, h0]; rfl⟩
  · rw [newL_len] at hx
    by_cases hxi : x = 2 * i
    · subst hxi
      rw [← he, h0]
      exact .inr (.inl ⟨rfl, isNm_iff.2 ⟨hnm.1, hnm.2.1, hp⟩, .inl rfl, by omega, rfl⟩)
    · exact newL_at h hj hi hx hxi
  · rw [newL_len] at hx hy
    obtain ⟨a1, a2⟩ := hnk x hx h1
    obtain ⟨b1, b2⟩ := hnk y hy h2
    exact h.nm x y hx hy a1 b1 (by rw [← a2, ← b2]; exact h3)
theorem rd_takeN {t : List Nd} {n x : Nat} (h : x < n) : rd (t.take n) (x : Int) = rd t (x : Int) := by
  rw [rd_nat, rd_nat, List.getD_eq_getElem?_getD, List.getD_eq_getElem?_getD, List.getElem?_take_of_lt h]
theorem rem_right {t : List Nd} {j i q k : Nat} (h : RT t j) (hj : j < 7) (hi : i < 2 ^ j) (hq : q ≤ j) (hk : k < 2 ^ q) (hkk : (rd (newL t i blankN) (2 * (k : Int))).kind = 1) : RT ((newL t i blankN).take (2 * 2 ^ q - 1)) q := by
  have hl := h.len
  have hqj : 2 ^ q ≤ 2 ^ j := Nat.pow_le_pow_right (by decide) hq
  have hlen : ((newL t i blankN).take (2 * 2 ^ q - 1)).length = 2 * 2 ^ q - 1 := by rw [List.length_take, newL_len]; omega
  refine h.of hj (by omega) hlen (fun x hx => ?_) (fun x y hx hy h1 h2 h3 => ?_) ⟨2 * k, by omega, by rw [rd_takeN (by omega), show ((2 * k : Nat) : Int) = 2 * (k : Int) by omega]; exact hkk⟩
  · rw [hlen] at hx
    rw [rd_takeN hx]
    by_cases hxi : x = 2 * i
    · have := rd_newL (n := blankN) hj hl hi (x := x) (by omega)
      rw [if_pos hxi] at this
      exact .inl this
    · rcases newL_at (n := blankN) h hj hi (x := x) (by omega) hxi with h0 | h1 | ⟨a, b, c, d, e, f, g⟩
      · exact .inl h0
      · exact .inr (.inl h1)
      · refine .inr (.inr ⟨a, b, c, d, e, f, fun m hm => ?_⟩)
        obtain ⟨g1, g2, g3⟩ := g m hm
        have hb := below (j := q) (by omega) hx
        obtain ⟨m, rfl⟩ := Int.eq_ofNat_of_zero_le (show 0 ≤ m by omega)
        refine ⟨g1, g2, ?_⟩
        rw [show 2 * (m : Int) = ((2 * m : Nat) : Int) by omega] at g3 ⊢
        rw [rd_takeN (by omega)]; exact g3
  · rw [hlen] at hx hy
    rw [rd_takeN hx, rd_takeN hy] at h3
    rw [rd_takeN hx] at h1
    rw [rd_takeN hy] at h2
    rcases kind_newL h hj hi (x := x) (by omega) h1 with ⟨_, e, _⟩ | ⟨_, a1, a2⟩
    · exact absurd e (by decide)
    · rcases kind_newL h hj hi (x := y) (by omega) h2 with ⟨_, e, _⟩ | ⟨_, b1, b2⟩
      · exact absurd e (by decide)
      · exact h.nm x y (by omega) (by omega) a1 b1 (by rw [← a2, ← b2]; exact h3)
end Go.Proofs.Mth
end
