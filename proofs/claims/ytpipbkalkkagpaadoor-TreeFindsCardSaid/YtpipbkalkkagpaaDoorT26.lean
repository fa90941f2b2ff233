import Derived.Test.YtpipbkalkkagpaaDoorG12
set_option linter.unusedSectionVars false
/- Trees: each name is found at its leaf; no other one is. -/
set_option linter.unusedVariables false
set_option linter.unusedSimpArgs false
set_option maxRecDepth 100000
set_option maxHeartbeats 4000000
namespace Go.Proofs.Mth
open Go Go.Pv Go.Proofs Go.Shelf
/-- Is a name one of the first leaves'? -/
def thrB (t : List Nd) (name : Int) (i : Nat) : Bool := (List.range i).any (isLf t name)
theorem thr_find (t : List Nd) (name : Int) : (findV t name).2 = thrB t name (cnt t) := by
  unfold findV thrB
  cases h : (List.range (cnt t)).find? (isLf t name) with
  | none =>
    have hn := List.find?_eq_none.1 h
    symm; rw [Bool.eq_false_iff]; intro ha
    obtain ⟨q, h1, h2⟩ := List.any_eq_true.1 ha
    exact hn q h1 h2
  | some i =>
    symm
    exact List.any_eq_true.2 ⟨i, List.mem_of_find?_eq_some h, List.find?_some h⟩
theorem thr_step (t : List Nd) (name : Int) (i : Nat) : thrB t name (i + 1) = (thrB t name i || isLf t name i) := by
  unfold thrB; rw [List.range_succ, List.any_append]; simp
theorem one_right {name : Int} {pub : List UInt8} (h : isNm name pub = true) : RT [leafN name pub] 0 := by
  have h0 : rd [leafN name pub] ((0 : Nat) : Int) = leafN name pub := rfl
  refine ⟨by decide, rfl, fun x hx => ?_, fun x y hx hy _ _ _ => ?_, ⟨0, by simp, rfl⟩⟩
  · obtain rfl : x = 0 := by simpa using hx
    refine whole_iff.2 (.inr (.inl ?_))
    rw [h0]
    exact ⟨rfl, h, .inl rfl, rfl, rfl⟩
  · simp at hx hy; omega
instance finds : CC Tryd.prog 5 (∀ (t : List Nd) (name b : Int), 0 ≤ name ∧ name < 65536 → 0 ≤ b ∧ b < 256 → C 5 [gT t, .int .u16 name, .int .u8 b] (.bool true)) := ⟨fun t name b h1 h2 => by
  refine ct Tryd.func5 fun {Z} H => ?_
  by_cases g1 : mayB t = true
  · obtain ⟨j, h⟩ := may_of g1
    have l1 := h.len
    have hhb := half_len b
    have k1 := half.out b h2 H
    generalize hpb : halfL b = pb at *
    have hnm : isNm name pb = true := isNm_iff.2 ⟨h1.1, h1.2, hhb⟩
    have k2 := new.out name pb (by omega) H
    rw [show newV name pb = ([leafN name pb], 0) by unfold newV; rw [if_pos hnm]] at k2
    dsimp only at k2
    have r1 := one_right hnm
    have k3 := find.out [leafN name pb] name (by simp) H
    rw [show findV [leafN name pb] name = (0, true) from find_is (k := 0) r1 (by decide) rfl rfl] at k3
    dsimp only at k3
    have o1 : okL [leafN name pb] := ⟨by simp, fun n hn => by rw [List.mem_singleton.1 hn]; exact okF_leaf _ (by omega)⟩
    have r2 := rt_rightB r1
    have hl := h.r.len
    have hc := cnt_of hl
    have hth := thr_find t name
    repeat' first | refine go ?_ | (refine sp ?_ ?_ <;> intro h) | intro b
    refine W.loop (fun i : Nat => [(0, gT t), (1, .int .u16 name), (2, .int .u8 b), (7, .bool true), (8, .bool (thrB t name i)), (9, .int .i64 i)]) (fun _ => []) (fun i => i ≤ cnt t) (fun i => cnt t - i) 0 (Nat.zero_le _) ?_
    intro i env hi
    have hst := thr_step t name i
    by_cases hic : i < cnt t
    · have hx := lf_at hic
      by_cases hk : (rd t (2 * (i : Int))).kind = 1
      · have k1 := find.out t (rd t (2 * (i : Int))).name (by omega) H
        rw [find_is h.r (by omega) hk rfl] at k1
        dsimp only at k1
        repeat' first | refine go ?_ | (refine sp ?_ ?_ <;> intro h) | intro b
        · have hb : true = thrB t name (i + 1) := by rw [hst, ‹thrB t name i = true›]; rfl
          exact lp (i + 1) (by omega) (by omega) (hE := by (repeat' first | exact True.intro | refine And.intro ?_ ?_ | rfl | exact cutD rfl | (refine cutN ?_; omega) | exact congrArg V.bool hb))
        · have hb : decide ((rd t (2 * (i : Int))).name = name) = thrB t name (i + 1) := by
            rw [hst, ‹thrB t name i = false›, Bool.false_or, Bool.eq_iff_iff, decide_eq_true_iff, isLf_iff]
            exact ⟨fun h => ⟨hk, h⟩, fun h => h.2⟩
          exact lp (i + 1) (by omega) (by omega) (hE := by (repeat' first | exact True.intro | refine And.intro ?_ ?_ | rfl | exact cutD rfl | (refine cutN ?_; omega) | exact congrArg V.bool hb))
      · have hno : thrB t name (i + 1) = thrB t name i := by
          rw [hst, show isLf t name i = false from Bool.eq_false_iff.2 fun hb => hk (isLf_iff.1 hb).1, Bool.or_false]
        repeat' first | refine go ?_ | (refine sp ?_ ?_ <;> intro h) | intro b
        have hb := hno.symm
        exact lp (i + 1) (by omega) (by omega) (hE := by (repeat' first | exact True.intro | refine And.intro ?_ ?_ | rfl | exact cutD rfl | (refine cutN ?_; omega) | exact congrArg V.bool hb))
    · obtain rfl : i = cnt t := by omega
      repeat' first | refine go ?_ | (refine sp ?_ ?_ <;> intro h) | intro b
      all_goals first | (refine fin (vB ?_); exact r2) | (exfalso; simp [hth] at *; done) | trace_state
  · have g1 : mayB t = false := by simpa using g1
    repeat' first | refine go ?_ | (refine sp ?_ ?_ <;> intro h) | intro b
    all_goals first | exact fin rfl | trace_state⟩
end Go.Proofs.Mth
