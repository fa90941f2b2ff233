import Derived.Test.YtpipbkalkkagpaaDoorG6
import Derived.Test.YtpipbkalkkagpaaDoorG4
set_option linter.unusedVariables false
set_option linter.unusedSimpArgs false
set_option linter.unusedSectionVars false
section
/- Trees: names, leaves, rows that are the same. -/
set_option linter.unusedVariables false
set_option linter.unusedSimpArgs false
set_option maxRecDepth 100000
set_option maxHeartbeats 2000000
namespace Go.Proofs.Mth
open Go Go.Pv Go.Proofs Go.Shelf
instance count : CC Tryd.prog 45 (∀ (t : List Nd), t.length ≤ 1000000 → C 45 [gT t] (.int .i64 (cnt t : Nat))) := ⟨fun t h1 => by
  refine ct Tryd.func45 fun {Z} H => ?_
  repeat' first | refine go ?_ | (refine sp ?_ ?_ <;> intro h) | intro b
  exact fin (vI rfl)⟩
instance rCount : CC Tryd.prog 26 (∀ (t : List Nd), t.length ≤ 1000000 → C 26 [gT t] (.int .i64 (cnt t : Nat))) := ⟨fun t h1 => by
  refine ct Tryd.func26 fun {Z} H => ?_
  repeat' first | refine go ?_ | (refine sp ?_ ?_ <;> intro h) | intro b
  exact fin (vI rfl)⟩
instance isName : CC Tryd.prog 39 (∀ (name : Int) (pub : List UInt8), C 39 [.int .i64 name, gB pub] (.bool (isNm name pub))) := ⟨fun name pub => by
  refine ct Tryd.func39 fun {Z} H => ?_
  repeat' first | refine go ?_ | (refine sp ?_ ?_ <;> intro h) | intro b
  all_goals refine fin (vB ?_)
  all_goals rw [Bool.eq_iff_iff]
  all_goals simp [isNm]
  all_goals omega⟩
instance rMay : CC Tryd.prog 41 (∀ (name : Int) (pub : List UInt8), C 41 [.int .i64 name, gB pub] (.bool (isNm name pub))) := ⟨fun name pub => by
  refine ct Tryd.func41 fun {Z} H => ?_
  repeat' first | refine go ?_ | (refine sp ?_ ?_ <;> intro h) | intro b
  all_goals refine fin (vB ?_)
  all_goals rw [Bool.eq_iff_iff]
  all_goals simp [isNm]
  all_goals omega⟩
instance cloneB : CC Tryd.prog 71 (∀ (b : List UInt8), b.length ≤ 1000000 → C 71 [gB b] (gB b)) := ⟨fun b h1 => by
  refine ct Tryd.func71 fun {Z} H => ?_
  repeat' first | refine go ?_ | (refine sp ?_ ?_ <;> intro h) | intro b
  · obtain rfl := ‹_ → _› ‹_›
    exact fin rfl
  · exact fin rfl⟩
instance leaf : CC Tryd.prog 40 (∀ (name : Int) (pub : List UInt8), pub.length ≤ 1000000 → C 40 [.int .i64 name, gB pub] (gN (leafN name pub))) := ⟨fun name pub h1 => by
  refine ct Tryd.func40 fun {Z} H => ?_
  repeat' first | refine go ?_ | (refine sp ?_ ?_ <;> intro h) | intro b
  exact fin rfl⟩
instance eqB : CC Tryd.prog 75 (∀ (a b : List UInt8), C 75 [gB a, gB b] (.bool (decide (a = b)))) := ⟨fun a b => by
  refine ct Tryd.func75 fun {Z} H => ?_
  repeat' first | refine go ?_ | (refine sp ?_ ?_ <;> intro h) | intro b
  exact fin (vB (str_eq a b))⟩
end Go.Proofs.Mth
end
section
/- Trees: those that are the same; new ones; small ones. -/
set_option linter.unusedVariables false
set_option linter.unusedSimpArgs false
set_option maxRecDepth 100000
set_option maxHeartbeats 2000000
namespace Go.Proofs.Mth
open Go Go.Pv Go.Proofs Go.Shelf
theorem eq_step {α : Type} [Inhabited α] {a b : List α} {i : Nat} (hl : a.length = b.length) (hi : i < a.length) (hq : ∀ q, q < i → a[q]? = b[q]?) (h : rd a (i : Int) = rd b (i : Int)) : ∀ q, q < i + 1 → a[q]? = b[q]? := fun q hq' => by
  by_cases hqi : q = i
  · subst hqi
    have h1 := rd_get (l := a) (i := q) (by omega)
    have h2 := rd_get (l := b) (i := q) (by omega)
    rw [Int.toNat_natCast] at h1 h2
    rw [h1, h2]; exact congrArg some h
  · exact hq q (by omega)
theorem eq_end {α : Type} {a b : List α} {i : Nat} (hl : a.length = b.length) (hi : a.length ≤ i) (hq : ∀ q, q < i → a[q]? = b[q]?) : a = b := by
  refine List.ext_getElem? fun q => ?_
  by_cases hqa : q < a.length
  · exact hq q (by omega)
  · rw [List.getElem?_eq_none (by omega), List.getElem?_eq_none (by omega)]
/-- Few bytes and leaves in each node. -/
def okL (t : List Nd) : Prop := t.length ≤ 1000 ∧ ∀ n ∈ t, n.pub.length ≤ 1000000 ∧ n.un.length ≤ 1000000 ∧ n.hash.length ≤ 1000000
instance eqI : CC Tryd.prog 76 (∀ (a b : List Int), a.length ≤ 1000000 → C 76 [gI a, gI b] (.bool (decide (a = b)))) := ⟨fun a b h1 => by
  refine ct Tryd.func76 fun {Z} H => ?_
  repeat' first | refine go ?_ | (refine sp ?_ ?_ <;> intro h) | intro b
  · refine fin (vB ?_)
    rw [decide_eq_false]; rintro rfl; omega
  · have hl : a.length = b.length := by omega
    refine W.loop (fun i : Nat => [(0, gI a), (1, gI b), (12, .int .i64 (a.length : Nat)), (13, .int .i64 i)]) (fun _ => []) (fun i => i ≤ a.length ∧ ∀ q, q < i → a[q]? = b[q]?) (fun i => a.length - i) 0 ⟨Nat.zero_le _, fun q hq => absurd hq (Nat.not_lt_zero q)⟩ ?_
    rintro i env ⟨hi, hq⟩
    repeat' first | refine go ?_ | (refine sp ?_ ?_ <;> intro h) | intro b
    · refine fin (vB ?_)
      rw [decide_eq_false]; rintro rfl; exact ‹¬ _› rfl
    · exact lp (i + 1) ⟨by omega, eq_step hl (by omega) hq ‹_›⟩ (by omega)
    · refine fin (vB ?_)
      rw [decide_eq_true (eq_end hl (by omega) hq)]⟩
theorem nd_eq {a b : Nd} (h1 : a.kind = b.kind) (h2 : a.name = b.name) (h3 : a.pub = b.pub) (h4 : a.un = b.un) : decide (a.hash = b.hash) = decide (a = b) := by
  cases a; cases b; simp_all
instance sameNode : CC Tryd.prog 48 (∀ (a b : Nd), a.un.length ≤ 1000000 → C 48 [gN a, gN b] (.bool (decide (a = b)))) := ⟨fun a b h1 => by
  refine ct Tryd.func48 fun {Z} H => ?_
  repeat' first | refine go ?_ | (refine sp ?_ ?_ <;> intro h) | intro b
  · exact fin (vB (nd_eq ‹_› ‹_› ‹_› ‹_›))
  all_goals (refine fin (vB ?_); rw [decide_eq_false]; rintro rfl; exact ‹¬ _› rfl)⟩
instance rSameNode : CC Tryd.prog 38 (∀ (a b : Nd), a.un.length ≤ 1000000 → C 38 [gN a, gN b] (.bool (decide (a = b)))) := ⟨fun a b h1 => by
  refine ct Tryd.func38 fun {Z} H => ?_
  repeat' first | refine go ?_ | (refine sp ?_ ?_ <;> intro h) | intro b
  · exact fin (vB (nd_eq ‹_› ‹_› ‹_› ‹_›))
  all_goals (refine fin (vB ?_); rw [decide_eq_false]; rintro rfl; exact ‹¬ _› rfl)⟩
instance eqT : CC Tryd.prog 47 (∀ (a b : List Nd), okL a → C 47 [gT a, gT b, .fn 48 []] (.bool (decide (a = b)))) := ⟨fun a b h1 => by
  refine ct Tryd.func47 fun {Z} H => ?_
  have ha := h1.1
  repeat' first | refine go ?_ | (refine sp ?_ ?_ <;> intro h) | intro b
  · refine fin (vB ?_)
    rw [decide_eq_false]; rintro rfl; omega
  · have hl : a.length = b.length := by omega
    refine W.loop (fun i : Nat => [(0, gT a), (1, gT b), (2, .fn 48 []), (15, gT a), (16, .int .i64 (a.length : Nat)), (17, .int .i64 i)]) (fun _ => []) (fun i => i ≤ a.length ∧ ∀ q, q < i → a[q]? = b[q]?) (fun i => a.length - i) 0 ⟨Nat.zero_le _, fun q hq => absurd hq (Nat.not_lt_zero q)⟩ ?_
    rintro i env ⟨hi, hq⟩
    have hm : i < a.length → (rd a (i : Int)).un.length ≤ 1000000 := fun h => (h1.2 _ (rd_mem (by omega))).2.1
    repeat' first | refine go ?_ | (refine sp ?_ ?_ <;> intro h) | intro b
    · refine fin (vB ?_)
      rw [decide_eq_false]; rintro rfl; exact ‹¬ _› rfl
    · exact lp (i + 1) ⟨by omega, eq_step hl (by omega) hq ‹_›⟩ (by omega)
    · refine fin (vB ?_)
      rw [decide_eq_true (eq_end hl (by omega) hq)]⟩
instance same : CC Tryd.prog 18 (∀ (a b : List Nd), okL a → C 18 [gT a, gT b] (.bool (decide (a = b)))) := ⟨fun a b h1 => by
  refine ct Tryd.func18 fun {Z} H => ?_
  repeat' first | refine go ?_ | (refine sp ?_ ?_ <;> intro h) | intro b
  exact fin rfl⟩
instance rSameT : CC Tryd.prog 16 (∀ (a b : List Nd), okL a → C 16 [gT a, gT b] (.bool (decide (a = b)))) := ⟨fun a b h1 => by
  refine ct Tryd.func16 fun {Z} H => ?_
  have ha := h1.1
  repeat' first | refine go ?_ | (refine sp ?_ ?_ <;> intro h) | intro b
  · refine fin (vB ?_)
    rw [decide_eq_false]; rintro rfl; omega
  · have hl : a.length = b.length := by omega
    refine W.loop (fun i : Nat => [(0, gT a), (1, gT b), (5, .int .i64 i)]) (fun _ => []) (fun i => i ≤ a.length ∧ ∀ q, q < i → a[q]? = b[q]?) (fun i => a.length - i) 0 ⟨Nat.zero_le _, fun q hq => absurd hq (Nat.not_lt_zero q)⟩ ?_
    rintro i env ⟨hi, hq⟩
    have hm : i < a.length → (rd a (i : Int)).un.length ≤ 1000000 := fun h => (h1.2 _ (rd_mem (by omega))).2.1
    repeat' first | refine go ?_ | (refine sp ?_ ?_ <;> intro h) | intro b
    · refine fin (vB ?_)
      rw [decide_eq_false]; rintro rfl; exact ‹¬ _› rfl
    · exact lp (i + 1) ⟨by omega, eq_step hl (by omega) hq ‹_›⟩ (by omega)
    · refine fin (vB ?_)
      rw [decide_eq_true (eq_end hl (by omega) hq)]⟩
instance new : CC Tryd.prog 13 (∀ (name : Int) (pub : List UInt8), pub.length ≤ 1000000 → C 13 [.int .i64 name, gB pub] (.tup [gT (newV name pub).1, .int .i64 (newV name pub).2])) := ⟨fun name pub h1 => by
  refine ct Tryd.func13 fun {Z} H => ?_
  by_cases hn : isNm name pub = true
  · have e : newV name pub = ([leafN name pub], 0) := by unfold newV; rw [if_pos hn]
    rw [e]
    repeat' first | refine go ?_ | (refine sp ?_ ?_ <;> intro h) | intro b
    exact fin rfl
  · have e : newV name pub = ([], 1) := by unfold newV; rw [if_neg hn]
    rw [e]
    repeat' first | refine go ?_ | (refine sp ?_ ?_ <;> intro h) | intro b
    exact fin rfl⟩
instance rNew : CC Tryd.prog 14 (∀ (name : Int) (pub : List UInt8), pub.length ≤ 1000000 → C 14 [.int .i64 name, gB pub] (.tup [gT (newV name pub).1, .int .i64 (newV name pub).2])) := ⟨fun name pub h1 => by
  refine ct Tryd.func14 fun {Z} H => ?_
  by_cases hn : isNm name pub = true
  · have e : newV name pub = ([leafN name pub], 0) := by unfold newV; rw [if_pos hn]
    rw [e]
    repeat' first | refine go ?_ | (refine sp ?_ ?_ <;> intro h) | intro b
    exact finD rfl
  · have e : newV name pub = ([], 1) := by unfold newV; rw [if_neg hn]
    rw [e]
    repeat' first | refine go ?_ | (refine sp ?_ ?_ <;> intro h) | intro b
    exact fin rfl⟩
end Go.Proofs.Mth
end
section
/- Trees: leaves are looked for. -/
set_option linter.unusedVariables false
set_option linter.unusedSimpArgs false
set_option maxRecDepth 100000
set_option maxHeartbeats 2000000
namespace Go.Proofs.Mth
open Go Go.Pv Go.Proofs Go.Shelf
instance leavesF : CC Tryd.prog 49 (∀ (v : V), v.cells = [v] → v.one = true → ∀ {Z}, ZT Z → ∀ L, SE Tryd.prog Z 49 [v] L (.fn 77 [.ref L.length 0]) (L ++ [.box [v]])) := ⟨fun v hc ho {Z} H L => by
  refine SE.full H.z Tryd.func49 rfl ?_
  refine one ?_
  refine X.opr (v := .ref L.length 0) (L0 := L ++ [.box [v]]) ⟨?_⟩ ?_
  · show (if v.cells.all V.one = true then some (V.ref L.length 0, L ++ [Pv.Obj.box v.cells]) else none) = _
    rw [hc, if_pos (by simp [ho])]
  repeat' first | refine go ?_ | (refine sp ?_ ?_ <;> intro h) | intro b
  exact K.fin rfl ⟨rfl, rfl⟩⟩
instance find : CC Tryd.prog 19 (∀ (t : List Nd) (name : Int), t.length ≤ 1000000 → C 19 [gT t, .int .i64 name] (.tup [.int .i64 (findV t name).1, .bool (findV t name).2])) := ⟨fun t name h1 => by
  refine ct Tryd.func19 fun {Z} H => ?_
  repeat' first | refine go ?_ | (refine sp ?_ ?_ <;> intro h) | intro b
  refine W.rfS H.z Tryd.func77 rfl ?_
  repeat' first | refine go ?_ | (refine sp ?_ ?_ <;> intro h) | intro b
  refine W.loopV (fun i : Nat => [(0, .yl 4), (1, .ref 3 0), (5, .int .i64 (cnt t : Nat)), (6, .int .i64 i)]) (fun _ => []) (fun i => i ≤ cnt t ∧ ∀ q, q < i → isLf t name q = false) (fun i => cnt t - i) 0 ⟨Nat.zero_le _, fun q hq => absurd hq (Nat.not_lt_zero q)⟩ ?_
  rintro i env ⟨hi, hq⟩
  have hx : i < cnt t → 2 * i < t.length := lf_at
  repeat' first | refine go ?_ | (refine sp ?_ ?_ <;> intro h) | intro b
  · refine fin ?_
    rw [findV, find_some (i := i) (by omega) (by simp [isLf, lf, *]) hq]
    rfl
  all_goals try exact lp (i + 1) ⟨by omega, step_lt hq (by simp [isLf, lf, *])⟩ (by omega)
  · refine fin ?_
    rw [findV, find_none fun q hq' => hq q (by omega)]
    rfl⟩
instance rFind : CC Tryd.prog 20 (∀ (t : List Nd) (name : Int), t.length ≤ 1000000 → C 20 [gT t, .int .i64 name] (.tup [.int .i64 (findV t name).1, .bool (findV t name).2])) := ⟨fun t name h1 => by
  refine ct Tryd.func20 fun {Z} H => ?_
  repeat' first | refine go ?_ | (refine sp ?_ ?_ <;> intro h) | intro b
  refine W.loop (fun i : Nat => [(0, gT t), (1, .int .i64 name), (6, .int .i64 i)]) (fun _ => []) (fun i => i ≤ cnt t ∧ ∀ q, q < i → isLf t name q = false) (fun i => cnt t - i) 0 ⟨Nat.zero_le _, fun q hq => absurd hq (Nat.not_lt_zero q)⟩ ?_
  rintro i env ⟨hi, hq⟩
  have hx : i < cnt t → 2 * i < t.length := lf_at
  repeat' first | refine go ?_ | (refine sp ?_ ?_ <;> intro h) | intro b
  · refine fin ?_
    rw [findV, find_some (i := i) (by omega) (by simp [isLf, lf, *]) hq]
    rfl
  all_goals try exact lp (i + 1) ⟨by omega, step_lt hq (by simp [isLf, lf, *])⟩ (by omega)
  · refine fin ?_
    rw [findV, find_none fun q hq' => hq q (by omega)]
    rfl⟩
instance free : CC Tryd.prog 55 (∀ (t : List Nd), t.length ≤ 1000000 → C 55 [gT t] (.int .i64 (freeN t : Nat))) := ⟨fun t h1 => by
  refine ct Tryd.func55 fun {Z} H => ?_
  repeat' first | refine go ?_ | (refine sp ?_ ?_ <;> intro h) | intro b
  refine W.rfS H.z Tryd.func77 rfl ?_
  repeat' first | refine go ?_ | (refine sp ?_ ?_ <;> intro h) | intro b
  refine W.loopV (fun i : Nat => [(0, .yl 2), (1, .ref 1 0), (5, .int .i64 (cnt t : Nat)), (6, .int .i64 i)]) (fun _ => []) (fun i => i ≤ cnt t ∧ ∀ q, q < i → decide ((lf t q).kind = 0) = false) (fun i => cnt t - i) 0 ⟨Nat.zero_le _, fun q hq => absurd hq (Nat.not_lt_zero q)⟩ ?_
  rintro i env ⟨hi, hq⟩
  have hx : i < cnt t → 2 * i < t.length := lf_at
  repeat' first | refine go ?_ | (refine sp ?_ ?_ <;> intro h) | intro b
  · refine fin (vI ?_)
    rw [freeN, find_some (i := i) (by omega) (by simp [lf, *]) hq]; rfl
  · exact lp (i + 1) ⟨by omega, step_lt hq (by simp [lf, *])⟩ (by omega)
  · refine fin (vI ?_)
    rw [freeN, find_none fun q hq' => hq q (by omega)]; rfl⟩
instance rUsed : CC Tryd.prog 29 (∀ (t : List Nd), t.length ≤ 1000000 → C 29 [gT t] (gI (usedL t))) := ⟨fun t h1 => by
  refine ct Tryd.func29 fun {Z} H => ?_
  repeat' first | refine go ?_ | (refine sp ?_ ?_ <;> intro h) | intro b
  refine W.ghost 3 1 rfl ?_
  refine W.loop (fun s : Nat × List Int => [(0, gT t), (3, .own 0 0 s.2.length s.2.length), (4, .int .i64 s.1)]) (fun s => [.buf 1 0 (s.2.map (V.int .i64))]) (fun s => s.1 ≤ cnt t ∧ s.2.length ≤ s.1 ∧ s.2 = ((List.range s.1).filter fun i => decide ((lf t i).kind = 1)).map fun (i : Nat) => (i : Int)) (fun s => cnt t - s.1) (0, []) ⟨Nat.zero_le _, Nat.le_refl _, rfl⟩ ?_
  rintro ⟨i, l⟩ env ⟨hi, hl, hq⟩
  dsimp only at *
  have hx : i < cnt t → 2 * i < t.length := lf_at
  have hc : cnt t ≤ 1000000 := by unfold cnt; omega
  repeat' first | refine go ?_ | (refine sp ?_ ?_ <;> intro h) | intro b
  · refine lp (i + 1, l ++ [(i : Int)]) ⟨by dsimp only; omega, by simp; omega, ?_⟩ (by dsimp only; omega)
    dsimp only
    rw [List.range_succ, List.filter_append, List.map_append, ← hq]
    simp [lf, *]
  · refine lp (i + 1, l) ⟨by dsimp only; omega, by dsimp only; omega, ?_⟩ (by dsimp only; omega)
    dsimp only
    rw [List.range_succ, List.filter_append, List.map_append, ← hq]
    simp [lf, *]
  · refine fin ?_
    rw [usedL, show cnt t = i by omega, ← hq]
    rfl⟩
instance rThere : CC Tryd.prog 65 (∀ (t : List Nd) (i : Int), t.length ≤ 1000000 → C 65 [gT t, .int .i64 i] (.bool (thereB t i))) := ⟨fun t i h1 => by
  refine ct Tryd.func65 fun {Z} H => ?_
  have hc : cnt t = (t.length + 1) / 2 := rfl
  repeat' first | refine go ?_ | (refine sp ?_ ?_ <;> intro h) | intro b
  all_goals refine fin (vB ?_)
  all_goals clear hc
  all_goals simp [thereB, *]⟩
instance isLeaf : CC Tryd.prog 61 (∀ (t : List Nd) (i : Int), t.length ≤ 1000000 → C 61 [gT t, .int .i64 i] (.bool (thereB t i))) := ⟨fun t i h1 => by
  refine ct Tryd.func61 fun {Z} H => ?_
  have hc : cnt t = (t.length + 1) / 2 := rfl
  repeat' first | refine go ?_ | (refine sp ?_ ?_ <;> intro h) | intro b
  all_goals refine fin (vB ?_)
  all_goals clear hc
  all_goals simp [thereB, *]⟩
instance clone : CC Tryd.prog 56 (∀ (t : List Nd), t.length ≤ 1000000 → O 56 [gT t] 5 t.length (t.map gN)) := ⟨fun t h1 => by
  refine co Tryd.func56 fun {Z} H => ?_
  repeat' first | refine go ?_ | (refine sp ?_ ?_ <;> intro h) | intro b
  · obtain rfl := ‹_ → _› ‹_›
    exact finG
  · exact finO⟩
instance rSmall : CC Tryd.prog 12 (∀ (t : List Nd) (m : Nat), t.length ≤ 1000000 → m ≤ 1000000 → C 12 [gT t, .int .i64 m] (.bool (smallB t m))) := ⟨fun t m h1 h2 => by
  refine ct Tryd.func12 fun {Z} H => ?_
  repeat' first | refine go ?_ | (refine sp ?_ ?_ <;> intro h) | intro b
  · refine fin (vB ?_)
    simp [smallB]; omega
  · refine W.loop (fun i : Nat => [(0, gT t), (1, .int .i64 m), (5, .int .i64 i)]) (fun _ => []) (fun i => i ≤ t.length ∧ ∀ q, q < i → okNd m (rd t (q : Int)) = true) (fun i => t.length - i) 0 ⟨Nat.zero_le _, fun q hq => absurd hq (Nat.not_lt_zero q)⟩ ?_
    rintro i env ⟨hi, hq⟩
    repeat' first | refine go ?_ | (refine sp ?_ ?_ <;> intro h) | intro b
    · refine fin (vB ?_); symm; rw [Bool.eq_false_iff]; intro hs
      have := smallB_rd hs (i := i) (by omega); simp [okNd] at this; omega
    · refine fin (vB ?_); symm; rw [Bool.eq_false_iff]; intro hs
      have := smallB_rd hs (i := i) (by omega); simp [okNd] at this; omega
    · refine fin (vB ?_); symm; rw [Bool.eq_false_iff]; intro hs
      have := smallB_rd hs (i := i) (by omega); simp [okNd] at this; omega
    · exact lp (i + 1) ⟨by omega, fun q hq' => by
        by_cases hqi : q = i
        · subst hqi; simp [okNd]; omega
        · exact hq q (by omega)⟩ (by omega)
    · refine fin (vB ?_)
      have := all_rd (p := okNd m) (l := t) fun q hq' => hq q (by omega)
      simp only [smallB, this, Bool.and_true]
      symm; rw [decide_eq_true_iff]; omega⟩
end Go.Proofs.Mth
end
section
/- Trees: paths, trees of which a path is blank. -/
set_option linter.unusedVariables false
set_option linter.unusedSimpArgs false
set_option maxRecDepth 100000
set_option maxHeartbeats 2000000
namespace Go.Proofs.Mth
open Go Go.Pv Go.Proofs Go.Shelf
theorem way_pathV (t : List Nd) (i : Int) : (wayV gP (2 * i) (cnt t : Nat)).1 = pathV t i := by
  unfold wayV pathV
  split <;> rfl
instance tpath : CC Tryd.prog 57 (∀ (t : List Nd) (i : Int), t.length ≤ 1000000 → 0 ≤ i ∧ i ≤ 1000000 → C 57 [gT t, .int .i64 i] (gI (pathV t i))) := ⟨fun t i h1 h2 => by
  refine ct Tryd.func57 fun {Z} H => ?_
  obtain ⟨hi, hi2⟩ := h2
  repeat' first | refine go ?_ | (refine sp ?_ ?_ <;> intro h) | intro b
  refine fin ?_
  show gI _ = gI _
  rw [way_pathV]⟩
instance rEmpty : CC Tryd.prog 67 (∀ (t : List Nd) (k : Nat), t.length ≤ 1000000 → k ≤ 1000000 → C 67 [gT t, .int .i64 k] (.bool (emptyB t k))) := ⟨fun t k h1 h2 => by
  refine ct Tryd.func67 fun {Z} H => ?_
  repeat' first | refine go ?_ | (refine sp ?_ ?_ <;> intro h) | intro b
  refine W.loop (fun i : Nat => [(0, gT t), (1, .int .i64 k), (5, .int .i64 i)]) (fun _ => []) (fun i => k ≤ i ∧ i ≤ 2000000 ∧ ∀ q, k ≤ q → q < i → q < cnt t → (lf t q).kind = 0) (fun i => cnt t - i) k ⟨Nat.le_refl _, by omega, fun q hq hq' => by omega⟩ ?_
  rintro i env ⟨hki, hi, hq⟩
  have hx : i < cnt t → 2 * i < t.length := lf_at
  have hc : cnt t ≤ 1000000 := by unfold cnt; omega
  repeat' first | refine go ?_ | (refine sp ?_ ?_ <;> intro h) | intro b
  · refine fin (vB ?_); symm; rw [Bool.eq_false_iff]; intro he
    have := emptyB_at he (q := i) (by omega) (by omega)
    exact ‹¬ _› this
  · exact lp (i + 1) ⟨by omega, by omega, fun q hq1 hq2 hq3 => by
      by_cases hqi : q = i
      · subst hqi; show (rd t (2 * (q : Int))).kind = 0; assumption
      · exact hq q hq1 (by omega) hq3⟩ (by omega)
  · refine fin (vB ?_)
    exact (emptyB_of fun q hq1 hq2 => hq q hq1 (by omega) hq2).symm⟩
instance blanked : CC Tryd.prog 62 (∀ (t : List Nd) (i : Int), t.length ≤ 1000000 → 0 ≤ i ∧ i ≤ 1000000 → (∀ x ∈ pathV t i, 0 ≤ x ∧ x < (t.length : Int)) → O 62 [gT t, .int .i64 i] 5 t.length ((blankV t i).map gN)) := ⟨fun t i h1 h2 h3 => by
  refine co Tryd.func62 fun {Z} H => ?_
  obtain ⟨hi, hi2⟩ := h2
  have hpl := pathV_len t i
  repeat' first | refine go ?_ | (refine sp ?_ ?_ <;> intro h) | intro b
  refine W.loop (fun s : Nat × List Nd => [(5, .own 0 0 t.length t.length), (12, gI (pathV t i)), (13, .int .i64 ((pathV t i).length : Nat)), (14, .int .i64 s.1)]) (fun s => [.buf 5 0 (s.2.map gN)]) (fun s => s.1 ≤ (pathV t i).length ∧ s.2.length = t.length ∧ s.2 = ((pathV t i).take s.1).foldl (fun t x => setN t x blankN) t) (fun s => (pathV t i).length - s.1) (0, t) ⟨Nat.zero_le _, rfl, rfl⟩ ?_
  rintro ⟨k, o⟩ env ⟨hk, hl, ho⟩
  dsimp only at *
  have hx : k < (pathV t i).length → 0 ≤ rd (pathV t i) (k : Int) ∧ rd (pathV t i) (k : Int) < (t.length : Int) := fun h => h3 _ (rd_mem (by omega))
  repeat' first | refine go ?_ | (refine sp ?_ ?_ <;> intro h) | intro b
  · have hx := hx (by omega)
    refine X.sta blankN ?_
    repeat' first | refine go ?_ | (refine sp ?_ ?_ <;> intro h) | intro b
    exact lp (k + 1, setN o (rd (pathV t i) (k : Int)) blankN) ⟨by dsimp only; omega, by simp [setN, hl], by dsimp only; rw [foldl_step (by omega), ← ho]⟩ (by dsimp only; omega)
  · have e : o = blankV t i := by rw [ho, List.take_of_length_le (by omega)]; rfl
    rw [← e]
    exact finO⟩
end Go.Proofs.Mth
end
section
/- Trees: leaves that are changed or removed: the program. -/
set_option linter.unusedVariables false
set_option linter.unusedSimpArgs false
set_option maxRecDepth 100000
set_option maxHeartbeats 2000000
namespace Go.Proofs.Mth
open Go Go.Pv Go.Proofs Go.Shelf
instance update : CC Tryd.prog 34 (∀ (t : List Nd) (i : Int) (pub : List UInt8), t.length ≤ 1000000 → pub.length ≤ 1000000 → (0 ≤ i → i < (cnt t : Int) → ∀ x ∈ pathV t i, 0 ≤ x ∧ x < (t.length : Int)) → C 34 [gT t, .int .i64 i, gB pub] (.tup [gT (updV t i pub).1, .int .i64 (updV t i pub).2])) := ⟨fun t i pub h1 h2 h3 => by
  refine ct Tryd.func34 fun {Z} H => ?_
  have hc : cnt t = (t.length + 1) / 2 := rfl
  by_cases hb : pub.length = 32
  · by_cases ht : thereB t i = true
    · have hr := thereB_le ht
      have h3 := h3 hr.1 hr.2.1
      have e : updV t i pub = (setN (blankV t i) (2 * i) (leafN (rd t (2 * i)).name pub), 0) := by unfold updV; rw [if_neg (by simp [hb]), if_pos ht]
      have hbl : (blankV t i).length = t.length := blankV_len t i
      rw [e]
      repeat' first | refine go ?_ | (refine sp ?_ ?_ <;> intro h) | intro b
      exact fin rfl
    · have e : updV t i pub = (t, 11) := by unfold updV; rw [if_neg (by simp [hb]), if_neg ht]
      rw [e]
      repeat' first | refine go ?_ | (refine sp ?_ ?_ <;> intro h) | intro b
      exact fin rfl
  · have e : updV t i pub = (t, 1) := by unfold updV; rw [if_pos (by simp [hb])]
    rw [e]
    repeat' first | refine go ?_ | (refine sp ?_ ?_ <;> intro h) | intro b
    exact fin rfl⟩
instance remove : CC Tryd.prog 31 (∀ (t : List Nd) (i : Int), okS t → (0 ≤ i → i < (cnt t : Int) → ∀ x ∈ pathV t i, 0 ≤ x ∧ x < (t.length : Int)) → C 31 [gT t, .int .i64 i] (.tup [gT (remV t i).1, .int .i64 (remV t i).2])) := ⟨fun t i h1 h2 => by
  refine ct Tryd.func31 fun {Z} H => ?_
  obtain ⟨j, hj, hlen⟩ := h1
  have hb := two_pow_bound hj
  have hct := cnt_of hlen
  by_cases ht : thereB t i = true
  · have hr := thereB_le ht
    have h2 := h2 hr.1 hr.2.1
    have hbl : (blankV t i).length = t.length := blankV_len t i
    repeat' first | refine go ?_ | (refine sp ?_ ?_ <;> intro h) | intro b
    refine X.sta blankN ?_
    repeat' first | refine go ?_ | (refine sp ?_ ?_ <;> intro h) | intro b
    refine W.rfS H.z Tryd.func77 rfl ?_
    rw [show (blankV t i).set (2 * i).toNat blankN = remO t i from rfl]
    have hol := remO_len t i
    have hrem : remV t i = if lastF (remO t i) (cnt t) < 0 then (t, 13) else ((remO t i).take (2 * 2 ^ wid (lastF (remO t i) (cnt t)) (Nat.log2 (cnt t)) - 1), 0) := by rw [remV, if_pos ht]
    have hoc : cnt (remO t i) = cnt t := by unfold cnt; rw [hol]
    generalize remO t i = o at *
    repeat' first | refine go ?_ | (refine sp ?_ ?_ <;> intro h) | intro b
    refine W.loopV (fun k : Nat => [(0, .yl 3), (1, .ref 2 0), (5, .int .i64 (cnt o : Nat)), (6, .int .i64 k)]) (fun k => [(1, .box [.int .i64 (lastF o k)])]) (fun k => k ≤ cnt t) (fun k => cnt t - k) 0 (Nat.zero_le _) ?_
    intro k env hk
    have hx : k < cnt t → 2 * k < t.length := lf_at
    have hlk := lastF_lt o k
    repeat' first | refine go ?_ | (refine sp ?_ ?_ <;> intro h) | intro b
    · refine lp (k + 1) (by omega) (by omega) (hL := by rw [show lastF o (k + 1) = (k : Int) by rw [lastF, if_pos ‹_›]]; rfl)
    · refine lp (k + 1) (by omega) (by omega) (hL := by rw [show lastF o (k + 1) = lastF o k by rw [lastF, if_neg ‹_›]]; rfl)
    · have hkc : k = cnt t := by omega
      have hn : lastF o (cnt t) < 0 := hkc ▸ ‹lastF o k < 0›
      rw [hrem, if_pos hn]
      exact fin rfl
    · have hkc : k = cnt t := by omega
      have hn : ¬ lastF o (cnt t) < 0 := hkc ▸ ‹¬ lastF o k < 0›
      rw [if_neg hn, hct, Nat.log2_two_pow] at hrem
      have hkq : k = 2 ^ j := hkc.trans hct
      subst hkq
      rw [hrem, hoc, hct]
      refine W.loopV (fun q : Nat => [(7, .ref 1 0), (10, .int .i64 ((2 ^ q : Nat) : Int)), (6, .own 0 0 (2 * 2 ^ q - 1) t.length)]) (fun _ => []) (fun q => q ≤ j ∧ wid (lastF o (2 ^ j)) q = wid (lastF o (2 ^ j)) j) (fun q => q) j ⟨Nat.le_refl _, rfl⟩ ?_ (hF := ⟨rfl, rfl, by rw [← hlen]; rfl, True.intro⟩)
      rintro q env ⟨hq, hw⟩
      have hqb : 2 ^ q ≤ 2 ^ j := Nat.pow_le_pow_right (by decide) hq
      rcases q with _ | q
      · repeat' first | refine go ?_ | (refine sp ?_ ?_ <;> intro h) | intro b
        rw [← hw]
        exact fin rfl
      · have e2 : 2 ^ (q + 1) = 2 * 2 ^ q := Nat.pow_succ'
        have e1 : 1 ≤ 2 ^ q := Nat.one_le_two_pow
        have e3 : ((2 ^ (q + 1) : Nat) : Int) / 2 = ((2 ^ q : Nat) : Int) := by omega
        have e4 : (((2 ^ (q + 1) : Nat) : Int) - 1).toNat = 2 * 2 ^ q - 1 := by omega
        repeat' first | refine go ?_ | (refine sp ?_ ?_ <;> intro h) | intro b
        · refine lp q ⟨by omega, ?_⟩ (by omega) (hE := ⟨rfl, cutN (by omega), congrArg (fun n => V.own 0 0 n _) e4, True.intro⟩)
          rw [← hw, wid, if_pos (by omega)]
        · rw [← hw]
          rw [wid, if_neg (by omega)]
          exact fin rfl
  · have e : remV t i = (t, 11) := by unfold remV; rw [if_neg ht]
    rw [e]
    repeat' first | refine go ?_ | (refine sp ?_ ?_ <;> intro h) | intro b
    exact fin rfl⟩
end Go.Proofs.Mth
end
section
/- Trees: nodes that are right at their place. -/
set_option linter.unusedVariables false
set_option linter.unusedSimpArgs false
set_option maxRecDepth 100000
set_option maxHeartbeats 2000000
namespace Go.Proofs.Mth
open Go Go.Pv Go.Proofs Go.Shelf
/-- The leaves of a row: the q-th is one of a range, isn't blank, and is over the one before it. -/
def unAt (t : List Nd) (lo hi : Int) (l : List Int) (q : Nat) : Bool :=
  decide (lo ≤ rd l (q : Int)) && decide (rd l (q : Int) ≤ hi) && decide ((rd t (2 * rd l (q : Int))).kind = 1) && (decide (q = 0) || decide (rd l ((q : Int) - 1) < rd l (q : Int)))
def unB (t : List Nd) (lo hi : Int) (l : List Int) : Bool := (List.range l.length).all (unAt t lo hi l)
theorem unB_of {t : List Nd} {lo hi : Int} {l : List Int} (h : ∀ q, q < l.length → unAt t lo hi l q = true) : unB t lo hi l = true := by
  rw [unB, List.all_eq_true]
  exact fun q hq => h q (List.mem_range.1 hq)
theorem unB_at {t : List Nd} {lo hi : Int} {l : List Int} (h : unB t lo hi l = true) {q : Nat} (hq : q < l.length) : unAt t lo hi l q = true := by
  rw [unB, List.all_eq_true] at h
  exact h q (List.mem_range.2 hq)
/-- Is a node right, at its place? -/
def wholeB (t : List Nd) (x : Int) : Bool :=
  if (rd t x).kind = 0 then decide (rd t x = blankN)
  else if (rd t x).kind = 1 then isNm (rd t x).name (rd t x).pub && (decide ((rd t x).hash.length = 0) || decide ((rd t x).hash.length = 32)) && decide (x % 2 = 0) && decide ((rd t x).un.length = 0)
  else isNm (rd t x).name (rd t x).pub && (decide ((rd t x).hash.length = 0) || decide ((rd t x).hash.length = 32)) && decide ((rd t x).kind = 2) && decide (x % 2 = 1) && decide ((rd t x).name = 0) && unB t (leavesV x).1 (leavesV x).2 (rd t x).un
theorem wh0 {t : List Nd} {x : Int} (h : (rd t x).kind = 0) : wholeB t x = decide (rd t x = blankN) := by rw [wholeB, if_pos h]
theorem wh1 {t : List Nd} {x : Int} (h : (rd t x).kind = 1) : wholeB t x = (isNm (rd t x).name (rd t x).pub && (decide ((rd t x).hash.length = 0) || decide ((rd t x).hash.length = 32)) && decide (x % 2 = 0) && decide ((rd t x).un.length = 0)) := by rw [wholeB, if_neg (by omega), if_pos h]
theorem wh2 {t : List Nd} {x : Int} (h : (rd t x).kind = 2) : wholeB t x = (isNm (rd t x).name (rd t x).pub && (decide ((rd t x).hash.length = 0) || decide ((rd t x).hash.length = 32)) && decide (x % 2 = 1) && decide ((rd t x).name = 0) && unB t (leavesV x).1 (leavesV x).2 (rd t x).un) := by rw [wholeB, if_neg (by omega), if_neg (by omega), decide_eq_true h, Bool.and_true]
theorem whN {t : List Nd} {x : Int} (h0 : ¬ (rd t x).kind = 0) (h1 : ¬ (rd t x).kind = 1) (h : ¬ (rd t x).kind = 2) : wholeB t x = false := by rw [wholeB, if_neg h0, if_neg h1, decide_eq_false h, Bool.and_false, Bool.false_and, Bool.false_and, Bool.false_and]
theorem nd_blank {n : Nd} (h : n.kind = 0) (h1 : n.name = 0) : decide ((n.pub.length : Int) + (n.un.length : Int) + (n.hash.length : Int) = 0) = decide (n = blankN) := by
  obtain ⟨k, m, a, b, c⟩ := n
  simp only at h h1
  subst h h1
  rw [Bool.eq_iff_iff, decide_eq_true_iff, decide_eq_true_iff]
  simp only [blankN, Nd.mk.injEq, true_and]
  simp only [← List.length_eq_zero_iff]
  omega
theorem nd_blank2 {n : Nd} (h1 : ¬ n.name = 0) : false = decide (n = blankN) := by
  symm; rw [decide_eq_false_iff_not]; rintro rfl; exact h1 rfl
theorem unB_no {t : List Nd} {lo hi : Int} {l : List Int} {k : Nat} {b : Bool} (hk : k < l.length) (h : ¬ unAt t lo hi l k = true) : false = (b && unB t lo hi l) := by
  rw [show unB t lo hi l = false from Bool.eq_false_iff.2 fun hb => h (unB_at hb hk), Bool.and_false]
theorem unB_all {t : List Nd} {lo hi : Int} {l : List Int} {k : Nat} {b : Bool} (hk : l.length ≤ k) (h : ∀ q, q < k → unAt t lo hi l q = true) : (b && unB t lo hi l) = b := by
  rw [unB_of fun q hq => h q (by omega), Bool.and_true]
theorem unAt_step {t : List Nd} {lo hi : Int} {l : List Int} {k : Nat} (hq : ∀ q, q < k → unAt t lo hi l q = true) (h : unAt t lo hi l k = true) : ∀ q, q < k + 1 → unAt t lo hi l q = true := fun q hq' => by
  by_cases hqi : q = k
  · subst hqi; exact h
  · exact hq q (by omega)
instance whole : CC Tryd.prog 46 (∀ (t : List Nd) (x : Int), okL t → 0 ≤ x ∧ x < (t.length : Int) → 0 ≤ (leavesV x).1 ∧ 2 * (leavesV x).2 < (t.length : Int) → C 46 [gT t, .int .i64 x] (.bool (wholeB t x))) := ⟨fun t x h1 h2 h3 => by
  refine ct Tryd.func46 fun {Z} H => ?_
  have hl := h1.1
  have hn := h1.2 _ (rd_mem h2)
  repeat' first | refine go ?_ | (refine sp ?_ ?_ <;> intro h) | intro b
  · refine fin (vB ?_); rw [wh0 (by assumption)]; exact nd_blank ‹_› ‹_›
  · refine fin (vB ?_); rw [wh0 (by assumption)]; exact nd_blank2 ‹_›
  all_goals try exact fin (vB (whN (by assumption) (by assumption) (by assumption)).symm)
  all_goals try (refine fin (vB ?_); first | rw [wh1 (by assumption)] | rw [wh2 (by assumption)] | fail); (rw [Bool.eq_iff_iff]; simp only [Bool.and_eq_true, Bool.or_eq_true, decide_eq_true_iff]; first | grind | fail)
  · generalize hun : (rd t x).un = un at *
    refine W.loop (fun k : Nat => [(0, gT t), (5, .ref 0 0), (6, .int .i64 (leavesV x).1), (7, .int .i64 (leavesV x).2), (62, gI un), (63, .int .i64 (un.length : Nat)), (64, .int .i64 k)]) (fun _ => [.box [.int .i64 (rd t x).kind, .int .i64 (rd t x).name, gB (rd t x).pub, gI un, gB (rd t x).hash]]) (fun k => k ≤ un.length ∧ ∀ q, q < k → unAt t (leavesV x).1 (leavesV x).2 un q = true) (fun k => un.length - k) 0 ⟨Nat.zero_le _, fun q hq => absurd hq (Nat.not_lt_zero q)⟩ ?_
    rintro k env ⟨hk, hq⟩
    repeat' first | refine go ?_ | (refine sp ?_ ?_ <;> intro h) | intro b
    all_goals try (refine fin (vB ?_); rw [wh2 (by assumption), hun]; refine unB_no (k := k) (by omega) ?_; simp only [unAt, Bool.and_eq_true, Bool.or_eq_true, decide_eq_true_iff]; omega)
    all_goals try (refine lp (k + 1) ⟨by omega, unAt_step hq ?_⟩ (by omega); simp only [unAt, Bool.and_eq_true, Bool.or_eq_true, decide_eq_true_iff]; omega)
    all_goals (refine fin (vB ?_); rw [wh2 (by assumption), hun, unB_all (k := k) (by omega) hq, Bool.eq_iff_iff]; simp only [Bool.and_eq_true, Bool.or_eq_true, decide_eq_true_iff]; first | grind | fail)⟩
/-- The leaf before the k-th. -/
def pvV (lo : Int) (l : List Int) : Nat → Int
  | 0 => lo - 1
  | k + 1 => rd l (k : Int)
theorem pv_ge {t : List Nd} {lo hi : Int} {l : List Int} {k : Nat} (hq : ∀ q, q < k → unAt t lo hi l q = true) : lo - 1 ≤ pvV lo l k := by
  cases k with
  | zero => exact Int.le_refl _
  | succ k =>
    have := hq k (by omega)
    simp only [unAt, Bool.and_eq_true, Bool.or_eq_true, decide_eq_true_iff] at this
    show lo - 1 ≤ rd l (k : Int); omega
theorem un_no {t : List Nd} {lo hi : Int} {l : List Int} {k : Nat} (h : rd l (k : Int) ≤ pvV lo l k) : ¬ unAt t lo hi l k = true := by
  simp only [unAt, Bool.and_eq_true, Bool.or_eq_true, decide_eq_true_iff]
  cases k with
  | zero => rw [pvV] at h; omega
  | succ k => rw [pvV] at h; rw [show ((k + 1 : Nat) : Int) - 1 = (k : Int) by omega]; omega
theorem un_yes {t : List Nd} {lo hi : Int} {l : List Int} {k : Nat} (hq : ∀ q, q < k → unAt t lo hi l q = true) (h : ¬ rd l (k : Int) ≤ pvV lo l k) (h1 : rd l (k : Int) ≤ hi) (h2 : (rd t (2 * rd l (k : Int))).kind = 1) : unAt t lo hi l k = true := by
  have := pv_ge hq
  simp only [unAt, Bool.and_eq_true, Bool.or_eq_true, decide_eq_true_iff]
  cases k with
  | zero => rw [pvV] at h; omega
  | succ k => rw [pvV] at h this; rw [show ((k + 1 : Nat) : Int) - 1 = (k : Int) by omega]; omega
instance rWhole : CC Tryd.prog 43 (∀ (t : List Nd) (x : Int), okL t → 0 ≤ x ∧ x < (t.length : Int) → 0 ≤ (leavesV x).1 ∧ 2 * (leavesV x).2 < (t.length : Int) → (leavesV x).1 ≤ 1000000 → C 43 [gT t, .int .i64 x] (.bool (wholeB t x))) := ⟨fun t x h1 h2 h3 h4 => by
  refine ct Tryd.func43 fun {Z} H => ?_
  have hl := h1.1
  have hn := h1.2 _ (rd_mem h2)
  repeat' first | refine go ?_ | (refine sp ?_ ?_ <;> intro h) | intro b
  · refine fin (vB ?_); rw [wh0 (by assumption), ← nd_blank (by assumption) (by assumption), decide_eq_decide]; omega
  · refine fin (vB ?_); rw [wh0 (by assumption), ← nd_blank (by assumption) (by assumption)]; symm; rw [decide_eq_false_iff_not]; omega
  · refine fin (vB ?_); rw [wh0 (by assumption), ← nd_blank (by assumption) (by assumption)]; symm; rw [decide_eq_false_iff_not]; omega
  · refine fin (vB ?_); rw [wh0 (by assumption)]; exact nd_blank2 ‹_›
  all_goals try (refine fin (vB ?_); by_cases hk1 : (rd t x).kind = 1; (rw [wh1 hk1, Bool.eq_iff_iff]; simp only [Bool.and_eq_true, Bool.or_eq_true, decide_eq_true_iff]; grind); by_cases hk2 : (rd t x).kind = 2; (rw [wh2 hk2, Bool.eq_iff_iff]; simp only [Bool.and_eq_true, Bool.or_eq_true, decide_eq_true_iff]; grind); first | exact (whN (by assumption) hk1 hk2).symm | (exfalso; omega))
  all_goals
    have hk2 : (rd t x).kind = 2 := by omega
    generalize hun : (rd t x).un = un at *
    refine W.loop (fun k : Nat => [(0, gT t), (5, .ref 0 0), (8, .int .i64 (leavesV x).2), (9, .int .i64 (pvV (leavesV x).1 un k)), (10, .int .i64 k)]) (fun _ => [.box [.int .i64 (rd t x).kind, .int .i64 (rd t x).name, gB (rd t x).pub, gI un, gB (rd t x).hash]]) (fun k => k ≤ un.length ∧ ∀ q, q < k → unAt t (leavesV x).1 (leavesV x).2 un q = true) (fun k => un.length - k) 0 ⟨Nat.zero_le _, fun q hq => absurd hq (Nat.not_lt_zero q)⟩ ?_
    rintro k env ⟨hk, hq⟩
    have hpv := pv_ge hq
    repeat' first | refine go ?_ | (refine sp ?_ ?_ <;> intro h) | intro b
    all_goals try (refine fin (vB ?_); rw [wh2 (by assumption), hun]; refine unB_no (k := k) (by omega) ?_; first | exact un_no (by assumption) | (simp only [unAt, Bool.and_eq_true, Bool.or_eq_true, decide_eq_true_iff]; omega))
    all_goals try exact lp (k + 1) ⟨by omega, unAt_step hq (un_yes hq (by omega) (by omega) (by omega))⟩ (by omega)
    (refine fin (vB ?_); rw [wh2 (by assumption), hun, unB_all (k := k) (by omega) hq, Bool.eq_iff_iff]; simp only [Bool.and_eq_true, Bool.or_eq_true, decide_eq_true_iff]; first | grind | fail)⟩
end Go.Proofs.Mth
end
