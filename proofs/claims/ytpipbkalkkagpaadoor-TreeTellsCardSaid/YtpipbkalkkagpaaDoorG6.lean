import Derived.Test.YtpipbkalkkagpaaDoorTie
import Derived.Test.YtpipbkalkkagpaaDoorCards
import Derived.Test.YtpipbkalkkagpaaDoorPv24
import Derived.Test.YtpipbkalkkagpaaDoorG4
import Derived.Test.YtpipbkalkkagpaaDoorG5
import Derived.ProofKit
import Derived.LaidMore
import Derived.OpenShut
import Derived.Stop.Joined
set_option linter.unusedVariables false
set_option linter.unusedSimpArgs false
set_option linter.unusedSectionVars false
section
/- Tree's seat: its listed variables; what the walks ask of the blocks that nobody turns holds. -/
set_option maxRecDepth 100000
set_option linter.unusedVariables false
namespace Go.Proofs.Mth
open Go Go.Pv Go.Proofs Go.ChangeShapes Go.WideShapes Go.ChangeAt Go.RowKit Go.Proofs.YtpipbkalkkagpaaDoor
theorem own : ownKnob Tryd.prog.godebug = none := by kernel_rfl
def theLaid : List (String × DataW Unit) := [("math/bits.deBruijn32tab", Rows.laid_math_bits_deBruijn32tab), ("math/bits.deBruijn64tab", Rows.laid_math_bits_deBruijn64tab)]
theorem g0 : Tryd.prog.globalNamed "math/bits.deBruijn32tab" = some 0 := by kernel_rfl
theorem g1 : Tryd.prog.globalNamed "math/bits.deBruijn64tab" = some 1 := by kernel_rfl
theorem u1 : ((Tryd.prog.globals[1]?).map (·.type)).bind Tryd.prog.underlying = some (.array 64 5) := by kernel_rfl
theorem door_met (os : Os) (args : Array Value) : laidMetH Tryd.prog theLaid ((World.doorLaid Tryd.prog 400 os).forCall (fun _ _ => 0) ⟨#[], args, []⟩).memory :=
  laidMetH_of_parts3 (fuel := 8) (laidMet_of_run' 8 (by kernel_rfl) (by kernel_rfl)) (by kernel_rfl) (by kernel_rfl)
def items : DataW Unit → List (DataW Unit)
  | .agg l => l
  | _ => []
def isU8 : Option (DataW Unit) → Nat → Bool
  | some (.lit (.int .u8 n)), m => n == (m : Int)
  | _, _ => false
theorem of_laid {W : World} (h : laidMetH Tryd.prog theLaid W) : TabAt 1 Lib.deBruijn64tab W := by
  rw [MakeChecks.laidMetH_plain _ _ _ (by kernel_rfl)] at h
  obtain ⟨ps, ⟨g0', t0, cs0, f0, p0, q0, hg0, ht0, hv0, hd0, ⟨g1', t1', cs1, f1, p1, q1, hg1, ht1, hv1, hd1, _, _⟩, _⟩, _, _⟩ := h
  obtain rfl := Option.some.inj (g1.symm.trans hg1)
  have u1' : Tryd.prog.underlying t1' = some (.array 64 5) := by
    have := u1
    rwa [ht1] at this
  obtain ⟨xs, m1, rfl, hx1, hlen, hn3, hel⟩ := DataW.trod_array u1' hd1
  have c5 : Tryd.prog.cellsOf 5 = 1 := by kernel_rfl
  have hall : ∀ i (hi : i < 64), ∃ k : Int, cs1.toList[i]? = some (.int .u8 k) ∧ (xs[i]'(by omega)).1 = .lit (.int .u8 k) := by
    intro i hi
    have h0 := hel i hi
    rw [c5, Nat.mul_one, List.getElem?_eq_getElem (by omega)] at h0
    obtain ⟨k, e1, e2, _⟩ := DataW.trod_int (k := .u8) (by kernel_rfl) h0
    refine ⟨k, ?_, by rw [e2]⟩
    have : ((cs1.toList.drop i).take 1)[0]? = some (.int .u8 k) := by rw [e1]; rfl
    simpa using this
  intro j hj
  have hj' : j < 64 := hj
  obtain ⟨k, h1, h2⟩ := hall j hj'
  have h3 := World.var?_cell hg1 hv1 j
  have h4 : cs1[j]? = some (.int .u8 k) := by rw [← Array.getElem?_toList]; exact h1
  rw [h4] at h3
  rw [h3]
  have hx2 : (xs.map (·.1))[j]? = some (.lit (.int .u8 k)) := by rw [List.getElem?_map, List.getElem?_eq_getElem (by omega), Option.map_some, h2]
  have hx3 : DataW.agg (xs.map (·.1)) = (Rows.laid_math_bits_deBruijn64tab : DataW Unit) := by
    have := congrArg Prod.fst hx1
    simpa using this.symm
  have key : ∀ i, i < 64 → ∀ k : Int, xs.map (·.1) = items Rows.laid_math_bits_deBruijn64tab := by
    intro i hi k; rw [← hx3]; rfl
  have hx4 := key 0 (by decide) 0
  rw [hx4] at hx2
  have tab : ((List.range 64).all fun i => isU8 (items Rows.laid_math_bits_deBruijn64tab)[i]? (Lib.deBruijn64tab.getD i 0)) = true := by kernel_rfl
  have := all_lt tab j hj'
  rw [hx2] at this
  rw [eq_of_beq (show (k == ((Lib.deBruijn64tab.getD j 0 : Nat) : Int)) = true from this)]
/-- The blocks that nobody turns: the table. -/
def Zl (W : World) (B : Nat) (o : Go.Obj) : Prop := B = 1 ∧ W.heap[B]? = some o
theorem Zl_ok {W : World} (h : TabAt 1 Lib.deBruijn64tab W) : ZT (Zl W) where
  z := by
    rintro B o ⟨rfl, ho⟩
    have := h 0 (by decide)
    unfold World.cell? at this
    rw [ho] at this
    cases o <;> first | exact ⟨_, _, _, rfl⟩ | (simp at this)
  t := by
    intro G L w hr j hj
    have hc := h j hj
    cases hh : W.heap[1]? with
    | none => simp [World.cell?, hh] at hc
    | some o =>
      have := hr.zc 1 o ⟨rfl, hh⟩
      rw [World.cell_congr (w := W) (by rw [this, hh])]
      exact hc
theorem u16_wf {a : Int} (h : (Lit.int .u16 a).wf = true) : 0 ≤ a ∧ a < 65536 := by
  simp [Lit.wf, IntKind.min, IntKind.max, IntKind.signed, IntKind.bits] at h; omega
theorem u8_wf {a : Int} (h : (Lit.int .u8 a).wf = true) : 0 ≤ a ∧ a < 256 := by
  simp [Lit.wf, IntKind.min, IntKind.max, IntKind.signed, IntKind.bits] at h; omega
theorem i64_wf {a : Int} (h : (Lit.int .i64 a).wf = true) : -9223372036854775808 ≤ a ∧ a ≤ 9223372036854775807 := by
  simp [Lit.wf, IntKind.min, IntKind.max, IntKind.signed, IntKind.bits] at h; omega
theorem hasBlock {W : World} : ∀ B o, Zl W B o → W.heap[B]? = some o := fun _ _ h => h.2
/-! arguments that came in -/
theorem cells8 : Tryd.prog.cellsOf 5 = 1 := by kernel_rfl
theorem opnB (W : World) : Opn Tryd.prog W 23 gB (fun _ => True) := Opn.bytes (e := 5) (by kernel_rfl) (by kernel_rfl) cells8
theorem opnI (W : World) : Opn Tryd.prog W 3 (V.int .i64) (fun _ => True) := Opn.map (Opn.int (by kernel_rfl)) id (fun _ _ => rfl) (fun _ _ => trivial)
theorem opnIs (W : World) : Opn Tryd.prog W 38 gI (fun _ => True) := Opn.map (Opn.slice (g := V.int .i64) (e := 3) (by kernel_rfl) (sz := 1) (by kernel_rfl) (by decide) (fun _ => rfl) (opnI W)) id (fun _ _ => rfl) (fun _ _ => trivial)
theorem opnN (W : World) : Opn Tryd.prog W 45 gN (fun _ => True) :=
  Opn.map (Opn.struct rfl (OpnL.cons rfl rfl (opnI W) (fun _ => rfl) (OpnL.cons rfl rfl (opnI W) (fun _ => rfl) (OpnL.cons rfl rfl (opnB W) (fun _ => rfl) (OpnL.cons rfl rfl (opnIs W) (fun _ => rfl) (OpnL.cons rfl rfl (opnB W) (fun _ => rfl) OpnL.nil))))) (fun _ => by rfl))
    (fun p => ⟨p.1, p.2.1, p.2.2.1, p.2.2.2.1, p.2.2.2.2.1⟩) (fun _ _ => rfl) (fun _ _ => trivial)
theorem opnT (W : World) : Opn Tryd.prog W 22 gT (fun _ => True) := Opn.map (Opn.slice (g := gN) (e := 45) (by kernel_rfl) (sz := 5) (by kernel_rfl) (by decide) (fun _ => rfl) (opnN W)) id (fun _ _ => rfl) (fun _ _ => trivial)
def gTells (p : List Nd × List Nd × Int × List UInt8 × Int × Unit) : V := .agg [gT p.1, gT p.2.1, .int .i64 p.2.2.1, gB p.2.2.2.1, .int .i64 p.2.2.2.2.1]
theorem opnTells (W : World) : Opn Tryd.prog W 25 gTells (fun _ => True) :=
  Opn.map (Opn.struct rfl (OpnL.cons rfl rfl (opnT W) (fun _ => rfl) (OpnL.cons rfl rfl (opnT W) (fun _ => rfl) (OpnL.cons rfl rfl (opnI W) (fun _ => rfl) (OpnL.cons rfl rfl (opnB W) (fun _ => rfl) (OpnL.cons rfl rfl (opnI W) (fun _ => rfl) OpnL.nil))))) (fun _ => by rfl))
    id (fun _ _ => rfl) (fun _ _ => trivial)
end Go.Proofs.Mth
end
section
/- Places of a tree: the program's plain functions. -/
set_option linter.unusedVariables false
set_option linter.unusedSimpArgs false
set_option maxRecDepth 100000
set_option maxHeartbeats 1000000
namespace Go.Proofs.Mth
open Go Go.Pv Go.Proofs Go.Shelf
theorem not_val {x : Int} (h0 : 0 ≤ x) (h1 : x < 2047) : IntKind.u64.wrap ((BitVec.ofInt 64 18446744073709551615 ^^^ BitVec.ofInt 64 (IntKind.u64.wrap x)).toNat : Nat) = ((18446744073709551615 - x.toNat : Nat) : Int) := by
  obtain ⟨n, rfl⟩ := Int.eq_ofNat_of_zero_le h0
  have hn : n < 2047 := by omega
  have : (IntKind.u64.wrap ((BitVec.ofInt 64 18446744073709551615 ^^^ BitVec.ofInt 64 (IntKind.u64.wrap (n : Int))).toNat : Nat) == ((18446744073709551615 - n : Nat) : Int)) = true :=
    all_lt (n := 2047) (p := fun n => IntKind.u64.wrap ((BitVec.ofInt 64 18446744073709551615 ^^^ BitVec.ofInt 64 (IntKind.u64.wrap (n : Int))).toNat : Nat) == ((18446744073709551615 - n : Nat) : Int)) (by kernel_rfl) n hn
  simpa using this
instance tz : CC Tryd.prog 90 (∀ (x : Nat), x < 18446744073709551616 → C 90 [.int .u64 x] (.int .i64 (Lib.ctz 64 x))) := ⟨fun x h1 => by
  refine ct Tryd.func90 fun {Z} H => ?_
  repeat' first | refine go ?_ | (refine sp ?_ ?_ <;> intro h) | intro b
  exact fin rfl⟩
instance isTree : CC Tryd.prog 73 (∀ (n : Int), C 73 [.int .i64 n] (.bool (isT n))) := ⟨fun n => by
  refine ct Tryd.func73 fun {Z} H => ?_
  repeat' first | refine go ?_ | (refine sp ?_ ?_ <;> intro h) | intro b
  all_goals refine fin (vB ?_)
  · obtain ⟨m, rfl⟩ := Int.eq_ofNat_of_zero_le (show 0 ≤ n by omega)
    have := isT_bits m (by omega)
    have e0 : (m == 0) = false := by rw [beq_eq_false_iff_ne]; omega
    simp only [e0, Bool.false_or, beq_iff_eq] at this
    rw [show IntKind.i64.wrap ((m : Int) - 1) = (m : Int) - 1 by rw [IntKind.wrap_i64]; omega] at this
    unfold isT
    rw [decide_eq_true (p := (1 : Int) ≤ m) (by omega), decide_eq_true (p := (m : Int) ≤ 1024) (by omega), Bool.true_and, Bool.true_and]
    refine Eq.trans ?_ this
    exact Bool.eq_iff_iff.2 (by rw [decide_eq_true_iff, beq_iff_eq]; rfl)
  all_goals simp [isT]; omega⟩
theorem isT_le {n : Int} (h : isT n = true) : 1 ≤ n ∧ n ≤ 1024 := by
  unfold isT at h
  simp only [Bool.and_eq_true, decide_eq_true_eq] at h
  exact ⟨h.1.1, h.1.2⟩
theorem isN_le {x n : Int} (h : isN x n = true) : isT n = true ∧ 0 ≤ x ∧ x < 2 * n - 1 := by
  unfold isN at h
  simp only [Bool.and_eq_true, decide_eq_true_eq] at h
  exact ⟨h.1.1, h.1.2, h.2⟩
instance isNode : CC Tryd.prog 86 (∀ (x n : Int), C 86 [.int .i64 x, .int .i64 n] (.bool (isN x n))) := ⟨fun x n => by
  refine ct Tryd.func86 fun {Z} H => ?_
  by_cases hn : isT n = true
  · have := isT_le hn
    repeat' first | refine go ?_ | (refine sp ?_ ?_ <;> intro h) | intro b
    all_goals refine fin (vB ?_)
    all_goals simp [isN, hn, *]
  · repeat' first | refine go ?_ | (refine sp ?_ ?_ <;> intro h) | intro b
    all_goals refine fin (vB ?_)
    all_goals simp [isN, hn]⟩
instance level : CC Tryd.prog 85 (∀ (x : Int), C 85 [.int .i64 x] (.int .i64 (lv x))) := ⟨fun x => by
  refine ct Tryd.func85 fun {Z} H => ?_
  have k1 : ∀ L, 0 ≤ x → x < 2047 → SE Tryd.prog Z 90 [.int .u64 (IntKind.u64.wrap ((BitVec.ofInt 64 18446744073709551615 ^^^ BitVec.ofInt 64 x).toNat : Nat))] L (.int .i64 (lv x)) L := fun L h0 h1 => by
    have := not_val h0 h1
    rw [wU64 (a := x) (by omega)] at this
    rw [this, show lv x = lev x.toNat from by unfold lv; rw [if_neg (by omega)], ← eq_of_beq (ctz_lev x.toNat (by omega))]
    exact tz.out (18446744073709551615 - x.toNat) (by omega) H L
  by_cases h : x < 0 ∨ 2047 ≤ x
  · have e : lv x = 0 := by unfold lv; rw [if_pos h]
    repeat' first | refine go ?_ | (refine sp ?_ ?_ <;> intro h) | intro b
    all_goals (refine fin (vI ?_); omega)
  · replace k1 := fun L => k1 L (by omega) (by omega)
    repeat' first | refine go ?_ | (refine sp ?_ ?_ <;> intro h) | intro b
    exact fin rfl⟩
instance up : CC Tryd.prog 92 (∀ (x : Nat), x < 2047 → C 92 [.int .i64 x] (.int .i64 (upN x))) := ⟨fun x h1 => by
  refine ct Tryd.func92 fun {Z} H => ?_
  repeat' first | refine go ?_ | (refine sp ?_ ?_ <;> intro h) | intro b
  refine fin (vI ?_)
  show upB x (IntKind.i64.wrap (1 * 2 ^ (min (lv x) 64))) (IntKind.i64.wrap (2 * 2 ^ (min (lv x) 64))) = _
  rw [lv_of x ‹_›]
  exact eq_of_beq (up_bits x ‹_›)⟩
theorem shl_val {s : Int} {k : Nat} (hs : s = 1 ∨ s = -1) (h : k ≠ 0) (hk : k ≤ 10) : IntKind.i64.wrap (s * 2 ^ (min ((k : Int) - 1).toNat 64)) = s * 2 ^ (k - 1) := by
  rw [show ((k : Int) - 1).toNat = k - 1 by omega, Nat.min_eq_left (by omega)]
  have := pow_le (k := k - 1) (by omega)
  rcases hs with rfl | rfl <;> rw [IntKind.wrap_i64] <;> omega
instance child : CC Tryd.prog 78 (∀ (x s : Int), s = 1 ∨ s = -1 → C 78 [.int .i64 x, .int .i64 s] (.tup [.int .i64 (childV x s).1, .int .i64 (childV x s).2])) := ⟨fun x s h1 => by
  refine ct Tryd.func78 fun {Z} H => ?_
  have hl := lv_le x
  repeat' first | refine go ?_ | (refine sp ?_ ?_ <;> intro h) | intro b
  · refine fin (vII ?_ ?_) <;> rw [childV, if_pos (by omega)] <;> rfl
  · have hk := pow_le (k := lv x - 1) (by omega)
    have hx : 0 ≤ x ∧ x < 2047 := by
      have h : (lv x : Int) ≠ 0 := by assumption
      unfold lv at h; split at h
      · exact absurd rfl h
      · omega
    refine fin (vII ?_ ?_)
    · rw [childV, if_neg (by omega)]
      show IntKind.i64.wrap (x + IntKind.i64.wrap (s * 2 ^ (min ((lv x : Int) - 1).toNat 64))) = x + s * 2 ^ (lv x - 1)
      rw [shl_val ‹_› (by omega) hl]
      rcases (by assumption : s = 1 ∨ s = -1) with rfl | rfl <;> rw [IntKind.wrap_i64] <;> omega
    · rw [childV, if_neg (by omega)]⟩
instance left : CC Tryd.prog 50 (∀ (x : Int), C 50 [.int .i64 x] (.tup [.int .i64 (childV x (-1)).1, .int .i64 (childV x (-1)).2])) := ⟨fun x => by
  refine ct Tryd.func50 fun {Z} H => ?_
  repeat' first | refine go ?_ | (refine sp ?_ ?_ <;> intro h) | intro b
  exact fin rfl⟩
instance right : CC Tryd.prog 51 (∀ (x : Int), C 51 [.int .i64 x] (.tup [.int .i64 (childV x 1).1, .int .i64 (childV x 1).2])) := ⟨fun x => by
  refine ct Tryd.func51 fun {Z} H => ?_
  repeat' first | refine go ?_ | (refine sp ?_ ?_ <;> intro h) | intro b
  exact fin rfl⟩
end Go.Proofs.Mth
end
section
/- Places of a tree: paths. -/
set_option linter.unusedVariables false
set_option linter.unusedSimpArgs false
set_option maxRecDepth 100000
set_option maxHeartbeats 1000000
namespace Go.Proofs.Mth
open Go Go.Pv Go.Proofs Go.Shelf
abbrev bx (n : Int) : Go.Pv.Obj := .box [.int .i64 n]
instance above : CC Tryd.prog 87 (∀ (x n : Int) {Z}, ZT Z → ∀ L, SE Tryd.prog Z 87 [.int .i64 x, .int .i64 n] L (.fn 91 [.ref L.length 0, .ref (L ++ [bx x]).length 0]) ((L ++ [bx x]) ++ [bx n])) := ⟨fun x n {Z} H L => by
  refine SE.full H.z Tryd.func87 rfl ?_
  repeat' first | refine go ?_ | (refine sp ?_ ?_ <;> intro h) | intro b
  exact K.fin rfl ⟨rfl, rfl⟩⟩
def gP (q : Nat × Nat) : Int := q.2
def gC (q : Nat × Nat) : Int := 2 * q.2 - q.1
def wayV (g : Nat × Nat → Int) (x n : Int) : List Int × Int := if isN x n then ((ups x.toNat n.toNat).map g, 0) else ([], 1)
instance path : CC Tryd.prog 80 (∀ (x n : Int), C 80 [.int .i64 x, .int .i64 n] (.tup [gI (wayV gP x n).1, .int .i64 (wayV gP x n).2])) := ⟨fun x n => by
  refine ct Tryd.func80 fun {Z} H => ?_
  by_cases h : isN x n = true
  · obtain ⟨j, y, hj, hy, rfl, rfl⟩ := isN_nat h
    have hb := two_pow_bound hj
    repeat' first | refine go ?_ | (refine sp ?_ ?_ <;> intro h) | intro b
    refine W.ghostB 0 1 rfl ?_
    refine W.rfS H.z Tryd.func91 rfl ?_
    repeat' first | refine go ?_ | (refine sp ?_ ?_ <;> intro h) | intro b
    refine W.loopU (fun (s : Nat × List Int) => [(0, .yl 4), (1, .ref 1 0), (2, .ref 2 0)]) (fun s => [(0, .box [.own 3 0 s.2.length s.2.length]), (1, bx s.1), (3, .buf 1 0 (s.2.map (V.int .i64)))])
      (fun s => s.1 < 2 * 2 ^ j - 1 ∧ ∃ done, s.2 = done.map gP ∧ ups y (2 ^ j) = done ++ ups s.1 (2 ^ j)) (fun s => 11 - lev s.1) (y, []) ⟨hy, [], rfl, rfl⟩ ?_
    rintro ⟨z, acc⟩ env ⟨hz, done, rfl, hd⟩
    have hl : done.length ≤ 11 := by
      have := ups_len y (2 ^ j)
      rw [hd, List.length_append] at this
      omega
    dsimp only at *
    repeat' first | refine go ?_ | (refine sp ?_ ?_ <;> intro h) | intro b
    · have hu := up_node j hj z hz (by omega)
      rw [ups_step hj hz (by omega)] at hd
      refine lu (upN z, done.map gP ++ [gP (z, upN z)]) ⟨hu.1, done ++ [(z, upN z)], by simp, by rw [hd, List.append_assoc]; rfl⟩ ?_
      have := lev_le (upN z) (by omega)
      dsimp only
      omega
    · rw [ups_end (x := z) hj (by omega), List.append_nil] at hd
      have hv : wayV gP (y : Int) ((2 ^ j : Nat) : Int) = (done.map gP, 0) := by
        unfold wayV
        rw [if_pos ‹_›, Int.toNat_natCast, Int.toNat_natCast, hd]
      rw [hv]
      exact fin rfl
  · have e : wayV gP x n = ([], 1) := by unfold wayV; rw [if_neg h]
    rw [e]
    repeat' first | refine go ?_ | (refine sp ?_ ?_ <;> intro h) | intro b
    exact fin rfl⟩
end Go.Proofs.Mth
end
section
/- Places of a tree: the reference. -/
set_option linter.unusedVariables false
set_option linter.unusedSimpArgs false
set_option maxRecDepth 100000
set_option maxHeartbeats 2000000
namespace Go.Proofs.Mth
open Go Go.Pv Go.Proofs Go.Shelf
theorem dbl (i : Nat) : (2 : Int) * ((2 ^ i : Nat) : Int) = ((2 ^ (i + 1) : Nat) : Int) := by
  rw [Nat.pow_succ]; push_cast; omega
theorem pow_mono {i j : Nat} (h : i < j) : 2 ^ i < 2 ^ j := Nat.pow_lt_pow_right (by omega) h
instance rTree : CC Tryd.prog 72 (∀ (n : Int), C 72 [.int .i64 n] (.bool (isT n))) := ⟨fun n => by
  refine ct Tryd.func72 fun {Z} H => ?_
  repeat' first | refine go ?_ | (refine sp ?_ ?_ <;> intro h) | intro b
  refine W.loop (fun i : Nat => [(0, .int .i64 n), (3, .int .i64 ((2 ^ i : Nat) : Int))]) (fun _ => []) (fun i => i ≤ 10 ∧ ∀ q, q < i → n ≠ ((2 ^ q : Nat) : Int)) (fun i => 10 - i) 0 ⟨by omega, fun q hq => absurd hq (Nat.not_lt_zero q)⟩ ?_
  rintro i env ⟨hi, hq⟩
  have hb := two_pow_bound (j := i) (by omega)
  have hd := dbl i
  have hc : i < 10 ∨ i = 10 := by omega
  rcases hc with hc | rfl
  · have := pow_mono hc
    repeat' first | refine go ?_ | (refine sp ?_ ?_ <;> intro h) | intro b
    · refine lp (i + 1) ⟨by omega, fun q hq' => ?_⟩ (by omega)
      by_cases hqi : q = i
      · subst hqi; exact fun h' => ‹¬ _ = n› h'.symm
      · exact hq q (by omega)
    · refine fin (vB ?_)
      rw [decide_eq_true ‹_›, ← ‹_ = n›]
      exact (isT_of (by omega)).symm
  · repeat' first | refine go ?_ | (refine sp ?_ ?_ <;> intro h) | intro b
    refine fin (vB ?_)
    by_cases hn : ((2 ^ 10 : Nat) : Int) = n
    · rw [decide_eq_true hn, ← hn]; exact (isT_of (by omega)).symm
    · rw [decide_eq_false hn]
      symm
      rw [Bool.eq_false_iff]
      intro ht
      obtain ⟨j, hj, e⟩ := isT_pow ht
      by_cases hj10 : j = 10
      · subst hj10; exact hn e.symm
      · exact hq j (by omega) e⟩
instance rNode : CC Tryd.prog 68 (∀ (x n : Int), C 68 [.int .i64 x, .int .i64 n] (.bool (isN x n))) := ⟨fun x n => by
  refine ct Tryd.func68 fun {Z} H => ?_
  by_cases hn : isT n = true
  · have := isT_le hn
    repeat' first | refine go ?_ | (refine sp ?_ ?_ <;> intro h) | intro b
    all_goals refine fin (vB ?_)
    all_goals simp [isN, hn, *]
  · repeat' first | refine go ?_ | (refine sp ?_ ?_ <;> intro h) | intro b
    all_goals refine fin (vB ?_)
    all_goals simp [isN, hn]⟩
instance rWidth : CC Tryd.prog 42 (∀ (n : Int), C 42 [.int .i64 n] (.tup [.int .i64 (widthV n).1, .int .i64 (widthV n).2])) := ⟨fun n => by
  refine ct Tryd.func42 fun {Z} H => ?_
  by_cases hn : isT n = true
  · have := isT_le hn
    repeat' first | refine go ?_ | (refine sp ?_ ?_ <;> intro h) | intro b
    refine fin (vII ?_ ?_) <;> simp [widthV, hn]
  · repeat' first | refine go ?_ | (refine sp ?_ ?_ <;> intro h) | intro b
    refine fin (vII ?_ ?_) <;> simp [widthV, hn]⟩
instance width : CC Tryd.prog 44 (∀ (n : Int), C 44 [.int .i64 n] (.tup [.int .i64 (widthV n).1, .int .i64 (widthV n).2])) := ⟨fun n => by
  refine ct Tryd.func44 fun {Z} H => ?_
  by_cases hn : isT n = true
  · have := isT_le hn
    repeat' first | refine go ?_ | (refine sp ?_ ?_ <;> intro h) | intro b
    refine fin (vII ?_ ?_) <;> simp [widthV, hn]
  · repeat' first | refine go ?_ | (refine sp ?_ ?_ <;> intro h) | intro b
    refine fin (vII ?_ ?_) <;> simp [widthV, hn]⟩
instance rHalf : CC Tryd.prog 79 (∀ (k : Nat), k ≤ 10 → C 79 [.int .i64 k] (.int .i64 ((2 ^ k : Nat) : Int))) := ⟨fun k h1 => by
  refine ct Tryd.func79 fun {Z} H => ?_
  repeat' first | refine go ?_ | (refine sp ?_ ?_ <;> intro h) | intro b
  refine W.loop (fun i : Nat => [(0, .int .i64 k), (3, .int .i64 ((2 ^ i : Nat) : Int)), (4, .int .i64 i)]) (fun _ => []) (fun i => i ≤ k) (fun i => k - i) 0 (Nat.zero_le _) ?_
  intro i env hi
  have hb := two_pow_bound (j := i) (by omega)
  have hd := dbl i
  try dsimp only at *
  repeat' first | refine go ?_ | (refine sp ?_ ?_ <;> intro h) | intro b
  · exact lp (i + 1) (by omega) (by omega)
  · refine fin (vI ?_)
    rw [show i = k by omega]⟩
instance rLevel : CC Tryd.prog 54 (∀ (x : Int), C 54 [.int .i64 x] (.int .i64 (lv x))) := ⟨fun x => by
  refine ct Tryd.func54 fun {Z} H => ?_
  by_cases h : x < 0 ∨ 2047 ≤ x
  · have e : lv x = 0 := by unfold lv; rw [if_pos h]
    repeat' first | refine go ?_ | (refine sp ?_ ?_ <;> intro h) | intro b
    refine W.loop (fun _ : Unit => [(0, .int .i64 x), (3, .int .i64 0), (4, .int .i64 x)]) (fun _ => []) (fun _ => True) (fun _ => 0) () trivial ?_
    intro _ env _
    repeat' first | refine go ?_ | (refine sp ?_ ?_ <;> intro h) | intro b
    all_goals (refine fin (vI ?_); omega)
  · obtain ⟨x, rfl⟩ := Int.eq_ofNat_of_zero_le (show 0 ≤ x by omega)
    rw [lv_of x (by omega)]
    repeat' first | refine go ?_ | (refine sp ?_ ?_ <;> intro h) | intro b
    refine W.loop (fun s : Nat × Nat => [(0, .int .i64 x), (3, .int .i64 s.1), (4, .int .i64 s.2)]) (fun _ => []) (fun s => s.2 ≤ x ∧ s.1 + levF (11 - s.1) s.2 = lev x ∧ s.1 ≤ 11 ∧ s.2 < 2 ^ (11 - s.1)) (fun s => s.2) (0, x) ⟨Nat.le_refl _, by simp [lev], by omega, by dsimp only; omega⟩ ?_
    rintro ⟨i, y⟩ env ⟨h1, h2, h3, h4⟩
    try dsimp only at *
    repeat' first | refine go ?_ | (refine sp ?_ ?_ <;> intro h) | intro b
    · have hi : i < 11 := by
        by_cases h : i = 11
        · subst h; simp at h4; omega
        · omega
      refine lp (i + 1, y / 2) ⟨by dsimp only; omega, ?_, by omega, ?_⟩ (by dsimp only; omega)
      · rw [show 11 - i = (11 - (i + 1)) + 1 by omega, levF, if_pos (by omega)] at h2
        dsimp only
        omega
      · rw [show 11 - i = (11 - (i + 1)) + 1 by omega, Nat.pow_succ] at h4
        dsimp only
        omega
    · refine fin (vI ?_)
      rw [← h2]
      by_cases hi : i = 11
      · subst hi; simp [levF]
      · rw [show 11 - i = (11 - (i + 1)) + 1 by omega, levF, if_neg (by omega)]; omega⟩
end Go.Proofs.Mth
end
section
/- Places of a tree: the reference's children, parents, leaves, paths; rows of ints. -/
set_option linter.unusedVariables false
set_option linter.unusedSimpArgs false
set_option maxRecDepth 100000
set_option maxHeartbeats 2000000
namespace Go.Proofs.Mth
open Go Go.Pv Go.Proofs Go.Shelf
theorem pow_cast (k : Nat) : (2 : Int) ^ k = ((2 ^ k : Nat) : Int) := by push_cast; rfl
theorem lvN {j y : Nat} (hj : j < 11) (hy : y < 2 * 2 ^ j - 1) : lv (y : Int) = lev y := lv_of y (by have := two_pow_bound hj; omega)
theorem up_in : ∀ j, j < 11 → ∀ x, x < 2 * 2 ^ j - 1 → x + 1 ≠ 2 ^ j → upN x % 2 = 1 ∧ (lN (upN x) = x ∨ rN (upN x) = x) := by
  have h : ((List.range 11).all fun j => (List.range (2 * 2 ^ j - 1)).all fun x => decide (x + 1 ≠ 2 ^ j → upN x % 2 = 1 ∧ (lN (upN x) = x ∨ rN (upN x) = x))) = true := by kernel_rfl
  intro j hj x hx
  exact of_decide_eq_true (all_lt (all_lt h j hj) x hx)
theorem childL {j y : Nat} (hj : j < 11) (hy : y < 2 * 2 ^ j - 1) (h : y % 2 = 1) : childV (y : Int) (-1) = (((lN y : Nat) : Int), 0) := by
  have hk := kids j hj y hy h
  unfold childV; rw [lvN hj hy, if_neg hk.1, pow_cast]
  have h1 := hk.2.1
  unfold lN at h1 ⊢
  congr 1
  have : 2 ^ (lev y - 1) ≤ y := by
    have := lev_low y (by have := two_pow_bound hj; omega)
    have : 2 ^ (lev y - 1 + 1) ≤ y + 1 := by rw [Nat.sub_add_cancel (by have := hk.1; omega)]; exact this
    rw [Nat.pow_succ] at this; omega
  omega
theorem childR {j y : Nat} (hj : j < 11) (hy : y < 2 * 2 ^ j - 1) (h : y % 2 = 1) : childV (y : Int) 1 = (((rN y : Nat) : Int), 0) := by
  have hk := kids j hj y hy h
  unfold childV; rw [lvN hj hy, if_neg hk.1, pow_cast]
  unfold rN
  congr 1
  generalize 2 ^ (lev y - 1) = e at *
  omega
theorem childE {j y : Nat} (hj : j < 11) (hy : y < 2 * 2 ^ j - 1) (h : y % 2 = 0) (s : Int) : childV (y : Int) s = (0, 1) := by
  unfold childV; rw [lvN hj hy, lev_even h, if_pos rfl]
theorem lv_pos_lt {x : Int} (h : lv x ≠ 0) : 0 ≤ x ∧ x < 2047 := by
  unfold lv at h; split at h
  · exact absurd rfl h
  · omega
theorem half1 {Z : Nat → Go.Obj → Prop} (H : ZT Z) {k : Nat} (h : k + 1 ≤ 10) (L : List Go.Pv.Obj) : SE Tryd.prog Z 79 [.int .i64 (((k + 1 : Nat) : Int) - 1)] L (.int .i64 ((2 ^ k : Nat) : Int)) L := by
  rw [show ((k + 1 : Nat) : Int) - 1 = (k : Nat) by omega]
  exact rHalf.out k (by omega) H L
instance rLeft : CC Tryd.prog 52 (∀ (x : Int), C 52 [.int .i64 x] (.tup [.int .i64 (childV x (-1)).1, .int .i64 (childV x (-1)).2])) := ⟨fun x => by
  refine ct Tryd.func52 fun {Z} H => ?_
  have k1 := rLevel.out x H
  have hle := lv_le x
  cases hk : lv x with
  | zero =>
    rw [hk] at k1
    repeat' first | refine go ?_ | (refine sp ?_ ?_ <;> intro h) | intro b
    refine fin (vII ?_ ?_) <;> unfold childV <;> rw [if_pos hk]
  | succ k =>
    rw [hk] at k1 hle
    have hp := lv_pos_lt (x := x) (by omega)
    have hb := two_pow_bound (j := k) (by omega)
    have k2 := half1 H hle
    repeat' first | refine go ?_ | (refine sp ?_ ?_ <;> intro h) | intro b
    refine fin (vII ?_ ?_) <;> unfold childV <;> rw [if_neg (by omega), hk, pow_cast, Nat.add_sub_cancel]
    omega⟩
instance rRight : CC Tryd.prog 53 (∀ (x : Int), C 53 [.int .i64 x] (.tup [.int .i64 (childV x 1).1, .int .i64 (childV x 1).2])) := ⟨fun x => by
  refine ct Tryd.func53 fun {Z} H => ?_
  have k1 := rLevel.out x H
  have hle := lv_le x
  cases hk : lv x with
  | zero =>
    rw [hk] at k1
    repeat' first | refine go ?_ | (refine sp ?_ ?_ <;> intro h) | intro b
    refine fin (vII ?_ ?_) <;> unfold childV <;> rw [if_pos hk]
  | succ k =>
    rw [hk] at k1 hle
    have hp := lv_pos_lt (x := x) (by omega)
    have hb := two_pow_bound (j := k) (by omega)
    have k2 := half1 H hle
    repeat' first | refine go ?_ | (refine sp ?_ ?_ <;> intro h) | intro b
    refine fin (vII ?_ ?_) <;> unfold childV <;> rw [if_neg (by omega), hk, pow_cast, Nat.add_sub_cancel]
    omega⟩
theorem parV_nat {j y : Nat} (hj : j < 11) (hy : y < 2 * 2 ^ j - 1) : parV (y : Int) ((2 ^ j : Nat) : Int) = if y + 1 = 2 ^ j then (0, 11) else (((upN y : Nat) : Int), 0) := by
  have hb := two_pow_bound hj
  unfold parV
  rw [if_pos (isN_of hj hy)]
  by_cases h : y + 1 = 2 ^ j
  · rw [if_pos h, if_pos (by omega)]
  · rw [if_neg h, if_neg (by omega)]; rfl
instance rParent : CC Tryd.prog 69 (∀ (x n : Int), C 69 [.int .i64 x, .int .i64 n] (.tup [.int .i64 (parV x n).1, .int .i64 (parV x n).2])) := ⟨fun x n => by
  refine ct Tryd.func69 fun {Z} H => ?_
  by_cases hN : isN x n = true
  · obtain ⟨j, y, hj, hy, rfl, rfl⟩ := isN_nat hN
    have hb := two_pow_bound hj
    repeat' first | refine go ?_ | (refine sp ?_ ?_ <;> intro h) | intro b
    refine W.loop (fun p : Nat => [(0, .int .i64 y), (1, .int .i64 ((2 ^ j : Nat) : Int)), (7, .int .i64 p)]) (fun _ => []) (fun p => p ≤ 2 * 2 ^ j - 1 ∧ ∀ q, q < p → ¬ (y + 1 ≠ 2 ^ j ∧ q = upN y)) (fun p => 2 * 2 ^ j - p) 0 ⟨Nat.zero_le _, fun q hq => absurd hq (Nat.not_lt_zero q)⟩ ?_
    rintro p env ⟨hp, hq⟩
    try dsimp only at *
    have hc : p < 2 * 2 ^ j - 1 ∨ p = 2 * 2 ^ j - 1 := by omega
    rcases hc with hpl | rfl
    · have k1 := rLeft.out (p : Int) H
      have k2 := rRight.out (p : Int) H
      have hnext : ∀ (hne : ¬ (y + 1 ≠ 2 ^ j ∧ p = upN y)), ∀ q, q < p + 1 → ¬ (y + 1 ≠ 2 ^ j ∧ q = upN y) := fun hne q hq' hc => by
        by_cases hqp : q = p
        · subst hqp; exact hne hc
        · exact hq q (by omega) hc
      by_cases ho : p % 2 = 1
      · rw [childL hj hpl ho] at k1
        rw [childR hj hpl ho] at k2
        have hk := kids j hj p hpl ho
        repeat' first | refine go ?_ | (refine sp ?_ ?_ <;> intro h) | intro b
        · have hl : lN p = y := by omega
          refine fin (vII ?_ ?_) <;> rw [parV_nat hj hy, if_neg (by rw [← hl]; exact hk.2.2.2.2.2.2.1)]
          rw [← hl, hk.2.2.2.2.1]
        · have hl : rN p = y := by omega
          refine fin (vII ?_ ?_) <;> rw [parV_nat hj hy, if_neg (by rw [← hl]; exact hk.2.2.2.2.2.2.2.1)]
          rw [← hl, hk.2.2.2.2.2.1]
        · refine lp (p + 1) ⟨by omega, hnext fun ⟨hc1, hc2⟩ => ?_⟩ (by omega)
          have hu := up_in j hj y hy hc1
          rw [← hc2] at hu
          omega
      · rw [childE hj hpl (by omega)] at k1 k2
        repeat' first | refine go ?_ | (refine sp ?_ ?_ <;> intro h) | intro b
        refine lp (p + 1) ⟨by omega, hnext fun ⟨hc1, hc2⟩ => ?_⟩ (by omega)
        have hu := up_in j hj y hy hc1
        rw [← hc2] at hu
        omega
    · repeat' first | refine go ?_ | (refine sp ?_ ?_ <;> intro h) | intro b
      refine fin (vII ?_ ?_) <;> rw [parV_nat hj hy] <;> by_cases h : y + 1 = 2 ^ j
      · rw [if_pos h]
      · exact absurd ⟨h, rfl⟩ (hq _ (up_node j hj y hy h).1)
      · rw [if_pos h]
      · exact absurd ⟨h, rfl⟩ (hq _ (up_node j hj y hy h).1)
  · repeat' first | refine go ?_ | (refine sp ?_ ?_ <;> intro h) | intro b
    refine fin (vII ?_ ?_) <;> unfold parV <;> rw [if_neg hN]⟩
end Go.Proofs.Mth
end
section
/- Places of a tree: leaves below a node, the reference's paths; rows of ints and of bytes. -/
set_option linter.unusedVariables false
set_option linter.unusedSimpArgs false
set_option maxRecDepth 100000
set_option maxHeartbeats 2000000
namespace Go.Proofs.Mth
open Go Go.Pv Go.Proofs Go.Shelf
def leavesV (x : Int) : Int × Int := if x < 0 ∨ 2047 ≤ x then (0, -1) else ((x - (2 ^ lv x - 1)) / 2, (x + (2 ^ lv x - 1)) / 2)
theorem go_left : ∀ x, x < 2047 → ∀ i, i ≤ lev x → lev (x + 2 ^ i - 2 ^ lev x) = i ∧ 2 ^ lev x ≤ x + 2 ^ i ∧ (0 < i → (x + 2 ^ i - 2 ^ lev x) % 2 = 1 ∧ lN (x + 2 ^ i - 2 ^ lev x) = x + 2 ^ (i - 1) - 2 ^ lev x) ∧ x + 2 ^ i - 2 ^ lev x < 2047 := by
  have h : ((List.range 2047).all fun x => (List.range (lev x + 1)).all fun i => decide (lev (x + 2 ^ i - 2 ^ lev x) = i ∧ 2 ^ lev x ≤ x + 2 ^ i ∧ (0 < i → (x + 2 ^ i - 2 ^ lev x) % 2 = 1 ∧ lN (x + 2 ^ i - 2 ^ lev x) = x + 2 ^ (i - 1) - 2 ^ lev x) ∧ x + 2 ^ i - 2 ^ lev x < 2047)) = true := by kernel_rfl
  intro x hx i hi
  exact of_decide_eq_true (all_lt (all_lt h x hx) i (by omega))
theorem go_right : ∀ x, x < 2047 → ∀ i, i ≤ lev x → lev (x + 2 ^ lev x - 2 ^ i) = i ∧ (0 < i → (x + 2 ^ lev x - 2 ^ i) % 2 = 1 ∧ rN (x + 2 ^ lev x - 2 ^ i) = x + 2 ^ lev x - 2 ^ (i - 1)) ∧ x + 2 ^ lev x - 2 ^ i < 2047 := by
  have h : ((List.range 2047).all fun x => (List.range (lev x + 1)).all fun i => decide (lev (x + 2 ^ lev x - 2 ^ i) = i ∧ (0 < i → (x + 2 ^ lev x - 2 ^ i) % 2 = 1 ∧ rN (x + 2 ^ lev x - 2 ^ i) = x + 2 ^ lev x - 2 ^ (i - 1)) ∧ x + 2 ^ lev x - 2 ^ i < 2047)) = true := by kernel_rfl
  intro x hx i hi
  exact of_decide_eq_true (all_lt (all_lt h x hx) i (by omega))
theorem leaves_nat : ∀ x, x < 2047 → leavesV (x : Nat) = ((((x + 1 - 2 ^ lev x) / 2 : Nat) : Int), (((x + 2 ^ lev x - 1) / 2 : Nat) : Int)) := by
  have h : ((List.range 2047).all fun x => decide (leavesV (x : Nat) = ((((x + 1 - 2 ^ lev x) / 2 : Nat) : Int), (((x + 2 ^ lev x - 1) / 2 : Nat) : Int)))) = true := by kernel_rfl
  intro x hx
  exact of_decide_eq_true (all_lt h x hx)
theorem leftN {Z : Nat → Go.Obj → Prop} (H : ZT Z) {y : Nat} (hy : y < 2047) (h : y % 2 = 1) (L : List Go.Pv.Obj) : SE Tryd.prog Z 52 [.int .i64 y] L (.tup [.int .i64 (lN y : Nat), .int .i64 0]) L := by
  have := rLeft.out y H L
  rwa [childL (j := 10) (by omega) (by omega) h] at this
theorem rightN {Z : Nat → Go.Obj → Prop} (H : ZT Z) {y : Nat} (hy : y < 2047) (h : y % 2 = 1) (L : List Go.Pv.Obj) : SE Tryd.prog Z 53 [.int .i64 y] L (.tup [.int .i64 (rN y : Nat), .int .i64 0]) L := by
  have := rRight.out y H L
  rwa [childR (j := 10) (by omega) (by omega) h] at this
theorem levelN {Z : Nat → Go.Obj → Prop} (H : ZT Z) {y : Nat} (hy : y < 2047) (L : List Go.Pv.Obj) : SE Tryd.prog Z 54 [.int .i64 y] L (.int .i64 (lev y)) L := by
  have := rLevel.out y H L
  rwa [lv_of y hy] at this
instance rLeaves : CC Tryd.prog 25 (∀ (x : Int), C 25 [.int .i64 x] (.tup [.int .i64 (leavesV x).1, .int .i64 (leavesV x).2])) := ⟨fun x => by
  refine ct Tryd.func25 fun {Z} H => ?_
  by_cases h0 : x < 0 ∨ 2047 ≤ x
  · repeat' first | refine go ?_ | (refine sp ?_ ?_ <;> intro h) | intro b
    all_goals refine fin (vII ?_ ?_) <;> unfold leavesV <;> rw [if_pos h0]
  · obtain ⟨x, rfl⟩ := Int.eq_ofNat_of_zero_le (show 0 ≤ x by omega)
    have hx : x < 2047 := by omega
    have hlow := lev_low x hx
    have hlx := lev_le x hx
    repeat' first | refine go ?_ | (refine sp ?_ ?_ <;> intro h) | intro b
    refine W.loop (fun i : Nat => [(0, .int .i64 x), (4, .int .i64 ((x + 2 ^ i - 2 ^ lev x : Nat) : Int)), (5, .int .i64 x)]) (fun _ => []) (fun i => i ≤ lev x) (fun i => i) (lev x) (Nat.le_refl _) ?_
    intro i env hi
    obtain ⟨g1, g2, g3, g4⟩ := go_left x hx i hi
    have k1 := levelN H g4
    rw [g1] at k1
    by_cases hi : i = 0
    · subst hi
      repeat' first | refine go ?_ | (refine sp ?_ ?_ <;> intro h) | intro b
      refine W.loop (fun k : Nat => [(0, .int .i64 x), (4, .int .i64 ((x + 1 - 2 ^ lev x : Nat) : Int)), (5, .int .i64 ((x + 2 ^ lev x - 2 ^ k : Nat) : Int))]) (fun _ => []) (fun i => i ≤ lev x) (fun i => i) (lev x) (Nat.le_refl _) ?_
      intro k env hk
      obtain ⟨q1, q3, q4⟩ := go_right x hx k hk
      have k1 := levelN H q4
      rw [q1] at k1
      by_cases hk0 : k = 0
      · subst hk0
        repeat' first | refine go ?_ | (refine sp ?_ ?_ <;> intro h) | intro b
        refine fin (vII ?_ ?_) <;> rw [leaves_nat x hx] <;> simp only [Nat.pow_zero] <;> omega
      · obtain ⟨q5, q6⟩ := q3 (by omega)
        have k2 := rightN H q4 q5
        rw [q6] at k2
        repeat' first | refine go ?_ | (refine sp ?_ ?_ <;> intro h) | intro b
        exact lp (k - 1) (by omega) (by omega)
    · obtain ⟨g5, g6⟩ := g3 (by omega)
      have k2 := leftN H g4 g5
      rw [g6] at k2
      repeat' first | refine go ?_ | (refine sp ?_ ?_ <;> intro h) | intro b
      exact lp (i - 1) (by omega) (by omega)⟩
theorem pow_low {x : Int} {k : Nat} (h : 2 ^ k ≤ x.toNat + 1) (h0 : 0 ≤ x) : (2 : Int) ^ k ≤ x + 1 := by
  have : ((2 ^ k : Nat) : Int) ≤ ((x.toNat + 1 : Nat) : Int) := Int.ofNat_le.2 h
  rw [Int.natCast_pow] at this
  have e : ((x.toNat + 1 : Nat) : Int) = x + 1 := by omega
  rw [e] at this
  exact this
instance leaves : CC Tryd.prog 74 (∀ (x : Int), C 74 [.int .i64 x] (.tup [.int .i64 (leavesV x).1, .int .i64 (leavesV x).2])) := ⟨fun x => by
  refine ct Tryd.func74 fun {Z} H => ?_
  by_cases h0 : x < 0 ∨ 2047 ≤ x
  · repeat' first | refine go ?_ | (refine sp ?_ ?_ <;> intro h) | intro b
    all_goals refine fin (vII ?_ ?_) <;> unfold leavesV <;> rw [if_pos h0]
  · have h5 : lv x = lev x.toNat := by unfold lv; rw [if_neg (by omega)]
    have h2 := lev_low x.toNat (by omega)
    have h3 := lv_le x
    have h4 := pow_le h3
    rw [← h5] at h2
    have h6 := pow_low h2 (show 0 ≤ x by omega)
    repeat' first | refine go ?_ | (refine sp ?_ ?_ <;> intro h) | intro b
    refine fin (vII ?_ ?_) <;> unfold leavesV <;> rw [if_neg h0]
    · show (x - (1 * 2 ^ lv x - 1)) / 2 = (x - (2 ^ lv x - 1)) / 2
      rw [Int.one_mul]
    · rw [show x + (1 * 2 ^ lv x - 1) = x + (2 ^ lv x - 1) by omega]⟩
instance ints : CC Tryd.prog 21 (∀ (a b : List Int), a.length ≤ 1000000000 → C 21 [gI a, gI b] (.bool (decide (a = b)))) := ⟨fun a b h1 => by
  refine ct Tryd.func21 fun {Z} H => ?_
  repeat' first | refine go ?_ | (refine sp ?_ ?_ <;> intro h) | intro b
  · refine fin (vB ?_)
    rw [decide_eq_false]; rintro rfl; omega
  · have hl : a.length = b.length := by omega
    refine W.loop (fun i : Nat => [(0, gI a), (1, gI b), (5, .int .i64 i)]) (fun _ => []) (fun i => i ≤ a.length ∧ ∀ q, q < i → a[q]? = b[q]?) (fun i => a.length - i) 0 ⟨Nat.zero_le _, fun q hq => absurd hq (Nat.not_lt_zero q)⟩ ?_
    rintro i env ⟨hi, hq⟩
    repeat' first | refine go ?_ | (refine sp ?_ ?_ <;> intro h) | intro b
    · refine fin (vB ?_)
      rw [decide_eq_false]; rintro rfl; exact ‹¬ _› rfl
    · refine lp (i + 1) ⟨by omega, fun q hq' => ?_⟩ (by omega)
      by_cases hqi : q = i
      · subst hqi
        have h1 := rd_get (l := a) (i := q) (by omega)
        have h2 := rd_get (l := b) (i := q) (by omega)
        rw [Int.toNat_natCast] at h1 h2
        rw [h1, h2]; exact congrArg some ‹_›
      · exact hq q (by omega)
    · refine fin (vB ?_)
      rw [decide_eq_true]
      refine List.ext_getElem? fun q => ?_
      by_cases hqa : q < a.length
      · exact hq q (by omega)
      · rw [List.getElem?_eq_none (by omega), List.getElem?_eq_none (by omega)]⟩
instance inI : CC Tryd.prog 27 (∀ (l : List Int) (n : Int), l.length ≤ 1000000000 → C 27 [gI l, .int .i64 n] (.bool (decide (n ∈ l)))) := ⟨fun l n h1 => by
  refine ct Tryd.func27 fun {Z} H => ?_
  repeat' first | refine go ?_ | (refine sp ?_ ?_ <;> intro h) | intro b
  refine W.loop (fun i : Nat => [(0, gI l), (1, .int .i64 n), (5, .int .i64 i)]) (fun _ => []) (fun i => i ≤ l.length ∧ ∀ q, q < i → l[q]? ≠ some n) (fun i => l.length - i) 0 ⟨Nat.zero_le _, fun q hq => absurd hq (Nat.not_lt_zero q)⟩ ?_
  rintro i env ⟨hi, hq⟩
  have hr : i < l.length → l[i]? = some (rd l i) := fun hlt => by
    have h1 := rd_get (l := l) (i := i) (by omega)
    rwa [Int.toNat_natCast] at h1
  repeat' first | refine go ?_ | (refine sp ?_ ?_ <;> intro h) | intro b
  · refine fin (vB ?_)
    rw [decide_eq_true]
    refine List.mem_iff_getElem?.2 ⟨i, ?_⟩
    rw [hr (by omega)]; exact congrArg some ‹_›
  · refine lp (i + 1) ⟨by omega, fun q hq' => ?_⟩ (by omega)
    by_cases hqi : q = i
    · subst hqi
      rw [hr (by omega)]
      exact fun h => ‹¬ _› (Option.some.inj h)
    · exact hq q (by omega)
  · refine fin (vB ?_)
    rw [decide_eq_false]
    intro hm
    obtain ⟨q, hm⟩ := List.mem_iff_getElem?.1 hm
    have := (List.getElem?_eq_some_iff.1 hm).1
    exact hq q (by omega) hm⟩
instance rSame : CC Tryd.prog 70 (∀ (a b : List UInt8), C 70 [gB a, gB b] (.bool (decide (a = b)))) := ⟨fun a b => by
  refine ct Tryd.func70 fun {Z} H => ?_
  repeat' first | refine go ?_ | (refine sp ?_ ?_ <;> intro h) | intro b
  refine fin (vB ?_)
  exact str_eq a b⟩
end Go.Proofs.Mth
end
section
/- Trees: names, leaves, rows that are the same. -/
set_option linter.unusedVariables false
set_option linter.unusedSimpArgs false
set_option maxRecDepth 100000
set_option maxHeartbeats 2000000
namespace Go.Proofs.Mth
open Go Go.Pv Go.Proofs Go.Shelf
instance count : CC Tryd.prog 45 (∀ (t : List Nd), t.length ≤ 1000000 → C 45 [gT t] (.int .i64 (cnt t : Nat))) := ⟨fun t h1 => by
  refine ct Tryd.func45 fun {Z} H => ?_
  repeat' first | refine go ?_ | (refine sp ?_ ?_ <;> intro h) | intro b
  exact fin (vI rfl)⟩
instance rCount : CC Tryd.prog 26 (∀ (t : List Nd), t.length ≤ 1000000 → C 26 [gT t] (.int .i64 (cnt t : Nat))) := ⟨fun t h1 => by
  refine ct Tryd.func26 fun {Z} H => ?_
  repeat' first | refine go ?_ | (refine sp ?_ ?_ <;> intro h) | intro b
  exact fin (vI rfl)⟩
instance isName : CC Tryd.prog 39 (∀ (name : Int) (pub : List UInt8), C 39 [.int .i64 name, gB pub] (.bool (isNm name pub))) := ⟨fun name pub => by
  refine ct Tryd.func39 fun {Z} H => ?_
  repeat' first | refine go ?_ | (refine sp ?_ ?_ <;> intro h) | intro b
  all_goals refine fin (vB ?_)
  all_goals rw [Bool.eq_iff_iff]
  all_goals simp [isNm]
  all_goals omega⟩
instance rMay : CC Tryd.prog 41 (∀ (name : Int) (pub : List UInt8), C 41 [.int .i64 name, gB pub] (.bool (isNm name pub))) := ⟨fun name pub => by
  refine ct Tryd.func41 fun {Z} H => ?_
  repeat' first | refine go ?_ | (refine sp ?_ ?_ <;> intro h) | intro b
  all_goals refine fin (vB ?_)
  all_goals rw [Bool.eq_iff_iff]
  all_goals simp [isNm]
  all_goals omega⟩
instance cloneB : CC Tryd.prog 71 (∀ (b : List UInt8), b.length ≤ 1000000 → C 71 [gB b] (gB b)) := ⟨fun b h1 => by
  refine ct Tryd.func71 fun {Z} H => ?_
  repeat' first | refine go ?_ | (refine sp ?_ ?_ <;> intro h) | intro b
  · obtain rfl := ‹_ → _› ‹_›
    exact fin rfl
  · exact fin rfl⟩
instance leaf : CC Tryd.prog 40 (∀ (name : Int) (pub : List UInt8), pub.length ≤ 1000000 → C 40 [.int .i64 name, gB pub] (gN (leafN name pub))) := ⟨fun name pub h1 => by
  refine ct Tryd.func40 fun {Z} H => ?_
  repeat' first | refine go ?_ | (refine sp ?_ ?_ <;> intro h) | intro b
  exact fin rfl⟩
instance eqB : CC Tryd.prog 75 (∀ (a b : List UInt8), C 75 [gB a, gB b] (.bool (decide (a = b)))) := ⟨fun a b => by
  refine ct Tryd.func75 fun {Z} H => ?_
  repeat' first | refine go ?_ | (refine sp ?_ ?_ <;> intro h) | intro b
  exact fin (vB (str_eq a b))⟩
end Go.Proofs.Mth
end
section
/- Trees: those that are the same; new ones; small ones. -/
set_option linter.unusedVariables false
set_option linter.unusedSimpArgs false
set_option maxRecDepth 100000
set_option maxHeartbeats 2000000
namespace Go.Proofs.Mth
open Go Go.Pv Go.Proofs Go.Shelf
theorem eq_step {α : Type} [Inhabited α] {a b : List α} {i : Nat} (hl : a.length = b.length) (hi : i < a.length) (hq : ∀ q, q < i → a[q]? = b[q]?) (h : rd a (i : Int) = rd b (i : Int)) : ∀ q, q < i + 1 → a[q]? = b[q]? := fun q hq' => by
  by_cases hqi : q = i
  · subst hqi
    have h1 := rd_get (l := a) (i := q) (by omega)
    have h2 := rd_get (l := b) (i := q) (by omega)
    rw [Int.toNat_natCast] at h1 h2
    rw [h1, h2]; exact congrArg some h
  · exact hq q (by omega)
theorem eq_end {α : Type} {a b : List α} {i : Nat} (hl : a.length = b.length) (hi : a.length ≤ i) (hq : ∀ q, q < i → a[q]? = b[q]?) : a = b := by
  refine List.ext_getElem? fun q => ?_
  by_cases hqa : q < a.length
  · exact hq q (by omega)
  · rw [List.getElem?_eq_none (by omega), List.getElem?_eq_none (by omega)]
/-- Few bytes and leaves in each node. -/
def okL (t : List Nd) : Prop := t.length ≤ 1000 ∧ ∀ n ∈ t, n.pub.length ≤ 1000000 ∧ n.un.length ≤ 1000000 ∧ n.hash.length ≤ 1000000
instance eqI : CC Tryd.prog 76 (∀ (a b : List Int), a.length ≤ 1000000 → C 76 [gI a, gI b] (.bool (decide (a = b)))) := ⟨fun a b h1 => by
  refine ct Tryd.func76 fun {Z} H => ?_
  repeat' first | refine go ?_ | (refine sp ?_ ?_ <;> intro h) | intro b
  · refine fin (vB ?_)
    rw [decide_eq_false]; rintro rfl; omega
  · have hl : a.length = b.length := by omega
    refine W.loop (fun i : Nat => [(0, gI a), (1, gI b), (12, .int .i64 (a.length : Nat)), (13, .int .i64 i)]) (fun _ => []) (fun i => i ≤ a.length ∧ ∀ q, q < i → a[q]? = b[q]?) (fun i => a.length - i) 0 ⟨Nat.zero_le _, fun q hq => absurd hq (Nat.not_lt_zero q)⟩ ?_
    rintro i env ⟨hi, hq⟩
    repeat' first | refine go ?_ | (refine sp ?_ ?_ <;> intro h) | intro b
    · refine fin (vB ?_)
      rw [decide_eq_false]; rintro rfl; exact ‹¬ _› rfl
    · exact lp (i + 1) ⟨by omega, eq_step hl (by omega) hq ‹_›⟩ (by omega)
    · refine fin (vB ?_)
      rw [decide_eq_true (eq_end hl (by omega) hq)]⟩
theorem nd_eq {a b : Nd} (h1 : a.kind = b.kind) (h2 : a.name = b.name) (h3 : a.pub = b.pub) (h4 : a.un = b.un) : decide (a.hash = b.hash) = decide (a = b) := by
  cases a; cases b; simp_all
instance sameNode : CC Tryd.prog 48 (∀ (a b : Nd), a.un.length ≤ 1000000 → C 48 [gN a, gN b] (.bool (decide (a = b)))) := ⟨fun a b h1 => by
  refine ct Tryd.func48 fun {Z} H => ?_
  repeat' first | refine go ?_ | (refine sp ?_ ?_ <;> intro h) | intro b
  · exact fin (vB (nd_eq ‹_› ‹_› ‹_› ‹_›))
  all_goals (refine fin (vB ?_); rw [decide_eq_false]; rintro rfl; exact ‹¬ _› rfl)⟩
instance rSameNode : CC Tryd.prog 38 (∀ (a b : Nd), a.un.length ≤ 1000000 → C 38 [gN a, gN b] (.bool (decide (a = b)))) := ⟨fun a b h1 => by
  refine ct Tryd.func38 fun {Z} H => ?_
  repeat' first | refine go ?_ | (refine sp ?_ ?_ <;> intro h) | intro b
  · exact fin (vB (nd_eq ‹_› ‹_› ‹_› ‹_›))
  all_goals (refine fin (vB ?_); rw [decide_eq_false]; rintro rfl; exact ‹¬ _› rfl)⟩
instance eqT : CC Tryd.prog 47 (∀ (a b : List Nd), okL a → C 47 [gT a, gT b, .fn 48 []] (.bool (decide (a = b)))) := ⟨fun a b h1 => by
  refine ct Tryd.func47 fun {Z} H => ?_
  have ha := h1.1
  repeat' first | refine go ?_ | (refine sp ?_ ?_ <;> intro h) | intro b
  · refine fin (vB ?_)
    rw [decide_eq_false]; rintro rfl; omega
  · have hl : a.length = b.length := by omega
    refine W.loop (fun i : Nat => [(0, gT a), (1, gT b), (2, .fn 48 []), (15, gT a), (16, .int .i64 (a.length : Nat)), (17, .int .i64 i)]) (fun _ => []) (fun i => i ≤ a.length ∧ ∀ q, q < i → a[q]? = b[q]?) (fun i => a.length - i) 0 ⟨Nat.zero_le _, fun q hq => absurd hq (Nat.not_lt_zero q)⟩ ?_
    rintro i env ⟨hi, hq⟩
    have hm : i < a.length → (rd a (i : Int)).un.length ≤ 1000000 := fun h => (h1.2 _ (rd_mem (by omega))).2.1
    repeat' first | refine go ?_ | (refine sp ?_ ?_ <;> intro h) | intro b
    · refine fin (vB ?_)
      rw [decide_eq_false]; rintro rfl; exact ‹¬ _› rfl
    · exact lp (i + 1) ⟨by omega, eq_step hl (by omega) hq ‹_›⟩ (by omega)
    · refine fin (vB ?_)
      rw [decide_eq_true (eq_end hl (by omega) hq)]⟩
instance same : CC Tryd.prog 18 (∀ (a b : List Nd), okL a → C 18 [gT a, gT b] (.bool (decide (a = b)))) := ⟨fun a b h1 => by
  refine ct Tryd.func18 fun {Z} H => ?_
  repeat' first | refine go ?_ | (refine sp ?_ ?_ <;> intro h) | intro b
  exact fin rfl⟩
instance rSameT : CC Tryd.prog 16 (∀ (a b : List Nd), okL a → C 16 [gT a, gT b] (.bool (decide (a = b)))) := ⟨fun a b h1 => by
  refine ct Tryd.func16 fun {Z} H => ?_
  have ha := h1.1
  repeat' first | refine go ?_ | (refine sp ?_ ?_ <;> intro h) | intro b
  · refine fin (vB ?_)
    rw [decide_eq_false]; rintro rfl; omega
  · have hl : a.length = b.length := by omega
    refine W.loop (fun i : Nat => [(0, gT a), (1, gT b), (5, .int .i64 i)]) (fun _ => []) (fun i => i ≤ a.length ∧ ∀ q, q < i → a[q]? = b[q]?) (fun i => a.length - i) 0 ⟨Nat.zero_le _, fun q hq => absurd hq (Nat.not_lt_zero q)⟩ ?_
    rintro i env ⟨hi, hq⟩
    have hm : i < a.length → (rd a (i : Int)).un.length ≤ 1000000 := fun h => (h1.2 _ (rd_mem (by omega))).2.1
    repeat' first | refine go ?_ | (refine sp ?_ ?_ <;> intro h) | intro b
    · refine fin (vB ?_)
      rw [decide_eq_false]; rintro rfl; exact ‹¬ _› rfl
    · exact lp (i + 1) ⟨by omega, eq_step hl (by omega) hq ‹_›⟩ (by omega)
    · refine fin (vB ?_)
      rw [decide_eq_true (eq_end hl (by omega) hq)]⟩
instance new : CC Tryd.prog 13 (∀ (name : Int) (pub : List UInt8), pub.length ≤ 1000000 → C 13 [.int .i64 name, gB pub] (.tup [gT (newV name pub).1, .int .i64 (newV name pub).2])) := ⟨fun name pub h1 => by
  refine ct Tryd.func13 fun {Z} H => ?_
  by_cases hn : isNm name pub = true
  · have e : newV name pub = ([leafN name pub], 0) := by unfold newV; rw [if_pos hn]
    rw [e]
    repeat' first | refine go ?_ | (refine sp ?_ ?_ <;> intro h) | intro b
    exact fin rfl
  · have e : newV name pub = ([], 1) := by unfold newV; rw [if_neg hn]
    rw [e]
    repeat' first | refine go ?_ | (refine sp ?_ ?_ <;> intro h) | intro b
    exact fin rfl⟩
instance rNew : CC Tryd.prog 14 (∀ (name : Int) (pub : List UInt8), pub.length ≤ 1000000 → C 14 [.int .i64 name, gB pub] (.tup [gT (newV name pub).1, .int .i64 (newV name pub).2])) := ⟨fun name pub h1 => by
  refine ct Tryd.func14 fun {Z} H => ?_
  by_cases hn : isNm name pub = true
  · have e : newV name pub = ([leafN name pub], 0) := by unfold newV; rw [if_pos hn]
    rw [e]
    repeat' first | refine go ?_ | (refine sp ?_ ?_ <;> intro h) | intro b
    exact finD rfl
  · have e : newV name pub = ([], 1) := by unfold newV; rw [if_neg hn]
    rw [e]
    repeat' first | refine go ?_ | (refine sp ?_ ?_ <;> intro h) | intro b
    exact fin rfl⟩
end Go.Proofs.Mth
end
section
/- Trees: leaves are looked for. -/
set_option linter.unusedVariables false
set_option linter.unusedSimpArgs false
set_option maxRecDepth 100000
set_option maxHeartbeats 2000000
namespace Go.Proofs.Mth
open Go Go.Pv Go.Proofs Go.Shelf
instance leavesF : CC Tryd.prog 49 (∀ (v : V), v.cells = [v] → v.one = true → ∀ {Z}, ZT Z → ∀ L, SE Tryd.prog Z 49 [v] L (.fn 77 [.ref L.length 0]) (L ++ [.box [v]])) := ⟨fun v hc ho {Z} H L => by
  refine SE.full H.z Tryd.func49 rfl ?_
  refine one ?_
  refine X.opr (v := .ref L.length 0) (L0 := L ++ [.box [v]]) ⟨?_⟩ ?_
  · show (if v.cells.all V.one = true then some (V.ref L.length 0, L ++ [Pv.Obj.box v.cells]) else none) = _
    rw [hc, if_pos (by simp [ho])]
  repeat' first | refine go ?_ | (refine sp ?_ ?_ <;> intro h) | intro b
  exact K.fin rfl ⟨rfl, rfl⟩⟩
instance find : CC Tryd.prog 19 (∀ (t : List Nd) (name : Int), t.length ≤ 1000000 → C 19 [gT t, .int .i64 name] (.tup [.int .i64 (findV t name).1, .bool (findV t name).2])) := ⟨fun t name h1 => by
  refine ct Tryd.func19 fun {Z} H => ?_
  repeat' first | refine go ?_ | (refine sp ?_ ?_ <;> intro h) | intro b
  refine W.rfS H.z Tryd.func77 rfl ?_
  repeat' first | refine go ?_ | (refine sp ?_ ?_ <;> intro h) | intro b
  refine W.loopV (fun i : Nat => [(0, .yl 4), (1, .ref 3 0), (5, .int .i64 (cnt t : Nat)), (6, .int .i64 i)]) (fun _ => []) (fun i => i ≤ cnt t ∧ ∀ q, q < i → isLf t name q = false) (fun i => cnt t - i) 0 ⟨Nat.zero_le _, fun q hq => absurd hq (Nat.not_lt_zero q)⟩ ?_
  rintro i env ⟨hi, hq⟩
  have hx : i < cnt t → 2 * i < t.length := lf_at
  repeat' first | refine go ?_ | (refine sp ?_ ?_ <;> intro h) | intro b
  · refine fin ?_
    rw [findV, find_some (i := i) (by omega) (by simp [isLf, lf, *]) hq]
    rfl
  all_goals try exact lp (i + 1) ⟨by omega, step_lt hq (by simp [isLf, lf, *])⟩ (by omega)
  · refine fin ?_
    rw [findV, find_none fun q hq' => hq q (by omega)]
    rfl⟩
instance rFind : CC Tryd.prog 20 (∀ (t : List Nd) (name : Int), t.length ≤ 1000000 → C 20 [gT t, .int .i64 name] (.tup [.int .i64 (findV t name).1, .bool (findV t name).2])) := ⟨fun t name h1 => by
  refine ct Tryd.func20 fun {Z} H => ?_
  repeat' first | refine go ?_ | (refine sp ?_ ?_ <;> intro h) | intro b
  refine W.loop (fun i : Nat => [(0, gT t), (1, .int .i64 name), (6, .int .i64 i)]) (fun _ => []) (fun i => i ≤ cnt t ∧ ∀ q, q < i → isLf t name q = false) (fun i => cnt t - i) 0 ⟨Nat.zero_le _, fun q hq => absurd hq (Nat.not_lt_zero q)⟩ ?_
  rintro i env ⟨hi, hq⟩
  have hx : i < cnt t → 2 * i < t.length := lf_at
  repeat' first | refine go ?_ | (refine sp ?_ ?_ <;> intro h) | intro b
  · refine fin ?_
    rw [findV, find_some (i := i) (by omega) (by simp [isLf, lf, *]) hq]
    rfl
  all_goals try exact lp (i + 1) ⟨by omega, step_lt hq (by simp [isLf, lf, *])⟩ (by omega)
  · refine fin ?_
    rw [findV, find_none fun q hq' => hq q (by omega)]
    rfl⟩
instance free : CC Tryd.prog 55 (∀ (t : List Nd), t.length ≤ 1000000 → C 55 [gT t] (.int .i64 (freeN t : Nat))) := ⟨fun t h1 => by
  refine ct Tryd.func55 fun {Z} H => ?_
  repeat' first | refine go ?_ | (refine sp ?_ ?_ <;> intro h) | intro b
  refine W.rfS H.z Tryd.func77 rfl ?_
  repeat' first | refine go ?_ | (refine sp ?_ ?_ <;> intro h) | intro b
  refine W.loopV (fun i : Nat => [(0, .yl 2), (1, .ref 1 0), (5, .int .i64 (cnt t : Nat)), (6, .int .i64 i)]) (fun _ => []) (fun i => i ≤ cnt t ∧ ∀ q, q < i → decide ((lf t q).kind = 0) = false) (fun i => cnt t - i) 0 ⟨Nat.zero_le _, fun q hq => absurd hq (Nat.not_lt_zero q)⟩ ?_
  rintro i env ⟨hi, hq⟩
  have hx : i < cnt t → 2 * i < t.length := lf_at
  repeat' first | refine go ?_ | (refine sp ?_ ?_ <;> intro h) | intro b
  · refine fin (vI ?_)
    rw [freeN, find_some (i := i) (by omega) (by simp [lf, *]) hq]; rfl
  · exact lp (i + 1) ⟨by omega, step_lt hq (by simp [lf, *])⟩ (by omega)
  · refine fin (vI ?_)
    rw [freeN, find_none fun q hq' => hq q (by omega)]; rfl⟩
instance rUsed : CC Tryd.prog 29 (∀ (t : List Nd), t.length ≤ 1000000 → C 29 [gT t] (gI (usedL t))) := ⟨fun t h1 => by
  refine ct Tryd.func29 fun {Z} H => ?_
  repeat' first | refine go ?_ | (refine sp ?_ ?_ <;> intro h) | intro b
  refine W.ghost 3 1 rfl ?_
  refine W.loop (fun s : Nat × List Int => [(0, gT t), (3, .own 0 0 s.2.length s.2.length), (4, .int .i64 s.1)]) (fun s => [.buf 1 0 (s.2.map (V.int .i64))]) (fun s => s.1 ≤ cnt t ∧ s.2.length ≤ s.1 ∧ s.2 = ((List.range s.1).filter fun i => decide ((lf t i).kind = 1)).map fun (i : Nat) => (i : Int)) (fun s => cnt t - s.1) (0, []) ⟨Nat.zero_le _, Nat.le_refl _, rfl⟩ ?_
  rintro ⟨i, l⟩ env ⟨hi, hl, hq⟩
  dsimp only at *
  have hx : i < cnt t → 2 * i < t.length := lf_at
  have hc : cnt t ≤ 1000000 := by unfold cnt; omega
  repeat' first | refine go ?_ | (refine sp ?_ ?_ <;> intro h) | intro b
  · refine lp (i + 1, l ++ [(i : Int)]) ⟨by dsimp only; omega, by simp; omega, ?_⟩ (by dsimp only; omega)
    dsimp only
    rw [List.range_succ, List.filter_append, List.map_append, ← hq]
    simp [lf, *]
  · refine lp (i + 1, l) ⟨by dsimp only; omega, by dsimp only; omega, ?_⟩ (by dsimp only; omega)
    dsimp only
    rw [List.range_succ, List.filter_append, List.map_append, ← hq]
    simp [lf, *]
  · refine fin ?_
    rw [usedL, show cnt t = i by omega, ← hq]
    rfl⟩
instance rThere : CC Tryd.prog 65 (∀ (t : List Nd) (i : Int), t.length ≤ 1000000 → C 65 [gT t, .int .i64 i] (.bool (thereB t i))) := ⟨fun t i h1 => by
  refine ct Tryd.func65 fun {Z} H => ?_
  have hc : cnt t = (t.length + 1) / 2 := rfl
  repeat' first | refine go ?_ | (refine sp ?_ ?_ <;> intro h) | intro b
  all_goals refine fin (vB ?_)
  all_goals clear hc
  all_goals simp [thereB, *]⟩
instance isLeaf : CC Tryd.prog 61 (∀ (t : List Nd) (i : Int), t.length ≤ 1000000 → C 61 [gT t, .int .i64 i] (.bool (thereB t i))) := ⟨fun t i h1 => by
  refine ct Tryd.func61 fun {Z} H => ?_
  have hc : cnt t = (t.length + 1) / 2 := rfl
  repeat' first | refine go ?_ | (refine sp ?_ ?_ <;> intro h) | intro b
  all_goals refine fin (vB ?_)
  all_goals clear hc
  all_goals simp [thereB, *]⟩
instance clone : CC Tryd.prog 56 (∀ (t : List Nd), t.length ≤ 1000000 → O 56 [gT t] 5 t.length (t.map gN)) := ⟨fun t h1 => by
  refine co Tryd.func56 fun {Z} H => ?_
  repeat' first | refine go ?_ | (refine sp ?_ ?_ <;> intro h) | intro b
  · obtain rfl := ‹_ → _› ‹_›
    exact finG
  · exact finO⟩
instance rSmall : CC Tryd.prog 12 (∀ (t : List Nd) (m : Nat), t.length ≤ 1000000 → m ≤ 1000000 → C 12 [gT t, .int .i64 m] (.bool (smallB t m))) := ⟨fun t m h1 h2 => by
  refine ct Tryd.func12 fun {Z} H => ?_
  repeat' first | refine go ?_ | (refine sp ?_ ?_ <;> intro h) | intro b
  · refine fin (vB ?_)
    simp [smallB]; omega
  · refine W.loop (fun i : Nat => [(0, gT t), (1, .int .i64 m), (5, .int .i64 i)]) (fun _ => []) (fun i => i ≤ t.length ∧ ∀ q, q < i → okNd m (rd t (q : Int)) = true) (fun i => t.length - i) 0 ⟨Nat.zero_le _, fun q hq => absurd hq (Nat.not_lt_zero q)⟩ ?_
    rintro i env ⟨hi, hq⟩
    repeat' first | refine go ?_ | (refine sp ?_ ?_ <;> intro h) | intro b
    · refine fin (vB ?_); symm; rw [Bool.eq_false_iff]; intro hs
      have := smallB_rd hs (i := i) (by omega); simp [okNd] at this; omega
    · refine fin (vB ?_); symm; rw [Bool.eq_false_iff]; intro hs
      have := smallB_rd hs (i := i) (by omega); simp [okNd] at this; omega
    · refine fin (vB ?_); symm; rw [Bool.eq_false_iff]; intro hs
      have := smallB_rd hs (i := i) (by omega); simp [okNd] at this; omega
    · exact lp (i + 1) ⟨by omega, fun q hq' => by
        by_cases hqi : q = i
        · subst hqi; simp [okNd]; omega
        · exact hq q (by omega)⟩ (by omega)
    · refine fin (vB ?_)
      have := all_rd (p := okNd m) (l := t) fun q hq' => hq q (by omega)
      simp only [smallB, this, Bool.and_true]
      symm; rw [decide_eq_true_iff]; omega⟩
end Go.Proofs.Mth
end
section
/- Trees: paths, trees of which a path is blank. -/
set_option linter.unusedVariables false
set_option linter.unusedSimpArgs false
set_option maxRecDepth 100000
set_option maxHeartbeats 2000000
namespace Go.Proofs.Mth
open Go Go.Pv Go.Proofs Go.Shelf
theorem way_pathV (t : List Nd) (i : Int) : (wayV gP (2 * i) (cnt t : Nat)).1 = pathV t i := by
  unfold wayV pathV
  split <;> rfl
instance tpath : CC Tryd.prog 57 (∀ (t : List Nd) (i : Int), t.length ≤ 1000000 → 0 ≤ i ∧ i ≤ 1000000 → C 57 [gT t, .int .i64 i] (gI (pathV t i))) := ⟨fun t i h1 h2 => by
  refine ct Tryd.func57 fun {Z} H => ?_
  obtain ⟨hi, hi2⟩ := h2
  repeat' first | refine go ?_ | (refine sp ?_ ?_ <;> intro h) | intro b
  refine fin ?_
  show gI _ = gI _
  rw [way_pathV]⟩
instance rEmpty : CC Tryd.prog 67 (∀ (t : List Nd) (k : Nat), t.length ≤ 1000000 → k ≤ 1000000 → C 67 [gT t, .int .i64 k] (.bool (emptyB t k))) := ⟨fun t k h1 h2 => by
  refine ct Tryd.func67 fun {Z} H => ?_
  repeat' first | refine go ?_ | (refine sp ?_ ?_ <;> intro h) | intro b
  refine W.loop (fun i : Nat => [(0, gT t), (1, .int .i64 k), (5, .int .i64 i)]) (fun _ => []) (fun i => k ≤ i ∧ i ≤ 2000000 ∧ ∀ q, k ≤ q → q < i → q < cnt t → (lf t q).kind = 0) (fun i => cnt t - i) k ⟨Nat.le_refl _, by omega, fun q hq hq' => by omega⟩ ?_
  rintro i env ⟨hki, hi, hq⟩
  have hx : i < cnt t → 2 * i < t.length := lf_at
  have hc : cnt t ≤ 1000000 := by unfold cnt; omega
  repeat' first | refine go ?_ | (refine sp ?_ ?_ <;> intro h) | intro b
  · refine fin (vB ?_); symm; rw [Bool.eq_false_iff]; intro he
    have := emptyB_at he (q := i) (by omega) (by omega)
    exact ‹¬ _› this
  · exact lp (i + 1) ⟨by omega, by omega, fun q hq1 hq2 hq3 => by
      by_cases hqi : q = i
      · subst hqi; show (rd t (2 * (q : Int))).kind = 0; assumption
      · exact hq q hq1 (by omega) hq3⟩ (by omega)
  · refine fin (vB ?_)
    exact (emptyB_of fun q hq1 hq2 => hq q hq1 (by omega) hq2).symm⟩
instance blanked : CC Tryd.prog 62 (∀ (t : List Nd) (i : Int), t.length ≤ 1000000 → 0 ≤ i ∧ i ≤ 1000000 → (∀ x ∈ pathV t i, 0 ≤ x ∧ x < (t.length : Int)) → O 62 [gT t, .int .i64 i] 5 t.length ((blankV t i).map gN)) := ⟨fun t i h1 h2 h3 => by
  refine co Tryd.func62 fun {Z} H => ?_
  obtain ⟨hi, hi2⟩ := h2
  have hpl := pathV_len t i
  repeat' first | refine go ?_ | (refine sp ?_ ?_ <;> intro h) | intro b
  refine W.loop (fun s : Nat × List Nd => [(5, .own 0 0 t.length t.length), (12, gI (pathV t i)), (13, .int .i64 ((pathV t i).length : Nat)), (14, .int .i64 s.1)]) (fun s => [.buf 5 0 (s.2.map gN)]) (fun s => s.1 ≤ (pathV t i).length ∧ s.2.length = t.length ∧ s.2 = ((pathV t i).take s.1).foldl (fun t x => setN t x blankN) t) (fun s => (pathV t i).length - s.1) (0, t) ⟨Nat.zero_le _, rfl, rfl⟩ ?_
  rintro ⟨k, o⟩ env ⟨hk, hl, ho⟩
  dsimp only at *
  have hx : k < (pathV t i).length → 0 ≤ rd (pathV t i) (k : Int) ∧ rd (pathV t i) (k : Int) < (t.length : Int) := fun h => h3 _ (rd_mem (by omega))
  repeat' first | refine go ?_ | (refine sp ?_ ?_ <;> intro h) | intro b
  · have hx := hx (by omega)
    refine X.sta blankN ?_
    repeat' first | refine go ?_ | (refine sp ?_ ?_ <;> intro h) | intro b
    exact lp (k + 1, setN o (rd (pathV t i) (k : Int)) blankN) ⟨by dsimp only; omega, by simp [setN, hl], by dsimp only; rw [foldl_step (by omega), ← ho]⟩ (by dsimp only; omega)
  · have e : o = blankV t i := by rw [ho, List.take_of_length_le (by omega)]; rfl
    rw [← e]
    exact finO⟩
end Go.Proofs.Mth
end
section
/- Trees: leaves that are changed or removed: the program. -/
set_option linter.unusedVariables false
set_option linter.unusedSimpArgs false
set_option maxRecDepth 100000
set_option maxHeartbeats 2000000
namespace Go.Proofs.Mth
open Go Go.Pv Go.Proofs Go.Shelf
instance update : CC Tryd.prog 34 (∀ (t : List Nd) (i : Int) (pub : List UInt8), t.length ≤ 1000000 → pub.length ≤ 1000000 → (0 ≤ i → i < (cnt t : Int) → ∀ x ∈ pathV t i, 0 ≤ x ∧ x < (t.length : Int)) → C 34 [gT t, .int .i64 i, gB pub] (.tup [gT (updV t i pub).1, .int .i64 (updV t i pub).2])) := ⟨fun t i pub h1 h2 h3 => by
  refine ct Tryd.func34 fun {Z} H => ?_
  have hc : cnt t = (t.length + 1) / 2 := rfl
  by_cases hb : pub.length = 32
  · by_cases ht : thereB t i = true
    · have hr := thereB_le ht
      have h3 := h3 hr.1 hr.2.1
      have e : updV t i pub = (setN (blankV t i) (2 * i) (leafN (rd t (2 * i)).name pub), 0) := by unfold updV; rw [if_neg (by simp [hb]), if_pos ht]
      have hbl : (blankV t i).length = t.length := blankV_len t i
      rw [e]
      repeat' first | refine go ?_ | (refine sp ?_ ?_ <;> intro h) | intro b
      exact fin rfl
    · have e : updV t i pub = (t, 11) := by unfold updV; rw [if_neg (by simp [hb]), if_neg ht]
      rw [e]
      repeat' first | refine go ?_ | (refine sp ?_ ?_ <;> intro h) | intro b
      exact fin rfl
  · have e : updV t i pub = (t, 1) := by unfold updV; rw [if_pos (by simp [hb])]
    rw [e]
    repeat' first | refine go ?_ | (refine sp ?_ ?_ <;> intro h) | intro b
    exact fin rfl⟩
instance remove : CC Tryd.prog 31 (∀ (t : List Nd) (i : Int), okS t → (0 ≤ i → i < (cnt t : Int) → ∀ x ∈ pathV t i, 0 ≤ x ∧ x < (t.length : Int)) → C 31 [gT t, .int .i64 i] (.tup [gT (remV t i).1, .int .i64 (remV t i).2])) := ⟨fun t i h1 h2 => by
  refine ct Tryd.func31 fun {Z} H => ?_
  obtain ⟨j, hj, hlen⟩ := h1
  have hb := two_pow_bound hj
  have hct := cnt_of hlen
  by_cases ht : thereB t i = true
  · have hr := thereB_le ht
    have h2 := h2 hr.1 hr.2.1
    have hbl : (blankV t i).length = t.length := blankV_len t i
    repeat' first | refine go ?_ | (refine sp ?_ ?_ <;> intro h) | intro b
    refine X.sta blankN ?_
    repeat' first | refine go ?_ | (refine sp ?_ ?_ <;> intro h) | intro b
    refine W.rfS H.z Tryd.func77 rfl ?_
    rw [show (blankV t i).set (2 * i).toNat blankN = remO t i from rfl]
    have hol := remO_len t i
    have hrem : remV t i = if lastF (remO t i) (cnt t) < 0 then (t, 13) else ((remO t i).take (2 * 2 ^ wid (lastF (remO t i) (cnt t)) (Nat.log2 (cnt t)) - 1), 0) := by rw [remV, if_pos ht]
    have hoc : cnt (remO t i) = cnt t := by unfold cnt; rw [hol]
    generalize remO t i = o at *
    repeat' first | refine go ?_ | (refine sp ?_ ?_ <;> intro h) | intro b
    refine W.loopV (fun k : Nat => [(0, .yl 3), (1, .ref 2 0), (5, .int .i64 (cnt o : Nat)), (6, .int .i64 k)]) (fun k => [(1, .box [.int .i64 (lastF o k)])]) (fun k => k ≤ cnt t) (fun k => cnt t - k) 0 (Nat.zero_le _) ?_
    intro k env hk
    have hx : k < cnt t → 2 * k < t.length := lf_at
    have hlk := lastF_lt o k
    repeat' first | refine go ?_ | (refine sp ?_ ?_ <;> intro h) | intro b
    · refine lp (k + 1) (by omega) (by omega) (hL := by rw [show lastF o (k + 1) = (k : Int) by rw [lastF, if_pos ‹_›]]; rfl)
    · refine lp (k + 1) (by omega) (by omega) (hL := by rw [show lastF o (k + 1) = lastF o k by rw [lastF, if_neg ‹_›]]; rfl)
    · have hkc : k = cnt t := by omega
      have hn : lastF o (cnt t) < 0 := hkc ▸ ‹lastF o k < 0›
      rw [hrem, if_pos hn]
      exact fin rfl
    · have hkc : k = cnt t := by omega
      have hn : ¬ lastF o (cnt t) < 0 := hkc ▸ ‹¬ lastF o k < 0›
      rw [if_neg hn, hct, Nat.log2_two_pow] at hrem
      have hkq : k = 2 ^ j := hkc.trans hct
      subst hkq
      rw [hrem, hoc, hct]
      refine W.loopV (fun q : Nat => [(7, .ref 1 0), (10, .int .i64 ((2 ^ q : Nat) : Int)), (6, .own 0 0 (2 * 2 ^ q - 1) t.length)]) (fun _ => []) (fun q => q ≤ j ∧ wid (lastF o (2 ^ j)) q = wid (lastF o (2 ^ j)) j) (fun q => q) j ⟨Nat.le_refl _, rfl⟩ ?_ (hF := ⟨rfl, rfl, by rw [← hlen]; rfl, True.intro⟩)
      rintro q env ⟨hq, hw⟩
      have hqb : 2 ^ q ≤ 2 ^ j := Nat.pow_le_pow_right (by decide) hq
      rcases q with _ | q
      · repeat' first | refine go ?_ | (refine sp ?_ ?_ <;> intro h) | intro b
        rw [← hw]
        exact fin rfl
      · have e2 : 2 ^ (q + 1) = 2 * 2 ^ q := Nat.pow_succ'
        have e1 : 1 ≤ 2 ^ q := Nat.one_le_two_pow
        have e3 : ((2 ^ (q + 1) : Nat) : Int) / 2 = ((2 ^ q : Nat) : Int) := by omega
        have e4 : (((2 ^ (q + 1) : Nat) : Int) - 1).toNat = 2 * 2 ^ q - 1 := by omega
        repeat' first | refine go ?_ | (refine sp ?_ ?_ <;> intro h) | intro b
        · refine lp q ⟨by omega, ?_⟩ (by omega) (hE := ⟨rfl, cutN (by omega), congrArg (fun n => V.own 0 0 n _) e4, True.intro⟩)
          rw [← hw, wid, if_pos (by omega)]
        · rw [← hw]
          rw [wid, if_neg (by omega)]
          exact fin rfl
  · have e : remV t i = (t, 11) := by unfold remV; rw [if_neg ht]
    rw [e]
    repeat' first | refine go ?_ | (refine sp ?_ ?_ <;> intro h) | intro b
    exact fin rfl⟩
end Go.Proofs.Mth
end
section
/- Trees: nodes that are right at their place. -/
set_option linter.unusedVariables false
set_option linter.unusedSimpArgs false
set_option maxRecDepth 100000
set_option maxHeartbeats 2000000
namespace Go.Proofs.Mth
open Go Go.Pv Go.Proofs Go.Shelf
/-- The leaves of a row: the q-th is one of a range, isn't blank, and is over the one before it. -/
def unAt (t : List Nd) (lo hi : Int) (l : List Int) (q : Nat) : Bool :=
  decide (lo ≤ rd l (q : Int)) && decide (rd l (q : Int) ≤ hi) && decide ((rd t (2 * rd l (q : Int))).kind = 1) && (decide (q = 0) || decide (rd l ((q : Int) - 1) < rd l (q : Int)))
def unB (t : List Nd) (lo hi : Int) (l : List Int) : Bool := (List.range l.length).all (unAt t lo hi l)
theorem unB_of {t : List Nd} {lo hi : Int} {l : List Int} (h : ∀ q, q < l.length → unAt t lo hi l q = true) : unB t lo hi l = true := by
  rw [unB, List.all_eq_true]
  exact fun q hq => h q (List.mem_range.1 hq)
theorem unB_at {t : List Nd} {lo hi : Int} {l : List Int} (h : unB t lo hi l = true) {q : Nat} (hq : q < l.length) : unAt t lo hi l q = true := by
  rw [unB, List.all_eq_true] at h
  exact h q (List.mem_range.2 hq)
/-- Is a node right, at its place? -/
def wholeB (t : List Nd) (x : Int) : Bool :=
  if (rd t x).kind = 0 then decide (rd t x = blankN)
  else if (rd t x).kind = 1 then isNm (rd t x).name (rd t x).pub && (decide ((rd t x).hash.length = 0) || decide ((rd t x).hash.length = 32)) && decide (x % 2 = 0) && decide ((rd t x).un.length = 0)
  else isNm (rd t x).name (rd t x).pub && (decide ((rd t x).hash.length = 0) || decide ((rd t x).hash.length = 32)) && decide ((rd t x).kind = 2) && decide (x % 2 = 1) && decide ((rd t x).name = 0) && unB t (leavesV x).1 (leavesV x).2 (rd t x).un
theorem wh0 {t : List Nd} {x : Int} (h : (rd t x).kind = 0) : wholeB t x = decide (rd t x = blankN) := by rw [wholeB, if_pos h]
theorem wh1 {t : List Nd} {x : Int} (h : (rd t x).kind = 1) : wholeB t x = (isNm (rd t x).name (rd t x).pub && (decide ((rd t x).hash.length = 0) || decide ((rd t x).hash.length = 32)) && decide (x % 2 = 0) && decide ((rd t x).un.length = 0)) := by rw [wholeB, if_neg (by omega), if_pos h]
theorem wh2 {t : List Nd} {x : Int} (h : (rd t x).kind = 2) : wholeB t x = (isNm (rd t x).name (rd t x).pub && (decide ((rd t x).hash.length = 0) || decide ((rd t x).hash.length = 32)) && decide (x % 2 = 1) && decide ((rd t x).name = 0) && unB t (leavesV x).1 (leavesV x).2 (rd t x).un) := by rw [wholeB, if_neg (by omega), if_neg (by omega), decide_eq_true h, Bool.and_true]
theorem whN {t : List Nd} {x : Int} (h0 : ¬ (rd t x).kind = 0) (h1 : ¬ (rd t x).kind = 1) (h : ¬ (rd t x).kind = 2) : wholeB t x = false := by rw [wholeB, if_neg h0, if_neg h1, decide_eq_false h, Bool.and_false, Bool.false_and, Bool.false_and, Bool.false_and]
theorem nd_blank {n : Nd} (h : n.kind = 0) (h1 : n.name = 0) : decide ((n.pub.length : Int) + (n.un.length : Int) + (n.hash.length : Int) = 0) = decide (n = blankN) := by
  obtain ⟨k, m, a, b, c⟩ := n
  simp only at h h1
  subst h h1
  rw [Bool.eq_iff_iff, decide_eq_true_iff, decide_eq_true_iff]
  simp only [blankN, Nd.mk.injEq, true_and]
  simp only [← List.length_eq_zero_iff]
  omega
theorem nd_blank2 {n : Nd} (h1 : ¬ n.name = 0) : false = decide (n = blankN) := by
  symm; rw [decide_eq_false_iff_not]; rintro rfl; exact h1 rfl
theorem unB_no {t : List Nd} {lo hi : Int} {l : List Int} {k : Nat} {b : Bool} (hk : k < l.length) (h : ¬ unAt t lo hi l k = true) : false = (b && unB t lo hi l) := by
  rw [show unB t lo hi l = false from Bool.eq_false_iff.2 fun hb => h (unB_at hb hk), Bool.and_false]
theorem unB_all {t : List Nd} {lo hi : Int} {l : List Int} {k : Nat} {b : Bool} (hk : l.length ≤ k) (h : ∀ q, q < k → unAt t lo hi l q = true) : (b && unB t lo hi l) = b := by
  rw [unB_of fun q hq => h q (by omega), Bool.and_true]
theorem unAt_step {t : List Nd} {lo hi : Int} {l : List Int} {k : Nat} (hq : ∀ q, q < k → unAt t lo hi l q = true) (h : unAt t lo hi l k = true) : ∀ q, q < k + 1 → unAt t lo hi l q = true := fun q hq' => by
  by_cases hqi : q = k
  · subst hqi; exact h
  · exact hq q (by omega)
instance whole : CC Tryd.prog 46 (∀ (t : List Nd) (x : Int), okL t → 0 ≤ x ∧ x < (t.length : Int) → 0 ≤ (leavesV x).1 ∧ 2 * (leavesV x).2 < (t.length : Int) → C 46 [gT t, .int .i64 x] (.bool (wholeB t x))) := ⟨fun t x h1 h2 h3 => by
  refine ct Tryd.func46 fun {Z} H => ?_
  have hl := h1.1
  have hn := h1.2 _ (rd_mem h2)
  repeat' first | refine go ?_ | (refine sp ?_ ?_ <;> intro h) | intro b
  · refine fin (vB ?_); rw [wh0 (by assumption)]; exact nd_blank ‹_› ‹_›
  · refine fin (vB ?_); rw [wh0 (by assumption)]; exact nd_blank2 ‹_›
  all_goals try exact fin (vB (whN (by assumption) (by assumption) (by assumption)).symm)
  all_goals try (refine fin (vB ?_); first | rw [wh1 (by assumption)] | rw [wh2 (by assumption)] | fail); (rw [Bool.eq_iff_iff]; simp only [Bool.and_eq_true, Bool.or_eq_true, decide_eq_true_iff]; first | grind | fail)
  · generalize hun : (rd t x).un = un at *
    refine W.loop (fun k : Nat => [(0, gT t), (5, .ref 0 0), (6, .int .i64 (leavesV x).1), (7, .int .i64 (leavesV x).2), (62, gI un), (63, .int .i64 (un.length : Nat)), (64, .int .i64 k)]) (fun _ => [.box [.int .i64 (rd t x).kind, .int .i64 (rd t x).name, gB (rd t x).pub, gI un, gB (rd t x).hash]]) (fun k => k ≤ un.length ∧ ∀ q, q < k → unAt t (leavesV x).1 (leavesV x).2 un q = true) (fun k => un.length - k) 0 ⟨Nat.zero_le _, fun q hq => absurd hq (Nat.not_lt_zero q)⟩ ?_
    rintro k env ⟨hk, hq⟩
    repeat' first | refine go ?_ | (refine sp ?_ ?_ <;> intro h) | intro b
    all_goals try (refine fin (vB ?_); rw [wh2 (by assumption), hun]; refine unB_no (k := k) (by omega) ?_; simp only [unAt, Bool.and_eq_true, Bool.or_eq_true, decide_eq_true_iff]; omega)
    all_goals try (refine lp (k + 1) ⟨by omega, unAt_step hq ?_⟩ (by omega); simp only [unAt, Bool.and_eq_true, Bool.or_eq_true, decide_eq_true_iff]; omega)
    all_goals (refine fin (vB ?_); rw [wh2 (by assumption), hun, unB_all (k := k) (by omega) hq, Bool.eq_iff_iff]; simp only [Bool.and_eq_true, Bool.or_eq_true, decide_eq_true_iff]; first | grind | fail)⟩
/-- The leaf before the k-th. -/
def pvV (lo : Int) (l : List Int) : Nat → Int
  | 0 => lo - 1
  | k + 1 => rd l (k : Int)
theorem pv_ge {t : List Nd} {lo hi : Int} {l : List Int} {k : Nat} (hq : ∀ q, q < k → unAt t lo hi l q = true) : lo - 1 ≤ pvV lo l k := by
  cases k with
  | zero => exact Int.le_refl _
  | succ k =>
    have := hq k (by omega)
    simp only [unAt, Bool.and_eq_true, Bool.or_eq_true, decide_eq_true_iff] at this
    show lo - 1 ≤ rd l (k : Int); omega
theorem un_no {t : List Nd} {lo hi : Int} {l : List Int} {k : Nat} (h : rd l (k : Int) ≤ pvV lo l k) : ¬ unAt t lo hi l k = true := by
  simp only [unAt, Bool.and_eq_true, Bool.or_eq_true, decide_eq_true_iff]
  cases k with
  | zero => rw [pvV] at h; omega
  | succ k => rw [pvV] at h; rw [show ((k + 1 : Nat) : Int) - 1 = (k : Int) by omega]; omega
theorem un_yes {t : List Nd} {lo hi : Int} {l : List Int} {k : Nat} (hq : ∀ q, q < k → unAt t lo hi l q = true) (h : ¬ rd l (k : Int) ≤ pvV lo l k) (h1 : rd l (k : Int) ≤ hi) (h2 : (rd t (2 * rd l (k : Int))).kind = 1) : unAt t lo hi l k = true := by
  have := pv_ge hq
  simp only [unAt, Bool.and_eq_true, Bool.or_eq_true, decide_eq_true_iff]
  cases k with
  | zero => rw [pvV] at h; omega
  | succ k => rw [pvV] at h this; rw [show ((k + 1 : Nat) : Int) - 1 = (k : Int) by omega]; omega
instance rWhole : CC Tryd.prog 43 (∀ (t : List Nd) (x : Int), okL t → 0 ≤ x ∧ x < (t.length : Int) → 0 ≤ (leavesV x).1 ∧ 2 * (leavesV x).2 < (t.length : Int) → (leavesV x).1 ≤ 1000000 → C 43 [gT t, .int .i64 x] (.bool (wholeB t x))) := ⟨fun t x h1 h2 h3 h4 => by
  refine ct Tryd.func43 fun {Z} H => ?_
  have hl := h1.1
  have hn := h1.2 _ (rd_mem h2)
  repeat' first | refine go ?_ | (refine sp ?_ ?_ <;> intro h) | intro b
  · refine fin (vB ?_); rw [wh0 (by assumption), ← nd_blank (by assumption) (by assumption), decide_eq_decide]; omega
  · refine fin (vB ?_); rw [wh0 (by assumption), ← nd_blank (by assumption) (by assumption)]; symm; rw [decide_eq_false_iff_not]; omega
  · refine fin (vB ?_); rw [wh0 (by assumption), ← nd_blank (by assumption) (by assumption)]; symm; rw [decide_eq_false_iff_not]; omega
  · refine fin (vB ?_); rw [wh0 (by assumption)]; exact nd_blank2 ‹_›
  all_goals try (refine fin (vB ?_); by_cases hk1 : (rd t x).kind = 1; (rw [wh1 hk1, Bool.eq_iff_iff]; simp only [Bool.and_eq_true, Bool.or_eq_true, decide_eq_true_iff]; grind); by_cases hk2 : (rd t x).kind = 2; (rw [wh2 hk2, Bool.eq_iff_iff]; simp only [Bool.and_eq_true, Bool.or_eq_true, decide_eq_true_iff]; grind); first | exact (whN (by assumption) hk1 hk2).symm | (exfalso; omega))
  all_goals
    have hk2 : (rd t x).kind = 2 := by omega
    generalize hun : (rd t x).un = un at *
    refine W.loop (fun k : Nat => [(0, gT t), (5, .ref 0 0), (8, .int .i64 (leavesV x).2), (9, .int .i64 (pvV (leavesV x).1 un k)), (10, .int .i64 k)]) (fun _ => [.box [.int .i64 (rd t x).kind, .int .i64 (rd t x).name, gB (rd t x).pub, gI un, gB (rd t x).hash]]) (fun k => k ≤ un.length ∧ ∀ q, q < k → unAt t (leavesV x).1 (leavesV x).2 un q = true) (fun k => un.length - k) 0 ⟨Nat.zero_le _, fun q hq => absurd hq (Nat.not_lt_zero q)⟩ ?_
    rintro k env ⟨hk, hq⟩
    have hpv := pv_ge hq
    repeat' first | refine go ?_ | (refine sp ?_ ?_ <;> intro h) | intro b
    all_goals try (refine fin (vB ?_); rw [wh2 (by assumption), hun]; refine unB_no (k := k) (by omega) ?_; first | exact un_no (by assumption) | (simp only [unAt, Bool.and_eq_true, Bool.or_eq_true, decide_eq_true_iff]; omega))
    all_goals try exact lp (k + 1) ⟨by omega, unAt_step hq (un_yes hq (by omega) (by omega) (by omega))⟩ (by omega)
    (refine fin (vB ?_); rw [wh2 (by assumption), hun, unB_all (k := k) (by omega) hq, Bool.eq_iff_iff]; simp only [Bool.and_eq_true, Bool.or_eq_true, decide_eq_true_iff]; first | grind | fail)⟩
end Go.Proofs.Mth
end
section
/- Trees that are right. -/
set_option linter.unusedVariables false
set_option linter.unusedSimpArgs false
set_option maxRecDepth 100000
set_option maxHeartbeats 2000000
namespace Go.Proofs.Mth
open Go Go.Pv Go.Proofs Go.Shelf
/-- The names of the leaves among the first nodes. -/
def had (t : List Nd) : Nat → List Int
  | 0 => []
  | k + 1 => if (rd t (k : Int)).kind = 1 then had t k ++ [(rd t (k : Int)).name] else had t k
theorem had_yes {t : List Nd} {k : Nat} (h : (rd t (k : Int)).kind = 1) : had t (k + 1) = had t k ++ [(rd t (k : Int)).name] := by rw [had, if_pos h]
theorem had_no {t : List Nd} {k : Nat} (h : ¬ (rd t (k : Int)).kind = 1) : had t (k + 1) = had t k := by rw [had, if_neg h]
theorem mem_had {t : List Nd} {n : Int} : ∀ {k : Nat}, n ∈ had t k ↔ ∃ y, y < k ∧ (rd t (y : Int)).kind = 1 ∧ (rd t (y : Int)).name = n
  | 0 => by simp [had]
  | k + 1 => by
    by_cases h : (rd t (k : Int)).kind = 1
    · rw [had_yes h, List.mem_append, mem_had, List.mem_singleton]
      constructor
      · rintro (⟨y, hy, h1, h2⟩ | rfl)
        · exact ⟨y, by omega, h1, h2⟩
        · exact ⟨k, by omega, h, rfl⟩
      · rintro ⟨y, hy, h1, h2⟩
        by_cases hyk : y = k
        · subst hyk; exact .inr h2.symm
        · exact .inl ⟨y, by omega, h1, h2⟩
    · rw [had_no h, mem_had]
      constructor
      · rintro ⟨y, hy, h1, h2⟩; exact ⟨y, by omega, h1, h2⟩
      · rintro ⟨y, hy, h1, h2⟩
        by_cases hyk : y = k
        · subst hyk; exact absurd h1 h
        · exact ⟨y, by omega, h1, h2⟩
theorem had_len (t : List Nd) : ∀ k, (had t k).length ≤ k
  | 0 => Nat.le_refl _
  | k + 1 => by
    have := had_len t k
    rw [had]; split
    · rw [List.length_append]; simp; omega
    · omega
/-- Is a tree right? -/
def wholeA (t : List Nd) : Bool := (List.range t.length).all fun x => wholeB t (x : Int)
def rightB (t : List Nd) : Bool := isT (cnt t : Nat) && decide (2 * cnt t - 1 = t.length) && wholeA t && decide ((had t t.length).Nodup) && decide (had t t.length ≠ [])
theorem wholeA_of {t : List Nd} (h : ∀ q, q < t.length → wholeB t (q : Int) = true) : wholeA t = true := by
  rw [wholeA, List.all_eq_true]
  exact fun q hq => h q (List.mem_range.1 hq)
theorem wholeA_at {t : List Nd} (h : wholeA t = true) {q : Nat} (hq : q < t.length) : wholeB t (q : Int) = true := by
  rw [wholeA, List.all_eq_true] at h
  exact h q (List.mem_range.2 hq)
theorem right_no {t : List Nd} {k : Nat} (hk : k < t.length) (h : ¬ wholeB t (k : Int) = true) : rightB t = false := by
  rw [Bool.eq_false_iff]; intro hb
  simp only [rightB, Bool.and_eq_true] at hb
  exact h (wholeA_at hb.1.1.2 hk)
theorem had_nodup {t : List Nd} : ∀ {k m : Nat}, (had t (k + m)).Nodup → (had t k).Nodup
  | k, 0, h => h
  | k, m + 1, h => by
    refine had_nodup (m := m) ?_
    rw [← Nat.add_assoc, had] at h
    split at h
    · exact (List.nodup_append.1 h).1
    · exact h
theorem right_two {t : List Nd} {k : Nat} (hk : k < t.length) (h1 : (rd t (k : Int)).kind = 1) (h : (rd t (k : Int)).name ∈ had t k) : rightB t = false := by
  rw [Bool.eq_false_iff]; intro hb
  simp only [rightB, Bool.and_eq_true, decide_eq_true_iff] at hb
  have := hb.1.2
  rw [show t.length = (k + 1) + (t.length - (k + 1)) by omega] at this
  have := had_nodup this
  rw [had_yes h1, List.nodup_append] at this
  exact this.2.2 _ h _ (List.mem_singleton.2 rfl) rfl
theorem had_step {t : List Nd} {k : Nat} (h : (had t k).Nodup) (hn : (rd t (k : Int)).kind = 1 → (rd t (k : Int)).name ∉ had t k) : (had t (k + 1)).Nodup := by
  rw [had]; split
  · rename_i h1
    refine List.nodup_append.2 ⟨h, by simp, ?_⟩
    rintro a ha b hb rfl
    rw [List.mem_singleton] at hb
    exact hn h1 (hb ▸ ha)
  · exact h
theorem leaves_lt {j x : Nat} (hj : j < 11) (hx : x < 2 * 2 ^ j - 1) : 0 ≤ (leavesV (x : Int)).1 ∧ 2 * (leavesV (x : Int)).2 < ((2 * 2 ^ j - 1 : Nat) : Int) ∧ (leavesV (x : Int)).1 ≤ 1000000 := by
  have h : ((List.range 11).all fun j => (List.range (2 * 2 ^ j - 1)).all fun x => decide (2 * ((x + 2 ^ lev x - 1) / 2) < 2 * 2 ^ j - 1 ∧ (x + 1 - 2 ^ lev x) / 2 ≤ 1000000)) = true := by kernel_rfl
  have := of_decide_eq_true (all_lt (all_lt h j hj) x hx)
  have hb := two_pow_bound hj
  rw [leaves_nat x (by have := hb.1; omega)]
  dsimp only
  omega
theorem step_all {p : Nat → Prop} {i : Nat} (hq : ∀ q, q < i → p q) (h : p i) : ∀ q, q < i + 1 → p q := fun q hq' => by
  by_cases hqi : q = i
  · subst hqi; exact h
  · exact hq q (by omega)
instance rightT : CC Tryd.prog 17 (∀ (t : List Nd), okL t → C 17 [gT t] (.bool (rightB t))) := ⟨fun t h1 => by
  refine ct Tryd.func17 fun {Z} H => ?_
  have hl := h1.1
  have hc : cnt t = (t.length + 1) / 2 := rfl
  by_cases hT : isT (cnt t : Nat) = true ∧ 2 * cnt t - 1 = t.length
  · obtain ⟨j, hj, hcj⟩ := isT_pow hT.1
    have hb := two_pow_bound hj
    have hlen : t.length = 2 * 2 ^ j - 1 := by omega
    have e : widthV (cnt t : Nat) = ((t.length : Int), 0) := by rw [widthV, if_pos hT.1]; refine Prod.ext ?_ rfl; show 2 * (cnt t : Int) - 1 = t.length; omega
    have k1 : ∀ L, SE Tryd.prog Z 44 [.int .i64 (cnt t : Nat)] L (.tup [.int .i64 (t.length : Nat), .int .i64 0]) L := fun L => by
      have := width.out (cnt t : Nat) H L
      rwa [e] at this
    repeat' first | refine go ?_ | (refine sp ?_ ?_ <;> intro h) | intro b
    refine W.loop (fun k : Nat => [(0, gT t), (5, .map 0), (23, gT t), (24, .int .i64 (t.length : Nat)), (25, .int .i64 k)]) (fun k => [.map ((had t k).map mS)]) (fun k => k ≤ t.length ∧ (∀ q, q < k → wholeB t (q : Int) = true) ∧ (had t k).Nodup) (fun k => t.length - k) 0 ⟨Nat.zero_le _, fun q hq => absurd hq (Nat.not_lt_zero q), List.nodup_nil⟩ ?_
    rintro k env ⟨hk, hq, hd⟩
    have hlv : k < t.length → 0 ≤ (leavesV (k : Int)).1 ∧ 2 * (leavesV (k : Int)).2 < (t.length : Int) ∧ (leavesV (k : Int)).1 ≤ 1000000 := fun h => by rw [hlen]; exact leaves_lt hj (by omega)
    have hln := had_len t k
    repeat' first | refine go ?_ | (refine sp ?_ ?_ <;> intro h) | intro b
    · refine fin (vB ?_); rw [right_no (k := k) (by omega) (by simp [*])]
    · refine fin (vB ?_); rw [right_two (k := k) (by omega) (by assumption) (by assumption)]
    · exact lp (k + 1) ⟨by omega, step_all hq ‹_›, had_step hd fun _ => ‹_›⟩ (by omega) (hL := by rw [had_yes (by assumption)]; rfl)
    · exact lp (k + 1) ⟨by omega, step_all hq ‹_›, had_step hd fun h => absurd h (by assumption)⟩ (by omega) (hL := by rw [had_no (by assumption)]; rfl)
    · have hkl : k = t.length := by omega
      subst hkl
      refine fin (vB ?_)
      rw [rightB, hT.1, decide_eq_true hT.2, wholeA_of hq, decide_eq_true hd]
      simp [List.length_pos_iff]
  · have e : rightB t = false := by
      rw [Bool.eq_false_iff]; intro hb
      simp only [rightB, Bool.and_eq_true, decide_eq_true_iff] at hb
      exact hT hb.1.1.1
    rw [e]
    have e : ¬ (widthV (cnt t : Nat)).2 = 0 ∨ ¬ (widthV (cnt t : Nat)).1 = t.length := by
      rw [widthV]; split
      · right; intro hh; exact hT ⟨‹_›, by dsimp only at hh; omega⟩
      · left; decide
    repeat' first | refine go ?_ | (refine sp ?_ ?_ <;> intro h) | intro b
    · exact fin rfl
    · have hh : ¬ (widthV (cnt t : Nat)).1 = t.length := by omega
      refine fin (vB ?_)
      simp [hh]⟩
instance rRightT : CC Tryd.prog 15 (∀ (t : List Nd), okL t → C 15 [gT t] (.bool (rightB t))) := ⟨fun t h1 => by
  refine ct Tryd.func15 fun {Z} H => ?_
  have hl := h1.1
  have hc : cnt t = (t.length + 1) / 2 := rfl
  by_cases hT : isT (cnt t : Nat) = true ∧ 2 * cnt t - 1 = t.length
  · obtain ⟨j, hj, hcj⟩ := isT_pow hT.1
    have hb := two_pow_bound hj
    have hlen : t.length = 2 * 2 ^ j - 1 := by omega
    have e : widthV (cnt t : Nat) = ((t.length : Int), 0) := by rw [widthV, if_pos hT.1]; refine Prod.ext ?_ rfl; show 2 * (cnt t : Int) - 1 = t.length; omega
    have k1 : ∀ L, SE Tryd.prog Z 42 [.int .i64 (cnt t : Nat)] L (.tup [.int .i64 (t.length : Nat), .int .i64 0]) L := fun L => by
      have := rWidth.out (cnt t : Nat) H L
      rwa [e] at this
    repeat' first | refine go ?_ | (refine sp ?_ ?_ <;> intro h) | intro b
    refine W.loop (fun k : Nat => [(0, gT t), (6, .int .i64 ((had t k).length : Nat)), (7, .int .i64 k)]) (fun k => []) (fun k => k ≤ t.length ∧ (∀ q, q < k → wholeB t (q : Int) = true) ∧ (had t k).Nodup) (fun k => t.length - k) 0 ⟨Nat.zero_le _, fun q hq => absurd hq (Nat.not_lt_zero q), List.nodup_nil⟩ ?_
    rintro k env ⟨hk, hq, hd⟩
    have hlv : k < t.length → 0 ≤ (leavesV (k : Int)).1 ∧ 2 * (leavesV (k : Int)).2 < (t.length : Int) ∧ (leavesV (k : Int)).1 ≤ 1000000 := fun h => by rw [hlen]; exact leaves_lt hj (by omega)
    have hln := had_len t k
    repeat' first | refine go ?_ | (refine sp ?_ ?_ <;> intro h) | intro b
    · refine fin (vB ?_); rw [right_no (k := k) (by omega) (by simp [*])]
    · have hu : (had t (k + 1)).length = (had t k).length + 1 := by rw [had_yes (by assumption), List.length_append]; rfl
      refine W.loop (fun y : Nat => [(0, gT t), (6, .int .i64 ((had t (k + 1)).length : Nat)), (7, .int .i64 k), (9, .int .i64 y)]) (fun k => []) (fun y => y ≤ k ∧ ((rd t (k : Int)).kind = 1 → ∀ q, q < y → (rd t (q : Int)).kind = 1 → (rd t (q : Int)).name ≠ (rd t (k : Int)).name)) (fun y => k - y) 0 ⟨Nat.zero_le _, fun _ q hq => absurd hq (Nat.not_lt_zero q)⟩ ?_
      rintro y env ⟨hy, hyq⟩
      repeat' first | refine go ?_ | (refine sp ?_ ?_ <;> intro h) | intro b
      · refine fin (vB ?_); rw [right_two (k := k) (by omega) (by assumption) (mem_had.2 ⟨y, by omega, by assumption, Eq.symm (by assumption)⟩)]
      · exact lp (y + 1) ⟨by omega, fun hk1 => step_all (hyq hk1) fun _ hh => (by assumption : ¬ _) hh.symm⟩ (by omega)
      · exact lp (y + 1) ⟨by omega, fun hk1 => step_all (hyq hk1) fun hy1 => absurd hy1 (by assumption)⟩ (by omega)
      · exact lp (k + 1) ⟨by omega, step_all hq ‹_›, had_step hd fun h1 hm => by obtain ⟨q, hq1, hq2, hq3⟩ := mem_had.1 hm; exact hyq h1 q (by omega) hq2 hq3⟩ (by omega)
    · have hu : (had t (k + 1)).length = (had t k).length := by rw [had_no (by assumption)]
      refine W.loop (fun y : Nat => [(0, gT t), (6, .int .i64 ((had t (k + 1)).length : Nat)), (7, .int .i64 k), (9, .int .i64 y)]) (fun k => []) (fun y => y ≤ k ∧ ((rd t (k : Int)).kind = 1 → ∀ q, q < y → (rd t (q : Int)).kind = 1 → (rd t (q : Int)).name ≠ (rd t (k : Int)).name)) (fun y => k - y) 0 ⟨Nat.zero_le _, fun _ q hq => absurd hq (Nat.not_lt_zero q)⟩ ?_
      rintro y env ⟨hy, hyq⟩
      repeat' first | refine go ?_ | (refine sp ?_ ?_ <;> intro h) | intro b
      · exact lp (y + 1) ⟨by omega, fun hk1 => absurd hk1 (by assumption)⟩ (by omega)
      · exact lp (k + 1) ⟨by omega, step_all hq ‹_›, had_step hd fun h1 => absurd h1 (by assumption)⟩ (by omega)
    · have hkl : k = t.length := by omega
      subst hkl
      refine fin (vB ?_)
      rw [rightB, hT.1, decide_eq_true hT.2, wholeA_of hq, decide_eq_true hd]
      simp [List.length_pos_iff]
  · have e : rightB t = false := by
      rw [Bool.eq_false_iff]; intro hb
      simp only [rightB, Bool.and_eq_true, decide_eq_true_iff] at hb
      exact hT hb.1.1.1
    rw [e]
    have e : ¬ (widthV (cnt t : Nat)).2 = 0 ∨ ¬ (widthV (cnt t : Nat)).1 = t.length := by
      rw [widthV]; split
      · right; intro hh; exact hT ⟨‹_›, by dsimp only at hh; omega⟩
      · left; decide
    repeat' first | refine go ?_ | (refine sp ?_ ?_ <;> intro h) | intro b
    · exact fin rfl
    · have hh : ¬ (widthV (cnt t : Nat)).1 = t.length := by omega
      refine fin (vB ?_)
      simp [hh]⟩
end Go.Proofs.Mth
end
section
/- Trees: the references of paths, blank paths, places in rows that rise. -/
set_option linter.unusedVariables false
set_option linter.unusedSimpArgs false
set_option maxRecDepth 100000
set_option maxHeartbeats 2000000
namespace Go.Proofs.Mth
open Go Go.Pv Go.Proofs Go.Shelf
instance rWay : CC Tryd.prog 37 (∀ (x n : Int), C 37 [.int .i64 x, .int .i64 n] (.tup [gI (wayV gP x n).1, .int .i64 (wayV gP x n).2])) := ⟨fun x n => by
  refine ct Tryd.func37 fun {Z} H => ?_
  by_cases h : isN x n = true
  · obtain ⟨j, y, hj, hy, rfl, rfl⟩ := isN_nat h
    have hb := two_pow_bound hj
    repeat' first | refine go ?_ | (refine sp ?_ ?_ <;> intro h) | intro b
    refine W.ghost 7 1 rfl ?_
    refine W.loop (fun s : Nat × List Int => [(0, .int .i64 s.1), (1, .int .i64 ((2 ^ j : Nat) : Int)), (7, .own 0 0 s.2.length s.2.length)]) (fun s => [.buf 1 0 (s.2.map (V.int .i64))])
      (fun s => s.1 < 2 * 2 ^ j - 1 ∧ ∃ done, s.2 = done.map gP ∧ ups y (2 ^ j) = done ++ ups s.1 (2 ^ j)) (fun s => 11 - lev s.1) (y, []) ⟨hy, [], rfl, rfl⟩ ?_
    rintro ⟨z, acc⟩ env ⟨hz, done, rfl, hd⟩
    have hl : done.length ≤ 11 := by
      have := ups_len y (2 ^ j)
      rw [hd, List.length_append] at this
      omega
    dsimp only at *
    have k1 : z + 1 ≠ 2 ^ j → ∀ L, SE Tryd.prog Z 69 [.int .i64 z, .int .i64 ((2 ^ j : Nat) : Int)] L (.tup [.int .i64 (upN z : Nat), .int .i64 0]) L := fun hne L => by
      have := rParent.out (z : Int) ((2 ^ j : Nat) : Int) H L
      rwa [show parV (z : Int) ((2 ^ j : Nat) : Int) = (((upN z : Nat) : Int), 0) by unfold parV; rw [if_pos (isN_of hj hz), if_neg (by omega)]; rfl] at this
    by_cases hr : z + 1 = 2 ^ j
    · repeat' first | refine go ?_ | (refine sp ?_ ?_ <;> intro h) | intro b
      rw [ups_end (x := z) hj (by omega), List.append_nil] at hd
      have hv : wayV gP (y : Int) ((2 ^ j : Nat) : Int) = (done.map gP, 0) := by
        unfold wayV
        rw [if_pos ‹_›, Int.toNat_natCast, Int.toNat_natCast, hd]
      rw [hv]
      exact fin rfl
    · replace k1 := k1 hr
      repeat' first | refine go ?_ | (refine sp ?_ ?_ <;> intro h) | intro b
      have hu := up_node j hj z hz (by omega)
      rw [ups_step hj hz (by omega)] at hd
      refine lp (upN z, done.map gP ++ [gP (z, upN z)]) ⟨hu.1, done ++ [(z, upN z)], by simp, by rw [hd, List.append_assoc]; rfl⟩ ?_
      have := lev_le (upN z) (by omega)
      dsimp only
      omega
  · have e : wayV gP x n = ([], 1) := by unfold wayV; rw [if_neg h]
    rw [e]
    repeat' first | refine go ?_ | (refine sp ?_ ?_ <;> intro h) | intro b
    exact fin rfl⟩
instance rPathT : CC Tryd.prog 63 (∀ (t : List Nd) (i : Int), t.length ≤ 1000000 → 0 ≤ i ∧ i ≤ 1000000 → C 63 [gT t, .int .i64 i] (gI (pathV t i))) := ⟨fun t i h1 h2 => by
  refine ct Tryd.func63 fun {Z} H => ?_
  obtain ⟨hi, hi2⟩ := h2
  repeat' first | refine go ?_ | (refine sp ?_ ?_ <;> intro h) | intro b
  refine fin ?_
  show gI _ = gI _
  rw [way_pathV]⟩
instance rBlank : CC Tryd.prog 66 (∀ (t : List Nd) (i : Int), t.length ≤ 1000000 → 0 ≤ i ∧ i ≤ 1000000 → (∀ x ∈ pathV t i, 0 ≤ x ∧ x < (t.length : Int)) → O 66 [gT t, .int .i64 i] 5 t.length ((blankV t i).map gN)) := ⟨fun t i h1 h2 h3 => by
  refine co Tryd.func66 fun {Z} H => ?_
  obtain ⟨hi, hi2⟩ := h2
  have hpl := pathV_len t i
  repeat' first | refine go ?_ | (refine sp ?_ ?_ <;> intro h) | intro b
  refine W.loop (fun s : Nat × List Nd => [(5, .own 0 0 t.length t.length), (6, gI (pathV t i)), (7, .int .i64 s.1)]) (fun s => [.buf 5 0 (s.2.map gN)]) (fun s => s.1 ≤ (pathV t i).length ∧ s.2.length = t.length ∧ s.2 = ((pathV t i).take s.1).foldl (fun t x => setN t x blankN) t) (fun s => (pathV t i).length - s.1) (0, t) ⟨Nat.zero_le _, rfl, rfl⟩ ?_
  rintro ⟨k, o⟩ env ⟨hk, hl, ho⟩
  dsimp only at *
  have hx : k < (pathV t i).length → 0 ≤ rd (pathV t i) (k : Int) ∧ rd (pathV t i) (k : Int) < (t.length : Int) := fun h => h3 _ (rd_mem (by omega))
  repeat' first | refine go ?_ | (refine sp ?_ ?_ <;> intro h) | intro b
  · have hx := hx (by omega)
    refine X.sta blankN ?_
    repeat' first | refine go ?_ | (refine sp ?_ ?_ <;> intro h) | intro b
    exact lp (k + 1, setN o (rd (pathV t i) (k : Int)) blankN) ⟨by dsimp only; omega, by simp [setN, hl], by dsimp only; rw [foldl_step (by omega), ← ho]⟩ (by dsimp only; omega)
  · have e : o = blankV t i := by rw [ho, List.take_of_length_le (by omega)]; rfl
    rw [← e]
    exact finO⟩
/-- A row that rises, with a number more. -/
def putV (n : Int) : List Int → List Int
  | [] => [n]
  | a :: l => if a > n then n :: a :: l else a :: putV n l
theorem drop_rd {l : List Int} {k : Nat} (h : k < l.length) : l.drop k = rd l (k : Int) :: l.drop (k + 1) := by
  rw [List.drop_eq_getElem_cons h, rd_nat, List.getD_eq_getElem?_getD, List.getElem?_eq_getElem h]; rfl
instance rPut : CC Tryd.prog 64 (∀ (l : List Int) (n : Int), l.length ≤ 1000000 → C 64 [gI l, .int .i64 n] (gI (putV n l))) := ⟨fun l n h1 => by
  refine ct Tryd.func64 fun {Z} H => ?_
  repeat' first | refine go ?_ | (refine sp ?_ ?_ <;> intro h) | intro b
  refine W.ghost 5 1 rfl ?_
  refine W.loop (fun s : Nat × List Int × Bool => [(0, gI l), (1, .int .i64 n), (5, .own 0 0 s.2.1.length s.2.1.length), (6, .bool s.2.2), (7, .int .i64 s.1)]) (fun s => [.buf 1 0 (s.2.1.map (V.int .i64))])
    (fun s => s.1 ≤ l.length ∧ s.2.1.length ≤ s.1 + s.2.2.toNat ∧ putV n l = s.2.1 ++ (if s.2.2 then l.drop s.1 else putV n (l.drop s.1))) (fun s => l.length - s.1) (0, [], false) ⟨Nat.zero_le _, Nat.zero_le _, rfl⟩ ?_
  rintro ⟨k, o, d⟩ env ⟨hk, ho, he⟩
  dsimp only at *
  have hd : k < l.length → l.drop k = rd l (k : Int) :: l.drop (k + 1) := drop_rd
  cases d with
  | true =>
    rw [Bool.toNat_true] at ho
    repeat' first | refine go ?_ | (refine sp ?_ ?_ <;> intro h) | intro b
    · have hd := hd (by omega)
      refine lp (k + 1, o ++ [rd l (k : Int)], true) ⟨by dsimp only; omega, by simp; omega, ?_⟩ (by dsimp only; omega)
      dsimp only
      rw [he, if_pos rfl, if_pos rfl, hd, List.append_assoc]; rfl
    · rw [if_pos rfl, List.drop_of_length_le (by omega), List.append_nil] at he
      rw [he]
      exact fin rfl
  | false =>
    rw [if_neg Bool.false_ne_true] at he
    rw [Bool.toNat_false] at ho
    repeat' first | refine go ?_ | (refine sp ?_ ?_ <;> intro h) | intro b
    · have hd := hd (by omega)
      refine lp (k + 1, o ++ [n] ++ [rd l (k : Int)], true) ⟨by dsimp only; omega, by simp; omega, ?_⟩ (by dsimp only; omega)
      dsimp only
      rw [he, if_pos rfl, hd, putV, if_pos (by assumption), List.append_assoc, List.append_assoc]; rfl
    · have hd := hd (by omega)
      refine lp (k + 1, o ++ [rd l (k : Int)], false) ⟨by dsimp only; omega, by simp; omega, ?_⟩ (by dsimp only; omega)
      dsimp only
      rw [he, if_neg Bool.false_ne_true, hd, putV, if_neg (by assumption), List.append_assoc]; rfl
    · rw [List.drop_of_length_le (by omega)] at he
      rw [he]
      exact fin rfl⟩
instance rUpdate : CC Tryd.prog 35 (∀ (t : List Nd) (i : Int) (pub : List UInt8), t.length ≤ 1000000 → pub.length ≤ 1000000 → (0 ≤ i → i < (cnt t : Int) → ∀ x ∈ pathV t i, 0 ≤ x ∧ x < (t.length : Int)) → C 35 [gT t, .int .i64 i, gB pub] (.tup [gT (updV t i pub).1, .int .i64 (updV t i pub).2])) := ⟨fun t i pub h1 h2 h3 => by
  refine ct Tryd.func35 fun {Z} H => ?_
  have hc : cnt t = (t.length + 1) / 2 := rfl
  by_cases hb : pub.length = 32
  · by_cases ht : thereB t i = true
    · have hr := thereB_le ht
      have h3 := h3 hr.1 hr.2.1
      have e : updV t i pub = (setN (blankV t i) (2 * i) (leafN (rd t (2 * i)).name pub), 0) := by unfold updV; rw [if_neg (by simp [hb]), if_pos ht]
      have hbl : (blankV t i).length = t.length := blankV_len t i
      rw [e]
      repeat' first | refine go ?_ | (refine sp ?_ ?_ <;> intro h) | intro b
      refine X.sta (leafN (rd t (2 * i)).name pub) ?_
      repeat' first | refine go ?_ | (refine sp ?_ ?_ <;> intro h) | intro b
      exact fin rfl
    · have e : updV t i pub = (t, 11) := by unfold updV; rw [if_neg (by simp [hb]), if_neg ht]
      rw [e]
      repeat' first | refine go ?_ | (refine sp ?_ ?_ <;> intro h) | intro b
      exact fin rfl
  · have e : updV t i pub = (t, 1) := by unfold updV; rw [if_pos (by simp [hb])]
    rw [e]
    repeat' first | refine go ?_ | (refine sp ?_ ?_ <;> intro h) | intro b
    exact fin rfl⟩
end Go.Proofs.Mth
end
section
/- Trees: the reference of a leaf that is removed. -/
set_option linter.unusedVariables false
set_option linter.unusedSimpArgs false
set_option maxRecDepth 100000
set_option maxHeartbeats 2000000
namespace Go.Proofs.Mth
open Go Go.Pv Go.Proofs Go.Shelf
/-- Leaves are blank, or leaves. -/
def okK (t : List Nd) : Prop := ∀ i, i < cnt t → (lf t i).kind = 0 ∨ (lf t i).kind = 1
instance rEmptyI : CC Tryd.prog 67 (∀ (t : List Nd) (k : Int), t.length ≤ 1000000 → 0 ≤ k ∧ k ≤ 1000000 → C 67 [gT t, .int .i64 k] (.bool (emptyB t k.toNat))) := ⟨fun t k h1 h2 => by
  obtain ⟨k, rfl⟩ := Int.eq_ofNat_of_zero_le h2.1
  rw [Int.toNat_natCast]
  exact rEmpty.out t k h1 (by omega)⟩
theorem lf_nat (t : List Nd) (p : Nat) : lf t p = t.getD (2 * p) default := by
  rw [lf, show 2 * (p : Int) = ((2 * p : Nat) : Int) by omega, rd_nat]
theorem lf_take {t : List Nd} {n p : Nat} (h : 2 * p < n) : lf (t.take n) p = lf t p := by
  rw [lf_nat, lf_nat, List.getD_eq_getElem?_getD, List.getD_eq_getElem?_getD, List.getElem?_take_of_lt h]
theorem okK_set {t : List Nd} (h : okK t) (x : Int) : okK (setN t x blankN) := fun i hi => by
  have hc : cnt (setN t x blankN) = cnt t := by simp [cnt, setN]
  rw [hc] at hi
  have := h i hi
  have hx := lf_at hi
  rw [lf_nat, List.getD_eq_getElem?_getD] at this ⊢
  rw [setN, List.getElem?_set]
  split
  · rename_i e; rw [if_pos (by omega)]; exact .inl rfl
  · exact this
theorem okK_fold {l : List Int} : ∀ {t : List Nd}, okK t → okK (l.foldl (fun t x => setN t x blankN) t) := by
  induction l with
  | nil => exact fun h => h
  | cons a l ih => exact fun h => ih (okK_set h a)
theorem okK_rem {t : List Nd} (h : okK t) (i : Int) : okK (remO t i) := okK_set (okK_fold h) _
theorem last_is (t : List Nd) : ∀ k, lastF t k = -1 ∨ (0 ≤ lastF t k ∧ (lf t (lastF t k).toNat).kind = 1)
  | 0 => .inl rfl
  | k + 1 => by
    rw [lastF]; split
    · exact .inr ⟨by omega, by rwa [Int.toNat_natCast]⟩
    · exact last_is t k
theorem last_no {t : List Nd} : ∀ {k q : Nat}, lastF t k < (q : Int) → q < k → ¬ (lf t q).kind = 1
  | 0, q, _, h => absurd h (Nat.not_lt_zero q)
  | k + 1, q, h, hq => by
    rw [lastF] at h; split at h
    · omega
    · by_cases e : q = k
      · subst e; assumption
      · exact last_no h (by omega)
theorem empty_take {o : List Nd} {j q k : Nat} (hlen : o.length = 2 * 2 ^ j - 1) (hq : q ≤ j) (hk : okK o) (hl : lastF o (2 ^ j) < ((2 ^ q : Nat) : Int)) : emptyB (o.take (2 * 2 ^ q - 1)) k = decide (lastF o (2 ^ j) < (k : Int)) := by
  have hqj : 2 ^ q ≤ 2 ^ j := Nat.pow_le_pow_right (by decide) hq
  have h1 : 1 ≤ 2 ^ q := Nat.one_le_two_pow
  have hc : cnt (o.take (2 * 2 ^ q - 1)) = 2 ^ q := cnt_of (by rw [List.length_take]; omega)
  have hco : cnt o = 2 ^ j := cnt_of hlen
  rw [Bool.eq_iff_iff, decide_eq_true_iff]
  constructor
  · intro he
    by_cases hlk : lastF o (2 ^ j) < (k : Int)
    · exact hlk
    · rcases last_is o (2 ^ j) with h | ⟨h0, h⟩
      · omega
      · have := emptyB_at he (q := (lastF o (2 ^ j)).toNat) (by omega) (by omega)
        rw [lf_take (by omega), h] at this
        exact absurd this (by decide)
  · intro hlk
    refine emptyB_of fun p hp hpc => ?_
    rw [hc] at hpc
    rw [lf_take (by omega)]
    have := last_no (t := o) (k := 2 ^ j) (q := p) (by omega) (by omega)
    rcases hk p (by omega) with h | h
    · exact h
    · exact absurd h this
instance rRemove : CC Tryd.prog 33 (∀ (t : List Nd) (i : Int), okS t → okK t → (0 ≤ i → i < (cnt t : Int) → ∀ x ∈ pathV t i, 0 ≤ x ∧ x < (t.length : Int)) → C 33 [gT t, .int .i64 i] (.tup [gT (remV t i).1, .int .i64 (remV t i).2])) := ⟨fun t i h1 h2 h3 => by
  refine ct Tryd.func33 fun {Z} H => ?_
  obtain ⟨j, hj, hlen⟩ := h1
  have hb := two_pow_bound hj
  have hct := cnt_of hlen
  by_cases ht : thereB t i = true
  · have hr := thereB_le ht
    have h3 := h3 hr.1 hr.2.1
    have hbl : (blankV t i).length = t.length := blankV_len t i
    repeat' first | refine go ?_ | (refine sp ?_ ?_ <;> intro h) | intro b
    refine X.sta blankN ?_
    repeat' first | refine go ?_ | (refine sp ?_ ?_ <;> intro h) | intro b
    rw [show (blankV t i).set (2 * i).toNat blankN = remO t i from rfl]
    have hol := remO_len t i
    have hrem : remV t i = if lastF (remO t i) (cnt t) < 0 then (t, 13) else ((remO t i).take (2 * 2 ^ wid (lastF (remO t i) (cnt t)) (Nat.log2 (cnt t)) - 1), 0) := by rw [remV, if_pos ht]
    have hoc : cnt (remO t i) = cnt t := by unfold cnt; rw [hol]
    have hok0 := okK_rem h2 i
    generalize remO t i = o at *
    have hok : okK o := hok0
    have hlo := lastF_lt o (2 ^ j)
    have he0 : emptyB o 0 = decide (lastF o (2 ^ j) < 0) := by
      have := empty_take (k := 0) (hol.trans hlen) (Nat.le_refl j) hok hlo.2
      rwa [List.take_of_length_le (by omega)] at this
    have hc0 : ((0 : Int).toNat) = 0 := rfl
    repeat' first | refine go ?_ | (refine sp ?_ ?_ <;> intro h) | intro b
    · have hn : lastF o (2 ^ j) < 0 := of_decide_eq_true (he0.symm.trans ‹_›)
      rw [hrem, if_pos (by rw [hct]; exact hn)]
      exact fin rfl
    · have hn : ¬ lastF o (2 ^ j) < 0 := of_decide_eq_false (he0.symm.trans ‹_›)
      rw [if_neg (by rw [hct]; exact hn), hct, Nat.log2_two_pow] at hrem
      rw [hrem]
      refine W.loop (fun q : Nat => [(7, .own 0 0 (2 * 2 ^ q - 1) t.length)]) (fun _ => [.buf 5 0 (o.map gN)]) (fun q => q ≤ j ∧ wid (lastF o (2 ^ j)) q = wid (lastF o (2 ^ j)) j ∧ lastF o (2 ^ j) < ((2 ^ q : Nat) : Int)) (fun q => q) j ⟨Nat.le_refl _, rfl, hlo.2⟩ ?_ (hF := ⟨by rw [← hlen]; rfl, True.intro⟩)
      rintro q env ⟨hq, hw, hlq⟩
      have hqb : 2 ^ q ≤ 2 ^ j := Nat.pow_le_pow_right (by decide) hq
      have hq1 : 1 ≤ 2 ^ q := Nat.one_le_two_pow
      have htl : (o.take (2 * 2 ^ q - 1)).length = 2 * 2 ^ q - 1 := by rw [List.length_take]; omega
      have hcq : cnt (o.take (2 * 2 ^ q - 1)) = 2 ^ q := cnt_of htl
      have hem := fun k => empty_take (k := k) (hol.trans hlen) hq hok hlq
      rcases q with _ | q
      · repeat' first | refine go ?_ | (refine sp ?_ ?_ <;> intro h) | intro b
        rw [← hw]
        exact fin rfl
      · have e2 : 2 ^ (q + 1) = 2 * 2 ^ q := Nat.pow_succ'
        have e1 : 1 ≤ 2 ^ q := Nat.one_le_two_pow
        have e3 : (((cnt (o.take (2 * 2 ^ (q + 1) - 1)) : Nat) : Int) / 2).toNat = 2 ^ q := by omega
        have e4 : (((2 * 2 ^ (q + 1) - 1 : Nat) : Int) / 2).toNat = 2 * 2 ^ q - 1 := by omega
        have e5 := hem (2 ^ q)
        repeat' first | refine go ?_ | (refine sp ?_ ?_ <;> intro h) | intro b
        · have hlt : lastF o (2 ^ j) < ((2 ^ q : Nat) : Int) := of_decide_eq_true (e5.symm.trans (e3 ▸ ‹_›))
          exact lp q ⟨by omega, by rw [← hw, wid, if_pos hlt], hlt⟩ (by omega) (hE := ⟨congrArg (fun n => V.own 0 0 n _) e4, True.intro⟩)
        · have hlt : ¬ lastF o (2 ^ j) < ((2 ^ q : Nat) : Int) := of_decide_eq_false (e5.symm.trans (e3 ▸ ‹_›))
          rw [← hw, wid, if_neg hlt]
          exact fin rfl
  · have e : remV t i = (t, 11) := by unfold remV; rw [if_neg ht]
    rw [e]
    repeat' first | refine go ?_ | (refine sp ?_ ?_ <;> intro h) | intro b
    exact fin rfl⟩
end Go.Proofs.Mth
end
section
/- Trees: resolutions. -/
set_option linter.unusedVariables false
set_option linter.unusedSimpArgs false
set_option maxRecDepth 100000
set_option maxHeartbeats 2000000
namespace Go.Proofs.Mth
open Go Go.Pv Go.Proofs Go.Shelf
/-- What a node is told to stand for: itself, and the leaves that don't know it. -/
def selfV (t : List Nd) (x : Int) : List Int := x :: (rd t x).un.map fun i => 2 * i
def resF : Nat → List Nd → Int → List Int
  | 0, _, _ => []
  | f + 1, t, x => if x < 0 ∨ (t.length : Int) ≤ x then [] else if ¬ (rd t x).kind = 0 then selfV t x else if x % 2 = 0 then [] else resF f t (childV x (-1)).1 ++ resF f t (childV x 1).1
/-- Leaves that don't know are few, and small numbers. -/
def okU (t : List Nd) : Prop := ∀ n ∈ t, n.un.length ≤ 1000 ∧ ∀ i ∈ n.un, 0 ≤ i ∧ i ≤ 1000000
theorem res_len {t : List Nd} (h : okU t) : ∀ f x, (resF f t x).length ≤ 1001 * 2 ^ f
  | 0, _ => by simp [resF]
  | f + 1, x => by
    have e : 2 ^ (f + 1) = 2 * 2 ^ f := Nat.pow_succ'
    have e1 : 1 ≤ 2 ^ f := Nat.one_le_two_pow
    rw [resF]; split
    · simp
    · split
      · have := (h _ (rd_mem (l := t) (i := x) (by omega))).1
        simp [selfV]; omega
      · split
        · simp
        · have h1 := res_len h f (childV x (-1)).1
          have h2 := res_len h f (childV x 1).1
          rw [List.length_append]; omega
theorem take_rd {l : List Int} {k : Nat} (h : k < l.length) : l.take (k + 1) = l.take k ++ [rd l (k : Int)] := by
  rw [List.take_add_one, List.getElem?_eq_getElem h, rd_nat, List.getD_eq_getElem?_getD, List.getElem?_eq_getElem h]; rfl
theorem el_own {L : List Go.Pv.Obj} {v : V} {id n sz m : Nat} {α : Type} {g : α → V} {l : List α} (h : v = .own id 0 n n) (hL : L[id]? = some (.buf sz m (l.map g))) (hn : l.length = n) : elems L v = some (l.map g) := by
  subst h hn
  simp [elems, hL]
  rw [List.take_of_length_le (by simp)]
theorem lev_kids {y : Nat} (hy : y < 2047) (h : y % 2 = 1) : lev (lN y) < lev y ∧ lev (rN y) < lev y := by
  have hh : ((List.range 2047).all fun y => decide (y % 2 = 1 → lev (lN y) < lev y ∧ lev (rN y) < lev y)) = true := by kernel_rfl
  exact of_decide_eq_true (all_lt hh y hy) h
theorem resolve_at {t : List Nd} (ht : okU t) (hl : t.length ≤ 2047) : ∀ f, f ≤ 11 → ∀ x : Int, (0 ≤ x → x < (t.length : Int) → lev x.toNat < f) → 0 < f → O 22 [gT t, .int .i64 x] 1 (resF f t x).length ((resF f t x).map (V.int .i64)) := by
  intro f
  induction f with
  | zero => intro _ _ _ h; omega
  | succ f ih =>
    intro hf x hx _
    refine co Tryd.func22 fun {Z} H => ?_
    by_cases hr : x < 0 ∨ (t.length : Int) ≤ x
    · rw [resF, if_pos hr]
      repeat' first | refine go ?_ | (refine sp ?_ ?_ <;> intro h) | intro b
      all_goals exact finG
    · have hbig := ht _ (rd_mem (l := t) (i := x) (by omega))
      rw [resF, if_neg hr]
      by_cases hk0 : ¬ (rd t x).kind = 0
      · rw [if_pos hk0, selfV]
        repeat' first | refine go ?_ | (refine sp ?_ ?_ <;> intro h) | intro b
        generalize hun : (rd t x).un = un at *
        refine W.loop (fun s : Nat × List Int => [(5, .own 1 0 s.2.length s.2.length), (38, gI un), (39, .int .i64 (un.length : Nat)), (40, .int .i64 s.1)]) (fun s => [.box [.int .i64 (rd t x).kind, .int .i64 (rd t x).name, gB (rd t x).pub, gI un, gB (rd t x).hash], .buf 1 0 (s.2.map (V.int .i64))]) (fun s => s.1 ≤ un.length ∧ s.2.length = s.1 + 1 ∧ s.2 = x :: (un.take s.1).map fun i => 2 * i) (fun s => un.length - s.1) (0, [x]) ⟨Nat.zero_le _, rfl, rfl⟩ ?_
        rintro ⟨k, l⟩ env ⟨hk, hll, hle⟩
        dsimp only at *
        have hie : k < un.length → 0 ≤ rd un (k : Int) ∧ rd un (k : Int) ≤ 1000000 := fun h => hbig.2 _ (rd_mem (by omega))
        repeat' first | refine go ?_ | (refine sp ?_ ?_ <;> intro h) | intro b
        · refine lp (k + 1, l ++ [2 * rd un (k : Int)]) ⟨by dsimp only; omega, by simp; omega, ?_⟩ (by dsimp only; omega)
          dsimp only
          rw [hle, take_rd (by omega), List.map_append]; rfl
        · rw [List.take_of_length_le (by omega)] at hle
          rw [← hle]
          first | exact finO | exact finG | fail
      · rw [if_neg hk0]
        by_cases ho : x % 2 = 0
        · rw [if_pos ho]
          repeat' first | refine go ?_ | (refine sp ?_ ?_ <;> intro h) | intro b
          first | exact finO | exact finG | fail
        · rw [if_neg ho]
          obtain ⟨y, rfl⟩ := Int.eq_ofNat_of_zero_le (show 0 ≤ x by omega)
          have hy : y < 2047 := by omega
          have hlk := lev_kids hy (by omega)
          have hx := hx (by omega) (by omega)
          rw [Int.toNat_natCast] at hx
          have e1 := childL (j := 10) (by omega) (y := y) (by omega) (by omega)
          have e2 := childR (j := 10) (by omega) (y := y) (by omega) (by omega)
          have k1 := ih (by omega) (childV y (-1)).1 (fun _ _ => by rw [e1, Int.toNat_natCast]; omega) (by omega) H
          have k2 := ih (by omega) (childV y 1).1 (fun _ _ => by rw [e2, Int.toNat_natCast]; omega) (by omega) H
          have hl1 := res_len ht f (childV y (-1)).1
          have hl2 := res_len ht f (childV y 1).1
          have hf2 : 2 ^ f ≤ 2 ^ 11 := Nat.pow_le_pow_right (by decide) (by omega)
          repeat' first | refine go ?_ | (refine sp ?_ ?_ <;> intro h) | intro b
          refine X.opr (I.ap (resF f t (childV (y : Int) 1).1) (g := V.int .i64) (el_own rfl rfl rfl) rfl rfl lenI ltI elI nrmL) ?_
          repeat' first | refine go ?_ | (refine sp ?_ ?_ <;> intro h) | intro b
          exact finO
def rslV (t : List Nd) (x : Int) : List Int := resF 11 t x
instance resolve : CC Tryd.prog 22 (∀ (t : List Nd) (x : Int), okU t → t.length ≤ 2047 → O 22 [gT t, .int .i64 x] 1 (rslV t x).length ((rslV t x).map (V.int .i64))) := ⟨fun t x h1 h2 => resolve_at h1 h2 11 (Nat.le_refl _) x (fun h0 hx => by have := lev_le x.toNat (by omega); omega) (by omega)⟩
theorem finGm {Z : Nat → Go.Obj → Prop} {fn : Func} {env : Nat → V} {L : List Go.Pv.Obj} {sz : Nat} {nl : Bool} {u : V} (h : resV Tryd.prog ⟨env, L⟩ fn.results.toList = some u := by first | exact resI | fail) (hu : u = .sl nl true [] := by rfl) :
    KO (FinP Tryd.prog Z fn sz 0 0 []) .ret env L := finG h hu
/-- How many elements of a resolution are known from the start on. -/
def resM : Nat → List Nd → Int → Nat
  | 0, _, _ => 0
  | f + 1, t, x => if x < 0 ∨ (t.length : Int) ≤ x then 0 else if ¬ (rd t x).kind = 0 then 1 else if x % 2 = 0 then 0 else resM f t (childV x (-1)).1
theorem rResolve_at {t : List Nd} (ht : okU t) (hl : t.length ≤ 2047) : ∀ f, f ≤ 11 → ∀ x : Int, (0 ≤ x → x < (t.length : Int) → lev x.toNat < f) → 0 < f → Om 23 [gT t, .int .i64 x] 1 (resM f t x) (resF f t x).length ((resF f t x).map (V.int .i64)) := by
  intro f
  induction f with
  | zero => intro _ _ _ h; omega
  | succ f ih =>
    intro hf x hx _
    refine com Tryd.func23 fun {Z} H => ?_
    by_cases hr : x < 0 ∨ (t.length : Int) ≤ x
    · rw [resF, resM, if_pos hr, if_pos hr]
      repeat' first | refine go ?_ | (refine sp ?_ ?_ <;> intro h) | intro b
      all_goals exact finGm
    · have hbig := ht _ (rd_mem (l := t) (i := x) (by omega))
      rw [resF, resM, if_neg hr, if_neg hr]
      by_cases hk0 : ¬ (rd t x).kind = 0
      · rw [if_pos hk0, if_pos hk0, selfV]
        repeat' first | refine go ?_ | (refine sp ?_ ?_ <;> intro h) | intro b
        refine W.ownify 5 1 (xs := [.int .i64 x]) rfl (by simp [V.cells]) (by decide) ?_
        generalize hun : (rd t x).un = un at *
        refine W.loop (fun s : Nat × List Int => [(0, gT t), (1, .int .i64 x), (5, .own 0 0 s.2.length s.2.length), (6, .int .i64 s.1)]) (fun s => [.buf 1 1 (s.2.map (V.int .i64))]) (fun s => s.1 ≤ un.length ∧ s.2.length = s.1 + 1 ∧ s.2 = x :: (un.take s.1).map fun i => 2 * i) (fun s => un.length - s.1) (0, [x]) ⟨Nat.zero_le _, rfl, rfl⟩ ?_
        rintro ⟨k, l⟩ env ⟨hk, hll, hle⟩
        dsimp only at *
        subst hun
        have hie : k < (rd t x).un.length → 0 ≤ rd (rd t x).un (k : Int) ∧ rd (rd t x).un (k : Int) ≤ 1000000 := fun h => hbig.2 _ (rd_mem (by omega))
        repeat' first | refine go ?_ | (refine sp ?_ ?_ <;> intro h) | intro b
        · refine lp (k + 1, l ++ [2 * rd (rd t x).un (k : Int)]) ⟨by dsimp only; omega, by simp; omega, ?_⟩ (by dsimp only; omega)
          dsimp only
          rw [hle, take_rd (by omega), List.map_append]; rfl
        · rw [List.take_of_length_le (by omega)] at hle
          rw [← hle]
          first | exact finP | exact finGm | fail
      · rw [if_neg hk0, if_neg hk0]
        by_cases ho : x % 2 = 0
        · rw [if_pos ho, if_pos ho]
          repeat' first | refine go ?_ | (refine sp ?_ ?_ <;> intro h) | intro b
          first | exact finP | exact finGm | fail
        · rw [if_neg ho, if_neg ho]
          obtain ⟨y, rfl⟩ := Int.eq_ofNat_of_zero_le (show 0 ≤ x by omega)
          have hy : y < 2047 := by omega
          have hlk := lev_kids hy (by omega)
          have hx := hx (by omega) (by omega)
          rw [Int.toNat_natCast] at hx
          have e1 := childL (j := 10) (by omega) (y := y) (by omega) (by omega)
          have e2 := childR (j := 10) (by omega) (y := y) (by omega) (by omega)
          have k1 := ih (by omega) (childV y (-1)).1 (fun _ _ => by rw [e1, Int.toNat_natCast]; omega) (by omega) H
          have k2 := ih (by omega) (childV y 1).1 (fun _ _ => by rw [e2, Int.toNat_natCast]; omega) (by omega) H
          have hl1 := res_len ht f (childV y (-1)).1
          have hl2 := res_len ht f (childV y 1).1
          have hf2 : 2 ^ f ≤ 2 ^ 11 := Nat.pow_le_pow_right (by decide) (by omega)
          repeat' first | refine go ?_ | (refine sp ?_ ?_ <;> intro h) | intro b
          refine X.opr (I.ap (resF f t (childV (y : Int) 1).1) (g := V.int .i64) (el_own rfl rfl rfl) rfl rfl lenI ltI elI nrmL) ?_
          repeat' first | refine go ?_ | (refine sp ?_ ?_ <;> intro h) | intro b
          exact finP
end Go.Proofs.Mth
end
