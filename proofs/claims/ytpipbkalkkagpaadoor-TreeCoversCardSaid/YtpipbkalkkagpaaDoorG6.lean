import Derived.Test.YtpipbkalkkagpaaDoorTie
import Derived.Test.YtpipbkalkkagpaaDoorCards
import Derived.Test.YtpipbkalkkagpaaDoorPv24
import Derived.Test.YtpipbkalkkagpaaDoorG4
import Derived.Test.YtpipbkalkkagpaaDoorG5
import Derived.ProofKit
import Derived.LaidMore
import Derived.OpenShut
import Derived.Stop.Joined
set_option linter.unusedVariables false
set_option linter.unusedSimpArgs false
set_option linter.unusedSectionVars false
section
/- Tree's seat: its listed variables; what the walks ask of the blocks that nobody turns holds. -/
set_option maxRecDepth 100000
set_option linter.unusedVariables false
namespace Go.Proofs.Mth
open Go Go.Pv Go.Proofs Go.ChangeShapes Go.WideShapes Go.ChangeAt Go.RowKit Go.Proofs.YtpipbkalkkagpaaDoor
theorem own : ownKnob Tryd.prog.godebug = none := by kernel_rfl
def theLaid : List (String × DataW Unit) := [("math/bits.deBruijn32tab", Rows.laid_math_bits_deBruijn32tab), ("math/bits.deBruijn64tab", Rows.laid_math_bits_deBruijn64tab)]
theorem g0 : Tryd.prog.globalNamed "math/bits.deBruijn32tab" = some 0 := by kernel_rfl
theorem g1 : Tryd.prog.globalNamed "math/bits.deBruijn64tab" = some 1 := by kernel_rfl
theorem u1 : ((Tryd.prog.globals[1]?).map (·.type)).bind Tryd.prog.underlying = some (.array 64 5) := by kernel_rfl
theorem door_met (os : Os) (args : Array Value) : laidMetH Tryd.prog theLaid ((World.doorLaid Tryd.prog 400 os).forCall (fun _ _ => 0) ⟨#[], args, []⟩).memory :=
  laidMetH_of_parts3 (fuel := 8) (laidMet_of_run' 8 (by kernel_rfl) (by kernel_rfl)) (by kernel_rfl) (by kernel_rfl)
def items : DataW Unit → List (DataW Unit)
  | .agg l => l
  | _ => []
def isU8 : Option (DataW Unit) → Nat → Bool
  | some (.lit (.int .u8 n)), m => n == (m : Int)
  | _, _ => false
theorem of_laid {W : World} (h : laidMetH Tryd.prog theLaid W) : TabAt 1 Lib.deBruijn64tab W := by
  rw [MakeChecks.laidMetH_plain _ _ _ (by kernel_rfl)] at h
  obtain ⟨ps, ⟨g0', t0, cs0, f0, p0, q0, hg0, ht0, hv0, hd0, ⟨g1', t1', cs1, f1, p1, q1, hg1, ht1, hv1, hd1, _, _⟩, _⟩, _, _⟩ := h
  obtain rfl := Option.some.inj (g1.symm.trans hg1)
  have u1' : Tryd.prog.underlying t1' = some (.array 64 5) := by
    have := u1
    rwa [ht1] at this
  obtain ⟨xs, m1, rfl, hx1, hlen, hn3, hel⟩ := DataW.trod_array u1' hd1
  have c5 : Tryd.prog.cellsOf 5 = 1 := by kernel_rfl
  have hall : ∀ i (hi : i < 64), ∃ k : Int, cs1.toList[i]? = some (.int .u8 k) ∧ (xs[i]'(by omega)).1 = .lit (.int .u8 k) := by
    intro i hi
    have h0 := hel i hi
    rw [c5, Nat.mul_one, List.getElem?_eq_getElem (by omega)] at h0
    obtain ⟨k, e1, e2, _⟩ := DataW.trod_int (k := .u8) (by kernel_rfl) h0
    refine ⟨k, ?_, by rw [e2]⟩
    have : ((cs1.toList.drop i).take 1)[0]? = some (.int .u8 k) := by rw [e1]; rfl
    simpa using this
  intro j hj
  have hj' : j < 64 := hj
  obtain ⟨k, h1, h2⟩ := hall j hj'
  have h3 := World.var?_cell hg1 hv1 j
  have h4 : cs1[j]? = some (.int .u8 k) := by rw [← Array.getElem?_toList]; exact h1
  rw [h4] at h3
  rw [h3]
  have hx2 : (xs.map (·.1))[j]? = some (.lit (.int .u8 k)) := by rw [List.getElem?_map, List.getElem?_eq_getElem (by omega), Option.map_some, h2]
  have hx3 : DataW.agg (xs.map (·.1)) = (Rows.laid_math_bits_deBruijn64tab : DataW Unit) := by
    have := congrArg Prod.fst hx1
    simpa using this.symm
  have key : ∀ i, i < 64 → ∀ k : Int, xs.map (·.1) = items Rows.laid_math_bits_deBruijn64tab := by
    intro i hi k; rw [← hx3]; rfl
  have hx4 := key 0 (by decide) 0
  rw [hx4] at hx2
  have tab : ((List.range 64).all fun i => isU8 (items Rows.laid_math_bits_deBruijn64tab)[i]? (Lib.deBruijn64tab.getD i 0)) = true := by kernel_rfl
  have := all_lt tab j hj'
  rw [hx2] at this
  rw [eq_of_beq (show (k == ((Lib.deBruijn64tab.getD j 0 : Nat) : Int)) = true from this)]
/-- The blocks that nobody turns: the table. -/
def Zl (W : World) (B : Nat) (o : Go.Obj) : Prop := B = 1 ∧ W.heap[B]? = some o
theorem Zl_ok {W : World} (h : TabAt 1 Lib.deBruijn64tab W) : ZT (Zl W) where
  z := by
    rintro B o ⟨rfl, ho⟩
    have := h 0 (by decide)
    unfold World.cell? at this
    rw [ho] at this
    cases o <;> first | exact ⟨_, _, _, rfl⟩ | (simp at this)
  t := by
    intro G L w hr j hj
    have hc := h j hj
    cases hh : W.heap[1]? with
    | none => simp [World.cell?, hh] at hc
    | some o =>
      have := hr.zc 1 o ⟨rfl, hh⟩
      rw [World.cell_congr (w := W) (by rw [this, hh])]
      exact hc
theorem u16_wf {a : Int} (h : (Lit.int .u16 a).wf = true) : 0 ≤ a ∧ a < 65536 := by
  simp [Lit.wf, IntKind.min, IntKind.max, IntKind.signed, IntKind.bits] at h; omega
theorem u8_wf {a : Int} (h : (Lit.int .u8 a).wf = true) : 0 ≤ a ∧ a < 256 := by
  simp [Lit.wf, IntKind.min, IntKind.max, IntKind.signed, IntKind.bits] at h; omega
theorem i64_wf {a : Int} (h : (Lit.int .i64 a).wf = true) : -9223372036854775808 ≤ a ∧ a ≤ 9223372036854775807 := by
  simp [Lit.wf, IntKind.min, IntKind.max, IntKind.signed, IntKind.bits] at h; omega
theorem hasBlock {W : World} : ∀ B o, Zl W B o → W.heap[B]? = some o := fun _ _ h => h.2
/-! arguments that came in -/
theorem cells8 : Tryd.prog.cellsOf 5 = 1 := by kernel_rfl
theorem opnB (W : World) : Opn Tryd.prog W 23 gB (fun _ => True) := Opn.bytes (e := 5) (by kernel_rfl) (by kernel_rfl) cells8
theorem opnI (W : World) : Opn Tryd.prog W 3 (V.int .i64) (fun _ => True) := Opn.map (Opn.int (by kernel_rfl)) id (fun _ _ => rfl) (fun _ _ => trivial)
theorem opnIs (W : World) : Opn Tryd.prog W 38 gI (fun _ => True) := Opn.map (Opn.slice (g := V.int .i64) (e := 3) (by kernel_rfl) (sz := 1) (by kernel_rfl) (by decide) (fun _ => rfl) (opnI W)) id (fun _ _ => rfl) (fun _ _ => trivial)
theorem opnN (W : World) : Opn Tryd.prog W 45 gN (fun _ => True) :=
  Opn.map (Opn.struct rfl (OpnL.cons rfl rfl (opnI W) (fun _ => rfl) (OpnL.cons rfl rfl (opnI W) (fun _ => rfl) (OpnL.cons rfl rfl (opnB W) (fun _ => rfl) (OpnL.cons rfl rfl (opnIs W) (fun _ => rfl) (OpnL.cons rfl rfl (opnB W) (fun _ => rfl) OpnL.nil))))) (fun _ => by rfl))
    (fun p => ⟨p.1, p.2.1, p.2.2.1, p.2.2.2.1, p.2.2.2.2.1⟩) (fun _ _ => rfl) (fun _ _ => trivial)
theorem opnT (W : World) : Opn Tryd.prog W 22 gT (fun _ => True) := Opn.map (Opn.slice (g := gN) (e := 45) (by kernel_rfl) (sz := 5) (by kernel_rfl) (by decide) (fun _ => rfl) (opnN W)) id (fun _ _ => rfl) (fun _ _ => trivial)
def gTells (p : List Nd × List Nd × Int × List UInt8 × Int × Unit) : V := .agg [gT p.1, gT p.2.1, .int .i64 p.2.2.1, gB p.2.2.2.1, .int .i64 p.2.2.2.2.1]
theorem opnTells (W : World) : Opn Tryd.prog W 25 gTells (fun _ => True) :=
  Opn.map (Opn.struct rfl (OpnL.cons rfl rfl (opnT W) (fun _ => rfl) (OpnL.cons rfl rfl (opnT W) (fun _ => rfl) (OpnL.cons rfl rfl (opnI W) (fun _ => rfl) (OpnL.cons rfl rfl (opnB W) (fun _ => rfl) (OpnL.cons rfl rfl (opnI W) (fun _ => rfl) OpnL.nil))))) (fun _ => by rfl))
    id (fun _ _ => rfl) (fun _ _ => trivial)
end Go.Proofs.Mth
end
section
/- Tree's laws: their structs. -/
set_option maxRecDepth 100000
set_option linter.unusedVariables false
namespace Go.Proofs.Mth
open Go Go.Pv Go.Proofs
theorem opnU (W : World) : Opn Tryd.prog W 5 g8 (fun _ => True) := Opn.u8 (by kernel_rfl)
def gDoes (p : List Nd × Int × List UInt8 × Int × Unit) : V := .agg [gT p.1, .int .i64 p.2.1, gB p.2.2.1, .int .i64 p.2.2.2.1]
theorem opnDoes (W : World) : Opn Tryd.prog W 56 gDoes (fun _ => True) :=
  Opn.map (Opn.struct rfl (OpnL.cons rfl rfl (opnT W) (fun _ => rfl) (OpnL.cons rfl rfl (opnI W) (fun _ => rfl) (OpnL.cons rfl rfl (opnB W) (fun _ => rfl) (OpnL.cons rfl rfl (opnI W) (fun _ => rfl) OpnL.nil)))) (fun _ => by rfl))
    id (fun _ _ => rfl) (fun _ _ => trivial)
def gStays (p : List Nd × Int × Int × UInt8 × Unit) : V := .agg [gT p.1, .int .i64 p.2.1, .int .i64 p.2.2.1, g8 p.2.2.2.1]
theorem opnStays (W : World) : Opn Tryd.prog W 64 gStays (fun _ => True) :=
  Opn.map (Opn.struct rfl (OpnL.cons rfl rfl (opnT W) (fun _ => rfl) (OpnL.cons rfl rfl (opnI W) (fun _ => rfl) (OpnL.cons rfl rfl (opnI W) (fun _ => rfl) (OpnL.cons rfl rfl (opnU W) (fun _ => rfl) OpnL.nil)))) (fun _ => by rfl))
    id (fun _ _ => rfl) (fun _ _ => trivial)
def gBack (p : List Nd × Int × UInt8 × UInt8 × Unit) : V := .agg [gT p.1, .int .i64 p.2.1, g8 p.2.2.1, g8 p.2.2.2.1]
theorem opnBack (W : World) : Opn Tryd.prog W 68 gBack (fun _ => True) :=
  Opn.map (Opn.struct rfl (OpnL.cons rfl rfl (opnT W) (fun _ => rfl) (OpnL.cons rfl rfl (opnI W) (fun _ => rfl) (OpnL.cons rfl rfl (opnU W) (fun _ => rfl) (OpnL.cons rfl rfl (opnU W) (fun _ => rfl) OpnL.nil)))) (fun _ => by rfl))
    id (fun _ _ => rfl) (fun _ _ => trivial)
end Go.Proofs.Mth
end
section
/- Places of a tree: the program's plain functions. -/
set_option linter.unusedVariables false
set_option linter.unusedSimpArgs false
set_option maxRecDepth 100000
set_option maxHeartbeats 1000000
namespace Go.Proofs.Mth
open Go Go.Pv Go.Proofs Go.Shelf
theorem not_val {x : Int} (h0 : 0 ≤ x) (h1 : x < 2047) : IntKind.u64.wrap ((BitVec.ofInt 64 18446744073709551615 ^^^ BitVec.ofInt 64 (IntKind.u64.wrap x)).toNat : Nat) = ((18446744073709551615 - x.toNat : Nat) : Int) := by
  obtain ⟨n, rfl⟩ := Int.eq_ofNat_of_zero_le h0
  have hn : n < 2047 := by omega
  have : (IntKind.u64.wrap ((BitVec.ofInt 64 18446744073709551615 ^^^ BitVec.ofInt 64 (IntKind.u64.wrap (n : Int))).toNat : Nat) == ((18446744073709551615 - n : Nat) : Int)) = true :=
    all_lt (n := 2047) (p := fun n => IntKind.u64.wrap ((BitVec.ofInt 64 18446744073709551615 ^^^ BitVec.ofInt 64 (IntKind.u64.wrap (n : Int))).toNat : Nat) == ((18446744073709551615 - n : Nat) : Int)) (by kernel_rfl) n hn
  simpa using this
instance tz : CC Tryd.prog 90 (∀ (x : Nat), x < 18446744073709551616 → C 90 [.int .u64 x] (.int .i64 (Lib.ctz 64 x))) := ⟨fun x h1 => by
  refine ct Tryd.func90 fun {Z} H => ?_
  repeat' first | refine go ?_ | (refine sp ?_ ?_ <;> intro h) | intro b
  exact fin rfl⟩
instance isTree : CC Tryd.prog 73 (∀ (n : Int), C 73 [.int .i64 n] (.bool (isT n))) := ⟨fun n => by
  refine ct Tryd.func73 fun {Z} H => ?_
  repeat' first | refine go ?_ | (refine sp ?_ ?_ <;> intro h) | intro b
  all_goals refine fin (vB ?_)
  · obtain ⟨m, rfl⟩ := Int.eq_ofNat_of_zero_le (show 0 ≤ n by omega)
    have := isT_bits m (by omega)
    have e0 : (m == 0) = false := by rw [beq_eq_false_iff_ne]; omega
    simp only [e0, Bool.false_or, beq_iff_eq] at this
    rw [show IntKind.i64.wrap ((m : Int) - 1) = (m : Int) - 1 by rw [IntKind.wrap_i64]; omega] at this
    unfold isT
    rw [decide_eq_true (p := (1 : Int) ≤ m) (by omega), decide_eq_true (p := (m : Int) ≤ 1024) (by omega), Bool.true_and, Bool.true_and]
    refine Eq.trans ?_ this
    exact Bool.eq_iff_iff.2 (by rw [decide_eq_true_iff, beq_iff_eq]; rfl)
  all_goals simp [isT]; omega⟩
theorem isT_le {n : Int} (h : isT n = true) : 1 ≤ n ∧ n ≤ 1024 := by
  unfold isT at h
  simp only [Bool.and_eq_true, decide_eq_true_eq] at h
  exact ⟨h.1.1, h.1.2⟩
theorem isN_le {x n : Int} (h : isN x n = true) : isT n = true ∧ 0 ≤ x ∧ x < 2 * n - 1 := by
  unfold isN at h
  simp only [Bool.and_eq_true, decide_eq_true_eq] at h
  exact ⟨h.1.1, h.1.2, h.2⟩
instance isNode : CC Tryd.prog 86 (∀ (x n : Int), C 86 [.int .i64 x, .int .i64 n] (.bool (isN x n))) := ⟨fun x n => by
  refine ct Tryd.func86 fun {Z} H => ?_
  by_cases hn : isT n = true
  · have := isT_le hn
    repeat' first | refine go ?_ | (refine sp ?_ ?_ <;> intro h) | intro b
    all_goals refine fin (vB ?_)
    all_goals simp [isN, hn, *]
  · repeat' first | refine go ?_ | (refine sp ?_ ?_ <;> intro h) | intro b
    all_goals refine fin (vB ?_)
    all_goals simp [isN, hn]⟩
instance level : CC Tryd.prog 85 (∀ (x : Int), C 85 [.int .i64 x] (.int .i64 (lv x))) := ⟨fun x => by
  refine ct Tryd.func85 fun {Z} H => ?_
  have k1 : ∀ L, 0 ≤ x → x < 2047 → SE Tryd.prog Z 90 [.int .u64 (IntKind.u64.wrap ((BitVec.ofInt 64 18446744073709551615 ^^^ BitVec.ofInt 64 x).toNat : Nat))] L (.int .i64 (lv x)) L := fun L h0 h1 => by
    have := not_val h0 h1
    rw [wU64 (a := x) (by omega)] at this
    rw [this, show lv x = lev x.toNat from by unfold lv; rw [if_neg (by omega)], ← eq_of_beq (ctz_lev x.toNat (by omega))]
    exact tz.out (18446744073709551615 - x.toNat) (by omega) H L
  by_cases h : x < 0 ∨ 2047 ≤ x
  · have e : lv x = 0 := by unfold lv; rw [if_pos h]
    repeat' first | refine go ?_ | (refine sp ?_ ?_ <;> intro h) | intro b
    all_goals (refine fin (vI ?_); omega)
  · replace k1 := fun L => k1 L (by omega) (by omega)
    repeat' first | refine go ?_ | (refine sp ?_ ?_ <;> intro h) | intro b
    exact fin rfl⟩
instance up : CC Tryd.prog 92 (∀ (x : Nat), x < 2047 → C 92 [.int .i64 x] (.int .i64 (upN x))) := ⟨fun x h1 => by
  refine ct Tryd.func92 fun {Z} H => ?_
  repeat' first | refine go ?_ | (refine sp ?_ ?_ <;> intro h) | intro b
  refine fin (vI ?_)
  show upB x (IntKind.i64.wrap (1 * 2 ^ (min (lv x) 64))) (IntKind.i64.wrap (2 * 2 ^ (min (lv x) 64))) = _
  rw [lv_of x ‹_›]
  exact eq_of_beq (up_bits x ‹_›)⟩
theorem shl_val {s : Int} {k : Nat} (hs : s = 1 ∨ s = -1) (h : k ≠ 0) (hk : k ≤ 10) : IntKind.i64.wrap (s * 2 ^ (min ((k : Int) - 1).toNat 64)) = s * 2 ^ (k - 1) := by
  rw [show ((k : Int) - 1).toNat = k - 1 by omega, Nat.min_eq_left (by omega)]
  have := pow_le (k := k - 1) (by omega)
  rcases hs with rfl | rfl <;> rw [IntKind.wrap_i64] <;> omega
instance child : CC Tryd.prog 78 (∀ (x s : Int), s = 1 ∨ s = -1 → C 78 [.int .i64 x, .int .i64 s] (.tup [.int .i64 (childV x s).1, .int .i64 (childV x s).2])) := ⟨fun x s h1 => by
  refine ct Tryd.func78 fun {Z} H => ?_
  have hl := lv_le x
  repeat' first | refine go ?_ | (refine sp ?_ ?_ <;> intro h) | intro b
  · refine fin (vII ?_ ?_) <;> rw [childV, if_pos (by omega)] <;> rfl
  · have hk := pow_le (k := lv x - 1) (by omega)
    have hx : 0 ≤ x ∧ x < 2047 := by
      have h : (lv x : Int) ≠ 0 := by assumption
      unfold lv at h; split at h
      · exact absurd rfl h
      · omega
    refine fin (vII ?_ ?_)
    · rw [childV, if_neg (by omega)]
      show IntKind.i64.wrap (x + IntKind.i64.wrap (s * 2 ^ (min ((lv x : Int) - 1).toNat 64))) = x + s * 2 ^ (lv x - 1)
      rw [shl_val ‹_› (by omega) hl]
      rcases (by assumption : s = 1 ∨ s = -1) with rfl | rfl <;> rw [IntKind.wrap_i64] <;> omega
    · rw [childV, if_neg (by omega)]⟩
instance left : CC Tryd.prog 50 (∀ (x : Int), C 50 [.int .i64 x] (.tup [.int .i64 (childV x (-1)).1, .int .i64 (childV x (-1)).2])) := ⟨fun x => by
  refine ct Tryd.func50 fun {Z} H => ?_
  repeat' first | refine go ?_ | (refine sp ?_ ?_ <;> intro h) | intro b
  exact fin rfl⟩
instance right : CC Tryd.prog 51 (∀ (x : Int), C 51 [.int .i64 x] (.tup [.int .i64 (childV x 1).1, .int .i64 (childV x 1).2])) := ⟨fun x => by
  refine ct Tryd.func51 fun {Z} H => ?_
  repeat' first | refine go ?_ | (refine sp ?_ ?_ <;> intro h) | intro b
  exact fin rfl⟩
end Go.Proofs.Mth
end
section
/- Places of a tree: paths. -/
set_option linter.unusedVariables false
set_option linter.unusedSimpArgs false
set_option maxRecDepth 100000
set_option maxHeartbeats 1000000
namespace Go.Proofs.Mth
open Go Go.Pv Go.Proofs Go.Shelf
abbrev bx (n : Int) : Go.Pv.Obj := .box [.int .i64 n]
instance above : CC Tryd.prog 87 (∀ (x n : Int) {Z}, ZT Z → ∀ L, SE Tryd.prog Z 87 [.int .i64 x, .int .i64 n] L (.fn 91 [.ref L.length 0, .ref (L ++ [bx x]).length 0]) ((L ++ [bx x]) ++ [bx n])) := ⟨fun x n {Z} H L => by
  refine SE.full H.z Tryd.func87 rfl ?_
  repeat' first | refine go ?_ | (refine sp ?_ ?_ <;> intro h) | intro b
  exact K.fin rfl ⟨rfl, rfl⟩⟩
def gP (q : Nat × Nat) : Int := q.2
def gC (q : Nat × Nat) : Int := 2 * q.2 - q.1
def wayV (g : Nat × Nat → Int) (x n : Int) : List Int × Int := if isN x n then ((ups x.toNat n.toNat).map g, 0) else ([], 1)
instance path : CC Tryd.prog 80 (∀ (x n : Int), C 80 [.int .i64 x, .int .i64 n] (.tup [gI (wayV gP x n).1, .int .i64 (wayV gP x n).2])) := ⟨fun x n => by
  refine ct Tryd.func80 fun {Z} H => ?_
  by_cases h : isN x n = true
  · obtain ⟨j, y, hj, hy, rfl, rfl⟩ := isN_nat h
    have hb := two_pow_bound hj
    repeat' first | refine go ?_ | (refine sp ?_ ?_ <;> intro h) | intro b
    refine W.ghostB 0 1 rfl ?_
    refine W.rfS H.z Tryd.func91 rfl ?_
    repeat' first | refine go ?_ | (refine sp ?_ ?_ <;> intro h) | intro b
    refine W.loopU (fun (s : Nat × List Int) => [(0, .yl 4), (1, .ref 1 0), (2, .ref 2 0)]) (fun s => [(0, .box [.own 3 0 s.2.length s.2.length]), (1, bx s.1), (3, .buf 1 0 (s.2.map (V.int .i64)))])
      (fun s => s.1 < 2 * 2 ^ j - 1 ∧ ∃ done, s.2 = done.map gP ∧ ups y (2 ^ j) = done ++ ups s.1 (2 ^ j)) (fun s => 11 - lev s.1) (y, []) ⟨hy, [], rfl, rfl⟩ ?_
    rintro ⟨z, acc⟩ env ⟨hz, done, rfl, hd⟩
    have hl : done.length ≤ 11 := by
      have := ups_len y (2 ^ j)
      rw [hd, List.length_append] at this
      omega
    dsimp only at *
    repeat' first | refine go ?_ | (refine sp ?_ ?_ <;> intro h) | intro b
    · have hu := up_node j hj z hz (by omega)
      rw [ups_step hj hz (by omega)] at hd
      refine lu (upN z, done.map gP ++ [gP (z, upN z)]) ⟨hu.1, done ++ [(z, upN z)], by simp, by rw [hd, List.append_assoc]; rfl⟩ ?_
      have := lev_le (upN z) (by omega)
      dsimp only
      omega
    · rw [ups_end (x := z) hj (by omega), List.append_nil] at hd
      have hv : wayV gP (y : Int) ((2 ^ j : Nat) : Int) = (done.map gP, 0) := by
        unfold wayV
        rw [if_pos ‹_›, Int.toNat_natCast, Int.toNat_natCast, hd]
      rw [hv]
      exact fin rfl
  · have e : wayV gP x n = ([], 1) := by unfold wayV; rw [if_neg h]
    rw [e]
    repeat' first | refine go ?_ | (refine sp ?_ ?_ <;> intro h) | intro b
    exact fin rfl⟩
end Go.Proofs.Mth
end
section
/- Places of a tree: the reference. -/
set_option linter.unusedVariables false
set_option linter.unusedSimpArgs false
set_option maxRecDepth 100000
set_option maxHeartbeats 2000000
namespace Go.Proofs.Mth
open Go Go.Pv Go.Proofs Go.Shelf
theorem dbl (i : Nat) : (2 : Int) * ((2 ^ i : Nat) : Int) = ((2 ^ (i + 1) : Nat) : Int) := by
  rw [Nat.pow_succ]; push_cast; omega
theorem pow_mono {i j : Nat} (h : i < j) : 2 ^ i < 2 ^ j := Nat.pow_lt_pow_right (by omega) h
instance rTree : CC Tryd.prog 72 (∀ (n : Int), C 72 [.int .i64 n] (.bool (isT n))) := ⟨fun n => by
  refine ct Tryd.func72 fun {Z} H => ?_
  repeat' first | refine go ?_ | (refine sp ?_ ?_ <;> intro h) | intro b
  refine W.loop (fun i : Nat => [(0, .int .i64 n), (3, .int .i64 ((2 ^ i : Nat) : Int))]) (fun _ => []) (fun i => i ≤ 10 ∧ ∀ q, q < i → n ≠ ((2 ^ q : Nat) : Int)) (fun i => 10 - i) 0 ⟨by omega, fun q hq => absurd hq (Nat.not_lt_zero q)⟩ ?_
  rintro i env ⟨hi, hq⟩
  have hb := two_pow_bound (j := i) (by omega)
  have hd := dbl i
  have hc : i < 10 ∨ i = 10 := by omega
  rcases hc with hc | rfl
  · have := pow_mono hc
    repeat' first | refine go ?_ | (refine sp ?_ ?_ <;> intro h) | intro b
    · refine lp (i + 1) ⟨by omega, fun q hq' => ?_⟩ (by omega)
      by_cases hqi : q = i
      · subst hqi; exact fun h' => ‹¬ _ = n› h'.symm
      · exact hq q (by omega)
    · refine fin (vB ?_)
      rw [decide_eq_true ‹_›, ← ‹_ = n›]
      exact (isT_of (by omega)).symm
  · repeat' first | refine go ?_ | (refine sp ?_ ?_ <;> intro h) | intro b
    refine fin (vB ?_)
    by_cases hn : ((2 ^ 10 : Nat) : Int) = n
    · rw [decide_eq_true hn, ← hn]; exact (isT_of (by omega)).symm
    · rw [decide_eq_false hn]
      symm
      rw [Bool.eq_false_iff]
      intro ht
      obtain ⟨j, hj, e⟩ := isT_pow ht
      by_cases hj10 : j = 10
      · subst hj10; exact hn e.symm
      · exact hq j (by omega) e⟩
instance rNode : CC Tryd.prog 68 (∀ (x n : Int), C 68 [.int .i64 x, .int .i64 n] (.bool (isN x n))) := ⟨fun x n => by
  refine ct Tryd.func68 fun {Z} H => ?_
  by_cases hn : isT n = true
  · have := isT_le hn
    repeat' first | refine go ?_ | (refine sp ?_ ?_ <;> intro h) | intro b
    all_goals refine fin (vB ?_)
    all_goals simp [isN, hn, *]
  · repeat' first | refine go ?_ | (refine sp ?_ ?_ <;> intro h) | intro b
    all_goals refine fin (vB ?_)
    all_goals simp [isN, hn]⟩
instance rWidth : CC Tryd.prog 42 (∀ (n : Int), C 42 [.int .i64 n] (.tup [.int .i64 (widthV n).1, .int .i64 (widthV n).2])) := ⟨fun n => by
  refine ct Tryd.func42 fun {Z} H => ?_
  by_cases hn : isT n = true
  · have := isT_le hn
    repeat' first | refine go ?_ | (refine sp ?_ ?_ <;> intro h) | intro b
    refine fin (vII ?_ ?_) <;> simp [widthV, hn]
  · repeat' first | refine go ?_ | (refine sp ?_ ?_ <;> intro h) | intro b
    refine fin (vII ?_ ?_) <;> simp [widthV, hn]⟩
instance width : CC Tryd.prog 44 (∀ (n : Int), C 44 [.int .i64 n] (.tup [.int .i64 (widthV n).1, .int .i64 (widthV n).2])) := ⟨fun n => by
  refine ct Tryd.func44 fun {Z} H => ?_
  by_cases hn : isT n = true
  · have := isT_le hn
    repeat' first | refine go ?_ | (refine sp ?_ ?_ <;> intro h) | intro b
    refine fin (vII ?_ ?_) <;> simp [widthV, hn]
  · repeat' first | refine go ?_ | (refine sp ?_ ?_ <;> intro h) | intro b
    refine fin (vII ?_ ?_) <;> simp [widthV, hn]⟩
instance rHalf : CC Tryd.prog 79 (∀ (k : Nat), k ≤ 10 → C 79 [.int .i64 k] (.int .i64 ((2 ^ k : Nat) : Int))) := ⟨fun k h1 => by
  refine ct Tryd.func79 fun {Z} H => ?_
  repeat' first | refine go ?_ | (refine sp ?_ ?_ <;> intro h) | intro b
  refine W.loop (fun i : Nat => [(0, .int .i64 k), (3, .int .i64 ((2 ^ i : Nat) : Int)), (4, .int .i64 i)]) (fun _ => []) (fun i => i ≤ k) (fun i => k - i) 0 (Nat.zero_le _) ?_
  intro i env hi
  have hb := two_pow_bound (j := i) (by omega)
  have hd := dbl i
  try dsimp only at *
  repeat' first | refine go ?_ | (refine sp ?_ ?_ <;> intro h) | intro b
  · exact lp (i + 1) (by omega) (by omega)
  · refine fin (vI ?_)
    rw [show i = k by omega]⟩
instance rLevel : CC Tryd.prog 54 (∀ (x : Int), C 54 [.int .i64 x] (.int .i64 (lv x))) := ⟨fun x => by
  refine ct Tryd.func54 fun {Z} H => ?_
  by_cases h : x < 0 ∨ 2047 ≤ x
  · have e : lv x = 0 := by unfold lv; rw [if_pos h]
    repeat' first | refine go ?_ | (refine sp ?_ ?_ <;> intro h) | intro b
    refine W.loop (fun _ : Unit => [(0, .int .i64 x), (3, .int .i64 0), (4, .int .i64 x)]) (fun _ => []) (fun _ => True) (fun _ => 0) () trivial ?_
    intro _ env _
    repeat' first | refine go ?_ | (refine sp ?_ ?_ <;> intro h) | intro b
    all_goals (refine fin (vI ?_); omega)
  · obtain ⟨x, rfl⟩ := Int.eq_ofNat_of_zero_le (show 0 ≤ x by omega)
    rw [lv_of x (by omega)]
    repeat' first | refine go ?_ | (refine sp ?_ ?_ <;> intro h) | intro b
    refine W.loop (fun s : Nat × Nat => [(0, .int .i64 x), (3, .int .i64 s.1), (4, .int .i64 s.2)]) (fun _ => []) (fun s => s.2 ≤ x ∧ s.1 + levF (11 - s.1) s.2 = lev x ∧ s.1 ≤ 11 ∧ s.2 < 2 ^ (11 - s.1)) (fun s => s.2) (0, x) ⟨Nat.le_refl _, by simp [lev], by omega, by dsimp only; omega⟩ ?_
    rintro ⟨i, y⟩ env ⟨h1, h2, h3, h4⟩
    try dsimp only at *
    repeat' first | refine go ?_ | (refine sp ?_ ?_ <;> intro h) | intro b
    · have hi : i < 11 := by
        by_cases h : i = 11
        · subst h; simp at h4; omega
        · omega
      refine lp (i + 1, y / 2) ⟨by dsimp only; omega, ?_, by omega, ?_⟩ (by dsimp only; omega)
      · rw [show 11 - i = (11 - (i + 1)) + 1 by omega, levF, if_pos (by omega)] at h2
        dsimp only
        omega
      · rw [show 11 - i = (11 - (i + 1)) + 1 by omega, Nat.pow_succ] at h4
        dsimp only
        omega
    · refine fin (vI ?_)
      rw [← h2]
      by_cases hi : i = 11
      · subst hi; simp [levF]
      · rw [show 11 - i = (11 - (i + 1)) + 1 by omega, levF, if_neg (by omega)]; omega⟩
end Go.Proofs.Mth
end
section
/- Places of a tree: the reference's children, parents, leaves, paths; rows of ints. -/
set_option linter.unusedVariables false
set_option linter.unusedSimpArgs false
set_option maxRecDepth 100000
set_option maxHeartbeats 2000000
namespace Go.Proofs.Mth
open Go Go.Pv Go.Proofs Go.Shelf
theorem pow_cast (k : Nat) : (2 : Int) ^ k = ((2 ^ k : Nat) : Int) := by push_cast; rfl
theorem lvN {j y : Nat} (hj : j < 11) (hy : y < 2 * 2 ^ j - 1) : lv (y : Int) = lev y := lv_of y (by have := two_pow_bound hj; omega)
theorem up_in : ∀ j, j < 11 → ∀ x, x < 2 * 2 ^ j - 1 → x + 1 ≠ 2 ^ j → upN x % 2 = 1 ∧ (lN (upN x) = x ∨ rN (upN x) = x) := by
  have h : ((List.range 11).all fun j => (List.range (2 * 2 ^ j - 1)).all fun x => decide (x + 1 ≠ 2 ^ j → upN x % 2 = 1 ∧ (lN (upN x) = x ∨ rN (upN x) = x))) = true := by kernel_rfl
  intro j hj x hx
  exact of_decide_eq_true (all_lt (all_lt h j hj) x hx)
theorem childL {j y : Nat} (hj : j < 11) (hy : y < 2 * 2 ^ j - 1) (h : y % 2 = 1) : childV (y : Int) (-1) = (((lN y : Nat) : Int), 0) := by
  have hk := kids j hj y hy h
  unfold childV; rw [lvN hj hy, if_neg hk.1, pow_cast]
  have h1 := hk.2.1
  unfold lN at h1 ⊢
  congr 1
  have : 2 ^ (lev y - 1) ≤ y := by
    have := lev_low y (by have := two_pow_bound hj; omega)
    have : 2 ^ (lev y - 1 + 1) ≤ y + 1 := by rw [Nat.sub_add_cancel (by have := hk.1; omega)]; exact this
    rw [Nat.pow_succ] at this; omega
  omega
theorem childR {j y : Nat} (hj : j < 11) (hy : y < 2 * 2 ^ j - 1) (h : y % 2 = 1) : childV (y : Int) 1 = (((rN y : Nat) : Int), 0) := by
  have hk := kids j hj y hy h
  unfold childV; rw [lvN hj hy, if_neg hk.1, pow_cast]
  unfold rN
  congr 1
  generalize 2 ^ (lev y - 1) = e at *
  omega
theorem childE {j y : Nat} (hj : j < 11) (hy : y < 2 * 2 ^ j - 1) (h : y % 2 = 0) (s : Int) : childV (y : Int) s = (0, 1) := by
  unfold childV; rw [lvN hj hy, lev_even h, if_pos rfl]
theorem lv_pos_lt {x : Int} (h : lv x ≠ 0) : 0 ≤ x ∧ x < 2047 := by
  unfold lv at h; split at h
  · exact absurd rfl h
  · omega
theorem half1 {Z : Nat → Go.Obj → Prop} (H : ZT Z) {k : Nat} (h : k + 1 ≤ 10) (L : List Go.Pv.Obj) : SE Tryd.prog Z 79 [.int .i64 (((k + 1 : Nat) : Int) - 1)] L (.int .i64 ((2 ^ k : Nat) : Int)) L := by
  rw [show ((k + 1 : Nat) : Int) - 1 = (k : Nat) by omega]
  exact rHalf.out k (by omega) H L
instance rLeft : CC Tryd.prog 52 (∀ (x : Int), C 52 [.int .i64 x] (.tup [.int .i64 (childV x (-1)).1, .int .i64 (childV x (-1)).2])) := ⟨fun x => by
  refine ct Tryd.func52 fun {Z} H => ?_
  have k1 := rLevel.out x H
  have hle := lv_le x
  cases hk : lv x with
  | zero =>
    rw [hk] at k1
    repeat' first | refine go ?_ | (refine sp ?_ ?_ <;> intro h) | intro b
    refine fin (vII ?_ ?_) <;> unfold childV <;> rw [if_pos hk]
  | succ k =>
    rw [hk] at k1 hle
    have hp := lv_pos_lt (x := x) (by omega)
    have hb := two_pow_bound (j := k) (by omega)
    have k2 := half1 H hle
    repeat' first | refine go ?_ | (refine sp ?_ ?_ <;> intro h) | intro b
    refine fin (vII ?_ ?_) <;> unfold childV <;> rw [if_neg (by omega), hk, pow_cast, Nat.add_sub_cancel]
    omega⟩
instance rRight : CC Tryd.prog 53 (∀ (x : Int), C 53 [.int .i64 x] (.tup [.int .i64 (childV x 1).1, .int .i64 (childV x 1).2])) := ⟨fun x => by
  refine ct Tryd.func53 fun {Z} H => ?_
  have k1 := rLevel.out x H
  have hle := lv_le x
  cases hk : lv x with
  | zero =>
    rw [hk] at k1
    repeat' first | refine go ?_ | (refine sp ?_ ?_ <;> intro h) | intro b
    refine fin (vII ?_ ?_) <;> unfold childV <;> rw [if_pos hk]
  | succ k =>
    rw [hk] at k1 hle
    have hp := lv_pos_lt (x := x) (by omega)
    have hb := two_pow_bound (j := k) (by omega)
    have k2 := half1 H hle
    repeat' first | refine go ?_ | (refine sp ?_ ?_ <;> intro h) | intro b
    refine fin (vII ?_ ?_) <;> unfold childV <;> rw [if_neg (by omega), hk, pow_cast, Nat.add_sub_cancel]
    omega⟩
theorem parV_nat {j y : Nat} (hj : j < 11) (hy : y < 2 * 2 ^ j - 1) : parV (y : Int) ((2 ^ j : Nat) : Int) = if y + 1 = 2 ^ j then (0, 11) else (((upN y : Nat) : Int), 0) := by
  have hb := two_pow_bound hj
  unfold parV
  rw [if_pos (isN_of hj hy)]
  by_cases h : y + 1 = 2 ^ j
  · rw [if_pos h, if_pos (by omega)]
  · rw [if_neg h, if_neg (by omega)]; rfl
instance rParent : CC Tryd.prog 69 (∀ (x n : Int), C 69 [.int .i64 x, .int .i64 n] (.tup [.int .i64 (parV x n).1, .int .i64 (parV x n).2])) := ⟨fun x n => by
  refine ct Tryd.func69 fun {Z} H => ?_
  by_cases hN : isN x n = true
  · obtain ⟨j, y, hj, hy, rfl, rfl⟩ := isN_nat hN
    have hb := two_pow_bound hj
    repeat' first | refine go ?_ | (refine sp ?_ ?_ <;> intro h) | intro b
    refine W.loop (fun p : Nat => [(0, .int .i64 y), (1, .int .i64 ((2 ^ j : Nat) : Int)), (7, .int .i64 p)]) (fun _ => []) (fun p => p ≤ 2 * 2 ^ j - 1 ∧ ∀ q, q < p → ¬ (y + 1 ≠ 2 ^ j ∧ q = upN y)) (fun p => 2 * 2 ^ j - p) 0 ⟨Nat.zero_le _, fun q hq => absurd hq (Nat.not_lt_zero q)⟩ ?_
    rintro p env ⟨hp, hq⟩
    try dsimp only at *
    have hc : p < 2 * 2 ^ j - 1 ∨ p = 2 * 2 ^ j - 1 := by omega
    rcases hc with hpl | rfl
    · have k1 := rLeft.out (p : Int) H
      have k2 := rRight.out (p : Int) H
      have hnext : ∀ (hne : ¬ (y + 1 ≠ 2 ^ j ∧ p = upN y)), ∀ q, q < p + 1 → ¬ (y + 1 ≠ 2 ^ j ∧ q = upN y) := fun hne q hq' hc => by
        by_cases hqp : q = p
        · subst hqp; exact hne hc
        · exact hq q (by omega) hc
      by_cases ho : p % 2 = 1
      · rw [childL hj hpl ho] at k1
        rw [childR hj hpl ho] at k2
        have hk := kids j hj p hpl ho
        repeat' first | refine go ?_ | (refine sp ?_ ?_ <;> intro h) | intro b
        · have hl : lN p = y := by omega
          refine fin (vII ?_ ?_) <;> rw [parV_nat hj hy, if_neg (by rw [← hl]; exact hk.2.2.2.2.2.2.1)]
          rw [← hl, hk.2.2.2.2.1]
        · have hl : rN p = y := by omega
          refine fin (vII ?_ ?_) <;> rw [parV_nat hj hy, if_neg (by rw [← hl]; exact hk.2.2.2.2.2.2.2.1)]
          rw [← hl, hk.2.2.2.2.2.1]
        · refine lp (p + 1) ⟨by omega, hnext fun ⟨hc1, hc2⟩ => ?_⟩ (by omega)
          have hu := up_in j hj y hy hc1
          rw [← hc2] at hu
          omega
      · rw [childE hj hpl (by omega)] at k1 k2
        repeat' first | refine go ?_ | (refine sp ?_ ?_ <;> intro h) | intro b
        refine lp (p + 1) ⟨by omega, hnext fun ⟨hc1, hc2⟩ => ?_⟩ (by omega)
        have hu := up_in j hj y hy hc1
        rw [← hc2] at hu
        omega
    · repeat' first | refine go ?_ | (refine sp ?_ ?_ <;> intro h) | intro b
      refine fin (vII ?_ ?_) <;> rw [parV_nat hj hy] <;> by_cases h : y + 1 = 2 ^ j
      · rw [if_pos h]
      · exact absurd ⟨h, rfl⟩ (hq _ (up_node j hj y hy h).1)
      · rw [if_pos h]
      · exact absurd ⟨h, rfl⟩ (hq _ (up_node j hj y hy h).1)
  · repeat' first | refine go ?_ | (refine sp ?_ ?_ <;> intro h) | intro b
    refine fin (vII ?_ ?_) <;> unfold parV <;> rw [if_neg hN]⟩
end Go.Proofs.Mth
end
section
/- Places of a tree: leaves below a node, the reference's paths; rows of ints and of bytes. -/
set_option linter.unusedVariables false
set_option linter.unusedSimpArgs false
set_option maxRecDepth 100000
set_option maxHeartbeats 2000000
namespace Go.Proofs.Mth
open Go Go.Pv Go.Proofs Go.Shelf
def leavesV (x : Int) : Int × Int := if x < 0 ∨ 2047 ≤ x then (0, -1) else ((x - (2 ^ lv x - 1)) / 2, (x + (2 ^ lv x - 1)) / 2)
theorem go_left : ∀ x, x < 2047 → ∀ i, i ≤ lev x → lev (x + 2 ^ i - 2 ^ lev x) = i ∧ 2 ^ lev x ≤ x + 2 ^ i ∧ (0 < i → (x + 2 ^ i - 2 ^ lev x) % 2 = 1 ∧ lN (x + 2 ^ i - 2 ^ lev x) = x + 2 ^ (i - 1) - 2 ^ lev x) ∧ x + 2 ^ i - 2 ^ lev x < 2047 := by
  have h : ((List.range 2047).all fun x => (List.range (lev x + 1)).all fun i => decide (lev (x + 2 ^ i - 2 ^ lev x) = i ∧ 2 ^ lev x ≤ x + 2 ^ i ∧ (0 < i → (x + 2 ^ i - 2 ^ lev x) % 2 = 1 ∧ lN (x + 2 ^ i - 2 ^ lev x) = x + 2 ^ (i - 1) - 2 ^ lev x) ∧ x + 2 ^ i - 2 ^ lev x < 2047)) = true := by kernel_rfl
  intro x hx i hi
  exact of_decide_eq_true (all_lt (all_lt h x hx) i (by omega))
theorem go_right : ∀ x, x < 2047 → ∀ i, i ≤ lev x → lev (x + 2 ^ lev x - 2 ^ i) = i ∧ (0 < i → (x + 2 ^ lev x - 2 ^ i) % 2 = 1 ∧ rN (x + 2 ^ lev x - 2 ^ i) = x + 2 ^ lev x - 2 ^ (i - 1)) ∧ x + 2 ^ lev x - 2 ^ i < 2047 := by
  have h : ((List.range 2047).all fun x => (List.range (lev x + 1)).all fun i => decide (lev (x + 2 ^ lev x - 2 ^ i) = i ∧ (0 < i → (x + 2 ^ lev x - 2 ^ i) % 2 = 1 ∧ rN (x + 2 ^ lev x - 2 ^ i) = x + 2 ^ lev x - 2 ^ (i - 1)) ∧ x + 2 ^ lev x - 2 ^ i < 2047)) = true := by kernel_rfl
  intro x hx i hi
  exact of_decide_eq_true (all_lt (all_lt h x hx) i (by omega))
theorem leaves_nat : ∀ x, x < 2047 → leavesV (x : Nat) = ((((x + 1 - 2 ^ lev x) / 2 : Nat) : Int), (((x + 2 ^ lev x - 1) / 2 : Nat) : Int)) := by
  have h : ((List.range 2047).all fun x => decide (leavesV (x : Nat) = ((((x + 1 - 2 ^ lev x) / 2 : Nat) : Int), (((x + 2 ^ lev x - 1) / 2 : Nat) : Int)))) = true := by kernel_rfl
  intro x hx
  exact of_decide_eq_true (all_lt h x hx)
theorem leftN {Z : Nat → Go.Obj → Prop} (H : ZT Z) {y : Nat} (hy : y < 2047) (h : y % 2 = 1) (L : List Go.Pv.Obj) : SE Tryd.prog Z 52 [.int .i64 y] L (.tup [.int .i64 (lN y : Nat), .int .i64 0]) L := by
  have := rLeft.out y H L
  rwa [childL (j := 10) (by omega) (by omega) h] at this
theorem rightN {Z : Nat → Go.Obj → Prop} (H : ZT Z) {y : Nat} (hy : y < 2047) (h : y % 2 = 1) (L : List Go.Pv.Obj) : SE Tryd.prog Z 53 [.int .i64 y] L (.tup [.int .i64 (rN y : Nat), .int .i64 0]) L := by
  have := rRight.out y H L
  rwa [childR (j := 10) (by omega) (by omega) h] at this
theorem levelN {Z : Nat → Go.Obj → Prop} (H : ZT Z) {y : Nat} (hy : y < 2047) (L : List Go.Pv.Obj) : SE Tryd.prog Z 54 [.int .i64 y] L (.int .i64 (lev y)) L := by
  have := rLevel.out y H L
  rwa [lv_of y hy] at this
instance rLeaves : CC Tryd.prog 25 (∀ (x : Int), C 25 [.int .i64 x] (.tup [.int .i64 (leavesV x).1, .int .i64 (leavesV x).2])) := ⟨fun x => by
  refine ct Tryd.func25 fun {Z} H => ?_
  by_cases h0 : x < 0 ∨ 2047 ≤ x
  · repeat' first | refine go ?_ | (refine sp ?_ ?_ <;> intro h) | intro b
    all_goals refine fin (vII ?_ ?_) <;> unfold leavesV <;> rw [if_pos h0]
  · obtain ⟨x, rfl⟩ := Int.eq_ofNat_of_zero_le (show 0 ≤ x by omega)
    have hx : x < 2047 := by omega
    have hlow := lev_low x hx
    have hlx := lev_le x hx
    repeat' first | refine go ?_ | (refine sp ?_ ?_ <;> intro h) | intro b
    refine W.loop (fun i : Nat => [(0, .int .i64 x), (4, .int .i64 ((x + 2 ^ i - 2 ^ lev x : Nat) : Int)), (5, .int .i64 x)]) (fun _ => []) (fun i => i ≤ lev x) (fun i => i) (lev x) (Nat.le_refl _) ?_
    intro i env hi
    obtain ⟨g1, g2, g3, g4⟩ := go_left x hx i hi
    have k1 := levelN H g4
    rw [g1] at k1
    by_cases hi : i = 0
    · subst hi
      repeat' first | refine go ?_ | (refine sp ?_ ?_ <;> intro h) | intro b
      refine W.loop (fun k : Nat => [(0, .int .i64 x), (4, .int .i64 ((x + 1 - 2 ^ lev x : Nat) : Int)), (5, .int .i64 ((x + 2 ^ lev x - 2 ^ k : Nat) : Int))]) (fun _ => []) (fun i => i ≤ lev x) (fun i => i) (lev x) (Nat.le_refl _) ?_
      intro k env hk
      obtain ⟨q1, q3, q4⟩ := go_right x hx k hk
      have k1 := levelN H q4
      rw [q1] at k1
      by_cases hk0 : k = 0
      · subst hk0
        repeat' first | refine go ?_ | (refine sp ?_ ?_ <;> intro h) | intro b
        refine fin (vII ?_ ?_) <;> rw [leaves_nat x hx] <;> simp only [Nat.pow_zero] <;> omega
      · obtain ⟨q5, q6⟩ := q3 (by omega)
        have k2 := rightN H q4 q5
        rw [q6] at k2
        repeat' first | refine go ?_ | (refine sp ?_ ?_ <;> intro h) | intro b
        exact lp (k - 1) (by omega) (by omega)
    · obtain ⟨g5, g6⟩ := g3 (by omega)
      have k2 := leftN H g4 g5
      rw [g6] at k2
      repeat' first | refine go ?_ | (refine sp ?_ ?_ <;> intro h) | intro b
      exact lp (i - 1) (by omega) (by omega)⟩
theorem pow_low {x : Int} {k : Nat} (h : 2 ^ k ≤ x.toNat + 1) (h0 : 0 ≤ x) : (2 : Int) ^ k ≤ x + 1 := by
  have : ((2 ^ k : Nat) : Int) ≤ ((x.toNat + 1 : Nat) : Int) := Int.ofNat_le.2 h
  rw [Int.natCast_pow] at this
  have e : ((x.toNat + 1 : Nat) : Int) = x + 1 := by omega
  rw [e] at this
  exact this
instance leaves : CC Tryd.prog 74 (∀ (x : Int), C 74 [.int .i64 x] (.tup [.int .i64 (leavesV x).1, .int .i64 (leavesV x).2])) := ⟨fun x => by
  refine ct Tryd.func74 fun {Z} H => ?_
  by_cases h0 : x < 0 ∨ 2047 ≤ x
  · repeat' first | refine go ?_ | (refine sp ?_ ?_ <;> intro h) | intro b
    all_goals refine fin (vII ?_ ?_) <;> unfold leavesV <;> rw [if_pos h0]
  · have h5 : lv x = lev x.toNat := by unfold lv; rw [if_neg (by omega)]
    have h2 := lev_low x.toNat (by omega)
    have h3 := lv_le x
    have h4 := pow_le h3
    rw [← h5] at h2
    have h6 := pow_low h2 (show 0 ≤ x by omega)
    repeat' first | refine go ?_ | (refine sp ?_ ?_ <;> intro h) | intro b
    refine fin (vII ?_ ?_) <;> unfold leavesV <;> rw [if_neg h0]
    · show (x - (1 * 2 ^ lv x - 1)) / 2 = (x - (2 ^ lv x - 1)) / 2
      rw [Int.one_mul]
    · rw [show x + (1 * 2 ^ lv x - 1) = x + (2 ^ lv x - 1) by omega]⟩
instance ints : CC Tryd.prog 21 (∀ (a b : List Int), a.length ≤ 1000000000 → C 21 [gI a, gI b] (.bool (decide (a = b)))) := ⟨fun a b h1 => by
  refine ct Tryd.func21 fun {Z} H => ?_
  repeat' first | refine go ?_ | (refine sp ?_ ?_ <;> intro h) | intro b
  · refine fin (vB ?_)
    rw [decide_eq_false]; rintro rfl; omega
  · have hl : a.length = b.length := by omega
    refine W.loop (fun i : Nat => [(0, gI a), (1, gI b), (5, .int .i64 i)]) (fun _ => []) (fun i => i ≤ a.length ∧ ∀ q, q < i → a[q]? = b[q]?) (fun i => a.length - i) 0 ⟨Nat.zero_le _, fun q hq => absurd hq (Nat.not_lt_zero q)⟩ ?_
    rintro i env ⟨hi, hq⟩
    repeat' first | refine go ?_ | (refine sp ?_ ?_ <;> intro h) | intro b
    · refine fin (vB ?_)
      rw [decide_eq_false]; rintro rfl; exact ‹¬ _› rfl
    · refine lp (i + 1) ⟨by omega, fun q hq' => ?_⟩ (by omega)
      by_cases hqi : q = i
      · subst hqi
        have h1 := rd_get (l := a) (i := q) (by omega)
        have h2 := rd_get (l := b) (i := q) (by omega)
        rw [Int.toNat_natCast] at h1 h2
        rw [h1, h2]; exact congrArg some ‹_›
      · exact hq q (by omega)
    · refine fin (vB ?_)
      rw [decide_eq_true]
      refine List.ext_getElem? fun q => ?_
      by_cases hqa : q < a.length
      · exact hq q (by omega)
      · rw [List.getElem?_eq_none (by omega), List.getElem?_eq_none (by omega)]⟩
instance inI : CC Tryd.prog 27 (∀ (l : List Int) (n : Int), l.length ≤ 1000000000 → C 27 [gI l, .int .i64 n] (.bool (decide (n ∈ l)))) := ⟨fun l n h1 => by
  refine ct Tryd.func27 fun {Z} H => ?_
  repeat' first | refine go ?_ | (refine sp ?_ ?_ <;> intro h) | intro b
  refine W.loop (fun i : Nat => [(0, gI l), (1, .int .i64 n), (5, .int .i64 i)]) (fun _ => []) (fun i => i ≤ l.length ∧ ∀ q, q < i → l[q]? ≠ some n) (fun i => l.length - i) 0 ⟨Nat.zero_le _, fun q hq => absurd hq (Nat.not_lt_zero q)⟩ ?_
  rintro i env ⟨hi, hq⟩
  have hr : i < l.length → l[i]? = some (rd l i) := fun hlt => by
    have h1 := rd_get (l := l) (i := i) (by omega)
    rwa [Int.toNat_natCast] at h1
  repeat' first | refine go ?_ | (refine sp ?_ ?_ <;> intro h) | intro b
  · refine fin (vB ?_)
    rw [decide_eq_true]
    refine List.mem_iff_getElem?.2 ⟨i, ?_⟩
    rw [hr (by omega)]; exact congrArg some ‹_›
  · refine lp (i + 1) ⟨by omega, fun q hq' => ?_⟩ (by omega)
    by_cases hqi : q = i
    · subst hqi
      rw [hr (by omega)]
      exact fun h => ‹¬ _› (Option.some.inj h)
    · exact hq q (by omega)
  · refine fin (vB ?_)
    rw [decide_eq_false]
    intro hm
    obtain ⟨q, hm⟩ := List.mem_iff_getElem?.1 hm
    have := (List.getElem?_eq_some_iff.1 hm).1
    exact hq q (by omega) hm⟩
instance rSame : CC Tryd.prog 70 (∀ (a b : List UInt8), C 70 [gB a, gB b] (.bool (decide (a = b)))) := ⟨fun a b => by
  refine ct Tryd.func70 fun {Z} H => ?_
  repeat' first | refine go ?_ | (refine sp ?_ ?_ <;> intro h) | intro b
  refine fin (vB ?_)
  exact str_eq a b⟩
end Go.Proofs.Mth
end
