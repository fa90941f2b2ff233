import Derived.Shelf.Spec.TrailingZeros
import Derived.Test.YthhoacanegbeaaaDoorMS
import Derived.Test.YthhoacanegbeaaaDoorProg
set_option linter.unusedVariables false
set_option linter.unusedSimpArgs false
namespace Go.Proofs.Mth
open Go Go.Pv Go.Proofs Go.Shelf
def rn : Ren := ⟨fun x => if x = 29 then 46 else if x = 27 then 40 else x, fun x => if x = 22 then 55 else if x = 25 then 51 else if x = 54 then 57 else x, fun x => x⟩
theorem tzL : Lays7.n29 Tryd.prog rn := by constructor <;> first | rfl | (intro _; rfl) | kernel_rfl
/-- What the walks ask of the blocks that nobody turns. -/
structure ZT (Z : Nat → Go.Obj → Prop) : Prop where
  z : ∀ B o, Z B o → ∃ c e f, o = Go.Obj.cells c e f
  t : ∀ G L w, Rel Z G L w → TabAt 1 Lib.deBruijn64tab w
variable {Z : Nat → Go.Obj → Prop}
theorem tz64 (H : ZT Z) (x : Nat) (hx : x < 18446744073709551616) (L : List Go.Pv.Obj) : SE Tryd.prog Z 46 [.int .u64 x] L (.int .i64 (Lib.ctz 64 x)) L := by
  refine ⟨⟨⟨_, (rfl : Tryd.prog.funcs[46]? = some Tryd.f46), by kernel_rfl, by kernel_rfl⟩, fun G w rargs hr ha => ?_⟩⟩
  obtain ⟨hs, hv⟩ := ha
  obtain ⟨v, rfl⟩ : ∃ v, rargs = #[v] := Array.size_eq_one_iff.1 hs
  have hv := hv 0 Nat.one_pos
  cases hv
  refine Calls0.of_calls ((Any7.bits_TrailingZeros64 tzL x hx w (fun _ => H.t G L w hr)).mono ?_)
  rintro e w' ⟨rfl, rfl⟩
  exact ⟨_, rfl, G, L, _, ⟨rfl, rfl⟩, hr, .refl _ _ _, .int _ _⟩
theorem tz (H : ZT Z) (x : Nat) (hx : x < 18446744073709551616) (L : List Go.Pv.Obj) : SE Tryd.prog Z 40 [.int .u64 x] L (.int .i64 (Lib.ctz 64 x)) L := by
  refine SE.data H.z Tryd.func40 rfl ?_
  repeat' first
    | (show XO _ _ _ (Oper.mk (some _) (Op.call _) _ _ _ none :: _) _ _ _; first | refine X.call (tz64 H x hx _) ?_)
    | (show XO _ _ _ (Oper.mk (some _) _ _ _ _ none :: _) _ _ _; first | refine X.go rfl ?_ | refine X.shl rfl rfl (by first | omega | exact Int.natCast_nonneg _) ?_ | refine X.shr rfl rfl (by first | omega | exact Int.natCast_nonneg _) ?_)
    | (show XO _ _ _ (Oper.mk _ _ _ _ _ (some _) :: _) _ _ _; first | refine X.gy rfl rfl ?_ | refine X.gn rfl rfl rfl ?_ | refine X.gs rfl rfl (fun h => ?_) (fun h => ?_))
    | (show XO _ _ _ (Oper.mk none _ _ _ _ none :: _) _ _ _; refine X.st rfl ?_)
    | (show XO _ _ _ [] _ _ _; refine X.nil ?_)
    | (show AO _ _ _ (Oper.mk (some _) (Op.call _) _ _ _ none :: _) _ _ _; first | refine A.call (tz64 H x hx _) ?_)
    | (show AO _ _ _ (Oper.mk (some _) _ _ _ _ none :: _) _ _ _; first | refine A.go rfl ?_ | refine A.shl rfl rfl (by first | omega | exact Int.natCast_nonneg _) ?_ | refine A.shr rfl rfl (by first | omega | exact Int.natCast_nonneg _) ?_)
    | (show AO _ _ _ (Oper.mk _ _ _ _ _ (some _) :: _) _ _ _; first | refine A.gy rfl rfl ?_ | refine A.gn rfl rfl rfl ?_ | refine A.gs rfl rfl (fun h => ?_) (fun h => ?_))
    | (show AO _ _ _ [] _ _ _; refine A.nil ?_)
    | (show CW _ _ _ _ (Code.seq (Code.region _ _ false) _) _ _ _; refine W.rq ?_)
    | (show CW _ _ _ _ (Code.region _ _ false) _ _ _; refine W.rz ?_)
    | (show CW _ _ _ _ (Code.seq (Code.region _ _ true) _) _ _ _; first | refine W.dq 0 ?_ | refine W.dq 1 ?_ | refine W.dq 2 ?_ | refine W.dq 3 ?_ | refine W.dq 4 ?_ | refine W.dq 5 ?_ | refine W.dq 6 ?_ | refine W.dq 7 ?_ | refine W.dq 8 ?_ | refine W.dq 9 ?_ | refine W.dq 10 ?_ | refine W.dq 11 ?_ | refine W.dq 12 ?_ | refine W.dq 13 ?_ | refine W.dq 14 ?_ | refine W.dq 15 ?_)
    | (show CW _ _ _ _ (Code.region _ _ true) _ _ _; first | refine W.dz 0 ?_ | refine W.dz 1 ?_ | refine W.dz 2 ?_ | refine W.dz 3 ?_ | refine W.dz 4 ?_ | refine W.dz 5 ?_ | refine W.dz 6 ?_ | refine W.dz 7 ?_ | refine W.dz 8 ?_ | refine W.dz 9 ?_ | refine W.dz 10 ?_ | refine W.dz 11 ?_ | refine W.dz 12 ?_ | refine W.dz 13 ?_ | refine W.dz 14 ?_ | refine W.dz 15 ?_)
    | (show CW _ _ _ _ _ _ _ _; first | refine W.kr ?_ | refine W.kn ?_ | refine W.ke ?_ | refine W.ct rfl ?_ | refine W.cf rfl ?_ | refine W.cd rfl (fun h => ?_) (fun h => ?_) | refine W.bl ?_ | refine W.sq ?_)
    | (show KO _ _ _ _; first | refine K.sn ?_ | refine K.sr ?_ | refine K.se ?_ | refine K.bn ?_ | refine K.br ?_ | refine K.be ?_ | refine K.bx rfl ?_ | refine K.lr ?_ | refine K.le ?_)
    | refine K.nx ?_
    | refine K.re ?_
    | refine K.dr ?_
  all_goals refine end_data rfl rfl ?_
  all_goals rfl
theorem not_val {x : Int} (h0 : 0 ≤ x) (h1 : x < 2047) : IntKind.u64.wrap ((BitVec.ofInt 64 18446744073709551615 ^^^ BitVec.ofInt 64 (IntKind.u64.wrap x)).toNat : Nat) = ((18446744073709551615 - x.toNat : Nat) : Int) := by
  obtain ⟨n, rfl⟩ := Int.eq_ofNat_of_zero_le h0
  have hn : n < 2047 := by omega
  have : (IntKind.u64.wrap ((BitVec.ofInt 64 18446744073709551615 ^^^ BitVec.ofInt 64 (IntKind.u64.wrap (n : Int))).toNat : Nat) == ((18446744073709551615 - n : Nat) : Int)) = true :=
    all_lt (n := 2047) (p := fun n => IntKind.u64.wrap ((BitVec.ofInt 64 18446744073709551615 ^^^ BitVec.ofInt 64 (IntKind.u64.wrap (n : Int))).toNat : Nat) == ((18446744073709551615 - n : Nat) : Int)) (by kernel_rfl) n hn
  simpa using this
theorem tzn (H : ZT Z) (x : Int) (h : decide (x < 0) = false) (h' : decide (x ≥ 2047) = false) (L : List Go.Pv.Obj) :
    SE Tryd.prog Z 40 [.int .u64 (IntKind.u64.wrap ((BitVec.ofInt 64 18446744073709551615 ^^^ BitVec.ofInt 64 (IntKind.u64.wrap x)).toNat : Nat))] L (.int .i64 (lv x)) L := by
  simp at h h'
  rw [not_val h h']
  have := tz H (18446744073709551615 - x.toNat) (by omega) L
  rw [show Lib.ctz 64 (18446744073709551615 - x.toNat) = lv x from by
    rw [show lv x = lev x.toNat from by unfold lv; rw [if_neg (by omega)]]
    exact by simpa using ctz_lev x.toNat (by omega)] at this
  exact this
theorem level (H : ZT Z) (x : Int) (L : List Go.Pv.Obj) : SE Tryd.prog Z 21 [.int .i64 x] L (.int .i64 (lv x)) L := by
  refine SE.data H.z Tryd.func21 rfl ?_
  repeat' first
    | (show XO _ _ _ (Oper.mk (some _) (Op.call _) _ _ _ none :: _) _ _ _; first | refine X.call (tzn H x ‹_› ‹_› _) ?_)
    | (show XO _ _ _ (Oper.mk (some _) _ _ _ _ none :: _) _ _ _; first | refine X.go rfl ?_ | refine X.shl rfl rfl (by first | omega | exact Int.natCast_nonneg _) ?_ | refine X.shr rfl rfl (by first | omega | exact Int.natCast_nonneg _) ?_)
    | (show XO _ _ _ (Oper.mk _ _ _ _ _ (some _) :: _) _ _ _; first | refine X.gy rfl rfl ?_ | refine X.gn rfl rfl rfl ?_ | refine X.gs rfl rfl (fun h => ?_) (fun h => ?_))
    | (show XO _ _ _ (Oper.mk none _ _ _ _ none :: _) _ _ _; refine X.st rfl ?_)
    | (show XO _ _ _ [] _ _ _; refine X.nil ?_)
    | (show AO _ _ _ (Oper.mk (some _) (Op.call _) _ _ _ none :: _) _ _ _; first | refine A.call (tzn H x ‹_› ‹_› _) ?_)
    | (show AO _ _ _ (Oper.mk (some _) _ _ _ _ none :: _) _ _ _; first | refine A.go rfl ?_ | refine A.shl rfl rfl (by first | omega | exact Int.natCast_nonneg _) ?_ | refine A.shr rfl rfl (by first | omega | exact Int.natCast_nonneg _) ?_)
    | (show AO _ _ _ (Oper.mk _ _ _ _ _ (some _) :: _) _ _ _; first | refine A.gy rfl rfl ?_ | refine A.gn rfl rfl rfl ?_ | refine A.gs rfl rfl (fun h => ?_) (fun h => ?_))
    | (show AO _ _ _ [] _ _ _; refine A.nil ?_)
    | (show CW _ _ _ _ (Code.seq (Code.region _ _ false) _) _ _ _; refine W.rq ?_)
    | (show CW _ _ _ _ (Code.region _ _ false) _ _ _; refine W.rz ?_)
    | (show CW _ _ _ _ (Code.seq (Code.region _ _ true) _) _ _ _; first | refine W.dq 0 ?_ | refine W.dq 1 ?_ | refine W.dq 2 ?_ | refine W.dq 3 ?_ | refine W.dq 4 ?_ | refine W.dq 5 ?_ | refine W.dq 6 ?_ | refine W.dq 7 ?_ | refine W.dq 8 ?_ | refine W.dq 9 ?_ | refine W.dq 10 ?_ | refine W.dq 11 ?_ | refine W.dq 12 ?_ | refine W.dq 13 ?_ | refine W.dq 14 ?_ | refine W.dq 15 ?_)
    | (show CW _ _ _ _ (Code.region _ _ true) _ _ _; first | refine W.dz 0 ?_ | refine W.dz 1 ?_ | refine W.dz 2 ?_ | refine W.dz 3 ?_ | refine W.dz 4 ?_ | refine W.dz 5 ?_ | refine W.dz 6 ?_ | refine W.dz 7 ?_ | refine W.dz 8 ?_ | refine W.dz 9 ?_ | refine W.dz 10 ?_ | refine W.dz 11 ?_ | refine W.dz 12 ?_ | refine W.dz 13 ?_ | refine W.dz 14 ?_ | refine W.dz 15 ?_)
    | (show CW _ _ _ _ _ _ _ _; first | refine W.kr ?_ | refine W.kn ?_ | refine W.ke ?_ | refine W.ct rfl ?_ | refine W.cf rfl ?_ | refine W.cd rfl (fun h => ?_) (fun h => ?_) | refine W.bl ?_ | refine W.sq ?_)
    | (show KO _ _ _ _; first | refine K.sn ?_ | refine K.sr ?_ | refine K.se ?_ | refine K.bn ?_ | refine K.br ?_ | refine K.be ?_ | refine K.bx rfl ?_ | refine K.lr ?_ | refine K.le ?_)
    | refine K.nx ?_
    | refine K.re ?_
    | refine K.dr ?_
  all_goals refine end_data rfl rfl ?_
  all_goals refine vI ?_
  · unfold lv; rw [if_pos (.inl (of_decide_eq_true ‹_›))]; rfl
  · unfold lv; rw [if_pos (.inr (of_decide_eq_true ‹_›))]; rfl
  · rfl
theorem up (H : ZT Z) (x : Nat) (hx : x < 2047) (L : List Go.Pv.Obj) : SE Tryd.prog Z 41 [.int .i64 x] L (.int .i64 (upN x)) L := by
  refine SE.data H.z Tryd.func41 rfl ?_
  repeat' first
    | (show XO _ _ _ (Oper.mk (some _) (Op.call _) _ _ _ none :: _) _ _ _; first | refine X.call (level H _ _) ?_)
    | (show XO _ _ _ (Oper.mk (some _) _ _ _ _ none :: _) _ _ _; first | refine X.go rfl ?_ | refine X.shl rfl rfl (by first | omega | exact Int.natCast_nonneg _) ?_ | refine X.shr rfl rfl (by first | omega | exact Int.natCast_nonneg _) ?_)
    | (show XO _ _ _ (Oper.mk _ _ _ _ _ (some _) :: _) _ _ _; first | refine X.gy rfl rfl ?_ | refine X.gn rfl rfl rfl ?_ | refine X.gs rfl rfl (fun h => ?_) (fun h => ?_))
    | (show XO _ _ _ (Oper.mk none _ _ _ _ none :: _) _ _ _; refine X.st rfl ?_)
    | (show XO _ _ _ [] _ _ _; refine X.nil ?_)
    | (show AO _ _ _ (Oper.mk (some _) (Op.call _) _ _ _ none :: _) _ _ _; first | refine A.call (level H _ _) ?_)
    | (show AO _ _ _ (Oper.mk (some _) _ _ _ _ none :: _) _ _ _; first | refine A.go rfl ?_ | refine A.shl rfl rfl (by first | omega | exact Int.natCast_nonneg _) ?_ | refine A.shr rfl rfl (by first | omega | exact Int.natCast_nonneg _) ?_)
    | (show AO _ _ _ (Oper.mk _ _ _ _ _ (some _) :: _) _ _ _; first | refine A.gy rfl rfl ?_ | refine A.gn rfl rfl rfl ?_ | refine A.gs rfl rfl (fun h => ?_) (fun h => ?_))
    | (show AO _ _ _ [] _ _ _; refine A.nil ?_)
    | (show CW _ _ _ _ (Code.seq (Code.region _ _ false) _) _ _ _; refine W.rq ?_)
    | (show CW _ _ _ _ (Code.region _ _ false) _ _ _; refine W.rz ?_)
    | (show CW _ _ _ _ (Code.seq (Code.region _ _ true) _) _ _ _; first | refine W.dq 0 ?_ | refine W.dq 1 ?_ | refine W.dq 2 ?_ | refine W.dq 3 ?_ | refine W.dq 4 ?_ | refine W.dq 5 ?_ | refine W.dq 6 ?_ | refine W.dq 7 ?_ | refine W.dq 8 ?_ | refine W.dq 9 ?_ | refine W.dq 10 ?_ | refine W.dq 11 ?_ | refine W.dq 12 ?_ | refine W.dq 13 ?_ | refine W.dq 14 ?_ | refine W.dq 15 ?_)
    | (show CW _ _ _ _ (Code.region _ _ true) _ _ _; first | refine W.dz 0 ?_ | refine W.dz 1 ?_ | refine W.dz 2 ?_ | refine W.dz 3 ?_ | refine W.dz 4 ?_ | refine W.dz 5 ?_ | refine W.dz 6 ?_ | refine W.dz 7 ?_ | refine W.dz 8 ?_ | refine W.dz 9 ?_ | refine W.dz 10 ?_ | refine W.dz 11 ?_ | refine W.dz 12 ?_ | refine W.dz 13 ?_ | refine W.dz 14 ?_ | refine W.dz 15 ?_)
    | (show CW _ _ _ _ _ _ _ _; first | refine W.kr ?_ | refine W.kn ?_ | refine W.ke ?_ | refine W.ct rfl ?_ | refine W.cf rfl ?_ | refine W.cd rfl (fun h => ?_) (fun h => ?_) | refine W.bl ?_ | refine W.sq ?_)
    | (show KO _ _ _ _; first | refine K.sn ?_ | refine K.sr ?_ | refine K.se ?_ | refine K.bn ?_ | refine K.br ?_ | refine K.be ?_ | refine K.bx rfl ?_ | refine K.lr ?_ | refine K.le ?_)
    | refine K.nx ?_
    | refine K.re ?_
    | refine K.dr ?_
  all_goals refine end_data rfl rfl ?_
  refine vI ?_
  show upB x (IntKind.i64.wrap (1 * 2 ^ (min (lv x) 64))) (IntKind.i64.wrap (2 * 2 ^ (min (lv x) 64))) = _
  rw [lv_of x hx]
  exact eq_of_beq (up_bits x hx)
theorem sub1 {k : Nat} (h : decide ((k : Int) = 0) = false) (hk : k ≤ 10) : 0 ≤ IntKind.i64.wrap ((k : Int) - 1) := by
  have h := of_decide_eq_false h
  rw [IntKind.wrap_i64]; omega
theorem lv_pos_lt {x : Int} (h : lv x ≠ 0) : 0 ≤ x ∧ x < 2047 := by
  unfold lv at h; split at h
  · exact absurd rfl h
  · omega
theorem shl_val {s : Int} {k : Nat} (hs : s = 1 ∨ s = -1) (h : (k : Int) ≠ 0) (hk : k ≤ 10) :
    IntKind.i64.wrap (s * 2 ^ (min (IntKind.i64.wrap ((k : Int) - 1)).toNat 64)) = s * 2 ^ (k - 1) := by
  have e : (IntKind.i64.wrap ((k : Int) - 1)).toNat = k - 1 := by rw [IntKind.wrap_i64]; omega
  rw [e, Nat.min_eq_left (by omega)]
  have := pow_le (k := k - 1) (by omega)
  rcases hs with rfl | rfl <;> rw [IntKind.wrap_i64] <;> omega
theorem child (H : ZT Z) (x s : Int) (hs : s = 1 ∨ s = -1) (L : List Go.Pv.Obj) : SE Tryd.prog Z 42 [.int .i64 x, .int .i64 s] L (.tup [.int .i64 (childV x s).1, .int .i64 (childV x s).2]) L := by
  refine SE.data H.z Tryd.func42 rfl ?_
  repeat' first
    | (show XO _ _ _ (Oper.mk (some _) (Op.call _) _ _ _ none :: _) _ _ _; first | refine X.call (level H _ _) ?_)
    | (show XO _ _ _ (Oper.mk (some _) _ _ _ _ none :: _) _ _ _; first | refine X.go rfl ?_ | refine X.shl rfl rfl (by first | omega | exact Int.natCast_nonneg _ | exact sub1 ‹_› (lv_le _)) ?_ | refine X.shr rfl rfl (by first | omega | exact Int.natCast_nonneg _ | exact sub1 ‹_› (lv_le _)) ?_)
    | (show XO _ _ _ (Oper.mk _ _ _ _ _ (some _) :: _) _ _ _; first | refine X.gy rfl rfl ?_ | refine X.gn rfl rfl rfl ?_ | refine X.gs rfl rfl (fun h => ?_) (fun h => ?_))
    | (show XO _ _ _ (Oper.mk none _ _ _ _ none :: _) _ _ _; refine X.st rfl ?_)
    | (show XO _ _ _ [] _ _ _; refine X.nil ?_)
    | (show AO _ _ _ (Oper.mk (some _) (Op.call _) _ _ _ none :: _) _ _ _; first | refine A.call (level H _ _) ?_)
    | (show AO _ _ _ (Oper.mk (some _) _ _ _ _ none :: _) _ _ _; first | refine A.go rfl ?_ | refine A.shl rfl rfl (by first | omega | exact Int.natCast_nonneg _ | exact sub1 ‹_› (lv_le _)) ?_ | refine A.shr rfl rfl (by first | omega | exact Int.natCast_nonneg _ | exact sub1 ‹_› (lv_le _)) ?_)
    | (show AO _ _ _ (Oper.mk _ _ _ _ _ (some _) :: _) _ _ _; first | refine A.gy rfl rfl ?_ | refine A.gn rfl rfl rfl ?_ | refine A.gs rfl rfl (fun h => ?_) (fun h => ?_))
    | (show AO _ _ _ [] _ _ _; refine A.nil ?_)
    | (show CW _ _ _ _ (Code.seq (Code.region _ _ false) _) _ _ _; refine W.rq ?_)
    | (show CW _ _ _ _ (Code.region _ _ false) _ _ _; refine W.rz ?_)
    | (show CW _ _ _ _ (Code.seq (Code.region _ _ true) _) _ _ _; first | refine W.dq 0 ?_ | refine W.dq 1 ?_ | refine W.dq 2 ?_ | refine W.dq 3 ?_ | refine W.dq 4 ?_ | refine W.dq 5 ?_ | refine W.dq 6 ?_ | refine W.dq 7 ?_ | refine W.dq 8 ?_ | refine W.dq 9 ?_ | refine W.dq 10 ?_ | refine W.dq 11 ?_ | refine W.dq 12 ?_ | refine W.dq 13 ?_ | refine W.dq 14 ?_ | refine W.dq 15 ?_)
    | (show CW _ _ _ _ (Code.region _ _ true) _ _ _; first | refine W.dz 0 ?_ | refine W.dz 1 ?_ | refine W.dz 2 ?_ | refine W.dz 3 ?_ | refine W.dz 4 ?_ | refine W.dz 5 ?_ | refine W.dz 6 ?_ | refine W.dz 7 ?_ | refine W.dz 8 ?_ | refine W.dz 9 ?_ | refine W.dz 10 ?_ | refine W.dz 11 ?_ | refine W.dz 12 ?_ | refine W.dz 13 ?_ | refine W.dz 14 ?_ | refine W.dz 15 ?_)
    | (show CW _ _ _ _ _ _ _ _; first | refine W.kr ?_ | refine W.kn ?_ | refine W.ke ?_ | refine W.ct rfl ?_ | refine W.cf rfl ?_ | refine W.cd rfl (fun h => ?_) (fun h => ?_) | refine W.bl ?_ | refine W.sq ?_)
    | (show KO _ _ _ _; first | refine K.sn ?_ | refine K.sr ?_ | refine K.se ?_ | refine K.bn ?_ | refine K.br ?_ | refine K.be ?_ | refine K.bx rfl ?_ | refine K.lr ?_ | refine K.le ?_)
    | refine K.nx ?_
    | refine K.re ?_
    | refine K.dr ?_
  all_goals refine end_data rfl rfl ?_
  all_goals refine vII ?_ ?_
  all_goals have h := ‹decide (((lv x : Nat) : Int) = 0) = _›
  · rw [childV, if_pos (by have := of_decide_eq_true h; omega)]
  · rw [childV, if_pos (by have := of_decide_eq_true h; omega)]
  · have h := of_decide_eq_false h
    rw [childV, if_neg (by omega)]
    show IntKind.i64.wrap (x + IntKind.i64.wrap (s * 2 ^ (min (IntKind.i64.wrap (((lv x : Nat) : Int) - 1)).toNat 64))) = x + s * 2 ^ (lv x - 1)
    rw [shl_val hs h (lv_le x)]
    have := pow_le (k := lv x - 1) (by have := lv_le x; omega)
    have := lv_pos_lt (x := x) (by omega)
    rcases hs with rfl | rfl <;> rw [IntKind.wrap_i64] <;> omega
  · have h := of_decide_eq_false h
    rw [childV, if_neg (by omega)]
theorem left (H : ZT Z) (x : Int) (L : List Go.Pv.Obj) : SE Tryd.prog Z 24 [.int .i64 x] L (.tup [.int .i64 (childV x (-1)).1, .int .i64 (childV x (-1)).2]) L := by
  refine SE.data H.z Tryd.func24 rfl ?_
  repeat' first
    | (show XO _ _ _ (Oper.mk (some _) (Op.call _) _ _ _ none :: _) _ _ _; first | refine X.call (child H x (-1) (by decide) _) ?_)
    | (show XO _ _ _ (Oper.mk (some _) _ _ _ _ none :: _) _ _ _; first | refine X.go rfl ?_ | refine X.shl rfl rfl (by first | omega | exact Int.natCast_nonneg _) ?_ | refine X.shr rfl rfl (by first | omega | exact Int.natCast_nonneg _) ?_)
    | (show XO _ _ _ (Oper.mk _ _ _ _ _ (some _) :: _) _ _ _; first | refine X.gy rfl rfl ?_ | refine X.gn rfl rfl rfl ?_ | refine X.gs rfl rfl (fun h => ?_) (fun h => ?_))
    | (show XO _ _ _ (Oper.mk none _ _ _ _ none :: _) _ _ _; refine X.st rfl ?_)
    | (show XO _ _ _ [] _ _ _; refine X.nil ?_)
    | (show AO _ _ _ (Oper.mk (some _) (Op.call _) _ _ _ none :: _) _ _ _; first | refine A.call (child H x (-1) (by decide) _) ?_)
    | (show AO _ _ _ (Oper.mk (some _) _ _ _ _ none :: _) _ _ _; first | refine A.go rfl ?_ | refine A.shl rfl rfl (by first | omega | exact Int.natCast_nonneg _) ?_ | refine A.shr rfl rfl (by first | omega | exact Int.natCast_nonneg _) ?_)
    | (show AO _ _ _ (Oper.mk _ _ _ _ _ (some _) :: _) _ _ _; first | refine A.gy rfl rfl ?_ | refine A.gn rfl rfl rfl ?_ | refine A.gs rfl rfl (fun h => ?_) (fun h => ?_))
    | (show AO _ _ _ [] _ _ _; refine A.nil ?_)
    | (show CW _ _ _ _ (Code.seq (Code.region _ _ false) _) _ _ _; refine W.rq ?_)
    | (show CW _ _ _ _ (Code.region _ _ false) _ _ _; refine W.rz ?_)
    | (show CW _ _ _ _ (Code.seq (Code.region _ _ true) _) _ _ _; first | refine W.dq 0 ?_ | refine W.dq 1 ?_ | refine W.dq 2 ?_ | refine W.dq 3 ?_ | refine W.dq 4 ?_ | refine W.dq 5 ?_ | refine W.dq 6 ?_ | refine W.dq 7 ?_ | refine W.dq 8 ?_ | refine W.dq 9 ?_ | refine W.dq 10 ?_ | refine W.dq 11 ?_ | refine W.dq 12 ?_ | refine W.dq 13 ?_ | refine W.dq 14 ?_ | refine W.dq 15 ?_)
    | (show CW _ _ _ _ (Code.region _ _ true) _ _ _; first | refine W.dz 0 ?_ | refine W.dz 1 ?_ | refine W.dz 2 ?_ | refine W.dz 3 ?_ | refine W.dz 4 ?_ | refine W.dz 5 ?_ | refine W.dz 6 ?_ | refine W.dz 7 ?_ | refine W.dz 8 ?_ | refine W.dz 9 ?_ | refine W.dz 10 ?_ | refine W.dz 11 ?_ | refine W.dz 12 ?_ | refine W.dz 13 ?_ | refine W.dz 14 ?_ | refine W.dz 15 ?_)
    | (show CW _ _ _ _ _ _ _ _; first | refine W.kr ?_ | refine W.kn ?_ | refine W.ke ?_ | refine W.ct rfl ?_ | refine W.cf rfl ?_ | refine W.cd rfl (fun h => ?_) (fun h => ?_) | refine W.bl ?_ | refine W.sq ?_)
    | (show KO _ _ _ _; first | refine K.sn ?_ | refine K.sr ?_ | refine K.se ?_ | refine K.bn ?_ | refine K.br ?_ | refine K.be ?_ | refine K.bx rfl ?_ | refine K.lr ?_ | refine K.le ?_)
    | refine K.nx ?_
    | refine K.re ?_
    | refine K.dr ?_
  all_goals refine end_data rfl rfl ?_
  all_goals rfl
theorem right (H : ZT Z) (x : Int) (L : List Go.Pv.Obj) : SE Tryd.prog Z 28 [.int .i64 x] L (.tup [.int .i64 (childV x 1).1, .int .i64 (childV x 1).2]) L := by
  refine SE.data H.z Tryd.func28 rfl ?_
  repeat' first
    | (show XO _ _ _ (Oper.mk (some _) (Op.call _) _ _ _ none :: _) _ _ _; first | refine X.call (child H x 1 (by decide) _) ?_)
    | (show XO _ _ _ (Oper.mk (some _) _ _ _ _ none :: _) _ _ _; first | refine X.go rfl ?_ | refine X.shl rfl rfl (by first | omega | exact Int.natCast_nonneg _) ?_ | refine X.shr rfl rfl (by first | omega | exact Int.natCast_nonneg _) ?_)
    | (show XO _ _ _ (Oper.mk _ _ _ _ _ (some _) :: _) _ _ _; first | refine X.gy rfl rfl ?_ | refine X.gn rfl rfl rfl ?_ | refine X.gs rfl rfl (fun h => ?_) (fun h => ?_))
    | (show XO _ _ _ (Oper.mk none _ _ _ _ none :: _) _ _ _; refine X.st rfl ?_)
    | (show XO _ _ _ [] _ _ _; refine X.nil ?_)
    | (show AO _ _ _ (Oper.mk (some _) (Op.call _) _ _ _ none :: _) _ _ _; first | refine A.call (child H x 1 (by decide) _) ?_)
    | (show AO _ _ _ (Oper.mk (some _) _ _ _ _ none :: _) _ _ _; first | refine A.go rfl ?_ | refine A.shl rfl rfl (by first | omega | exact Int.natCast_nonneg _) ?_ | refine A.shr rfl rfl (by first | omega | exact Int.natCast_nonneg _) ?_)
    | (show AO _ _ _ (Oper.mk _ _ _ _ _ (some _) :: _) _ _ _; first | refine A.gy rfl rfl ?_ | refine A.gn rfl rfl rfl ?_ | refine A.gs rfl rfl (fun h => ?_) (fun h => ?_))
    | (show AO _ _ _ [] _ _ _; refine A.nil ?_)
    | (show CW _ _ _ _ (Code.seq (Code.region _ _ false) _) _ _ _; refine W.rq ?_)
    | (show CW _ _ _ _ (Code.region _ _ false) _ _ _; refine W.rz ?_)
    | (show CW _ _ _ _ (Code.seq (Code.region _ _ true) _) _ _ _; first | refine W.dq 0 ?_ | refine W.dq 1 ?_ | refine W.dq 2 ?_ | refine W.dq 3 ?_ | refine W.dq 4 ?_ | refine W.dq 5 ?_ | refine W.dq 6 ?_ | refine W.dq 7 ?_ | refine W.dq 8 ?_ | refine W.dq 9 ?_ | refine W.dq 10 ?_ | refine W.dq 11 ?_ | refine W.dq 12 ?_ | refine W.dq 13 ?_ | refine W.dq 14 ?_ | refine W.dq 15 ?_)
    | (show CW _ _ _ _ (Code.region _ _ true) _ _ _; first | refine W.dz 0 ?_ | refine W.dz 1 ?_ | refine W.dz 2 ?_ | refine W.dz 3 ?_ | refine W.dz 4 ?_ | refine W.dz 5 ?_ | refine W.dz 6 ?_ | refine W.dz 7 ?_ | refine W.dz 8 ?_ | refine W.dz 9 ?_ | refine W.dz 10 ?_ | refine W.dz 11 ?_ | refine W.dz 12 ?_ | refine W.dz 13 ?_ | refine W.dz 14 ?_ | refine W.dz 15 ?_)
    | (show CW _ _ _ _ _ _ _ _; first | refine W.kr ?_ | refine W.kn ?_ | refine W.ke ?_ | refine W.ct rfl ?_ | refine W.cf rfl ?_ | refine W.cd rfl (fun h => ?_) (fun h => ?_) | refine W.bl ?_ | refine W.sq ?_)
    | (show KO _ _ _ _; first | refine K.sn ?_ | refine K.sr ?_ | refine K.se ?_ | refine K.bn ?_ | refine K.br ?_ | refine K.be ?_ | refine K.bx rfl ?_ | refine K.lr ?_ | refine K.le ?_)
    | refine K.nx ?_
    | refine K.re ?_
    | refine K.dr ?_
  all_goals refine end_data rfl rfl ?_
  all_goals rfl
theorem isTree (H : ZT Z) (n : Int) (L : List Go.Pv.Obj) : SE Tryd.prog Z 36 [.int .i64 n] L (.bool (isT n)) L := by
  refine SE.data H.z Tryd.func36 rfl ?_
  repeat' first
    | (show XO _ _ _ (Oper.mk (some _) (Op.call _) _ _ _ none :: _) _ _ _; first | fail)
    | (show XO _ _ _ (Oper.mk (some _) _ _ _ _ none :: _) _ _ _; first | refine X.go rfl ?_ | refine X.shl rfl rfl (by first | omega | exact Int.natCast_nonneg _) ?_ | refine X.shr rfl rfl (by first | omega | exact Int.natCast_nonneg _) ?_)
    | (show XO _ _ _ (Oper.mk _ _ _ _ _ (some _) :: _) _ _ _; first | refine X.gy rfl rfl ?_ | refine X.gn rfl rfl rfl ?_ | refine X.gs rfl rfl (fun h => ?_) (fun h => ?_))
    | (show XO _ _ _ (Oper.mk none _ _ _ _ none :: _) _ _ _; refine X.st rfl ?_)
    | (show XO _ _ _ [] _ _ _; refine X.nil ?_)
    | (show AO _ _ _ (Oper.mk (some _) (Op.call _) _ _ _ none :: _) _ _ _; first | fail)
    | (show AO _ _ _ (Oper.mk (some _) _ _ _ _ none :: _) _ _ _; first | refine A.go rfl ?_ | refine A.shl rfl rfl (by first | omega | exact Int.natCast_nonneg _) ?_ | refine A.shr rfl rfl (by first | omega | exact Int.natCast_nonneg _) ?_)
    | (show AO _ _ _ (Oper.mk _ _ _ _ _ (some _) :: _) _ _ _; first | refine A.gy rfl rfl ?_ | refine A.gn rfl rfl rfl ?_ | refine A.gs rfl rfl (fun h => ?_) (fun h => ?_))
    | (show AO _ _ _ [] _ _ _; refine A.nil ?_)
    | (show CW _ _ _ _ (Code.seq (Code.region _ _ false) _) _ _ _; refine W.rq ?_)
    | (show CW _ _ _ _ (Code.region _ _ false) _ _ _; refine W.rz ?_)
    | (show CW _ _ _ _ (Code.seq (Code.region _ _ true) _) _ _ _; first | refine W.dq 0 ?_ | refine W.dq 1 ?_ | refine W.dq 2 ?_ | refine W.dq 3 ?_ | refine W.dq 4 ?_ | refine W.dq 5 ?_ | refine W.dq 6 ?_ | refine W.dq 7 ?_ | refine W.dq 8 ?_ | refine W.dq 9 ?_ | refine W.dq 10 ?_ | refine W.dq 11 ?_ | refine W.dq 12 ?_ | refine W.dq 13 ?_ | refine W.dq 14 ?_ | refine W.dq 15 ?_)
    | (show CW _ _ _ _ (Code.region _ _ true) _ _ _; first | refine W.dz 0 ?_ | refine W.dz 1 ?_ | refine W.dz 2 ?_ | refine W.dz 3 ?_ | refine W.dz 4 ?_ | refine W.dz 5 ?_ | refine W.dz 6 ?_ | refine W.dz 7 ?_ | refine W.dz 8 ?_ | refine W.dz 9 ?_ | refine W.dz 10 ?_ | refine W.dz 11 ?_ | refine W.dz 12 ?_ | refine W.dz 13 ?_ | refine W.dz 14 ?_ | refine W.dz 15 ?_)
    | (show CW _ _ _ _ _ _ _ _; first | refine W.kr ?_ | refine W.kn ?_ | refine W.ke ?_ | refine W.ct rfl ?_ | refine W.cf rfl ?_ | refine W.cd rfl (fun h => ?_) (fun h => ?_) | refine W.bl ?_ | refine W.sq ?_)
    | (show KO _ _ _ _; first | refine K.sn ?_ | refine K.sr ?_ | refine K.se ?_ | refine K.bn ?_ | refine K.br ?_ | refine K.be ?_ | refine K.bx rfl ?_ | refine K.lr ?_ | refine K.le ?_)
    | refine K.nx ?_
    | refine K.re ?_
    | refine K.dr ?_
  all_goals refine end_data rfl rfl ?_
  all_goals refine vB ?_
  · have h1 := of_decide_eq_true ‹decide (n ≥ 1) = true›
    have h2 := of_decide_eq_true ‹decide (n ≤ 1024) = true›
    obtain ⟨m, rfl⟩ := Int.eq_ofNat_of_zero_le (show 0 ≤ n by omega)
    have := isT_bits m (by omega)
    have e0 : (m == 0) = false := by rw [beq_eq_false_iff_ne]; omega
    simp only [e0, Bool.false_or, beq_iff_eq] at this
    unfold isT
    rw [decide_eq_true (p := (1 : Int) ≤ m) (by omega), decide_eq_true (p := (m : Int) ≤ 1024) (by omega), Bool.true_and, Bool.true_and]
    refine Eq.trans ?_ this
    exact Bool.eq_iff_iff.2 (by rw [decide_eq_true_iff, beq_iff_eq]; rfl)
  · unfold isT; rw [‹decide (n ≤ 1024) = false›, Bool.and_false, Bool.false_and]
  · unfold isT; rw [show decide (1 ≤ n) = false from ‹decide (n ≥ 1) = false›, Bool.false_and, Bool.false_and]
theorem isT_le {n : Int} (h : isT n = true) : 1 ≤ n ∧ n ≤ 1024 := by
  unfold isT at h
  simp only [Bool.and_eq_true, decide_eq_true_eq] at h
  exact ⟨h.1.1, h.1.2⟩
theorem isNode (H : ZT Z) (x n : Int) (L : List Go.Pv.Obj) : SE Tryd.prog Z 33 [.int .i64 x, .int .i64 n] L (.bool (isN x n)) L := by
  refine SE.data H.z Tryd.func33 rfl ?_
  repeat' first
    | (show XO _ _ _ (Oper.mk (some _) (Op.call _) _ _ _ none :: _) _ _ _; first | refine X.call (isTree H _ _) ?_)
    | (show XO _ _ _ (Oper.mk (some _) _ _ _ _ none :: _) _ _ _; first | refine X.go rfl ?_ | refine X.shl rfl rfl (by first | omega | exact Int.natCast_nonneg _) ?_ | refine X.shr rfl rfl (by first | omega | exact Int.natCast_nonneg _) ?_)
    | (show XO _ _ _ (Oper.mk _ _ _ _ _ (some _) :: _) _ _ _; first | refine X.gy rfl rfl ?_ | refine X.gn rfl rfl rfl ?_ | refine X.gs rfl rfl (fun h => ?_) (fun h => ?_))
    | (show XO _ _ _ (Oper.mk none _ _ _ _ none :: _) _ _ _; refine X.st rfl ?_)
    | (show XO _ _ _ [] _ _ _; refine X.nil ?_)
    | (show AO _ _ _ (Oper.mk (some _) (Op.call _) _ _ _ none :: _) _ _ _; first | refine A.call (isTree H _ _) ?_)
    | (show AO _ _ _ (Oper.mk (some _) _ _ _ _ none :: _) _ _ _; first | refine A.go rfl ?_ | refine A.shl rfl rfl (by first | omega | exact Int.natCast_nonneg _) ?_ | refine A.shr rfl rfl (by first | omega | exact Int.natCast_nonneg _) ?_)
    | (show AO _ _ _ (Oper.mk _ _ _ _ _ (some _) :: _) _ _ _; first | refine A.gy rfl rfl ?_ | refine A.gn rfl rfl rfl ?_ | refine A.gs rfl rfl (fun h => ?_) (fun h => ?_))
    | (show AO _ _ _ [] _ _ _; refine A.nil ?_)
    | (show CW _ _ _ _ (Code.seq (Code.region _ _ false) _) _ _ _; refine W.rq ?_)
    | (show CW _ _ _ _ (Code.region _ _ false) _ _ _; refine W.rz ?_)
    | (show CW _ _ _ _ (Code.seq (Code.region _ _ true) _) _ _ _; first | refine W.dq 0 ?_ | refine W.dq 1 ?_ | refine W.dq 2 ?_ | refine W.dq 3 ?_ | refine W.dq 4 ?_ | refine W.dq 5 ?_ | refine W.dq 6 ?_ | refine W.dq 7 ?_ | refine W.dq 8 ?_ | refine W.dq 9 ?_ | refine W.dq 10 ?_ | refine W.dq 11 ?_ | refine W.dq 12 ?_ | refine W.dq 13 ?_ | refine W.dq 14 ?_ | refine W.dq 15 ?_)
    | (show CW _ _ _ _ (Code.region _ _ true) _ _ _; first | refine W.dz 0 ?_ | refine W.dz 1 ?_ | refine W.dz 2 ?_ | refine W.dz 3 ?_ | refine W.dz 4 ?_ | refine W.dz 5 ?_ | refine W.dz 6 ?_ | refine W.dz 7 ?_ | refine W.dz 8 ?_ | refine W.dz 9 ?_ | refine W.dz 10 ?_ | refine W.dz 11 ?_ | refine W.dz 12 ?_ | refine W.dz 13 ?_ | refine W.dz 14 ?_ | refine W.dz 15 ?_)
    | (show CW _ _ _ _ _ _ _ _; first | refine W.kr ?_ | refine W.kn ?_ | refine W.ke ?_ | refine W.ct rfl ?_ | refine W.cf rfl ?_ | refine W.cd rfl (fun h => ?_) (fun h => ?_) | refine W.bl ?_ | refine W.sq ?_)
    | (show KO _ _ _ _; first | refine K.sn ?_ | refine K.sr ?_ | refine K.se ?_ | refine K.bn ?_ | refine K.br ?_ | refine K.be ?_ | refine K.bx rfl ?_ | refine K.lr ?_ | refine K.le ?_)
    | refine K.nx ?_
    | refine K.re ?_
    | refine K.dr ?_
  all_goals refine end_data rfl rfl ?_
  all_goals refine vB ?_
  · have h1 := isT_le ‹isT n = true›
    unfold isN
    rw [‹isT n = true›, show decide (0 ≤ x) = true from ‹decide (x ≥ 0) = true›, Bool.true_and, Bool.true_and]
    rw [show IntKind.i64.wrap (IntKind.i64.wrap (2 * n) - 1) = 2 * n - 1 by rw [IntKind.wrap_i64, IntKind.wrap_i64]; omega]
  · unfold isN
    rw [show decide (0 ≤ x) = false from ‹decide (x ≥ 0) = false›, Bool.and_false, Bool.false_and]
  · unfold isN
    rw [‹isT n = false›, Bool.false_and, Bool.false_and]
theorem isN_le {x n : Int} (h : isN x n = true) : isT n = true ∧ 0 ≤ x ∧ x < 2 * n - 1 := by
  unfold isN at h
  simp only [Bool.and_eq_true, decide_eq_true_eq] at h
  exact ⟨h.1.1, h.1.2, h.2⟩
theorem upi (H : ZT Z) (x n : Int) (h : isN x n = true) (L : List Go.Pv.Obj) : SE Tryd.prog Z 41 [.int .i64 x] L (.int .i64 (upN x.toNat)) L := by
  have h1 := isN_le h
  have h2 := isT_le h1.1
  have := up H x.toNat (by omega) L
  rwa [Int.toNat_of_nonneg h1.2.1] at this
theorem width (H : ZT Z) (n : Int) (L : List Go.Pv.Obj) : SE Tryd.prog Z 25 [.int .i64 n] L (.tup [.int .i64 (widthV n).1, .int .i64 (widthV n).2]) L := by
  refine SE.data H.z Tryd.func25 rfl ?_
  repeat' first
    | (show XO _ _ _ (Oper.mk (some _) (Op.call _) _ _ _ none :: _) _ _ _; first | refine X.call (isTree H _ _) ?_)
    | (show XO _ _ _ (Oper.mk (some _) _ _ _ _ none :: _) _ _ _; first | refine X.go rfl ?_ | refine X.shl rfl rfl (by first | omega | exact Int.natCast_nonneg _) ?_ | refine X.shr rfl rfl (by first | omega | exact Int.natCast_nonneg _) ?_)
    | (show XO _ _ _ (Oper.mk _ _ _ _ _ (some _) :: _) _ _ _; first | refine X.gy rfl rfl ?_ | refine X.gn rfl rfl rfl ?_ | refine X.gs rfl rfl (fun h => ?_) (fun h => ?_))
    | (show XO _ _ _ (Oper.mk none _ _ _ _ none :: _) _ _ _; refine X.st rfl ?_)
    | (show XO _ _ _ [] _ _ _; refine X.nil ?_)
    | (show AO _ _ _ (Oper.mk (some _) (Op.call _) _ _ _ none :: _) _ _ _; first | refine A.call (isTree H _ _) ?_)
    | (show AO _ _ _ (Oper.mk (some _) _ _ _ _ none :: _) _ _ _; first | refine A.go rfl ?_ | refine A.shl rfl rfl (by first | omega | exact Int.natCast_nonneg _) ?_ | refine A.shr rfl rfl (by first | omega | exact Int.natCast_nonneg _) ?_)
    | (show AO _ _ _ (Oper.mk _ _ _ _ _ (some _) :: _) _ _ _; first | refine A.gy rfl rfl ?_ | refine A.gn rfl rfl rfl ?_ | refine A.gs rfl rfl (fun h => ?_) (fun h => ?_))
    | (show AO _ _ _ [] _ _ _; refine A.nil ?_)
    | (show CW _ _ _ _ (Code.seq (Code.region _ _ false) _) _ _ _; refine W.rq ?_)
    | (show CW _ _ _ _ (Code.region _ _ false) _ _ _; refine W.rz ?_)
    | (show CW _ _ _ _ (Code.seq (Code.region _ _ true) _) _ _ _; first | refine W.dq 0 ?_ | refine W.dq 1 ?_ | refine W.dq 2 ?_ | refine W.dq 3 ?_ | refine W.dq 4 ?_ | refine W.dq 5 ?_ | refine W.dq 6 ?_ | refine W.dq 7 ?_ | refine W.dq 8 ?_ | refine W.dq 9 ?_ | refine W.dq 10 ?_ | refine W.dq 11 ?_ | refine W.dq 12 ?_ | refine W.dq 13 ?_ | refine W.dq 14 ?_ | refine W.dq 15 ?_)
    | (show CW _ _ _ _ (Code.region _ _ true) _ _ _; first | refine W.dz 0 ?_ | refine W.dz 1 ?_ | refine W.dz 2 ?_ | refine W.dz 3 ?_ | refine W.dz 4 ?_ | refine W.dz 5 ?_ | refine W.dz 6 ?_ | refine W.dz 7 ?_ | refine W.dz 8 ?_ | refine W.dz 9 ?_ | refine W.dz 10 ?_ | refine W.dz 11 ?_ | refine W.dz 12 ?_ | refine W.dz 13 ?_ | refine W.dz 14 ?_ | refine W.dz 15 ?_)
    | (show CW _ _ _ _ _ _ _ _; first | refine W.kr ?_ | refine W.kn ?_ | refine W.ke ?_ | refine W.ct rfl ?_ | refine W.cf rfl ?_ | refine W.cd rfl (fun h => ?_) (fun h => ?_) | refine W.bl ?_ | refine W.sq ?_)
    | (show KO _ _ _ _; first | refine K.sn ?_ | refine K.sr ?_ | refine K.se ?_ | refine K.bn ?_ | refine K.br ?_ | refine K.be ?_ | refine K.bx rfl ?_ | refine K.lr ?_ | refine K.le ?_)
    | refine K.nx ?_
    | refine K.re ?_
    | refine K.dr ?_
  all_goals refine end_data rfl rfl ?_
  all_goals refine vII ?_ ?_
  all_goals unfold widthV
  · rw [if_neg (by simpa using ‹(!isT n) = true›)]
  · rw [if_neg (by simpa using ‹(!isT n) = true›)]
  · have h := isT_le (n := n) (by simpa using ‹(!isT n) = false›)
    rw [if_pos (by simpa using ‹(!isT n) = false›), IntKind.wrap_i64, IntKind.wrap_i64]
    show _ = 2 * n - 1
    omega
  · rw [if_pos (by simpa using ‹(!isT n) = false›)]
theorem parent (H : ZT Z) (x n : Int) (L : List Go.Pv.Obj) : SE Tryd.prog Z 22 [.int .i64 x, .int .i64 n] L (.tup [.int .i64 (parV x n).1, .int .i64 (parV x n).2]) L := by
  refine SE.data H.z Tryd.func22 rfl ?_
  repeat' first
    | (show XO _ _ _ (Oper.mk (some _) (Op.call _) _ _ _ none :: _) _ _ _; first | refine X.call (isNode H _ _ _) ?_ | refine X.call (upi H _ n (by simpa using ‹(!isN x n) = false›) _) ?_)
    | (show XO _ _ _ (Oper.mk (some _) _ _ _ _ none :: _) _ _ _; first | refine X.go rfl ?_ | refine X.shl rfl rfl (by first | omega | exact Int.natCast_nonneg _) ?_ | refine X.shr rfl rfl (by first | omega | exact Int.natCast_nonneg _) ?_)
    | (show XO _ _ _ (Oper.mk _ _ _ _ _ (some _) :: _) _ _ _; first | refine X.gy rfl rfl ?_ | refine X.gn rfl rfl rfl ?_ | refine X.gs rfl rfl (fun h => ?_) (fun h => ?_))
    | (show XO _ _ _ (Oper.mk none _ _ _ _ none :: _) _ _ _; refine X.st rfl ?_)
    | (show XO _ _ _ [] _ _ _; refine X.nil ?_)
    | (show AO _ _ _ (Oper.mk (some _) (Op.call _) _ _ _ none :: _) _ _ _; first | refine A.call (isNode H _ _ _) ?_ | refine A.call (upi H _ n (by simpa using ‹(!isN x n) = false›) _) ?_)
    | (show AO _ _ _ (Oper.mk (some _) _ _ _ _ none :: _) _ _ _; first | refine A.go rfl ?_ | refine A.shl rfl rfl (by first | omega | exact Int.natCast_nonneg _) ?_ | refine A.shr rfl rfl (by first | omega | exact Int.natCast_nonneg _) ?_)
    | (show AO _ _ _ (Oper.mk _ _ _ _ _ (some _) :: _) _ _ _; first | refine A.gy rfl rfl ?_ | refine A.gn rfl rfl rfl ?_ | refine A.gs rfl rfl (fun h => ?_) (fun h => ?_))
    | (show AO _ _ _ [] _ _ _; refine A.nil ?_)
    | (show CW _ _ _ _ (Code.seq (Code.region _ _ false) _) _ _ _; refine W.rq ?_)
    | (show CW _ _ _ _ (Code.region _ _ false) _ _ _; refine W.rz ?_)
    | (show CW _ _ _ _ (Code.seq (Code.region _ _ true) _) _ _ _; first | refine W.dq 0 ?_ | refine W.dq 1 ?_ | refine W.dq 2 ?_ | refine W.dq 3 ?_ | refine W.dq 4 ?_ | refine W.dq 5 ?_ | refine W.dq 6 ?_ | refine W.dq 7 ?_ | refine W.dq 8 ?_ | refine W.dq 9 ?_ | refine W.dq 10 ?_ | refine W.dq 11 ?_ | refine W.dq 12 ?_ | refine W.dq 13 ?_ | refine W.dq 14 ?_ | refine W.dq 15 ?_)
    | (show CW _ _ _ _ (Code.region _ _ true) _ _ _; first | refine W.dz 0 ?_ | refine W.dz 1 ?_ | refine W.dz 2 ?_ | refine W.dz 3 ?_ | refine W.dz 4 ?_ | refine W.dz 5 ?_ | refine W.dz 6 ?_ | refine W.dz 7 ?_ | refine W.dz 8 ?_ | refine W.dz 9 ?_ | refine W.dz 10 ?_ | refine W.dz 11 ?_ | refine W.dz 12 ?_ | refine W.dz 13 ?_ | refine W.dz 14 ?_ | refine W.dz 15 ?_)
    | (show CW _ _ _ _ _ _ _ _; first | refine W.kr ?_ | refine W.kn ?_ | refine W.ke ?_ | refine W.ct rfl ?_ | refine W.cf rfl ?_ | refine W.cd rfl (fun h => ?_) (fun h => ?_) | refine W.bl ?_ | refine W.sq ?_)
    | (show KO _ _ _ _; first | refine K.sn ?_ | refine K.sr ?_ | refine K.se ?_ | refine K.bn ?_ | refine K.br ?_ | refine K.be ?_ | refine K.bx rfl ?_ | refine K.lr ?_ | refine K.le ?_)
    | refine K.nx ?_
    | refine K.re ?_
    | refine K.dr ?_
  all_goals refine end_data rfl rfl ?_
  all_goals refine vII ?_ ?_
  all_goals unfold parV
  · rw [if_neg (by simpa using ‹(!isN x n) = true›)]
  · rw [if_neg (by simpa using ‹(!isN x n) = true›)]
  all_goals have hn : isN x n = true := by simpa using ‹(!isN x n) = false›
  all_goals have h1 := isT_le (isN_le hn).1
  all_goals have e : IntKind.i64.wrap (n - 1) = n - 1 := by rw [IntKind.wrap_i64]; omega
  all_goals have h2 := ‹decide (x = IntKind.i64.wrap (n - 1)) = _›
  all_goals rw [e] at h2
  all_goals rw [if_pos hn]
  · rw [if_pos (of_decide_eq_true h2)]
  · rw [if_pos (of_decide_eq_true h2)]
  · rw [if_neg (of_decide_eq_false h2)]
  · rw [if_neg (of_decide_eq_false h2)]
theorem parV_ok {x n : Int} (h : (parV x n).2 = 0) : isN x n = true ∧ x ≠ n - 1 ∧ (parV x n).1 = (upN x.toNat : Nat) := by
  unfold parV at h ⊢
  by_cases hn : isN x n = true
  · rw [if_pos hn] at h ⊢
    by_cases hx : x = n - 1
    · rw [if_pos hx] at h; exact absurd h (by decide)
    · rw [if_neg hx] at h ⊢; exact ⟨hn, hx, rfl⟩
  · rw [if_neg hn] at h; exact absurd h (by decide)
theorem sibling (H : ZT Z) (x n : Int) (L : List Go.Pv.Obj) : SE Tryd.prog Z 23 [.int .i64 x, .int .i64 n] L (.tup [.int .i64 (sibV x n).1, .int .i64 (sibV x n).2]) L := by
  refine SE.data H.z Tryd.func23 rfl ?_
  repeat' first
    | (show XO _ _ _ (Oper.mk (some _) (Op.call _) _ _ _ none :: _) _ _ _; first | refine X.call (parent H _ _ _) ?_)
    | (show XO _ _ _ (Oper.mk (some _) _ _ _ _ none :: _) _ _ _; first | refine X.go rfl ?_ | refine X.shl rfl rfl (by first | omega | exact Int.natCast_nonneg _) ?_ | refine X.shr rfl rfl (by first | omega | exact Int.natCast_nonneg _) ?_)
    | (show XO _ _ _ (Oper.mk _ _ _ _ _ (some _) :: _) _ _ _; first | refine X.gy rfl rfl ?_ | refine X.gn rfl rfl rfl ?_ | refine X.gs rfl rfl (fun h => ?_) (fun h => ?_))
    | (show XO _ _ _ (Oper.mk none _ _ _ _ none :: _) _ _ _; refine X.st rfl ?_)
    | (show XO _ _ _ [] _ _ _; refine X.nil ?_)
    | (show AO _ _ _ (Oper.mk (some _) (Op.call _) _ _ _ none :: _) _ _ _; first | refine A.call (parent H _ _ _) ?_)
    | (show AO _ _ _ (Oper.mk (some _) _ _ _ _ none :: _) _ _ _; first | refine A.go rfl ?_ | refine A.shl rfl rfl (by first | omega | exact Int.natCast_nonneg _) ?_ | refine A.shr rfl rfl (by first | omega | exact Int.natCast_nonneg _) ?_)
    | (show AO _ _ _ (Oper.mk _ _ _ _ _ (some _) :: _) _ _ _; first | refine A.gy rfl rfl ?_ | refine A.gn rfl rfl rfl ?_ | refine A.gs rfl rfl (fun h => ?_) (fun h => ?_))
    | (show AO _ _ _ [] _ _ _; refine A.nil ?_)
    | (show CW _ _ _ _ (Code.seq (Code.region _ _ false) _) _ _ _; refine W.rq ?_)
    | (show CW _ _ _ _ (Code.region _ _ false) _ _ _; refine W.rz ?_)
    | (show CW _ _ _ _ (Code.seq (Code.region _ _ true) _) _ _ _; first | refine W.dq 0 ?_ | refine W.dq 1 ?_ | refine W.dq 2 ?_ | refine W.dq 3 ?_ | refine W.dq 4 ?_ | refine W.dq 5 ?_ | refine W.dq 6 ?_ | refine W.dq 7 ?_ | refine W.dq 8 ?_ | refine W.dq 9 ?_ | refine W.dq 10 ?_ | refine W.dq 11 ?_ | refine W.dq 12 ?_ | refine W.dq 13 ?_ | refine W.dq 14 ?_ | refine W.dq 15 ?_)
    | (show CW _ _ _ _ (Code.region _ _ true) _ _ _; first | refine W.dz 0 ?_ | refine W.dz 1 ?_ | refine W.dz 2 ?_ | refine W.dz 3 ?_ | refine W.dz 4 ?_ | refine W.dz 5 ?_ | refine W.dz 6 ?_ | refine W.dz 7 ?_ | refine W.dz 8 ?_ | refine W.dz 9 ?_ | refine W.dz 10 ?_ | refine W.dz 11 ?_ | refine W.dz 12 ?_ | refine W.dz 13 ?_ | refine W.dz 14 ?_ | refine W.dz 15 ?_)
    | (show CW _ _ _ _ _ _ _ _; first | refine W.kr ?_ | refine W.kn ?_ | refine W.ke ?_ | refine W.ct rfl ?_ | refine W.cf rfl ?_ | refine W.cd rfl (fun h => ?_) (fun h => ?_) | refine W.bl ?_ | refine W.sq ?_)
    | (show KO _ _ _ _; first | refine K.sn ?_ | refine K.sr ?_ | refine K.se ?_ | refine K.bn ?_ | refine K.br ?_ | refine K.be ?_ | refine K.bx rfl ?_ | refine K.lr ?_ | refine K.le ?_)
    | refine K.nx ?_
    | refine K.re ?_
    | refine K.dr ?_
  all_goals refine end_data rfl rfl ?_
  all_goals refine vII ?_ ?_
  all_goals unfold sibV
  · rw [if_neg (by simpa using ‹(!decide ((parV x n).2 = 0)) = true›)]
  · rw [if_neg (by simpa using ‹(!decide ((parV x n).2 = 0)) = true›)]
  · have h : (parV x n).2 = 0 := by simpa using ‹(!decide ((parV x n).2 = 0)) = false›
    have h1 := parV_ok h
    have h2 := isN_le h1.1
    have h3 := isT_le h2.1
    have h4 := upN_lt x.toNat (by omega)
    rw [if_pos h, IntKind.wrap_i64, IntKind.wrap_i64]
    show _ = 2 * (parV x n).1 - x
    omega
  · rw [if_pos (by simpa using ‹(!decide ((parV x n).2 = 0)) = false›)]
def leavesV (x : Int) : Int × Int := if x < 0 ∨ 2047 ≤ x then (0, -1) else ((x - (2 ^ lv x - 1)) / 2, (x + (2 ^ lv x - 1)) / 2)
theorem pow_low {x : Int} {k : Nat} (h : 2 ^ k ≤ x.toNat + 1) (h0 : 0 ≤ x) : (2 : Int) ^ k ≤ x + 1 := by
  have : ((2 ^ k : Nat) : Int) ≤ ((x.toNat + 1 : Nat) : Int) := Int.ofNat_le.2 h
  rw [Int.natCast_pow] at this
  have e : ((x.toNat + 1 : Nat) : Int) = x + 1 := by omega
  rw [e] at this
  exact this
theorem half_val {k : Nat} (h : k ≤ 10) : IntKind.i64.wrap (1 * 2 ^ min (((k : Nat) : Int)).toNat IntKind.i64.bits) = 2 ^ k := by
  have := pow_le h
  show IntKind.i64.wrap (1 * 2 ^ min k 64) = _
  rw [Nat.min_eq_left (by omega), IntKind.wrap_i64]; omega
theorem leaves (H : ZT Z) (x : Int) (L : List Go.Pv.Obj) : SE Tryd.prog Z 17 [.int .i64 x] L (.tup [.int .i64 (leavesV x).1, .int .i64 (leavesV x).2]) L := by
  refine SE.data H.z Tryd.func17 rfl ?_
  repeat' first
    | (show XO _ _ _ (Oper.mk (some _) (Op.call _) _ _ _ none :: _) _ _ _; first | refine X.call (level H _ _) ?_)
    | (show XO _ _ _ (Oper.mk (some _) _ _ _ _ none :: _) _ _ _; first | refine X.go rfl ?_ | refine X.shl rfl rfl (by first | omega | exact Int.natCast_nonneg _) ?_ | refine X.shr rfl rfl (by first | omega | exact Int.natCast_nonneg _) ?_)
    | (show XO _ _ _ (Oper.mk _ _ _ _ _ (some _) :: _) _ _ _; first | refine X.gy rfl rfl ?_ | refine X.gn rfl rfl rfl ?_ | refine X.gs rfl rfl (fun h => ?_) (fun h => ?_))
    | (show XO _ _ _ (Oper.mk none _ _ _ _ none :: _) _ _ _; refine X.st rfl ?_)
    | (show XO _ _ _ [] _ _ _; refine X.nil ?_)
    | (show AO _ _ _ (Oper.mk (some _) (Op.call _) _ _ _ none :: _) _ _ _; first | refine A.call (level H _ _) ?_)
    | (show AO _ _ _ (Oper.mk (some _) _ _ _ _ none :: _) _ _ _; first | refine A.go rfl ?_ | refine A.shl rfl rfl (by first | omega | exact Int.natCast_nonneg _) ?_ | refine A.shr rfl rfl (by first | omega | exact Int.natCast_nonneg _) ?_)
    | (show AO _ _ _ (Oper.mk _ _ _ _ _ (some _) :: _) _ _ _; first | refine A.gy rfl rfl ?_ | refine A.gn rfl rfl rfl ?_ | refine A.gs rfl rfl (fun h => ?_) (fun h => ?_))
    | (show AO _ _ _ [] _ _ _; refine A.nil ?_)
    | (show CW _ _ _ _ (Code.seq (Code.region _ _ false) _) _ _ _; refine W.rq ?_)
    | (show CW _ _ _ _ (Code.region _ _ false) _ _ _; refine W.rz ?_)
    | (show CW _ _ _ _ (Code.seq (Code.region _ _ true) _) _ _ _; first | refine W.dq 0 ?_ | refine W.dq 1 ?_ | refine W.dq 2 ?_ | refine W.dq 3 ?_ | refine W.dq 4 ?_ | refine W.dq 5 ?_ | refine W.dq 6 ?_ | refine W.dq 7 ?_ | refine W.dq 8 ?_ | refine W.dq 9 ?_ | refine W.dq 10 ?_ | refine W.dq 11 ?_ | refine W.dq 12 ?_ | refine W.dq 13 ?_ | refine W.dq 14 ?_ | refine W.dq 15 ?_)
    | (show CW _ _ _ _ (Code.region _ _ true) _ _ _; first | refine W.dz 0 ?_ | refine W.dz 1 ?_ | refine W.dz 2 ?_ | refine W.dz 3 ?_ | refine W.dz 4 ?_ | refine W.dz 5 ?_ | refine W.dz 6 ?_ | refine W.dz 7 ?_ | refine W.dz 8 ?_ | refine W.dz 9 ?_ | refine W.dz 10 ?_ | refine W.dz 11 ?_ | refine W.dz 12 ?_ | refine W.dz 13 ?_ | refine W.dz 14 ?_ | refine W.dz 15 ?_)
    | (show CW _ _ _ _ _ _ _ _; first | refine W.kr ?_ | refine W.kn ?_ | refine W.ke ?_ | refine W.ct rfl ?_ | refine W.cf rfl ?_ | refine W.cd rfl (fun h => ?_) (fun h => ?_) | refine W.bl ?_ | refine W.sq ?_)
    | (show KO _ _ _ _; first | refine K.sn ?_ | refine K.sr ?_ | refine K.se ?_ | refine K.bn ?_ | refine K.br ?_ | refine K.be ?_ | refine K.bx rfl ?_ | refine K.lr ?_ | refine K.le ?_)
    | refine K.nx ?_
    | refine K.re ?_
    | refine K.dr ?_
  all_goals refine end_data rfl rfl ?_
  all_goals refine vII ?_ ?_
  all_goals unfold leavesV
  · rw [if_pos (.inl (of_decide_eq_true ‹_›))]
  · rw [if_pos (.inl (of_decide_eq_true ‹_›))]
  · rw [if_pos (.inr (of_decide_eq_true ‹_›))]
  · rw [if_pos (.inr (of_decide_eq_true ‹_›))]
  all_goals have h0 := of_decide_eq_false ‹decide (x < 0) = false›
  all_goals have h1 := of_decide_eq_false ‹decide (x ≥ 2047) = false›
  all_goals rw [if_neg (by omega)]
  all_goals have h2 := lev_low x.toNat (by omega)
  all_goals have h3 := lv_le x
  all_goals have h4 := pow_le h3
  all_goals have h5 : lv x = lev x.toNat := by unfold lv; rw [if_neg (by omega)]
  all_goals rw [← h5] at h2
  all_goals have h6 := pow_low h2 (show 0 ≤ x by omega)
  all_goals have e1 := half_val (lv_le x)
  all_goals rw [e1]
  all_goals have e2 : IntKind.i64.wrap (2 ^ lv x - 1) = 2 ^ lv x - 1 := by rw [IntKind.wrap_i64]; omega
  all_goals rw [e2]
  · have e3 : IntKind.i64.wrap (x - (2 ^ lv x - 1)) = x - (2 ^ lv x - 1) := by rw [IntKind.wrap_i64]; omega
    rw [e3, Int.tdiv_eq_ediv_of_nonneg (by omega), IntKind.wrap_i64]
    show _ = (x - (2 ^ lv x - 1)) / 2
    omega
  · have e3 : IntKind.i64.wrap (x + (2 ^ lv x - 1)) = x + (2 ^ lv x - 1) := by rw [IntKind.wrap_i64]; omega
    rw [e3, Int.tdiv_eq_ediv_of_nonneg (by omega), IntKind.wrap_i64]
    show _ = (x + (2 ^ lv x - 1)) / 2
    omega
end Go.Proofs.Mth
