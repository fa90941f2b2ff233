import Derived.Test.YthhoacanegbeaaaDoorM3
import Derived.Test.YthhoacanegbeaaaDoorPv23
set_option linter.unusedVariables false
set_option linter.unusedSimpArgs false
namespace Go.Proofs.Mth
open Go Go.Pv Go.Proofs Go.Shelf
variable {Z : Nat → Go.Obj → Prop}
def inB (b x : Int) : Bool := decide ((leavesV x).1 ≤ b) && decide (b ≤ (leavesV x).2)
def firstI (p : Int → Bool) (l : List Int) : Int := match l.findIdx? p with
  | some i => i
  | none => -1
theorem inBc (H : ZT Z) (x b : Int) (L : List Go.Pv.Obj) : SE Tryd.prog Z 38 [.int .i64 x, .ref 0 0] (bx b :: L) (.bool (inB b x)) (bx b :: L) := by
  refine SE.full H.z Tryd.func38 rfl ?_
  repeat' first
    | (show XO _ _ _ (Oper.mk (some _) (Op.call _) _ _ _ none :: _) _ _ _; first | refine X.call (leaves H _ _) ?_)
    | (show XO _ _ _ (Oper.mk (some _) _ _ _ _ none :: _) _ _ _; first | refine X.go rfl ?_ | refine X.shl rfl rfl (by first | omega | exact Int.natCast_nonneg _) ?_ | refine X.shr rfl rfl (by first | omega | exact Int.natCast_nonneg _) ?_)
    | (show XO _ _ _ (Oper.mk _ _ _ _ _ (some _) :: _) _ _ _; first | refine X.gy rfl rfl ?_ | refine X.gn rfl rfl rfl ?_ | refine X.gu rfl rfl ?_ | refine X.gs rfl rfl (fun h => ?_) (fun h => ?_))
    | (show XO _ _ _ (Oper.mk none _ _ _ _ none :: _) _ _ _; refine X.st rfl ?_)
    | (show XO _ _ _ [] _ _ _; refine X.nil ?_)
    | (show AO _ _ _ (Oper.mk (some _) (Op.call _) _ _ _ none :: _) _ _ _; first | refine A.call (leaves H _ _) ?_)
    | (show AO _ _ _ (Oper.mk (some _) _ _ _ _ none :: _) _ _ _; first | refine A.go rfl ?_ | refine A.shl rfl rfl (by first | omega | exact Int.natCast_nonneg _) ?_ | refine A.shr rfl rfl (by first | omega | exact Int.natCast_nonneg _) ?_)
    | (show AO _ _ _ (Oper.mk _ _ _ _ _ (some _) :: _) _ _ _; first | refine A.gy rfl rfl ?_ | refine A.gn rfl rfl rfl ?_ | refine A.gu rfl rfl ?_ | refine A.gs rfl rfl (fun h => ?_) (fun h => ?_))
    | (show AO _ _ _ [] _ _ _; refine A.nil ?_)
    | (show CW _ _ _ _ (Code.seq (Code.region _ _ false) _) _ _ _; refine W.rq ?_)
    | (show CW _ _ _ _ (Code.region _ _ false) _ _ _; refine W.rz ?_)
    | (show CW _ _ _ _ (Code.seq (Code.region _ _ true) _) _ _ _; first | refine W.dq 0 ?_ | refine W.dq 1 ?_ | refine W.dq 2 ?_ | refine W.dq 3 ?_ | refine W.dq 4 ?_ | refine W.dq 5 ?_ | refine W.dq 6 ?_ | refine W.dq 7 ?_ | refine W.dq 8 ?_ | refine W.dq 9 ?_ | refine W.dq 10 ?_ | refine W.dq 11 ?_ | refine W.dq 12 ?_ | refine W.dq 13 ?_ | refine W.dq 14 ?_ | refine W.dq 15 ?_)
    | (show CW _ _ _ _ (Code.region _ _ true) _ _ _; first | refine W.dz 0 ?_ | refine W.dz 1 ?_ | refine W.dz 2 ?_ | refine W.dz 3 ?_ | refine W.dz 4 ?_ | refine W.dz 5 ?_ | refine W.dz 6 ?_ | refine W.dz 7 ?_ | refine W.dz 8 ?_ | refine W.dz 9 ?_ | refine W.dz 10 ?_ | refine W.dz 11 ?_ | refine W.dz 12 ?_ | refine W.dz 13 ?_ | refine W.dz 14 ?_ | refine W.dz 15 ?_)
    | (show CW _ _ _ _ _ _ _ _; first | refine W.kr ?_ | refine W.kn ?_ | refine W.ke ?_ | refine W.ct rfl ?_ | refine W.cf rfl ?_ | refine W.cd rfl (fun h => ?_) (fun h => ?_) | refine W.bl ?_ | refine W.sq ?_)
    | (show KO _ _ _ _; first | refine K.sn ?_ | refine K.sr ?_ | refine K.se ?_ | refine K.bn ?_ | refine K.br ?_ | refine K.be ?_ | refine K.bx rfl ?_ | refine K.lr ?_ | refine K.le ?_)
    | (show KO _ _ _ _; first | refine K.ya rfl ?_)
    | refine K.nx ?_
    | refine K.re ?_
    | refine K.dr ?_
  · refine K.fin rfl ⟨?_, rfl⟩
    unfold inB
    rw [‹decide ((leavesV x).1 ≤ b) = true›, Bool.true_and]
    rfl
  · refine K.fin rfl ⟨?_, rfl⟩
    unfold inB
    rw [‹decide ((leavesV x).1 ≤ b) = false›, Bool.false_and]
    rfl
theorem findIdx_some {p : Int → Bool} {l : List Int} {i : Nat} (hi : i < l.length) (hp : p l[i] = true) (hall : ∀ i', i' < i → ∀ x, l[i']? = some x → p x = false) : l.findIdx? p = some i := by
  rw [List.findIdx?_eq_some_iff_getElem]
  exact ⟨hi, hp, fun k hk => by simp [hall k hk l[k] (List.getElem?_eq_getElem (by omega))]⟩
theorem idxF (H : ZT Z) (b : Int) (l : List Int) (m : Nat) (hl : l.length ≤ 12) :
    SE Tryd.prog Z 37 [.own 1 0 (l.map (V.int .i64)).length (l.map (V.int .i64)).length, .fn 38 [.ref 0 0]] [bx b, .buf 1 m (l.map (V.int .i64))] (.int .i64 (firstI (inB b) l)) [bx b, .buf 1 m (l.map (V.int .i64))] := by
  refine SE.full H.z Tryd.func37 rfl ?_
  repeat' first
    | (show XO _ _ _ (Oper.mk (some _) (Op.call _) _ _ _ none :: _) _ _ _; first | fail)
    | (show XO _ _ _ (Oper.mk (some _) _ _ _ _ none :: _) _ _ _; first | refine X.go rfl ?_ | refine X.shl rfl rfl (by first | omega | exact Int.natCast_nonneg _) ?_ | refine X.shr rfl rfl (by first | omega | exact Int.natCast_nonneg _) ?_)
    | (show XO _ _ _ (Oper.mk _ _ _ _ _ (some _) :: _) _ _ _; first | refine X.gy rfl rfl ?_ | refine X.gn rfl rfl rfl ?_ | refine X.gu rfl rfl ?_ | refine X.gs rfl rfl (fun h => ?_) (fun h => ?_))
    | (show XO _ _ _ (Oper.mk none _ _ _ _ none :: _) _ _ _; refine X.st rfl ?_)
    | (show XO _ _ _ [] _ _ _; refine X.nil ?_)
    | (show AO _ _ _ (Oper.mk (some _) (Op.call _) _ _ _ none :: _) _ _ _; first | fail)
    | (show AO _ _ _ (Oper.mk (some _) _ _ _ _ none :: _) _ _ _; first | refine A.go rfl ?_ | refine A.shl rfl rfl (by first | omega | exact Int.natCast_nonneg _) ?_ | refine A.shr rfl rfl (by first | omega | exact Int.natCast_nonneg _) ?_)
    | (show AO _ _ _ (Oper.mk _ _ _ _ _ (some _) :: _) _ _ _; first | refine A.gy rfl rfl ?_ | refine A.gn rfl rfl rfl ?_ | refine A.gu rfl rfl ?_ | refine A.gs rfl rfl (fun h => ?_) (fun h => ?_))
    | (show AO _ _ _ [] _ _ _; refine A.nil ?_)
    | (show CW _ _ _ _ (Code.seq (Code.region _ _ false) _) _ _ _; refine W.rq ?_)
    | (show CW _ _ _ _ (Code.region _ _ false) _ _ _; refine W.rz ?_)
    | (show CW _ _ _ _ (Code.seq (Code.region _ _ true) _) _ _ _; first | refine W.dq 0 ?_ | refine W.dq 1 ?_ | refine W.dq 2 ?_ | refine W.dq 3 ?_ | refine W.dq 4 ?_ | refine W.dq 5 ?_ | refine W.dq 6 ?_ | refine W.dq 7 ?_ | refine W.dq 8 ?_ | refine W.dq 9 ?_ | refine W.dq 10 ?_ | refine W.dq 11 ?_ | refine W.dq 12 ?_ | refine W.dq 13 ?_ | refine W.dq 14 ?_ | refine W.dq 15 ?_)
    | (show CW _ _ _ _ (Code.region _ _ true) _ _ _; first | refine W.dz 0 ?_ | refine W.dz 1 ?_ | refine W.dz 2 ?_ | refine W.dz 3 ?_ | refine W.dz 4 ?_ | refine W.dz 5 ?_ | refine W.dz 6 ?_ | refine W.dz 7 ?_ | refine W.dz 8 ?_ | refine W.dz 9 ?_ | refine W.dz 10 ?_ | refine W.dz 11 ?_ | refine W.dz 12 ?_ | refine W.dz 13 ?_ | refine W.dz 14 ?_ | refine W.dz 15 ?_)
    | (show CW _ _ _ _ _ _ _ _; first | refine W.kr ?_ | refine W.kn ?_ | refine W.ke ?_ | refine W.ct rfl ?_ | refine W.cf rfl ?_ | refine W.cd rfl (fun h => ?_) (fun h => ?_) | refine W.bl ?_ | refine W.sq ?_)
    | (show KO _ _ _ _; first | refine K.sn ?_ | refine K.sr ?_ | refine K.se ?_ | refine K.bn ?_ | refine K.br ?_ | refine K.be ?_ | refine K.bx rfl ?_ | refine K.lr ?_ | refine K.le ?_)
    | (show KO _ _ _ _; first | refine K.ya rfl ?_)
    | refine K.nx ?_
    | refine K.re ?_
    | refine K.dr ?_
  refine W.lp (fun k st => st.env 0 = .own 1 0 (l.map (V.int .i64)).length (l.map (V.int .i64)).length ∧ st.env 1 = .fn 38 [.ref 0 0] ∧ st.env 7 = .int .i64 ((l.map (V.int .i64)).length : Nat) ∧ st.L = [bx b, .buf 1 m (l.map (V.int .i64))] ∧
    ∃ i : Nat, st.env 8 = .int .i64 i ∧ i ≤ l.length ∧ k = l.length - i ∧ ∀ i', i' < i → ∀ x, l[i']? = some x → inB b x = false) l.length ⟨rfl, rfl, rfl, rfl, 0, rfl, Nat.zero_le _, rfl, fun _ h => absurd h (Nat.not_lt_zero _)⟩ ?_
  rintro k env L ⟨e0, e1, e7, rfl, i, e8, hi, rfl, hall⟩
  refine W.ev 8 e8 ?_
  refine W.ev 7 e7 ?_
  refine W.ev 1 e1 ?_
  refine W.ev 0 e0 ?_
  repeat' first
    | (show XO _ _ _ (Oper.mk (some _) (Op.call _) _ _ _ none :: _) _ _ _; first | fail)
    | (show XO _ _ _ (Oper.mk (some _) _ _ _ _ none :: _) _ _ _; first | refine X.go rfl ?_ | refine X.shl rfl rfl (by first | omega | exact Int.natCast_nonneg _) ?_ | refine X.shr rfl rfl (by first | omega | exact Int.natCast_nonneg _) ?_)
    | (show XO _ _ _ (Oper.mk _ _ _ _ _ (some _) :: _) _ _ _; first | refine X.gy rfl rfl ?_ | refine X.gn rfl rfl rfl ?_ | refine X.gu rfl rfl ?_ | refine X.gs rfl rfl (fun h => ?_) (fun h => ?_))
    | (show XO _ _ _ (Oper.mk none _ _ _ _ none :: _) _ _ _; refine X.st rfl ?_)
    | (show XO _ _ _ [] _ _ _; refine X.nil ?_)
    | (show AO _ _ _ (Oper.mk (some _) (Op.call _) _ _ _ none :: _) _ _ _; first | fail)
    | (show AO _ _ _ (Oper.mk (some _) _ _ _ _ none :: _) _ _ _; first | refine A.go rfl ?_ | refine A.shl rfl rfl (by first | omega | exact Int.natCast_nonneg _) ?_ | refine A.shr rfl rfl (by first | omega | exact Int.natCast_nonneg _) ?_)
    | (show AO _ _ _ (Oper.mk _ _ _ _ _ (some _) :: _) _ _ _; first | refine A.gy rfl rfl ?_ | refine A.gn rfl rfl rfl ?_ | refine A.gu rfl rfl ?_ | refine A.gs rfl rfl (fun h => ?_) (fun h => ?_))
    | (show AO _ _ _ [] _ _ _; refine A.nil ?_)
    | (show CW _ _ _ _ (Code.seq (Code.region _ _ false) _) _ _ _; refine W.rq ?_)
    | (show CW _ _ _ _ (Code.region _ _ false) _ _ _; refine W.rz ?_)
    | (show CW _ _ _ _ (Code.seq (Code.region _ _ true) _) _ _ _; first | refine W.dq 0 ?_ | refine W.dq 1 ?_ | refine W.dq 2 ?_ | refine W.dq 3 ?_ | refine W.dq 4 ?_ | refine W.dq 5 ?_ | refine W.dq 6 ?_ | refine W.dq 7 ?_ | refine W.dq 8 ?_ | refine W.dq 9 ?_ | refine W.dq 10 ?_ | refine W.dq 11 ?_ | refine W.dq 12 ?_ | refine W.dq 13 ?_ | refine W.dq 14 ?_ | refine W.dq 15 ?_)
    | (show CW _ _ _ _ (Code.region _ _ true) _ _ _; first | refine W.dz 0 ?_ | refine W.dz 1 ?_ | refine W.dz 2 ?_ | refine W.dz 3 ?_ | refine W.dz 4 ?_ | refine W.dz 5 ?_ | refine W.dz 6 ?_ | refine W.dz 7 ?_ | refine W.dz 8 ?_ | refine W.dz 9 ?_ | refine W.dz 10 ?_ | refine W.dz 11 ?_ | refine W.dz 12 ?_ | refine W.dz 13 ?_ | refine W.dz 14 ?_ | refine W.dz 15 ?_)
    | (show CW _ _ _ _ _ _ _ _; first | refine W.kr ?_ | refine W.kn ?_ | refine W.ke ?_ | refine W.ct rfl ?_ | refine W.cf rfl ?_ | refine W.cd rfl (fun h => ?_) (fun h => ?_) | refine W.bl ?_ | refine W.sq ?_)
    | (show KO _ _ _ _; first | refine K.sn ?_ | refine K.sr ?_ | refine K.se ?_ | refine K.bn ?_ | refine K.br ?_ | refine K.be ?_ | refine K.bx rfl ?_ | refine K.lr ?_ | refine K.le ?_)
    | (show KO _ _ _ _; first | refine K.ya rfl ?_)
    | refine K.nx ?_
    | refine K.re ?_
    | refine K.dr ?_
  · have hlt : i < (l.map (V.int .i64)).length := by have := of_decide_eq_true h; omega
    have hlt' : i < l.length := by simpa using hlt
    have hn : (l.map (V.int .i64))[0 + i]? = some (V.int .i64 l[i]) := by simp [hlt']
    refine X.iao i rfl rfl rfl rfl hlt ?_
    refine X.lde rfl rfl rfl hn ?_
    refine X.callv rfl rfl (CallV.of_SC ((inBc H l[i] b _).out.mono ?_))
    rintro _ _ ⟨rfl, rfl⟩
    repeat' first
      | (show XO _ _ _ (Oper.mk (some _) (Op.call _) _ _ _ none :: _) _ _ _; first | fail)
      | (show XO _ _ _ (Oper.mk (some _) _ _ _ _ none :: _) _ _ _; first | refine X.go rfl ?_ | refine X.shl rfl rfl (by first | omega | exact Int.natCast_nonneg _) ?_ | refine X.shr rfl rfl (by first | omega | exact Int.natCast_nonneg _) ?_)
      | (show XO _ _ _ (Oper.mk _ _ _ _ _ (some _) :: _) _ _ _; first | refine X.gy rfl rfl ?_ | refine X.gn rfl rfl rfl ?_ | refine X.gu rfl rfl ?_ | refine X.gs rfl rfl (fun h => ?_) (fun h => ?_))
      | (show XO _ _ _ (Oper.mk none _ _ _ _ none :: _) _ _ _; refine X.st rfl ?_)
      | (show XO _ _ _ [] _ _ _; refine X.nil ?_)
      | (show AO _ _ _ (Oper.mk (some _) (Op.call _) _ _ _ none :: _) _ _ _; first | fail)
      | (show AO _ _ _ (Oper.mk (some _) _ _ _ _ none :: _) _ _ _; first | refine A.go rfl ?_ | refine A.shl rfl rfl (by first | omega | exact Int.natCast_nonneg _) ?_ | refine A.shr rfl rfl (by first | omega | exact Int.natCast_nonneg _) ?_)
      | (show AO _ _ _ (Oper.mk _ _ _ _ _ (some _) :: _) _ _ _; first | refine A.gy rfl rfl ?_ | refine A.gn rfl rfl rfl ?_ | refine A.gu rfl rfl ?_ | refine A.gs rfl rfl (fun h => ?_) (fun h => ?_))
      | (show AO _ _ _ [] _ _ _; refine A.nil ?_)
      | (show CW _ _ _ _ (Code.seq (Code.region _ _ false) _) _ _ _; refine W.rq ?_)
      | (show CW _ _ _ _ (Code.region _ _ false) _ _ _; refine W.rz ?_)
      | (show CW _ _ _ _ (Code.seq (Code.region _ _ true) _) _ _ _; first | refine W.dq 0 ?_ | refine W.dq 1 ?_ | refine W.dq 2 ?_ | refine W.dq 3 ?_ | refine W.dq 4 ?_ | refine W.dq 5 ?_ | refine W.dq 6 ?_ | refine W.dq 7 ?_ | refine W.dq 8 ?_ | refine W.dq 9 ?_ | refine W.dq 10 ?_ | refine W.dq 11 ?_ | refine W.dq 12 ?_ | refine W.dq 13 ?_ | refine W.dq 14 ?_ | refine W.dq 15 ?_)
      | (show CW _ _ _ _ (Code.region _ _ true) _ _ _; first | refine W.dz 0 ?_ | refine W.dz 1 ?_ | refine W.dz 2 ?_ | refine W.dz 3 ?_ | refine W.dz 4 ?_ | refine W.dz 5 ?_ | refine W.dz 6 ?_ | refine W.dz 7 ?_ | refine W.dz 8 ?_ | refine W.dz 9 ?_ | refine W.dz 10 ?_ | refine W.dz 11 ?_ | refine W.dz 12 ?_ | refine W.dz 13 ?_ | refine W.dz 14 ?_ | refine W.dz 15 ?_)
      | (show CW _ _ _ _ _ _ _ _; first | refine W.kr ?_ | refine W.kn ?_ | refine W.ke ?_ | refine W.ct rfl ?_ | refine W.cf rfl ?_ | refine W.cd rfl (fun h => ?_) (fun h => ?_) | refine W.bl ?_ | refine W.sq ?_)
      | (show KO _ _ _ _; first | refine K.sn ?_ | refine K.sr ?_ | refine K.se ?_ | refine K.bn ?_ | refine K.br ?_ | refine K.be ?_ | refine K.bx rfl ?_ | refine K.lr ?_ | refine K.le ?_)
      | (show KO _ _ _ _; first | refine K.ya rfl ?_)
      | refine K.nx ?_
      | refine K.re ?_
      | refine K.dr ?_
    · refine K.fin rfl ⟨?_, rfl⟩
      refine vI ?_
      have hf := findIdx_some (p := inB b) (l := l) (i := i) hlt' (by assumption) hall
      unfold firstI
      rw [hf]
    · refine K.ln (l.length - (i + 1)) (by omega) ⟨rfl, rfl, rfl, rfl, i + 1, ?_, hlt', rfl, ?_⟩
      · refine vI ?_
        show IntKind.i64.wrap ((i : Int) + 1) = _
        rw [IntKind.wrap_i64]; omega
      · intro i' hi' x hx
        by_cases hc : i' = i
        · subst hc
          rw [List.getElem?_eq_getElem hlt'] at hx
          obtain rfl := Option.some.inj hx
          assumption
        · exact hall i' (by omega) x hx
  · refine K.fin rfl ⟨?_, rfl⟩
    refine vI ?_
    have h := of_decide_eq_false h
    rw [List.length_map] at h
    unfold firstI
    rw [List.findIdx?_eq_none_iff.2]
    intro x hx
    obtain ⟨i', hi', rfl⟩ := List.mem_iff_getElem.1 hx
    exact hall i' (by omega) _ (List.getElem?_eq_getElem hi')
theorem root_mem {j : Nat} (hj : j < 11) : ∀ k x, k = 11 - lev x → x < 2 * 2 ^ j - 1 → ((2 ^ j : Nat) : Int) - 1 ∈ (x : Int) :: (ups x (2 ^ j)).map gP := by
  intro k
  induction k with
  | zero =>
    intro x hk hx
    have := two_pow_bound hj
    have := lev_le x (by omega)
    omega
  | succ k ih =>
    intro x hk hx
    by_cases hr : x + 1 = 2 ^ j
    · refine List.mem_cons.2 (.inl ?_)
      omega
    · have hu := up_node j hj x hx hr
      rw [ups_step hj hx hr, List.map_cons]
      exact List.mem_cons_of_mem _ (ih (upN x) (by omega) hu.1)
theorem root_leaves : ∀ j : Nat, j < 11 → (decide (leavesV (((2 ^ j : Nat) : Int) - 1) = (0, ((2 ^ j : Nat) : Int) - 1))) = true := all_lt (by kernel_rfl)
def comL (a n : Int) : List Int := 2 * a :: (wayV gP (2 * a) n).1
def comV (a b n : Int) : Int × Int := if isT n = true ∧ 0 ≤ a ∧ 0 ≤ b ∧ a < n ∧ b < n then (((comL a n).find? (inB b)).getD 0, 0) else (0, 1)
theorem com_found {a b n : Int} (hn : isT n = true) (ha : 0 ≤ a) (hb : 0 ≤ b) (han : a < n) (hbn : b < n) : ∃ i, ∃ h : i < (comL a n).length, (comL a n).findIdx? (inB b) = some i ∧ (comL a n).find? (inB b) = some (comL a n)[i] := by
  obtain ⟨j, hj, rfl⟩ := isT_pow hn
  have h2 : 2 * a = ((2 * a.toNat : Nat) : Int) := by omega
  have hN : isN (2 * a) ((2 ^ j : Nat) : Int) = true := by rw [h2]; exact isN_of hj (by omega)
  have hr := root_mem hj _ (2 * a.toNat) rfl (by omega)
  have hm : ((2 ^ j : Nat) : Int) - 1 ∈ comL a ((2 ^ j : Nat) : Int) := by
    unfold comL wayV
    rw [if_pos hN, h2, Int.toNat_natCast, Int.toNat_natCast]
    exact hr
  have hp : inB b (((2 ^ j : Nat) : Int) - 1) = true := by
    unfold inB
    rw [of_decide_eq_true (root_leaves j hj), decide_eq_true (by exact hb), decide_eq_true (by show b ≤ _; omega)]; rfl
  cases hf : (comL a ((2 ^ j : Nat) : Int)).findIdx? (inB b) with
  | none =>
    have := List.findIdx?_eq_none_iff.1 hf _ hm
    rw [this] at hp; cases hp
  | some i =>
    obtain ⟨hi, hpi, hlt⟩ := List.findIdx?_eq_some_iff_getElem.1 hf
    refine ⟨i, hi, rfl, ?_⟩
    rw [List.find?_eq_some_iff_getElem]
    exact ⟨hpi, i, hi, rfl, fun k hk => by simpa using hlt k hk⟩
theorem elems_slV (L : List Go.Pv.Obj) (l : List Int) : elems L (slV l) = some (l.map (V.int .i64)) := by
  rfl
theorem ints_ok (l : List Int) : (l.map (V.int .i64)).all (fun y => y.cells.length == 1 && y.cells.all V.one) = true := by
  simp [V.cells, V.one]
theorem way_len (g : Nat × Nat → Int) (x n : Int) : (wayV g x n).1.length ≤ 11 := by
  unfold wayV; split
  · rw [List.length_map]; exact ups_len _ _
  · exact Nat.zero_le _
theorem common0 (H : ZT Z) (a b n : Int) : SE Tryd.prog Z 15 [.int .i64 a, .int .i64 b, .int .i64 n] [] (.tup [.int .i64 (comV a b n).1, .int .i64 (comV a b n).2]) [] := by
  refine SE.data H.z Tryd.func15 rfl ?_
  repeat' first
    | (show XO _ _ _ (Oper.mk (some _) (Op.call _) _ _ _ none :: _) _ _ _; first | refine X.call (isTree H _ _) ?_ | refine X.call (path H _ _ _) ?_)
    | (show XO _ _ _ (Oper.mk (some _) _ _ _ _ none :: _) _ _ _; first | refine X.go rfl ?_ | refine X.shl rfl rfl (by first | omega | exact Int.natCast_nonneg _) ?_ | refine X.shr rfl rfl (by first | omega | exact Int.natCast_nonneg _) ?_)
    | (show XO _ _ _ (Oper.mk _ _ _ _ _ (some _) :: _) _ _ _; first | refine X.gy rfl rfl ?_ | refine X.gn rfl rfl rfl ?_ | refine X.gu rfl rfl ?_ | refine X.gs rfl rfl (fun h => ?_) (fun h => ?_))
    | (show XO _ _ _ (Oper.mk none _ _ _ _ none :: _) _ _ _; refine X.st rfl ?_)
    | (show XO _ _ _ [] _ _ _; refine X.nil ?_)
    | (show AO _ _ _ (Oper.mk (some _) (Op.call _) _ _ _ none :: _) _ _ _; first | refine A.call (isTree H _ _) ?_ | refine A.call (path H _ _ _) ?_)
    | (show AO _ _ _ (Oper.mk (some _) _ _ _ _ none :: _) _ _ _; first | refine A.go rfl ?_ | refine A.shl rfl rfl (by first | omega | exact Int.natCast_nonneg _) ?_ | refine A.shr rfl rfl (by first | omega | exact Int.natCast_nonneg _) ?_)
    | (show AO _ _ _ (Oper.mk _ _ _ _ _ (some _) :: _) _ _ _; first | refine A.gy rfl rfl ?_ | refine A.gn rfl rfl rfl ?_ | refine A.gu rfl rfl ?_ | refine A.gs rfl rfl (fun h => ?_) (fun h => ?_))
    | (show AO _ _ _ [] _ _ _; refine A.nil ?_)
    | (show CW _ _ _ _ (Code.seq (Code.region _ _ false) _) _ _ _; refine W.rq ?_)
    | (show CW _ _ _ _ (Code.region _ _ false) _ _ _; refine W.rz ?_)
    | (show CW _ _ _ _ (Code.seq (Code.region _ _ true) _) _ _ _; first | refine W.dq 0 ?_ | refine W.dq 1 ?_ | refine W.dq 2 ?_ | refine W.dq 3 ?_ | refine W.dq 4 ?_ | refine W.dq 5 ?_ | refine W.dq 6 ?_ | refine W.dq 7 ?_ | refine W.dq 8 ?_ | refine W.dq 9 ?_ | refine W.dq 10 ?_ | refine W.dq 11 ?_ | refine W.dq 12 ?_ | refine W.dq 13 ?_ | refine W.dq 14 ?_ | refine W.dq 15 ?_)
    | (show CW _ _ _ _ (Code.region _ _ true) _ _ _; first | refine W.dz 0 ?_ | refine W.dz 1 ?_ | refine W.dz 2 ?_ | refine W.dz 3 ?_ | refine W.dz 4 ?_ | refine W.dz 5 ?_ | refine W.dz 6 ?_ | refine W.dz 7 ?_ | refine W.dz 8 ?_ | refine W.dz 9 ?_ | refine W.dz 10 ?_ | refine W.dz 11 ?_ | refine W.dz 12 ?_ | refine W.dz 13 ?_ | refine W.dz 14 ?_ | refine W.dz 15 ?_)
    | (show CW _ _ _ _ _ _ _ _; first | refine W.kr ?_ | refine W.kn ?_ | refine W.ke ?_ | refine W.ct rfl ?_ | refine W.cf rfl ?_ | refine W.cd rfl (fun h => ?_) (fun h => ?_) | refine W.bl ?_ | refine W.sq ?_)
    | (show KO _ _ _ _; first | refine K.sn ?_ | refine K.sr ?_ | refine K.se ?_ | refine K.bn ?_ | refine K.br ?_ | refine K.be ?_ | refine K.bx rfl ?_ | refine K.lr ?_ | refine K.le ?_)
    | (show KO _ _ _ _; first | refine K.ya rfl ?_)
    | refine K.nx ?_
    | refine K.re ?_
    | refine K.dr ?_
  · refine K.fin rfl ⟨_, rfl, ?_⟩
    rw [show comV a b n = (0, 1) by unfold comV; rw [if_neg (by rintro ⟨h1, _⟩; rw [h1] at h; cases h)]]
    rfl
  · have h := of_decide_eq_true ‹decide ((if b < a then b else a) < 0) = true›
    have h' : a < 0 ∨ b < 0 := by split at h <;> omega
    refine K.fin rfl ⟨_, rfl, ?_⟩
    rw [show comV a b n = (0, 1) by unfold comV; rw [if_neg (by omega)]]
    rfl
  · have h := of_decide_eq_true ‹decide ((if b > a then b else a) ≥ n) = true›
    have h' : a ≥ n ∨ b ≥ n := by split at h <;> omega
    refine K.fin rfl ⟨_, rfl, ?_⟩
    rw [show comV a b n = (0, 1) by unfold comV; rw [if_neg (by omega)]]
    rfl
  · have hT : isT n = true := by simpa using ‹(!isT n) = false›
    have h1 := of_decide_eq_false ‹decide ((if b < a then b else a) < 0) = false›
    have h2 := of_decide_eq_false ‹decide ((if b > a then b else a) ≥ n) = false›
    have h3 : 0 ≤ a ∧ 0 ≤ b := by split at h1 <;> omega
    have h4 : a < n ∧ b < n := by split at h2 <;> omega
    have h5 := isT_le hT
    have e : IntKind.i64.wrap (2 * a) = 2 * a := by rw [IntKind.wrap_i64]; omega
    rw [e]
    have hlen := way_len gP (2 * a) n
    have hlen' : (comL a n).length ≤ 12 := by unfold comL; simp only [List.length_cons]; omega
    obtain ⟨i, hi, hfi, hff⟩ := com_found hT h3.1 h3.2 h4.1 h4.2
    have hidx := idxF H b (comL a n) 1 hlen'
    rw [show firstI (inB b) (comL a n) = (i : Int) by unfold firstI; rw [hfi]] at hidx
    refine X.go0 ((pop_app_sl rfl rfl rfl rfl rfl rfl rfl (by decide) rfl rfl (elems_slV _ _) (ints_ok _) ?_ ?_).trans
      (show _ = some (V.own 1 0 ((comL a n).map (V.int .i64)).length ((comL a n).map (V.int .i64)).length, [bx b, .buf 1 1 ((comL a n).map (V.int .i64))]) from ?_)) ?_
    · show (1 + _) * 8 ≤ _
      simp only [List.length_map]; omega
    · show 1 + _ ≤ _
      simp only [List.length_map]; omega
    · show some (V.own 1 0 (1 + _) (1 + _), _) = _
      rw [Nat.add_comm]; rfl
    repeat' first
      | (show XO _ _ _ (Oper.mk (some _) (Op.call _) _ _ _ none :: _) _ _ _; first | refine X.call (hidx) ?_)
      | (show XO _ _ _ (Oper.mk (some _) _ _ _ _ none :: _) _ _ _; first | refine X.go rfl ?_ | refine X.shl rfl rfl (by first | omega | exact Int.natCast_nonneg _) ?_ | refine X.shr rfl rfl (by first | omega | exact Int.natCast_nonneg _) ?_)
      | (show XO _ _ _ (Oper.mk _ _ _ _ _ (some _) :: _) _ _ _; first | refine X.gy rfl rfl ?_ | refine X.gn rfl rfl rfl ?_ | refine X.gu rfl rfl ?_ | refine X.gs rfl rfl (fun h => ?_) (fun h => ?_))
      | (show XO _ _ _ (Oper.mk none _ _ _ _ none :: _) _ _ _; refine X.st rfl ?_)
      | (show XO _ _ _ [] _ _ _; refine X.nil ?_)
      | (show AO _ _ _ (Oper.mk (some _) (Op.call _) _ _ _ none :: _) _ _ _; first | refine A.call (hidx) ?_)
      | (show AO _ _ _ (Oper.mk (some _) _ _ _ _ none :: _) _ _ _; first | refine A.go rfl ?_ | refine A.shl rfl rfl (by first | omega | exact Int.natCast_nonneg _) ?_ | refine A.shr rfl rfl (by first | omega | exact Int.natCast_nonneg _) ?_)
      | (show AO _ _ _ (Oper.mk _ _ _ _ _ (some _) :: _) _ _ _; first | refine A.gy rfl rfl ?_ | refine A.gn rfl rfl rfl ?_ | refine A.gu rfl rfl ?_ | refine A.gs rfl rfl (fun h => ?_) (fun h => ?_))
      | (show AO _ _ _ [] _ _ _; refine A.nil ?_)
      | (show CW _ _ _ _ (Code.seq (Code.region _ _ false) _) _ _ _; refine W.rq ?_)
      | (show CW _ _ _ _ (Code.region _ _ false) _ _ _; refine W.rz ?_)
      | (show CW _ _ _ _ (Code.seq (Code.region _ _ true) _) _ _ _; first | refine W.dq 0 ?_ | refine W.dq 1 ?_ | refine W.dq 2 ?_ | refine W.dq 3 ?_ | refine W.dq 4 ?_ | refine W.dq 5 ?_ | refine W.dq 6 ?_ | refine W.dq 7 ?_ | refine W.dq 8 ?_ | refine W.dq 9 ?_ | refine W.dq 10 ?_ | refine W.dq 11 ?_ | refine W.dq 12 ?_ | refine W.dq 13 ?_ | refine W.dq 14 ?_ | refine W.dq 15 ?_)
      | (show CW _ _ _ _ (Code.region _ _ true) _ _ _; first | refine W.dz 0 ?_ | refine W.dz 1 ?_ | refine W.dz 2 ?_ | refine W.dz 3 ?_ | refine W.dz 4 ?_ | refine W.dz 5 ?_ | refine W.dz 6 ?_ | refine W.dz 7 ?_ | refine W.dz 8 ?_ | refine W.dz 9 ?_ | refine W.dz 10 ?_ | refine W.dz 11 ?_ | refine W.dz 12 ?_ | refine W.dz 13 ?_ | refine W.dz 14 ?_ | refine W.dz 15 ?_)
      | (show CW _ _ _ _ _ _ _ _; first | refine W.kr ?_ | refine W.kn ?_ | refine W.ke ?_ | refine W.ct rfl ?_ | refine W.cf rfl ?_ | refine W.cd rfl (fun h => ?_) (fun h => ?_) | refine W.bl ?_ | refine W.sq ?_)
      | (show KO _ _ _ _; first | refine K.sn ?_ | refine K.sr ?_ | refine K.se ?_ | refine K.bn ?_ | refine K.br ?_ | refine K.be ?_ | refine K.bx rfl ?_ | refine K.lr ?_ | refine K.le ?_)
      | (show KO _ _ _ _; first | refine K.ya rfl ?_)
      | refine K.nx ?_
      | refine K.re ?_
      | refine K.dr ?_
    have hn : ((comL a n).map (V.int .i64))[0 + i]? = some (V.int .i64 (comL a n)[i]) := by simp [hi]
    refine X.iao i rfl rfl rfl rfl (by simpa using hi) ?_
    refine X.lde rfl rfl rfl hn ?_
    repeat' first
      | (show XO _ _ _ (Oper.mk (some _) (Op.call _) _ _ _ none :: _) _ _ _; first | fail)
      | (show XO _ _ _ (Oper.mk (some _) _ _ _ _ none :: _) _ _ _; first | refine X.go rfl ?_ | refine X.shl rfl rfl (by first | omega | exact Int.natCast_nonneg _) ?_ | refine X.shr rfl rfl (by first | omega | exact Int.natCast_nonneg _) ?_)
      | (show XO _ _ _ (Oper.mk _ _ _ _ _ (some _) :: _) _ _ _; first | refine X.gy rfl rfl ?_ | refine X.gn rfl rfl rfl ?_ | refine X.gu rfl rfl ?_ | refine X.gs rfl rfl (fun h => ?_) (fun h => ?_))
      | (show XO _ _ _ (Oper.mk none _ _ _ _ none :: _) _ _ _; refine X.st rfl ?_)
      | (show XO _ _ _ [] _ _ _; refine X.nil ?_)
      | (show AO _ _ _ (Oper.mk (some _) (Op.call _) _ _ _ none :: _) _ _ _; first | fail)
      | (show AO _ _ _ (Oper.mk (some _) _ _ _ _ none :: _) _ _ _; first | refine A.go rfl ?_ | refine A.shl rfl rfl (by first | omega | exact Int.natCast_nonneg _) ?_ | refine A.shr rfl rfl (by first | omega | exact Int.natCast_nonneg _) ?_)
      | (show AO _ _ _ (Oper.mk _ _ _ _ _ (some _) :: _) _ _ _; first | refine A.gy rfl rfl ?_ | refine A.gn rfl rfl rfl ?_ | refine A.gu rfl rfl ?_ | refine A.gs rfl rfl (fun h => ?_) (fun h => ?_))
      | (show AO _ _ _ [] _ _ _; refine A.nil ?_)
      | (show CW _ _ _ _ (Code.seq (Code.region _ _ false) _) _ _ _; refine W.rq ?_)
      | (show CW _ _ _ _ (Code.region _ _ false) _ _ _; refine W.rz ?_)
      | (show CW _ _ _ _ (Code.seq (Code.region _ _ true) _) _ _ _; first | refine W.dq 0 ?_ | refine W.dq 1 ?_ | refine W.dq 2 ?_ | refine W.dq 3 ?_ | refine W.dq 4 ?_ | refine W.dq 5 ?_ | refine W.dq 6 ?_ | refine W.dq 7 ?_ | refine W.dq 8 ?_ | refine W.dq 9 ?_ | refine W.dq 10 ?_ | refine W.dq 11 ?_ | refine W.dq 12 ?_ | refine W.dq 13 ?_ | refine W.dq 14 ?_ | refine W.dq 15 ?_)
      | (show CW _ _ _ _ (Code.region _ _ true) _ _ _; first | refine W.dz 0 ?_ | refine W.dz 1 ?_ | refine W.dz 2 ?_ | refine W.dz 3 ?_ | refine W.dz 4 ?_ | refine W.dz 5 ?_ | refine W.dz 6 ?_ | refine W.dz 7 ?_ | refine W.dz 8 ?_ | refine W.dz 9 ?_ | refine W.dz 10 ?_ | refine W.dz 11 ?_ | refine W.dz 12 ?_ | refine W.dz 13 ?_ | refine W.dz 14 ?_ | refine W.dz 15 ?_)
      | (show CW _ _ _ _ _ _ _ _; first | refine W.kr ?_ | refine W.kn ?_ | refine W.ke ?_ | refine W.ct rfl ?_ | refine W.cf rfl ?_ | refine W.cd rfl (fun h => ?_) (fun h => ?_) | refine W.bl ?_ | refine W.sq ?_)
      | (show KO _ _ _ _; first | refine K.sn ?_ | refine K.sr ?_ | refine K.se ?_ | refine K.bn ?_ | refine K.br ?_ | refine K.be ?_ | refine K.bx rfl ?_ | refine K.lr ?_ | refine K.le ?_)
      | (show KO _ _ _ _; first | refine K.ya rfl ?_)
      | refine K.nx ?_
      | refine K.re ?_
      | refine K.dr ?_
    refine K.fin rfl ⟨_, rfl, ?_⟩
    rw [show comV a b n = ((comL a n)[i], 0) by unfold comV; rw [if_pos ⟨hT, h3.1, h3.2, h4.1, h4.2⟩, hff]; rfl]
    rfl
theorem common (H : ZT Z) (a b n : Int) (L : List Go.Pv.Obj) : SE Tryd.prog Z 15 [.int .i64 a, .int .i64 b, .int .i64 n] L (.tup [.int .i64 (comV a b n).1, .int .i64 (comV a b n).2]) L :=
  SE.lift (common0 H a b n) L rfl rfl
end Go.Proofs.Mth
