import Derived.Test.YthhoacanegbeaaaDoorM4
set_option linter.unusedVariables false
set_option linter.unusedSimpArgs false
namespace Go.Proofs.Mth
open Go Go.Pv Go.Proofs Go.Shelf
variable {Z : Nat → Go.Obj → Prop}
theorem slV_eq (l : List Int) : slV l = .sl l.isEmpty l.isEmpty (l.map (V.int .i64)) := by
  rfl
theorem getI {l : List Int} {i : Nat} (h : i < l.length) : (l.map (V.int .i64))[i]? = some (V.int .i64 l[i]) := by simp [h]
theorem of_lt {l : List Int} {i : Nat} (h : decide ((i : Int) < ((l.map (V.int .i64)).length : Nat)) = true) : i < l.length := by
  have h := of_decide_eq_true h
  rw [List.length_map] at h
  omega
theorem ints0 (H : ZT Z) (l l' : List Int) (n x n' x' : Bool) (hl : l.length < 1000000) (L : List Go.Pv.Obj) :
    SE Tryd.prog Z 19 [.sl n x (l.map (V.int .i64)), .sl n' x' (l'.map (V.int .i64))] L (.bool (decide (l = l'))) L := by
  refine SE.data H.z Tryd.func19 rfl ?_
  repeat' first
    | (show XO _ _ _ (Oper.mk (some _) (Op.call _) _ _ _ none :: _) _ _ _; first | fail)
    | (show XO _ _ _ (Oper.mk (some _) _ _ _ _ none :: _) _ _ _; first | refine X.go rfl ?_ | refine X.shl rfl rfl (by first | omega | exact Int.natCast_nonneg _) ?_ | refine X.shr rfl rfl (by first | omega | exact Int.natCast_nonneg _) ?_)
    | (show XO _ _ _ (Oper.mk _ _ _ _ _ (some _) :: _) _ _ _; first | refine X.gy rfl rfl ?_ | refine X.gn rfl rfl rfl ?_ | refine X.gu rfl rfl ?_ | refine X.gs rfl rfl (fun h => ?_) (fun h => ?_))
    | (show XO _ _ _ (Oper.mk none _ _ _ _ none :: _) _ _ _; refine X.st rfl ?_)
    | (show XO _ _ _ [] _ _ _; refine X.nil ?_)
    | (show AO _ _ _ (Oper.mk (some _) (Op.call _) _ _ _ none :: _) _ _ _; first | fail)
    | (show AO _ _ _ (Oper.mk (some _) _ _ _ _ none :: _) _ _ _; first | refine A.go rfl ?_ | refine A.shl rfl rfl (by first | omega | exact Int.natCast_nonneg _) ?_ | refine A.shr rfl rfl (by first | omega | exact Int.natCast_nonneg _) ?_)
    | (show AO _ _ _ (Oper.mk _ _ _ _ _ (some _) :: _) _ _ _; first | refine A.gy rfl rfl ?_ | refine A.gn rfl rfl rfl ?_ | refine A.gu rfl rfl ?_ | refine A.gs rfl rfl (fun h => ?_) (fun h => ?_))
    | (show AO _ _ _ [] _ _ _; refine A.nil ?_)
    | (show CW _ _ _ _ (Code.seq (Code.region _ _ false) _) _ _ _; refine W.rq ?_)
    | (show CW _ _ _ _ (Code.region _ _ false) _ _ _; refine W.rz ?_)
    | (show CW _ _ _ _ (Code.seq (Code.region _ _ true) _) _ _ _; first | refine W.dq 0 ?_ | refine W.dq 1 ?_ | refine W.dq 2 ?_ | refine W.dq 3 ?_ | refine W.dq 4 ?_ | refine W.dq 5 ?_ | refine W.dq 6 ?_ | refine W.dq 7 ?_ | refine W.dq 8 ?_ | refine W.dq 9 ?_ | refine W.dq 10 ?_ | refine W.dq 11 ?_ | refine W.dq 12 ?_ | refine W.dq 13 ?_ | refine W.dq 14 ?_ | refine W.dq 15 ?_)
    | (show CW _ _ _ _ (Code.region _ _ true) _ _ _; first | refine W.dz 0 ?_ | refine W.dz 1 ?_ | refine W.dz 2 ?_ | refine W.dz 3 ?_ | refine W.dz 4 ?_ | refine W.dz 5 ?_ | refine W.dz 6 ?_ | refine W.dz 7 ?_ | refine W.dz 8 ?_ | refine W.dz 9 ?_ | refine W.dz 10 ?_ | refine W.dz 11 ?_ | refine W.dz 12 ?_ | refine W.dz 13 ?_ | refine W.dz 14 ?_ | refine W.dz 15 ?_)
    | (show CW _ _ _ _ _ _ _ _; first | refine W.kr ?_ | refine W.kn ?_ | refine W.ke ?_ | refine W.ct rfl ?_ | refine W.cf rfl ?_ | refine W.cd rfl (fun h => ?_) (fun h => ?_) | refine W.bl ?_ | refine W.sq ?_)
    | (show KO _ _ _ _; first | refine K.sn ?_ | refine K.sr ?_ | refine K.se ?_ | refine K.bn ?_ | refine K.br ?_ | refine K.be ?_ | refine K.bx rfl ?_ | refine K.lr ?_ | refine K.le ?_)
    | (show KO _ _ _ _; first | refine K.ya rfl ?_)
    | refine K.nx ?_
    | refine K.re ?_
    | refine K.dr ?_
  · refine end_data rfl rfl (vB ?_)
    refine (decide_eq_false ?_).symm
    rintro rfl
    simp at h
  · have hl' : l.length = l'.length := by simpa [Int.natCast_inj] using h
    refine W.lp (fun k st => st.env 0 = .sl n x (l.map (V.int .i64)) ∧ st.env 1 = .sl n' x' (l'.map (V.int .i64)) ∧ st.L = L ∧
      ∃ i : Nat, st.env 5 = .int .i64 i ∧ i ≤ l.length ∧ k = l.length - i ∧ ∀ i', i' < i → l[i']? = l'[i']?) l.length ⟨rfl, rfl, rfl, 0, rfl, Nat.zero_le _, rfl, fun _ h => absurd h (Nat.not_lt_zero _)⟩ ?_
    rintro k env L ⟨e0, e1, rfl, i, e5, hi, rfl, hall⟩
    refine W.ev 5 e5 ?_
    refine W.ev 1 e1 ?_
    refine W.ev 0 e0 ?_
    repeat' first
      | (show XO _ _ _ (Oper.mk (some _) (Op.call _) _ _ _ none :: _) _ _ _; first | fail)
      | (show XO _ _ _ (Oper.mk (some _) _ _ _ _ none :: _) _ _ _; first | refine X.ias i rfl rfl (getI (of_lt ‹_›)) ?_ | refine X.ias i rfl rfl (getI (hl' ▸ of_lt ‹_›)) ?_ | refine X.go rfl ?_ | refine X.shl rfl rfl (by first | omega | exact Int.natCast_nonneg _) ?_ | refine X.shr rfl rfl (by first | omega | exact Int.natCast_nonneg _) ?_)
      | (show XO _ _ _ (Oper.mk _ _ _ _ _ (some _) :: _) _ _ _; first | refine X.gy rfl rfl ?_ | refine X.gn rfl rfl rfl ?_ | refine X.gu rfl rfl ?_ | refine X.gs rfl rfl (fun h => ?_) (fun h => ?_))
      | (show XO _ _ _ (Oper.mk none _ _ _ _ none :: _) _ _ _; refine X.st rfl ?_)
      | (show XO _ _ _ [] _ _ _; refine X.nil ?_)
      | (show AO _ _ _ (Oper.mk (some _) (Op.call _) _ _ _ none :: _) _ _ _; first | fail)
      | (show AO _ _ _ (Oper.mk (some _) _ _ _ _ none :: _) _ _ _; first | refine A.ias i rfl rfl (getI (of_lt ‹_›)) ?_ | refine A.ias i rfl rfl (getI (hl' ▸ of_lt ‹_›)) ?_ | refine A.go rfl ?_ | refine A.shl rfl rfl (by first | omega | exact Int.natCast_nonneg _) ?_ | refine A.shr rfl rfl (by first | omega | exact Int.natCast_nonneg _) ?_)
      | (show AO _ _ _ (Oper.mk _ _ _ _ _ (some _) :: _) _ _ _; first | refine A.gy rfl rfl ?_ | refine A.gn rfl rfl rfl ?_ | refine A.gu rfl rfl ?_ | refine A.gs rfl rfl (fun h => ?_) (fun h => ?_))
      | (show AO _ _ _ [] _ _ _; refine A.nil ?_)
      | (show CW _ _ _ _ (Code.seq (Code.region _ _ false) _) _ _ _; refine W.rq ?_)
      | (show CW _ _ _ _ (Code.region _ _ false) _ _ _; refine W.rz ?_)
      | (show CW _ _ _ _ (Code.seq (Code.region _ _ true) _) _ _ _; first | refine W.dq 0 ?_ | refine W.dq 1 ?_ | refine W.dq 2 ?_ | refine W.dq 3 ?_ | refine W.dq 4 ?_ | refine W.dq 5 ?_ | refine W.dq 6 ?_ | refine W.dq 7 ?_ | refine W.dq 8 ?_ | refine W.dq 9 ?_ | refine W.dq 10 ?_ | refine W.dq 11 ?_ | refine W.dq 12 ?_ | refine W.dq 13 ?_ | refine W.dq 14 ?_ | refine W.dq 15 ?_)
      | (show CW _ _ _ _ (Code.region _ _ true) _ _ _; first | refine W.dz 0 ?_ | refine W.dz 1 ?_ | refine W.dz 2 ?_ | refine W.dz 3 ?_ | refine W.dz 4 ?_ | refine W.dz 5 ?_ | refine W.dz 6 ?_ | refine W.dz 7 ?_ | refine W.dz 8 ?_ | refine W.dz 9 ?_ | refine W.dz 10 ?_ | refine W.dz 11 ?_ | refine W.dz 12 ?_ | refine W.dz 13 ?_ | refine W.dz 14 ?_ | refine W.dz 15 ?_)
      | (show CW _ _ _ _ _ _ _ _; first | refine W.kr ?_ | refine W.kn ?_ | refine W.ke ?_ | refine W.ct rfl ?_ | refine W.cf rfl ?_ | refine W.cd rfl (fun h => ?_) (fun h => ?_) | refine W.bl ?_ | refine W.sq ?_)
      | (show KO _ _ _ _; first | refine K.sn ?_ | refine K.sr ?_ | refine K.se ?_ | refine K.bn ?_ | refine K.br ?_ | refine K.be ?_ | refine K.bx rfl ?_ | refine K.lr ?_ | refine K.le ?_)
      | (show KO _ _ _ _; first | refine K.ya rfl ?_)
      | refine K.nx ?_
      | refine K.re ?_
      | refine K.dr ?_
    · have hlt' := of_lt (i := i) (l := l) ‹_›
      refine end_data rfl rfl (vB ?_)
      refine (decide_eq_false ?_).symm
      rintro rfl
      simp at h
    · have hlt' := of_lt (i := i) (l := l) ‹_›
      refine K.ln (l.length - (i + 1)) (by omega) ⟨rfl, rfl, rfl, i + 1, ?_, hlt', rfl, ?_⟩
      · refine vI ?_
        show IntKind.i64.wrap ((i : Int) + 1) = _
        rw [IntKind.wrap_i64]; omega
      · intro i' hi'
        by_cases hc : i' = i
        · subst hc
          rw [List.getElem?_eq_getElem hlt', List.getElem?_eq_getElem (hl' ▸ hlt')]
          exact congrArg some (by simpa using h)
        · exact hall i' (by omega)
    · refine end_data rfl rfl (vB ?_)
      have hge : l.length ≤ i := by
        have h := of_decide_eq_false h
        rw [List.length_map] at h
        omega
      refine (decide_eq_true ?_).symm
      refine List.ext_getElem? fun i' => ?_
      by_cases hc : i' < i
      · exact hall i' hc
      · rw [List.getElem?_eq_none (by omega), List.getElem?_eq_none (by omega)]
theorem ints (H : ZT Z) (l l' : List Int) (hl : l.length < 1000000) (L : List Go.Pv.Obj) : SE Tryd.prog Z 19 [slV l, slV l'] L (.bool (decide (l = l'))) L := by
  rw [slV_eq, slV_eq]; exact ints0 H l l' _ _ _ _ hl L
theorem inL0 (H : ZT Z) (l : List Int) (v : Int) (n x : Bool) (hl : l.length < 1000000) (L : List Go.Pv.Obj) :
    SE Tryd.prog Z 20 [.sl n x (l.map (V.int .i64)), .int .i64 v] L (.bool (l.contains v)) L := by
  refine SE.data H.z Tryd.func20 rfl ?_
  repeat' first
    | (show XO _ _ _ (Oper.mk (some _) (Op.call _) _ _ _ none :: _) _ _ _; first | fail)
    | (show XO _ _ _ (Oper.mk (some _) _ _ _ _ none :: _) _ _ _; first | refine X.go rfl ?_ | refine X.shl rfl rfl (by first | omega | exact Int.natCast_nonneg _) ?_ | refine X.shr rfl rfl (by first | omega | exact Int.natCast_nonneg _) ?_)
    | (show XO _ _ _ (Oper.mk _ _ _ _ _ (some _) :: _) _ _ _; first | refine X.gy rfl rfl ?_ | refine X.gn rfl rfl rfl ?_ | refine X.gu rfl rfl ?_ | refine X.gs rfl rfl (fun h => ?_) (fun h => ?_))
    | (show XO _ _ _ (Oper.mk none _ _ _ _ none :: _) _ _ _; refine X.st rfl ?_)
    | (show XO _ _ _ [] _ _ _; refine X.nil ?_)
    | (show AO _ _ _ (Oper.mk (some _) (Op.call _) _ _ _ none :: _) _ _ _; first | fail)
    | (show AO _ _ _ (Oper.mk (some _) _ _ _ _ none :: _) _ _ _; first | refine A.go rfl ?_ | refine A.shl rfl rfl (by first | omega | exact Int.natCast_nonneg _) ?_ | refine A.shr rfl rfl (by first | omega | exact Int.natCast_nonneg _) ?_)
    | (show AO _ _ _ (Oper.mk _ _ _ _ _ (some _) :: _) _ _ _; first | refine A.gy rfl rfl ?_ | refine A.gn rfl rfl rfl ?_ | refine A.gu rfl rfl ?_ | refine A.gs rfl rfl (fun h => ?_) (fun h => ?_))
    | (show AO _ _ _ [] _ _ _; refine A.nil ?_)
    | (show CW _ _ _ _ (Code.seq (Code.region _ _ false) _) _ _ _; refine W.rq ?_)
    | (show CW _ _ _ _ (Code.region _ _ false) _ _ _; refine W.rz ?_)
    | (show CW _ _ _ _ (Code.seq (Code.region _ _ true) _) _ _ _; first | refine W.dq 0 ?_ | refine W.dq 1 ?_ | refine W.dq 2 ?_ | refine W.dq 3 ?_ | refine W.dq 4 ?_ | refine W.dq 5 ?_ | refine W.dq 6 ?_ | refine W.dq 7 ?_ | refine W.dq 8 ?_ | refine W.dq 9 ?_ | refine W.dq 10 ?_ | refine W.dq 11 ?_ | refine W.dq 12 ?_ | refine W.dq 13 ?_ | refine W.dq 14 ?_ | refine W.dq 15 ?_)
    | (show CW _ _ _ _ (Code.region _ _ true) _ _ _; first | refine W.dz 0 ?_ | refine W.dz 1 ?_ | refine W.dz 2 ?_ | refine W.dz 3 ?_ | refine W.dz 4 ?_ | refine W.dz 5 ?_ | refine W.dz 6 ?_ | refine W.dz 7 ?_ | refine W.dz 8 ?_ | refine W.dz 9 ?_ | refine W.dz 10 ?_ | refine W.dz 11 ?_ | refine W.dz 12 ?_ | refine W.dz 13 ?_ | refine W.dz 14 ?_ | refine W.dz 15 ?_)
    | (show CW _ _ _ _ _ _ _ _; first | refine W.kr ?_ | refine W.kn ?_ | refine W.ke ?_ | refine W.ct rfl ?_ | refine W.cf rfl ?_ | refine W.cd rfl (fun h => ?_) (fun h => ?_) | refine W.bl ?_ | refine W.sq ?_)
    | (show KO _ _ _ _; first | refine K.sn ?_ | refine K.sr ?_ | refine K.se ?_ | refine K.bn ?_ | refine K.br ?_ | refine K.be ?_ | refine K.bx rfl ?_ | refine K.lr ?_ | refine K.le ?_)
    | (show KO _ _ _ _; first | refine K.ya rfl ?_)
    | refine K.nx ?_
    | refine K.re ?_
    | refine K.dr ?_
  refine W.lp (fun k st => st.env 0 = .sl n x (l.map (V.int .i64)) ∧ st.env 1 = .int .i64 v ∧ st.L = L ∧
      ∃ i : Nat, st.env 5 = .int .i64 i ∧ i ≤ l.length ∧ k = l.length - i ∧ ∀ i' (h : i' < l.length), i' < i → l[i'] ≠ v) l.length ⟨rfl, rfl, rfl, 0, rfl, Nat.zero_le _, rfl, fun _ _ h => absurd h (Nat.not_lt_zero _)⟩ ?_
  rintro k env L ⟨e0, e1, rfl, i, e5, hi, rfl, hall⟩
  refine W.ev 5 e5 ?_
  refine W.ev 1 e1 ?_
  refine W.ev 0 e0 ?_
  repeat' first
    | (show XO _ _ _ (Oper.mk (some _) (Op.call _) _ _ _ none :: _) _ _ _; first | fail)
    | (show XO _ _ _ (Oper.mk (some _) _ _ _ _ none :: _) _ _ _; first | refine X.ias i rfl rfl (getI (of_lt ‹_›)) ?_ | refine X.go rfl ?_ | refine X.shl rfl rfl (by first | omega | exact Int.natCast_nonneg _) ?_ | refine X.shr rfl rfl (by first | omega | exact Int.natCast_nonneg _) ?_)
    | (show XO _ _ _ (Oper.mk _ _ _ _ _ (some _) :: _) _ _ _; first | refine X.gy rfl rfl ?_ | refine X.gn rfl rfl rfl ?_ | refine X.gu rfl rfl ?_ | refine X.gs rfl rfl (fun h => ?_) (fun h => ?_))
    | (show XO _ _ _ (Oper.mk none _ _ _ _ none :: _) _ _ _; refine X.st rfl ?_)
    | (show XO _ _ _ [] _ _ _; refine X.nil ?_)
    | (show AO _ _ _ (Oper.mk (some _) (Op.call _) _ _ _ none :: _) _ _ _; first | fail)
    | (show AO _ _ _ (Oper.mk (some _) _ _ _ _ none :: _) _ _ _; first | refine A.ias i rfl rfl (getI (of_lt ‹_›)) ?_ | refine A.go rfl ?_ | refine A.shl rfl rfl (by first | omega | exact Int.natCast_nonneg _) ?_ | refine A.shr rfl rfl (by first | omega | exact Int.natCast_nonneg _) ?_)
    | (show AO _ _ _ (Oper.mk _ _ _ _ _ (some _) :: _) _ _ _; first | refine A.gy rfl rfl ?_ | refine A.gn rfl rfl rfl ?_ | refine A.gu rfl rfl ?_ | refine A.gs rfl rfl (fun h => ?_) (fun h => ?_))
    | (show AO _ _ _ [] _ _ _; refine A.nil ?_)
    | (show CW _ _ _ _ (Code.seq (Code.region _ _ false) _) _ _ _; refine W.rq ?_)
    | (show CW _ _ _ _ (Code.region _ _ false) _ _ _; refine W.rz ?_)
    | (show CW _ _ _ _ (Code.seq (Code.region _ _ true) _) _ _ _; first | refine W.dq 0 ?_ | refine W.dq 1 ?_ | refine W.dq 2 ?_ | refine W.dq 3 ?_ | refine W.dq 4 ?_ | refine W.dq 5 ?_ | refine W.dq 6 ?_ | refine W.dq 7 ?_ | refine W.dq 8 ?_ | refine W.dq 9 ?_ | refine W.dq 10 ?_ | refine W.dq 11 ?_ | refine W.dq 12 ?_ | refine W.dq 13 ?_ | refine W.dq 14 ?_ | refine W.dq 15 ?_)
    | (show CW _ _ _ _ (Code.region _ _ true) _ _ _; first | refine W.dz 0 ?_ | refine W.dz 1 ?_ | refine W.dz 2 ?_ | refine W.dz 3 ?_ | refine W.dz 4 ?_ | refine W.dz 5 ?_ | refine W.dz 6 ?_ | refine W.dz 7 ?_ | refine W.dz 8 ?_ | refine W.dz 9 ?_ | refine W.dz 10 ?_ | refine W.dz 11 ?_ | refine W.dz 12 ?_ | refine W.dz 13 ?_ | refine W.dz 14 ?_ | refine W.dz 15 ?_)
    | (show CW _ _ _ _ _ _ _ _; first | refine W.kr ?_ | refine W.kn ?_ | refine W.ke ?_ | refine W.ct rfl ?_ | refine W.cf rfl ?_ | refine W.cd rfl (fun h => ?_) (fun h => ?_) | refine W.bl ?_ | refine W.sq ?_)
    | (show KO _ _ _ _; first | refine K.sn ?_ | refine K.sr ?_ | refine K.se ?_ | refine K.bn ?_ | refine K.br ?_ | refine K.be ?_ | refine K.bx rfl ?_ | refine K.lr ?_ | refine K.le ?_)
    | (show KO _ _ _ _; first | refine K.ya rfl ?_)
    | refine K.nx ?_
    | refine K.re ?_
    | refine K.dr ?_
  · have hlt' := of_lt (i := i) (l := l) ‹_›
    refine end_data rfl rfl (vB ?_)
    have h := of_decide_eq_true h
    rw [← h]
    simp
  · have hlt' := of_lt (i := i) (l := l) ‹_›
    refine K.ln (l.length - (i + 1)) (by omega) ⟨rfl, rfl, rfl, i + 1, ?_, hlt', rfl, ?_⟩
    · refine vI ?_
      show IntKind.i64.wrap ((i : Int) + 1) = _
      rw [IntKind.wrap_i64]; omega
    · intro i' hl' hi'
      by_cases hc : i' = i
      · subst hc
        exact of_decide_eq_false h
      · exact hall i' hl' (by omega)
  · refine end_data rfl rfl (vB ?_)
    have hge : l.length ≤ i := by
      have h := of_decide_eq_false h
      rw [List.length_map] at h
      omega
    have : v ∉ l := fun hm => by
      obtain ⟨i', hi', he⟩ := List.mem_iff_getElem.1 hm
      exact hall i' hi' (by omega) he
    simpa using this
theorem inL (H : ZT Z) (l : List Int) (v : Int) (hl : l.length < 1000000) (L : List Go.Pv.Obj) : SE Tryd.prog Z 20 [slV l, .int .i64 v] L (.bool (l.contains v)) L := by
  rw [slV_eq]; exact inL0 H l v _ _ hl L
theorem sh1 (H : ZT Z) (L : List Go.Pv.Obj) : SE Tryd.prog Z 11 [.int .i64 4, .int .i64 8] L (.tup [slV [5, 3, 7], .int .i64 0]) L := by
  have := path H 4 8 L
  rwa [show wayV gP 4 8 = ([5, 3, 7], 0) by decide +kernel] at this
theorem sh2 (H : ZT Z) (L : List Go.Pv.Obj) : SE Tryd.prog Z 13 [.int .i64 4, .int .i64 8] L (.tup [slV [6, 1, 11], .int .i64 0]) L := by
  have := copath H 4 8 L
  rwa [show wayV gC 4 8 = ([6, 1, 11], 0) by decide +kernel] at this
theorem sh3 (H : ZT Z) (L : List Go.Pv.Obj) : SE Tryd.prog Z 15 [.int .i64 0, .int .i64 3, .int .i64 8] L (.tup [.int .i64 3, .int .i64 0]) L := by
  have := common H 0 3 8 L
  rwa [show comV 0 3 8 = (3, 0) by decide +kernel] at this
theorem sh4 (H : ZT Z) (L : List Go.Pv.Obj) : SE Tryd.prog Z 25 [.int .i64 8] L (.tup [.int .i64 15, .int .i64 0]) L := by
  have := width H 8 L
  rwa [show widthV 8 = (15, 0) by decide +kernel] at this
theorem sh5 (H : ZT Z) (L : List Go.Pv.Obj) : SE Tryd.prog Z 17 [.int .i64 5] L (.tup [.int .i64 2, .int .i64 3]) L := by
  have := leaves H 5 L
  rwa [show leavesV 5 = (2, 3) by decide +kernel] at this
theorem sh6 (H : ZT Z) (L : List Go.Pv.Obj) : SE Tryd.prog Z 22 [.int .i64 7, .int .i64 8] L (.tup [.int .i64 0, .int .i64 11]) L := by
  have := parent H 7 8 L
  rwa [show parV 7 8 = (0, 11) by decide +kernel] at this
theorem sh7 (H : ZT Z) (L : List Go.Pv.Obj) : SE Tryd.prog Z 21 [.int .i64 7] L (.int .i64 3) L := by
  have := level H 7 L
  rwa [show ((lv 7 : Nat) : Int) = 3 by decide +kernel] at this
theorem sh8 (H : ZT Z) (l : List Int) (hl : l.length < 1000000) (n : Bool) (L : List Go.Pv.Obj) : SE Tryd.prog Z 19 [slV l, .sl n true (l.map (V.int .i64))] L (.bool true) L := by
  have := ints0 H l l l.isEmpty l.isEmpty n true hl L
  rw [← slV_eq] at this
  simpa using this
theorem shown (H : ZT Z) (L : List Go.Pv.Obj) : SE Tryd.prog Z 10 [] L (.bool true) L := by
  refine SE.data H.z Tryd.func10 rfl ?_
  repeat' first
    | (show XO _ _ _ (Oper.mk (some _) (Op.call _) _ _ _ none :: _) _ _ _; first | refine X.call (sh1 H _) ?_ | refine X.call (sh2 H _) ?_ | refine X.call (sh3 H _) ?_ | refine X.call (sh4 H _) ?_ | refine X.call (sh5 H _) ?_ | refine X.call (sh6 H _) ?_ | refine X.call (sh7 H _) ?_ | refine X.call (sh8 H [5, 3, 7] (by decide) _ _) ?_ | refine X.call (sh8 H [6, 1, 11] (by decide) _ _) ?_)
    | (show XO _ _ _ (Oper.mk (some _) _ _ _ _ none :: _) _ _ _; first | refine X.go rfl ?_ | refine X.shl rfl rfl (by first | omega | exact Int.natCast_nonneg _) ?_ | refine X.shr rfl rfl (by first | omega | exact Int.natCast_nonneg _) ?_)
    | (show XO _ _ _ (Oper.mk _ _ _ _ _ (some _) :: _) _ _ _; first | refine X.gy rfl rfl ?_ | refine X.gn rfl rfl rfl ?_ | refine X.gu rfl rfl ?_ | refine X.gs rfl rfl (fun h => ?_) (fun h => ?_))
    | (show XO _ _ _ (Oper.mk none _ _ _ _ none :: _) _ _ _; refine X.st rfl ?_)
    | (show XO _ _ _ [] _ _ _; refine X.nil ?_)
    | (show AO _ _ _ (Oper.mk (some _) (Op.call _) _ _ _ none :: _) _ _ _; first | refine A.call (sh1 H _) ?_ | refine A.call (sh2 H _) ?_ | refine A.call (sh3 H _) ?_ | refine A.call (sh4 H _) ?_ | refine A.call (sh5 H _) ?_ | refine A.call (sh6 H _) ?_ | refine A.call (sh7 H _) ?_ | refine A.call (sh8 H [5, 3, 7] (by decide) _ _) ?_ | refine A.call (sh8 H [6, 1, 11] (by decide) _ _) ?_)
    | (show AO _ _ _ (Oper.mk (some _) _ _ _ _ none :: _) _ _ _; first | refine A.go rfl ?_ | refine A.shl rfl rfl (by first | omega | exact Int.natCast_nonneg _) ?_ | refine A.shr rfl rfl (by first | omega | exact Int.natCast_nonneg _) ?_)
    | (show AO _ _ _ (Oper.mk _ _ _ _ _ (some _) :: _) _ _ _; first | refine A.gy rfl rfl ?_ | refine A.gn rfl rfl rfl ?_ | refine A.gu rfl rfl ?_ | refine A.gs rfl rfl (fun h => ?_) (fun h => ?_))
    | (show AO _ _ _ [] _ _ _; refine A.nil ?_)
    | (show CW _ _ _ _ (Code.seq (Code.region _ _ false) _) _ _ _; refine W.rq ?_)
    | (show CW _ _ _ _ (Code.region _ _ false) _ _ _; refine W.rz ?_)
    | (show CW _ _ _ _ (Code.seq (Code.region _ _ true) _) _ _ _; first | refine W.dq 0 ?_ | refine W.dq 1 ?_ | refine W.dq 2 ?_ | refine W.dq 3 ?_ | refine W.dq 4 ?_ | refine W.dq 5 ?_ | refine W.dq 6 ?_ | refine W.dq 7 ?_ | refine W.dq 8 ?_ | refine W.dq 9 ?_ | refine W.dq 10 ?_ | refine W.dq 11 ?_ | refine W.dq 12 ?_ | refine W.dq 13 ?_ | refine W.dq 14 ?_ | refine W.dq 15 ?_)
    | (show CW _ _ _ _ (Code.region _ _ true) _ _ _; first | refine W.dz 0 ?_ | refine W.dz 1 ?_ | refine W.dz 2 ?_ | refine W.dz 3 ?_ | refine W.dz 4 ?_ | refine W.dz 5 ?_ | refine W.dz 6 ?_ | refine W.dz 7 ?_ | refine W.dz 8 ?_ | refine W.dz 9 ?_ | refine W.dz 10 ?_ | refine W.dz 11 ?_ | refine W.dz 12 ?_ | refine W.dz 13 ?_ | refine W.dz 14 ?_ | refine W.dz 15 ?_)
    | (show CW _ _ _ _ _ _ _ _; first | refine W.kr ?_ | refine W.kn ?_ | refine W.ke ?_ | refine W.ct rfl ?_ | refine W.cf rfl ?_ | refine W.cd rfl (fun h => ?_) (fun h => ?_) | refine W.bl ?_ | refine W.sq ?_)
    | (show KO _ _ _ _; first | refine K.sn ?_ | refine K.sr ?_ | refine K.se ?_ | refine K.bn ?_ | refine K.br ?_ | refine K.be ?_ | refine K.bx rfl ?_ | refine K.lr ?_ | refine K.le ?_)
    | (show KO _ _ _ _; first | refine K.ya rfl ?_)
    | refine K.nx ?_
    | refine K.re ?_
    | refine K.dr ?_
  exact end_data rfl rfl rfl
end Go.Proofs.Mth
