import Derived.Test.YtfjkplemepcmeaaPv2
import Derived.Laws.Strings
set_option linter.unusedVariables false
set_option linter.unusedSectionVars false
/- 'pop' is right: operations that leave the objects alone. -/
set_option linter.unusedSimpArgs false
namespace Go.Pv
variable {P : Program} {G : Gh} {L : List Obj} {w : World}

theorem run_und {t : TypeId} {d : TypeDesc} (h : P.underlying t = some d) : (underlying t).run P w = .ok d w := by
  simp [underlying, h]
theorem run_info {t : TypeId} {i : TypeInfo} (h : P.info? t = some i) : (typeInfo t).run P w = .ok i w := by
  simp [typeInfo, h]
theorem szT_info {t : TypeId} {n : Nat} (h : szT P t = some n) : ∃ i, P.info? t = some i ∧ i.size = n := by
  simpa [szT] using h
theorem run_sizeOf {t : TypeId} {n : Nat} (h : szT P t = some n) : (sizeOf t).run P w = .ok n w := by
  obtain ⟨i, hi, rfl⟩ := szT_info h
  simp [sizeOf, run_info hi]
theorem run_isAgg {t : TypeId} {b : Bool} (h : aggT P t = some b) : (isAgg t).run P w = .ok b w := by
  unfold aggT at h
  cases hu : P.underlying t with
  | none => simp [hu] at h
  | some d =>
    simp [hu] at h
    subst h
    simp only [isAgg, bind_pure_comp, Sem.run_bind, run_und hu, Result.andThen_ok]
    cases d <;> rfl
theorem zeroV_info {t : TypeId} {v : V} (h : zeroV P t = some v) : ∃ i z, P.info? t = some i ∧ i.zero = some z ∧ V.ofVal z = some v := by
  unfold zeroV at h
  cases hi : P.info? t with
  | none => simp [hi] at h
  | some i =>
    simp [hi] at h
    cases hz : i.zero with
    | none => simp [hz] at h
    | some z => exact ⟨i, z, rfl, hz, by simpa [hz] using h⟩
theorem run_zeroValue {t : TypeId} {i : TypeInfo} {z : Value} (h : P.info? t = some i) (hz : i.zero = some z) : (zeroValue t).run P w = .ok z w := by
  simp [zeroValue, run_info h, hz]

theorem ofVal1_VR {v : Value} {x : V} (h : V.ofVal1 v = some x) : VR G x v := by
  unfold V.ofVal1 at h
  split at h <;> simp at h <;> subst h <;> constructor
theorem ofVals_VR : ∀ {vs : List Value} {xs : List V}, V.ofVals vs = some xs → vs.length = xs.length ∧ ∀ p (h : p < xs.length), VR G xs[p] (vs.getD p undef)
  | [], xs, h => by simp [V.ofVals] at h; subst h; exact ⟨rfl, fun p hp => absurd hp (Nat.not_lt_zero p)⟩
  | v :: vs, xs, h => by
    simp only [V.ofVals] at h
    split at h
    · rename_i x xs' h1 h2
      simp at h; subst h
      obtain ⟨hl, hv⟩ := ofVals_VR h2
      refine ⟨by simp [hl], fun p hp => ?_⟩
      cases p with
      | zero => simpa using ofVal1_VR h1
      | succ p => simpa using hv p (by simpa using hp)
    · simp at h
theorem ofVal_VR {v : Value} {x : V} (h : V.ofVal v = some x) : VR G x v := by
  unfold V.ofVal at h
  split at h
  · rename_i cs
    simp at h
    obtain ⟨xs, hx, rfl⟩ := h
    obtain ⟨hl, hv⟩ := ofVals_VR (G := G) hx
    exact .agg (by simpa using hl) (fun p hp => by have := hv p hp; simpa [Array.getD_eq_getD_getElem?, List.getD_eq_getElem?_getD] using this)
  · rename_i cs
    simp at h
    obtain ⟨xs, hx, rfl⟩ := h
    obtain ⟨hl, hv⟩ := ofVals_VR (G := G) hx
    exact .tup (by simpa using hl) (fun p hp => by have := hv p hp; simpa [Array.getD_eq_getD_getElem?, List.getD_eq_getElem?_getD] using this)
  · exact ofVal1_VR h

/-- The cells of a value. -/
theorem VR.cells {v : V} {r : Value} (h : VR G v r) : r.cells.size = v.cells.length ∧ ∀ p (hp : p < v.cells.length), VR G v.cells[p] (r.cells.getD p undef) := by
  cases h with
  | agg hn hv => exact ⟨hn, hv⟩
  | top r h =>
    have hr : r.cells = #[r] := by cases r <;> first | rfl | (simp [tame] at h)
    refine ⟨by rw [hr]; rfl, fun p hp => ?_⟩
    obtain rfl : p = 0 := by simp [V.cells] at hp; omega
    simp only [V.cells, List.getElem_cons_zero, hr]
    exact .top _ h
  | _ =>
    refine ⟨rfl, fun p hp => ?_⟩
    obtain rfl : p = 0 := by simp [V.cells] at hp; omega
    simp only [V.cells, Value.cells, List.getElem_cons_zero]
    first
      | exact .bool _ | exact .int _ _ | exact .str _ | exact .nilp | exact .ref ‹_› | exact .eref ‹_› | exact .erefx ‹_›
      | exact .cref _ ‹_› ‹_› | exact .slnil | exact .sl0 ‹_› | exact .sl _ _ ‹_› ‹_› ‹_› ‹_› ‹_› ‹_› | exact .own ‹_› ‹_› ‹_›
      | exact .bsl ‹_› ‹_› ‹_› | exact .tup ‹_› ‹_› | exact .fn ‹_› ‹_› | exact .nilf | exact .yl ‹_› | exact .map ‹_› | exact .nilmap

theorem VR.one {v : V} {r : Value} (h : VR G v r) (ho : v.one = true) : r.oneCell' = true := by
  cases h <;> first | rfl | (simp [V.one] at ho; done) | (rename_i h; cases r <;> first | rfl | (simp [tame] at h))

/-! ### numbers -/
theorem pint_sound {op : BinOp} {k : IntKind} {x y : Int} {v : V} (h : pint op k x y = some v) :
    ∃ r, (match op with
      | .add | .sub | .mul => Op.intArith op k x y
      | .quo | .rem => Op.intDiv op k x y
      | .and | .or | .xor | .andNot => Op.intBits op k x y
      | _ => Op.intCmp op x y : Sem Value).run P w = .ok r w ∧ VR G v r := by
  cases op <;> simp only [pint] at h <;>
    first
    | (simp only [reduceCtorEq] at h; done)
    | (simp only [Option.some.injEq] at h; subst h; exact ⟨_, rfl, .int _ _⟩)
    | (split at h
       · simp at h
       · rename_i hy
         simp only [Option.some.injEq] at h; subst h
         refine ⟨_, ?_, .int _ _⟩
         simp [Op.intDiv, hy])
    | (simp only [Option.some.injEq] at h; subst h
       exact ⟨.bool _, rfl, .bool _⟩)

theorem pstr_sound {op : BinOp} {x y : ByteArray} {v : V} (h : pstr op x y = some v) : ∃ r, (Op.stringOp op x y).run P w = .ok r w ∧ VR G v r := by
  have he : (x.toList == y.toList) = decide (x = y) := by
    rw [Bool.eq_iff_iff]
    simp only [beq_iff_eq, decide_eq_true_eq]
    constructor
    · intro hh
      rw [ByteArray.toList_eq, ByteArray.toList_eq] at hh
      cases x; cases y
      simp at hh
      subst hh
      rfl
    · rintro rfl; rfl
  cases op <;> simp only [pstr] at h <;> first
    | (simp only [reduceCtorEq] at h; done)
    | (split at h
       · rename_i hs
         simp only [Option.some.injEq] at h; subst h
         refine ⟨.string _, ?_, .str _⟩
         have h2 : IntKind.i64.max = 9223372036854775807 := by decide
         have h3 : ¬ (((x.size + y.size : Nat) : Int) > IntKind.i64.max) := by omega
         simp only [Op.stringOp, h3, if_false]; rfl
       · simp at h)
    | (simp only [Option.some.injEq] at h; subst h
       exact ⟨.bool _, by simp only [Op.stringOp, he]; rfl, .bool _⟩)

theorem pshift_sound {op : BinOp} {k yk : IntKind} {x y : Int} {v : V} (h : pshift op k x y = some v) : ∃ r, (Op.shift op k x yk y).run P w = .ok r w ∧ VR G v r := by
  unfold pshift at h
  split at h
  · simp at h
  · rename_i hy
    cases op <;> simp only [reduceCtorEq] at h <;> (simp only [Option.some.injEq] at h; subst h; exact ⟨_, by simp only [Op.shift, hy, if_false]; rfl, .int _ _⟩)

theorem peq_sound {t : TypeId} {x y : V} {b : Bool} {r s : Value} (h : peq P t x y = some b) (hx : VR G x r) (hy : VR G y s) :
    (Op.equal t r s).run P w = .ok b w ∧ ¬ (∃ a b, r = .agg a ∧ s = .agg b) ∧ ¬ (r = .nilIface ∧ s = .nilIface) ∧ (∀ k n, r ≠ .int k n) ∧ (∀ k n, s ≠ .int k n) ∧
      (∀ z, r ≠ .string z) ∧ (∀ k n, r ≠ .float k n) ∧ (∀ k n m, r ≠ .complex k n m) := by
  unfold peq at h
  split at h <;> first
    | (simp at h; done)
    | (rename_i hu
       simp only [Option.some.injEq] at h; subst h
       cases hx <;> cases hy <;> first
        | (refine ⟨?_, by simp, by simp, by simp, by simp, by simp, by simp, by simp⟩
           simp only [Op.equal, Op.maxDepth]; unfold Op.equalIn; simp only [Sem.run_bind, run_und hu, Result.andThen_ok]; rfl))

theorem run_eqGuard {op : BinOp} {t : TypeId} {x y : Operand} {a b : Value} (h : ¬ (∃ u v, a = .agg u ∧ b = .agg v)) (h' : ¬ (a = .nilIface ∧ b = .nilIface)) :
    (eqGuard op t x y a b).run P w = .ok () w := by
  unfold eqGuard
  cases op <;> simp <;> (split <;> first | rfl | (simp_all; done))

theorem VR.not_iface {v : V} {r : Value} (h : VR G v r) : r ≠ .nilIface ∧ (∀ k n, r ≠ .float k n) ∧ (∀ k n m, r ≠ .complex k n m) := by
  cases h <;> first | (simp; done) | (rename_i h; cases r <;> simp_all [tame])

theorem pbin_sound {op : BinOp} {t : TypeId} {x y : V} {a b : Operand} {r s : Value} {v : V} (h : pbin P op t x y = some v) (hx : VR G x r) (hy : VR G y s) :
    ∃ q, (do eqGuard op t a b r s; binOp op t r s : Sem Value).run P w = .ok q w ∧ VR G v q := by
  unfold pbin at h
  split at h
  · cases hx; cases hy
    rename_i k i yk j
    obtain ⟨q, h1, h2⟩ := pshift_sound (P := P) (G := G) (w := w) (yk := yk) h
    refine ⟨q, ?_, h2⟩
    have hg : (eqGuard .shl t a b (.int k i) (.int yk j)).run P w = .ok () w := run_eqGuard (by simp) (by simp)
    simp only [Sem.run_bind, hg, Result.andThen_ok]
    exact h1
  · cases hx; cases hy
    rename_i k i yk j
    obtain ⟨q, h1, h2⟩ := pshift_sound (P := P) (G := G) (w := w) (yk := yk) h
    refine ⟨q, ?_, h2⟩
    have hg : (eqGuard .shr t a b (.int k i) (.int yk j)).run P w = .ok () w := run_eqGuard (by simp) (by simp)
    simp only [Sem.run_bind, hg, Result.andThen_ok]
    exact h1
  · rename_i k i k' j hs1 hs2
    cases hx; cases hy
    split at h
    · rename_i hk
      subst hk
      obtain ⟨q, h1, h2⟩ := pint_sound (P := P) (G := G) (w := w) h
      refine ⟨q, ?_, h2⟩
      have hg : (eqGuard op t a b (.int k i) (.int k j)).run P w = .ok () w := run_eqGuard (by simp) (by simp)
      simp only [Sem.run_bind, hg, Result.andThen_ok]
      cases op <;> first
        | (exact (hs1 rfl).elim) | (exact (hs2 rfl).elim)
        | (simp only [pint, reduceCtorEq] at h; done)
        | (simp only [binOp, ne_eq, not_true_eq_false, if_false]; exact h1)
    · simp at h
  · cases hx; cases hy
    rename_i i j
    obtain ⟨q, h1, h2⟩ := pstr_sound (P := P) (G := G) (w := w) h
    refine ⟨q, ?_, h2⟩
    have hg : (eqGuard op t a b (.string i) (.string j)).run P w = .ok () w := run_eqGuard (by simp) (by simp)
    simp only [Sem.run_bind, hg, Result.andThen_ok]
    cases op <;> exact h1
  · rename_i hn1 hn2
    simp only [Option.map_eq_some_iff] at h
    obtain ⟨c, hc, rfl⟩ := h
    obtain ⟨h1, h2, h3, h4, h5, h6, h7, h8⟩ := peq_sound (w := w) hc hx hy
    refine ⟨.bool c, ?_, .bool _⟩
    simp only [Sem.run_bind, run_eqGuard (P := P) (w := w) (op := .eql) (t := t) (x := a) (y := b) h2 h3, Result.andThen_ok]
    unfold binOp
    split <;> first
      | contradiction
      | (exact absurd rfl (h4 _ _)) | (exact absurd rfl (h6 _)) | (exact absurd rfl (h7 _ _)) | (exact absurd rfl (h8 _ _ _))
      | (simp [h1]; done)
      | (simp_all; done)
  · rename_i hn1 hn2
    simp only [Option.map_eq_some_iff] at h
    obtain ⟨c, hc, rfl⟩ := h
    obtain ⟨h1, h2, h3, h4, h5, h6, h7, h8⟩ := peq_sound (w := w) hc hx hy
    refine ⟨.bool (!c), ?_, .bool _⟩
    simp only [Sem.run_bind, run_eqGuard (P := P) (w := w) (op := .neq) (t := t) (x := a) (y := b) h2 h3, Result.andThen_ok]
    unfold binOp
    split <;> first
      | contradiction
      | (exact absurd rfl (h4 _ _)) | (exact absurd rfl (h6 _)) | (exact absurd rfl (h7 _ _)) | (exact absurd rfl (h8 _ _ _))
      | (simp [h1]; done)
      | (simp_all; done)
  · simp at h

/-- Is a slice nil, of which that is not told? -/
theorem nil_equal {t e : TypeId} {ex : Bool} {xs : List V} {r s : Value} (hu : P.underlying t = some (.slice e)) (hx : VR G (.sl false ex xs) r) (hy : VR G (.sl true true []) s) :
    ∃ b : Bool, (b = true → xs = []) ∧ (Op.equal t r s).run P w = .ok b w ∧ (∃ A n c, r = .slice A n c) ∧ s = .slice none 0 0 := by
  cases hy with
  | slnil =>
    cases hx with
    | sl0 hc =>
      rename_i A c
      refine ⟨A.isNone, fun _ => rfl, ?_, ⟨_, _, _, rfl⟩, rfl⟩
      simp only [Op.equal, Op.maxDepth]; unfold Op.equalIn; simp only [Sem.run_bind, run_und hu, Result.andThen_ok]
      cases A <;> rfl
    | sl sz vs hne hx hc hsz hk hv =>
      refine ⟨false, by simp, ?_, ⟨_, _, _, rfl⟩, rfl⟩
      simp only [Op.equal, Op.maxDepth]; unfold Op.equalIn; simp only [Sem.run_bind, run_und hu, Result.andThen_ok]
      rfl
theorem nil_eql_sound {t e : TypeId} {ex : Bool} {xs : List V} {r s : Value} {a b : Operand} (hu : P.underlying t = some (.slice e)) (hx : VR G (.sl false ex xs) r) (hy : VR G (.sl true true []) s) :
    ∃ c : Bool, (c = true → xs = []) ∧ (do eqGuard .eql t a b r s; binOp .eql t r s : Sem Value).run P w = .ok (.bool c) w := by
  obtain ⟨c, h1, h2, ⟨A, n, k, rfl⟩, rfl⟩ := nil_equal (w := w) hu hx hy
  refine ⟨c, h1, ?_⟩
  simp only [Sem.run_bind, run_eqGuard (P := P) (w := w) (op := .eql) (t := t) (x := a) (y := b) (a := .slice A n k) (b := .slice none 0 0) (by simp) (by simp), Result.andThen_ok]
  unfold binOp
  simp [h2]
theorem nil_neq_sound {t e : TypeId} {ex : Bool} {xs : List V} {r s : Value} {a b : Operand} (hu : P.underlying t = some (.slice e)) (hx : VR G (.sl false ex xs) r) (hy : VR G (.sl true true []) s) :
    ∃ c : Bool, (c = true → xs = []) ∧ (do eqGuard .neq t a b r s; binOp .neq t r s : Sem Value).run P w = .ok (.bool !c) w := by
  obtain ⟨c, h1, h2, ⟨A, n, k, rfl⟩, rfl⟩ := nil_equal (w := w) hu hx hy
  refine ⟨c, h1, ?_⟩
  simp only [Sem.run_bind, run_eqGuard (P := P) (w := w) (op := .neq) (t := t) (x := a) (y := b) (a := .slice A n k) (b := .slice none 0 0) (by simp) (by simp), Result.andThen_ok]
  unfold binOp
  simp [h2]
theorem pun_sound {op : UnOp} {x v : V} {r : Value} (h : pun op x = some v) (hx : VR G x r) : ∃ q, (Op.unary op r).run P w = .ok q w ∧ VR G v q := by
  unfold pun at h
  split at h <;> first
    | (simp at h; done)
    | (simp only [Option.some.injEq] at h; subst h; cases hx; exact ⟨_, rfl, by constructor⟩)
end Go.Pv
