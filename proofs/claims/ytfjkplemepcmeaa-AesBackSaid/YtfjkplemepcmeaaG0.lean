import Derived.Test.YtfjkplemepcmeaaPv7
set_option linter.unusedVariables false
set_option linter.unusedSimpArgs false
set_option linter.unusedSectionVars false
section
/- 'pop' is right: maps of whole numbers. -/
set_option linter.unusedSimpArgs false
namespace Go.Pv
variable {P : Program} {Z : Nat → Go.Obj → Prop} {G : Gh} {L : List Obj} {w : World}
theorem checkKey_int {e : Bool} {t : TypeId} {kk k : IntKind} {n : Int} (h : P.underlying t = some (.int kk)) : (Instr.checkKey e 10000 t (.int k n)).run P w = .ok () w := by
  have : ∀ m, (Instr.checkKey e (m + 1) t (.int k n)).run P w = .ok () w := fun m => by simp [Instr.checkKey, run_und h]
  exact this 9999
/-- The rows of a map stand for those of memory. -/
def RM (G : Gh) (es : List (V × V)) (ents : Array MapEntry) : Prop := ents.size = es.length ∧ ∀ p (h : p < es.length), VR G es[p].1 ((ents.getD p default).key) ∧ VR G es[p].2 ((ents.getD p default).val)
theorem find_sound {kk k : IntKind} {n : Int} : ∀ {es : List (V × V)} {ents : List MapEntry} {i : Nat} {r : Option (Nat × V)}, ents.length = es.length → (∀ p (h : p < es.length), VR G es[p].1 ((ents.getD p default).key) ∧ VR G es[p].2 ((ents.getD p default).val)) →
    mfind k n es i = some r → (r = none ∧ Instr.findNow (.int kk) (.int k n) ents i = some none) ∨ ∃ j v u, r = some (i + j, v) ∧ Instr.findNow (.int kk) (.int k n) ents i = some (some (i + j, u)) ∧ VR G v u ∧ j < es.length ∧ (ents.getD j default).key = .int k n
  | [], ents, i, r, hl, _, h => by
    have : ents = [] := List.length_eq_zero_iff.1 hl
    subst this
    simp [mfind] at h
    exact .inl ⟨h.symm, rfl⟩
  | (key, v) :: es, ents, i, r, hl, hv, h => by
    cases ents with
    | nil => simp at hl
    | cons e ents =>
      have h0 := hv 0 (by simp)
      simp at h0
      unfold mfind at h
      split at h
      · rename_i k' a
        have hk : e.key = .int k' a := by
          have := h0.1
          generalize e.key = q at this
          cases this; rfl
        split at h
        · rename_i hkk
          subst hkk
          split at h
          · rename_i hn
            have hn : n = a := by simpa using hn
            subst hn
            obtain rfl := (Option.some.inj h)
            refine .inr ⟨0, v, e.val, rfl, ?_, h0.2, by simp, by simpa using hk⟩
            simp [Instr.findNow, hk, Instr.sameNow]
          · rename_i hn
            have hn : (n == a) = false := by simpa using hn
            rcases find_sound (kk := kk) (by simpa using hl) (fun p hp => by have := hv (p + 1) (by simpa using hp); simp only [List.getElem_cons_succ, List.getD_cons_succ] at this; exact this) h with ⟨h1, h2⟩ | ⟨j, v', u, h1, h2, h3, h4, h5⟩
            · refine .inl ⟨h1, ?_⟩
              simp [Instr.findNow, hk, Instr.sameNow, hn, h2]
            · refine .inr ⟨j + 1, v', u, by rw [h1]; congr 2; omega, ?_, h3, by simpa using h4, by simpa using h5⟩
              simp only [Instr.findNow, hk, Instr.sameNow, hn, if_true]
              rw [h2]; congr 3; omega
        · simp at h
      · simp at h
theorem findKey_sound {key : TypeId} {kk k : IntKind} {n : Int} {es : List (V × V)} {ents : Array MapEntry} {r : Option (Nat × V)} (hu : P.underlying key = some (.int kk)) (hm : RM G es ents) (h : mfind k n es 0 = some r) :
    (r = none ∧ (Instr.findKey key (.int k n) ents.toList).run P w = .ok none w) ∨ ∃ j v u, r = some (j, v) ∧ (Instr.findKey key (.int k n) ents.toList).run P w = .ok (some (j, u)) w ∧ VR G v u ∧ j < es.length ∧ (ents.getD j default).key = .int k n := by
  have hget : ∀ p, ents.toList.getD p default = ents.getD p default := fun p => by simp [Array.getD_eq_getD_getElem?, List.getD_eq_getElem?_getD]
  rcases find_sound (G := G) (kk := kk) (ents := ents.toList) (by simpa using hm.1) (fun p hp => by rw [hget]; exact hm.2 p hp) h with ⟨h1, h2⟩ | ⟨j, v, u, h1, h2, h3, h4, h5⟩
  · exact .inl ⟨h1, by simp [Instr.findKey, run_und hu, h2]⟩
  · rw [hget] at h5
    exact .inr ⟨j, v, u, by simpa using h1, by simp [Instr.findKey, run_und hu, h2], h3, h4, h5⟩
theorem mrows_sound (hr : Rel Z G L w) {x : V} {r : Value} {es : List (V × V)} (hx : VR G x r) (h : mrows L x = some es) : (r = .map none ∧ es = []) ∨ ∃ b ents clock, r = .map (some b) ∧ w.heap[b]? = some (.map ents clock) ∧ RM G es ents := by
  unfold mrows at h
  split at h
  · obtain rfl := Option.some.inj h
    cases hx; exact .inl ⟨rfl, rfl⟩
  · rename_i id
    split at h
    · rename_i es' hL
      obtain rfl := Option.some.inj h
      obtain ⟨b, ents, clock, hrb, hh, hs, hv⟩ := hr.ok id _ hL
      cases hx with
      | map hid =>
        have := hr.fn _ _ _ _ hid hrb; simp only [Loc.obj.injEq] at this; subst this
        exact .inr ⟨_, ents, clock, rfl, hh, hs, hv⟩
    · simp at h
  · simp at h
theorem lookup_sound (hr : Rel Z G L w) {t : TypeId} {x i v : V} {ok : Bool} {r s : Value} (hx : VR G x r) (hi : VR G i s) (h : plookup P L t x i ok = some v) : ∃ q, (Instr.lookup t r s ok).run P w = .ok q w ∧ VR G v q := by
  unfold plookup at h
  split at h
  · rename_i key elem k n hu
    split at h
    · rename_i kk es z hk hm hz
      cases hi
      obtain ⟨inf, zr, hz1, hz2, hz3⟩ := zeroV_info hz
      have hz3 := ofVal_VR (G := G) hz3
      have hrz := run_zeroValue (P := P) (w := w) hz1 hz2
      -- what the rows say
      have core : ∀ ents : Array MapEntry, RM G es ents → (∀ (g : Sem (Array MapEntry)), True) →
          ∃ q, ((do
            Instr.checkKey ents.isEmpty 10000 key (.int k n)
            let (v, o) ← match ← Instr.findKey key (.int k n) ents.toList with
              | some (_, v) => pure (v, true)
              | none => pure (← zeroValue elem, false)
            pure (if ok then .tuple #[v, .bool o] else v)) : Sem Value).run P w = .ok q w ∧ VR G v q := by
        intro ents hrm _
        have tup2 : ∀ {a : V} {b : Value} (c : Bool), VR G a b → VR G (.tup [a, .bool c]) (.tuple #[b, .bool c]) := fun c hab => .tup rfl fun p hp => by
          match p, hp with
          | 0, _ => exact hab
          | 1, _ => exact .bool c
        split at h
        · rename_i j v' hf
          obtain rfl := Option.some.inj h
          rcases findKey_sound (w := w) hk hrm hf with ⟨h1, _⟩ | ⟨j', v'', u, h1, h2, h3, _⟩
          · simp at h1
          · simp only [Option.some.injEq, Prod.mk.injEq] at h1
            obtain ⟨rfl, rfl⟩ := h1
            refine ⟨if ok then .tuple #[u, .bool true] else u, ?_, ?_⟩
            · simp [checkKey_int hk, h2]
            · cases ok
              · exact h3
              · exact tup2 true h3
        · rename_i hf
          obtain rfl := Option.some.inj h
          rcases findKey_sound (w := w) hk hrm hf with ⟨_, h2⟩ | ⟨j', v'', u, h1, _⟩
          · refine ⟨if ok then .tuple #[zr, .bool false] else zr, ?_, ?_⟩
            · simp [checkKey_int hk, h2, hrz]
            · cases ok
              · exact hz3
              · exact tup2 false hz3
          · simp at h1
        · simp at h
      rcases mrows_sound hr hx hm with ⟨rfl, rfl⟩ | ⟨b, ents, clock, rfl, hh, hrm⟩
      · obtain ⟨q, h1, h2⟩ := core #[] ⟨rfl, fun p hp => absurd hp (Nat.not_lt_zero p)⟩ (fun _ => trivial)
        refine ⟨q, ?_, h2⟩
        rw [← h1]
        simp [Instr.lookup, run_und hu]
        rfl
      · obtain ⟨q, h1, h2⟩ := core ents hrm (fun _ => trivial)
        refine ⟨q, ?_, h2⟩
        have hg : (getObj b).run P w = .ok (.map ents clock) w := by simp [getObj, Sem.run, hh]
        rw [← h1]
        simp [Instr.lookup, run_und hu, hg]
        rfl
    · simp at h
  · simp at h
theorem makeMap_sound (hr : Rel Z G L w) {t : TypeId} : ∃ q w', (Instr.makeMap t none).run P w = .ok q w' ∧ Done Z G L w (.map L.length) (L ++ [.map []]) q w' := by
  have := hr.pushObj (o := .map #[] 0) (ob := .map []) (l := .obj w.heap.size) (.inl rfl) ⟨w.heap.size, #[], 0, Gh.addR_self _ _ _ _, by simp, rfl, fun p hp => absurd hp (Nat.not_lt_zero p)⟩
  refine ⟨_, _, ?_, _, this.1, this.2, .map (Gh.addR_self _ _ _ _)⟩
  simp [Instr.makeMap, newObj, Sem.run]
theorem mapUpdate_sound (hr : Rel Z G L w) {t : TypeId} {m i x : V} {rm ri rx : Value} {L' : List Obj} (hm : VR G m rm) (hi : VR G i ri) (hx : VR G x rx) (h : pmapUpdate P L t m i x = some L') :
    ∃ w', (Instr.mapUpdate t rm ri rx).run P w = .ok () w' ∧ Rel Z G L' w' ∧ Evo G L w G L' w' := by
  unfold pmapUpdate at h
  split at h
  · rename_i key elem id k n hu
    split at h
    · rename_i kk es hk hL
      cases hi
      obtain ⟨b, ents, clock, hrb, hh, hs, hv⟩ := hr.ok id _ hL
      have hrm : RM G es ents := ⟨hs, hv⟩
      cases hm with
      | map hid =>
        have := hr.fn _ _ _ _ hid hrb; simp only [Loc.obj.injEq] at this; subst this
        rename_i b
        have hg : (getObj b).run P w = .ok (.map ents clock) w := by simp [getObj, Sem.run, hh]
        have hset : ∀ o, (setObj b o).run P w = .ok () { w with heap := w.heap.setIfInBounds b o } := fun o => by simp [setObj, Sem.run, hh]
        have hblt := (Array.getElem?_eq_some_iff.1 hh).1
        -- the block turns
        have turn : ∀ (es' : List (V × V)) (ents' : Array MapEntry) (clock' : Nat), RM G es' ents' →
            Rel Z G (L.set id (.map es')) { w with heap := w.heap.setIfInBounds b (.map ents' clock') } ∧ Evo G L w G (L.set id (.map es')) { w with heap := w.heap.setIfInBounds b (.map ents' clock') } := by
          intro es' ents' clock' hrm'
          refine hr.change hL (.inl hid) (.refl G) (by simp) (fun B hB => ?_) ?_ (fun B hB => hr.at_fn (ob := .map es') hB (.inl hid)) (fun _ _ _ h => .inl h) hr.fn (by simp) (fun o v hk => ?_) (fun _ _ _ _ h => h)
          · show (w.heap.setIfInBounds b _)[B]? = _
            rw [Array.getElem?_setIfInBounds_ne (Ne.symm hB)]
          · refine ⟨b, ents', clock', hid, ?_, hrm'.1, hrm'.2⟩
            show (w.heap.setIfInBounds b _)[b]? = _
            rw [Array.getElem?_setIfInBounds_self_of_lt hblt]
          · obtain ⟨_, _, _, he, _⟩ := hr.kw b o v id _ hk hL (.inl hid)
            simp at he
        split at h
        · rename_i j v' hf
          obtain rfl := Option.some.inj h
          rcases findKey_sound (w := w) hk hrm hf with ⟨h1, _⟩ | ⟨j', v'', u, h1, h2, h3, h4, h5⟩
          · simp at h1
          · simp only [Option.some.injEq, Prod.mk.injEq] at h1
            obtain ⟨rfl, rfl⟩ := h1
            have hjs : j < ents.size := by rw [hs]; exact h4
            have hold : ((ents[j]?).map (·.key)).getD (Value.int k n) = .int k n := by
              have : ents.getD j default = ents[j] := by simp [Array.getD_eq_getD_getElem?, hjs]
              rw [this] at h5
              simp [hjs, h5]
            have hkeep : ∀ w, (Instr.keyThatStays (.int k n) (.int k n)).run P w = .ok (.int k n) w := fun w => by
              have : Instr.sameBits 10000 (.int k n) (.int k n) = true := by simp [Instr.sameBits]
              simp [Instr.keyThatStays, this]
            have hrm' : RM G (es.set j (.int k n, x)) (ents.modify j fun e => { e with key := .int k n, val := rx }) := by
              refine ⟨by simp [hs], fun p hp => ?_⟩
              have hp' : p < es.length := by simpa using hp
              have hps : p < ents.size := by omega
              by_cases hpj : j = p
              · subst hpj
                simp [Array.getD_eq_getD_getElem?, hps, Array.getElem_modify]
                exact ⟨.int k n, hx⟩
              · have := hv p hp'
                simpa [Array.getD_eq_getD_getElem?, hps, Array.getElem_modify, hpj, List.getElem_set_ne hpj] using this
            refine ⟨_, ?_, turn _ _ clock hrm'⟩
            simp only [Instr.mapUpdate, Sem.run_bind, run_und hu, Result.andThen_ok, hg, checkKey_int hk, h2, hold, hkeep, hset]
        · rename_i hf
          obtain rfl := Option.some.inj h
          rcases findKey_sound (w := w) hk hrm hf with ⟨_, h2⟩ | ⟨j', v'', u, h1, _⟩
          · have hrm' : RM G (es ++ [(.int k n, x)]) (ents.push { key := .int k n, val := rx, born := clock }) := by
              refine ⟨by simp [hs], fun p hp => ?_⟩
              by_cases hpl : p < es.length
              · have := hv p hpl
                have hps : p < ents.size := by omega
                simpa [Array.getD_eq_getD_getElem?, hps, Array.getElem_push, List.getElem_append_left hpl, Nat.lt_succ_of_lt hps] using this
              · have : p = es.length := by simp at hp; omega
                subst this
                simp [Array.getD_eq_getD_getElem?, ← hs]
                exact ⟨.int k n, hx⟩
            refine ⟨_, ?_, turn _ _ (clock + 1) hrm'⟩
            simp only [Instr.mapUpdate, Sem.run_bind, run_und hu, Result.andThen_ok, hg, checkKey_int hk, h2, hset]
          · simp at h1
        · simp at h
    · simp at h
  · simp at h
end Go.Pv
end
