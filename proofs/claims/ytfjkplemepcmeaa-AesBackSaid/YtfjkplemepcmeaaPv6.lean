import Derived.Test.YtfjkplemepcmeaaPv5
set_option linter.unusedVariables false
set_option linter.unusedSectionVars false
/- 'pop' is right: composites; stores; new objects. -/
set_option linter.unusedSimpArgs false
namespace Go.Pv
variable {P : Program} {Z : Nat → Go.Obj → Prop} {G : Gh} {L : List Obj} {w : World}

/-- Values and real ones, place by place. -/
def RL (G : Gh) (cs : List V) (c : Array Value) : Prop := c.size = cs.length ∧ ∀ p (h : p < cs.length), VR G cs[p] (c.getD p undef)

theorem RL.mono {G' : Gh} {cs : List V} {c : Array Value} (hle : G.le G') (h : RL G cs c) : RL G' cs c := ⟨h.1, fun p hp => (h.2 p hp).mono hle⟩
theorem VR.rl {v : V} {r : Value} (h : VR G v r) : RL G v.cells r.cells := h.cells

def updC (c : Array Value) (off : Nat) : List Value → Array Value
  | [] => c
  | v :: vs => updC (c.setIfInBounds off v) (off + 1) vs

theorem updC_size : ∀ (vs : List Value) (c : Array Value) (off : Nat), (updC c off vs).size = c.size
  | [], _, _ => rfl
  | v :: vs, c, off => by rw [updC, updC_size vs]; simp
theorem updC_get : ∀ (vs : List Value) (c : Array Value) (off p : Nat), off + vs.length ≤ c.size →
    (updC c off vs).getD p undef = if off ≤ p ∧ p < off + vs.length then vs.getD (p - off) undef else c.getD p undef
  | [], c, off, p, _ => by
    rw [updC, if_neg]; simp only [List.length_nil]; omega
  | v :: vs, c, off, p, h => by
    rw [updC, updC_get vs _ _ _ (by simp at h ⊢; omega)]
    simp only [List.length_cons] at h ⊢
    by_cases h1 : off + 1 ≤ p ∧ p < off + 1 + vs.length
    · rw [if_pos h1, if_pos (by omega)]
      obtain ⟨q, rfl⟩ : ∃ q, p = off + 1 + q := ⟨p - (off + 1), by omega⟩
      have e1 : off + 1 + q - (off + 1) = q := by omega
      have e2 : off + 1 + q - off = q + 1 := by omega
      rw [e1, e2]; rfl
    · rw [if_neg h1]
      by_cases h2 : p = off
      · subst h2
        rw [if_pos (by omega), Nat.sub_self]
        simp only [List.getD_cons_zero, Array.getD_eq_getD_getElem?]
        rw [Array.getElem?_setIfInBounds_self_of_lt (by omega)]
        rfl
      · rw [if_neg (by omega)]
        simp only [Array.getD_eq_getD_getElem?]
        rw [Array.getElem?_setIfInBounds_ne (Ne.symm h2)]

theorem setAt_length {cs vs : List V} {off : Nat} (h : off + vs.length ≤ cs.length) : (setAt cs off vs).length = cs.length := by
  simp [setAt]; omega
theorem setAt_get {cs vs : List V} {off p : Nat} (h : off + vs.length ≤ cs.length) :
    (setAt cs off vs)[p]? = if off ≤ p ∧ p < off + vs.length then vs[p - off]? else cs[p]? := by
  unfold setAt
  by_cases h1 : p < off
  · rw [if_neg (by omega), List.append_assoc, List.getElem?_append_left (by simp; omega), List.getElem?_take, if_pos h1]
  · by_cases h2 : p < off + vs.length
    · rw [if_pos (by omega), List.append_assoc, List.getElem?_append_right (by simp; omega), List.getElem?_append_left (by simp; omega)]
      congr 1; simp; omega
    · rw [if_neg (by omega), List.getElem?_append_right (by simp; omega), List.getElem?_drop]
      congr 1; simp; omega

theorem RL.set {cs vs : List V} {c : Array Value} {us : List Value} {off : Nat} (h : RL G cs c) (hl : us.length = vs.length)
    (hv : ∀ p (hp : p < vs.length), VR G vs[p] (us.getD p undef)) (ho : off + vs.length ≤ cs.length) : RL G (setAt cs off vs) (updC c off us) := by
  have hlen := setAt_length ho
  refine ⟨by rw [updC_size, h.1, hlen], fun p hp => ?_⟩
  rw [updC_get us c off p (by rw [h.1, hl]; exact ho)]
  have hg := setAt_get (p := p) ho
  rw [List.getElem?_eq_getElem hp] at hg
  rw [hl]
  by_cases hc : off ≤ p ∧ p < off + vs.length
  · rw [if_pos hc] at hg ⊢
    have hlt : p - off < vs.length := by omega
    rw [List.getElem?_eq_getElem hlt] at hg
    simp only [Option.some.injEq] at hg
    rw [hg]; exact hv _ hlt
  · rw [if_neg hc] at hg ⊢
    have hlt : p < cs.length := by omega
    rw [List.getElem?_eq_getElem hlt] at hg
    simp only [Option.some.injEq] at hg
    rw [hg]; exact h.2 p hlt

theorem foldl_zip : ∀ (l : List Value) (c : Array Value) (off k : Nat),
    ((l.zipIdx k).foldl (fun (cs : Array Value) (x : Value × Nat) => cs.setIfInBounds (off + x.2) x.1) c) = updC c (off + k) l
  | [], c, off, k => rfl
  | v :: l, c, off, k => by
    rw [List.zipIdx_cons, List.foldl_cons, foldl_zip l _ off (k + 1), updC]
    rfl

theorem fill_sound {place : Nat → Option (Nat × Nat)} : ∀ {parts : List (Nat × V)} {rparts : List (Nat × Value)} {cs cs' : List V} {c : Array Value}, RL G cs c →
    parts.length = rparts.length → (∀ k (h : k < parts.length) (h' : k < rparts.length), parts[k].1 = rparts[k].1 ∧ VR G parts[k].2 rparts[k].2) →
    fillV place cs parts = some cs' → ∃ c', Instr.fill place c rparts = some c' ∧ RL G cs' c'
  | [], rparts, cs, cs', c, hc, hl, hp, h => by
    cases rparts with
    | nil => simp only [fillV, Option.some.injEq] at h; subst h; exact ⟨c, rfl, hc⟩
    | cons _ _ => simp at hl
  | (i, v) :: parts, rparts, cs, cs', c, hc, hl, hp, h => by
    cases rparts with
    | nil => simp at hl
    | cons x rparts =>
      obtain ⟨j, r⟩ := x
      obtain ⟨h1, h2⟩ := hp 0 (by simp) (by simp)
      simp only [List.getElem_cons_zero] at h1 h2
      subst h1
      simp only [fillV] at h
      cases hpl : place i with
      | none => rw [hpl] at h; simp at h
      | some y =>
        obtain ⟨off, size⟩ := y
        rw [hpl] at h
        simp only [] at h
        split at h
        · simp at h
        · rename_i hcond
          have hrc := h2.cells
          have hset : RL G (setAt cs off v.cells) (updC c off r.cells.toList) := hc.set (by simpa using hrc.1)
            (fun p hp => by have := hrc.2 p hp; simpa [Array.getD_eq_getD_getElem?, List.getD_eq_getElem?_getD] using this) (by omega)
          obtain ⟨c', h3, h4⟩ := fill_sound hset (by simpa using hl) (fun k hk hk' => by have := hp (k + 1) (by simpa using hk) (by simpa using hk'); simpa using this) h
          refine ⟨c', ?_, h4⟩
          simp only [Instr.fill, hpl]
          rw [if_neg]
          · rw [← h3]
            congr 1
            have := foldl_zip r.cells.toList c off 0
            rw [Nat.add_zero] at this
            rw [← this, ← Array.foldl_toList, Array.toList_zipIdx]
          · have := hc.1
            simp only [Bool.or_eq_true, decide_eq_true_eq, bne_iff_ne, ne_eq, not_or]
            refine ⟨?_, by omega⟩
            intro hne
            exact hcond (.inl (by omega))

theorem run_mapM {α β : Type} (f : α → Sem β) (g : α → β) (w : World) : ∀ (l : List α), (∀ x ∈ l, (f x).run P w = .ok (g x) w) → (l.mapM f).run P w = .ok (l.map g) w
  | [], _ => by simp
  | x :: l, h => by
    rw [List.mapM_cons]
    simp [h x (by simp), run_mapM f g w l (fun y hy => h y (by simp [hy]))]

theorem build_sound {t : TypeId} {parts : List (Nat × V)} {rparts : Array (Nat × Value)} {v : V} (hl : parts.length = rparts.size)
    (hp : ∀ k (h : k < parts.length) (h' : k < rparts.toList.length), parts[k].1 = rparts.toList[k].1 ∧ VR G parts[k].2 rparts.toList[k].2) (h : pbuild P t parts = some v) :
    ∃ q, (Instr.build t rparts).run P w = .ok q w ∧ VR G v q := by
  unfold pbuild at h
  split at h
  · rename_i z d hz hu
    split at h
    · rename_i hsd
      simp only [Option.map_eq_some_iff] at h
      obtain ⟨cs', hf, rfl⟩ := h
      obtain ⟨i, zr, hi, hiz, hov⟩ := zeroV_info hz
      have hzr := (ofVal_VR (G := G) hov).rl
      cases d with
      | struct fs =>
        obtain ⟨c', h3, h4⟩ := fill_sound hzr hl hp hf
        have hszs : ∀ f ∈ fs, (szT P f.type).isSome := by
          have h5 : (fs.toList.all fun f => (szT P f.type).isSome) = true := hsd
          rw [List.all_eq_true] at h5
          exact fun f hf => h5 f (by simpa using hf)
        refine ⟨.agg c', ?_, .agg h4.1 h4.2⟩
        have hm : (fs.mapM (m := Sem) (fun f => do pure (f.offset, ← sizeOf f.type))).run P w = .ok (fs.map fun f => (f.offset, (szT P f.type).getD 0)) w := by
          rw [Array.mapM_eq_mapM_toList]
          have := run_mapM (P := P) (fun f : Field => (do pure (f.offset, ← sizeOf f.type) : Sem (Nat × Nat))) (fun f => (f.offset, (szT P f.type).getD 0)) w fs.toList (fun f hf => by
            obtain ⟨n, hn⟩ := Option.isSome_iff_exists.1 (hszs f (by simpa using hf))
            simp [run_sizeOf hn, hn])
          rw [Sem.run_map, this]
          simp only [Result.andThen_ok]
          congr 1
          exact Array.toList_inj.1 (by simp)
        simp only [Instr.build, Sem.run_bind, run_zeroValue hi hiz, Result.andThen_ok, run_und hu, hm]
        have hplace : (fun i => (fs.map fun f => (f.offset, (szT P f.type).getD 0))[i]?) = placeOf P (.struct fs) := by
          funext i
          simp only [placeOf, Array.getElem?_map]
          cases hfi : fs[i]? with
          | none => rfl
          | some f =>
            have := hszs f (Array.mem_of_getElem? hfi)
            cases hs : szT P f.type with
            | none => rw [hs] at this; simp at this
            | some n => simp [hs]
        rw [hplace, h3]
        rfl
      | array n e =>
        obtain ⟨c', h3, h4⟩ := fill_sound hzr hl hp hf
        obtain ⟨sz, hsz⟩ := Option.isSome_iff_exists.1 (show (szT P e).isSome = true from hsd)
        refine ⟨.agg c', ?_, .agg h4.1 h4.2⟩
        simp only [Instr.build, Sem.run_bind, run_zeroValue hi hiz, Result.andThen_ok, run_und hu, run_sizeOf hsz]
        have hplace : (fun i => some (i * sz, sz)) = placeOf P (.array n e) := by
          funext i; simp [placeOf, hsz]
        rw [hplace, h3]
        rfl
      | _ => simp [sizedD] at hsd
    · simp at h
  · simp at h
end Go.Pv
