import Derived.Test.YtfjkplemepcmeaaPv12
set_option linter.unusedVariables false
set_option linter.unusedSectionVars false
/- Regions whose order is left open. -/
set_option linter.unusedSimpArgs false
namespace Go.Pv
variable {P : Program} {Z : Nat → Go.Obj → Prop}

/-- the operations that must be behind, as the edges tell -/
def direct (o : Oper) : List Nat := (o.after.toList.filter fun e => Region.binds .any e).map (·.on)

def maskOf (acc : List Nat) (o : Oper) : Nat := (direct o).foldl (fun s j => s ||| 2 ^ j ||| acc.getD j 0) 0
def masks : List Oper → List Nat → List Nat
  | [], acc => acc
  | o :: os, acc => masks os (acc ++ [maskOf acc o])

def tmpsOf (ops : Array Oper) (o : Oper) : List Tmp :=
  ((opXs o.op).filterMap fun | .tmp t => some t | _ => none) ++
  (match o.guard with
   | some (g, _) => ((ops[g]?).bind (·.dst)).toList
   | none => [])

def wOk (ops : Array Oper) (t : Tmp) (i : Nat) (o : Oper) (j : Nat) : Bool :=
  match ops[j]? with
  | some oj => !(oj.dst == some t) || (decide (j < i) && (direct o).contains j)
  | none => true
def neOk (ops : Array Oper) (d : Tmp) (j : Nat) : Bool :=
  match ops[j]? with
  | some oj => !(oj.dst == some d)
  | none => true
def apartOk (ops : Array Oper) (m i : Nat) (o : Oper) : Bool :=
  match o.dst with
  | none => true
  | some d => (List.range m).all fun j => decide (j = i) || neOk ops d j
def placeOk (ops : Array Oper) (M : List Nat) (m i : Nat) : Bool :=
  match ops[i]? with
  | none => false
  | some o => (direct o).all (fun j => decide (j < i)) &&
    (if i < m then ((tmpsOf ops o).all fun t => (List.range m).all fun j => wOk ops t i o j) && apartOk ops m i o
     else (List.range i).all fun j => (M.getD i 0).testBit j)

/-- The first m operations may go in any order that the edges let; the others stand behind, in a row. -/
def drawOk (n : Nat) (ops : Array Oper) (m : Nat) : Bool :=
  okOps n ops && decide (m ≤ ops.size) && (List.range ops.size).all fun i => placeOk ops (masks ops.toList []) m i

theorem foldl_mask (acc : List Nat) (i : Nat) : ∀ (l : List Nat) (s : Nat), (l.foldl (fun s j => s ||| 2 ^ j ||| acc.getD j 0) s).testBit i = true →
    s.testBit i = true ∨ ∃ j ∈ l, j = i ∨ (acc.getD j 0).testBit i = true
  | [], s, h => .inl h
  | j :: l, s, h => by
    rcases foldl_mask acc i l _ h with h1 | ⟨k, hk, h1⟩
    · rw [Nat.testBit_or, Nat.testBit_or, Nat.testBit_two_pow] at h1
      simp only [Bool.or_eq_true, decide_eq_true_eq] at h1
      rcases h1 with (h1 | h1) | h1
      · exact .inl h1
      · exact .inr ⟨j, by simp, .inl h1⟩
      · exact .inr ⟨j, by simp, .inr h1⟩
    · exact .inr ⟨k, by simp [hk], h1⟩

theorem masks_spec : ∀ (os : List Oper) (acc : List Nat), (∀ k, k < acc.length → (masks os acc)[k]? = acc[k]?) ∧
    ∀ k o, os[k]? = some o → ∀ i, ((masks os acc).getD (acc.length + k) 0).testBit i = true → ∃ j ∈ direct o, j = i ∨ ((masks os acc).getD j 0).testBit i = true ∨ (acc.length + k ≤ j)
  | [], acc => ⟨fun k _ => rfl, fun k o h => by simp at h⟩
  | o :: os, acc => by
    obtain ⟨h1, h2⟩ := masks_spec os (acc ++ [maskOf acc o])
    refine ⟨fun k hk => ?_, fun k o' ho' i hi => ?_⟩
    · rw [masks, h1 k (by simp; omega), List.getElem?_append_left hk]
    · cases k with
      | zero =>
        simp only [List.getElem?_cons_zero, Option.some.injEq] at ho'
        subst ho'
        rw [masks] at hi ⊢
        have e1 : (masks os (acc ++ [maskOf acc o])).getD (acc.length + 0) 0 = maskOf acc o := by
          rw [List.getD_eq_getElem?_getD, Nat.add_zero, h1 acc.length (by simp)]
          simp
        rw [e1] at hi
        rcases foldl_mask acc i _ _ hi with h0 | ⟨j, hj, hh⟩
        · simp at h0
        · refine ⟨j, hj, ?_⟩
          rcases hh with hh | hh
          · exact .inl hh
          · by_cases hlt : j < acc.length
            · right; left
              rw [List.getD_eq_getElem?_getD, h1 j (by simp; omega), List.getElem?_append_left hlt, ← List.getD_eq_getElem?_getD]
              exact hh
            · right; right; omega
      | succ k =>
        have := h2 k o' (by simpa using ho') i (by
          rw [masks] at hi
          simp only [List.length_append, List.length_singleton]
          rw [show acc.length + 1 + k = acc.length + (k + 1) by omega]; exact hi)
        obtain ⟨j, hj, hh⟩ := this
        refine ⟨j, hj, ?_⟩
        rw [masks]
        simp only [List.length_append, List.length_singleton] at hh
        rcases hh with hh | hh | hh
        · exact .inl hh
        · exact .inr (.inl hh)
        · exact .inr (.inr (by omega))

/-- What the first operations owe: a result that hangs on nothing but the state, and the objects stay. -/
def stepOk (P : Program) (Z : Nat → Go.Obj → Prop) (L : List Obj) (env : Nat → V) (o : Oper) (v : V) : Prop :=
  match o.op with
  | .call { callee := .value f, args, .. } => CallV P Z (St.ev ⟨env, L⟩ f) (args.toList.map (St.ev ⟨env, L⟩)) L (fun v' L' => v' = v ∧ L' = L)
  | op => pop P L (St.ev ⟨env, L⟩) op = some (v, L)

def exA (P : Program) (Z : Nat → Go.Obj → Prop) (ops : Array Oper) : List Oper → St → (St → Prop) → Prop
  | [], st, K => K st
  | o :: rest, st, K =>
    if pwanted ops st.env o = true then ∃ v, stepOk P Z st.L st.env o v ∧ exA P Z ops rest (st.put o.dst v) K
    else exA P Z ops rest (st.put o.dst .undef) K

theorem ev_congr {env env' : Nat → V} {L : List Obj} {x : Operand} (h : ∀ t, x = .tmp t → env t = env' t) : St.ev ⟨env, L⟩ x = St.ev ⟨env', L⟩ x := by
  cases x with
  | tmp t => exact h t rfl
  | _ => rfl

theorem pop_congr {L : List Obj} {ev ev' : Operand → V} {op : Op} (h : ∀ x ∈ op.operands.toList, ev x = ev' x) : pop P L ev op = pop P L ev' op := by
  have pairs : ∀ ps : Array (Nat × Operand), (∀ x ∈ ps.toList.map (·.2), ev x = ev' x) → (ps.toList.map fun p => (p.1, ev p.2)) = (ps.toList.map fun p => (p.1, ev' p.2)) := fun ps hp =>
    List.map_congr_left fun p hm => by rw [hp p.2 (by simp only [List.mem_map]; exact ⟨p, hm, rfl⟩)]
  have lst : ∀ xs : Array Operand, (∀ x ∈ xs.toList, ev x = ev' x) → xs.toList.map ev = xs.toList.map ev' := fun xs hp => List.map_congr_left hp
  have opt : ∀ x : Option Operand, (∀ y, x = some y → ev y = ev' y) → x.map ev = x.map ev' := fun x hp => by cases x with
    | none => rfl
    | some y => simp [hp y rfl]
  cases op with
  | move x => simp only [pop, h x (by simp [Op.operands])]
  | assign x => simp only [pop, h x (by simp [Op.operands])]
  | pick c a b => simp only [pop, h c (by simp [Op.operands]), h a (by simp [Op.operands]), h b (by simp [Op.operands])]
  | box t x => simp only [pop, h x (by simp [Op.operands])]
  | build t ps => simp only [pop, pairs ps (fun x hx => h x (by simpa [Op.operands] using hx))]
  | buildSlice t n ps => simp only [pop, pairs ps (fun x hx => h x (by simpa [Op.operands] using hx))]
  | load t a => simp only [pop, h a (by simp [Op.operands])]
  | store t a x => simp only [pop, h a (by simp [Op.operands]), h x (by simp [Op.operands])]
  | nilCheck x => simp only [pop, h x (by simp [Op.operands])]
  | binOp op t x y u => simp only [pop, h x (by simp [Op.operands]), h y (by simp [Op.operands])]
  | unOp op t x => simp only [pop, h x (by simp [Op.operands])]
  | convert s d x => simp only [pop, h x (by simp [Op.operands])]
  | makeFunc f fs cs => cases f <;> simp only [pop, lst cs (fun x hx => h x (by simp [Op.operands] at hx ⊢; exact .inr hx))]
  | makeSlice t l c => simp only [pop, h l (by simp [Op.operands]), h c (by simp [Op.operands])]
  | slice t x lo hi mx => simp only [pop, h x (by simp [Op.operands]), opt lo (fun y hy => h y (by simp [Op.operands, hy])), opt hi (fun y hy => h y (by simp [Op.operands, hy])), opt mx (fun y hy => h y (by simp [Op.operands, hy]))]
  | fieldAddr t x i => simp only [pop, h x (by simp [Op.operands])]
  | field t x i => simp only [pop, h x (by simp [Op.operands])]
  | indexAddr t x i => simp only [pop, h x (by simp [Op.operands]), h i (by simp [Op.operands])]
  | index t x i => simp only [pop, h x (by simp [Op.operands]), h i (by simp [Op.operands])]
  | extract x i => simp only [pop, h x (by simp [Op.operands])]
  | sliceToArrayPointer t x => simp only [pop, h x (by simp [Op.operands])]
  | makeMap t r => cases r <;> rfl
  | lookup t x i ok => simp only [pop, h x (by simp [Op.operands]), h i (by simp [Op.operands])]
  | mapUpdate t m i x => simp only [pop, h m (by simp [Op.operands]), h i (by simp [Op.operands]), h x (by simp [Op.operands])]
  | call c =>
    obtain ⟨cal, args, ts⟩ := c
    cases cal with
    | builtin b => simp only [pop, lst args (fun x hx => h x (by simp [Op.operands, Call.operands] at hx ⊢; exact hx))]
    | _ => rfl
  | _ => rfl

theorem stepOk_congr {L : List Obj} {env env' : Nat → V} {ops : Array Oper} {o : Oper} {v : V} (h : ∀ t ∈ tmpsOf ops o, env t = env' t) (hs : stepOk P Z L env o v) : stepOk P Z L env' o v := by
  have hx : ∀ x ∈ o.op.operands.toList, St.ev ⟨env, L⟩ x = St.ev ⟨env', L⟩ x := fun x hx => ev_congr fun t ht => by
    subst ht
    refine h t ?_
    simp only [tmpsOf, List.mem_append, List.mem_filterMap]
    exact .inl ⟨_, by rw [opXs_eq]; exact hx, rfl⟩
  unfold stepOk at *
  split at hs
  · rename_i f args ats heq
    rw [heq] at hx
    rw [← hx f (by simp [Op.operands, Call.operands]), ← List.map_congr_left (f := St.ev ⟨env, L⟩) (g := St.ev ⟨env', L⟩) (fun x hm => hx x (by simp [Op.operands, Call.operands] at hm ⊢; exact .inr hm))]
    exact hs
  · rw [← pop_congr hx]; exact hs

theorem pwanted_congr {env env' : Nat → V} {ops : Array Oper} {o : Oper} (h : ∀ t ∈ tmpsOf ops o, env t = env' t) : pwanted ops env o = pwanted ops env' o := by
  unfold pwanted
  cases hg : o.guard with
  | none => rfl
  | some g =>
    obtain ⟨j, want⟩ := g
    simp only
    cases hd : (ops[j]?).bind (·.dst) with
    | none => rfl
    | some d =>
      simp only
      rw [h d (by simp [tmpsOf, hg, hd])]

/-- The results of the first operations. -/
theorem exA_vals {ops : Array Oper} {K : St → Prop} : ∀ (os : List Oper) (st : St), exA P Z ops os st K →
    ∃ vs : List V, vs.length = os.length ∧ ∃ envs : Nat → Nat → V, envs 0 = st.env ∧ (∀ k o v, os[k]? = some o → vs[k]? = some v → envs (k + 1) = (St.put ⟨envs k, st.L⟩ o.dst v).env ∧
      (if pwanted ops (envs k) o = true then stepOk P Z st.L (envs k) o v else v = .undef)) ∧ K ⟨envs os.length, st.L⟩
  | [], st, h => ⟨[], rfl, fun _ => st.env, rfl, fun k o v hk => by simp at hk, h⟩
  | o :: os, st, h => by
    simp only [exA] at h
    have key : ∀ v, (if pwanted ops st.env o = true then stepOk P Z st.L st.env o v else v = .undef) → exA P Z ops os (st.put o.dst v) K →
        ∃ vs : List V, vs.length = (o :: os).length ∧ ∃ envs : Nat → Nat → V, envs 0 = st.env ∧ (∀ k o' v, (o :: os)[k]? = some o' → vs[k]? = some v → envs (k + 1) = (St.put ⟨envs k, st.L⟩ o'.dst v).env ∧
          (if pwanted ops (envs k) o' = true then stepOk P Z st.L (envs k) o' v else v = .undef)) ∧ K ⟨envs (o :: os).length, st.L⟩ := by
      intro v hv hx
      obtain ⟨vs, h1, envs, h2, h3, h4⟩ := exA_vals os _ hx
      have hL : (st.put o.dst v).L = st.L := by cases o.dst <;> rfl
      refine ⟨v :: vs, by simp [h1], fun k => match k with | 0 => st.env | k + 1 => envs k, rfl, fun k o' u hk hu => ?_, ?_⟩
      · cases k with
        | zero =>
          simp only [List.getElem?_cons_zero, Option.some.injEq] at hk hu
          subst hk hu
          exact ⟨h2.trans (by cases o.dst <;> rfl), hv⟩
        | succ k =>
          have := h3 k o' u (by simpa using hk) (by simpa using hu)
          rw [hL] at this
          exact this
      · rw [hL] at h4; exact h4
    by_cases hw : pwanted ops st.env o = true
    · rw [if_pos hw] at h
      obtain ⟨v, h1, h2⟩ := h
      exact key v (by rw [if_pos hw]; exact h1) h2
    · rw [if_neg hw] at h
      exact key .undef (by rw [if_neg hw]) h
end Go.Pv
