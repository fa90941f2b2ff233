import Derived.Test.YtfjkplemepcmeaaPv11
set_option linter.unusedVariables false
set_option linter.unusedSectionVars false
/- The state of a function at work; what its code comes to ('vc'); calls. -/
set_option linter.unusedSimpArgs false
namespace Go.Pv
variable {P : Program} {Z : Nat → Go.Obj → Prop}

def mark (r : Nat) : Deferred := { target := .collected r, args := #[] }

/-- The state stands for the frame and the world. -/
structure SR (Z : Nat → Go.Obj → Prop) (N0 n : Nat) (G : Gh) (st : St) (a : Act) (w : World) : Prop where
  size : a.tmps.size = n
  tm : ∀ t, t < n → VR G (st.env t) (a.tmps.getD t undef)
  rel : Rel Z G st.L w
  ds : ∃ ds : List Nat, a.defers = ds.map mark ∧ ds.Nodup ∧ ∀ x ∈ ds, N0 ≤ x ∧ w.heap[x]? = some (.deferred (some []))

theorem Rel.held_obj {G : Gh} {L : List Obj} {w : World} (h : Rel Z G L w) {B : Nat} (hB : Held G L B) (d : Option (List Deferred)) : w.heap[B]? ≠ some (.deferred d) := by
  obtain ⟨id, ob, hid, hat⟩ := hB
  have hok := h.ok id ob hid
  intro he
  cases ob with
  | box cs =>
    obtain ⟨b, c, e, fr, hr, hh, _⟩ := hok
    have := h.at_fn hat (.inl hr : At G id (.box cs) b); subst this; rw [hh] at he; simp at he
  | buf sz m xs =>
    obtain ⟨_, _, loc, hr, hl⟩ := hok
    cases loc with
    | obj b => exact hl
    | blk b cap sz' =>
      obtain ⟨_, _, c, e, fr, hh, _⟩ := hl
      have := h.at_fn hat (.inr ⟨_, _, hr⟩ : At G id (.buf sz m xs) b); subst this; rw [hh] at he; simp at he
    | ext B' O sz' =>
      rcases hat with h1 | ⟨c, s, h1⟩ <;> have := h.fn _ _ _ _ h1 hr <;> simp at this
  | loop st pend env n params assign body =>
    obtain ⟨b, tmps, d, fn, hr, hh, _⟩ := hok
    have := h.at_fn hat (.inl hr : At G id (.loop st pend env n params assign body) b); subst this; rw [hh] at he; simp at he
  | map es =>
    obtain ⟨b, en, cl, hr, hh, _⟩ := hok
    have := h.at_fn hat (.inl hr : At G id (.map es) b); subst this; rw [hh] at he; simp at he

theorem SR.step {N0 n : Nat} {G G' : Gh} {st : St} {L' : List Obj} {a : Act} {w w' : World} (h : SR Z N0 n G st a w) (hr : Rel Z G' L' w') (he : Evo G st.L w G' L' w') {dst : Option Tmp} {v : V} {r : Value}
    (hv : VR G' v r) (hd : ∀ d, dst = some d → d < n) : SR Z N0 n G' { env := (st.put dst v).env, L := L' } (a.put dst r) w' := by
  obtain ⟨ds, h1, h2, h3⟩ := h.ds
  refine ⟨?_, fun t ht => ?_, hr, ds, ?_, h2, fun x hx => ⟨(h3 x hx).1, ?_⟩⟩
  · cases dst <;> simp [Act.put, h.size]
  · cases dst with
    | none => exact (h.tm t ht).mono he.le
    | some d =>
      have hdn := hd d rfl
      simp only [St.put, upd, Act.put]
      by_cases htd : t = d
      · subst htd
        rw [if_pos rfl]
        have : (a.tmps.setIfInBounds t r).getD t undef = r := by
          simp only [Array.getD_eq_getD_getElem?]
          rw [Array.getElem?_setIfInBounds_self_of_lt (by rw [h.size]; exact ht)]; rfl
        rw [this]; exact hv
      · rw [if_neg htd]
        have : (a.tmps.setIfInBounds d r).getD t undef = a.tmps.getD t undef := by
          simp only [Array.getD_eq_getD_getElem?]
          rw [Array.getElem?_setIfInBounds_ne (Ne.symm htd)]
        rw [this]; exact (h.tm t ht).mono he.le
  · cases dst <;> simp [Act.put, h1]
  · have hlt := (Array.getElem?_eq_some_iff.1 (h3 x hx).2).1
    rw [he.keep x hlt (fun hh => h.rel.held_obj hh _ (h3 x hx).2)]
    exact (h3 x hx).2

/-! ### operands -/
def okX (n : Nat) : Operand → Bool
  | .tmp t => decide (t < n)
  | .const v => (V.ofVal v).isSome
  | .func _ => true
  | .global _ => false

theorem ev_ok {N0 n : Nat} {G : Gh} {st : St} {a : Act} {w : World} (h : SR Z N0 n G st a w) {x : Operand} (hx : okX n x = true) : VR G (st.ev x) (a.eval x) := by
  cases x with
  | tmp t => simpa [St.ev, Act.eval] using h.tm t (by simpa [okX] using hx)
  | const v =>
    obtain ⟨y, hy⟩ := Option.isSome_iff_exists.1 (show (V.ofVal v).isSome = true from hx)
    simp only [St.ev, Act.eval, hy, Option.getD_some]
    exact ofVal_VR hy
  | func f => exact .fn rfl (fun p hp => absurd hp (Nat.not_lt_zero p))
  | global g => simp [okX] at hx

def VRL (G : Gh) (args : List V) (rargs : Array Value) : Prop := rargs.size = args.length ∧ ∀ p (h : p < args.length), VR G args[p] (rargs.getD p undef)

theorem VRL.map {G : Gh} {ev : Operand → V} {ρ : Operand → Value} {xs : Array Operand} (h : ∀ x ∈ xs.toList, VR G (ev x) (ρ x)) : VRL G (xs.toList.map ev) (xs.map ρ) := by
  refine ⟨by simp, fun p hp => ?_⟩
  simp only [List.length_map, Array.length_toList] at hp
  have := h xs[p] (by simp)
  simpa [Array.getD_eq_getD_getElem?, hp] using this
theorem VRL.mono {G G' : Gh} (hle : G.le G') {args : List V} {rargs : Array Value} (h : VRL G args rargs) : VRL G' args rargs := ⟨h.1, fun p hp => (h.2 p hp).mono hle⟩
theorem VRL.append {G : Gh} {xs ys : List V} {a b : Array Value} (h1 : VRL G xs a) (h2 : VRL G ys b) : VRL G (xs ++ ys) (a ++ b) := by
  refine ⟨by simp [h1.1, h2.1], fun p hp => ?_⟩
  have s1 := h1.1
  by_cases hlt : p < xs.length
  · rw [List.getElem_append_left hlt]
    have : (a ++ b).getD p undef = a.getD p undef := by
      simp only [Array.getD_eq_getD_getElem?]; rw [Array.getElem?_append_left (by omega)]
    rw [this]; exact h1.2 p hlt
  · rw [List.getElem_append_right (by omega)]
    have : (a ++ b).getD p undef = b.getD (p - xs.length) undef := by
      simp only [Array.getD_eq_getD_getElem?]; rw [Array.getElem?_append_right (by omega), s1]
    rw [this]; exact h2.2 _ _

/-- A call of a value. -/
def CallV (P : Program) (Z : Nat → Go.Obj → Prop) (fv : V) (args : List V) (L : List Obj) (K : V → List Obj → Prop) : Prop :=
  ∀ G w rf rargs, Rel Z G L w → VR G fv rf → VRL G args rargs →
    OpR P (do let d ← Deferred.ofValue rf rargs; invoke d.target d.args) w (fun rv w' => ∃ G' L' v, K v L' ∧ Rel Z G' L' w' ∧ Evo G L w G' L' w' ∧ VR G' v rv)

theorem CallV.mono {fv : V} {args : List V} {L : List Obj} {K K' : V → List Obj → Prop} (h : CallV P Z fv args L K) (hk : ∀ v L', K v L' → K' v L') : CallV P Z fv args L K' :=
  fun G w rf rargs h1 h2 h3 => (h G w rf rargs h1 h2 h3).mono fun _ _ ⟨G', L', v, a, b⟩ => ⟨G', L', v, hk _ _ a, b⟩

def Callable (P : Program) (f : FuncId) : Prop := ∃ fn, P.funcs[f]? = some fn ∧ fn.body.isSome = true ∧ (fn.name == "runtime.NumGoroutine") = false

/-- A call of a function. -/
def SC (P : Program) (Z : Nat → Go.Obj → Prop) (f : FuncId) (args : List V) (L : List Obj) (K : V → List Obj → Prop) : Prop :=
  Callable P f ∧ ∀ G w rargs, Rel Z G L w → VRL G args rargs →
    Calls0 P f rargs w (fun rv w' => ∃ G' L' v, K v L' ∧ Rel Z G' L' w' ∧ Evo G L w G' L' w' ∧ VR G' v rv)

theorem SC.mono {f : FuncId} {args : List V} {L : List Obj} {K K' : V → List Obj → Prop} (h : SC P Z f args L K) (hk : ∀ v L', K v L' → K' v L') : SC P Z f args L K' :=
  ⟨h.1, fun G w rargs h1 h2 => (h.2 G w rargs h1 h2).mono fun _ _ ⟨G', L', v, a, b⟩ => ⟨G', L', v, hk _ _ a, b⟩⟩

theorem CallV.of_SC {f : FuncId} {args caps : List V} {L : List Obj} {K : V → List Obj → Prop} (h : SC P Z f (args ++ caps) L K) : CallV P Z (.fn f caps) args L K := by
  intro G w rf rargs hr hf ha
  obtain ⟨⟨fn, h1, h2, h3⟩, hc⟩ := h
  cases hf with
  | fn hn hv =>
    rename_i vs
    have hb : fn.body.isNone = false := by cases hb : fn.body <;> simp_all
    have hrun : (do let d ← Deferred.ofValue (.func (.func f) #[] vs) rargs; invoke d.target d.args : Sem Next).run P w = .ok (.enter f (rargs ++ vs)) w := by
      have hne : ¬ fn.name = "runtime.NumGoroutine" := by simpa using h3
      have hbn : ¬ fn.body = none := by intro he; rw [he] at hb; simp at hb
      simp [Deferred.ofValue, invoke, callFunc, h1, hne, hbn]
    unfold OpR
    rw [hrun]
    exact hc G w (rargs ++ vs) hr (ha.append ⟨hn, hv⟩)

/-! ### regions in the text's order -/
def pwanted (ops : Array Oper) (env : Nat → V) (o : Oper) : Bool :=
  match o.guard with
  | none => true
  | some (j, want) => match (ops[j]?).bind (·.dst) with
    | none => false
    | some d => match env d with
      | .bool b => b == want
      | _ => false

/-- What is known of a result and of the objects, seen in another way. -/
def Wk (Z : Nat → Go.Obj → Prop) (v : V) (L' : List Obj) (K : V → List Obj → Prop) : Prop :=
  ∀ G w rv, Rel Z G L' w → VR G v rv → ∃ G' v' L'', K v' L'' ∧ Rel Z G' L'' w ∧ Evo G L' w G' L'' w ∧ VR G' v' rv
theorem Wk.of {v : V} {L' : List Obj} {K : V → List Obj → Prop} (h : K v L') : Wk Z v L' K := fun G w rv h1 h2 => ⟨G, v, L', h, h1, .refl _ _ _, h2⟩
theorem Wk.mono {v : V} {L' : List Obj} {K K' : V → List Obj → Prop} (h : Wk Z v L' K) (hk : ∀ v L', K v L' → K' v L') : Wk Z v L' K' := fun G w rv h1 h2 =>
  let ⟨G', v', L'', a, b⟩ := h G w rv h1 h2; ⟨G', v', L'', hk _ _ a, b⟩

/-- Is a slice nil, of which that is not told? Both ways are owed; if it is, it is empty. -/
def nilOp (P : Program) (st : St) (op : Op) (K : V → List Obj → Prop) : Prop :=
  match op with
  | .binOp .eql t x y _ => (∃ e, P.underlying t = some (.slice e)) ∧ ∃ ex xs, st.ev x = .sl false ex xs ∧ st.ev y = .sl true true [] ∧ ∀ b : Bool, (b = true → xs = []) → K (.bool b) st.L
  | .binOp .neq t x y _ => (∃ e, P.underlying t = some (.slice e)) ∧ ∃ ex xs, st.ev x = .sl false ex xs ∧ st.ev y = .sl true true [] ∧ ∀ b : Bool, (b = true → xs = []) → K (.bool !b) st.L
  | _ => False
theorem nilOp.mono {P : Program} {st : St} {op : Op} {K K' : V → List Obj → Prop} (h : nilOp P st op K) (hk : ∀ v L', K v L' → K' v L') : nilOp P st op K' := by
  unfold nilOp at *
  split at h
  · obtain ⟨h1, ex, xs, h2, h3, h4⟩ := h; exact ⟨h1, ex, xs, h2, h3, fun b hb => hk _ _ (h4 b hb)⟩
  · obtain ⟨h1, ex, xs, h2, h3, h4⟩ := h; exact ⟨h1, ex, xs, h2, h3, fun b hb => hk _ _ (h4 b hb)⟩
  · exact h.elim
def exOp (P : Program) (Z : Nat → Go.Obj → Prop) (o : Oper) (st : St) (K : V → List Obj → Prop) : Prop :=
  match o.op with
  | .call { callee := .value f, args, .. } => CallV P Z (st.ev f) (args.toList.map st.ev) st.L K
  | op => match pop P st.L st.ev op with
    | some (v, L') => Wk Z v L' K
    | none => nilOp P st op K

def exOps (P : Program) (Z : Nat → Go.Obj → Prop) (ops : Array Oper) : List Oper → St → (St → Prop) → Prop
  | [], st, K => K st
  | o :: rest, st, K =>
    if pwanted ops st.env o = true then exOp P Z o st (fun v L' => exOps P Z ops rest { env := (st.put o.dst v).env, L := L' } K)
    else exOps P Z ops rest (st.put o.dst .undef) K

/-- the operands, as a list that reckons well -/
def opXs : Op → List Operand
  | .call { callee := .value f, args, .. } => f :: args.toList
  | .call { callee := .builtin _, args, .. } => args.toList
  | .call { callee := .invoke r _, args, .. } => r :: args.toList
  | .build _ ps | .buildSlice _ _ ps => ps.toList.map (·.2)
  | .makeFunc _ first captured => first.toList ++ captured.toList
  | .slice _ x l h m => [x] ++ l.toList ++ h.toList ++ m.toList
  | .move x | .assign x | .box _ x | .load _ x | .nilCheck x | .unOp _ _ x | .convert _ _ x | .fieldAddr _ x _ | .field _ x _ | .extract x _ | .sliceToArrayPointer _ x => [x]
  | .pick c a b => [c, a, b]
  | .store _ a v | .binOp _ _ a v _ | .makeSlice _ a v | .indexAddr _ a v | .index _ a v => [a, v]
  | op => op.operands.toList

theorem opXs_eq (op : Op) : opXs op = op.operands.toList := by
  cases op <;> try rfl
  case call c => obtain ⟨cal, args, ts⟩ := c; cases cal <;> simp [opXs, Op.operands, Call.operands]
  case makeFunc => simp [opXs, Op.operands]
  case slice t x l h m => simp [opXs, Op.operands]

def okOp (n : Nat) (o : Oper) : Bool := (opXs o.op).all (okX n) && !isDefer o.op && (match o.dst with | some d => decide (d < n) | none => true)
def okOps (n : Nat) (ops : Array Oper) : Bool := ops.toList.all fun o => okOp n o && (match o.guard with | some (j, _) => decide (j < ops.size) | none => true)

theorem exOp_sound {N0 n : Nat} {G : Gh} {st : St} {a : Act} {w : World} {o : Oper} {K : V → List Obj → Prop} (h : SR Z N0 n G st a w) (hok : okOp n o = true) (hx : exOp P Z o st K) :
    isDefer o.op = false ∧ OpR P (execOp a.eval o) w (fun rv w' => ∃ G' L' v, K v L' ∧ Rel Z G' L' w' ∧ Evo G st.L w G' L' w' ∧ VR G' v rv) := by
  simp only [okOp, Bool.and_eq_true, Bool.not_eq_true'] at hok
  obtain ⟨⟨h1, h2⟩, h3⟩ := hok
  have hops : ∀ x ∈ o.op.operands.toList, okX n x = true := by
    rw [opXs_eq] at h1
    exact List.all_eq_true.1 h1
  refine ⟨h2, ?_⟩
  unfold exOp at hx
  split at hx
  · rename_i f args ats heq
    rw [heq] at hops
    have := hx G w (a.eval f) (args.map a.eval) h.rel (ev_ok h (hops f (by simp [Op.operands, Call.operands]))) (VRL.map fun x hx => ev_ok h (hops x (by simp [Op.operands, Call.operands] at hx ⊢; exact .inr hx)))
    have he : execOp a.eval o = (do let d ← Deferred.ofValue (a.eval f) (args.map a.eval); invoke d.target d.args) := by
      obtain ⟨dst, op, type, pos, after, guard⟩ := o
      dsimp only at heq
      subst heq
      rfl
    rw [he]; exact this
  · split at hx
    · rename_i v L' hp
      obtain ⟨q, w', hrun, G', k1, k2, k3⟩ := pop_sound (P := P) h.rel (ρ := a.eval) (o := o) (fun x hx => ev_ok h (hops x hx)) hp
      unfold OpR
      rcases hrun with hrun | ⟨hrun, rfl⟩
      · rw [hrun]
        obtain ⟨G2, v2, L2, j1, j2, j3, j4⟩ := hx _ _ _ k1 k3
        exact ⟨G2, L2, v2, j1, j2, k2.trans j3, j4⟩
      · rw [hrun]
        obtain ⟨G2, v2, L2, j1, j2, j3, j4⟩ := hx _ _ _ k1 k3
        exact ⟨G2, L2, v2, j1, j2, k2.trans j3, j4⟩
    · obtain ⟨dst, op, type, pos, after, guard⟩ := o
      dsimp only at hx hops
      cases op with
      | binOp o t x y u =>
       cases o with
       | eql =>
        obtain ⟨⟨e, hu⟩, ex, xs, e1, e2, hK⟩ := hx
        have hvx := ev_ok h (hops x (by simp [Op.operands]))
        have hvy := ev_ok h (hops y (by simp [Op.operands]))
        rw [e1] at hvx
        rw [e2] at hvy
        obtain ⟨c, h4, h5⟩ := nil_eql_sound (P := P) (w := w) (a := x) (b := y) hu hvx hvy
        have hrun : (execOp a.eval ⟨dst, .binOp .eql t x y u, type, pos, after, guard⟩).run P w = .ok (.value (.bool c)) w := by
          show ((do let v ← (do eqGuard .eql t x y (a.eval x) (a.eval y); binOp .eql t (a.eval x) (a.eval y)); pure (.value v)) : Sem Next).run P w = _
          rw [Sem.run_bind] at h5
          simp only [Sem.run_bind (P := P), h5, Result.andThen_ok, Sem.run_pure]
        unfold OpR
        rw [hrun]
        exact ⟨G, _, _, hK c h4, h.rel, .refl _ _ _, .bool c⟩
       | neq =>
        obtain ⟨⟨e, hu⟩, ex, xs, e1, e2, hK⟩ := hx
        have hvx := ev_ok h (hops x (by simp [Op.operands]))
        have hvy := ev_ok h (hops y (by simp [Op.operands]))
        rw [e1] at hvx
        rw [e2] at hvy
        obtain ⟨c, h4, h5⟩ := nil_neq_sound (P := P) (w := w) (a := x) (b := y) hu hvx hvy
        have hrun : (execOp a.eval ⟨dst, .binOp .neq t x y u, type, pos, after, guard⟩).run P w = .ok (.value (.bool !c)) w := by
          show ((do let v ← (do eqGuard .neq t x y (a.eval x) (a.eval y); binOp .neq t (a.eval x) (a.eval y)); pure (.value v)) : Sem Next).run P w = _
          rw [Sem.run_bind] at h5
          simp only [Sem.run_bind (P := P), h5, Result.andThen_ok, Sem.run_pure]
        unfold OpR
        rw [hrun]
        exact ⟨G, _, _, hK c h4, h.rel, .refl _ _ _, .bool _⟩
       | _ => exact hx.elim
      | _ => exact hx.elim

theorem wanted_eq {N0 n : Nat} {G : Gh} {st : St} {a : Act} {w : World} {ops : Array Oper} {o : Oper} (h : SR Z N0 n G st a w) (hok : okOps n ops = true) :
    Region.wanted o (yielded ops a.tmps) = pwanted ops st.env o := by
  unfold Region.wanted pwanted
  cases o.guard with
  | none => rfl
  | some g =>
    obtain ⟨j, want⟩ := g
    simp only [yielded]
    cases hj : ops[j]? with
    | none => simp
    | some oj =>
      simp only [Option.bind_some]
      cases hd : oj.dst with
      | none => simp
      | some d =>
        simp only [Option.bind_some]
        have hdn : d < n := by
          simp only [okOps] at hok
          have := List.all_eq_true.1 hok oj (by simpa using Array.mem_of_getElem? hj)
          simp only [okOp, hd, Bool.and_eq_true, decide_eq_true_eq] at this
          exact this.1.2
        have hv := h.tm d hdn
        have hlt : d < a.tmps.size := by rw [h.size]; exact hdn
        have hg : a.tmps[d]? = some (a.tmps.getD d undef) := by simp [Array.getD_eq_getD_getElem?, hlt]
        rw [hg]
        generalize a.tmps.getD d undef = r at hv
        generalize st.env d = v at hv
        cases hv <;> first | rfl | (rename_i h; cases r <;> first | rfl | (simp [tame] at h))

theorem okOps_get {n : Nat} {ops : Array Oper} (h : okOps n ops = true) {i : Nat} {o : Oper} (ho : ops[i]? = some o) : okOp n o = true := by
  simp only [okOps] at h
  have := List.all_eq_true.1 h o (by simpa using Array.mem_of_getElem? ho)
  simp only [Bool.and_eq_true] at this
  exact this.1

theorem okOp_dst {n : Nat} {o : Oper} (h : okOp n o = true) : ∀ d, o.dst = some d → d < n := by
  intro d hd
  simp only [okOp, hd, Bool.and_eq_true, decide_eq_true_eq] at h
  exact h.2

theorem exOps_sound {N0 n : Nat} {ops : Array Oper} (hok : okOps n ops = true) {K : St → Prop} : ∀ (l : List Nat) (os : List Oper) (G : Gh) (st : St) (a : Act) (w : World), SR Z N0 n G st a w →
    l.length = os.length → (∀ k (h : k < l.length) (h' : k < os.length), ops[l[k]]? = some os[k]) → exOps P Z ops os st K →
    RWops P ops (fun a' w' => ∃ st' G', K st' ∧ SR Z N0 n G' st' a' w' ∧ Evo G st.L w G' st'.L w') l a w
  | [], os, G, st, a, w, h, hl, _, hx => by
    have : os = [] := List.length_eq_zero_iff.1 (by simpa using hl.symm)
    subst this
    exact ⟨st, G, hx, h, .refl _ _ _⟩
  | i :: l, os, G, st, a, w, h, hl, hg, hx => by
    cases os with
    | nil => simp at hl
    | cons o os =>
      have ho : ops[i]? = some o := hg 0 (Nat.zero_lt_succ _) (Nat.zero_lt_succ _)
      have hoo := okOps_get hok ho
      have hl' : l.length = os.length := by simpa using hl
      have hg' : ∀ k (h : k < l.length) (h' : k < os.length), ops[l[k]]? = some os[k] := fun k hk hk' =>
        hg (k + 1) (Nat.succ_lt_succ hk) (Nat.succ_lt_succ hk')
      simp only [RWops, ho]
      rw [wanted_eq h hok]
      simp only [exOps] at hx
      by_cases hw : pwanted ops st.env o = true
      · rw [if_pos hw] at hx ⊢
        obtain ⟨h1, h2⟩ := exOp_sound h hoo hx
        refine ⟨h1, h2.mono fun rv w' ⟨G', L', v, hk, hr, he, hv⟩ => ?_⟩
        have hs := h.step hr he hv (okOp_dst hoo)
        have := exOps_sound hok l os G' _ _ w' hs hl' hg' hk
        refine RWops_mono this fun a2 w2 ⟨st', G2, k1, k2, k3⟩ => ⟨st', G2, k1, k2, he.trans k3⟩
      · rw [if_neg hw] at hx ⊢
        have hs := h.step h.rel (.refl _ _ _) VR_undef (okOp_dst hoo)
        exact exOps_sound hok l os G (st.put o.dst .undef) _ w (by
          have : ({ env := (st.put o.dst V.undef).env, L := st.L } : St) = st.put o.dst V.undef := by cases o.dst <;> rfl
          rw [this] at hs; exact hs) hl' hg' hx |> fun hh => by
          have e : (st.put o.dst V.undef).L = st.L := by cases o.dst <;> rfl
          rw [e] at hh; exact hh
where
  RWops_mono {P : Program} {ops : Array Oper} {Q Q' : Act → World → Prop} {l : List Nat} {a : Act} {w : World} (h : RWops P ops Q l a w) (hq : ∀ a w, Q a w → Q' a w) : RWops P ops Q' l a w := by
    induction l generalizing a w with
    | nil => exact hq _ _ h
    | cons i l ih =>
      simp only [RWops] at h ⊢
      split at h
      · exact ih h
      · split at h
        · rename_i hw; rw [if_pos hw]; exact ⟨h.1, h.2.mono fun _ _ hh => ih hh⟩
        · rename_i hw; rw [if_neg hw]; exact ih h

/-- What a code comes to, told of states. r: the round's loop, if it is a round's frame. -/
def SW (P : Program) (Z : Nat → Go.Obj → Prop) (r : Option Nat) (n : Nat) (c : Code) (Q : Ex → St → Prop) (st : St) : Prop :=
  ∀ N0 G a w, N0 ≤ w.heap.size → SR Z N0 n G st a w → RW P r c (fun e a' w' => ∃ st' G', Q e st' ∧ SR Z N0 n G' st' a' w' ∧ Evo G st.L w G' st'.L w') a w

section
variable {r : Option Nat} {n : Nat} {Q : Ex → St → Prop} {st : St}
theorem SW.skip (h : Q .normal st) : SW P Z r n .skip Q st := fun _ G _ _ _ hs => .skip ⟨st, G, h, hs, .refl _ _ _⟩
theorem SW.exit {id : Nat} (h : Q (.exit id) st) : SW P Z r n (.exit id) Q st := fun _ G _ _ _ hs => .exit ⟨st, G, h, hs, .refl _ _ _⟩
theorem SW.ret (h : Q .ret st) : SW P Z r n .ret Q st := fun _ G _ _ _ hs => .ret ⟨st, G, h, hs, .refl _ _ _⟩
def seqQ (next : St → Prop) (Q : Ex → St → Prop) : Ex → St → Prop
  | .normal, s => next s
  | e, s => Q e s
theorem SW.seq {x y : Code} (h : SW P Z r n x (seqQ (SW P Z r n y Q) Q) st) : SW P Z r n (.seq x y) Q st := by
  intro N0 G a w hN hs
  refine .seq ((h N0 G a w hN hs).mono fun e a' w' ⟨st', G', hq, hs', he⟩ => ?_)
  cases e with
  | normal => exact (hq N0 G' a' w' (Nat.le_trans hN he.size) hs').mono fun e a2 w2 ⟨st2, G2, k1, k2, k3⟩ => ⟨st2, G2, k1, k2, he.trans k3⟩
  | exit id => exact ⟨st', G', hq, hs', he⟩
  | ret => exact ⟨st', G', hq, hs', he⟩
theorem SW.cond {c : Operand} {x y : Code} {t : Bool} (hc : st.ev c = .bool t) (ho : okX n c = true) (h1 : t = true → SW P Z r n x Q st) (h2 : t = false → SW P Z r n y Q st) :
    SW P Z r n (.cond c x y) Q st := by
  intro N0 G a w hN hs
  have hv := ev_ok hs ho
  rw [hc] at hv
  have := hv.bool_inv
  refine .cond this ?_
  cases t with
  | true => exact h1 rfl N0 G a w hN hs
  | false => exact h2 rfl N0 G a w hN hs
def blockQ (id : Nat) (Q : Ex → St → Prop) : Ex → St → Prop
  | .exit id', s => if id' = id then Q .normal s else Q (.exit id') s
  | e, s => Q e s
theorem SW.block {id : Nat} {c : Code} (h : SW P Z r n c (blockQ id Q) st) : SW P Z r n (.block id c) Q st := by
  intro N0 G a w hN hs
  refine .block ((h N0 G a w hN hs).mono fun e a' w' ⟨st', G', hq, hs', he⟩ => ?_)
  cases e with
  | normal => exact ⟨st', G', hq, hs', he⟩
  | exit id' =>
    simp only [blockQ] at hq
    simp only [Ex.inBlock]
    split
    · rename_i hi; rw [if_pos hi] at hq; exact ⟨st', G', hq, hs', he⟩
    · rename_i hi; rw [if_neg hi] at hq; exact ⟨st', G', hq, hs', he⟩
  | ret => exact ⟨st', G', hq, hs', he⟩
theorem SW.loop {c : Code} (I : Nat → St → Prop) (k : Nat) (h₀ : I k st) (round : ∀ k s, I k s → SW P Z r n c (seqQ (fun s' => ∃ k', k' < k ∧ I k' s') Q) s) : SW P Z r n (.loop c) Q st := by
  intro N0 G a w hN hs
  refine .loop (fun k a' w' => ∃ st' G', I k st' ∧ SR Z N0 n G' st' a' w' ∧ Evo G st.L w G' st'.L w') k ⟨st, G, h₀, hs, .refl _ _ _⟩ ?_
  rintro k a' w' ⟨st', G', hI, hs', he⟩
  refine (round k st' hI N0 G' a' w' (Nat.le_trans hN he.size) hs').mono fun e a2 w2 ⟨st2, G2, k1, k2, k3⟩ => ?_
  cases e with
  | normal => obtain ⟨k', hlt, hI'⟩ := k1; exact ⟨k', hlt, st2, G2, hI', k2, he.trans k3⟩
  | exit id => exact ⟨st2, G2, k1, k2, he.trans k3⟩
  | ret => exact ⟨st2, G2, k1, k2, he.trans k3⟩
theorem SW.region {id : Nat} {ops : Array Oper} (hok : okOps n ops = true) (h : exOps P Z ops ops.toList st (Q .normal)) : SW P Z r n (.region id ops false) Q st := by
  intro N0 G a w hN hs
  refine .region ?_
  exact exOps_sound hok (List.range ops.size) ops.toList G st a w hs (by simp) (fun k h1 h2 => by simp at h1; simp [h1]) h
end
end Go.Pv
