import Derived.Test.YtfjkplemepcmeaaPv0
set_option linter.unusedVariables false
set_option linter.unusedSimpArgs false
set_option linter.unusedSectionVars false
/- What a code does, step by step, in a frame of a function or of a round of a range over a function: the rules. -/
namespace Go.Pv

def atr (b : Frame) (a : Act) (todo : List Item) : Frame :=
  { fn := b.fn, tmps := a.tmps, todo, defers := a.defers, mode := .run, kind := b.kind, roundOf := b.roundOf }

theorem eval_atr (b : Frame) (a : Act) (todo : List Item) (x : Operand) : (atr b a todo).eval x = a.eval x := by
  cases x <;> rfl
theorem eval_atr' (b : Frame) (a : Act) (todo : List Item) : (atr b a todo).eval = a.eval := funext (eval_atr b a todo)

section moves
variable {P : Program} {b : Frame} {a : Act} {k : List Item} {cs : List Frame} {w : World}
theorem step_skip : step P (lone (atr b a (.code .skip :: k)) cs w) = .next (lone (atr b a k) cs w) :=
  step_lone_go (by simp [stepG, stepG.exec, atr])
theorem step_inBlock {id : Nat} : step P (lone (atr b a (.inBlock id :: k)) cs w) = .next (lone (atr b a k) cs w) :=
  step_lone_go (by simp [stepG, stepG.exec, atr])
theorem step_seq {x y : Code} :
    step P (lone (atr b a (.code (.seq x y) :: k)) cs w) = .next (lone (atr b a (.code x :: .code y :: k)) cs w) :=
  step_lone_go (by simp [stepG, stepG.exec, atr])
theorem step_cond {c : Operand} {x y : Code} {t : Bool} (h : a.eval c = .bool t) :
    step P (lone (atr b a (.code (.cond c x y) :: k)) cs w) = .next (lone (atr b a (.code (if t then x else y) :: k)) cs w) :=
  step_lone_go (by
    have := eval_atr b a (.code (.cond c x y) :: k) c
    simp only [atr] at this
    simp [stepG, stepG.exec, atr, this, h])
theorem step_block {id : Nat} {c : Code} :
    step P (lone (atr b a (.code (.block id c) :: k)) cs w) = .next (lone (atr b a (.code c :: .inBlock id :: k)) cs w) :=
  step_lone_go (by simp [stepG, stepG.exec, atr])
theorem step_loop {c : Code} :
    step P (lone (atr b a (.code (.loop c) :: k)) cs w) = .next (lone (atr b a (.code c :: .inLoop c :: k)) cs w) :=
  step_lone_go (by simp [stepG, stepG.exec, atr])
theorem step_inLoop {c : Code} :
    step P (lone (atr b a (.inLoop c :: k)) cs w) = .next (lone (atr b a (.code c :: .inLoop c :: k)) cs w) :=
  step_lone_go (by simp [stepG, stepG.exec, atr])
theorem step_exit {id : Nat} {k' : List Item} (h : exitTo id k = some k') :
    step P (lone (atr b a (.code (.exit id) :: k)) cs w) = .next (lone (atr b a k') cs w) :=
  step_lone_go (by simp [stepG, stepG.exec, atr, h])
end moves

inductive Ex where
  | normal
  | exit (id : Nat)
  | ret
  deriving DecidableEq

def Arr (P : Program) (m : Machine) (b : Frame) (k : List Item) (cs : List Frame) : Ex → Act → World → Prop
  | .normal, a, w => Steps P m (lone (atr b a k) cs w)
  | .exit id, a, w => ∃ k', exitTo id k' = exitTo id k ∧ Steps P m (lone (atr b a (.code (.exit id) :: k')) cs w)
  | .ret, a, w => ∃ k', Steps P m (lone (atr b a (.code .ret :: k')) cs w)

theorem Arr.of_steps {P : Program} {m m₁ : Machine} {b : Frame} {k : List Item} {cs : List Frame} {e : Ex} {a : Act} {w : World}
    (h : Steps P m m₁) (h' : Arr P m₁ b k cs e a w) : Arr P m b k cs e a w := by
  cases e with
  | normal => exact h.trans h'
  | exit id => obtain ⟨k', hk, hs⟩ := h'; exact ⟨k', hk, h.trans hs⟩
  | ret => obtain ⟨todo, hs⟩ := h'; exact ⟨todo, h.trans hs⟩

/-- The code, begun here, ends in one of these ways. r: the round's loop, if it is a round's frame. -/
def RW (P : Program) (r : Option Nat) (c : Code) (Q : Ex → Act → World → Prop) (a : Act) (w : World) : Prop :=
  ∀ (b : Frame) (k : List Item) (cs : List Frame), b.roundOf = r →
    ∃ e a' w', Q e a' w' ∧ Arr P (lone (atr b a (.code c :: k)) cs w) b k cs e a' w'

section rules
variable {P : Program} {r : Option Nat} {Q : Ex → Act → World → Prop} {a : Act} {w : World}
theorem RW.mono {c : Code} {Q' : Ex → Act → World → Prop} (h : RW P r c Q a w) (hq : ∀ e a w, Q e a w → Q' e a w) : RW P r c Q' a w :=
  fun b k cs hb => let ⟨e, a', w', q, s⟩ := h b k cs hb; ⟨e, a', w', hq _ _ _ q, s⟩
theorem RW.skip (h : Q .normal a w) : RW P r .skip Q a w := fun _ _ _ _ => ⟨.normal, a, w, h, .one step_skip⟩
theorem RW.exit {id : Nat} (h : Q (.exit id) a w) : RW P r (.exit id) Q a w := fun _ k _ _ => ⟨.exit id, a, w, h, k, rfl, .refl _ _⟩
theorem RW.ret (h : Q .ret a w) : RW P r .ret Q a w := fun _ k _ _ => ⟨.ret, a, w, h, k, .refl _ _⟩

def Ex.then (next : Act → World → Prop) (Q : Ex → Act → World → Prop) : Ex → Act → World → Prop
  | .normal, a, w => next a w
  | e, a, w => Q e a w

theorem Arr.pass {m : Machine} {b : Frame} {x : Item} {k : List Item} {cs : List Frame} {e : Ex} (hn : e ≠ .normal)
    (hx : ∀ id, exitTo id (x :: k) = exitTo id k) (h : Arr P m b (x :: k) cs e a w) : Arr P m b k cs e a w := by
  cases e with
  | normal => exact absurd rfl hn
  | exit id => obtain ⟨k', hk, hs⟩ := h; exact ⟨k', by rw [hk, hx], hs⟩
  | ret => exact h

theorem RW.seq {x y : Code} (h : RW P r x (Ex.then (RW P r y Q) Q) a w) : RW P r (.seq x y) Q a w := by
  intro b k cs hb
  obtain ⟨e, a₁, w₁, hq, harr⟩ := h b (.code y :: k) cs hb
  cases e with
  | normal =>
    obtain ⟨e₂, a₂, w₂, hq₂, harr₂⟩ := hq b k cs hb
    exact ⟨e₂, a₂, w₂, hq₂, .of_steps (.head step_seq harr) harr₂⟩
  | exit id => exact ⟨_, a₁, w₁, hq, .of_steps (.one step_seq) (.pass (x := .code y) (by simp) (fun _ => rfl) harr)⟩
  | ret => exact ⟨_, a₁, w₁, hq, .of_steps (.one step_seq) (.pass (x := .code y) (by simp) (fun _ => rfl) harr)⟩

theorem RW.cond {c : Operand} {x y : Code} {t : Bool} (hc : a.eval c = .bool t) (h : RW P r (if t then x else y) Q a w) :
    RW P r (.cond c x y) Q a w :=
  fun b k cs hb => let ⟨e, a', w', q, s⟩ := h b k cs hb; ⟨e, a', w', q, .of_steps (.one (step_cond hc)) s⟩

def Ex.inBlock (id : Nat) (Q : Ex → Act → World → Prop) : Ex → Act → World → Prop
  | .exit id', a, w => if id' = id then Q .normal a w else Q (.exit id') a w
  | e, a, w => Q e a w

theorem RW.block {id : Nat} {c : Code} (h : RW P r c (Ex.inBlock id Q) a w) : RW P r (.block id c) Q a w := by
  intro b k cs hb
  obtain ⟨e, a₁, w₁, hq, harr⟩ := h b (.inBlock id :: k) cs hb
  cases e with
  | normal => exact ⟨.normal, a₁, w₁, hq, .head step_block (Steps.trans harr (.one step_inBlock))⟩
  | exit id' =>
    obtain ⟨k', hk, hs⟩ := harr
    by_cases hid : id' = id
    · simp only [Ex.inBlock, hid, if_true] at hq
      refine ⟨.normal, a₁, w₁, hq, .head step_block (hs.trans (.one (step_exit ?_)))⟩
      rw [hk]; simp [exitTo, hid]
    · simp only [Ex.inBlock, hid, if_false] at hq
      refine ⟨.exit id', a₁, w₁, hq, k', ?_, .head step_block hs⟩
      have : (id == id') = false := by simp; exact fun h => hid h.symm
      rw [hk]; simp [exitTo, this]
  | ret => obtain ⟨k', hs⟩ := harr; exact ⟨_, a₁, w₁, hq, k', .head step_block hs⟩

theorem RW.loop {c : Code} (I : Nat → Act → World → Prop) (n : Nat) (h₀ : I n a w)
    (round : ∀ n a w, I n a w → RW P r c (Ex.then (fun a' w' => ∃ n', n' < n ∧ I n' a' w') Q) a w) : RW P r (.loop c) Q a w := by
  intro b k cs hb
  have key : ∀ n a w, I n a w → ∃ e a' w', Q e a' w' ∧ Arr P (lone (atr b a (.code c :: .inLoop c :: k)) cs w) b k cs e a' w' := by
    intro n
    induction n using Nat.strongRecOn with
    | _ n ih =>
      intro a w hI
      obtain ⟨e, a₁, w₁, hq, harr⟩ := round n a w hI b (.inLoop c :: k) cs hb
      cases e with
      | normal =>
        obtain ⟨n', hlt, hI₁⟩ := hq
        obtain ⟨e₂, a₂, w₂, hq₂, harr₂⟩ := ih n' hlt a₁ w₁ hI₁
        exact ⟨e₂, a₂, w₂, hq₂, .of_steps (Steps.trans harr (.one step_inLoop)) harr₂⟩
      | exit id => exact ⟨_, a₁, w₁, hq, .pass (x := .inLoop c) (by simp) (fun _ => rfl) harr⟩
      | ret => exact ⟨_, a₁, w₁, hq, .pass (x := .inLoop c) (by simp) (fun _ => rfl) harr⟩
  obtain ⟨e, a', w', hq, harr⟩ := key n a w h₀
  exact ⟨e, a', w', hq, .of_steps (.one step_loop) harr⟩
end rules

/-- A call of a function, strictly: it returns. -/
def Calls0 (P : Program) (f : FuncId) (args : Array Value) (w : World) (R : Value → World → Prop) : Prop :=
  ∀ cs, ∃ v w' fr, R v w' ∧ Steps P (lone (Frame.enter P f args .normal) cs w) (lone fr cs w') ∧ fr.fn = f ∧ fr.leaving P w' (.returned v)

theorem Calls0.mono {P : Program} {f : FuncId} {args : Array Value} {w : World} {R R' : Value → World → Prop}
    (h : Calls0 P f args w R) (hr : ∀ v w', R v w' → R' v w') : Calls0 P f args w R' :=
  fun cs => let ⟨v, w', fr, q, rest⟩ := h cs; ⟨v, w', fr, hr _ _ q, rest⟩

theorem Calls0.calls {P : Program} {f : FuncId} {args : Array Value} {w : World} {R : Value → World → Prop}
    (h : Calls0 P f args w R) : Calls P f args w (fun e w' => ∃ v, e = .returned v ∧ R v w') :=
  fun cs => let ⟨v, w', fr, q, s, hf, hl⟩ := h cs; ⟨.returned v, w', fr, ⟨v, rfl, q⟩, s, hf, hl⟩

theorem Calls0.of_calls {P : Program} {f : FuncId} {args : Array Value} {w : World} {R : Value → World → Prop}
    (h : Calls P f args w (fun e w' => ∃ v, e = .returned v ∧ R v w')) : Calls0 P f args w R := by
  intro cs
  obtain ⟨e, w', fr, ⟨v, rfl, q⟩, s, hf, hl⟩ := h cs
  exact ⟨v, w', fr, q, s, hf, hl⟩

/-- A round of a range over a function. -/
def Round0 (P : Program) (l : Nat) (f : FuncId) (tmps : Array Value) (assign body : Code) (w : World) (R : Value → World → Prop) : Prop :=
  ∀ c cs, ∃ v w', R v w' ∧ Steps P (lone (Frame.round l f tmps assign body .normal) (c :: cs) w) (lone (c.finish v) cs w')

/-- An operation, carried out. -/
def OpR (P : Program) (s : Sem Next) (w : World) (R : Value → World → Prop) : Prop :=
  match s.run P w with
  | .ok (.value v) w' => R v w'
  | .ok .skip w' => R undef w'
  | .ok (.enter f args) w' => Calls0 P f args w' R
  | .ok (.round l f tmps assign body) w' => Round0 P l f tmps assign body w' R
  | _ => False

theorem OpR.mono {P : Program} {s : Sem Next} {w : World} {R R' : Value → World → Prop} (h : OpR P s w R) (hr : ∀ v w', R v w' → R' v w') : OpR P s w R' := by
  unfold OpR at *
  split at h
  · exact hr _ _ h
  · exact hr _ _ h
  · exact h.mono hr
  · exact fun c cs => let ⟨v, w', q, s⟩ := h c cs; ⟨v, w', hr _ _ q, s⟩
  · exact h.elim

def isDefer : Op → Bool
  | .defer _ => true
  | _ => false

section ops
variable {P : Program} {b : Frame} {a : Act} {k : List Item} {cs : List Frame} {w : World} {ops : Array Oper}
theorem step_region {id : Nat} :
    step P (lone (atr b a (.code (.region id ops false) :: k)) cs w) = .next (lone (atr b a (.inRegion ops (List.range ops.size) :: k)) cs w) :=
  step_lone_go (by simp [stepG, stepG.exec, atr])
theorem step_region_draw {id : Nat} :
    step P (lone (atr b a (.code (.region id ops true) :: k)) cs w) =
      .next (lone (atr b a (.inRegion ops (Region.schedule (P.follows .mixedOrders) ops (w.tape w.drawn (.order b.fn id))) :: k)) cs { w with drawn := w.drawn + 1 }) :=
  step_lone_go (by simp [stepG, stepG.exec, atr, choose, Sem.run, Question.forced, Question.cut])
theorem step_region_end : step P (lone (atr b a (.inRegion ops [] :: k)) cs w) = .next (lone (atr b a k) cs w) :=
  step_lone_go (by simp [stepG, stepG.exec, atr])
theorem finish_atr (i : Nat) (rest : List Nat) (v : Value) :
    (atr b a (.inRegion ops (i :: rest) :: k)).finish v = atr b (a.put ((ops[i]?).bind (·.dst)) v) (.inRegion ops rest :: k) := by
  cases h : (ops[i]?).bind (·.dst) <;> simp [Frame.finish, atr, Act.put, h]
theorem step_op_skip {i : Nat} {rest : List Nat} (h : ((ops[i]?).map (Region.wanted · (yielded ops a.tmps))).getD false = false) :
    step P (lone (atr b a (.inRegion ops (i :: rest) :: k)) cs w) =
      .next (lone (atr b (a.put ((ops[i]?).bind (·.dst)) undef) (.inRegion ops rest :: k)) cs w) := by
  rw [← finish_atr]
  exact step_lone_go (by
    have h' := h
    simp only [atr] at *
    simp [stepG, stepG.exec, h'])
theorem stepG_op {i : Nat} {rest : List Nat} {o : Oper} (ho : ops[i]? = some o) (hw : Region.wanted o (yielded ops a.tmps) = true) (hd : isDefer o.op = false) :
    stepG P true { frame := atr b a (.inRegion ops (i :: rest) :: k), callers := cs, status := .running, dying := none } w =
      stepG.apply P true (atr b a (.inRegion ops (i :: rest) :: k)) cs none (execOp a.eval o) w := by
  have he := eval_atr' b a (.inRegion ops (i :: rest) :: k)
  simp only [atr] at he
  cases hr : b.roundOf with
  | none => rw [hr] at he; simp [stepG, stepG.exec, stepG.oper, Frame.oper?, atr, ho, hw, he, hr]
  | some l =>
    rw [hr] at he
    cases hop : o.op with
    | defer c => rw [hop] at hd; simp [isDefer] at hd
    | _ => simp [stepG, stepG.exec, stepG.oper, Frame.oper?, atr, ho, hw, he, hr, hop]

theorem OpR.steps {i : Nat} {rest : List Nat} {o : Oper} {R : Value → World → Prop} (ho : ops[i]? = some o) (hw : Region.wanted o (yielded ops a.tmps) = true)
    (hd : isDefer o.op = false) (h : OpR P (execOp a.eval o) w R) :
    ∃ v w', R v w' ∧ Steps P (lone (atr b a (.inRegion ops (i :: rest) :: k)) cs w) (lone (atr b (a.put o.dst v) (.inRegion ops rest :: k)) cs w') := by
  have hg := stepG_op (P := P) (b := b) (k := k) (cs := cs) (w := w) (rest := rest) ho hw hd
  have hfin : ∀ v, (atr b a (.inRegion ops (i :: rest) :: k)).finish v = atr b (a.put o.dst v) (.inRegion ops rest :: k) := by
    intro v; rw [finish_atr, ho]; rfl
  unfold OpR at h
  split at h
  · rename_i v w' hr
    refine ⟨v, w', h, .one (step_lone_go ?_)⟩
    rw [hg, ← hfin]; simp [stepG.apply, hr]
  · rename_i w' hr
    refine ⟨_, w', h, .one (step_lone_go ?_)⟩
    rw [hg, ← hfin]; simp [stepG.apply, hr]
  · rename_i f args w' hr
    obtain ⟨v, w'', fr, hR, hsteps, _, hleave⟩ := h (atr b a (.inRegion ops (i :: rest) :: k) :: cs)
    have henter : step P (lone (atr b a (.inRegion ops (i :: rest) :: k)) cs w) =
        .next (lone (Frame.enter P f args .normal) (atr b a (.inRegion ops (i :: rest) :: k) :: cs) w') :=
      step_lone_go (by rw [hg]; simp [stepG.apply, hr, atr])
    refine ⟨v, w'', hR, .head henter (hsteps.trans (.one ?_))⟩
    rw [← hfin]; exact step_leave_returned hleave
  · rename_i l f tmps assign body w' hr
    obtain ⟨v, w'', hR, hsteps⟩ := h (atr b a (.inRegion ops (i :: rest) :: k)) cs
    have henter : step P (lone (atr b a (.inRegion ops (i :: rest) :: k)) cs w) =
        .next (lone (Frame.round l f tmps assign body .normal) (atr b a (.inRegion ops (i :: rest) :: k) :: cs) w') :=
      step_lone_go (by rw [hg]; simp [stepG.apply, hr, atr])
    refine ⟨v, w'', hR, .head henter ?_⟩
    rw [← hfin]; exact hsteps
  · exact h.elim
end ops

/-- The operations of a region, in this order. -/
def RWops (P : Program) (ops : Array Oper) (Q : Act → World → Prop) : List Nat → Act → World → Prop
  | [], a, w => Q a w
  | i :: rest, a, w =>
    match ops[i]? with
    | none => RWops P ops Q rest a w
    | some o =>
      if Region.wanted o (yielded ops a.tmps) then isDefer o.op = false ∧ OpR P (execOp a.eval o) w (fun v w' => RWops P ops Q rest (a.put o.dst v) w')
      else RWops P ops Q rest (a.put o.dst undef) w

theorem RWops.steps {P : Program} {ops : Array Oper} {Q : Act → World → Prop} (l : List Nat) :
    ∀ (a : Act) (w : World), RWops P ops Q l a w → ∀ (b : Frame) (k : List Item) (cs : List Frame),
      ∃ a' w', Q a' w' ∧ Steps P (lone (atr b a (.inRegion ops l :: k)) cs w) (lone (atr b a' k) cs w') := by
  induction l with
  | nil => exact fun a w h b k cs => ⟨a, w, h, .one step_region_end⟩
  | cons i rest ih =>
    intro a w h b k cs
    simp only [RWops] at h
    cases ho : ops[i]? with
    | none =>
      simp only [ho] at h
      obtain ⟨a', w', hq, harr⟩ := ih a w h b k cs
      have hs := step_op_skip (P := P) (b := b) (a := a) (k := k) (cs := cs) (w := w) (ops := ops) (i := i) (rest := rest) (by simp [ho])
      simp only [ho, Option.bind_none, Act.put] at hs
      exact ⟨a', w', hq, .head hs harr⟩
    | some o =>
      simp only [ho] at h
      by_cases hw : Region.wanted o (yielded ops a.tmps) = true
      · simp only [hw, if_true] at h
        obtain ⟨v, w1, h1, hs1⟩ := OpR.steps (b := b) (k := k) (cs := cs) (rest := rest) ho hw h.1 h.2
        obtain ⟨a', w', hq, harr⟩ := ih _ _ h1 b k cs
        exact ⟨a', w', hq, hs1.trans harr⟩
      · simp only [hw, if_false, Bool.false_eq_true] at h
        obtain ⟨a', w', hq, harr⟩ := ih _ _ h b k cs
        have hs := step_op_skip (P := P) (b := b) (a := a) (k := k) (cs := cs) (w := w) (ops := ops) (i := i) (rest := rest)
          (by simp [ho]; simpa using hw)
        simp only [ho, Option.bind_some] at hs
        exact ⟨a', w', hq, .head hs harr⟩

theorem RW.region {P : Program} {r : Option Nat} {id : Nat} {ops : Array Oper} {Q : Ex → Act → World → Prop} {a : Act} {w : World}
    (h : RWops P ops (Q .normal) (List.range ops.size) a w) : RW P r (.region id ops false) Q a w :=
  fun b k cs _ => let ⟨a', w', q, s⟩ := RWops.steps _ a w h b k cs; ⟨.normal, a', w', q, .head step_region s⟩

theorem RW.region_draw {P : Program} {r : Option Nat} {id : Nat} {ops : Array Oper} {Q : Ex → Act → World → Prop} {a : Act} {w : World}
    (h : ∀ t, RWops P ops (Q .normal) (Region.schedule (P.follows .mixedOrders) ops t) a { w with drawn := w.drawn + 1 }) : RW P r (.region id ops true) Q a w :=
  fun b k cs _ => let ⟨a', w', q, s⟩ := RWops.steps _ a _ (h _) b k cs; ⟨.normal, a', w', q, .head step_region_draw s⟩

/-- One operation at a place. -/
def RWop (P : Program) (ops : Array Oper) (i : Nat) (K : Act → World → Prop) (a : Act) (w : World) : Prop :=
  match ops[i]? with
  | none => K a w
  | some o => if Region.wanted o (yielded ops a.tmps) then isDefer o.op = false ∧ OpR P (execOp a.eval o) w (fun v w' => K (a.put o.dst v) w') else K (a.put o.dst undef) w

theorem RWops_cons {P : Program} {ops : Array Oper} {Q : Act → World → Prop} (i : Nat) (rest : List Nat) (a : Act) (w : World) :
    RWops P ops Q (i :: rest) a w = RWop P ops i (RWops P ops Q rest) a w := by
  cases h : ops[i]? <;> simp [RWops, RWop, h]

theorem RWop.mono {P : Program} {ops : Array Oper} {i : Nat} {a : Act} {w : World} {K K' : Act → World → Prop} (h : ∀ a w, K a w → K' a w)
    (hh : RWop P ops i K a w) : RWop P ops i K' a w := by
  unfold RWop at *
  split
  · exact h _ _ (by simpa [*] using hh)
  · rename_i o ho
    simp only [ho] at hh
    split
    · rename_i hw; simp only [hw, if_true] at hh; exact ⟨hh.1, hh.2.mono (fun _ _ => h _ _)⟩
    · rename_i hw; simp only [hw] at hh; exact h _ _ hh

/-- The operations, in every order that the edges let. -/
def RWany (P : Program) (md : Region.Mode) (ops : Array Oper) (Q : Act → World → Prop) : Nat → Array Bool → Act → World → Prop
  | 0, listed, a, w => Region.ready md ops listed = [] ∧ Q a w
  | fuel + 1, listed, a, w =>
    (Region.ready md ops listed = [] → Q a w) ∧
    ∀ i ∈ Region.ready md ops listed, RWop P ops i (RWany P md ops Q fuel (listed.setIfInBounds i true)) a w

theorem RWany.sound {P : Program} {md : Region.Mode} {ops : Array Oper} {Q : Act → World → Prop} : ∀ (fuel t : Nat) (listed : Array Bool) (a : Act) (w : World), RWany P md ops Q fuel listed a w →
    RWops P ops Q (Region.linearise.go md ops fuel t listed []) a w := by
  intro fuel
  induction fuel with
  | zero => intro t listed a w h; simpa [Region.linearise.go, RWops] using h.2
  | succ fuel ih =>
    intro t listed a w h
    obtain ⟨h₀, h₁⟩ := h
    simp only [Region.linearise.go]
    change RWops P ops Q (match (Region.ready md ops listed)[t % (Region.ready md ops listed).length]? with
      | some i => Region.linearise.go md ops fuel (t / (Region.ready md ops listed).length) (listed.setIfInBounds i true) [i]
      | none => [].reverse) a w
    cases hi : (Region.ready md ops listed)[t % (Region.ready md ops listed).length]? with
    | none =>
      have hnil : Region.ready md ops listed = [] := by
        cases hr : Region.ready md ops listed with
        | nil => rfl
        | cons x xs =>
          rw [hr] at hi
          have hlt : t % (x :: xs).length < (x :: xs).length := Nat.mod_lt _ (by simp)
          simp at hi
          simp at hlt
          omega
      simpa [RWops] using h₀ hnil
    | some i =>
      simp only []
      rw [linearise_go_acc, List.reverse_singleton, List.singleton_append, RWops_cons]
      exact RWop.mono (fun a w => ih _ _ a w) (h₁ i (List.mem_of_getElem? hi))

theorem RW.region_any {P : Program} {r : Option Nat} {id : Nat} {ops : Array Oper} {Q : Ex → Act → World → Prop} {a : Act} {w : World} (hm : P.follows .mixedOrders = true)
    (h : RWany P .any ops (Q .normal) ops.size (Array.replicate ops.size false) a { w with drawn := w.drawn + 1 }) : RW P r (.region id ops true) Q a w :=
  RW.region_draw fun t => by
    simp only [Region.schedule, hm, Bool.true_or, if_true]
    exact RWany.sound ops.size t _ a _ h
end Go.Pv
