import Derived.Test.YtfjkplemepcmeaaPv16
import Derived.KernelRfl
set_option linter.unusedVariables false
set_option linter.unusedSimpArgs false
set_option linter.unusedSectionVars false
/- Walking through a code: one step a rule; what can be reckoned is reckoned by the rule itself. -/
namespace Go.Pv
variable {P : Program} {Z : Nat → Go.Obj → Prop}

/-- A call's contract: just this result, just these objects. -/
structure SE (P : Program) (Z : Nat → Go.Obj → Prop) (f : FuncId) (args : List V) (L : List Obj) (v : V) (L' : List Obj) : Prop where
  out : SC P Z f args L (fun u M => u = v ∧ M = L')
/-- The operations that are left, and the state. -/
structure XO (P : Program) (Z : Nat → Go.Obj → Prop) (ops : Array Oper) (l : List Oper) (env : Nat → V) (L : List Obj) (K : St → Prop) : Prop where
  out : exOps P Z ops l ⟨env, L⟩ K
structure AO (P : Program) (Z : Nat → Go.Obj → Prop) (ops : Array Oper) (l : List Oper) (env : Nat → V) (L : List Obj) (K : St → Prop) : Prop where
  out : exA P Z ops l ⟨env, L⟩ K
/-- A code, and the state. -/
structure CW (P : Program) (Z : Nat → Go.Obj → Prop) (r : Option Nat) (n : Nat) (c : Code) (Q : Ex → St → Prop) (env : Nat → V) (L : List Obj) : Prop where
  out : SW P Z r n c Q ⟨env, L⟩

section code
variable {r : Option Nat} {n : Nat} {Q : Ex → St → Prop} {env : Nat → V} {L : List Obj} {x y : Code} {id : Nat} {ops : Array Oper}
theorem W.rs (h : XO P Z ops ops.toList env L (fun s => CW P Z r n y Q s.env s.L)) (hok : okOps n ops = true := by kernel_rfl) : CW P Z r n (.seq (.region id ops false) y) Q env L :=
  ⟨SW.seq (SW.region hok (exOps_mono h.out fun _ h => h.out))⟩
where
  exOps_mono {P : Program} {Z : Nat → Go.Obj → Prop} {ops : Array Oper} {K K' : St → Prop} : ∀ {l : List Oper} {st : St}, exOps P Z ops l st K → (∀ s, K s → K' s) → exOps P Z ops l st K'
    | [], _, h, hk => hk _ h
    | o :: l, st, h, hk => by
      simp only [exOps] at h ⊢
      split
      · rename_i hw
        rw [if_pos hw] at h
        unfold exOp at *
        split at h
        · exact h.mono fun _ _ h => exOps_mono h hk
        · split at h
          · exact h.mono fun _ _ h => exOps_mono h hk
          · exact h.mono fun _ _ h => exOps_mono h hk
      · rename_i hw
        rw [if_neg hw] at h
        exact exOps_mono h hk
theorem W.re (h : XO P Z ops ops.toList env L (Q .normal)) (hok : okOps n ops = true := by kernel_rfl) : CW P Z r n (.region id ops false) Q env L := ⟨SW.region hok h.out⟩
theorem exA_mono {ops : Array Oper} {K K' : St → Prop} : ∀ {l : List Oper} {st : St}, exA P Z ops l st K → (∀ s, K s → K' s) → exA P Z ops l st K'
  | [], _, h, hk => hk _ h
  | o :: l, st, h, hk => by
    simp only [exA] at h ⊢
    split
    · rename_i hw
      rw [if_pos hw] at h
      obtain ⟨v, h1, h2⟩ := h
      exact ⟨v, h1, exA_mono h2 hk⟩
    · rename_i hw
      rw [if_neg hw] at h
      exact exA_mono h hk
theorem W.ds (m : Nat) (hm : P.follows .mixedOrders = true) (hok : drawOk n ops m = true) (h : AO P Z ops (ops.toList.take m) env L (fun s => XO P Z ops (ops.toList.drop m) s.env s.L (fun s => CW P Z r n y Q s.env s.L))) :
    CW P Z r n (.seq (.region id ops true) y) Q env L := ⟨SW.seq (SW.draw m hm hok (exA_mono h.out fun _ h => W.rs.exOps_mono h.out fun _ h => h.out))⟩
theorem W.de (m : Nat) (hm : P.follows .mixedOrders = true) (hok : drawOk n ops m = true) (h : AO P Z ops (ops.toList.take m) env L (fun s => XO P Z ops (ops.toList.drop m) s.env s.L (Q .normal))) :
    CW P Z r n (.region id ops true) Q env L := ⟨SW.draw m hm hok (exA_mono h.out fun _ h => h.out)⟩
def sqK (P : Program) (Z : Nat → Go.Obj → Prop) (r : Option Nat) (n : Nat) (y : Code) (Q : Ex → St → Prop) : Ex → St → Prop
  | .normal, s => CW P Z r n y Q s.env s.L
  | e, s => Q e s
def blK (id : Nat) (Q : Ex → St → Prop) : Ex → St → Prop
  | .exit i, s => if i = id then Q .normal s else Q (.exit i) s
  | e, s => Q e s
def lpK (J : Nat → St → Prop) (k : Nat) (Q : Ex → St → Prop) : Ex → St → Prop
  | .normal, s => ∃ k', k' < k ∧ J k' s
  | e, s => Q e s
theorem SW.mono {Q' : Ex → St → Prop} {c : Code} {st : St} (h : SW P Z r n c Q st) (hq : ∀ e s, Q e s → Q' e s) : SW P Z r n c Q' st := by
  intro N0 G a w hN hs; exact (h N0 G a w hN hs).mono fun e a' w' ⟨st', G', h1, h2⟩ => ⟨st', G', hq _ _ h1, h2⟩
theorem W.sq (h : CW P Z r n x (sqK P Z r n y Q) env L) : CW P Z r n (.seq x y) Q env L :=
  ⟨SW.seq (SW.mono h.out fun e s h => by cases e with | normal => exact (h : CW P Z r n y Q s.env s.L).out | exit _ => exact h | ret => exact h)⟩
theorem W.bl {c : Code} (h : CW P Z r n c (blK id Q) env L) : CW P Z r n (.block id c) Q env L :=
  ⟨SW.block (SW.mono h.out fun e s h => by cases e <;> exact h)⟩
theorem W.cd {c : Operand} {t : Bool} (hc : St.ev ⟨env, L⟩ c = .bool t) (h1 : t = true → CW P Z r n x Q env L) (h2 : t = false → CW P Z r n y Q env L)
    (ho : okX n c = true := by kernel_rfl) : CW P Z r n (.cond c x y) Q env L := ⟨SW.cond hc ho (fun h => (h1 h).out) (fun h => (h2 h).out)⟩
theorem W.ct {c : Operand} (hc : St.ev ⟨env, L⟩ c = .bool true) (h1 : CW P Z r n x Q env L) (ho : okX n c = true := by kernel_rfl) : CW P Z r n (.cond c x y) Q env L :=
  ⟨SW.cond hc ho (fun _ => h1.out) (by simp)⟩
theorem W.cf {c : Operand} (hc : St.ev ⟨env, L⟩ c = .bool false) (h1 : CW P Z r n y Q env L) (ho : okX n c = true := by kernel_rfl) : CW P Z r n (.cond c x y) Q env L :=
  ⟨SW.cond hc ho (by simp) (fun _ => h1.out)⟩
theorem W.lp {c : Code} (J : Nat → St → Prop) (k : Nat) (h₀ : J k ⟨env, L⟩) (round : ∀ k env L, J k ⟨env, L⟩ → CW P Z r n c (lpK J k Q) env L) : CW P Z r n (.loop c) Q env L :=
  ⟨SW.loop J k h₀ (fun k s hs => SW.mono (round k s.env s.L hs).out fun e s h => by cases e <;> exact h)⟩
theorem W.skip (h : Q .normal ⟨env, L⟩) : CW P Z r n .skip Q env L := ⟨SW.skip h⟩
theorem W.exit (h : Q (.exit id) ⟨env, L⟩) : CW P Z r n (.exit id) Q env L := ⟨SW.exit h⟩
theorem W.ret (h : Q .ret ⟨env, L⟩) : CW P Z r n .ret Q env L := ⟨SW.ret h⟩
theorem W.mono {Q' : Ex → St → Prop} {c : Code} (h : CW P Z r n c Q env L) (hq : ∀ e s, Q e s → Q' e s) : CW P Z r n c Q' env L := ⟨SW.mono h.out hq⟩
end code

section steps
variable {ops : Array Oper} {rest : List Oper} {env : Nat → V} {L L' : List Obj} {K : St → Prop} {d : Tmp} {op : Op} {ty : TypeId} {pos : String} {af : Array Edge} {v : V}

theorem X.nil (h : K ⟨env, L⟩) : XO P Z ops [] env L K := ⟨h⟩
theorem X.go0 (h : pop P L (St.ev ⟨env, L⟩) op = some (v, L')) (hK : XO P Z ops rest (upd env d v) L' K) : XO P Z ops (⟨some d, op, ty, pos, af, none⟩ :: rest) env L K := by
  refine ⟨?_⟩
  have hx : exOp P Z ⟨some d, op, ty, pos, af, none⟩ ⟨env, L⟩ (fun v L' => exOps P Z ops rest { env := (St.put ⟨env, L⟩ (some d) v).env, L := L' } K) := by
    unfold exOp
    split
    · rename_i f args ats heq
      simp only at heq
      subst heq
      simp [pop] at h
    · rw [h]; exact .of hK.out
  simp only [exOps, pwanted, if_true]
  exact hx
theorem X.go {v0 : V} {L0 : List Obj} (h : pop P L (St.ev ⟨env, L⟩) op = some (v0, L0)) (hK : XO P Z ops rest (upd env d v) L' K) (hv : v0 = v := by ((conv => lhs; whnf) <;> rfl)) (hL : L0 = L' := by ((try simp (decide := true) only [St.ev, upd, reduceIte, List.getD_cons_zero, List.getD_cons_succ, List.getD_nil, V.ofVal, V.ofVal1, V.ofVals, Option.getD_some, Option.map_some, List.nil_append, List.cons_append, List.set_cons_zero, List.set_cons_succ, setAt, List.take_succ_cons, List.take_zero, List.take_nil, List.drop_succ_cons, List.drop_zero, List.drop_nil, List.length_cons, List.length_nil, Nat.reduceAdd, Nat.zero_add, Nat.add_zero, V.cells, List.map_cons, List.map_nil, List.append_nil]) <;> rfl)) :
    XO P Z ops (⟨some d, op, ty, pos, af, none⟩ :: rest) env L K := X.go0 (by rw [h, hv, hL]) hK
/-- A value goes on to another slot. -/
theorem X.mv {x : Operand} (hK : XO P Z ops rest (upd env d v) L K) (hv : St.ev ⟨env, L⟩ x = v := by ((conv => lhs; whnf) <;> rfl)) :
    XO P Z ops (⟨some d, .move x, ty, pos, af, none⟩ :: rest) env L K := X.go0 (by rw [← hv]; rfl) hK
theorem X.as {x : Operand} (hK : XO P Z ops rest (upd env d v) L K) (hv : St.ev ⟨env, L⟩ x = v := by ((conv => lhs; whnf) <;> rfl)) :
    XO P Z ops (⟨some d, .assign x, ty, pos, af, none⟩ :: rest) env L K := X.go0 (by rw [← hv]; rfl) hK
/-- An operation without a result (a store). -/
theorem X.st0 (h : pop P L (St.ev ⟨env, L⟩) op = some (v, L')) (hK : XO P Z ops rest env L' K) : XO P Z ops (⟨none, op, ty, pos, af, none⟩ :: rest) env L K := by
  refine ⟨?_⟩
  have hx : exOp P Z ⟨none, op, ty, pos, af, none⟩ ⟨env, L⟩ (fun v L' => exOps P Z ops rest { env := (St.put ⟨env, L⟩ none v).env, L := L' } K) := by
    unfold exOp
    split
    · rename_i f args ats heq
      simp only at heq
      subst heq
      simp [pop] at h
    · rw [h]; exact .of hK.out
  simp only [exOps, pwanted, if_true]
  exact hx
theorem X.st {v0 : V} {L0 : List Obj} (h : pop P L (St.ev ⟨env, L⟩) op = some (v0, L0)) (hK : XO P Z ops rest env L' K) (hL : L0 = L' := by ((try simp (decide := true) only [St.ev, upd, reduceIte, List.getD_cons_zero, List.getD_cons_succ, List.getD_nil, V.ofVal, V.ofVal1, V.ofVals, Option.getD_some, Option.map_some, List.nil_append, List.cons_append, List.set_cons_zero, List.set_cons_succ, setAt, List.take_succ_cons, List.take_zero, List.take_nil, List.drop_succ_cons, List.drop_zero, List.drop_nil, List.length_cons, List.length_nil, Nat.reduceAdd, Nat.zero_add, Nat.add_zero, V.cells, List.map_cons, List.map_nil, List.append_nil]) <;> rfl)) :
    XO P Z ops (⟨none, op, ty, pos, af, none⟩ :: rest) env L K := X.st0 (v := v0) (by rw [h, hL]) hK
theorem X.callv {f : Operand} {args : Array Operand} {ats : Array TypeId} {fv : V} {as : List V} (hf : St.ev ⟨env, L⟩ f = fv) (ha : args.toList.map (St.ev ⟨env, L⟩) = as)
    (h : CallV P Z fv as L (fun v L' => XO P Z ops rest (upd env d v) L' K)) : XO P Z ops (⟨some d, .call ⟨.value f, args, ats⟩, ty, pos, af, none⟩ :: rest) env L K := by
  subst hf ha
  refine ⟨?_⟩
  simp only [exOps, pwanted, if_true]
  exact CallV.mono h fun _ _ h => h.out
/-- A call of a function by its name. -/
theorem X.call {g : FuncId} {args : Array Operand} {ats : Array TypeId} {as : List V}
    (h : SE P Z g as L v L') (hK : XO P Z ops rest (upd env d v) L' K) (ha : args.toList.map (St.ev ⟨env, L⟩) = as := by rfl) :
    XO P Z ops (⟨some d, .call ⟨.value (.func g), args, ats⟩, ty, pos, af, none⟩ :: rest) env L K :=
  X.callv rfl ha (CallV.of_SC (by rw [List.append_nil]; exact h.out.mono fun u M ⟨h1, h2⟩ => by subst h1 h2; exact hK))
/-- The operation's guard says yes. -/
theorem X.gy {dst : Option Tmp} {j : Nat} {want : Bool} {g : Tmp} (hj : (ops[j]?).bind (·.dst) = some g) (hg : env g = .bool want) (hK : XO P Z ops (⟨dst, op, ty, pos, af, none⟩ :: rest) env L K) :
    XO P Z ops (⟨dst, op, ty, pos, af, some (j, want)⟩ :: rest) env L K := by
  have hK := hK.out
  refine ⟨?_⟩
  have hw : pwanted ops env ⟨dst, op, ty, pos, af, some (j, want)⟩ = true := by simp [pwanted, hj, hg]
  simp only [exOps] at hK ⊢
  rw [if_pos hw]
  have : pwanted ops env ⟨dst, op, ty, pos, af, none⟩ = true := rfl
  rw [if_pos this] at hK
  exact hK
/-- The operation's guard says no. -/
theorem X.gn {j : Nat} {want b : Bool} {g : Tmp} (hj : (ops[j]?).bind (·.dst) = some g) (hg : env g = .bool b) (hb : (b == want) = false) (hK : XO P Z ops rest (upd env d .undef) L K) :
    XO P Z ops (⟨some d, op, ty, pos, af, some (j, want)⟩ :: rest) env L K := by
  refine ⟨?_⟩
  have hw : ¬ pwanted ops env ⟨some d, op, ty, pos, af, some (j, want)⟩ = true := by simp [pwanted, hj, hg, hb]
  simp only [exOps]
  rw [if_neg hw]
  exact hK.out
/-- The guard is not known: both ways. -/
theorem X.gs {dst : Option Tmp} {j : Nat} {want b : Bool} {g : Tmp} (hj : (ops[j]?).bind (·.dst) = some g) (hg : env g = .bool b)
    (h1 : b = true → XO P Z ops (⟨dst, op, ty, pos, af, some (j, want)⟩ :: rest) (upd env g (.bool true)) L K)
    (h2 : b = false → XO P Z ops (⟨dst, op, ty, pos, af, some (j, want)⟩ :: rest) (upd env g (.bool false)) L K) :
    XO P Z ops (⟨dst, op, ty, pos, af, some (j, want)⟩ :: rest) env L K := by
  have : ∀ b', b = b' → upd env g (.bool b') = env := by
    intro b' hb; subst hb
    funext i; unfold upd; split
    · rename_i hi; subst hi; exact hg.symm
    · rfl
  cases b with
  | true => rw [this true rfl] at h1; exact h1 rfl
  | false => rw [this false rfl] at h2; exact h2 rfl

/-! in whatever order -/
theorem A.nil (h : K ⟨env, L⟩) : AO P Z ops [] env L K := ⟨h⟩
theorem A.go0 (h : pop P L (St.ev ⟨env, L⟩) op = some (v, L)) (hK : AO P Z ops rest (upd env d v) L K) : AO P Z ops (⟨some d, op, ty, pos, af, none⟩ :: rest) env L K := by
  refine ⟨?_⟩
  simp only [exA, pwanted, if_true]
  refine ⟨v, ?_, hK.out⟩
  unfold stepOk
  split
  · rename_i f args ats heq
    simp only at heq
    subst heq
    simp [pop] at h
  · exact h
theorem A.go {v0 : V} {L0 : List Obj} (h : pop P L (St.ev ⟨env, L⟩) op = some (v0, L0)) (hK : AO P Z ops rest (upd env d v) L K) (hL : L0 = L := by rfl) (hv : v0 = v := by ((conv => lhs; whnf) <;> rfl)) :
    AO P Z ops (⟨some d, op, ty, pos, af, none⟩ :: rest) env L K := A.go0 (by rw [h, hv, hL]) hK
theorem A.mv {x : Operand} (hK : AO P Z ops rest (upd env d v) L K) (hv : St.ev ⟨env, L⟩ x = v := by ((conv => lhs; whnf) <;> rfl)) :
    AO P Z ops (⟨some d, .move x, ty, pos, af, none⟩ :: rest) env L K := A.go0 (by rw [← hv]; rfl) hK
theorem A.as {x : Operand} (hK : AO P Z ops rest (upd env d v) L K) (hv : St.ev ⟨env, L⟩ x = v := by ((conv => lhs; whnf) <;> rfl)) :
    AO P Z ops (⟨some d, .assign x, ty, pos, af, none⟩ :: rest) env L K := A.go0 (by rw [← hv]; rfl) hK
theorem A.callv {f : Operand} {args : Array Operand} {ats : Array TypeId} {fv : V} {as : List V} (hf : St.ev ⟨env, L⟩ f = fv) (ha : args.toList.map (St.ev ⟨env, L⟩) = as)
    (h : CallV P Z fv as L (fun u M => u = v ∧ M = L)) (hK : AO P Z ops rest (upd env d v) L K) : AO P Z ops (⟨some d, .call ⟨.value f, args, ats⟩, ty, pos, af, none⟩ :: rest) env L K := by
  subst hf ha
  refine ⟨?_⟩
  simp only [exA, pwanted, if_true]
  exact ⟨v, h, hK.out⟩
theorem A.call {g : FuncId} {args : Array Operand} {ats : Array TypeId} {as : List V}
    (h : SE P Z g as L v L) (hK : AO P Z ops rest (upd env d v) L K) (ha : args.toList.map (St.ev ⟨env, L⟩) = as := by rfl) :
    AO P Z ops (⟨some d, .call ⟨.value (.func g), args, ats⟩, ty, pos, af, none⟩ :: rest) env L K :=
  A.callv rfl ha (CallV.of_SC (by rw [List.append_nil]; exact h.out)) hK
theorem A.gy {dst : Option Tmp} {j : Nat} {want : Bool} {g : Tmp} (hj : (ops[j]?).bind (·.dst) = some g) (hg : env g = .bool want) (hK : AO P Z ops (⟨dst, op, ty, pos, af, none⟩ :: rest) env L K) :
    AO P Z ops (⟨dst, op, ty, pos, af, some (j, want)⟩ :: rest) env L K := by
  have hK := hK.out
  refine ⟨?_⟩
  have hw : pwanted ops env ⟨dst, op, ty, pos, af, some (j, want)⟩ = true := by simp [pwanted, hj, hg]
  simp only [exA] at hK ⊢
  rw [if_pos hw]
  have : pwanted ops env ⟨dst, op, ty, pos, af, none⟩ = true := rfl
  rw [if_pos this] at hK
  exact hK
theorem A.gn {j : Nat} {want b : Bool} {g : Tmp} (hj : (ops[j]?).bind (·.dst) = some g) (hg : env g = .bool b) (hb : (b == want) = false) (hK : AO P Z ops rest (upd env d .undef) L K) :
    AO P Z ops (⟨some d, op, ty, pos, af, some (j, want)⟩ :: rest) env L K := by
  refine ⟨?_⟩
  have hw : ¬ pwanted ops env ⟨some d, op, ty, pos, af, some (j, want)⟩ = true := by simp [pwanted, hj, hg, hb]
  simp only [exA]
  rw [if_neg hw]
  exact hK.out
theorem A.gs {dst : Option Tmp} {j : Nat} {want b : Bool} {g : Tmp} (hj : (ops[j]?).bind (·.dst) = some g) (hg : env g = .bool b)
    (h1 : b = true → AO P Z ops (⟨dst, op, ty, pos, af, some (j, want)⟩ :: rest) (upd env g (.bool true)) L K)
    (h2 : b = false → AO P Z ops (⟨dst, op, ty, pos, af, some (j, want)⟩ :: rest) (upd env g (.bool false)) L K) :
    AO P Z ops (⟨dst, op, ty, pos, af, some (j, want)⟩ :: rest) env L K := by
  have : ∀ b', b = b' → upd env g (.bool b') = env := by
    intro b' hb; subst hb
    funext i; unfold upd; split
    · rename_i hi; subst hi; exact hg.symm
    · rfl
  cases b with
  | true => rw [this true rfl] at h1; exact h1 rfl
  | false => rw [this false rfl] at h2; exact h2 rfl
end steps

/-- What is owed at a function's end. -/
def Fin (P : Program) (fn : Func) (K : V → List Obj → Prop) : Ex → St → Prop
  | .exit _, _ => False
  | _, s => ∃ v, resV P s fn.results.toList = some v ∧ K v s.L
theorem Fin.ret {fn : Func} {K : V → List Obj → Prop} {s : St} {v : V} (h : resV P s fn.results.toList = some v) (hK : K v s.L) : Fin P fn K .ret s := ⟨v, h, hK⟩

/-- A function that hands back data and leaves no trace. -/
theorem SE.data {f : FuncId} {fn : Func} {c : Code} {args : List V} {L : List Obj} {v : V} (hZ : ∀ B o, Z B o → ∃ c e f, o = .cells c e f) (hf : P.funcs[f]? = some fn) (hb : fn.body = some c)
    (h : CW P Z none fn.ntmps c (Fin P fn (fun u M => ∃ B, M = L ++ B ∧ frz L.length M u = some v)) (fun t => args.getD t .undef) L)
    (hname : (fn.name == "runtime.NumGoroutine") = false := by kernel_rfl) (hn : args.length ≤ fn.ntmps := by exact Nat.le_of_ble_eq_true rfl) (hres : fn.results.toList.all (okRes fn.ntmps) = true := by kernel_rfl) :
    SE P Z f args L v L :=
  ⟨(SC.data (K := fun u => u = v) (SC.of_SW hZ hf hb hname hn hres (SW.mono h.out fun e s hq => by
    cases e with
    | normal => obtain ⟨u, h1, B, h2, h3⟩ := hq; exact ⟨.inl rfl, u, h1, B, v, h2, h3, rfl⟩
    | ret => obtain ⟨u, h1, B, h2, h3⟩ := hq; exact ⟨.inr rfl, u, h1, B, v, h2, h3, rfl⟩
    | exit _ => exact hq.elim))).mono fun u M ⟨h1, h2⟩ => ⟨h2, h1⟩⟩
/-- A function, its objects told. -/
theorem SE.full {f : FuncId} {fn : Func} {c : Code} {args : List V} {L L' : List Obj} {v : V} (hZ : ∀ B o, Z B o → ∃ c e f, o = .cells c e f) (hf : P.funcs[f]? = some fn) (hb : fn.body = some c)
    (h : CW P Z none fn.ntmps c (Fin P fn (fun u M => u = v ∧ M = L')) (fun t => args.getD t .undef) L)
    (hname : (fn.name == "runtime.NumGoroutine") = false := by kernel_rfl) (hn : args.length ≤ fn.ntmps := by exact Nat.le_of_ble_eq_true rfl) (hres : fn.results.toList.all (okRes fn.ntmps) = true := by kernel_rfl) :
    SE P Z f args L v L' :=
  ⟨SC.of_SW hZ hf hb hname hn hres (SW.mono h.out fun e s hq => by
    cases e with
    | normal => obtain ⟨u, h1, h2⟩ := hq; exact ⟨.inl rfl, u, h1, h2⟩
    | ret => obtain ⟨u, h1, h2⟩ := hq; exact ⟨.inr rfl, u, h1, h2⟩
    | exit _ => exact hq.elim)⟩
end Go.Pv
