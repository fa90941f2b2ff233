import Derived.Test.YtfjkplemepcmeaaPv18
set_option linter.unusedVariables false
set_option linter.unusedSectionVars false
/- A range over a function, and its rounds. -/
set_option linter.unusedSimpArgs false
namespace Go.Pv
variable {P : Program} {Z : Nat → Go.Obj → Prop}

/-- A loop's record turns. -/
theorem Rel.setLoop {G : Gh} {L : List Obj} {w : World} (h : Rel Z G L w) {id n b : Nat} {st st' : LoopState} {pend pend' : Option Code} {env : Nat → V} {params : Array Tmp} {assign body : Code} {rec : Loop}
    (hL : L[id]? = some (.loop st pend env n params assign body)) (hR : G.R id 0 (.obj b)) (hh : w.heap[b]? = some (.loop rec)) :
    Rel Z G (L.set id (.loop st' pend' env n params assign body)) { w with heap := w.heap.setIfInBounds b (.loop { rec with state := st', pending := pend' }) } ∧
      Evo G L w G (L.set id (.loop st' pend' env n params assign body)) { w with heap := w.heap.setIfInBounds b (.loop { rec with state := st', pending := pend' }) } := by
  obtain ⟨b', tmps, d, fn, h1, h2, h3, hv⟩ := h.ok id _ hL
  have := h.fn _ _ _ _ hR h1
  simp only [Loc.obj.injEq] at this; subst this
  rw [hh] at h2
  simp only [Option.some.injEq, Go.Obj.loop.injEq] at h2
  subst h2
  have hblt := (Array.getElem?_eq_some_iff.1 hh).1
  refine h.change hL (.inl h1) (.refl G) (by simp) (fun B hB => ?_) ?_ (fun B hB => h.at_fn (ob := .loop st' pend' env n params assign body) hB (.inl h1)) (fun _ _ _ h => .inl h) h.fn (by simp) (fun o v hk => ?_) (fun _ _ _ _ h => h)
  · show (w.heap.setIfInBounds b _)[B]? = _
    rw [Array.getElem?_setIfInBounds_ne (Ne.symm hB)]
  · refine ⟨b, tmps, d, fn, h1, ?_, h3, hv⟩
    show (w.heap.setIfInBounds b _)[b]? = _
    rw [Array.getElem?_setIfInBounds_self_of_lt hblt]
  · obtain ⟨_, _, _, he, _⟩ := h.kw b o v id _ hk hL (.inl h1)
    simp at he

theorem loop_rec {G : Gh} {L : List Obj} {w : World} (h : Rel Z G L w) {id n b : Nat} {st : LoopState} {pend : Option Code} {env : Nat → V} {params : Array Tmp} {assign body : Code}
    (hL : L[id]? = some (.loop st pend env n params assign body)) (hR : G.R id 0 (.obj b)) :
    ∃ rec : Loop, w.heap[b]? = some (.loop rec) ∧ rec.state = st ∧ rec.pending = pend ∧ rec.params = params ∧ rec.assign = assign ∧ rec.body = body ∧ rec.tmps.size = n ∧ ∀ t, t < n → VR G (env t) (rec.tmps.getD t undef) := by
  obtain ⟨b', tmps, d, fn, h1, h2, h3, hv⟩ := h.ok id _ hL
  have := h.fn _ _ _ _ hR h1
  simp only [Loc.obj.injEq] at this; subst this
  exact ⟨_, h2, rfl, rfl, rfl, rfl, rfl, h3, hv⟩

def jumpOf : Ex → Option Code
  | .normal => none
  | .ret => some .ret
  | .exit i => some (.exit i)

def updl (env : Nat → V) : List Tmp → List V → (Nat → V)
  | t :: ts, v :: vs => updl (upd env t v) ts vs
  | _, _ => env

theorem updl_sound {G : Gh} {n : Nat} : ∀ (ts : List Tmp) (vs : List V) (us : List Value) (env : Nat → V) (tmps : Array Value), ts.length = vs.length → us.length = vs.length → (∀ t ∈ ts, t < n) →
    (∀ p (h : p < vs.length), VR G vs[p] (us.getD p undef)) → tmps.size = n → (∀ t, t < n → VR G (env t) (tmps.getD t undef)) →
    ((ts.zip us).foldl (fun tmps (x : Tmp × Value) => tmps.setIfInBounds x.1 x.2) tmps).size = n ∧ ∀ t, t < n → VR G (updl env ts vs t) (((ts.zip us).foldl (fun tmps (x : Tmp × Value) => tmps.setIfInBounds x.1 x.2) tmps).getD t undef)
  | [], vs, us, env, tmps, h1, _, _, _, hs, hv => by
    have : vs = [] := List.length_eq_zero_iff.1 (by simpa using h1.symm)
    subst this
    exact ⟨hs, hv⟩
  | t :: ts, vs, us, env, tmps, h1, h2, h3, h4, hs, hv => by
    cases vs with
    | nil => simp at h1
    | cons v vs =>
      cases us with
      | nil => simp at h2
      | cons u us =>
        refine updl_sound ts vs us (upd env t v) (tmps.setIfInBounds t u) (by simpa using h1) (by simpa using h2) (fun t ht => h3 t (by simp [ht]))
          (fun p hp => by have := h4 (p + 1) (by simpa using hp); simpa using this) (by simpa using hs) (fun t' ht' => ?_)
        unfold upd
        by_cases he : t' = t
        · subst he
          rw [if_pos rfl]
          have : (tmps.setIfInBounds t' u).getD t' undef = u := by
            simp only [Array.getD_eq_getD_getElem?]; rw [Array.getElem?_setIfInBounds_self_of_lt (by omega)]; rfl
          rw [this]
          exact h4 0 (Nat.zero_lt_succ _)
        · rw [if_neg he]
          have : (tmps.setIfInBounds t u).getD t' undef = tmps.getD t' undef := by
            simp only [Array.getD_eq_getD_getElem?]; rw [Array.getElem?_setIfInBounds_ne (Ne.symm he)]
          rw [this]; exact hv t' ht'

section round
variable {b : Frame} {a : Act} {k : List Item} {cs : List Frame} {c : Frame} {w w' : World} {l : Nat}
theorem step_begin (hr : b.roundOf = some l) (h : (Instr.beginRound l).run P w = .ok () w') : step P (lone (atr b a (.beginRound :: k)) cs w) = .next (lone (atr b a k) cs w') := by
  refine step_lone_go ?_
  simp [stepG, stepG.exec, atr, hr, stepG.apply, h, Frame.finish]
theorem step_leave_end {v : Value} (hr : b.roundOf = some l) (hk : b.kind = .normal) (h : (Instr.endRound l none).run P w = .ok v w') : step P (lone (atr b a []) (c :: cs) w) = .next (lone (c.finish v) cs w') := by
  refine step_lone_go ?_
  simp [stepG, stepG.exec, atr, hr, h, doReturn, hk]
theorem step_leave_ret {v : Value} (hr : b.roundOf = some l) (hk : b.kind = .normal) (h : (Instr.endRound l (some .ret)).run P w = .ok v w') : step P (lone (atr b a (.code .ret :: k)) (c :: cs) w) = .next (lone (c.finish v) cs w') := by
  refine step_lone_go ?_
  simp [stepG, stepG.exec, atr, hr, h, doReturn, hk]
theorem step_leave_exit {v : Value} {id : Nat} (he : exitTo id k = none) (hr : b.roundOf = some l) (hk : b.kind = .normal) (h : (Instr.endRound l (some (.exit id))).run P w = .ok v w') :
    step P (lone (atr b a (.code (.exit id) :: k)) (c :: cs) w) = .next (lone (c.finish v) cs w') := by
  refine step_lone_go ?_
  simp [stepG, stepG.exec, atr, hr, h, doReturn, hk, he]
end round

/-- A round: what the loop's body comes to. -/
theorem CallV.yield {id n : Nat} {pend : Option Code} {env : Nat → V} {params : Array Tmp} {assign body : Code} {args : List V} {L : List Obj} {K : V → List Obj → Prop}
    (hL : L[id]? = some (.loop .ready pend env n params assign body)) (hlen : params.size = args.length) (hp : params.toList.all (fun t => decide (t < n)) = true)
    (h : ∀ b, CW P Z (some b) n assign (fun e s => e = .normal ∧ ∃ pend1, s.L[id]? = some (.loop .ready pend1 env n params assign body) ∧
      CW P Z (some b) n body (fun e2 s2 => ∃ pend2, s2.L[id]? = some (.loop .busy pend2 env n params assign body) ∧
        K (.bool (decide (e2 = .normal))) (s2.L.set id (.loop (if e2 = .normal then .ready else .done) (jumpOf e2) env n params assign body))) s.env (s.L.set id (.loop .busy pend1 env n params assign body)))
      (updl env params.toList args) L) : CallV P Z (.yl id) args L K := by
  intro G w rf rargs hr hf ha
  cases hf with
  | yl hid =>
    rename_i b
    obtain ⟨rec, hh, hst, hpd, hpar, hasg, hbody, hsz, hv⟩ := loop_rec hr hL hid
    have hrun : (do let d ← Deferred.ofValue (.func (.yield b) #[] #[]) rargs; invoke d.target d.args : Sem Next).run P w =
        .ok (.round b rec.fn ((rec.params.zip rargs).foldl (fun tmps (t, a) => tmps.setIfInBounds t a) rec.tmps) rec.assign rec.body) w := by
      have hsz2 : rargs.size = rec.params.size := by rw [ha.1, hpar, hlen]
      have hg : (Instr.getLoop b).run P w = .ok rec w := by simp [Instr.getLoop, getObj, Sem.run, hh]
      simp [Deferred.ofValue, invoke, Instr.yield, hg, hsz2]
    unfold OpR
    rw [hrun]
    intro c cs
    let bf : Frame := { (default : Frame) with fn := rec.fn, kind := .normal, roundOf := some b }
    let tm := (rec.params.zip rargs).foldl (fun tmps (x : Tmp × Value) => tmps.setIfInBounds x.1 x.2) rec.tmps
    have htm : tm = ((params.toList.zip rargs.toList).foldl (fun tmps (x : Tmp × Value) => tmps.setIfInBounds x.1 x.2) rec.tmps) := by
      simp only [tm, hpar]
      rw [← Array.foldl_toList, Array.toList_zip]
    have hframe : Frame.round b rec.fn ((rec.params.zip rargs).foldl (fun tmps (t, a) => tmps.setIfInBounds t a) rec.tmps) rec.assign rec.body .normal = atr bf { tmps := tm, defers := [] } [.code assign, .beginRound, .code body] := by
      simp only [Frame.round, atr, bf, hasg, hbody]; rfl
    have hup := updl_sound (G := G) (n := n) params.toList args rargs.toList env rec.tmps (by simpa using hlen) (by simpa using ha.1) (fun t ht => by have := List.all_eq_true.1 hp t ht; simpa using this)
      (fun p hp => by have := ha.2 p hp; simpa [Array.getD_eq_getD_getElem?, List.getD_eq_getElem?_getD] using this) hsz hv
    rw [← htm] at hup
    have hsr : SR Z w.heap.size n G ⟨updl env params.toList args, L⟩ { tmps := tm, defers := [] } w := ⟨hup.1, hup.2, hr, [], rfl, .nil, by simp⟩
    obtain ⟨e1, a1, w1, ⟨s1, G1, ⟨rfl, pend1, hL1, hB⟩, hs1, he1⟩, harr1⟩ := (h b).out w.heap.size G _ w (Nat.le_refl _) hsr bf [.beginRound, .code body] (c :: cs) rfl
    rw [hframe]
    -- the round begins
    have hid1 := he1.le.r hid
    obtain ⟨rec1, hh1, hst1, hpd1, _⟩ := loop_rec hs1.rel hL1 hid1
    have hbegin : (Instr.beginRound b).run P w1 = .ok () { w1 with heap := w1.heap.setIfInBounds b (.loop { rec1 with state := .busy, pending := pend1 }) } := by
      have hg : (Instr.getLoop b).run P w1 = .ok rec1 w1 := by simp [Instr.getLoop, getObj, Sem.run, hh1]
      have hss : ∀ o, (setObj b o).run P w1 = .ok () { w1 with heap := w1.heap.setIfInBounds b o } := fun o => by simp [setObj, Sem.run, hh1]
      simp only [Instr.beginRound, Sem.run_bind, hg, Result.andThen_ok, hss, hst1, Sem.run_pure]
      rw [← hpd1]
    have hsl := hs1.rel.setLoop (st' := .busy) (pend' := pend1) hL1 hid1 hh1
    have hs2 : SR Z w.heap.size n G1 ⟨s1.env, s1.L.set id (.loop .busy pend1 env n params assign body)⟩ a1 { w1 with heap := w1.heap.setIfInBounds b (.loop { rec1 with state := .busy, pending := pend1 }) } := by
      have := hs1.step (dst := none) (v := .undef) (r := undef) hsl.1 hsl.2 VR_undef (by simp)
      simpa [St.put, Act.put] using this
    obtain ⟨e2, a2, w2, ⟨s2, G2, ⟨pend2, hL2, hK⟩, hs3, he3⟩, harr2⟩ := hB.out w.heap.size G1 a1 _ (Nat.le_trans he1.size hsl.2.size) hs2 bf [] (c :: cs) rfl
    have hid2 := he3.le.r hid1
    obtain ⟨rec2, hh2, hst2, hpd2, _⟩ := loop_rec hs3.rel hL2 hid2
    have hend : (Instr.endRound b (jumpOf e2)).run P w2 = .ok (.bool (decide (e2 = .normal))) { w2 with heap := w2.heap.setIfInBounds b (.loop { rec2 with state := (if e2 = .normal then .ready else .done), pending := jumpOf e2 }) } := by
      have hg : (Instr.getLoop b).run P w2 = .ok rec2 w2 := by simp [Instr.getLoop, getObj, Sem.run, hh2]
      have hss : ∀ o, (setObj b o).run P w2 = .ok () { w2 with heap := w2.heap.setIfInBounds b o } := fun o => by simp [setObj, Sem.run, hh2]
      simp only [Instr.endRound, Sem.run_bind, hg, Result.andThen_ok, hss, Sem.run_pure]
      cases e2 <;> rfl
    have hfin := hs3.rel.setLoop (st' := if e2 = .normal then .ready else .done) (pend' := jumpOf e2) hL2 hid2 hh2
    refine ⟨.bool (decide (e2 = .normal)), _, ⟨G2, _, _, hK, hfin.1, (he1.trans (hsl.2.trans he3)).trans hfin.2, .bool _⟩, ?_⟩
    have hsteps : Steps P (lone (atr bf { tmps := tm, defers := [] } [.code assign, .beginRound, .code body]) (c :: cs) w) (lone (atr bf a1 [.code body]) (c :: cs) { w1 with heap := w1.heap.setIfInBounds b (.loop { rec1 with state := .busy, pending := pend1 }) }) :=
      Steps.trans harr1 (.one (step_begin rfl hbegin))
    refine hsteps.trans ?_
    cases e2 with
    | normal => exact Steps.trans harr2 (.one (step_leave_end rfl rfl hend))
    | ret => obtain ⟨k', hk⟩ := harr2; exact hk.trans (.one (step_leave_ret rfl rfl hend))
    | exit i => obtain ⟨k', hk1, hk2⟩ := harr2; exact hk2.trans (.one (step_leave_exit (by rw [hk1]; rfl) rfl rfl hend))

/-- How a loop over a function goes on behind it. -/
def rfK (Q : Ex → St → Prop) : Option Code → St → Prop
  | none, s => Q .normal s
  | some .ret, s => Q .ret s
  | some (.exit i), s => Q (.exit i) s
  | _, _ => False

theorem step_endRange {b : Frame} {a : Act} {k : List Item} {cs : List Frame} {w w' : World} {l : Nat} {j : Option Code} (h : (Instr.endLoop l).run P w = .ok j w') :
    step P (lone (atr b a (.endRangeFunc l :: k)) cs w) = .next (lone (atr b a ((j.map Item.code).toList ++ k)) cs w') := by
  refine step_lone_go ?_
  simp [stepG, stepG.exec, atr, h]

theorem SW.rangeF {n : Nat} {Q : Ex → St → Prop} {st : St} {f : Operand} {params : Array Tmp} {assign body : Code} {g : FuncId} {caps : List V} (hf : st.ev f = .fn g caps) (ho : okX n f = true)
    (h : SC P Z g (.yl st.L.length :: caps) (st.L ++ [.loop .ready none st.env n params assign body]) (fun _ L' => ∃ stt pend, L'[st.L.length]? = some (.loop stt pend st.env n params assign body) ∧ stt ≠ .busy ∧
      rfK Q pend ⟨st.env, L'.set st.L.length (.loop .exhausted pend st.env n params assign body)⟩)) : SW P Z none n (.rangeFunc f params assign body) Q st := by
  intro N0 G a w hN hs b k cs hb
  obtain ⟨⟨fn, hfn, hbody, hname⟩, hc⟩ := h
  have hbn : fn.body.isNone = false := by cases hh : fn.body <;> simp_all
  have hfv := ev_ok hs ho
  rw [hf] at hfv
  -- the block of deferred calls, the record
  let w1 : World := { w with heap := w.heap.push (.deferred (some [])) }
  let rec0 : Loop := { state := .ready, pending := none, fn := b.fn, tmps := a.tmps, params, assign, body, defers := w.heap.size }
  let w2 : World := { w1 with heap := w1.heap.push (.loop rec0) }
  have hr1 := hs.rel.pushReal (.deferred (some []))
  have hle2 := Gh.le_addR G st.L.length 0 (.obj w1.heap.size)
  have hr2 := hr1.1.pushObj (o := .loop rec0) (ob := .loop .ready none st.env n params assign body) (l := .obj w1.heap.size) (.inl rfl)
    ⟨w1.heap.size, a.tmps, w.heap.size, b.fn, Gh.addR_self _ _ _ _, Array.getElem?_push_size, hs.size, fun t ht => (hs.tm t ht).mono hle2⟩
  have hevo2 := hr1.2.trans hr2.2
  have hyl : VR (G.addR st.L.length 0 (.obj w1.heap.size)) (.yl st.L.length) (.func (.yield w1.heap.size) #[] #[]) := .yl (Gh.addR_self _ _ _ _)
  have hfv2 := hfv.mono hle2
  cases hfe : a.eval f with
  | func ff first captured =>
    rw [hfe] at hfv2
    cases hfv2 with
    | fn hcn hcv =>
      have hargs : VRL (G.addR st.L.length 0 (.obj w1.heap.size)) (.yl st.L.length :: caps) (#[.func (.yield w1.heap.size) #[] #[]] ++ captured) :=
        VRL.append (xs := [.yl st.L.length]) ⟨rfl, fun p hp => by obtain rfl : p = 0 := by simpa using hp
                                                                  exact hyl⟩ ⟨hcn, hcv⟩
      let a1 : Act := { tmps := a.tmps, defers := mark w.heap.size :: a.defers }
      obtain ⟨rv, w3, fr, ⟨G3, L3, v, ⟨stt, pend, hL3, hstt, hQ⟩, hr3, he3, hv3⟩, hsteps, _, hleave⟩ := hc _ w2 _ hr2.1 hargs (atr b a1 (.inRangeFunc w1.heap.size :: k) :: cs)
      have hstep1 : step P (lone (atr b a (.code (.rangeFunc f params assign body) :: k)) cs w) =
          .next (lone (Frame.enter P g (#[.func (.yield w1.heap.size) #[] #[]] ++ captured) .normal) (atr b a1 (.inRangeFunc w1.heap.size :: k) :: cs) w2) := by
        refine step_lone_go ?_
        have hel : (Instr.enterLoop b.fn a.tmps params assign body none).run P w = .ok (w1.heap.size, [mark w.heap.size]) w2 := by
          simp [Instr.enterLoop, w2, w1, rec0, mark]
        have hev : ∀ (fr : Frame), fr.tmps = a.tmps → fr.eval f = a.eval f := fun fr hfr => by cases f <;> simp [Frame.eval, Act.eval, hfr]
        have hne : ¬ fn.name = "runtime.NumGoroutine" := by simpa using hname
        have hbn2 : ¬ fn.body = none := by intro he; rw [he] at hbn; simp at hbn
        have hcall : ∀ (fr : Frame), fr.tmps = a.tmps → (do let d ← resolve fr.eval { callee := .value f, args := #[.const (.func (.yield w1.heap.size) #[] #[])], argTypes := #[] } 0; invoke d.target d.args : Sem Next).run P w2 =
            .ok (.enter g (#[.func (.yield w1.heap.size) #[] #[]] ++ captured)) w2 := fun fr hfr => by
          have hc0 : ∀ v, fr.eval (.const v) = v := fun _ => rfl
          simp [resolve, hev fr hfr, hfe, Deferred.ofValue, invoke, callFunc, hfn, hne, hbn2, hc0]
        simp only [stepG, stepG.exec, atr, hb, Sem.runT_eq, hel]
        simp only [stepG.apply, Sem.runT_eq, GStep.bare_after, if_true]
        rw [hcall _ rfl]
        simp [a1, w2, hb, atr]
      have hR3 : G3.R st.L.length 0 (.obj w1.heap.size) := he3.le.r (Gh.addR_self _ _ _ _)
      obtain ⟨rec3, hh3, hst3, hpd3, _⟩ := loop_rec hr3 hL3 hR3
      have hend : (Instr.endLoop w1.heap.size).run P w3 = .ok pend { w3 with heap := w3.heap.setIfInBounds w1.heap.size (.loop { rec3 with state := .exhausted, pending := pend }) } := by
        have hg : (Instr.getLoop w1.heap.size).run P w3 = .ok rec3 w3 := by simp [Instr.getLoop, getObj, Sem.run, hh3]
        have hss : ∀ o, (setObj w1.heap.size o).run P w3 = .ok () { w3 with heap := w3.heap.setIfInBounds w1.heap.size o } := fun o => by simp [setObj, Sem.run, hh3]
        have hnb : (rec3.state == LoopState.busy) = false := by rw [hst3]; cases stt <;> first | rfl | exact absurd rfl hstt
        simp only [Instr.endLoop, Sem.run_bind, hg, Result.andThen_ok, hnb, Bool.false_eq_true, if_false, hss, Sem.run_pure]
        rw [← hpd3]
      have hfin := hr3.setLoop (st' := .exhausted) (pend' := pend) hL3 hR3 hh3
      have hall : Steps P (lone (atr b a (.code (.rangeFunc f params assign body) :: k)) cs w)
          (lone (atr b a1 ((pend.map Item.code).toList ++ k)) cs { w3 with heap := w3.heap.setIfInBounds w1.heap.size (.loop { rec3 with state := .exhausted, pending := pend }) }) := by
        refine .head hstep1 (hsteps.trans (.head (step_leave_returned hleave) (.one ?_)))
        have hfi : (atr b a1 (.inRangeFunc w1.heap.size :: k)).finish rv = atr b a1 (.endRangeFunc w1.heap.size :: k) := rfl
        rw [hfi]
        exact step_endRange hend
      have hevoAll := (hevo2.trans he3).trans hfin.2
      have hsr : SR Z N0 n G3 ⟨st.env, L3.set st.L.length (.loop .exhausted pend st.env n params assign body)⟩ a1 { w3 with heap := w3.heap.setIfInBounds w1.heap.size (.loop { rec3 with state := .exhausted, pending := pend }) } := by
        obtain ⟨ds, hd1, hd2, hd3⟩ := hs.ds
        refine ⟨hs.size, fun t ht => (hs.tm t ht).mono hevoAll.le, hfin.1, w.heap.size :: ds, by simp [a1, hd1], ?_, fun x hx => ?_⟩
        · refine List.nodup_cons.2 ⟨fun hm => ?_, hd2⟩
          have := (Array.getElem?_eq_some_iff.1 (hd3 _ hm).2).1
          exact absurd this (Nat.lt_irrefl _)
        · have key : ∀ x, N0 ≤ x → w1.heap[x]? = some (.deferred (some [])) → N0 ≤ x ∧ ({ w3 with heap := w3.heap.setIfInBounds w1.heap.size (.loop { rec3 with state := .exhausted, pending := pend }) } : World).heap[x]? = some (.deferred (some [])) := by
            intro x hN hx1
            refine ⟨hN, ?_⟩
            have hxlt := (Array.getElem?_eq_some_iff.1 hx1).1
            have he13 := (hr2.2.trans he3).trans hfin.2
            rw [he13.keep x hxlt (fun hh => hr1.1.held_obj hh _ hx1)]
            exact hx1
          rcases List.mem_cons.1 hx with rfl | hx
          · exact key _ hN (by simp [w1])
          · refine key x (hd3 x hx).1 ?_
            have hxlt := (Array.getElem?_eq_some_iff.1 (hd3 x hx).2).1
            show (w.heap.push _)[x]? = _
            rw [Array.getElem?_push]; simp [Nat.ne_of_lt hxlt, (hd3 x hx).2]
      cases pend with
      | none => exact ⟨.normal, a1, _, ⟨_, G3, hQ, hsr, hevoAll⟩, hall⟩
      | some j =>
        cases j <;> simp only [rfK] at hQ
        · exact ⟨.exit _, a1, _, ⟨_, G3, hQ, hsr, hevoAll⟩, k, rfl, hall⟩
        · exact ⟨.ret, a1, _, ⟨_, G3, hQ, hsr, hevoAll⟩, k, hall⟩
  | _ => rw [hfe] at hfv2; cases hfv2
end Go.Pv
