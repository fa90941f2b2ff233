import Derived.Test.YtfjkplemepcmeaaPv15
set_option linter.unusedVariables false
set_option linter.unusedSectionVars false
/- A function out of its code. -/
set_option linter.unusedSimpArgs false
namespace Go.Pv
variable {P : Program} {Z : Nat → Go.Obj → Prop}

def resV1 (P : Program) (s : St) : ResultVar → Option V
  | .tmp t => some (s.env t)
  | .cell a t => pload P s.L t (s.env a)
def resVs (P : Program) (s : St) : List ResultVar → Option (List V)
  | [] => some []
  | r :: rs => match resV1 P s r, resVs P s rs with
    | some v, some vs => some (v :: vs)
    | _, _ => none
def resV (P : Program) (s : St) (rs : List ResultVar) : Option V :=
  match resVs P s rs with
  | some [v] => some v
  | some vs => some (.tup vs)
  | none => none

def okRes (n : Nat) : ResultVar → Bool
  | .tmp t => decide (t < n)
  | .cell a _ => decide (a < n)

/-- A block of deferred calls turns: no object of the logic sees it. -/
theorem Rel.setOther {G : Gh} {L : List Obj} {w : World} (hZ : ∀ B o, Z B o → ∃ c e f, o = .cells c e f) (h : Rel Z G L w) {x : Nat} {d : Option (List Deferred)} (hx : w.heap[x]? = some (.deferred d)) (o : Go.Obj) :
    Rel Z G L { w with heap := w.heap.setIfInBounds x o } := by
  have hne : ∀ B, B ≠ x → (w.heap.setIfInBounds x o)[B]? = w.heap[B]? := fun B hB => Array.getElem?_setIfInBounds_ne (Ne.symm hB)
  refine ⟨?_, ?_, h.fn, h.dis, h.kw, h.rl, h.rg, ?_, h.zh⟩
  · intro B o' v hk
    have := h.kc B o' v hk
    have hB : B ≠ x := by
      rintro rfl
      simp [World.cell?, hx] at this
    rw [World.cell_congr (w := w) (hne B hB)]; exact this
  · intro id ob hid
    exact (h.ok id ob hid).mono (.refl G) fun b hat hb => hne b fun e => h.held_obj ⟨id, ob, hid, hat⟩ d (e ▸ hx)
  · intro B o' hz
    have := h.zc B o' hz
    show (w.heap.setIfInBounds x o)[B]? = _
    rw [hne B ?_]; exact this
    rintro rfl
    obtain ⟨c, e, f, rfl⟩ := hZ _ _ hz
    rw [hx] at this; simp at this

theorem step_collected {fr : Frame} {cs : List Frame} {w : World} {x : Nat} {ds : List Deferred} (hm : fr.mode = .returning) (hd : fr.defers = mark x :: ds) (hx : w.heap[x]? = some (.deferred (some []))) :
    step P (lone fr cs w) = .next (lone { fr with defers := ds } cs { w with heap := w.heap.setIfInBounds x (.deferred none) }) := by
  refine step_lone_go ?_
  have hrun : (Instr.takeDeferred x).run P w = .ok [] { w with heap := w.heap.setIfInBounds x (.deferred none) } := by
    simp [Instr.takeDeferred, getObj, setObj, Sem.run, hx]
  simp [stepG, hm, unwind, hd, mark, hrun]

/-- The marks of the loops over functions are taken off, one by one. -/
theorem unwinds {N0 : Nat} (hZ : ∀ B o, Z B o → ∃ c e f, o = .cells c e f) {G : Gh} {L : List Obj} : ∀ (ds : List Nat) (fr : Frame) (cs : List Frame) (w : World), fr.mode = .returning → fr.defers = ds.map mark → ds.Nodup →
    (∀ x ∈ ds, N0 ≤ x ∧ w.heap[x]? = some (.deferred (some []))) → Rel Z G L w →
    ∃ w', Steps P (lone fr cs w) (lone { fr with defers := [] } cs w') ∧ Rel Z G L w' ∧ w'.heap.size = w.heap.size ∧ (∀ B, B < N0 → w'.heap[B]? = w.heap[B]?) ∧ w'.os = w.os ∧ w'.output = w.output
  | [], fr, cs, w, hm, hd, _, _, hr => by
    refine ⟨w, ?_, hr, rfl, fun _ _ => rfl, rfl, rfl⟩
    have : { fr with defers := [] } = fr := by cases fr; simp_all
    rw [this]; exact .refl _ _
  | x :: ds, fr, cs, w, hm, hd, hn, hx, hr => by
    obtain ⟨hx1, hx2⟩ := hx x (by simp)
    have hnd := List.nodup_cons.1 hn
    have hs := step_collected (P := P) (cs := cs) hm (by simpa using hd) hx2
    have hne : ∀ B, B ≠ x → (w.heap.setIfInBounds x (.deferred none))[B]? = w.heap[B]? := fun B hB => Array.getElem?_setIfInBounds_ne (Ne.symm hB)
    obtain ⟨w', h1, h2, h3, h4, h5⟩ := unwinds hZ ds { fr with defers := ds.map mark } cs { w with heap := w.heap.setIfInBounds x (.deferred none) } hm rfl hnd.2
      (fun y hy => ⟨(hx y (by simp [hy])).1, by
        show (w.heap.setIfInBounds x _)[y]? = _
        rw [hne y (fun e => hnd.1 (e ▸ hy))]; exact (hx y (by simp [hy])).2⟩) (hr.setOther hZ hx2 _)
    refine ⟨w', .head hs h1, h2, by simpa using h3, fun B hB => ?_, h5⟩
    rw [h4 B hB]
    exact hne B (by omega)

theorem results_sound {G : Gh} {st : St} {a : Act} {w : World} {n : Nat} {rs : List ResultVar} (g : ResultVar → Sem Value) (hg1 : ∀ t, g (.tmp t) = pure (a.tmps.getD t undef))
    (hg2 : ∀ c t, g (.cell c t) = (do loadVar t (← asAddr (a.tmps.getD c undef)))) (hr : Rel Z G st.L w) (hs : a.tmps.size = n) (ht : ∀ t, t < n → VR G (st.env t) (a.tmps.getD t undef))
    (hok : rs.all (okRes n) = true) {vs : List V} (h : resVs P st rs = some vs) :
    ∃ us : List Value, (rs.mapM (m := Sem) g).run P w = .ok us w ∧ us.length = vs.length ∧ ∀ p (hp : p < vs.length), VR G vs[p] (us.getD p undef) := by
  induction rs generalizing vs with
  | nil => simp [resVs] at h; subst h; exact ⟨[], by simp, rfl, fun p hp => absurd hp (Nat.not_lt_zero p)⟩
  | cons r rs ih =>
    simp only [resVs] at h
    simp only [List.all_cons, Bool.and_eq_true] at hok
    split at h
    · rename_i v vs' h1 h2
      simp only [Option.some.injEq] at h; subst h
      obtain ⟨us, k1, k2, k3⟩ := ih hok.2 h2
      have key : ∀ u, (g r).run P w = .ok u w → VR G v u →
          ∃ us : List Value, ((r :: rs).mapM (m := Sem) g).run P w = .ok us w ∧ us.length = (v :: vs').length ∧ ∀ p (hp : p < (v :: vs').length), VR G (v :: vs')[p] (us.getD p undef) := by
        intro u hu hv
        refine ⟨u :: us, ?_, by simp [k2], fun p hp => ?_⟩
        · rw [List.mapM_cons, Sem.run_bind, hu]
          simp only [Result.andThen_ok, Sem.run_bind]
          rw [k1]
          rfl
        · cases p with
          | zero => simpa using hv
          | succ p => simpa using k3 p (by simpa using hp)
      cases r with
      | tmp t =>
        simp only [resV1, Option.some.injEq] at h1
        subst h1
        exact key _ (by rw [hg1]; rfl) (ht t (by simpa [okRes] using hok.1))
      | cell c t =>
        simp only [resV1] at h1
        have hc := ht c (by simpa [okRes] using hok.1)
        obtain ⟨q, hq1, hq2⟩ := pload_sound (P := P) hr hc h1
        refine key q ?_ hq2
        have : ∃ B O, a.tmps.getD c undef = .pointer (some ⟨B, O, none⟩) := by
          unfold pload at h1
          split at h1
          · rename_i cs _ hcs _ _; obtain ⟨B, O, h, _⟩ := pcells_sound hr hc hcs; exact ⟨B, O, h⟩
          · rename_i cs _ hcs _ _; obtain ⟨B, O, h, _⟩ := pcells_sound hr hc hcs; exact ⟨B, O, h⟩
          · simp at h1
        obtain ⟨B, O, hBO⟩ := this
        rw [hg2, hBO]
        rw [hBO] at hq1
        simp only [Instr.loadAt, Instr.sureAddr, Sem.run_bind, Sem.run_pure, Result.andThen_ok, asAddr] at hq1 ⊢
        exact hq1
    · simp at h

theorem SC.of_SW {f : FuncId} {fn : Func} {c : Code} {args : List V} {L : List Obj} {K : V → List Obj → Prop} (hZ : ∀ B o, Z B o → ∃ c e f, o = .cells c e f)
    (hf : P.funcs[f]? = some fn) (hb : fn.body = some c) (hname : (fn.name == "runtime.NumGoroutine") = false) (hn : args.length ≤ fn.ntmps) (hres : fn.results.toList.all (okRes fn.ntmps) = true)
    (h : SW P Z none fn.ntmps c (fun e s => (e = .normal ∨ e = .ret) ∧ ∃ v, resV P s fn.results.toList = some v ∧ K v s.L) ⟨fun t => args.getD t .undef, L⟩) : SC P Z f args L K := by
  refine ⟨⟨fn, hf, by simp [hb], hname⟩, fun G w rargs hr ha => ?_⟩
  intro cs
  let b : Frame := { (default : Frame) with fn := f, kind := .normal }
  let a : Act := { tmps := rargs ++ Array.replicate (fn.ntmps - rargs.size) undef, defers := [] }
  have henter : Frame.enter P f rargs .normal = atr b a [.code c] := by
    simp [Frame.enter, atr, hf, hb, b, a]; rfl
  have hsr : SR Z w.heap.size fn.ntmps G ⟨fun t => args.getD t .undef, L⟩ a w := by
    have hsz := ha.1
    refine ⟨by simp [a]; omega, fun t ht => ?_, hr, [], rfl, .nil, by simp⟩
    by_cases hlt : t < args.length
    · have h1 : (args.getD t V.undef) = args[t] := by simp [List.getD_eq_getElem?_getD, hlt]
      have h2 : a.tmps.getD t undef = rargs.getD t undef := by
        simp only [a, Array.getD_eq_getD_getElem?]; rw [Array.getElem?_append_left (by omega)]
      show VR G (args.getD t V.undef) _
      rw [h1, h2]; exact ha.2 t hlt
    · have h1 : (args.getD t V.undef) = .undef := by simp [List.getD_eq_getElem?_getD, Nat.not_lt.1 hlt]
      have h2 : a.tmps.getD t undef = undef := by
        simp only [a, Array.getD_eq_getD_getElem?]; rw [Array.getElem?_append_right (by omega)]
        simp [show t - rargs.size < fn.ntmps - rargs.size by omega]
      show VR G (args.getD t V.undef) _
      rw [h1, h2]; exact VR_undef
  obtain ⟨e, a', w', ⟨st', G', ⟨he, v, hv, hK⟩, hs', hevo⟩, harr⟩ := h w.heap.size G a w (Nat.le_refl _) hsr b [] cs rfl
  obtain ⟨ds, hd1, hd2, hd3⟩ := hs'.ds
  -- the frame is returning
  obtain ⟨todo, hsteps⟩ : ∃ todo, Steps P (lone (Frame.enter P f rargs .normal) cs w) (lone { atr b a' todo with mode := .returning } cs w') := by
    rw [henter]
    rcases he with rfl | rfl
    · exact ⟨[], Steps.trans harr (.one (step_lone_go (by simp [stepG, stepG.exec, atr, b]; rfl)))⟩
    · obtain ⟨k', hk⟩ := harr
      exact ⟨_, hk.trans (.one (step_lone_go (by simp [stepG, stepG.exec, atr, b]; rfl)))⟩
  obtain ⟨w2, h1, h2, h3, h4, h5⟩ := unwinds (P := P) hZ ds { atr b a' todo with mode := .returning } cs w' rfl hd1 hd2 hd3 hs'.rel
  have hevo2 : Evo G L w G' st'.L w2 := ⟨hevo.le, by rw [h3]; exact hevo.size, fun B hB hn => by rw [h4 B hB]; exact hevo.keep B hB hn, hevo.heldi, hevo.kn, h5.1.trans hevo.io.1, h5.2.trans hevo.io.2⟩
  unfold resV at hv
  cases hvs : resVs P st' fn.results.toList with
  | none => rw [hvs] at hv; simp at hv
  | some vs =>
    have hrun : ∃ r, (results fn a'.tmps).run P w2 = .ok r w2 ∧ VR G' v r := by
      rw [hvs] at hv
      unfold results
      rw [Sem.run_bind, Array.mapM_eq_mapM_toList, Sem.run_map]
      suffices H : ∀ g : ResultVar → Sem Value, (∀ t, g (.tmp t) = pure (a'.tmps.getD t undef)) → (∀ c t, g (.cell c t) = (do loadVar t (← asAddr (a'.tmps.getD c undef)))) →
          ∃ r, ((((fn.results.toList.mapM (m := Sem) g).run P w2).andThen fun a w' => .ok a.toArray w').andThen fun a w' => Sem.run P (pure (if h : a.size = 1 then a[0] else Value.tuple a)) w') = .ok r w2 ∧ VR G' v r by
        refine H _ ?_ ?_
        · intro t; rfl
        · intro c t; rfl
      intro g hg1 hg2
      obtain ⟨us, hu1, hu2, hu3⟩ := results_sound (P := P) (a := a') g hg1 hg2 h2 hs'.size hs'.tm hres hvs
      rw [hu1]
      simp only [Result.andThen_ok, Sem.run_pure]
      by_cases h1 : us.length = 1
      · obtain ⟨u, rfl⟩ : ∃ u, us = [u] := List.length_eq_one_iff.1 h1
        obtain ⟨y, rfl⟩ : ∃ y, vs = [y] := List.length_eq_one_iff.1 (by omega)
        simp only [Option.some.injEq] at hv; subst hv
        exact ⟨u, by simp, by simpa using hu3 0 (by simp)⟩
      · have hv' : v = .tup vs := by
          split at hv
          · rename_i y hy; simp only [Option.some.injEq] at hy; subst hy; simp at hu2; omega
          · rename_i vs2 _ hy; simp only [Option.some.injEq] at hy hv; subst hy; exact hv.symm
          · rename_i hy; simp at hy
        subst hv'
        refine ⟨.tuple us.toArray, by simp [h1], .tup (by simpa using hu2) (fun p hp => ?_)⟩
        have := hu3 p hp
        simpa [Array.getD_eq_getD_getElem?, List.getD_eq_getElem?_getD] using this
    obtain ⟨r, hr1, hr2⟩ := hrun
    exact ⟨r, w2, _, ⟨G', st'.L, v, hK, h2, hevo2, hr2⟩, hsteps.trans h1, rfl, rfl, rfl, rfl, fn, hf, hr1⟩
end Go.Pv
