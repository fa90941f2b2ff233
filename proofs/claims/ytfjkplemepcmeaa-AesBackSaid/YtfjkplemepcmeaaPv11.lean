import Derived.Test.YtfjkplemepcmeaaPv10
import Derived.Test.YtfjkplemepcmeaaG0
set_option linter.unusedVariables false
set_option linter.unusedSectionVars false
/- 'pop' is right. -/
set_option linter.unusedSimpArgs false
namespace Go.Pv
variable {P : Program} {Z : Nat → Go.Obj → Prop} {G : Gh} {L : List Obj} {w : World}

def OpS (P : Program) (Z : Nat → Go.Obj → Prop) (G : Gh) (L : List Obj) (w : World) (s : Sem Next) (v : V) (L' : List Obj) : Prop :=
  ∃ q w', (s.run P w = .ok (.value q) w' ∨ (s.run P w = .ok .skip w' ∧ q = undef)) ∧ Done Z G L w v L' q w'

theorem toArr_sound {t : TypeId} {x v : V} {r : Value} (hv : VR G x r) (h : ptoArr P t x = some v) : ∃ q, (Instr.arrayAt t r).run P w = .ok q w ∧ VR G v q := by
  unfold ptoArr at h
  split at h
  · rename_i n e xs hu
    split at h
    · rename_i hc
      simp only [Option.some.injEq] at h
      subst h
      cases hv with
      | sl0 hx => simp at hc; omega
      | sl sz vs hne hx hc2 hsz hk hv =>
        refine ⟨.pointer (some ⟨_, _, none⟩), ?_, .cref vs hk hv⟩
        simp [Instr.arrayAt, Sem.run_bind, run_und hu, Result.andThen_ok, Nat.not_lt.2 hc.2]
    · simp at h
  · simp at h
theorem OpS.val {s : Sem Value} {v : V} {L' : List Obj} (h : ∃ q w', s.run P w = .ok q w' ∧ Done Z G L w v L' q w') : OpS P Z G L w (do pure (.value (← s))) v L' := by
  obtain ⟨q, w', h1, h2⟩ := h
  exact ⟨q, w', .inl (by simp [h1]), h2⟩
theorem OpS.pureVal (hr : Rel Z G L w) {s : Sem Value} {v : V} (h : ∃ q, s.run P w = .ok q w ∧ VR G v q) : OpS P Z G L w (do pure (.value (← s))) v L := by
  obtain ⟨q, h1, h2⟩ := h
  exact .val ⟨q, w, h1, Done.same hr h2⟩

theorem parts_ok {ev : Operand → V} {ρ : Operand → Value} {parts : Array (Nat × Operand)} {pv : List (Nat × V)} {pr : Array (Nat × Value)}
    (e1 : pv = parts.toList.map fun p => (p.1, ev p.2)) (e2 : pr = parts.map fun (i, x) => (i, ρ x)) (h : ∀ x ∈ parts.toList.map (·.2), VR G (ev x) (ρ x)) :
    pv.length = pr.size ∧ ∀ k (h : k < pv.length) (h' : k < pr.toList.length), pv[k].1 = pr.toList[k].1 ∧ VR G pv[k].2 pr.toList[k].2 := by
  subst e1 e2
  refine ⟨by simp, fun k hk hk' => ?_⟩
  simp only [List.getElem_map, Array.toList_map]
  refine ⟨trivial, h _ ?_⟩
  simp only [List.mem_map]
  exact ⟨_, List.getElem_mem _, rfl⟩

theorem VR.bool_inv {b : Bool} {r : Value} (h : VR G (.bool b) r) : r = .bool b := by cases h; rfl
theorem VR.str_inv {b : ByteArray} {r : Value} (h : VR G (.str b) r) : r = .string b := by cases h; rfl
theorem VR.nilmap_inv {r : Value} (h : VR G .nilmap r) : r = .map none := by cases h; rfl
theorem VR.slice_inv {v : V} {r : Value} (h : VR G v r) : (∀ n e xs, v = .sl n e xs → ∃ A c, r = .slice A xs.length c) ∧ (∀ i o l g, v = .own i o l g → ∃ A c, r = .slice A l c) ∧
    (∀ i o l, v = .bsl i o l → ∃ A c, r = .slice A l c) := by
  cases h <;> refine ⟨?_, ?_, ?_⟩ <;> intros <;> simp_all

theorem opt_ok {ev : Operand → V} {ρ : Operand → Value} {x : Option Operand} (h : ∀ y, x = some y → VR G (ev y) (ρ y)) : OptVR G (x.map ev) (x.map ρ) := by
  cases x with
  | none => trivial
  | some y => exact h y rfl

theorem pop_sound (hr : Rel Z G L w) {ev : Operand → V} {ρ : Operand → Value} {o : Oper} {v : V} {L' : List Obj} (hev : ∀ x ∈ o.op.operands.toList, VR G (ev x) (ρ x))
    (h : pop P L ev o.op = some (v, L')) : OpS P Z G L w (execOp ρ o) v L' := by
  obtain ⟨dst, op, type, pos, after, guard⟩ := o
  dsimp only at hev h
  unfold pop at h
  split at h
  · simp only [Option.some.injEq, Prod.mk.injEq] at h
    obtain ⟨rfl, rfl⟩ := h
    exact ⟨_, w, .inl rfl, Done.same hr (hev _ (by simp [Op.operands]))⟩
  · simp only [Option.some.injEq, Prod.mk.injEq] at h
    obtain ⟨rfl, rfl⟩ := h
    exact ⟨_, w, .inl rfl, Done.same hr (hev _ (by simp [Op.operands]))⟩
  · rename_i c a b
    have hc := hev c (by simp [Op.operands])
    split at h
    · rename_i he
      simp only [Option.some.injEq, Prod.mk.injEq] at h
      obtain ⟨rfl, rfl⟩ := h
      rw [he] at hc
      have := hc.bool_inv
      exact ⟨_, w, .inl (by simp [execOp, this, asBool]), Done.same hr (hev a (by simp [Op.operands]))⟩
    · rename_i he
      simp only [Option.some.injEq, Prod.mk.injEq] at h
      obtain ⟨rfl, rfl⟩ := h
      rw [he] at hc
      have := hc.bool_inv
      exact ⟨_, w, .inl (by simp [execOp, this, asBool]), Done.same hr (hev b (by simp [Op.operands]))⟩
    · simp at h
  · rename_i t
    split at h
    · rename_i z hz
      split at h
      · rename_i ho
        simp only [Option.some.injEq, Prod.mk.injEq] at h
        obtain ⟨rfl, rfl⟩ := h
        exact .val (alloc_sound hr hz ho)
      · simp at h
    · simp at h
  · rename_i t x
    split at h
    · rename_i ho
      simp only [Option.some.injEq, Prod.mk.injEq] at h
      obtain ⟨rfl, rfl⟩ := h
      exact .val (box_sound hr (hev x (by simp [Op.operands])) ho)
    · simp at h
  · rename_i t parts
    simp only [Option.map_eq_some_iff, Prod.mk.injEq] at h
    obtain ⟨v', h, rfl, rfl⟩ := h
    obtain ⟨h1, h2⟩ := parts_ok (G := G) (ev := ev) (ρ := ρ) (parts := parts) rfl rfl (fun x hx => hev x (by simpa [Op.operands] using hx))
    exact .pureVal hr (build_sound h1 h2 h)
  · rename_i t len parts
    simp only [Option.map_eq_some_iff, Prod.mk.injEq] at h
    obtain ⟨v', h, rfl, rfl⟩ := h
    obtain ⟨h1, h2⟩ := parts_ok (G := G) (ev := ev) (ρ := ρ) (parts := parts) rfl rfl (fun x hx => hev x (by simpa [Op.operands] using hx))
    exact .val (buildSlice_sound hr h1 h2 h)
  · rename_i t a
    simp only [Option.map_eq_some_iff, Prod.mk.injEq] at h
    obtain ⟨v', h, rfl, rfl⟩ := h
    exact .pureVal hr (pload_sound hr (hev a (by simp [Op.operands])) h)
  · rename_i t a x
    simp only [Option.map_eq_some_iff, Prod.mk.injEq] at h
    obtain ⟨L2, h, rfl, rfl⟩ := h
    obtain ⟨w', h1, h2, h3⟩ := store_sound (P := P) hr (hev a (by simp [Op.operands])) (hev x (by simp [Op.operands])) h
    exact ⟨undef, w', .inr ⟨by simp [execOp, h1], rfl⟩, G, h2, h3, VR_undef⟩
  · rename_i x
    have hx := hev x (by simp [Op.operands])
    split at h
    all_goals first
      | (simp at h; done)
      | (rename_i he
         simp only [Option.some.injEq, Prod.mk.injEq] at h
         obtain ⟨rfl, rfl⟩ := h
         rw [he] at hx
         refine ⟨ρ x, w, .inl ?_, Done.same hr hx⟩
         generalize ρ x = r at hx
         cases hx <;> rfl)
      | (rename_i i o he
         simp only [Option.some.injEq, Prod.mk.injEq] at h
         obtain ⟨rfl, rfl⟩ := h
         rw [he] at hx
         refine ⟨ρ x, w, .inl ?_, Done.same hr hx⟩
         simp only [execOp]
         generalize ρ x = r at hx
         cases hx <;> rfl)
  · rename_i op t x y yt
    simp only [Option.map_eq_some_iff, Prod.mk.injEq] at h
    obtain ⟨v', h, rfl, rfl⟩ := h
    exact .pureVal hr (pbin_sound h (hev x (by simp [Op.operands])) (hev y (by simp [Op.operands])))
  · rename_i op t x
    simp only [Option.map_eq_some_iff, Prod.mk.injEq] at h
    obtain ⟨v', h, rfl, rfl⟩ := h
    exact .pureVal hr (pun_sound h (hev x (by simp [Op.operands])))
  · rename_i src d x
    simp only [Option.map_eq_some_iff, Prod.mk.injEq] at h
    obtain ⟨v', h, rfl, rfl⟩ := h
    exact .val (conv_sound hr (hev x (by simp [Op.operands])) h)
  · rename_i f first captured
    split at h
    · rename_i hf
      simp only [Option.some.injEq, Prod.mk.injEq] at h
      obtain ⟨rfl, rfl⟩ := h
      have hf' : first = #[] := by simpa using hf
      subst hf'
      refine ⟨.func (.func f) #[] (captured.map ρ), w, .inl (by simp [execOp, Instr.makeFunc]), Done.same hr (.fn (by simp) (fun p hp => ?_))⟩
      simp only [List.length_map, Array.length_toList] at hp
      have := hev captured[p] (by simp [Op.operands])
      simpa [Array.getD_eq_getD_getElem?, hp] using this
    · simp at h
  · rename_i t l c
    exact .val (makeSlice_sound hr (hev l (by simp [Op.operands])) (hev c (by simp [Op.operands])) h)
  · rename_i t x lo hi mx
    simp only [Option.map_eq_some_iff, Prod.mk.injEq] at h
    obtain ⟨v', h, rfl, rfl⟩ := h
    exact .pureVal hr (slice_sound hr (hev x (by simp [Op.operands])) (opt_ok fun y hy => hev y (by simp [Op.operands, hy])) (opt_ok fun y hy => hev y (by simp [Op.operands, hy]))
      (opt_ok fun y hy => hev y (by simp [Op.operands, hy])) h)
  · rename_i t x i
    simp only [Option.map_eq_some_iff, Prod.mk.injEq] at h
    obtain ⟨v', h, rfl, rfl⟩ := h
    exact .pureVal hr (fieldAddr_sound (hev x (by simp [Op.operands])) h)
  · rename_i t x i
    simp only [Option.map_eq_some_iff, Prod.mk.injEq] at h
    obtain ⟨v', h, rfl, rfl⟩ := h
    exact .pureVal hr (field_sound (hev x (by simp [Op.operands])) h)
  · rename_i t x i
    simp only [Option.map_eq_some_iff, Prod.mk.injEq] at h
    obtain ⟨v', h, rfl, rfl⟩ := h
    exact .pureVal hr (indexAddr_sound hr (hev x (by simp [Op.operands])) (hev i (by simp [Op.operands])) h)
  · rename_i t x i
    simp only [Option.map_eq_some_iff, Prod.mk.injEq] at h
    obtain ⟨v', h, rfl, rfl⟩ := h
    exact .pureVal hr (index_sound (hev x (by simp [Op.operands])) (hev i (by simp [Op.operands])) h)
  · rename_i x i
    have hx := hev x (by simp [Op.operands])
    split at h
    · rename_i vs he
      simp only [Option.map_eq_some_iff, Prod.mk.injEq] at h
      obtain ⟨v', h, rfl, rfl⟩ := h
      rw [he] at hx
      exact .pureVal hr (extract_sound hx h)
    · simp at h
  · rename_i t x
    simp only [Option.map_eq_some_iff, Prod.mk.injEq] at h
    obtain ⟨v', h, rfl, rfl⟩ := h
    exact .pureVal hr (toArr_sound (hev x (by simp [Op.operands])) h)
  · rename_i b args argTypes
    have hargs : ∀ x ∈ args.toList, VR G (ev x) (ρ x) := fun x hx => hev x (by simpa [Op.operands, Call.operands] using hx)
    have hrun : ∀ {q : Value} {w' : World}, (builtin b argTypes type (args.map fun | .const _ => true | _ => false) (args.map ρ)).run P w = .ok (.value q) w' →
        (execOp ρ ⟨dst, .call { callee := .builtin b, args, argTypes }, type, pos, after, guard⟩).run P w = .ok (.value q) w' := by
      intro q w' hq
      simp only [execOp, resolve, Sem.run_bind, Sem.run_pure, Result.andThen_ok, invoke]
      exact hq
    have hvals : args.map ρ = (args.toList.map ρ).toArray := Array.toList_inj.1 (by simp)
    unfold pbuiltin at h
    split at h
    · rename_i x hxs
      have hlen : args.toList = [args.toList.head!] ∧ ev args.toList.head! = x := by
        cases hl : args.toList with
        | nil => simp [hl] at hxs
        | cons a as => simp [hl] at hxs; obtain ⟨h1, h2⟩ := hxs; subst h2; exact ⟨rfl, h1⟩
      generalize args.toList.head! = a at hlen
      obtain ⟨hl, rfl⟩ := hlen
      have hx := hargs a (by rw [hl]; simp)
      rw [hl] at hvals
      simp only [List.map_cons, List.map_nil] at hvals
      have key : ∀ n : Nat, (Builtin.len_ argTypes type #[ρ a]).run P w = .ok (.int .i64 n) w → OpS P Z G L w (execOp ρ ⟨dst, .call { callee := .builtin .len, args, argTypes }, type, pos, after, guard⟩) (.int .i64 n) L := by
        intro n hn
        exact ⟨.int .i64 n, w, .inl (hrun (by rw [hvals]; simp [builtin, hn])), Done.same hr (.int _ _)⟩
      split at h
      · rename_i t ht
        split at h
        · rename_i n e hu
          simp only [Option.some.injEq, Prod.mk.injEq] at h
          obtain ⟨rfl, rfl⟩ := h
          refine key _ ?_
          simp only [Builtin.len_, ht, List.getElem?_toArray, List.getElem?_cons_zero, Sem.run_bind, run_und hu, Result.andThen_ok]
          cases ρ a <;> rfl
        · rename_i arr hu
          split at h
          · rename_i n e hu2
            simp only [Option.some.injEq, Prod.mk.injEq] at h
            obtain ⟨rfl, rfl⟩ := h
            refine key _ ?_
            simp only [Builtin.len_, ht, List.getElem?_toArray, List.getElem?_cons_zero, Sem.run_bind, run_und hu, Result.andThen_ok]
            cases ρ a <;> first | (simp only [Sem.run_bind, run_und hu2, Result.andThen_ok]; rfl) | (rw [Sem.run_bind, run_und hu2]; rfl)
          · simp at h
        · rename_i e hu
          have hsl : ∀ A n c, ρ a = .slice A n c → (Builtin.len_ argTypes type #[ρ a]).run P w = .ok (.int .i64 (n : Nat)) w := by
            intro A n c hra
            simp only [Builtin.len_, ht, hra, List.getElem?_toArray, List.getElem?_cons_zero, Sem.run_bind, run_und hu, Result.andThen_ok]
            rfl
          have hinv := hx.slice_inv
          split at h
          · rename_i nl ex xs he
            simp only [Option.some.injEq, Prod.mk.injEq] at h
            obtain ⟨rfl, rfl⟩ := h
            obtain ⟨A, c, hra⟩ := hinv.1 _ _ _ he
            exact key _ (hsl _ _ _ hra)
          · rename_i i1 i2 i3 i4 he
            simp only [Option.some.injEq, Prod.mk.injEq] at h
            obtain ⟨rfl, rfl⟩ := h
            obtain ⟨A, c, hra⟩ := hinv.2.1 _ _ _ _ he
            exact key _ (hsl _ _ _ hra)
          · rename_i i1 i2 i3 he
            simp only [Option.some.injEq, Prod.mk.injEq] at h
            obtain ⟨rfl, rfl⟩ := h
            obtain ⟨A, c, hra⟩ := hinv.2.2 _ _ _ he
            exact key _ (hsl _ _ _ hra)
          · simp at h
        · rename_i hu
          split at h
          · rename_i s he
            simp only [Option.some.injEq, Prod.mk.injEq] at h
            obtain ⟨rfl, rfl⟩ := h
            rw [he] at hx
            refine key s.size ?_
            simp only [Builtin.len_, ht, hx.str_inv, List.getElem?_toArray, List.getElem?_cons_zero, Sem.run_bind, run_und hu, Result.andThen_ok]
            rfl
          · simp at h
        · rename_i kt et hu
          split at h
          · rename_i id he
            split at h
            · rename_i es hL
              simp only [Option.some.injEq, Prod.mk.injEq] at h
              obtain ⟨rfl, rfl⟩ := h
              rw [he] at hx
              obtain ⟨b, ents, clock, hrb, hh, hs, hv⟩ := hr.ok id _ hL
              refine key es.length ?_
              have hra : ρ a = .map (some b) := by
                generalize ρ a = r at hx
                cases hx with
                | map hid => have := hr.fn _ _ _ _ hid hrb; simp only [Loc.obj.injEq] at this; subst this; rfl
              have hg : (getObj b).run P w = .ok (.map ents clock) w := by simp [getObj, Sem.run, hh]
              simp only [Builtin.len_, ht, hra, List.getElem?_toArray, List.getElem?_cons_zero, Sem.run_bind, run_und hu, Result.andThen_ok, hg]
              rw [← hs]; rfl
            · simp at h
          · rename_i he
            simp only [Option.some.injEq, Prod.mk.injEq] at h
            obtain ⟨rfl, rfl⟩ := h
            rw [he] at hx
            refine key 0 ?_
            simp only [Builtin.len_, ht, hx.nilmap_inv, List.getElem?_toArray, List.getElem?_cons_zero, Sem.run_bind, run_und hu, Result.andThen_ok]
            rfl
          · simp at h
        · simp at h
      · simp at h
    · rename_i s x hxs
      obtain ⟨a, b, hl, rfl, rfl⟩ : ∃ a b, args.toList = [a, b] ∧ ev a = s ∧ ev b = x := by
        cases hl : args.toList with
        | nil => simp [hl] at hxs
        | cons a as => cases as with
          | nil => simp [hl] at hxs
          | cons b bs => simp [hl] at hxs; obtain ⟨h1, h2, h3⟩ := hxs; subst h3; exact ⟨a, b, rfl, h1, h2⟩
      rw [hl] at hvals
      simp only [List.map_cons, List.map_nil] at hvals
      split at h
      · rename_i t u ht0 ht1
        have key : ((∃ k, P.underlying u = some (.slice k)) ∨ P.underlying u = some .string) → pappend P L t (ev a) (ev b) = some (v, L') →
            OpS P Z G L w (execOp ρ ⟨dst, .call { callee := .builtin .append, args, argTypes }, type, pos, after, guard⟩) v L' := by
          intro hu h
          obtain ⟨q, w', h1, h2⟩ := append_sound (P := P) (ty := type) hr ht0 ht1 hu (hargs a (by rw [hl]; simp)) (hargs b (by rw [hl]; simp)) h
          exact ⟨q, w', .inl (hrun (by rw [hvals]; simp [builtin, h1])), h2⟩
        split at h
        · rename_i k hu; exact key (.inl ⟨k, hu⟩) h
        · rename_i hu; exact key (.inr hu) h
        · rename_i hu
          obtain ⟨q, w', h1, h2⟩ := zeros_core (P := P) (ty := type) hr ht0 ht1 hu (hargs a (by rw [hl]; simp)) (hargs b (by rw [hl]; simp)) h
          exact ⟨q, w', .inl (hrun (by rw [hvals]; simp [builtin, h1])), h2⟩
        · simp at h
      · simp at h
    · rename_i d s hxs
      obtain ⟨a, b, hl, rfl, rfl⟩ : ∃ a b, args.toList = [a, b] ∧ ev a = d ∧ ev b = s := by
        cases hl : args.toList with
        | nil => simp [hl] at hxs
        | cons a as => cases as with
          | nil => simp [hl] at hxs
          | cons b bs => simp [hl] at hxs; obtain ⟨h1, h2, h3⟩ := hxs; subst h3; exact ⟨a, b, rfl, h1, h2⟩
      rw [hl] at hvals
      simp only [List.map_cons, List.map_nil] at hvals
      split at h
      · rename_i t ht0
        obtain ⟨q, w', h1, h2⟩ := copy_sound (P := P) (ty := type) hr ht0 (hargs a (by rw [hl]; simp)) (hargs b (by rw [hl]; simp)) h
        exact ⟨q, w', .inl (hrun (by rw [hvals]; simp [builtin, h1])), h2⟩
      · simp at h
    · rename_i x hxs
      obtain ⟨a, hl, rfl⟩ : ∃ a, args.toList = [a] ∧ ev a = x := by
        cases hl : args.toList with
        | nil => simp [hl] at hxs
        | cons a as => cases as with
          | nil => simp [hl] at hxs; exact ⟨a, rfl, hxs⟩
          | cons b bs => simp [hl] at hxs
      rw [hl] at hvals
      simp only [List.map_cons, List.map_nil] at hvals
      split at h
      · rename_i t ht0
        obtain ⟨q, w', h1, h2⟩ := clear_sound (P := P) (ty := type) hr ht0 (hargs a (by rw [hl]; simp)) h
        exact ⟨q, w', .inl (hrun (by rw [hvals]; simp [builtin, h1])), h2⟩
      · simp at h
    · rename_i x hxs
      obtain ⟨a, hl, rfl⟩ : ∃ a, args.toList = [a] ∧ ev a = x := by
        cases hl : args.toList with
        | nil => simp [hl] at hxs
        | cons a as => cases as with
          | nil => simp [hl] at hxs; exact ⟨a, rfl, hxs⟩
          | cons b bs => simp [hl] at hxs
      rw [hl] at hvals
      simp only [List.map_cons, List.map_nil] at hvals
      split at h
      · rename_i t ht0
        simp only [Option.map_eq_some_iff, Prod.mk.injEq] at h
        obtain ⟨v', h, rfl, rfl⟩ := h
        obtain ⟨q, h1, h2⟩ := cap_sound (P := P) (ty := type) hr ht0 (hargs a (by rw [hl]; simp)) h
        exact ⟨q, w, .inl (hrun (by rw [hvals]; simp [builtin, h1])), Done.same hr h2⟩
      · simp at h
    · simp only [Option.map_eq_some_iff, Prod.mk.injEq] at h
      obtain ⟨v', h, rfl, rfl⟩ := h
      cases hl : args.toList with
      | nil => simp [hl, pminmax] at h
      | cons a as =>
        rw [hl] at h
        simp only [List.map_cons, pminmax] at h
        obtain ⟨q, h1, h2⟩ := minmax_sound (P := P) (G := G) (w := w) false (as.map ev) (ev a) _ (ρ a) (as.map ρ) (hargs a (by rw [hl]; simp)) (by simp)
          (fun p hp => by
            simp only [List.length_map] at hp
            have := hargs as[p] (by rw [hl]; simp)
            simpa [List.getD_eq_getElem?_getD, hp] using this) h
        refine ⟨q, w, .inl (hrun ?_), Done.same hr h2⟩
        rw [hvals, hl]
        simp only [builtin, Builtin.min_, List.map_cons]
        simp only [Bool.false_eq_true, if_false] at h1
        simp [h1]
    · simp only [Option.map_eq_some_iff, Prod.mk.injEq] at h
      obtain ⟨v', h, rfl, rfl⟩ := h
      cases hl : args.toList with
      | nil => simp [hl, pminmax] at h
      | cons a as =>
        rw [hl] at h
        simp only [List.map_cons, pminmax] at h
        obtain ⟨q, h1, h2⟩ := minmax_sound (P := P) (G := G) (w := w) true (as.map ev) (ev a) _ (ρ a) (as.map ρ) (hargs a (by rw [hl]; simp)) (by simp)
          (fun p hp => by
            simp only [List.length_map] at hp
            have := hargs as[p] (by rw [hl]; simp)
            simpa [List.getD_eq_getElem?_getD, hp] using this) h
        refine ⟨q, w, .inl (hrun ?_), Done.same hr h2⟩
        rw [hvals, hl]
        simp only [builtin, Builtin.max_, List.map_cons]
        simp only [if_true] at h1
        simp [h1]
    · simp at h
  · simp only [Option.some.injEq, Prod.mk.injEq] at h
    obtain ⟨rfl, rfl⟩ := h
    exact .val (makeMap_sound hr)
  · rename_i t x i ok
    simp only [Option.map_eq_some_iff, Prod.mk.injEq] at h
    obtain ⟨v', h, rfl, rfl⟩ := h
    exact .pureVal hr (lookup_sound hr (hev x (by simp [Op.operands])) (hev i (by simp [Op.operands])) h)
  · rename_i t m i x
    simp only [Option.map_eq_some_iff, Prod.mk.injEq] at h
    obtain ⟨L2, h, rfl, rfl⟩ := h
    obtain ⟨w', h1, h2, h3⟩ := mapUpdate_sound (P := P) hr (hev m (by simp [Op.operands])) (hev i (by simp [Op.operands])) (hev x (by simp [Op.operands])) h
    exact ⟨undef, w', .inr ⟨by simp [execOp, h1], rfl⟩, G, h2, h3, VR_undef⟩
  · simp at h
end Go.Pv
