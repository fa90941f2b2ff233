import Derived.Test.YtfjkplemepcmeaaPv6
set_option linter.unusedVariables false
set_option linter.unusedSectionVars false
/- 'pop' is right: what turns the objects. -/
set_option linter.unusedSimpArgs false
namespace Go.Pv
variable {P : Program} {Z : Nat → Go.Obj → Prop} {G : Gh} {L : List Obj} {w : World}

/-- What an operation owes: its result, and the objects behind it. -/
def Done (Z : Nat → Go.Obj → Prop) (G : Gh) (L : List Obj) (w : World) (v : V) (L' : List Obj) (r : Value) (w' : World) : Prop :=
  ∃ G', Rel Z G' L' w' ∧ Evo G L w G' L' w' ∧ VR G' v r

theorem Done.same (hr : Rel Z G L w) {v : V} {r : Value} (hv : VR G v r) : Done Z G L w v L r w := ⟨G, hr, .refl G L w, hv⟩

theorem free_new (c : Array Value) : Free c (0, 0) := fun o h => by simp at h

/-- A new box. -/
theorem newBox (hr : Rel Z G L w) {cs : List V} {c : Array Value} (h : RL G cs c) (ho : ∀ x ∈ cs, x.one = true) (e : TypeId) :
    Done Z G L w (.ref L.length 0) (L ++ [.box cs]) (.pointer (some ⟨w.heap.size, 0, none⟩)) { w with heap := w.heap.push (.cells c e) } := by
  have hle := Gh.le_addR G L.length 0 (.obj w.heap.size)
  have := hr.pushObj (o := .cells c e) (ob := .box cs) (l := .obj w.heap.size) (.inl rfl)
    ⟨w.heap.size, c, e, (0, 0), Gh.addR_self _ _ _ _, by simp, free_new c, h.1, fun p hp => (h.2 p hp).mono hle, ho⟩
  exact ⟨_, this.1, this.2, .ref (Gh.addR_self _ _ _ _)⟩

theorem alloc_sound (hr : Rel Z G L w) {t : TypeId} {z : V} (hz : zeroV P t = some z) (ho : z.cells.all V.one = true) :
    ∃ q w', (Instr.alloc t true (.tuple #[])).run P w = .ok q w' ∧ Done Z G L w (.ref L.length 0) (L ++ [.box z.cells]) q w' := by
  obtain ⟨i, zr, hi, hiz, hov⟩ := zeroV_info hz
  refine ⟨_, _, ?_, newBox hr (ofVal_VR (G := G) hov).rl (by simpa using ho) t⟩
  simp [Instr.alloc, run_zeroValue hi hiz, newVar, newRow]

theorem box_sound (hr : Rel Z G L w) {t : TypeId} {x : V} {r : Value} (hx : VR G x r) (ho : x.cells.all V.one = true) :
    ∃ q w', (Instr.box t r).run P w = .ok q w' ∧ Done Z G L w (.ref L.length 0) (L ++ [.box x.cells]) q w' := by
  refine ⟨_, _, ?_, newBox hr hx.rl (by simpa using ho) t⟩
  simp [Instr.box, newVar, newRow]

/-! ### stores -/
theorem run_storeCells {b : Nat} {e : TypeId} {fr : Nat × Nat} : ∀ (vs : List Value) (c : Array Value) (w : World) (off i : Nat), w.heap[b]? = some (.cells c e fr) → Free c fr →
    off + i + vs.length ≤ c.size → (∀ v ∈ vs, v.oneCell' = true) →
    (storeCells ⟨b, off, none⟩ vs i).run P w = .ok () { w with heap := w.heap.setIfInBounds b (.cells (updC c (off + i) vs) e fr) }
  | [], c, w, off, i, hh, _, _, _ => by
    have : w.heap.setIfInBounds b (.cells c e fr) = w.heap := by
      apply Array.ext_getElem?
      intro j
      by_cases hj : j = b
      · subst hj; rw [Array.getElem?_setIfInBounds_self_of_lt (Array.getElem?_eq_some_iff.1 hh).1, hh]
      · rw [Array.getElem?_setIfInBounds_ne (Ne.symm hj)]
    simp only [storeCells, Sem.run_pure, updC, this]
  | v :: vs, c, w, off, i, hh, hf, hs, ho => by
    simp only [List.length_cons] at hs
    have hblt := (Array.getElem?_eq_some_iff.1 hh).1
    have hcell : w.cell? ⟨b, off + i, none⟩ = some (c.getD (off + i) undef) := cell_of_heap hh (by omega)
    have hfz : w.frozen? ⟨b, off + i, none⟩ = false := by
      have := hf (off + i)
      simp only [World.frozen?, hh]
      simpa using this
    have hset : w.setCell ⟨b, off + i, none⟩ v = { w with heap := w.heap.setIfInBounds b (.cells (c.setIfInBounds (off + i) v) e fr) } := by
      unfold World.setCell
      congr 1
      apply Array.ext_getElem?
      intro j
      by_cases hj : j = b
      · subst hj
        rw [Array.getElem?_setIfInBounds_self_of_lt hblt, Array.getElem?_modify, if_pos rfl, hh]
        rfl
      · rw [Array.getElem?_setIfInBounds_ne (Ne.symm hj), Array.getElem?_modify, if_neg (Ne.symm hj)]
    have ih := run_storeCells vs (c.setIfInBounds (off + i) v) { w with heap := w.heap.setIfInBounds b (.cells (c.setIfInBounds (off + i) v) e fr) } off (i + 1)
      (by show (w.heap.setIfInBounds b _)[b]? = _; rw [Array.getElem?_setIfInBounds_self_of_lt hblt])
      hf (by simp; omega) (fun u hu => ho u (by simp [hu]))
    simp only [storeCells, Sem.run_bind, add_none, run_store P w ⟨b, off + i, none⟩ v .plain (ho v (by simp)), hcell, hfz, Bool.false_eq_true, if_false, Result.andThen_ok, hset, ih]
    simp only [updC, Array.setIfInBounds_setIfInBounds]
    rfl

theorem VR.ones {cs : List V} {us : List Value} (hl : us.length = cs.length) (hv : ∀ p (h : p < cs.length), VR G cs[p] (us.getD p undef)) (ho : ∀ x ∈ cs, x.one = true) :
    ∀ u ∈ us, u.oneCell' = true := by
  intro u hu
  obtain ⟨p, hp, rfl⟩ := List.getElem_of_mem hu
  have h1 := hv p (by omega)
  have := h1.one (ho _ (List.getElem_mem _))
  simpa [List.getD_eq_getElem?_getD, hp] using this

/-- Cells of a box are stored into. -/
theorem box_put (hr : Rel Z G L w) {id b off : Nat} {cs vs : List V} {us : List Value} (hL : L[id]? = some (.box cs)) (hid : G.R id 0 (.obj b)) (hl : us.length = vs.length)
    (hv : ∀ p (h : p < vs.length), VR G vs[p] (us.getD p undef)) (ho : ∀ x ∈ vs, x.one = true) (hoff : off + vs.length ≤ cs.length) :
    ∃ w', (storeCells ⟨b, off, none⟩ us).run P w = .ok () w' ∧ Rel Z G (L.set id (.box (setAt cs off vs))) w' ∧ Evo G L w G (L.set id (.box (setAt cs off vs))) w' := by
  obtain ⟨b', c, e, fr, hrb, hh, hf, hs, hvv, hone⟩ := hr.ok id _ hL
  have := hr.fn _ _ _ _ hid hrb
  simp only [Loc.obj.injEq] at this; subst this
  have hrun := run_storeCells (P := P) us c w off 0 hh hf (by omega) (VR.ones hl hv ho)
  rw [Nat.add_zero] at hrun
  refine ⟨_, hrun, ?_⟩
  have hset := RL.set (G := G) (cs := cs) (vs := vs) (c := c) (us := us) (off := off) ⟨hs, hvv⟩ hl hv hoff
  have hblt := (Array.getElem?_eq_some_iff.1 hh).1
  have hself : ({ w with heap := w.heap.setIfInBounds b (.cells (updC c off us) e fr) } : World).heap[b]? = some (.cells (updC c off us) e fr) := by
    show (w.heap.setIfInBounds b _)[b]? = _
    rw [Array.getElem?_setIfInBounds_self_of_lt hblt]
  refine hr.change hL (.inl hrb) (.refl G) (by simp) (fun B hB => ?_) ?_ (fun B hB => hr.at_fn (ob := .box (setAt cs off vs)) hB (.inl hrb)) (fun _ _ _ h => .inl h) hr.fn (by simp) (fun o v hk => ?_) (fun _ _ _ _ h => h)
  · show (w.heap.setIfInBounds b _)[B]? = _
    rw [Array.getElem?_setIfInBounds_ne (Ne.symm hB)]
  · refine ⟨b, _, e, fr, hrb, hself, hf, hset.1, hset.2, fun x hx => ?_⟩
    simp only [setAt, List.mem_append] at hx
    rcases hx with (hx | hx) | hx
    · exact hone x (List.mem_of_mem_take hx)
    · exact ho x hx
    · exact hone x (List.mem_of_mem_drop hx)
  · obtain ⟨_, _, _, he, _⟩ := hr.kw b o v id _ hk hL (.inl hrb)
    simp at he

theorem flat_set {sz i : Nat} {x y : V} : ∀ {xs : List V}, (∀ z ∈ xs, z.cells.length = sz) → xs[i]? = some x → y.cells.length = sz → flat (xs.set i y) = setAt (flat xs) (i * sz) y.cells := by
  intro xs hs hx hy
  have hlt : i < xs.length := (List.getElem?_eq_some_iff.1 hx).1
  have e1 : xs.set i y = xs.take i ++ y :: xs.drop (i + 1) := by rw [List.set_eq_take_append_cons_drop, if_pos hlt]
  rw [e1, flat_append, flat_cons, flat_take i hs, flat_drop (i + 1) hs, setAt, hy, Nat.succ_mul, List.append_assoc]

theorem setElem_cells {x : V} {j sz : Nat} {vs : List V} (hx : x.cells.length = sz) (hj : j + vs.length ≤ sz) (h0 : 0 < vs.length) (ho : ∀ v ∈ vs, v.one = true) :
    (setElem x j vs).cells = setAt x.cells j vs := by
  have h1 : ∀ y : V, y.cells = [y] → y.cells.length = sz → (vs.headD y).cells = setAt y.cells j vs := by
    intro y hy hl
    rw [hy] at hl
    simp at hl
    subst hl
    cases vs with
    | nil => simp at h0
    | cons v vs =>
      have hj0 : j = 0 := by simp at hj; omega
      have hvs : vs = [] := by cases vs with | nil => rfl | cons _ _ => simp only [List.length_cons] at hj; omega
      subst hj0 hvs
      rw [hy]
      have hv := ho v (by simp)
      simp only [List.headD_cons, setAt, List.take_zero, List.nil_append, List.length_singleton, List.drop_succ_cons, List.drop_nil, List.append_nil]
      cases v <;> first | rfl | (simp [V.one] at hv)
  cases x <;> first | rfl | exact h1 _ rfl hx

/-- Elements of a buffer are stored into: cells [off, off + n) of the flat row. -/
theorem buf_put (hr : Rel Z G L w) {id b cap sz m off : Nat} {xs xs' vs : List V} {us : List Value} (hL : L[id]? = some (.buf sz m xs)) (hid : G.R id xs.length (.blk b cap sz))
    (hl : us.length = vs.length) (hv : ∀ p (h : p < vs.length), VR G vs[p] (us.getD p undef)) (ho : ∀ x ∈ vs, x.one = true) (hlen : xs'.length = xs.length)
    (hszs' : ∀ x ∈ xs', x.cells.length = sz) (hflat : flat xs' = setAt (flat xs) off vs) (hm : m * sz ≤ off) (hoff : off + vs.length ≤ (flat xs).length) :
    ∃ w', (storeCells ⟨b, off, none⟩ us).run P w = .ok () w' ∧ Rel Z G (L.set id (.buf sz m xs')) w' ∧ Evo G L w G (L.set id (.buf sz m xs')) w' := by
  obtain ⟨hmx, hszs, loc, hloc, hlo⟩ := hr.ok id _ hL
  have := hr.fn _ _ _ _ hid hloc
  subst this
  obtain ⟨_, hcap, c, e, fr, hh, hf, hs, hvv⟩ := hlo
  have hfl := flat_length hszs
  have hfc : (flat xs).length ≤ c.size := by rw [hfl, hs]; exact Nat.mul_le_mul_right _ hcap.1
  have hrun := run_storeCells (P := P) us c w off 0 hh hf (by omega) (VR.ones hl hv ho)
  rw [Nat.add_zero] at hrun
  refine ⟨_, hrun, ?_⟩
  have hblt := (Array.getElem?_eq_some_iff.1 hh).1
  have hself : ({ w with heap := w.heap.setIfInBounds b (.cells (updC c off us) e fr) } : World).heap[b]? = some (.cells (updC c off us) e fr) := by
    show (w.heap.setIfInBounds b _)[b]? = _
    rw [Array.getElem?_setIfInBounds_self_of_lt hblt]
  have hat : At G id (.buf sz m xs) b := .inr ⟨_, _, hloc⟩
  have hgen : At G id (.buf sz m xs') b := .inr ⟨cap, sz, by show G.R id xs'.length _; rw [hlen]; exact hloc⟩
  refine hr.change hL hat (.refl G) (by simp) (fun B hB => ?_) ?_ (fun B hB => hr.at_fn hB hgen) (fun _ _ _ h => .inl h) hr.fn ?_ (fun o v hk => ?_) (fun _ _ _ _ h => h)
  · show (w.heap.setIfInBounds b _)[B]? = _
    rw [Array.getElem?_setIfInBounds_ne (Ne.symm hB)]
  · refine ⟨by omega, hszs', .blk b cap sz, by rw [hlen]; exact hloc, rfl, ⟨by omega, hcap.2⟩, _, e, fr, hself, hf, by rw [updC_size, hs], fun p hp => ?_⟩
    have hp' := hp
    rw [hflat, setAt_length hoff] at hp'
    have hg := setAt_get (p := p) hoff
    rw [← hflat, List.getElem?_eq_getElem hp] at hg
    rw [updC_get us c off p (by omega), hl]
    by_cases hc : off ≤ p ∧ p < off + vs.length
    · rw [if_pos hc] at hg ⊢
      have hlt : p - off < vs.length := by omega
      rw [List.getElem?_eq_getElem hlt] at hg
      simp only [Option.some.injEq] at hg
      rw [hg]; exact hv _ hlt
    · rw [if_neg hc] at hg ⊢
      rw [List.getElem?_eq_getElem hp'] at hg
      simp only [Option.some.injEq] at hg
      rw [hg]; exact hvv p hp'
  · intro sz2 m2 xs2 he g l hg
    simp only [Obj.buf.injEq] at he
    obtain ⟨_, _, rfl⟩ := he
    rw [hlen]; exact hr.rg _ _ _ _ _ _ hg hL
  · have hkc := hr.kc b o v hk
    obtain ⟨sz2, m2, xs2, he, ho2⟩ := hr.kw b o v id _ hk hL hat
    simp only [Obj.buf.injEq] at he
    obtain ⟨rfl, rfl, rfl⟩ := he
    refine ⟨?_, _, _, _, rfl, ho2⟩
    have hold : w.cell? ⟨b, o, none⟩ = some (c.getD o undef) := cell_of_heap hh (by
      have : o < m * sz := ho2
      have : m * sz ≤ xs.length * sz := Nat.mul_le_mul_right _ hmx
      omega)
    have hlt2 : o < (updC c off us).size := by
      rw [updC_size]
      have : m * sz ≤ xs.length * sz := Nat.mul_le_mul_right _ hmx
      omega
    rw [cell_of_heap hself hlt2, updC_get us c off o (by omega), if_neg (by omega), ← hold, hkc]

theorem store_sound (hr : Rel Z G L w) {t : TypeId} {p v : V} {r s : Value} {L' : List Obj} (hp : VR G p r) (hv : VR G v s) (h : pstore P L t p v = some L') :
    ∃ w', (Instr.storeAt t r s).run P w = .ok () w' ∧ Rel Z G L' w' ∧ Evo G L w G L' w' := by
  unfold pstore at h
  split at h
  · rename_i hc
    obtain ⟨hsz, hone⟩ := hc
    have hone' : ∀ x ∈ v.cells, x.one = true := by simpa using hone
    obtain ⟨hn, hvv⟩ := hv.cells
    have hvv' : ∀ q (hq : q < v.cells.length), VR G v.cells[q] (s.cells.toList.getD q undef) := fun q hq => by
      have := hvv q hq; simpa [Array.getD_eq_getD_getElem?, List.getD_eq_getElem?_getD] using this
    have hl : s.cells.toList.length = v.cells.length := by simpa using hn
    have key : ∀ B O w', (storeCells ⟨B, O, none⟩ s.cells.toList).run P w = .ok () w' → (Instr.storeAt t (.pointer (some ⟨B, O, none⟩)) s).run P w = .ok () w' := by
      intro B O w' hs
      simp [Instr.storeAt, Instr.sureAddr, storeVar, run_sizeOf hsz, hn, hs]
    split at h
    · rename_i id off
      split at h
      · rename_i cs hL
        split at h
        · rename_i hoff
          simp only [Option.some.injEq] at h; subst h
          cases hp with
          | ref hid =>
            obtain ⟨w', h1, h2, h3⟩ := box_put (P := P) hr hL hid hl hvv' hone' hoff
            exact ⟨w', key _ _ _ h1, h2, h3⟩
        · simp at h
      · simp at h
    · rename_i id gen i j
      split at h
      · rename_i sz m xs hL
        split at h
        · rename_i hcond
          obtain ⟨hg, hmi, hj, h0⟩ := hcond
          subst hg
          split at h
          · rename_i x hx
            simp only [Option.some.injEq] at h; subst h
            obtain ⟨hmx, hszs, loc, hloc, hlo⟩ := hr.ok id _ hL
            obtain ⟨hlt, hxe⟩ := getD_flat hx
            have hxl : x.cells.length = sz := hszs x (by rw [← hxe]; exact List.getElem_mem _)
            cases hp with
            | erefx hid =>
              have := hr.fn _ _ _ _ hid hloc
              subst this
              obtain ⟨_, hm2, _⟩ := hlo
              omega
            | eref hid =>
              have hloc2 := hr.fn _ _ _ _ hid hloc
              subst hloc2
              have hsz2 := hlo.1
              subst hsz2
              rename_i b cap sz
              have hcells := setElem_cells (j := j) hxl hj h0 hone'
              have hxx : x.cells.length = sz := hxl
              have hyl : (setElem x j v.cells).cells.length = sz := by rw [hcells, setAt_length (by omega), hxl]
              have hfl : flat (xs.set i (setElem x j v.cells)) = setAt (flat xs) (i * sz + j) v.cells := by
                rw [flat_set hszs hx hyl, hcells]
                have hflen := flat_length hszs
                have hi : i * sz + sz ≤ (flat xs).length := by
                  rw [hflen, ← Nat.succ_mul]; exact Nat.mul_le_mul_right _ hlt
                apply List.ext_getElem?
                intro p
                have hin : (setAt x.cells j v.cells).length = sz := by rw [setAt_length (by omega), hxl]
                rw [setAt_get (cs := flat xs) (off := i * sz) (vs := setAt x.cells j v.cells) (by rw [hin]; exact hi), setAt_get (cs := flat xs) (off := i * sz + j) (vs := v.cells) (by omega)]
                rw [hin]
                by_cases h1 : i * sz ≤ p ∧ p < i * sz + sz
                · rw [if_pos h1, setAt_get (by omega)]
                  have hget := flat_get hszs hx (q := p - i * sz) (by omega)
                  rw [show i * sz + (p - i * sz) = p by omega] at hget
                  by_cases h2 : j ≤ p - i * sz ∧ p - i * sz < j + v.cells.length
                  · rw [if_pos h2, if_pos (by omega)]; congr 1; omega
                  · rw [if_neg h2, if_neg (by omega), hget]
                · rw [if_neg h1, if_neg (by omega)]
              obtain ⟨w', h1, h2, h3⟩ := buf_put (P := P) hr hL hid hl hvv' hone' (xs' := xs.set i (setElem x j v.cells)) (by simp)
                (fun y hy => by
                  rcases List.mem_or_eq_of_mem_set hy with hy | rfl
                  · exact hszs y hy
                  · exact hyl) hfl
                (Nat.le_trans (Nat.mul_le_mul_right _ hmi) (Nat.le_add_right _ _))
                (by
                  rw [flat_length hszs]
                  have : (i + 1) * sz ≤ xs.length * sz := Nat.mul_le_mul_right _ hlt
                  rw [Nat.succ_mul] at this
                  omega)
              exact ⟨w', key _ _ _ h1, h2, h3⟩
          · simp at h
        · simp at h
      · simp at h
    · simp at h
  · simp at h
end Go.Pv
