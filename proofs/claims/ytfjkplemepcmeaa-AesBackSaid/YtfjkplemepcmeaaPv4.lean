import Derived.Test.YtfjkplemepcmeaaPv3
set_option linter.unusedVariables false
set_option linter.unusedSectionVars false
/- 'pop' is right: what reads memory. -/
set_option linter.unusedSimpArgs false
namespace Go.Pv
variable {P : Program} {Z : Nat → Go.Obj → Prop} {G : Gh} {L : List Obj} {w : World}

theorem flat_nil : flat [] = [] := rfl
theorem flat_cons (x : V) (xs : List V) : flat (x :: xs) = x.cells ++ flat xs := rfl
theorem flat_append (xs ys : List V) : flat (xs ++ ys) = flat xs ++ flat ys := by simp [flat]
theorem flat_length {sz : Nat} : ∀ {xs : List V}, (∀ x ∈ xs, x.cells.length = sz) → (flat xs).length = xs.length * sz
  | [], _ => by simp [flat_nil]
  | x :: xs, h => by
    rw [flat_cons, List.length_append, h x (by simp), flat_length (xs := xs) (fun y hy => h y (by simp [hy])), List.length_cons, Nat.succ_mul, Nat.add_comm]
theorem flat_drop {sz : Nat} : ∀ {xs : List V} (n : Nat), (∀ x ∈ xs, x.cells.length = sz) → flat (xs.drop n) = (flat xs).drop (n * sz)
  | xs, 0, _ => by simp
  | [], n + 1, _ => by simp [flat_nil]
  | x :: xs, n + 1, h => by
    rw [List.drop_succ_cons, flat_drop n (fun y hy => h y (by simp [hy])), flat_cons, List.drop_append, h x (by simp)]
    have h1 : (n + 1) * sz - sz = n * sz := by rw [Nat.succ_mul]; omega
    have h2 : x.cells.drop ((n + 1) * sz) = [] := List.drop_eq_nil_iff.2 (by rw [h x (by simp), Nat.succ_mul]; omega)
    rw [h1, h2, List.nil_append]
theorem flat_take {sz : Nat} : ∀ {xs : List V} (n : Nat), (∀ x ∈ xs, x.cells.length = sz) → flat (xs.take n) = (flat xs).take (n * sz)
  | xs, 0, _ => by simp [flat_nil]
  | [], n + 1, _ => by simp [flat_nil]
  | x :: xs, n + 1, h => by
    rw [List.take_succ_cons, flat_cons, flat_cons, flat_take n (fun y hy => h y (by simp [hy])), List.take_append, h x (by simp)]
    have h1 : (n + 1) * sz - sz = n * sz := by rw [Nat.succ_mul]; omega
    have h2 : x.cells.take ((n + 1) * sz) = x.cells := List.take_of_length_le (by rw [h x (by simp), Nat.succ_mul]; omega)
    rw [h1, h2]
theorem flat_get {sz : Nat} {xs : List V} (h : ∀ x ∈ xs, x.cells.length = sz) {i q : Nat} {x : V} (hi : xs[i]? = some x) (hq : q < sz) :
    (flat xs)[i * sz + q]? = x.cells[q]? := by
  have hlt : i < xs.length := (List.getElem?_eq_some_iff.1 hi).1
  have h1 : (flat xs)[i * sz + q]? = ((flat xs).drop (i * sz))[q]? := by rw [List.getElem?_drop]
  rw [h1, ← flat_drop i h]
  have h2 : xs.drop i = x :: xs.drop (i + 1) := by
    rw [List.drop_eq_getElem_cons hlt]
    have := (List.getElem?_eq_some_iff.1 hi).2
    rw [this]
  rw [h2, flat_cons, List.getElem?_append_left (by rw [h x (by have := (List.getElem?_eq_some_iff.1 hi).2; rw [← this]; exact List.getElem_mem _)]; exact hq)]

theorem cell_of_heap {B o : Nat} {c : Array Value} {e : TypeId} {fr : Nat × Nat} (h : w.heap[B]? = some (.cells c e fr)) (ho : o < c.size) :
    w.cell? ⟨B, o, none⟩ = some (c.getD o undef) := by
  simp [World.cell?, h, Array.getD_eq_getD_getElem?, ho]

theorem getD_flat {xs : List V} {p : Nat} {x : V} (h : xs[p]? = some x) : ∃ hp : p < xs.length, xs[p] = x := List.getElem?_eq_some_iff.1 h

/-- What lies from a pointer on. -/
theorem pcells_sound (hr : Rel Z G L w) {p : V} {r : Value} {cs : List V} (hp : VR G p r) (h : pcells L p = some cs) :
    ∃ B O, r = .pointer (some ⟨B, O, none⟩) ∧ ∀ q (hq : q < cs.length), ∃ v, w.cell? ⟨B, O + q, none⟩ = some v ∧ VR G cs[q] v := by
  unfold pcells at h
  split at h
  · rename_i id off
    cases hp with
    | ref hid =>
      split at h
      · rename_i cs0 hL
        simp only [Option.some.injEq] at h; subst h
        obtain ⟨b, c, e, fr, hrb, hh, hf, hs, hv, ho⟩ := hr.ok id _ hL
        have := hr.fn _ _ _ _ hid hrb
        simp only [Loc.obj.injEq] at this; subst this
        refine ⟨_, off, rfl, fun q hq => ?_⟩
        have hlt : off + q < cs0.length := by simp at hq; omega
        refine ⟨_, cell_of_heap hh (by omega), ?_⟩
        have := hv (off + q) hlt
        simpa using this
      · simp at h
  · cases hp with
    | cref vs hk hv =>
      simp only [Option.some.injEq] at h; subst h
      exact ⟨_, _, rfl, fun q hq => ⟨_, hr.kc _ _ _ (hk q hq), hv q hq⟩⟩
  · rename_i id gen i j
    split at h
    · rename_i sz m xs hL
      split at h
      · rename_i hg
        subst hg
        simp only [Option.map_eq_some_iff] at h
        obtain ⟨x, hx, rfl⟩ := h
        obtain ⟨hm, hsz, loc, hloc, hl⟩ := hr.ok id _ hL
        have hmem : x ∈ xs := by obtain ⟨hp, rfl⟩ := getD_flat hx; exact List.getElem_mem _
        cases hp with
        | eref hid =>
          have := hr.fn _ _ _ _ hid hloc
          subst this
          obtain ⟨hszz, hcap, c, e, fr, hh, hf, hs, hv⟩ := hl
          subst hszz
          rename_i b cap sz
          refine ⟨_, _, rfl, fun q hq => ?_⟩
          have hq' : j + q < x.cells.length := by simp at hq; omega
          have hg := flat_get hsz hx (by rw [hsz x hmem] at hq'; exact hq')
          rw [List.getElem?_eq_getElem hq'] at hg
          obtain ⟨hlt, he⟩ := getD_flat hg
          have hsize : i * sz + (j + q) < c.size := by
            rw [hs]
            have h1 : i < xs.length := (List.getElem?_eq_some_iff.1 hx).1
            rw [flat_length hsz] at hlt
            exact Nat.lt_of_lt_of_le hlt (Nat.mul_le_mul_right _ hcap.1)
          have h2 := hv _ hlt
          rw [he] at h2
          rw [Nat.add_assoc]
          refine ⟨_, cell_of_heap hh hsize, ?_⟩
          simpa using h2
        | erefx hid =>
          have := hr.fn _ _ _ _ hid hloc
          subst this
          obtain ⟨rfl, _, vs, hv⟩ := hl
          refine ⟨_, _, rfl, fun q hq => ?_⟩
          have hq' : j + q < x.cells.length := by simp at hq; omega
          have hg := flat_get hsz hx (by rw [hsz x hmem] at hq'; exact hq')
          rw [List.getElem?_eq_getElem hq'] at hg
          obtain ⟨hlt, he⟩ := getD_flat hg
          have h2 := hv _ hlt
          rw [he] at h2
          refine ⟨_, by have := hr.kc _ _ _ h2.1; rw [← this]; congr 2; omega, ?_⟩
          simpa using h2.2
      · simp at h
    · simp at h
  · simp at h

theorem add_none (B O q : Nat) : (⟨B, O, none⟩ : Addr).add q = ⟨B, O + q, none⟩ := by
  unfold Addr.add
  split
  · rename_i h; subst h; rfl
  · rfl

/-- Cells that read as these. -/
def Reads (G : Gh) (w : World) (B O : Nat) (cs : List V) : Prop := ∀ q (hq : q < cs.length), ∃ v, w.cell? ⟨B, O + q, none⟩ = some v ∧ VR G cs[q] v

theorem Reads.vals {B O : Nat} {cs : List V} (h : Reads G w B O cs) : ∃ vs : List Value, vs.length = cs.length ∧
    (∀ j v, vs[j]? = some v → w.cell? ⟨B, O + j, none⟩ = some v) ∧ ∀ p (hp : p < cs.length), VR G cs[p] (vs.getD p undef) := by
  induction cs generalizing O with
  | nil => exact ⟨[], rfl, by simp, fun p hp => absurd hp (Nat.not_lt_zero p)⟩
  | cons c cs ih =>
    obtain ⟨v, hv1, hv2⟩ := h 0 (by simp)
    obtain ⟨vs, h1, h2, h3⟩ := ih (O := O + 1) (fun q hq => by
      obtain ⟨v, a, b⟩ := h (q + 1) (by simpa using hq)
      exact ⟨v, by rw [← a]; congr 2; omega, by simpa using b⟩)
    refine ⟨v :: vs, by simp [h1], fun j u hj => ?_, fun p hp => ?_⟩
    · cases j with
      | zero => simp at hj; subst hj; exact hv1
      | succ j =>
        have := h2 j u (by simpa using hj)
        rw [← this]; congr 2; omega
    · cases p with
      | zero => simpa using hv2
      | succ p => simpa using h3 p (by simpa using hp)

theorem Reads.load {B O : Nat} {cs : List V} (h : Reads G w B O cs) : ∃ vs : Array Value, (loadCells ⟨B, O, none⟩ cs.length).run P w = .ok vs w ∧ vs.size = cs.length ∧
    ∀ p (hp : p < cs.length), VR G cs[p] (vs.getD p undef) := by
  obtain ⟨vs, h1, h2, h3⟩ := h.vals
  have := run_loadCells_list (P := P) (w := w) ⟨B, O, none⟩ vs (fun j v hj => by rw [add_none]; exact h2 j v hj)
  rw [h1] at this
  exact ⟨_, this, by simp [h1], fun p hp => by have := h3 p hp; simpa [Array.getD_eq_getD_getElem?, List.getD_eq_getElem?_getD] using this⟩

theorem Reads.take {B O : Nat} {cs : List V} (h : Reads G w B O cs) (n : Nat) : Reads G w B O (cs.take n) := fun q hq => by
  obtain ⟨v, a, b⟩ := h q (by simp at hq; omega)
  exact ⟨v, a, by simpa using b⟩
theorem Reads.drop {B O : Nat} {cs : List V} (h : Reads G w B O cs) (n : Nat) : Reads G w B (O + n) (cs.drop n) := fun q hq => by
  obtain ⟨v, a, b⟩ := h (n + q) (by simp at hq; omega)
  exact ⟨v, by rw [← a]; congr 2; omega, by simpa using b⟩

theorem pload_sound (hr : Rel Z G L w) {t : TypeId} {p v : V} {r : Value} (hp : VR G p r) (h : pload P L t p = some v) :
    ∃ q, (Instr.loadAt t r).run P w = .ok q w ∧ VR G v q := by
  unfold pload at h
  split at h
  · rename_i cs n hc hs ha
    split at h
    · rename_i hn
      simp only [Option.some.injEq] at h; subst h
      obtain ⟨B, O, rfl, hv⟩ := pcells_sound hr hp hc
      obtain ⟨vs, h1, h2, h3⟩ := (Reads.take (cs := cs) hv n).load (P := P)
      rw [List.length_take_of_le hn] at h1 h2
      refine ⟨.agg vs, ?_, .agg (by rw [h2]; simp; omega) h3⟩
      simp [Instr.loadAt, Instr.sureAddr, loadVar, run_isAgg ha, run_sizeOf hs, h1]
    · simp at h
  · rename_i cs n hc hs ha
    obtain ⟨hlt, rfl⟩ := getD_flat h
    obtain ⟨B, O, rfl, hv⟩ := pcells_sound hr hp hc
    obtain ⟨q, hq, hq'⟩ := hv 0 hlt
    refine ⟨q, ?_, hq'⟩
    simp only [Nat.add_zero] at hq
    simp [Instr.loadAt, Instr.sureAddr, loadVar, run_isAgg ha, run_load, hq]
  · simp at h

/-- What a slice reads as. -/
theorem elems_sound (hr : Rel Z G L w) {x : V} {r : Value} {ys : List V} (hx : VR G x r) (h : elems L x = some ys) :
    (∃ s, r = .string s ∧ x = .str s) ∨ ∃ A c, r = .slice A ys.length c ∧ ys.length ≤ c ∧
      (ys = [] ∨ ∃ B O sz, A = some ⟨B, O, none⟩ ∧ (∀ y ∈ ys, y.cells.length = sz) ∧ Reads G w B O (flat ys)) := by
  unfold elems at h
  split at h
  · simp only [Option.some.injEq] at h; subst h
    cases hx with
    | slnil => exact .inr ⟨_, _, rfl, Nat.le_refl _, .inl rfl⟩
    | sl0 hx => exact .inr ⟨_, _, rfl, Nat.zero_le _, .inl rfl⟩
    | sl sz vs hne hx hc hsz hk hv => exact .inr ⟨_, _, rfl, hc, .inr ⟨_, _, sz, rfl, hsz, fun q hq => ⟨_, hr.kc _ _ _ (hk q hq), hv q hq⟩⟩⟩
  · rename_i id off len gen
    split at h
    · rename_i sz m xs hL
      split at h
      · rename_i hg
        subst hg
        simp only [Option.some.injEq] at h; subst h
        cases hx with
        | own hid hl ha =>
          obtain ⟨hm, hsz, loc, hloc, hlo⟩ := hr.ok id _ hL
          have hloc2 := hr.fn _ _ _ _ hid hloc
          subst hloc2
          rename_i c0 loc A0
          have hlen : ((xs.drop off).take len).length = len := by simp; omega
          have hsz' : ∀ y ∈ (xs.drop off).take len, y.cells.length = sz := fun y hy => hsz y (List.mem_of_mem_drop (List.mem_of_mem_take hy))
          have hflat : flat ((xs.drop off).take len) = ((flat xs).drop (off * sz)).take (len * sz) := by
            rw [flat_take len (fun y hy => hsz y (List.mem_of_mem_drop hy)), flat_drop off hsz]
          cases loc with
          | obj b => exact hlo.elim
          | blk b cap sz' =>
            obtain ⟨rfl, hcap, c', e, fr, hh, hf, hs, hv⟩ := hlo
            obtain ⟨ha1, ha2, ha3⟩ := ha
            refine .inr ⟨_, _, by rw [hlen], by omega, ?_⟩
            by_cases hn : len = 0
            · exact .inl (by subst hn; simp)
            · refine .inr ⟨b, off * sz', sz', ha3.resolve_left (by omega), hsz', ?_⟩
              rw [hflat]
              refine Reads.take (Reads.drop (O := 0) (cs := flat xs) ?_ _ |> fun h => by simpa using h) _
              intro q hq
              refine ⟨_, by rw [Nat.zero_add]; exact cell_of_heap hh (by rw [hs]; rw [flat_length hsz] at hq; exact Nat.lt_of_lt_of_le hq (Nat.mul_le_mul_right _ hcap.1)), ?_⟩
              exact hv q hq
          | ext B O sz' =>
            obtain ⟨rfl, hm', vs, hv⟩ := hlo
            obtain ⟨ha1, ha2⟩ := ha
            refine .inr ⟨_, _, by rw [hlen], by omega, ?_⟩
            by_cases hn : len = 0
            · exact .inl (by subst hn; simp)
            · refine .inr ⟨B, O + off * sz', sz', ha2.resolve_left (by omega), hsz', ?_⟩
              rw [hflat]
              refine Reads.take (Reads.drop (O := O) (cs := flat xs) ?_ _) _
              intro q hq
              exact ⟨_, hr.kc _ _ _ (hv q hq).1, (hv q hq).2⟩
      · simp at h
    · simp at h
  · rename_i id off len
    split at h
    · rename_i cs hL
      split at h
      · rename_i hlen
        simp only [Option.some.injEq] at h; subst h
        cases hx with
        | bsl hid hc ha =>
          have hl : ((cs.drop off).take len).length = len := by simp; omega
          obtain ⟨b, c, e, fr, hrb, hh, hf, hs, hv, ho⟩ := hr.ok id _ hL
          have := hr.fn _ _ _ _ hid hrb
          simp only [Loc.obj.injEq] at this; subst this
          have hone : ∀ y ∈ cs, V.cells y = [y] := by
            intro y hy
            have := ho y hy
            cases y <;> first | rfl | (simp [V.one] at this)
          have hone' : ∀ y ∈ (cs.drop off).take len, y.cells.length = 1 := by
            intro y hy; rw [hone y (List.mem_of_mem_drop (List.mem_of_mem_take hy))]; rfl
          have hfl : ∀ zs : List V, (∀ y ∈ zs, V.cells y = [y]) → flat zs = zs := by
            intro zs hz
            induction zs with
            | nil => rfl
            | cons z zs ih => rw [flat_cons, hz z (by simp), ih (fun y hy => hz y (by simp [hy]))]; rfl
          refine .inr ⟨_, _, by rw [hl], by omega, ?_⟩
          by_cases hz : len = 0
          · exact .inl (by subst hz; simp)
          refine .inr ⟨_, off, 1, ha.resolve_left (by omega), hone', ?_⟩
          rw [hfl _ (fun y hy => hone y (List.mem_of_mem_drop (List.mem_of_mem_take hy)))]
          refine Reads.take (Reads.drop (O := 0) (cs := cs) ?_ _ |> fun h => by simpa using h) _
          intro q hq
          exact ⟨_, by rw [Nat.zero_add]; exact cell_of_heap hh (by omega), hv q hq⟩
      · simp at h
    · simp at h
  · rename_i s
    cases hx
    exact .inl ⟨s, rfl, rfl⟩
  · simp at h
end Go.Pv
