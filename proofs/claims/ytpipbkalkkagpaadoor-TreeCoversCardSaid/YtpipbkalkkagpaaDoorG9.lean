import Derived.Shelf.Spec.SlicesInsertGrow
import Derived.Test.YtpipbkalkkagpaaDoorG4
set_option linter.unusedVariables false
set_option linter.unusedSimpArgs false
set_option linter.unusedSectionVars false
section
/- slices.Insert of one number into a row of one's own: the row that comes back is frozen. -/
set_option linter.unusedVariables false
set_option linter.unusedSimpArgs false
set_option linter.unusedSectionVars false
namespace Go.Pv
open Go.Shelf Go.RowKit Go.Lib Go.Proofs
variable {P : Program} {ρ : Ren} {Z : Nat → Go.Obj → Prop} {G : Gh} {L : List Obj} {w : World}
/-- Two addresses in different blocks: of one of them no byte is a string's, the other block isn't empty. -/
theorem apart_free (w : World) (tS tR e : TypeId) (ht : P.underlying tS = some (.slice e)) (hz : ∀ w, (Go.sizeOf e).run P w = .ok 1 w) (a b : Addr) (la ca lb cb : Nat) (hne : a.block ≠ b.block)
    {ka kb : Nat} {ta tb : TypeId} (hsa : w.shape? a.block = some (ta, ka + 1)) (hsb : w.shape? b.block = some (tb, kb + 1)) (hfr : ∀ o, w.frozen? ⟨b.block, o, none⟩ = false) (hb : b.spot = none) :
    (Extern.SlicesOverlaps.overlaps #[tS, tS] #[tR] #[.slice (some a) la ca, .slice (some b) lb cb]).run P w = .ok (.bool false) w := by
  have h1 : (a.block != b.block) = true := by simpa using hne
  have h2 : (a.block == b.block) = false := by simpa using hne
  have h3 : w.frozen? b = false := by
    have := hfr b.off
    obtain ⟨bb, bo, bs⟩ := b
    simp only at hb; subst hb; exact this
  refine (congrArg (fun s => Sem.run P s w) (show Extern.SlicesOverlaps.overlaps #[tS, tS] #[tR] #[.slice (some a) la ca, .slice (some b) lb cb] = (underlying tS >>= _) from rfl)).trans ?_
  dsimp only
  by_cases h0 : la = 0 ∨ lb = 0
  · simp [run_underlying ht, hz, h0]
  · simp [run_underlying ht, hz, h0, h1, h2, frozen, noView, viewAt, mayBeOne, stringish, shape, Sem.run, hsa, hsb, h3, hfr]
set_option maxHeartbeats 4000000 in
set_option maxRecDepth 100000 in
/-- There is room, and the place is not the end: in place. Of the row's own block no byte is a string's. -/
theorem ins_in (T : Lays2.n21 P ρ) (b off n c i vb voff m vc : Nat) (cs vs : List Value) (w : World) (hi : i < n) (hm : 0 < m) (hroom : n + m ≤ c) (hc63 : c ≤ 9223372036854775807) (hvb : vb ≠ b) (hcl : cs.length = n) (hvl : vs.length = m)
    (hcs : ∀ j v, cs[j]? = some v → w.cell? ⟨b, off + j, none⟩ = some v) (hsp : ∀ j, j < n + m → (w.cell? ⟨b, off + j, none⟩).isSome = true) (hfr : ∀ o, w.frozen? ⟨b, o, none⟩ = false)
    (hvs : ∀ j v, vs[j]? = some v → w.cell? ⟨vb, voff + j, none⟩ = some v) (h1c : ∀ v ∈ cs, v.oneCell' = true) (h1v : ∀ v ∈ vs, v.oneCell' = true)
    {ta tb : TypeId} {ka kb : Nat} (hsa : w.shape? vb = some (ta, ka + 1)) (hsb : w.shape? b = some (tb, kb + 1)) :
    Calls P (ρ.f 21) #[.slice (some ⟨b, off, none⟩) n c, .int .i64 i, .slice (some ⟨vb, voff, none⟩) m vc] w fun e w' =>
      e = .returned (.slice (some ⟨b, off, none⟩) (n + m) c) ∧ w' = (w.drew.setCells b (off + (i + m)) (cs.drop i)).setCells b (off + i) vs := by
  have t0 := T.t0; have a0 := T.a0; have z0 := T.z0; have v0 := T.v0; have t3 := T.t3; have a3 := T.a3; have z3 := T.z3; have v3 := T.v3; have t4 := T.t4; have a4 := T.a4; have z4 := T.z4; have v4 := T.v4; have t22 := T.t22; have a22 := T.a22; have z22 := T.z22; have v22 := T.v22
  have u0 := run_underlying T.t0; have u3 := run_underlying T.t3; have u4 := run_underlying T.t4; have u22 := run_underlying T.t22
  have mixed := T.mixed
  have d1 : ¬ ((m : Int) = 0) := by omega
  have d2 : ¬ ((i : Int) = (n : Int)) := by omega
  have d3 : IntKind.i64.wrap ((i : Int) + (m : Int)) = (i : Int) + (m : Int) := by rw [IntKind.wrap_i64]; omega
  have d4 : (0 : Int) ≤ (i : Int) + (m : Int) := by omega
  have d5 : i ≤ n := by omega
  have d6 : ((i : Int) + (m : Int)).toNat = i + m := by omega
  have d7 : ¬ (c = i + m) := by omega
  have d8 : (i : Int) ≤ (n : Int) + (m : Int) := by omega
  have d9 : ¬ (c = i) := by omega
  have hsz : (P.info? (ρ.t 3)).map (·.size) = some 1 := by
    obtain ⟨i0, hi0, _, h1, _⟩ := info_parts T.i3
    rw [hi0]; simp [h1]
  have hdl : (cs.drop i).length = n - i := by rw [List.length_drop, hcl]
  have hov : ∀ lb cb, (callFunc (ρ.f 27) #[.slice (some ⟨vb, voff, none⟩) m vc, .slice (some ⟨b, off + (i + m), none⟩) lb cb]).run P w = .ok (.value (.bool false)) w := fun lb cb => by
    rw [run_callFunc_extern T.f27 (by kernel_rfl) (by kernel_rfl) (by kernel_rfl) (e := Extern.SlicesOverlaps.overlaps #[(ρ.t 22), (ρ.t 22)] #[(ρ.t 4)]) (by kernel_rfl),
      apart_free w (ρ.t 22) (ρ.t 4) (ρ.t 3) T.t22 T.z3 ⟨vb, voff, none⟩ ⟨b, off + (i + m), none⟩ m vc lb cb hvb hsa hsb hfr rfl]
    rfl
  have hc1 : ∀ ty dc sc, (Builtin.copy_ #[(ρ.t 22), (ρ.t 22)] ty #[.slice (some ⟨b, off + (i + m), none⟩) (n + m - (i + m)) dc, .slice (some ⟨b, off + i, none⟩) (n + m - i) sc]).run P w.drew = .ok (goInt (cs.drop i).length) (w.drew.setCells b (off + (i + m)) (cs.drop i)) := fun ty dc sc =>
    run_copy_cells w.drew _ _ ty (ρ.t 3) b (off + (i + m)) (n + m - (i + m)) dc ⟨b, off + i, none⟩ (n + m - i) sc (cs.drop i) T.t22 hsz (by rw [hdl]; simp only [Nat.min_def]; split <;> omega)
      (fun j v hj => by rw [Addr.add_lit, Nat.add_assoc]; exact hcs (i + j) v (by rwa [List.getElem?_drop] at hj))
      (fun j hj => by rw [Nat.add_assoc]; exact hsp _ (by omega)) (fun j hj => hfr _) (fun v hv => h1c v (List.mem_of_mem_drop hv))
  obtain ⟨W1, hW1⟩ : ∃ W1, W1 = w.drew.setCells b (off + (i + m)) (cs.drop i) := ⟨_, rfl⟩
  have hs1 : ∀ k, k < n + m → (W1.cell? ⟨b, off + k, none⟩).isSome = true := fun k hk => by
    rw [hW1]
    exact isSome_setCells b _ _ _ (fun j hj => by rw [Nat.add_assoc]; exact hsp _ (by omega)) _ (hsp k hk)
  have hc2 : ∀ (W : World), (∀ x, W.cell? x = W1.cell? x) → (∀ x, W.frozen? x = W1.frozen? x) → ∀ ty dc, (Builtin.copy_ #[(ρ.t 22), (ρ.t 22)] ty #[.slice (some ⟨b, off + i, none⟩) (n + m - i) dc, .slice (some ⟨vb, voff, none⟩) m vc]).run P W = .ok (goInt vs.length) (W.setCells b (off + i) vs) := fun W e1 e2 ty dc =>
    run_copy_cells W _ _ ty (ρ.t 3) b (off + i) (n + m - i) dc ⟨vb, voff, none⟩ m vc vs T.t22 hsz (by rw [hvl]; simp only [Nat.min_def]; split <;> omega)
      (fun j v hj => by rw [Addr.add_lit, e1, hW1, World.cell?_setCells_out b _ _ _ _ (fun h _ => absurd h hvb)]; exact hvs j v hj)
      (fun j hj => by rw [e1, Nat.add_assoc]; exact hs1 _ (by omega)) (fun j hj => by rw [e2, hW1, World.frozen?_setCells]; exact hfr _) h1v
  rw [← hW1] at hc1
  go_enter T.f21, Body2.n21_ntmps ρ
  go_wp2_with (simp only [hov])
  go_region_law_o (refine step_copy_runI rfl _ _ (ρ.t 22) (ρ.t 22) rfl _ _ (by simp [Act.eval, Act.put]) (by simp [Act.eval, Act.put]) (hc1 _ _ _) ?_)
  go_wp2_with (at_builtin; refine wpList_copy_runI _ rfl _ _ (ρ.t 22) (ρ.t 22) rfl _ _ rfl rfl (hc2 _ (fun _ => rfl) (fun _ => rfl) _ _) ?_)
  go_ret
  first | exact ⟨rfl, rfl⟩ | exact ⟨rfl, by rw [hW1]⟩
/-- Cells that are set, as the row of the block. -/
theorem setCells_world {b : Nat} {e : TypeId} {fr : Nat × Nat} : ∀ (vs : List Value) (c : Array Value) (o : Nat) (w : World), w.heap[b]? = some (.cells c e fr) → w.setCells b o vs = { w with heap := w.heap.setIfInBounds b (.cells (updC c o vs) e fr) }
  | [], c, o, w, h => by
    rw [World.setCells, updC]
    have : w.heap.setIfInBounds b (.cells c e fr) = w.heap := by
      apply Array.ext_getElem?
      intro j
      by_cases hj : j = b
      · subst hj; rw [Array.getElem?_setIfInBounds_self_of_lt (Array.getElem?_eq_some_iff.1 h).1, h]
      · rw [Array.getElem?_setIfInBounds_ne (Ne.symm hj)]
    rw [this]
  | v :: vs, c, o, w, h => by
    have hlt := (Array.getElem?_eq_some_iff.1 h).1
    have h1 : w.setCell ⟨b, o, none⟩ v = { w with heap := w.heap.setIfInBounds b (.cells (c.setIfInBounds o v) e fr) } := by
      unfold World.setCell
      congr 1
      apply Array.ext_getElem?
      intro j
      by_cases hj : j = b
      · subst hj; rw [Array.getElem?_setIfInBounds_self_of_lt hlt, Array.getElem?_modify, if_pos rfl, h]; rfl
      · rw [Array.getElem?_setIfInBounds_ne (Ne.symm hj), Array.getElem?_modify, if_neg (Ne.symm hj)]
    rw [World.setCells, h1, setCells_world vs (c.setIfInBounds o v) (o + 1) _ (by show (w.heap.setIfInBounds b _)[b]? = _; rw [Array.getElem?_setIfInBounds_self_of_lt hlt])]
    simp only [updC, Array.setIfInBounds_setIfInBounds]
theorem flat_ints (l : List Int) : flat (l.map (V.int .i64)) = l.map (V.int .i64) := by
  induction l with
  | nil => rfl
  | cons a l ih => rw [List.map_cons, flat_cons, ih]; rfl
theorem cells_ints (l : List Int) : ∀ x ∈ l.map (V.int .i64), x.cells.length = 1 := by
  intro x hx; obtain ⟨a, _, rfl⟩ := List.mem_map.1 hx; rfl
/-- An own row turns in its own block, and grows. -/
theorem Rel.turn (hr : Rel Z G L w) {id b cap sz : Nat} {xs xs' : List V} {c c' : Array Value} {e : TypeId} {fr : Nat × Nat} {w' : World} (hL : L[id]? = some (.buf sz 0 xs)) (hloc : G.R id xs.length (.blk b cap sz)) (hh : w.heap[b]? = some (.cells c e fr)) (hf : Free c fr)
    (hw : w' = { w with heap := w.heap.setIfInBounds b (.cells c' e fr), tape := w'.tape, drawn := w'.drawn }) (hcs : c'.size = cap * sz) (hlt : xs.length < xs'.length) (hcap : xs'.length ≤ cap) (h63 : cap ≤ 9223372036854775807) (hsz : ∀ x ∈ xs', x.cells.length = sz) (hv : ∀ p (hp : p < (flat xs').length), VR G (flat xs')[p] (c'.getD p undef)) :
    ∃ G', Rel Z G' (L.set id (.buf sz 0 xs')) w' ∧ Evo G L w G' (L.set id (.buf sz 0 xs')) w' ∧ G'.R id xs'.length (.blk b cap sz) := by
  have hblt := (Array.getElem?_eq_some_iff.1 hh).1
  have hheap : w'.heap = w.heap.setIfInBounds b (.cells c' e fr) := by rw [hw]
  have hself : w'.heap[b]? = some (.cells c' e fr) := by rw [hheap, Array.getElem?_setIfInBounds_self_of_lt hblt]
  have hat : At G id (.buf sz 0 xs) b := .inr ⟨_, _, hloc⟩
  have hR := Gh.addR_self G id (Obj.buf sz 0 xs').gen (.blk b cap sz)
  have hle := Gh.le_addR G id (Obj.buf sz 0 xs').gen (.blk b cap sz)
  have hnew : ∀ g l, G.R id g l → g < (Obj.buf sz 0 xs').gen := fun g l hg => by
    have := hr.rg _ _ _ _ _ _ hg hL
    show g < xs'.length; omega
  have := hr.change (G' := G.addR id (Obj.buf sz 0 xs').gen (.blk b cap sz)) (ob' := .buf sz 0 xs') (w' := w') hL hat hle (by rw [hheap]; simp)
    (fun B hB => by rw [hheap, Array.getElem?_setIfInBounds_ne (Ne.symm hB)])
    ⟨Nat.zero_le _, hsz, .blk b cap sz, hR, rfl, ⟨hcap, h63⟩, c', e, fr, hself, hf, hcs, fun p hp => (hv p hp).mono hle⟩
    (fun B hB => by
      rcases hB with (hB | ⟨_, _, hB⟩) | ⟨c1, s1, (hB | ⟨_, _, hB⟩)⟩
      · exact absurd (hnew _ _ hB) (Nat.lt_irrefl _)
      · simp at hB
      · exact absurd (hnew _ _ hB) (Nat.lt_irrefl _)
      · simp at hB; exact hB.1)
    (fun i g l h => by
      rcases h with h | ⟨h1, h2, _⟩
      · exact .inl h
      · exact .inr ⟨h1, h2⟩)
    (by
      rintro i g x y (h1 | ⟨rfl, rfl, rfl⟩) (h2 | ⟨h2, h3, rfl⟩)
      · exact hr.fn _ _ _ _ h1 h2
      · subst h2 h3; exact absurd (hnew _ _ h1) (Nat.lt_irrefl _)
      · exact absurd (hnew _ _ h2) (Nat.lt_irrefl _)
      · rfl)
    (by
      intro s2 m2 xs2 he g l hg
      simp only [Obj.buf.injEq] at he
      obtain ⟨_, _, rfl⟩ := he
      rcases hg with hg | ⟨_, rfl, _⟩
      · exact Nat.le_of_lt (hnew _ _ hg)
      · exact Nat.le_refl _)
    (fun o v hk => by
      obtain ⟨sz3, m2, xs2, he, ho2⟩ := hr.kw b o v id _ hk hL hat
      simp only [Obj.buf.injEq] at he
      obtain ⟨rfl, rfl, rfl⟩ := he
      omega)
    (fun _ _ _ _ h => h) (by rw [hw]; exact ⟨rfl, rfl⟩)
  exact ⟨_, this.1, this.2, hR⟩
/-- An own row moves into a new block, and grows. -/
theorem Rel.grow (hr : Rel Z G L w) {id cap sz : Nat} {xs xs' : List V} {c' : Array Value} {e : TypeId} {w' : World} (hL : L[id]? = some (.buf sz 0 xs))
    (hw : w' = { w with heap := w.heap.push (.cells c' e (0, 0)), tape := w'.tape, drawn := w'.drawn }) (hcs : c'.size = cap * sz) (hlt : xs.length < xs'.length) (hcap : xs'.length ≤ cap) (h63 : cap ≤ 9223372036854775807) (hsz : ∀ x ∈ xs', x.cells.length = sz) (hv : ∀ p (hp : p < (flat xs').length), VR G (flat xs')[p] (c'.getD p undef)) :
    ∃ G', Rel Z G' (L.set id (.buf sz 0 xs')) w' ∧ Evo G L w G' (L.set id (.buf sz 0 xs')) w' ∧ G'.R id xs'.length (.blk w.heap.size cap sz) := by
  obtain ⟨h1, h2⟩ := hr.heap (w' := { w with tape := w'.tape, drawn := w'.drawn }) rfl
  have hR := Gh.addR_self G id (Obj.buf sz 0 xs').gen (.blk w.heap.size cap sz)
  have hle := Gh.le_addR G id (Obj.buf sz 0 xs').gen (.blk w.heap.size cap sz)
  have := h1.move (cap := cap) (sz := sz) (o := .cells c' e (0, 0)) (ob' := .buf sz 0 xs') hL
    (fun g l hg => by
      have := hr.rg _ _ _ _ _ _ hg hL
      show g < xs'.length; omega) ⟨_, _, _, rfl⟩
    ⟨Nat.zero_le _, hsz, _, hR, rfl, ⟨hcap, h63⟩, _, e, (0, 0), Array.getElem?_push_size, free_new _, hcs, fun p hp => (hv p hp).mono hle⟩
  rw [hw]
  exact ⟨_, this.1, h2.trans this.2, hR⟩
def insV (l : List Int) (i : Nat) (x : Int) : List Int := l.take i ++ x :: l.drop i
theorem insV_len {l : List Int} {i : Nat} {x : Int} (hi : i ≤ l.length) : (insV l i x).length = l.length + 1 := by
  simp [insV]; omega
theorem insV_get {l : List Int} {i p : Nat} {x : Int} (hi : i ≤ l.length) : (insV l i x).getD p 0 = if p < i then l.getD p 0 else if p = i then x else l.getD (p - 1) 0 := by
  unfold insV
  simp only [List.getD_eq_getElem?_getD]
  split
  · rw [List.getElem?_append_left (by simp; omega), List.getElem?_take_of_lt (by omega)]
  · rw [List.getElem?_append_right (by simp; omega), show p - (l.take i).length = p - i by simp; omega]
    split
    · subst_vars; simp
    · obtain ⟨q, rfl⟩ : ∃ q, p = i + 1 + q := ⟨p - (i + 1), by omega⟩
      rw [show i + 1 + q - i = q + 1 by omega, List.getElem?_cons_succ, List.getElem?_drop, show i + 1 + q - 1 = i + q by omega]
def Ints (c : Array Value) (l : List Int) : Prop := ∀ p, p < l.length → c.getD p undef = .int .i64 (l.getD p 0)
theorem Ints.of {c : Array Value} {l : List Int} (h : ∀ p (hp : p < (flat (l.map (V.int .i64))).length), VR G (flat (l.map (V.int .i64)))[p] (c.getD p undef)) : Ints c l := fun p hp => by
  have := h p (by rw [flat_ints]; simpa using hp)
  simp only [flat_ints, List.getElem_map] at this
  rw [List.getD_eq_getElem?_getD, List.getElem?_eq_getElem hp]
  generalize c.getD p undef = u at *
  cases this; rfl
theorem Ints.vr {c : Array Value} {l : List Int} (h : Ints c l) : ∀ p (hp : p < (flat (l.map (V.int .i64))).length), VR G (flat (l.map (V.int .i64)))[p] (c.getD p undef) := fun p hp => by
  have hp' : p < l.length := by rw [flat_ints] at hp; simpa using hp
  have e := h p hp'
  rw [List.getD_eq_getElem?_getD, List.getElem?_eq_getElem hp'] at e
  simp only [flat_ints, List.getElem_map]
  rw [e]; exact .int _ _
theorem ints_getD {l : List Int} {p : Nat} (h : p < l.length) : (l.map (Value.int .i64)).getD p undef = .int .i64 (l.getD p 0) := by
  simp [List.getD_eq_getElem?_getD, h]
theorem Ints.shift {c : Array Value} {l : List Int} {i : Nat} {x : Int} (h : Ints c l) (hi : i ≤ l.length) (hs : l.length + 1 ≤ c.size) : Ints (updC (updC c (i + 1) ((l.map (Value.int .i64)).drop i)) i [.int .i64 x]) (insV l i x) := fun p hp => by
  rw [insV_len hi] at hp
  rw [updC_get _ _ _ _ (by rw [updC_size]; simp; omega), updC_get _ _ _ _ (by simp; omega), insV_get hi]
  by_cases h1 : p < i
  · rw [if_neg (by simp; omega), if_neg (by omega), if_pos h1]; exact h p (by omega)
  · rw [if_neg h1]
    by_cases h2 : p = i
    · subst h2; rw [if_pos (by simp), if_pos rfl]; simp
    · rw [if_neg (by simp; omega), if_pos (by simp; omega), if_neg h2]
      rw [List.getD_eq_getElem?_getD, List.getElem?_drop, ← List.getD_eq_getElem?_getD, show i + (p - (i + 1)) = p - 1 by omega]
      exact ints_getD (by omega)
theorem Ints.last {c : Array Value} {l : List Int} {x : Int} (h : Ints c l) (hs : l.length + 1 ≤ c.size) : Ints (updC c l.length [.int .i64 x]) (insV l l.length x) := fun p hp => by
  rw [insV_len (Nat.le_refl _)] at hp
  rw [updC_get _ _ _ _ (by simp; omega), insV_get (Nat.le_refl _)]
  by_cases h1 : p < l.length
  · rw [if_neg (by simp; omega), if_pos h1]; exact h p h1
  · obtain rfl : p = l.length := by omega
    rw [if_pos (by simp), if_neg h1, if_pos rfl]; simp
theorem push_set (a : Array Go.Obj) (x y : Go.Obj) : (a.push x).setIfInBounds a.size y = a.push y := by
  apply Array.ext_getElem?
  intro j
  by_cases hj : j = a.size
  · subst hj; rw [Array.getElem?_setIfInBounds_self_of_lt (by simp)]; simp
  · rw [Array.getElem?_setIfInBounds_ne (Ne.symm hj), Array.getElem?_push, Array.getElem?_push, if_neg hj, if_neg hj]
theorem cells_shape {b o : Nat} {v : Value} (h : w.cell? ⟨b, o, none⟩ = some v) : ∃ t k, w.shape? b = some (t, k + 1) := by
  unfold World.cell? at h
  cases hh : w.heap[b]? with
  | none => simp [hh] at h
  | some ob =>
    cases ob with
    | cells c t fr =>
      simp [hh] at h
      refine ⟨t, c.size - 1, ?_⟩
      have : o < c.size := (Array.getElem?_eq_some_iff.1 h).1
      simp only [World.shape?, hh]
      congr 2; omega
    | _ => simp [hh] at h
theorem ins_sound (T : Lays2.n21 P ρ) (hr : Rel Z G L w) {id i : Nat} {l : List Int} {x : Int} (hL : L[id]? = some (.buf 1 0 (l.map (V.int .i64)))) (hi : i ≤ l.length) (hn : l.length ≤ 1000000) {ra rb : Value}
    (ha : VR G (.own id 0 l.length l.length) ra) (hb : VR G (.sl false true [.int .i64 x]) rb) :
    Calls P (ρ.f 21) #[ra, .int .i64 (i : Int), rb] w fun e w' => ∃ r, e = .returned r ∧ ∃ G', Rel Z G' (L.set id (.buf 1 (l.length + 1) ((insV l i x).map (V.int .i64)))) w' ∧
      Evo G L w G' (L.set id (.buf 1 (l.length + 1) ((insV l i x).map (V.int .i64)))) w' ∧ VR G' (gI (insV l i x)) r := by
  have hlen : ((insV l i x).map (V.int .i64)).length = l.length + 1 := by rw [List.length_map, insV_len hi]
  -- how it ends
  have fin : ∀ {G1 : Gh} {w1 : World} {b c : Nat} {A : Option Addr}, Rel Z G1 (L.set id (.buf 1 0 ((insV l i x).map (V.int .i64)))) w1 → Evo G L w G1 (L.set id (.buf 1 0 ((insV l i x).map (V.int .i64)))) w1 → G1.R id ((insV l i x).map (V.int .i64)).length (.blk b c 1) → l.length + 1 ≤ c →
      ∃ G', Rel Z G' (L.set id (.buf 1 (l.length + 1) ((insV l i x).map (V.int .i64)))) w1 ∧ Evo G L w G' (L.set id (.buf 1 (l.length + 1) ((insV l i x).map (V.int .i64)))) w1 ∧ VR G' (gI (insV l i x)) (.slice (some ⟨b, 0, none⟩) (l.length + 1) c) := by
    intro G1 w1 b c A h1 h2 h3 h4
    have hlt := (List.getElem?_eq_some_iff.1 hL).1
    obtain ⟨G2, q1, q2, q3⟩ := h1.freeze (List.getElem?_set_self hlt)
    rw [List.set_set, hlen] at q1 q2
    have h5 : VR G1 (.own id 0 (l.length + 1) ((insV l i x).map (V.int .i64)).length) (.slice (some ⟨b, 0, none⟩) (l.length + 1) c) := .own (loc := .blk b c 1) h3 (by omega) ⟨by omega, by omega, .inr (by simp)⟩
    have h6 := q3 h5
    rw [List.drop_zero, List.take_of_length_le (by omega)] at h6
    exact ⟨G2, q1, h2.trans q2, h6⟩
  -- the arguments
  obtain ⟨hm, hszs, loc, hloc, hlo⟩ := hr.ok id _ hL
  simp only [List.length_map] at hloc
  obtain ⟨A, c, rfl, hcap⟩ : ∃ A c, ra = .slice A l.length c ∧ OwnAt loc l.length 0 A c := by
    cases ha with
    | own hid hl ha => have := hr.fn _ _ _ _ hid hloc; subst this; exact ⟨_, _, rfl, ha⟩
  obtain ⟨B, O, rfl, hkB⟩ : ∃ B O, rb = .slice (some ⟨B, O, none⟩) 1 1 ∧ G.K B O (.int .i64 x) := by
    cases hb with
    | sl sz vs hne hx hc hsz hk hv =>
      have h0 := hv 0 (by simp [flat, V.cells])
      have h1 := hk 0 (by simp [flat, V.cells])
      rw [hx rfl]
      refine ⟨_, _, rfl, ?_⟩
      generalize vs 0 = u at h0 h1
      have e : (flat [V.int .i64 x])[0]'(by simp [flat, V.cells]) = V.int .i64 x := rfl
      rw [e] at h0
      cases h0
      simpa using h1
  have hcB := hr.kc _ _ _ hkB
  obtain ⟨tB, kB, hsB⟩ := cells_shape hcB
  have hvs : ∀ j v, [Value.int .i64 x][j]? = some v → w.cell? ⟨B, O + j, none⟩ = some v := fun j v hj => by
    cases j with
    | zero => simp at hj; subst hj; exact hcB
    | succ j => simp at hj
  have one1 : ∀ v ∈ [Value.int .i64 x], v.oneCell' = true := by simp [Value.oneCell']
  have onel : ∀ v ∈ l.map (Value.int .i64), v.oneCell' = true := by simp [Value.oneCell']
  have hi21 : (P.info? (ρ.t 3)).map (fun i => (i.zero, i.size, i.bytes)) = some (some (Value.int IntKind.i64 0), 1, 8) := T.i3
  have endgrow : ∀ {A' : Option Addr} {c' : Nat}, i = l.length → l.length ≤ c' → c' < l.length + 1 → (A' = none → l.length = 0) → (∀ a, A' = some a → ∀ j v, (l.map (Value.int .i64))[j]? = some v → w.cell? (a.add j) = some v) →
      Calls P (ρ.f 21) #[.slice A' l.length c', .int .i64 (i : Int), .slice (some ⟨B, O, none⟩) 1 1] w fun e w' => ∃ r, e = .returned r ∧ ∃ G', Rel Z G' (L.set id (.buf 1 (l.length + 1) ((insV l i x).map (V.int .i64)))) w' ∧
        Evo G L w G' (L.set id (.buf 1 (l.length + 1) ((insV l i x).map (V.int .i64)))) w' ∧ VR G' (gI (insV l i x)) r := by
    intro A' c' hil hc1 hc2 hA hcs
    subst hil
    refine (Any2.slices_Insert_int_end_grow T A' l.length c' B O 1 1 (l.map (Value.int .i64)) [.int .i64 x] w (by omega) hc1 hc2 (by omega) (by simp) rfl hA hcs hvs one1).mono ?_
    rintro e w' ⟨rfl, hw'⟩
    have hg := grownCap_ge (w := w) (need := l.length + 1) (old := c') (e := ρ.t 3)
    have hg63 := grownCap_63 (w := w) (need := l.length + 1) (old := c') (e := ρ.t 3) (by omega)
    generalize grownCap w (l.length + 1) c' (ρ.t 3) = g at *
    obtain ⟨G1, h1, h2, h3⟩ := hr.grow (cap := g) (sz := 1) (xs' := (insV l l.length x).map (V.int .i64)) (c' := ((l.map (Value.int .i64) ++ [Value.int .i64 x]).toArray ++ Builtin.zeroCells (Value.int .i64 0).cells (g - (l.length + 1)))) (e := ρ.t 3) (w' := w') hL
      (by rw [hw']; rfl) (by rw [Array.size_append, zeroCells_size]; simp [Value.cells]; omega) (by rw [hlen]; simp) (by rw [hlen]; exact hg) hg63 (cells_ints _) (Ints.vr fun p hp => by
        rw [insV_len hi] at hp
        rw [insV_get hi]
        simp only [Array.getD_eq_getD_getElem?]
        rw [Array.getElem?_append_left (by simp; omega), List.getElem?_toArray]
        by_cases h1 : p < l.length
        · rw [if_pos h1, List.getElem?_append_left (by simpa using h1), ← List.getD_eq_getElem?_getD]; exact ints_getD h1
        · obtain rfl : p = l.length := by omega
          rw [if_neg h1, if_pos rfl, List.getElem?_append_right (by simp)]; simp)
    obtain ⟨G2, q⟩ := fin (A := none) h1 h2 h3 hg
    exact ⟨_, rfl, G2, q⟩
  cases loc with
  | obj b => exact hcap.elim
  | ext B' O' sz' =>
    obtain ⟨hs2, hm2, _⟩ := hlo
    simp only [List.length_map] at hm2
    have hl0 : l = [] := List.length_eq_zero_iff.1 hm2.symm
    obtain ⟨hc1, hc2⟩ := hcap
    subst hl0
    simp at hi hc1
    subst hi
    exact endgrow rfl (by simp) (by simp; omega) (fun _ => rfl) (fun _ _ j v hj => by simp at hj)
  | blk b cap sz' =>
    obtain ⟨hs2, ⟨hxcap, h63⟩, cc, ee, fr, hh, hf, hcs, hvv⟩ := hlo
    subst hs2
    simp only [List.length_map] at hxcap
    obtain ⟨hc1, hc2, hc3⟩ := hcap
    rw [Nat.zero_add] at hc1
    subst hc1
    rw [Nat.mul_one] at hcs
    have hint := Ints.of hvv
    have hat : At G id (.buf 1 0 (l.map (V.int .i64))) b := .inr ⟨c, 1, by simpa [Obj.gen] using hloc⟩
    have hBb : B ≠ b := by
      rintro rfl
      obtain ⟨sz3, m3, xs3, he, ho⟩ := hr.kw _ _ _ id _ hkB hL hat
      simp only [Obj.buf.injEq] at he
      obtain ⟨rfl, rfl, rfl⟩ := he
      omega
    have hcell : ∀ j v, (l.map (Value.int .i64))[j]? = some v → w.cell? ⟨b, 0 + j, none⟩ = some v := fun j v hj => by
      obtain ⟨hjl, hj2⟩ := List.getElem?_eq_some_iff.1 hj
      simp only [List.length_map] at hjl
      rw [Nat.zero_add, cell_of_heap hh (by omega), hint j hjl, ← hj2]
      simp [List.getD_eq_getElem?_getD, hjl]
    have hfr : ∀ o, w.frozen? ⟨b, o, none⟩ = false := fun o => by
      have := hf o
      simp only [World.frozen?, hh]
      simpa using this
    have hsome : ∀ j, j < c → (w.cell? ⟨b, 0 + j, none⟩).isSome = true := fun j hj => by rw [Nat.zero_add, cell_of_heap hh (by omega)]; rfl
    by_cases hroom : l.length + 1 ≤ c
    · have hA := hc3.resolve_left (by omega)
      rw [Nat.zero_mul] at hA
      subst hA
      by_cases hil : i < l.length
      · obtain ⟨tb, kb, hsb⟩ := cells_shape (cell_of_heap hh (show 0 < cc.size by omega))
        refine (ins_in T b 0 l.length c i B O 1 1 (l.map (Value.int .i64)) [.int .i64 x] w hil (by omega) hroom h63 hBb (by simp) rfl hcell (fun j hj => hsome j (by omega)) hfr hvs onel one1 hsB hsb).mono ?_
        rintro e w' ⟨rfl, hw'⟩
        rw [Nat.zero_add, Nat.zero_add] at hw'
        have hh1 : w.drew.heap[b]? = some (.cells cc ee fr) := hh
        rw [setCells_world _ _ _ _ hh1, setCells_world _ (updC cc (i + 1) ((l.map (Value.int .i64)).drop i)) _ _ (by show (w.heap.setIfInBounds b _)[b]? = _; rw [Array.getElem?_setIfInBounds_self_of_lt (Array.getElem?_eq_some_iff.1 hh).1])] at hw'
        obtain ⟨G1, h1, h2, h3⟩ := hr.turn (cap := c) (xs' := (insV l i x).map (V.int .i64)) (c' := updC (updC cc (i + 1) ((l.map (Value.int .i64)).drop i)) i [.int .i64 x]) (w' := w') hL (by simpa using hloc) hh hf
          (by rw [hw']; simp only [Array.setIfInBounds_setIfInBounds]; rfl) (by rw [updC_size, updC_size, hcs, Nat.mul_one]) (by rw [hlen]; simp) (by rw [hlen]; exact hroom) h63 (cells_ints _) (Ints.vr (hint.shift hi (by omega)))
        obtain ⟨G2, q⟩ := fin (A := none) h1 h2 h3 hroom
        exact ⟨_, rfl, G2, q⟩
      · obtain rfl : i = l.length := by omega
        refine (Any2.slices_Insert_int_end_room T b 0 l.length c B O 1 1 [.int .i64 x] w (by omega) hroom h63 rfl (fun j hj => by rw [Nat.add_assoc]; exact hsome _ (by omega)) (fun j hj => hfr _) hvs one1).mono ?_
        rintro e w' ⟨rfl, hw'⟩
        rw [Nat.zero_add, setCells_world _ _ _ _ hh] at hw'
        obtain ⟨G1, h1, h2, h3⟩ := hr.turn (cap := c) (xs' := (insV l l.length x).map (V.int .i64)) (c' := updC cc l.length [.int .i64 x]) (w' := w') hL (by simpa using hloc) hh hf
          (by rw [hw']) (by rw [updC_size, hcs, Nat.mul_one]) (by rw [hlen]; simp) (by rw [hlen]; exact hroom) h63 (cells_ints _) (Ints.vr (hint.last (by omega)))
        obtain ⟨G2, q⟩ := fin (A := none) h1 h2 h3 hroom
        exact ⟨_, rfl, G2, q⟩
    · by_cases hil : i < l.length
      · have hA := hc3.resolve_left (by omega)
        rw [Nat.zero_mul] at hA
        subst hA
        refine (Any2.slices_Insert_int_grow T b 0 l.length c i B O 1 1 (l.map (Value.int .i64)) [.int .i64 x] w hil (by omega) hxcap (by omega) (by omega) (by simp) rfl hcell hvs onel one1).mono ?_
        rintro e w' ⟨rfl, hw'⟩
        have hg := grownCap_ge (w := w) (need := l.length + 1) (old := c) (e := ρ.t 3)
        have hg63 := grownCap_63 (w := w) (need := l.length + 1) (old := c) (e := ρ.t 3) (by omega)
        generalize grownCap w (l.length + 1) c (ρ.t 3) = g at *
        generalize hA0 : ((l.map (Value.int .i64)).take i).toArray ++ Builtin.zeroCells (Value.int .i64 0).cells (l.length + 1 - i) ++ Builtin.zeroCells (Value.int .i64 0).cells (g - (l.length + 1)) = A0 at hw'
        have hsA : A0.size = g := by rw [← hA0, Array.size_append, Array.size_append, zeroCells_size, zeroCells_size]; simp [Value.cells]; omega
        have hA0i : ∀ p, p < i → A0.getD p undef = .int .i64 (l.getD p 0) := fun p hp => by
          rw [← hA0]
          simp only [Array.getD_eq_getD_getElem?]
          rw [Array.getElem?_append_left (by rw [Array.size_append]; simp; omega), Array.getElem?_append_left (by simp; omega), List.getElem?_toArray, List.getElem?_take_of_lt hp, ← List.getD_eq_getElem?_getD]
          exact ints_getD (by omega)
        have e1 : ((w.alloc (.cells A0 (ρ.t 3))).drew.setCells w.heap.size i [Value.int .i64 x]) = { w.drew with heap := w.heap.push (.cells (updC A0 i [.int .i64 x]) (ρ.t 3) (0, 0)) } := by
          rw [setCells_world _ A0 _ _ (e := ρ.t 3) (fr := (0, 0)) (by show (w.heap.push _)[w.heap.size]? = _; simp)]
          show ({ w.drew with heap := (w.heap.push _).setIfInBounds w.heap.size _ } : World) = _
          rw [push_set]
        rw [e1, setCells_world _ (updC A0 i [.int .i64 x]) _ _ (e := ρ.t 3) (fr := (0, 0)) (by show (w.heap.push _)[w.heap.size]? = _; simp)] at hw'
        obtain ⟨G1, h1, h2, h3⟩ := hr.grow (cap := g) (sz := 1) (xs' := (insV l i x).map (V.int .i64)) (c' := updC (updC A0 i [.int .i64 x]) (i + 1) ((l.map (Value.int .i64)).drop i)) (e := ρ.t 3) (w' := w') hL
          (by
            rw [hw']
            show ({ w.drew.drew with heap := (w.heap.push _).setIfInBounds w.heap.size _ } : World) = _
            rw [push_set]; rfl) (by rw [updC_size, updC_size, hsA, Nat.mul_one]) (by rw [hlen]; simp) (by rw [hlen]; exact hg) hg63 (cells_ints _) (Ints.vr fun p hp => by
            rw [insV_len hi] at hp
            rw [updC_get _ _ _ _ (by rw [updC_size]; simp; omega), updC_get _ _ _ _ (by simp; omega), insV_get hi]
            by_cases h1 : p < i
            · rw [if_neg (by omega), if_neg (by simp; omega), if_pos h1]; exact hA0i p h1
            · rw [if_neg h1]
              by_cases h2 : p = i
              · subst h2; rw [if_neg (by omega), if_pos (by simp), if_pos rfl]; simp
              · rw [if_pos (by simp; omega), if_neg h2, List.getD_eq_getElem?_getD, List.getElem?_drop, ← List.getD_eq_getElem?_getD, show i + (p - (i + 1)) = p - 1 by omega]
                exact ints_getD (by omega))
        obtain ⟨G2, q⟩ := fin (A := none) h1 h2 h3 hg
        exact ⟨_, rfl, G2, q⟩
      · refine endgrow (by omega) hxcap (by omega) (fun hA => ?_) (fun a ha j v hj => ?_)
        · rcases hc3 with h | h
          · omega
          · rw [hA] at h; simp at h
        · rcases hc3 with h | h
          · have : l.length = 0 := by omega
            rw [List.length_eq_zero_iff.1 this] at hj; simp at hj
          · rw [h, Nat.zero_mul] at ha
            obtain rfl := Option.some.inj ha
            have := hcell j v hj
            rw [Nat.zero_add] at this
            rw [show (⟨b, 0, none⟩ : Addr).add j = ⟨b, 0 + j, none⟩ from add_none b 0 j, Nat.zero_add]
            exact this
end Go.Pv
end
