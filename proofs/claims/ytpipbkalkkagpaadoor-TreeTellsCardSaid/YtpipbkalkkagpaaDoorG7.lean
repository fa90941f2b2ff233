import Derived.Shelf.Spec.SlicesInsertGrow
import Derived.Test.YtpipbkalkkagpaaDoorG4
import Derived.Test.YtpipbkalkkagpaaDoorG6
set_option linter.unusedVariables false
set_option linter.unusedSimpArgs false
set_option linter.unusedSectionVars false
section
/- slices.Insert of one number into a row of one's own: the row that comes back is frozen. -/
set_option linter.unusedVariables false
set_option linter.unusedSimpArgs false
set_option linter.unusedSectionVars false
namespace Go.Pv
open Go.Shelf Go.RowKit Go.Lib Go.Proofs
variable {P : Program} {ρ : Ren} {Z : Nat → Go.Obj → Prop} {G : Gh} {L : List Obj} {w : World}
/-- Two addresses in different blocks: of one of them no byte is a string's, the other block isn't empty. -/
theorem apart_free (w : World) (tS tR e : TypeId) (ht : P.underlying tS = some (.slice e)) (hz : ∀ w, (Go.sizeOf e).run P w = .ok 1 w) (a b : Addr) (la ca lb cb : Nat) (hne : a.block ≠ b.block)
    {ka kb : Nat} {ta tb : TypeId} (hsa : w.shape? a.block = some (ta, ka + 1)) (hsb : w.shape? b.block = some (tb, kb + 1)) (hfr : ∀ o, w.frozen? ⟨b.block, o, none⟩ = false) (hb : b.spot = none) :
    (Extern.SlicesOverlaps.overlaps #[tS, tS] #[tR] #[.slice (some a) la ca, .slice (some b) lb cb]).run P w = .ok (.bool false) w := by
  have h1 : (a.block != b.block) = true := by simpa using hne
  have h2 : (a.block == b.block) = false := by simpa using hne
  have h3 : w.frozen? b = false := by
    have := hfr b.off
    obtain ⟨bb, bo, bs⟩ := b
    simp only at hb; subst hb; exact this
  refine (congrArg (fun s => Sem.run P s w) (show Extern.SlicesOverlaps.overlaps #[tS, tS] #[tR] #[.slice (some a) la ca, .slice (some b) lb cb] = (underlying tS >>= _) from rfl)).trans ?_
  dsimp only
  by_cases h0 : la = 0 ∨ lb = 0
  · simp [run_underlying ht, hz, h0]
  · simp [run_underlying ht, hz, h0, h1, h2, frozen, noView, viewAt, mayBeOne, stringish, shape, Sem.run, hsa, hsb, h3, hfr]
set_option maxHeartbeats 4000000 in
set_option maxRecDepth 100000 in
/-- There is room, and the place is not the end: in place. Of the row's own block no byte is a string's. -/
theorem ins_in (T : Lays2.n21 P ρ) (b off n c i vb voff m vc : Nat) (cs vs : List Value) (w : World) (hi : i < n) (hm : 0 < m) (hroom : n + m ≤ c) (hc63 : c ≤ 9223372036854775807) (hvb : vb ≠ b) (hcl : cs.length = n) (hvl : vs.length = m)
    (hcs : ∀ j v, cs[j]? = some v → w.cell? ⟨b, off + j, none⟩ = some v) (hsp : ∀ j, j < n + m → (w.cell? ⟨b, off + j, none⟩).isSome = true) (hfr : ∀ o, w.frozen? ⟨b, o, none⟩ = false)
    (hvs : ∀ j v, vs[j]? = some v → w.cell? ⟨vb, voff + j, none⟩ = some v) (h1c : ∀ v ∈ cs, v.oneCell' = true) (h1v : ∀ v ∈ vs, v.oneCell' = true)
    {ta tb : TypeId} {ka kb : Nat} (hsa : w.shape? vb = some (ta, ka + 1)) (hsb : w.shape? b = some (tb, kb + 1)) :
    Calls P (ρ.f 21) #[.slice (some ⟨b, off, none⟩) n c, .int .i64 i, .slice (some ⟨vb, voff, none⟩) m vc] w fun e w' =>
      e = .returned (.slice (some ⟨b, off, none⟩) (n + m) c) ∧ w' = (w.drew.setCells b (off + (i + m)) (cs.drop i)).setCells b (off + i) vs := by
  have t0 := T.t0; have a0 := T.a0; have z0 := T.z0; have v0 := T.v0; have t3 := T.t3; have a3 := T.a3; have z3 := T.z3; have v3 := T.v3; have t4 := T.t4; have a4 := T.a4; have z4 := T.z4; have v4 := T.v4; have t22 := T.t22; have a22 := T.a22; have z22 := T.z22; have v22 := T.v22
  have u0 := run_underlying T.t0; have u3 := run_underlying T.t3; have u4 := run_underlying T.t4; have u22 := run_underlying T.t22
  have mixed := T.mixed
  have d1 : ¬ ((m : Int) = 0) := by omega
  have d2 : ¬ ((i : Int) = (n : Int)) := by omega
  have d3 : IntKind.i64.wrap ((i : Int) + (m : Int)) = (i : Int) + (m : Int) := by rw [IntKind.wrap_i64]; omega
  have d4 : (0 : Int) ≤ (i : Int) + (m : Int) := by omega
  have d5 : i ≤ n := by omega
  have d6 : ((i : Int) + (m : Int)).toNat = i + m := by omega
  have d7 : ¬ (c = i + m) := by omega
  have d8 : (i : Int) ≤ (n : Int) + (m : Int) := by omega
  have d9 : ¬ (c = i) := by omega
  have hsz : (P.info? (ρ.t 3)).map (·.size) = some 1 := by
    obtain ⟨i0, hi0, _, h1, _⟩ := info_parts T.i3
    rw [hi0]; simp [h1]
  have hdl : (cs.drop i).length = n - i := by rw [List.length_drop, hcl]
  have hov : ∀ lb cb, (callFunc (ρ.f 27) #[.slice (some ⟨vb, voff, none⟩) m vc, .slice (some ⟨b, off + (i + m), none⟩) lb cb]).run P w = .ok (.value (.bool false)) w := fun lb cb => by
    rw [run_callFunc_extern T.f27 (by kernel_rfl) (by kernel_rfl) (by kernel_rfl) (e := Extern.SlicesOverlaps.overlaps #[(ρ.t 22), (ρ.t 22)] #[(ρ.t 4)]) (by kernel_rfl),
      apart_free w (ρ.t 22) (ρ.t 4) (ρ.t 3) T.t22 T.z3 ⟨vb, voff, none⟩ ⟨b, off + (i + m), none⟩ m vc lb cb hvb hsa hsb hfr rfl]
    rfl
  have hc1 : ∀ ty dc sc, (Builtin.copy_ #[(ρ.t 22), (ρ.t 22)] ty #[.slice (some ⟨b, off + (i + m), none⟩) (n + m - (i + m)) dc, .slice (some ⟨b, off + i, none⟩) (n + m - i) sc]).run P w.drew = .ok (goInt (cs.drop i).length) (w.drew.setCells b (off + (i + m)) (cs.drop i)) := fun ty dc sc =>
    run_copy_cells w.drew _ _ ty (ρ.t 3) b (off + (i + m)) (n + m - (i + m)) dc ⟨b, off + i, none⟩ (n + m - i) sc (cs.drop i) T.t22 hsz (by rw [hdl]; simp only [Nat.min_def]; split <;> omega)
      (fun j v hj => by rw [Addr.add_lit, Nat.add_assoc]; exact hcs (i + j) v (by rwa [List.getElem?_drop] at hj))
      (fun j hj => by rw [Nat.add_assoc]; exact hsp _ (by omega)) (fun j hj => hfr _) (fun v hv => h1c v (List.mem_of_mem_drop hv))
  obtain ⟨W1, hW1⟩ : ∃ W1, W1 = w.drew.setCells b (off + (i + m)) (cs.drop i) := ⟨_, rfl⟩
  have hs1 : ∀ k, k < n + m → (W1.cell? ⟨b, off + k, none⟩).isSome = true := fun k hk => by
    rw [hW1]
    exact isSome_setCells b _ _ _ (fun j hj => by rw [Nat.add_assoc]; exact hsp _ (by omega)) _ (hsp k hk)
  have hc2 : ∀ (W : World), (∀ x, W.cell? x = W1.cell? x) → (∀ x, W.frozen? x = W1.frozen? x) → ∀ ty dc, (Builtin.copy_ #[(ρ.t 22), (ρ.t 22)] ty #[.slice (some ⟨b, off + i, none⟩) (n + m - i) dc, .slice (some ⟨vb, voff, none⟩) m vc]).run P W = .ok (goInt vs.length) (W.setCells b (off + i) vs) := fun W e1 e2 ty dc =>
    run_copy_cells W _ _ ty (ρ.t 3) b (off + i) (n + m - i) dc ⟨vb, voff, none⟩ m vc vs T.t22 hsz (by rw [hvl]; simp only [Nat.min_def]; split <;> omega)
      (fun j v hj => by rw [Addr.add_lit, e1, hW1, World.cell?_setCells_out b _ _ _ _ (fun h _ => absurd h hvb)]; exact hvs j v hj)
      (fun j hj => by rw [e1, Nat.add_assoc]; exact hs1 _ (by omega)) (fun j hj => by rw [e2, hW1, World.frozen?_setCells]; exact hfr _) h1v
  rw [← hW1] at hc1
  go_enter T.f21, Body2.n21_ntmps ρ
  go_wp2_with (simp only [hov])
  go_region_law_o (refine step_copy_runI rfl _ _ (ρ.t 22) (ρ.t 22) rfl _ _ (by simp [Act.eval, Act.put]) (by simp [Act.eval, Act.put]) (hc1 _ _ _) ?_)
  go_wp2_with (at_builtin; refine wpList_copy_runI _ rfl _ _ (ρ.t 22) (ρ.t 22) rfl _ _ rfl rfl (hc2 _ (fun _ => rfl) (fun _ => rfl) _ _) ?_)
  go_ret
  first | exact ⟨rfl, rfl⟩ | exact ⟨rfl, by rw [hW1]⟩
/-- Cells that are set, as the row of the block. -/
theorem setCells_world {b : Nat} {e : TypeId} {fr : Nat × Nat} : ∀ (vs : List Value) (c : Array Value) (o : Nat) (w : World), w.heap[b]? = some (.cells c e fr) → w.setCells b o vs = { w with heap := w.heap.setIfInBounds b (.cells (updC c o vs) e fr) }
  | [], c, o, w, h => by
    rw [World.setCells, updC]
    have : w.heap.setIfInBounds b (.cells c e fr) = w.heap := by
      apply Array.ext_getElem?
      intro j
      by_cases hj : j = b
      · subst hj; rw [Array.getElem?_setIfInBounds_self_of_lt (Array.getElem?_eq_some_iff.1 h).1, h]
      · rw [Array.getElem?_setIfInBounds_ne (Ne.symm hj)]
    rw [this]
  | v :: vs, c, o, w, h => by
    have hlt := (Array.getElem?_eq_some_iff.1 h).1
    have h1 : w.setCell ⟨b, o, none⟩ v = { w with heap := w.heap.setIfInBounds b (.cells (c.setIfInBounds o v) e fr) } := by
      unfold World.setCell
      congr 1
      apply Array.ext_getElem?
      intro j
      by_cases hj : j = b
      · subst hj; rw [Array.getElem?_setIfInBounds_self_of_lt hlt, Array.getElem?_modify, if_pos rfl, h]; rfl
      · rw [Array.getElem?_setIfInBounds_ne (Ne.symm hj), Array.getElem?_modify, if_neg (Ne.symm hj)]
    rw [World.setCells, h1, setCells_world vs (c.setIfInBounds o v) (o + 1) _ (by show (w.heap.setIfInBounds b _)[b]? = _; rw [Array.getElem?_setIfInBounds_self_of_lt hlt])]
    simp only [updC, Array.setIfInBounds_setIfInBounds]
theorem flat_ints (l : List Int) : flat (l.map (V.int .i64)) = l.map (V.int .i64) := by
  induction l with
  | nil => rfl
  | cons a l ih => rw [List.map_cons, flat_cons, ih]; rfl
theorem cells_ints (l : List Int) : ∀ x ∈ l.map (V.int .i64), x.cells.length = 1 := by
  intro x hx; obtain ⟨a, _, rfl⟩ := List.mem_map.1 hx; rfl
/-- An own row turns in its own block, and grows. -/
theorem Rel.turn (hr : Rel Z G L w) {id b cap sz : Nat} {xs xs' : List V} {c c' : Array Value} {e : TypeId} {fr : Nat × Nat} {w' : World} (hL : L[id]? = some (.buf sz 0 xs)) (hloc : G.R id xs.length (.blk b cap sz)) (hh : w.heap[b]? = some (.cells c e fr)) (hf : Free c fr)
    (hw : w' = { w with heap := w.heap.setIfInBounds b (.cells c' e fr), tape := w'.tape, drawn := w'.drawn }) (hcs : c'.size = cap * sz) (hlt : xs.length < xs'.length) (hcap : xs'.length ≤ cap) (h63 : cap ≤ 9223372036854775807) (hsz : ∀ x ∈ xs', x.cells.length = sz) (hv : ∀ p (hp : p < (flat xs').length), VR G (flat xs')[p] (c'.getD p undef)) :
    ∃ G', Rel Z G' (L.set id (.buf sz 0 xs')) w' ∧ Evo G L w G' (L.set id (.buf sz 0 xs')) w' ∧ G'.R id xs'.length (.blk b cap sz) := by
  have hblt := (Array.getElem?_eq_some_iff.1 hh).1
  have hheap : w'.heap = w.heap.setIfInBounds b (.cells c' e fr) := by rw [hw]
  have hself : w'.heap[b]? = some (.cells c' e fr) := by rw [hheap, Array.getElem?_setIfInBounds_self_of_lt hblt]
  have hat : At G id (.buf sz 0 xs) b := .inr ⟨_, _, hloc⟩
  have hR := Gh.addR_self G id (Obj.buf sz 0 xs').gen (.blk b cap sz)
  have hle := Gh.le_addR G id (Obj.buf sz 0 xs').gen (.blk b cap sz)
  have hnew : ∀ g l, G.R id g l → g < (Obj.buf sz 0 xs').gen := fun g l hg => by
    have := hr.rg _ _ _ _ _ _ hg hL
    show g < xs'.length; omega
  have := hr.change (G' := G.addR id (Obj.buf sz 0 xs').gen (.blk b cap sz)) (ob' := .buf sz 0 xs') (w' := w') hL hat hle (by rw [hheap]; simp)
    (fun B hB => by rw [hheap, Array.getElem?_setIfInBounds_ne (Ne.symm hB)])
    ⟨Nat.zero_le _, hsz, .blk b cap sz, hR, rfl, ⟨hcap, h63⟩, c', e, fr, hself, hf, hcs, fun p hp => (hv p hp).mono hle⟩
    (fun B hB => by
      rcases hB with (hB | ⟨_, _, hB⟩) | ⟨c1, s1, (hB | ⟨_, _, hB⟩)⟩
      · exact absurd (hnew _ _ hB) (Nat.lt_irrefl _)
      · simp at hB
      · exact absurd (hnew _ _ hB) (Nat.lt_irrefl _)
      · simp at hB; exact hB.1)
    (fun i g l h => by
      rcases h with h | ⟨h1, h2, _⟩
      · exact .inl h
      · exact .inr ⟨h1, h2⟩)
    (by
      rintro i g x y (h1 | ⟨rfl, rfl, rfl⟩) (h2 | ⟨h2, h3, rfl⟩)
      · exact hr.fn _ _ _ _ h1 h2
      · subst h2 h3; exact absurd (hnew _ _ h1) (Nat.lt_irrefl _)
      · exact absurd (hnew _ _ h2) (Nat.lt_irrefl _)
      · rfl)
    (by
      intro s2 m2 xs2 he g l hg
      simp only [Obj.buf.injEq] at he
      obtain ⟨_, _, rfl⟩ := he
      rcases hg with hg | ⟨_, rfl, _⟩
      · exact Nat.le_of_lt (hnew _ _ hg)
      · exact Nat.le_refl _)
    (fun o v hk => by
      obtain ⟨sz3, m2, xs2, he, ho2⟩ := hr.kw b o v id _ hk hL hat
      simp only [Obj.buf.injEq] at he
      obtain ⟨rfl, rfl, rfl⟩ := he
      omega)
    (fun _ _ _ _ h => h) (by rw [hw]; exact ⟨rfl, rfl⟩)
  exact ⟨_, this.1, this.2, hR⟩
/-- An own row moves into a new block, and grows. -/
theorem Rel.grow (hr : Rel Z G L w) {id cap sz : Nat} {xs xs' : List V} {c' : Array Value} {e : TypeId} {w' : World} (hL : L[id]? = some (.buf sz 0 xs))
    (hw : w' = { w with heap := w.heap.push (.cells c' e (0, 0)), tape := w'.tape, drawn := w'.drawn }) (hcs : c'.size = cap * sz) (hlt : xs.length < xs'.length) (hcap : xs'.length ≤ cap) (h63 : cap ≤ 9223372036854775807) (hsz : ∀ x ∈ xs', x.cells.length = sz) (hv : ∀ p (hp : p < (flat xs').length), VR G (flat xs')[p] (c'.getD p undef)) :
    ∃ G', Rel Z G' (L.set id (.buf sz 0 xs')) w' ∧ Evo G L w G' (L.set id (.buf sz 0 xs')) w' ∧ G'.R id xs'.length (.blk w.heap.size cap sz) := by
  obtain ⟨h1, h2⟩ := hr.heap (w' := { w with tape := w'.tape, drawn := w'.drawn }) rfl
  have hR := Gh.addR_self G id (Obj.buf sz 0 xs').gen (.blk w.heap.size cap sz)
  have hle := Gh.le_addR G id (Obj.buf sz 0 xs').gen (.blk w.heap.size cap sz)
  have := h1.move (cap := cap) (sz := sz) (o := .cells c' e (0, 0)) (ob' := .buf sz 0 xs') hL
    (fun g l hg => by
      have := hr.rg _ _ _ _ _ _ hg hL
      show g < xs'.length; omega) ⟨_, _, _, rfl⟩
    ⟨Nat.zero_le _, hsz, _, hR, rfl, ⟨hcap, h63⟩, _, e, (0, 0), Array.getElem?_push_size, free_new _, hcs, fun p hp => (hv p hp).mono hle⟩
  rw [hw]
  exact ⟨_, this.1, h2.trans this.2, hR⟩
def insV (l : List Int) (i : Nat) (x : Int) : List Int := l.take i ++ x :: l.drop i
theorem insV_len {l : List Int} {i : Nat} {x : Int} (hi : i ≤ l.length) : (insV l i x).length = l.length + 1 := by
  simp [insV]; omega
theorem insV_get {l : List Int} {i p : Nat} {x : Int} (hi : i ≤ l.length) : (insV l i x).getD p 0 = if p < i then l.getD p 0 else if p = i then x else l.getD (p - 1) 0 := by
  unfold insV
  simp only [List.getD_eq_getElem?_getD]
  split
  · rw [List.getElem?_append_left (by simp; omega), List.getElem?_take_of_lt (by omega)]
  · rw [List.getElem?_append_right (by simp; omega), show p - (l.take i).length = p - i by simp; omega]
    split
    · subst_vars; simp
    · obtain ⟨q, rfl⟩ : ∃ q, p = i + 1 + q := ⟨p - (i + 1), by omega⟩
      rw [show i + 1 + q - i = q + 1 by omega, List.getElem?_cons_succ, List.getElem?_drop, show i + 1 + q - 1 = i + q by omega]
def Ints (c : Array Value) (l : List Int) : Prop := ∀ p, p < l.length → c.getD p undef = .int .i64 (l.getD p 0)
theorem Ints.of {c : Array Value} {l : List Int} (h : ∀ p (hp : p < (flat (l.map (V.int .i64))).length), VR G (flat (l.map (V.int .i64)))[p] (c.getD p undef)) : Ints c l := fun p hp => by
  have := h p (by rw [flat_ints]; simpa using hp)
  simp only [flat_ints, List.getElem_map] at this
  rw [List.getD_eq_getElem?_getD, List.getElem?_eq_getElem hp]
  generalize c.getD p undef = u at *
  cases this; rfl
theorem Ints.vr {c : Array Value} {l : List Int} (h : Ints c l) : ∀ p (hp : p < (flat (l.map (V.int .i64))).length), VR G (flat (l.map (V.int .i64)))[p] (c.getD p undef) := fun p hp => by
  have hp' : p < l.length := by rw [flat_ints] at hp; simpa using hp
  have e := h p hp'
  rw [List.getD_eq_getElem?_getD, List.getElem?_eq_getElem hp'] at e
  simp only [flat_ints, List.getElem_map]
  rw [e]; exact .int _ _
theorem ints_getD {l : List Int} {p : Nat} (h : p < l.length) : (l.map (Value.int .i64)).getD p undef = .int .i64 (l.getD p 0) := by
  simp [List.getD_eq_getElem?_getD, h]
theorem Ints.shift {c : Array Value} {l : List Int} {i : Nat} {x : Int} (h : Ints c l) (hi : i ≤ l.length) (hs : l.length + 1 ≤ c.size) : Ints (updC (updC c (i + 1) ((l.map (Value.int .i64)).drop i)) i [.int .i64 x]) (insV l i x) := fun p hp => by
  rw [insV_len hi] at hp
  rw [updC_get _ _ _ _ (by rw [updC_size]; simp; omega), updC_get _ _ _ _ (by simp; omega), insV_get hi]
  by_cases h1 : p < i
  · rw [if_neg (by simp; omega), if_neg (by omega), if_pos h1]; exact h p (by omega)
  · rw [if_neg h1]
    by_cases h2 : p = i
    · subst h2; rw [if_pos (by simp), if_pos rfl]; simp
    · rw [if_neg (by simp; omega), if_pos (by simp; omega), if_neg h2]
      rw [List.getD_eq_getElem?_getD, List.getElem?_drop, ← List.getD_eq_getElem?_getD, show i + (p - (i + 1)) = p - 1 by omega]
      exact ints_getD (by omega)
theorem Ints.last {c : Array Value} {l : List Int} {x : Int} (h : Ints c l) (hs : l.length + 1 ≤ c.size) : Ints (updC c l.length [.int .i64 x]) (insV l l.length x) := fun p hp => by
  rw [insV_len (Nat.le_refl _)] at hp
  rw [updC_get _ _ _ _ (by simp; omega), insV_get (Nat.le_refl _)]
  by_cases h1 : p < l.length
  · rw [if_neg (by simp; omega), if_pos h1]; exact h p h1
  · obtain rfl : p = l.length := by omega
    rw [if_pos (by simp), if_neg h1, if_pos rfl]; simp
theorem push_set (a : Array Go.Obj) (x y : Go.Obj) : (a.push x).setIfInBounds a.size y = a.push y := by
  apply Array.ext_getElem?
  intro j
  by_cases hj : j = a.size
  · subst hj; rw [Array.getElem?_setIfInBounds_self_of_lt (by simp)]; simp
  · rw [Array.getElem?_setIfInBounds_ne (Ne.symm hj), Array.getElem?_push, Array.getElem?_push, if_neg hj, if_neg hj]
theorem cells_shape {b o : Nat} {v : Value} (h : w.cell? ⟨b, o, none⟩ = some v) : ∃ t k, w.shape? b = some (t, k + 1) := by
  unfold World.cell? at h
  cases hh : w.heap[b]? with
  | none => simp [hh] at h
  | some ob =>
    cases ob with
    | cells c t fr =>
      simp [hh] at h
      refine ⟨t, c.size - 1, ?_⟩
      have : o < c.size := (Array.getElem?_eq_some_iff.1 h).1
      simp only [World.shape?, hh]
      congr 2; omega
    | _ => simp [hh] at h
theorem ins_sound (T : Lays2.n21 P ρ) (hr : Rel Z G L w) {id i : Nat} {l : List Int} {x : Int} (hL : L[id]? = some (.buf 1 0 (l.map (V.int .i64)))) (hi : i ≤ l.length) (hn : l.length ≤ 1000000) {ra rb : Value}
    (ha : VR G (.own id 0 l.length l.length) ra) (hb : VR G (.sl false true [.int .i64 x]) rb) :
    Calls P (ρ.f 21) #[ra, .int .i64 (i : Int), rb] w fun e w' => ∃ r, e = .returned r ∧ ∃ G', Rel Z G' (L.set id (.buf 1 (l.length + 1) ((insV l i x).map (V.int .i64)))) w' ∧
      Evo G L w G' (L.set id (.buf 1 (l.length + 1) ((insV l i x).map (V.int .i64)))) w' ∧ VR G' (gI (insV l i x)) r := by
  have hlen : ((insV l i x).map (V.int .i64)).length = l.length + 1 := by rw [List.length_map, insV_len hi]
  -- how it ends
  have fin : ∀ {G1 : Gh} {w1 : World} {b c : Nat} {A : Option Addr}, Rel Z G1 (L.set id (.buf 1 0 ((insV l i x).map (V.int .i64)))) w1 → Evo G L w G1 (L.set id (.buf 1 0 ((insV l i x).map (V.int .i64)))) w1 → G1.R id ((insV l i x).map (V.int .i64)).length (.blk b c 1) → l.length + 1 ≤ c →
      ∃ G', Rel Z G' (L.set id (.buf 1 (l.length + 1) ((insV l i x).map (V.int .i64)))) w1 ∧ Evo G L w G' (L.set id (.buf 1 (l.length + 1) ((insV l i x).map (V.int .i64)))) w1 ∧ VR G' (gI (insV l i x)) (.slice (some ⟨b, 0, none⟩) (l.length + 1) c) := by
    intro G1 w1 b c A h1 h2 h3 h4
    have hlt := (List.getElem?_eq_some_iff.1 hL).1
    obtain ⟨G2, q1, q2, q3⟩ := h1.freeze (List.getElem?_set_self hlt)
    rw [List.set_set, hlen] at q1 q2
    have h5 : VR G1 (.own id 0 (l.length + 1) ((insV l i x).map (V.int .i64)).length) (.slice (some ⟨b, 0, none⟩) (l.length + 1) c) := .own (loc := .blk b c 1) h3 (by omega) ⟨by omega, by omega, .inr (by simp)⟩
    have h6 := q3 h5
    rw [List.drop_zero, List.take_of_length_le (by omega)] at h6
    exact ⟨G2, q1, h2.trans q2, h6⟩
  -- the arguments
  obtain ⟨hm, hszs, loc, hloc, hlo⟩ := hr.ok id _ hL
  simp only [List.length_map] at hloc
  obtain ⟨A, c, rfl, hcap⟩ : ∃ A c, ra = .slice A l.length c ∧ OwnAt loc l.length 0 A c := by
    cases ha with
    | own hid hl ha => have := hr.fn _ _ _ _ hid hloc; subst this; exact ⟨_, _, rfl, ha⟩
  obtain ⟨B, O, rfl, hkB⟩ : ∃ B O, rb = .slice (some ⟨B, O, none⟩) 1 1 ∧ G.K B O (.int .i64 x) := by
    cases hb with
    | sl sz vs hne hx hc hsz hk hv =>
      have h0 := hv 0 (by simp [flat, V.cells])
      have h1 := hk 0 (by simp [flat, V.cells])
      rw [hx rfl]
      refine ⟨_, _, rfl, ?_⟩
      generalize vs 0 = u at h0 h1
      have e : (flat [V.int .i64 x])[0]'(by simp [flat, V.cells]) = V.int .i64 x := rfl
      rw [e] at h0
      cases h0
      simpa using h1
  have hcB := hr.kc _ _ _ hkB
  obtain ⟨tB, kB, hsB⟩ := cells_shape hcB
  have hvs : ∀ j v, [Value.int .i64 x][j]? = some v → w.cell? ⟨B, O + j, none⟩ = some v := fun j v hj => by
    cases j with
    | zero => simp at hj; subst hj; exact hcB
    | succ j => simp at hj
  have one1 : ∀ v ∈ [Value.int .i64 x], v.oneCell' = true := by simp [Value.oneCell']
  have onel : ∀ v ∈ l.map (Value.int .i64), v.oneCell' = true := by simp [Value.oneCell']
  have hi21 : (P.info? (ρ.t 3)).map (fun i => (i.zero, i.size, i.bytes)) = some (some (Value.int IntKind.i64 0), 1, 8) := T.i3
  have endgrow : ∀ {A' : Option Addr} {c' : Nat}, i = l.length → l.length ≤ c' → c' < l.length + 1 → (A' = none → l.length = 0) → (∀ a, A' = some a → ∀ j v, (l.map (Value.int .i64))[j]? = some v → w.cell? (a.add j) = some v) →
      Calls P (ρ.f 21) #[.slice A' l.length c', .int .i64 (i : Int), .slice (some ⟨B, O, none⟩) 1 1] w fun e w' => ∃ r, e = .returned r ∧ ∃ G', Rel Z G' (L.set id (.buf 1 (l.length + 1) ((insV l i x).map (V.int .i64)))) w' ∧
        Evo G L w G' (L.set id (.buf 1 (l.length + 1) ((insV l i x).map (V.int .i64)))) w' ∧ VR G' (gI (insV l i x)) r := by
    intro A' c' hil hc1 hc2 hA hcs
    subst hil
    refine (Any2.slices_Insert_int_end_grow T A' l.length c' B O 1 1 (l.map (Value.int .i64)) [.int .i64 x] w (by omega) hc1 hc2 (by omega) (by simp) rfl hA hcs hvs one1).mono ?_
    rintro e w' ⟨rfl, hw'⟩
    have hg := grownCap_ge (w := w) (need := l.length + 1) (old := c') (e := ρ.t 3)
    have hg63 := grownCap_63 (w := w) (need := l.length + 1) (old := c') (e := ρ.t 3) (by omega)
    generalize grownCap w (l.length + 1) c' (ρ.t 3) = g at *
    obtain ⟨G1, h1, h2, h3⟩ := hr.grow (cap := g) (sz := 1) (xs' := (insV l l.length x).map (V.int .i64)) (c' := ((l.map (Value.int .i64) ++ [Value.int .i64 x]).toArray ++ Builtin.zeroCells (Value.int .i64 0).cells (g - (l.length + 1)))) (e := ρ.t 3) (w' := w') hL
      (by rw [hw']; rfl) (by rw [Array.size_append, zeroCells_size]; simp [Value.cells]; omega) (by rw [hlen]; simp) (by rw [hlen]; exact hg) hg63 (cells_ints _) (Ints.vr fun p hp => by
        rw [insV_len hi] at hp
        rw [insV_get hi]
        simp only [Array.getD_eq_getD_getElem?]
        rw [Array.getElem?_append_left (by simp; omega), List.getElem?_toArray]
        by_cases h1 : p < l.length
        · rw [if_pos h1, List.getElem?_append_left (by simpa using h1), ← List.getD_eq_getElem?_getD]; exact ints_getD h1
        · obtain rfl : p = l.length := by omega
          rw [if_neg h1, if_pos rfl, List.getElem?_append_right (by simp)]; simp)
    obtain ⟨G2, q⟩ := fin (A := none) h1 h2 h3 hg
    exact ⟨_, rfl, G2, q⟩
  cases loc with
  | obj b => exact hcap.elim
  | ext B' O' sz' =>
    obtain ⟨hs2, hm2, _⟩ := hlo
    simp only [List.length_map] at hm2
    have hl0 : l = [] := List.length_eq_zero_iff.1 hm2.symm
    obtain ⟨hc1, hc2⟩ := hcap
    subst hl0
    simp at hi hc1
    subst hi
    exact endgrow rfl (by simp) (by simp; omega) (fun _ => rfl) (fun _ _ j v hj => by simp at hj)
  | blk b cap sz' =>
    obtain ⟨hs2, ⟨hxcap, h63⟩, cc, ee, fr, hh, hf, hcs, hvv⟩ := hlo
    subst hs2
    simp only [List.length_map] at hxcap
    obtain ⟨hc1, hc2, hc3⟩ := hcap
    rw [Nat.zero_add] at hc1
    subst hc1
    rw [Nat.mul_one] at hcs
    have hint := Ints.of hvv
    have hat : At G id (.buf 1 0 (l.map (V.int .i64))) b := .inr ⟨c, 1, by simpa [Obj.gen] using hloc⟩
    have hBb : B ≠ b := by
      rintro rfl
      obtain ⟨sz3, m3, xs3, he, ho⟩ := hr.kw _ _ _ id _ hkB hL hat
      simp only [Obj.buf.injEq] at he
      obtain ⟨rfl, rfl, rfl⟩ := he
      omega
    have hcell : ∀ j v, (l.map (Value.int .i64))[j]? = some v → w.cell? ⟨b, 0 + j, none⟩ = some v := fun j v hj => by
      obtain ⟨hjl, hj2⟩ := List.getElem?_eq_some_iff.1 hj
      simp only [List.length_map] at hjl
      rw [Nat.zero_add, cell_of_heap hh (by omega), hint j hjl, ← hj2]
      simp [List.getD_eq_getElem?_getD, hjl]
    have hfr : ∀ o, w.frozen? ⟨b, o, none⟩ = false := fun o => by
      have := hf o
      simp only [World.frozen?, hh]
      simpa using this
    have hsome : ∀ j, j < c → (w.cell? ⟨b, 0 + j, none⟩).isSome = true := fun j hj => by rw [Nat.zero_add, cell_of_heap hh (by omega)]; rfl
    by_cases hroom : l.length + 1 ≤ c
    · have hA := hc3.resolve_left (by omega)
      rw [Nat.zero_mul] at hA
      subst hA
      by_cases hil : i < l.length
      · obtain ⟨tb, kb, hsb⟩ := cells_shape (cell_of_heap hh (show 0 < cc.size by omega))
        refine (ins_in T b 0 l.length c i B O 1 1 (l.map (Value.int .i64)) [.int .i64 x] w hil (by omega) hroom h63 hBb (by simp) rfl hcell (fun j hj => hsome j (by omega)) hfr hvs onel one1 hsB hsb).mono ?_
        rintro e w' ⟨rfl, hw'⟩
        rw [Nat.zero_add, Nat.zero_add] at hw'
        have hh1 : w.drew.heap[b]? = some (.cells cc ee fr) := hh
        rw [setCells_world _ _ _ _ hh1, setCells_world _ (updC cc (i + 1) ((l.map (Value.int .i64)).drop i)) _ _ (by show (w.heap.setIfInBounds b _)[b]? = _; rw [Array.getElem?_setIfInBounds_self_of_lt (Array.getElem?_eq_some_iff.1 hh).1])] at hw'
        obtain ⟨G1, h1, h2, h3⟩ := hr.turn (cap := c) (xs' := (insV l i x).map (V.int .i64)) (c' := updC (updC cc (i + 1) ((l.map (Value.int .i64)).drop i)) i [.int .i64 x]) (w' := w') hL (by simpa using hloc) hh hf
          (by rw [hw']; simp only [Array.setIfInBounds_setIfInBounds]; rfl) (by rw [updC_size, updC_size, hcs, Nat.mul_one]) (by rw [hlen]; simp) (by rw [hlen]; exact hroom) h63 (cells_ints _) (Ints.vr (hint.shift hi (by omega)))
        obtain ⟨G2, q⟩ := fin (A := none) h1 h2 h3 hroom
        exact ⟨_, rfl, G2, q⟩
      · obtain rfl : i = l.length := by omega
        refine (Any2.slices_Insert_int_end_room T b 0 l.length c B O 1 1 [.int .i64 x] w (by omega) hroom h63 rfl (fun j hj => by rw [Nat.add_assoc]; exact hsome _ (by omega)) (fun j hj => hfr _) hvs one1).mono ?_
        rintro e w' ⟨rfl, hw'⟩
        rw [Nat.zero_add, setCells_world _ _ _ _ hh] at hw'
        obtain ⟨G1, h1, h2, h3⟩ := hr.turn (cap := c) (xs' := (insV l l.length x).map (V.int .i64)) (c' := updC cc l.length [.int .i64 x]) (w' := w') hL (by simpa using hloc) hh hf
          (by rw [hw']) (by rw [updC_size, hcs, Nat.mul_one]) (by rw [hlen]; simp) (by rw [hlen]; exact hroom) h63 (cells_ints _) (Ints.vr (hint.last (by omega)))
        obtain ⟨G2, q⟩ := fin (A := none) h1 h2 h3 hroom
        exact ⟨_, rfl, G2, q⟩
    · by_cases hil : i < l.length
      · have hA := hc3.resolve_left (by omega)
        rw [Nat.zero_mul] at hA
        subst hA
        refine (Any2.slices_Insert_int_grow T b 0 l.length c i B O 1 1 (l.map (Value.int .i64)) [.int .i64 x] w hil (by omega) hxcap (by omega) (by omega) (by simp) rfl hcell hvs onel one1).mono ?_
        rintro e w' ⟨rfl, hw'⟩
        have hg := grownCap_ge (w := w) (need := l.length + 1) (old := c) (e := ρ.t 3)
        have hg63 := grownCap_63 (w := w) (need := l.length + 1) (old := c) (e := ρ.t 3) (by omega)
        generalize grownCap w (l.length + 1) c (ρ.t 3) = g at *
        generalize hA0 : ((l.map (Value.int .i64)).take i).toArray ++ Builtin.zeroCells (Value.int .i64 0).cells (l.length + 1 - i) ++ Builtin.zeroCells (Value.int .i64 0).cells (g - (l.length + 1)) = A0 at hw'
        have hsA : A0.size = g := by rw [← hA0, Array.size_append, Array.size_append, zeroCells_size, zeroCells_size]; simp [Value.cells]; omega
        have hA0i : ∀ p, p < i → A0.getD p undef = .int .i64 (l.getD p 0) := fun p hp => by
          rw [← hA0]
          simp only [Array.getD_eq_getD_getElem?]
          rw [Array.getElem?_append_left (by rw [Array.size_append]; simp; omega), Array.getElem?_append_left (by simp; omega), List.getElem?_toArray, List.getElem?_take_of_lt hp, ← List.getD_eq_getElem?_getD]
          exact ints_getD (by omega)
        have e1 : ((w.alloc (.cells A0 (ρ.t 3))).drew.setCells w.heap.size i [Value.int .i64 x]) = { w.drew with heap := w.heap.push (.cells (updC A0 i [.int .i64 x]) (ρ.t 3) (0, 0)) } := by
          rw [setCells_world _ A0 _ _ (e := ρ.t 3) (fr := (0, 0)) (by show (w.heap.push _)[w.heap.size]? = _; simp)]
          show ({ w.drew with heap := (w.heap.push _).setIfInBounds w.heap.size _ } : World) = _
          rw [push_set]
        rw [e1, setCells_world _ (updC A0 i [.int .i64 x]) _ _ (e := ρ.t 3) (fr := (0, 0)) (by show (w.heap.push _)[w.heap.size]? = _; simp)] at hw'
        obtain ⟨G1, h1, h2, h3⟩ := hr.grow (cap := g) (sz := 1) (xs' := (insV l i x).map (V.int .i64)) (c' := updC (updC A0 i [.int .i64 x]) (i + 1) ((l.map (Value.int .i64)).drop i)) (e := ρ.t 3) (w' := w') hL
          (by
            rw [hw']
            show ({ w.drew.drew with heap := (w.heap.push _).setIfInBounds w.heap.size _ } : World) = _
            rw [push_set]; rfl) (by rw [updC_size, updC_size, hsA, Nat.mul_one]) (by rw [hlen]; simp) (by rw [hlen]; exact hg) hg63 (cells_ints _) (Ints.vr fun p hp => by
            rw [insV_len hi] at hp
            rw [updC_get _ _ _ _ (by rw [updC_size]; simp; omega), updC_get _ _ _ _ (by simp; omega), insV_get hi]
            by_cases h1 : p < i
            · rw [if_neg (by omega), if_neg (by simp; omega), if_pos h1]; exact hA0i p h1
            · rw [if_neg h1]
              by_cases h2 : p = i
              · subst h2; rw [if_neg (by omega), if_pos (by simp), if_pos rfl]; simp
              · rw [if_pos (by simp; omega), if_neg h2, List.getD_eq_getElem?_getD, List.getElem?_drop, ← List.getD_eq_getElem?_getD, show i + (p - (i + 1)) = p - 1 by omega]
                exact ints_getD (by omega))
        obtain ⟨G2, q⟩ := fin (A := none) h1 h2 h3 hg
        exact ⟨_, rfl, G2, q⟩
      · refine endgrow (by omega) hxcap (by omega) (fun hA => ?_) (fun a ha j v hj => ?_)
        · rcases hc3 with h | h
          · omega
          · rw [hA] at h; simp at h
        · rcases hc3 with h | h
          · have : l.length = 0 := by omega
            rw [List.length_eq_zero_iff.1 this] at hj; simp at hj
          · rw [h, Nat.zero_mul] at ha
            obtain rfl := Option.some.inj ha
            have := hcell j v hj
            rw [Nat.zero_add] at this
            rw [show (⟨b, 0, none⟩ : Addr).add j = ⟨b, 0 + j, none⟩ from add_none b 0 j, Nat.zero_add]
            exact this
end Go.Pv
end
section
/- Trees: places in rows that rise; a number that is put into a row. -/
set_option linter.unusedVariables false
set_option linter.unusedSimpArgs false
set_option maxRecDepth 100000
set_option maxHeartbeats 2000000
namespace Go.Proofs.Mth
open Go Go.Pv Go.Proofs Go.Shelf
def rnI : Ren := ⟨fun x => if x = 21 then 59 else if x = 27 then 83 else if x = 28 then 84 else if x = 35 then 89 else if x = 39 then 93 else x, fun x => if x = 0 then 0 else if x = 3 then 3 else if x = 4 then 4 else if x = 22 then 38 else x, fun x => x⟩
set_option maxRecDepth 100000 in
theorem insL : Lays2.n21 Tryd.prog rnI := by constructor <;> first | rfl | (intro _; rfl) | kernel_rfl
instance insI : CC Tryd.prog 59 (∀ (l : List Int) (i x : Int), 0 ≤ i ∧ i ≤ l.length → l.length ≤ 1000000 → ∀ {Z}, ZT Z → ∀ L id, L[id]? = some (Go.Pv.Obj.buf 1 0 (l.map (V.int .i64))) →
    SE Tryd.prog Z 59 [.own id 0 l.length l.length, .int .i64 i, .sl false true [.int .i64 x]] L (gI (insV l i.toNat x)) (L.set id (.buf 1 (l.length + 1) ((insV l i.toNat x).map (V.int .i64))))) := ⟨fun l i x hi hn {Z} H L id hL => by
  obtain ⟨i, rfl⟩ := Int.eq_ofNat_of_zero_le hi.1
  rw [Int.toNat_natCast]
  refine ⟨⟨⟨_, (rfl : Tryd.prog.funcs[59]? = some Tryd.f59), by kernel_rfl, by kernel_rfl⟩, fun G w rargs hr ha => ?_⟩⟩
  obtain ⟨hs, hv⟩ := ha
  obtain ⟨a, b, c, rfl⟩ : ∃ a b c, rargs = #[a, b, c] := by
    obtain ⟨l⟩ := rargs
    simp only [List.size_toArray] at hs
    match l, hs with
    | [a, b, c], _ => exact ⟨a, b, c, rfl⟩
  have h0 := hv 0 (by simp)
  have h1 := hv 1 (by simp)
  have h2 := hv 2 (by simp)
  have e0 : (#[a, b, c] : Array Value).getD 0 undef = a := rfl
  have e1 : (#[a, b, c] : Array Value).getD 1 undef = b := rfl
  have e2 : (#[a, b, c] : Array Value).getD 2 undef = c := rfl
  rw [e0] at h0; rw [e1] at h1; rw [e2] at h2
  simp only [List.getElem_cons_zero, List.getElem_cons_succ] at h0 h1 h2
  obtain rfl : b = .int .i64 (i : Int) := by cases h1; rfl
  refine Calls0.of_calls ((ins_sound insL hr hL (by omega) hn h0 h2).mono ?_)
  rintro e w' ⟨r, rfl, G', q1, q2, q3⟩
  exact ⟨r, rfl, G', _, _, ⟨rfl, rfl⟩, q1, q2, q3⟩⟩
/-- The first place of a row that rises at which no smaller number stands. -/
def lbV (l : List Int) (x : Int) : Nat := (l.takeWhile fun a => decide (a < x)).length
def Srt (l : List Int) : Prop := ∀ p q, p < q → q < l.length → rd l (p : Int) ≤ rd l (q : Int)
theorem lb_is {l : List Int} {x : Int} : ∀ {i : Nat}, i ≤ l.length → (∀ q, q < i → rd l (q : Int) < x) → (i < l.length → ¬ rd l (i : Int) < x) → lbV l x = i := by
  induction l with
  | nil => intro i hi _ _; simp at hi; subst hi; rfl
  | cons a l ih =>
    intro i hi h1 h2
    cases i with
    | zero =>
      have := h2 (by simp)
      have e : rd (a :: l) ((0 : Nat) : Int) = a := rfl
      rw [e] at this
      unfold lbV
      rw [List.takeWhile_cons, if_neg (by simpa using this)]; rfl
    | succ i =>
      have := h1 0 (by omega)
      have e : rd (a :: l) ((0 : Nat) : Int) = a := rfl
      rw [e] at this
      have hs : ∀ q : Nat, rd (a :: l) ((q + 1 : Nat) : Int) = rd l (q : Int) := fun q => by rw [rd_nat, rd_nat]; rfl
      have := ih (i := i) (by simpa using hi) (fun q hq => by have := h1 (q + 1) (by omega); rwa [hs] at this) (fun hq => by have := h2 (by simpa using hq); rwa [hs] at this)
      unfold lbV at this ⊢
      rw [List.takeWhile_cons, if_pos (by simpa using ‹a < x›), List.length_cons, this]
theorem lb_le (l : List Int) (x : Int) : lbV l x ≤ l.length := by
  unfold lbV
  induction l with
  | nil => simp
  | cons a l ih => rw [List.takeWhile_cons]; split <;> simp; omega
theorem ins_put {l : List Int} {x : Int} (hs : Srt l) : insV l (lbV l x) x = putV x l := by
  induction l with
  | nil => rfl
  | cons a l ih =>
    have hs' : Srt l := fun p q h1 h2 => by
      have := hs (p + 1) (q + 1) (by omega) (by simpa using h2)
      rwa [show rd (a :: l) ((p + 1 : Nat) : Int) = rd l (p : Int) by rw [rd_nat, rd_nat]; rfl, show rd (a :: l) ((q + 1 : Nat) : Int) = rd l (q : Int) by rw [rd_nat, rd_nat]; rfl] at this
    have ha : ∀ b ∈ l, a ≤ b := fun b hb => by
      obtain ⟨q, hq, rfl⟩ := List.getElem_of_mem hb
      have := hs 0 (q + 1) (by omega) (by simpa using hq)
      rwa [show rd (a :: l) ((0 : Nat) : Int) = a from rfl, show rd (a :: l) ((q + 1 : Nat) : Int) = l[q] by rw [rd_nat]; simp [List.getD_eq_getElem?_getD, hq]] at this
    have heq : ∀ l : List Int, (∀ b ∈ l, x ≤ b) → putV x l = x :: l ∨ ∃ r, l = x :: r ∧ putV x l = x :: putV x r := by
      intro l hl
      cases l with
      | nil => exact .inl rfl
      | cons b r =>
        rw [putV]; split
        · exact .inl rfl
        · have := hl b (by simp)
          obtain rfl : b = x := by omega
          exact .inr ⟨r, rfl, rfl⟩
    have hall : ∀ l : List Int, (∀ b ∈ l, x ≤ b) → putV x l = x :: l := by
      intro l
      induction l with
      | nil => intro _; rfl
      | cons b r ihr =>
        intro hl
        rcases heq (b :: r) hl with h | ⟨r', h1, h2⟩
        · exact h
        · obtain ⟨rfl, rfl⟩ := List.cons.inj h1
          rw [h2, ihr fun c hc => hl c (by simp [hc])]
    by_cases h : a < x
    · have e : lbV (a :: l) x = lbV l x + 1 := by unfold lbV; rw [List.takeWhile_cons, if_pos (by simpa using h)]; rfl
      rw [e, putV, if_neg (by omega), ← ih hs']; rfl
    · have e : lbV (a :: l) x = 0 := by unfold lbV; rw [List.takeWhile_cons, if_neg (by simpa using h)]; rfl
      rw [e, hall (a :: l) (fun b hb => by by_cases e : b = a; (subst e; omega); have := ha b ((List.mem_cons.1 hb).resolve_left e); omega)]; rfl
instance nan1 : CC Tryd.prog 88 (∀ (x : Int), C 88 [.int .i64 x] (.bool false)) := ⟨fun x => by
  refine ct Tryd.func88 fun {Z} H => ?_
  repeat' first | refine go ?_ | (refine sp ?_ ?_ <;> intro h) | intro b
  refine fin (vB ?_)
  simp⟩
instance nan2 : CC Tryd.prog 82 (∀ (x : Int), C 82 [.int .i64 x] (.bool false)) := ⟨fun x => by
  refine ct Tryd.func82 fun {Z} H => ?_
  repeat' first | refine go ?_ | (refine sp ?_ ?_ <;> intro h) | intro b
  refine fin (vB ?_)
  simp⟩
instance less : CC Tryd.prog 81 (∀ (a b : Int), C 81 [.int .i64 a, .int .i64 b] (.bool (decide (a < b)))) := ⟨fun a b => by
  refine ct Tryd.func81 fun {Z} H => ?_
  repeat' first | refine go ?_ | (refine sp ?_ ?_ <;> intro h) | intro b
  exact fin rfl⟩
def foundB (l : List Int) (x : Int) : Bool := decide (lbV l x < l.length ∧ rd l (lbV l x : Int) = x)
instance bsI : CC Tryd.prog 58 (∀ (l : List Int) (x : Int), Srt l → l.length ≤ 1000000 → C 58 [gI l, .int .i64 x] (.tup [.int .i64 (lbV l x : Nat), .bool (foundB l x)])) := ⟨fun l x h1 h2 => by
  refine ct Tryd.func58 fun {Z} H => ?_
  repeat' first | refine go ?_ | (refine sp ?_ ?_ <;> intro h) | intro b
  refine W.loop (fun s : Nat × Nat => [(0, gI l), (1, .int .i64 x), (6, .int .i64 (l.length : Nat)), (7, .int .i64 s.1), (8, .int .i64 s.2)]) (fun _ => []) (fun s => s.1 ≤ s.2 ∧ s.2 ≤ l.length ∧ (∀ q, q < s.1 → rd l (q : Int) < x) ∧ ∀ q, s.2 ≤ q → q < l.length → ¬ rd l (q : Int) < x) (fun s => s.2 - s.1) (0, l.length) ⟨Nat.zero_le _, Nat.le_refl _, fun q hq => absurd hq (Nat.not_lt_zero q), fun q h1 h2 => by dsimp only at h1; omega⟩ ?_
  rintro ⟨i, j⟩ env ⟨hi, hj, hq1, hq2⟩
  dsimp only at *
  repeat' first | refine go ?_ | (refine sp ?_ ?_ <;> intro h) | intro b
  · have hh : ((i : Int) + (j : Int)) / 2 ^ 1 = (((i + j) / 2 : Nat) : Int) := by omega
    rw [hh] at h
    have hs : ∀ q, q ≤ (i + j) / 2 → rd l (q : Int) < x := fun q hq => by
      by_cases e : q = (i + j) / 2
      · subst e; exact h
      · have := h1 q ((i + j) / 2) (by omega) (by omega); omega
    exact lp ((i + j) / 2 + 1, j) ⟨by dsimp only; omega, hj, fun q hq => hs q (by dsimp only at hq; omega), hq2⟩ (by dsimp only; omega)
  · have hh : ((i : Int) + (j : Int)) / 2 ^ 1 = (((i + j) / 2 : Nat) : Int) := by omega
    rw [hh] at h
    have hs : ∀ q, (i + j) / 2 ≤ q → q < l.length → ¬ rd l (q : Int) < x := fun q hq hq' => by
      by_cases e : q = (i + j) / 2
      · subst e; exact h
      · have := h1 ((i + j) / 2) q (by omega) (by omega); omega
    exact lp (i, (i + j) / 2) ⟨by dsimp only; omega, by dsimp only; omega, hq1, hs⟩ (by dsimp only; omega)
  all_goals
    have hij : j = i := by omega
    subst hij
    have hlb : lbV l x = j := lb_is hj hq1 (fun hl => hq2 j (Nat.le_refl _) hl)
    rw [hlb]
    refine fin ?_
    have hf : foundB l x = decide (j < l.length ∧ rd l (j : Int) = x) := by unfold foundB; rw [hlb]
    rw [hf]
  · rw [decide_eq_true ⟨by omega, by assumption⟩]; rfl
  · rw [decide_eq_false (by rintro ⟨_, hh⟩; exact ‹¬ rd l (j : Int) = x› hh)]; rfl
  · rw [decide_eq_false (by rintro ⟨hh, _⟩; omega)]; rfl⟩
end Go.Proofs.Mth
end
section
/- Right trees: the plain facts; no program in sight. -/
set_option linter.unusedVariables false
set_option linter.unusedSimpArgs false
set_option maxRecDepth 100000
set_option maxHeartbeats 2000000
namespace Go.Proofs.Mth
open Go Go.Pv Go.Proofs
/-! places -/
def loN (x : Nat) : Nat := (x + 1 - 2 ^ lev x) / 2
def hiN (x : Nat) : Nat := (x + 2 ^ lev x - 1) / 2
theorem lv_lo {x : Nat} (h : x < 2047) : (leavesV (x : Int)).1 = loN x := by rw [leaves_nat x h]; rfl
theorem lv_hi {x : Nat} (h : x < 2047) : (leavesV (x : Int)).2 = hiN x := by rw [leaves_nat x h]; rfl
def pathN (j i : Nat) : List Nat := (ups (2 * i) (2 ^ j)).map (·.2)
theorem path_iff {j i x : Nat} (hj : j < 7) (hi : i < 2 ^ j) (hx : x < 2 * 2 ^ j - 1) : x ∈ pathN j i ↔ x % 2 = 1 ∧ loN x ≤ i ∧ i ≤ hiN x := by
  have h : ((List.range 7).all fun j => (List.range (2 ^ j)).all fun i => (List.range (2 * 2 ^ j - 1)).all fun x => decide (x ∈ pathN j i ↔ x % 2 = 1 ∧ loN x ≤ i ∧ i ≤ hiN x)) = true := by kernel_rfl
  exact of_decide_eq_true (all_lt (all_lt (all_lt h j hj) i hi) x hx)
theorem path_ok {j i : Nat} (hj : j < 7) (hi : i < 2 ^ j) : (pathN j i).Nodup ∧ ∀ x ∈ pathN j i, x < 2 * 2 ^ j - 1 := by
  have h : ((List.range 7).all fun j => (List.range (2 ^ j)).all fun i => decide ((pathN j i).Nodup) && (pathN j i).all fun x => decide (x < 2 * 2 ^ j - 1)) = true := by kernel_rfl
  have := all_lt (all_lt h j hj) i hi
  rw [Bool.and_eq_true, decide_eq_true_iff, List.all_eq_true] at this
  exact ⟨this.1, fun x hx => of_decide_eq_true (this.2 x hx)⟩
theorem leaf_at {x : Nat} (hx : x < 127) (h : x % 2 = 0) : loN x = x / 2 ∧ hiN x = x / 2 := by
  have hh : ((List.range 127).all fun x => decide (x % 2 = 0 → loN x = x / 2 ∧ hiN x = x / 2)) = true := by kernel_rfl
  exact of_decide_eq_true (all_lt hh x hx) h
theorem below {j x : Nat} (hj : j < 7) (hx : x < 2 * 2 ^ j - 1) : loN x ≤ hiN x ∧ hiN x < 2 ^ j := by
  have hh : ((List.range 7).all fun j => (List.range (2 * 2 ^ j - 1)).all fun x => decide (loN x ≤ hiN x ∧ hiN x < 2 ^ j)) = true := by kernel_rfl
  exact of_decide_eq_true (all_lt (all_lt hh j hj) x hx)
theorem kids_at {x : Nat} (hx : x < 127) (h : x % 2 = 1) : loN (lN x) = loN x ∧ hiN (rN x) = hiN x ∧ hiN (lN x) + 1 = loN (rN x) := by
  have hh : ((List.range 127).all fun x => decide (x % 2 = 1 → loN (lN x) = loN x ∧ hiN (rN x) = hiN x ∧ hiN (lN x) + 1 = loN (rN x))) = true := by kernel_rfl
  exact of_decide_eq_true (all_lt hh x hx) h
theorem pathV_nat {t : List Nd} {j i : Nat} (hj : j < 11) (hl : t.length = 2 * 2 ^ j - 1) (hi : i < 2 ^ j) : pathV t (i : Int) = (pathN j i).map fun (x : Nat) => (x : Int) := by
  have hc := cnt_of hl
  have hn : isN (2 * (i : Int)) (cnt t : Nat) = true := by
    rw [hc, show 2 * (i : Int) = ((2 * i : Nat) : Int) by omega]
    exact isN_of hj (by omega)
  unfold pathV pathN
  rw [if_pos hn, hc, show 2 * (i : Int) = ((2 * i : Nat) : Int) by omega, Int.toNat_natCast, List.map_map]
  rfl
theorem mem_pathV {t : List Nd} {j i x : Nat} (hj : j < 7) (hl : t.length = 2 * 2 ^ j - 1) (hi : i < 2 ^ j) (hx : x < t.length) : (x : Int) ∈ pathV t (i : Int) ↔ x % 2 = 1 ∧ loN x ≤ i ∧ i ≤ hiN x := by
  rw [pathV_nat (by omega) hl hi, ← path_iff hj hi (by omega)]
  constructor
  · intro h
    obtain ⟨y, hy, e⟩ := List.mem_map.1 h
    obtain rfl : y = x := by omega
    exact hy
  · exact fun h => List.mem_map.2 ⟨x, h, rfl⟩
/-- Any path's nodes are the tree's. -/
theorem ups_in {j : Nat} (hj : j < 11) : ∀ f x, x < 2 * 2 ^ j - 1 → ∀ q ∈ upsF f x (2 ^ j), q.2 < 2 * 2 ^ j - 1
  | 0, x, _, q, hq => by simp [upsF] at hq
  | f + 1, x, hx, q, hq => by
    rw [upsF] at hq; split at hq
    · simp at hq
    · have hu := (up_node j hj x hx ‹_›).1
      rcases List.mem_cons.1 hq with rfl | hq
      · exact hu
      · exact ups_in hj f _ hu q hq
theorem pathV_in {t : List Nd} (h : okS t) {i : Int} (h0 : 0 ≤ i) (hi : i < (cnt t : Int)) : ∀ x ∈ pathV t i, 0 ≤ x ∧ x < (t.length : Int) := by
  obtain ⟨j, hj, hl⟩ := h
  obtain ⟨i, rfl⟩ := Int.eq_ofNat_of_zero_le h0
  have hc := cnt_of hl
  rw [pathV_nat hj hl (by omega)]
  intro x hx
  obtain ⟨y, hy, rfl⟩ := List.mem_map.1 hx
  unfold pathN at hy
  obtain ⟨q, hq, rfl⟩ := List.mem_map.1 hy
  have := ups_in hj _ (2 * i) (by omega) q hq
  omega
/-! trees, place by place -/
theorem rd_set {t : List Nd} {x y : Int} {n : Nd} (h : 0 ≤ x ∧ x < (t.length : Int)) (hy : 0 ≤ y) : rd (setN t y n) x = if x = y then n else rd t x := by
  obtain ⟨x, rfl⟩ := Int.eq_ofNat_of_zero_le h.1
  obtain ⟨y, rfl⟩ := Int.eq_ofNat_of_zero_le hy
  rw [rd_nat, rd_nat, setN, Int.toNat_natCast, List.getD_eq_getElem?_getD, List.getD_eq_getElem?_getD, List.getElem?_set]
  by_cases e : y = x
  · subst e; rw [if_pos rfl, if_pos (by omega), if_pos rfl]; rfl
  · rw [if_neg e, if_neg (by omega)]
theorem len_set {t : List Nd} {y : Int} {n : Nd} : (setN t y n).length = t.length := by simp [setN]
theorem rd_blanks {x : Int} : ∀ {l : List Int} {t : List Nd}, (∀ y ∈ l, 0 ≤ y) → 0 ≤ x ∧ x < (t.length : Int) → rd (l.foldl (fun t y => setN t y blankN) t) x = if x ∈ l then blankN else rd t x
  | [], t, _, _ => by simp
  | y :: l, t, hl, hx => by
    rw [List.foldl_cons, rd_blanks (fun z hz => hl z (by simp [hz])) (by rw [len_set]; exact hx), rd_set hx (hl y (by simp))]
    by_cases h1 : x ∈ l
    · rw [if_pos h1, if_pos (by simp [h1])]
    · rw [if_neg h1]
      by_cases h2 : x = y
      · rw [if_pos h2, if_pos (by simp [h2])]
      · rw [if_neg h2, if_neg (by simp [h1, h2])]
theorem rd_blankV {t : List Nd} {i x : Int} (hp : ∀ y ∈ pathV t i, 0 ≤ y ∧ y < (t.length : Int)) (hx : 0 ≤ x ∧ x < (t.length : Int)) : rd (blankV t i) x = if x ∈ pathV t i then blankN else rd t x :=
  rd_blanks (fun y hy => (hp y hy).1) hx
/-! rows that rise -/
theorem unB_iff {t : List Nd} {lo hi : Int} {l : List Int} : unB t lo hi l = true ↔ l.Pairwise (· < ·) ∧ ∀ u ∈ l, lo ≤ u ∧ u ≤ hi ∧ (rd t (2 * u)).kind = 1 := by
  have hget : ∀ q (h : q < l.length), rd l (q : Int) = l[q] := fun q h => by rw [rd_nat, List.getD_eq_getElem?_getD, List.getElem?_eq_getElem h]; rfl
  constructor
  · intro h
    have hu : ∀ q, q < l.length → unAt t lo hi l q = true := fun q hq => unB_at h hq
    simp only [unAt, Bool.and_eq_true, Bool.or_eq_true, decide_eq_true_iff] at hu
    refine ⟨List.pairwise_iff_getElem.2 fun p q hp hq hpq => ?_, fun u hu' => ?_⟩
    · have key : ∀ q, q < l.length → ∀ p, p < q → rd l (p : Int) < rd l (q : Int) := by
        intro q
        induction q with
        | zero => intro _ p hp; omega
        | succ q ih =>
          intro hq p hp
          have h1 := (hu (q + 1) hq).2.resolve_left (by omega)
          rw [show ((q + 1 : Nat) : Int) - 1 = (q : Int) by omega] at h1
          by_cases hpq : p = q
          · subst hpq; exact h1
          · have := ih (by omega) p (by omega); omega
      have := key q hq p hpq
      rwa [hget p hp, hget q hq] at this
    · obtain ⟨q, hq, rfl⟩ := List.getElem_of_mem hu'
      have := (hu q hq).1
      rw [hget q hq] at this
      exact ⟨this.1.1, this.1.2, this.2⟩
  · rintro ⟨h1, h2⟩
    refine unB_of fun q hq => ?_
    simp only [unAt, Bool.and_eq_true, Bool.or_eq_true, decide_eq_true_iff]
    have := h2 _ (List.getElem_mem hq)
    rw [hget q hq]
    refine ⟨⟨⟨this.1, this.2.1⟩, this.2.2⟩, ?_⟩
    cases q with
    | zero => exact .inl rfl
    | succ q =>
      right
      rw [show ((q + 1 : Nat) : Int) - 1 = (q : Int) by omega, hget q (by omega)]
      exact List.pairwise_iff_getElem.1 h1 q (q + 1) (by omega) hq (by omega)
theorem mem_put {n u : Int} : ∀ {l : List Int}, u ∈ putV n l ↔ u = n ∨ u ∈ l
  | [] => by simp [putV]
  | a :: l => by
    rw [putV]; split
    · simp
    · rw [List.mem_cons, mem_put, List.mem_cons]; grind
theorem put_rise {n : Int} : ∀ {l : List Int}, l.Pairwise (· < ·) → n ∉ l → (putV n l).Pairwise (· < ·)
  | [], _, _ => by simp [putV]
  | a :: l, h, hn => by
    rw [List.pairwise_cons] at h
    rw [putV]; split
    · rw [List.pairwise_cons, List.pairwise_cons]
      refine ⟨fun b hb => ?_, h⟩
      rcases List.mem_cons.1 hb with rfl | hb
      · omega
      · have := h.1 b hb; omega
    · rw [List.pairwise_cons]
      simp only [List.mem_cons, not_or] at hn
      refine ⟨fun b hb => ?_, put_rise h.2 hn.2⟩
      rcases mem_put.1 hb with rfl | hb
      · omega
      · exact h.1 b hb
theorem put_len {n : Int} : ∀ {l : List Int}, (putV n l).length = l.length + 1
  | [] => rfl
  | a :: l => by rw [putV]; split <;> simp [put_len]
/-! right trees -/
/-- A node that is right, at its place. -/
theorem whole_iff {t : List Nd} {x : Int} : wholeB t x = true ↔ rd t x = blankN ∨ ((rd t x).kind = 1 ∧ isNm (rd t x).name (rd t x).pub = true ∧ ((rd t x).hash.length = 0 ∨ (rd t x).hash.length = 32) ∧ x % 2 = 0 ∧ (rd t x).un = []) ∨
    ((rd t x).kind = 2 ∧ isNm (rd t x).name (rd t x).pub = true ∧ ((rd t x).hash.length = 0 ∨ (rd t x).hash.length = 32) ∧ x % 2 = 1 ∧ (rd t x).name = 0 ∧ unB t (leavesV x).1 (leavesV x).2 (rd t x).un = true) := by
  by_cases h0 : (rd t x).kind = 0
  · rw [wh0 h0, decide_eq_true_iff]
    constructor
    · exact .inl
    · rintro (h | h | h)
      · exact h
      · omega
      · omega
  · have hb : rd t x ≠ blankN := fun e => h0 (by rw [e]; rfl)
    by_cases h1 : (rd t x).kind = 1
    · rw [wh1 h1]
      simp only [Bool.and_eq_true, Bool.or_eq_true, decide_eq_true_iff, List.length_eq_zero_iff]
      constructor
      · rintro ⟨⟨⟨a, b⟩, c⟩, d⟩; exact .inr (.inl ⟨h1, a, b, c, d⟩)
      · rintro (h | ⟨_, a, b, c, d⟩ | h)
        · exact absurd h hb
        · exact ⟨⟨⟨a, b⟩, c⟩, d⟩
        · omega
    · by_cases h2 : (rd t x).kind = 2
      · rw [wh2 h2]
        simp only [Bool.and_eq_true, Bool.or_eq_true, decide_eq_true_iff, List.length_eq_zero_iff]
        constructor
        · rintro ⟨⟨⟨⟨a, b⟩, c⟩, d⟩, e⟩; exact .inr (.inr ⟨h2, a, b, c, d, e⟩)
        · rintro (h | h | ⟨_, a, b, c, d, e⟩)
          · exact absurd h hb
          · omega
          · exact ⟨⟨⟨⟨a, b⟩, c⟩, d⟩, e⟩
      · rw [whN h0 h1 h2]
        constructor
        · simp
        · rintro (h | h | h)
          · exact absurd h hb
          · omega
          · omega
structure RT (t : List Nd) (j : Nat) : Prop where
  hj : j < 11
  len : t.length = 2 * 2 ^ j - 1
  wh : ∀ x : Nat, x < t.length → wholeB t (x : Int) = true
  nm : ∀ x y : Nat, x < t.length → y < t.length → (rd t (x : Int)).kind = 1 → (rd t (y : Int)).kind = 1 → (rd t (x : Int)).name = (rd t (y : Int)).name → x = y
  ne : ∃ x : Nat, x < t.length ∧ (rd t (x : Int)).kind = 1
theorem had_nd {t : List Nd} : ∀ {k : Nat}, (had t k).Nodup ↔ ∀ x y : Nat, x < k → y < k → (rd t (x : Int)).kind = 1 → (rd t (y : Int)).kind = 1 → (rd t (x : Int)).name = (rd t (y : Int)).name → x = y
  | 0 => by simp [had]
  | k + 1 => by
    constructor
    · intro h x y hx hy h1 h2 he
      have hk : ∀ z : Nat, z < k → (rd t (z : Int)).kind = 1 → (rd t (k : Int)).kind = 1 → (rd t (z : Int)).name = (rd t (k : Int)).name → False := fun z hz g1 g2 g3 => by
        rw [had_yes g2, List.nodup_append] at h
        exact h.2.2 _ (mem_had.2 ⟨z, hz, g1, g3⟩) _ (List.mem_singleton.2 rfl) rfl
      have hn := had_nodup (m := 1) h
      by_cases e1 : x = k
      · by_cases e2 : y = k
        · omega
        · subst e1; exact (hk y (by omega) h2 h1 he.symm).elim
      · by_cases e2 : y = k
        · subst e2; exact (hk x (by omega) h1 h2 he).elim
        · exact had_nd.1 hn x y (by omega) (by omega) h1 h2 he
    · intro h
      refine had_step (had_nd.2 fun x y hx hy => h x y (by omega) (by omega)) fun h1 hm => ?_
      obtain ⟨y, hy, g1, g2⟩ := mem_had.1 hm
      have := h y k (by omega) (by omega) g1 h1 g2
      omega
theorem right_iff {t : List Nd} : rightB t = true ↔ ∃ j, RT t j := by
  constructor
  · intro h
    simp only [rightB, Bool.and_eq_true, decide_eq_true_iff] at h
    obtain ⟨⟨⟨⟨h1, h2⟩, h3⟩, h4⟩, h5⟩ := h
    obtain ⟨j, hj, hc⟩ := isT_pow h1
    have hb := two_pow_bound hj
    refine ⟨j, hj, by omega, fun x hx => wholeA_at h3 hx, had_nd.1 h4, ?_⟩
    obtain ⟨n, hn⟩ := List.exists_mem_of_ne_nil _ h5
    obtain ⟨y, hy, g1, _⟩ := mem_had.1 hn
    exact ⟨y, hy, g1⟩
  · rintro ⟨j, h⟩
    have hc := cnt_of h.len
    have hb := two_pow_bound h.hj
    obtain ⟨x, hx, hk⟩ := h.ne
    have hne : had t t.length ≠ [] := List.ne_nil_of_mem (mem_had.2 ⟨x, hx, hk, rfl⟩)
    simp only [rightB, Bool.and_eq_true, decide_eq_true_iff]
    exact ⟨⟨⟨⟨by rw [hc]; exact isT_of h.hj, by rw [hc, h.len]⟩, wholeA_of h.wh⟩, had_nd.2 h.nm⟩, hne⟩
end Go.Proofs.Mth
end
section
/- Trees: a leaf that is added: the program and its reference. -/
set_option linter.unusedVariables false
set_option linter.unusedSimpArgs false
set_option maxRecDepth 100000
set_option maxHeartbeats 4000000
namespace Go.Proofs.Mth
open Go Go.Pv Go.Proofs Go.Shelf
/-- A node over a leaf that comes. -/
def upS (i : Int) (n : Nd) : Nd := if n.kind = 2 then { n with un := putV i n.un } else n
def addS (i : Int) (o : List Nd) (x : Int) : List Nd := setN o x (upS i (rd o x))
/-- The tree that has room. -/
def growT (t : List Nd) : List Nd := t ++ List.replicate (if freeN t = cnt t then 2 * cnt t else 0) blankN
def addO (t : List Nd) (name : Int) (pub : List UInt8) : List Nd :=
  (pathV (growT t) (freeN t : Nat)).foldl (addS (freeN t : Nat)) (setN (growT t) (2 * (freeN t : Nat)) (leafN name pub))
def addV (t : List Nd) (name : Int) (pub : List UInt8) : List Nd × Int × Int :=
  if isNm name pub = false then (t, 0, 1) else if (findV t name).2 = true then (t, 0, 12) else if (freeN t : Int) = 1024 then (t, 0, 4) else (addO t name pub, (freeN t : Nat), 0)
theorem freeN_le (t : List Nd) : freeN t ≤ cnt t := by
  unfold freeN
  cases h : (List.range (cnt t)).find? fun i => decide ((lf t i).kind = 0) with
  | none => exact Nat.le_refl _
  | some i =>
    have := List.mem_of_find?_eq_some h
    have := List.mem_range.1 this
    simp only [Option.getD_some]; omega
theorem grow_len (t : List Nd) : (growT t).length = t.length + (if freeN t = cnt t then 2 * cnt t else 0) := by simp [growT]
theorem grow_okS {t : List Nd} (h : okS t) (h1 : ¬ (freeN t : Int) = 1024) : okS (growT t) ∧ freeN t < cnt (growT t) := by
  obtain ⟨j, hj, hl⟩ := h
  have hc := cnt_of hl
  have hb := two_pow_bound hj
  have hf := freeN_le t
  by_cases hg : freeN t = cnt t
  · have hj10 : j ≠ 10 := by rintro rfl; rw [hg, hc] at h1; exact h1 rfl
    have e : 2 ^ (j + 1) = 2 * 2 ^ j := Nat.pow_succ'
    have hl2 : (growT t).length = 2 * 2 ^ (j + 1) - 1 := by rw [grow_len, if_pos hg]; omega
    exact ⟨⟨j + 1, by omega, hl2⟩, by rw [cnt_of hl2]; omega⟩
  · have hl2 : (growT t).length = 2 * 2 ^ j - 1 := by rw [grow_len, if_neg hg]; omega
    exact ⟨⟨j, hj, hl2⟩, by rw [cnt_of hl2]; omega⟩
/-- Rows of leaves rise, and are few. -/
def okW (m : Nat) (t : List Nd) : Prop := ∀ n ∈ t, Srt n.un ∧ n.un.length ≤ m
theorem put_srt {n : Int} {l : List Int} (h : Srt l) : Srt (putV n l) := by
  have hp : ∀ {l : List Int}, Srt l ↔ l.Pairwise (· ≤ ·) := fun {l} => by
    have hget : ∀ q (h : q < l.length), rd l (q : Int) = l[q] := fun q h => by rw [rd_nat, List.getD_eq_getElem?_getD, List.getElem?_eq_getElem h]; rfl
    constructor
    · exact fun h => List.pairwise_iff_getElem.2 fun p q hp hq hpq => by have := h p q hpq hq; rwa [hget p hp, hget q hq] at this
    · intro h p q hpq hq
      rw [hget p (by omega), hget q hq]
      exact List.pairwise_iff_getElem.1 h p q (by omega) hq hpq
  rw [hp] at h ⊢
  induction l with
  | nil => simp [putV]
  | cons a l ih =>
    rw [List.pairwise_cons] at h
    rw [putV]; split
    · rw [List.pairwise_cons, List.pairwise_cons]
      refine ⟨fun b hb => ?_, h⟩
      rcases List.mem_cons.1 hb with rfl | hb
      · omega
      · have := h.1 b hb; omega
    · rw [List.pairwise_cons]
      refine ⟨fun b hb => ?_, ih h.2⟩
      rcases mem_put.1 hb with rfl | hb
      · omega
      · exact h.1 b hb
theorem okW_set {m : Nat} {t : List Nd} {x : Int} {n : Nd} (h : okW m t) (hn : Srt n.un ∧ n.un.length ≤ m) : okW m (setN t x n) := fun y hy => by
  rcases List.mem_or_eq_of_mem_set hy with hy | rfl
  · exact h y hy
  · exact hn
theorem okW_add {m : Nat} {o : List Nd} {i x : Int} (h : okW m o) (hx : 0 ≤ x ∧ x < (o.length : Int)) : okW (m + 1) (addS i o x) := by
  have h1 := h _ (rd_mem hx)
  refine okW_set (fun y hy => ⟨(h y hy).1, by have := (h y hy).2; omega⟩) ?_
  unfold upS; split
  · exact ⟨put_srt h1.1, by rw [put_len]; omega⟩
  · exact ⟨h1.1, by omega⟩
theorem tcountO {Z : Nat → Go.Obj → Prop} (H : ZT Z) (id n : Nat) (hn : n ≤ 1000000) (L : List Go.Pv.Obj) : SE Tryd.prog Z 45 [.own id 0 n n] L (.int .i64 (((n : Int) + 1) / 2)) L := by
  refine SE.full H.z Tryd.func45 rfl ?_
  repeat' first | refine go ?_ | (refine sp ?_ ?_ <;> intro h) | intro b
  exact K.fin rfl ⟨rfl, rfl⟩
theorem tpathO {Z : Nat → Go.Obj → Prop} (H : ZT Z) {t : List Nd} {id n : Nat} (h : t.length = n) {i : Int} (hn : n ≤ 1000000) (hi : 0 ≤ i ∧ i ≤ 1000000) (L : List Go.Pv.Obj) : SE Tryd.prog Z 57 [.own id 0 n n, .int .i64 i] L (gI (pathV t i)) L := by
  have k1 := tcountO H id n hn
  refine SE.full H.z Tryd.func57 rfl ?_
  repeat' first | refine go ?_ | (refine sp ?_ ?_ <;> intro h) | intro b
  refine K.fin rfl ⟨?_, rfl⟩
  show gI _ = gI _
  rw [← way_pathV]
  have : ((cnt t : Nat) : Int) = ((n : Int) + 1) / 2 := by unfold cnt; omega
  rw [this]
theorem rcountO {Z : Nat → Go.Obj → Prop} (H : ZT Z) (id n : Nat) (hn : n ≤ 1000000) (L : List Go.Pv.Obj) : SE Tryd.prog Z 26 [.own id 0 n n] L (.int .i64 (((n : Int) + 1) / 2)) L := by
  refine SE.full H.z Tryd.func26 rfl ?_
  repeat' first | refine go ?_ | (refine sp ?_ ?_ <;> intro h) | intro b
  exact K.fin rfl ⟨rfl, rfl⟩
theorem rpathO {Z : Nat → Go.Obj → Prop} (H : ZT Z) {t : List Nd} {id n : Nat} (h : t.length = n) {i : Int} (hn : n ≤ 1000000) (hi : 0 ≤ i ∧ i ≤ 1000000) (L : List Go.Pv.Obj) : SE Tryd.prog Z 63 [.own id 0 n n, .int .i64 i] L (gI (pathV t i)) L := by
  have k1 := rcountO H id n hn
  refine SE.full H.z Tryd.func63 rfl ?_
  repeat' first | refine go ?_ | (refine sp ?_ ?_ <;> intro h) | intro b
  refine K.fin rfl ⟨?_, rfl⟩
  show gI _ = gI _
  rw [← way_pathV]
  have : ((cnt t : Nat) : Int) = ((n : Int) + 1) / 2 := by unfold cnt; omega
  rw [this]
instance cloneI : CC Tryd.prog 60 (∀ (l : List Int), l.length ≤ 1000000 → O 60 [gI l] 1 l.length (l.map (V.int .i64))) := ⟨fun l h1 => by
  refine co Tryd.func60 fun {Z} H => ?_
  repeat' first | refine go ?_ | (refine sp ?_ ?_ <;> intro h) | intro b
  · obtain rfl := ‹_ → _› ‹_›
    exact finG
  · exact finO⟩
instance add : CC Tryd.prog 30 (∀ (t : List Nd) (name : Int) (pub : List UInt8), okS t → okW 1000 t → pub.length ≤ 1000000 → C 30 [gT t, .int .i64 name, gB pub] (.tup [gT (addV t name pub).1, .int .i64 (addV t name pub).2.1, .int .i64 (addV t name pub).2.2])) := ⟨fun t name pub h1 h2 h3 => by
  refine ct Tryd.func30 fun {Z} H => ?_
  have hS := h1
  obtain ⟨j, hj, hlen⟩ := h1
  have hb := two_pow_bound hj
  have hct := cnt_of hlen
  have hf := freeN_le t
  by_cases hn : isNm name pub = true
  · by_cases hh : (findV t name).2 = true
    · have e : addV t name pub = (t, 0, 12) := by unfold addV; rw [if_neg (by simp [hn]), if_pos hh]
      rw [e]
      repeat' first | refine go ?_ | (refine sp ?_ ?_ <;> intro h) | intro b
      exact fin rfl
    · by_cases h4 : (freeN t : Int) = 1024
      · have e : addV t name pub = (t, 0, 4) := by unfold addV; rw [if_neg (by simp [hn]), if_neg hh, if_pos h4]
        rw [e]
        repeat' first | refine go ?_ | (refine sp ?_ ?_ <;> intro h) | intro b
        exact fin rfl
      · have e : addV t name pub = (addO t name pub, ((freeN t : Nat) : Int), 0) := by unfold addV; rw [if_neg (by simp [hn]), if_neg hh, if_neg h4]
        rw [e]
        obtain ⟨hG, hfG⟩ := grow_okS hS h4
        have hpin := pathV_in hG (i := (freeN t : Nat)) (by omega) (by omega)
        have hgl := grow_len t
        have k1 := tpathO H (t := growT t) (id := 0) rfl (i := (freeN t : Nat)) (by rw [hgl]; split <;> omega) (by omega)
        have hW0 : okW 1000 (growT t) := fun n hn => by
          rcases List.mem_append.1 hn with hn | hn
          · exact h2 n hn
          · rw [List.eq_of_mem_replicate hn]; exact ⟨fun p q _ hq => by simp [blankN] at hq, by simp [blankN]⟩
        have hul : (growT t).length ≤ 10000 := by rw [hgl]; split <;> omega
        have hfu := lf_at hfG
        have go1 : addO t name pub = (pathV (growT t) (freeN t : Nat)).foldl (addS (freeN t : Nat)) (setN (growT t) (2 * (freeN t : Nat)) (leafN name pub)) := rfl
        have eg1 : freeN t = cnt t → t ++ List.replicate (2 * cnt t) blankN = growT t := fun hg => by rw [growT, if_pos hg]
        have eg2 : ¬ freeN t = cnt t → t = growT t := fun hg => by rw [growT, if_neg hg]; simp
        rw [go1]
        clear hgl go1 e
        generalize growT t = u at *
        have hpl := pathV_len u (freeN t : Nat)
        by_cases hg : freeN t = cnt t
        · repeat' first | refine go ?_ | (refine sp ?_ ?_ <;> intro h) | intro b
          refine X.apz (g := gN) (l := t) blankN (2 * cnt t) ?_ (congrArg (V.int .i64) (by omega)) (by omega) (by omega)
          rw [eg1 hg]
          repeat' first | refine go ?_ | (refine sp ?_ ?_ <;> intro h) | intro b
          generalize freeN t = f at *
          clear eg1 eg2 k1
          generalize hpe : pathV u (f : Int) = pa at *
          generalize hoe : setN u (2 * (f : Int)) (leafN name pub) = o0 at *
          have hol : o0.length = u.length := by rw [← hoe]; exact len_set
          have hoW : okW 1000 o0 := by rw [← hoe]; exact okW_set hW0 ⟨fun p q _ hq => by simp [leafN] at hq, by simp [leafN]⟩
          refine W.loop (fun s : Nat × List Nd => [(13, .own 0 0 u.length u.length), (11, .int .i64 f), (59, gI pa), (60, .int .i64 (pa.length : Nat)), (61, .int .i64 s.1)]) (fun s => [.buf 5 0 (s.2.map gN)]) (fun s => s.1 ≤ pa.length ∧ s.2.length = u.length ∧ okW (1000 + s.1) s.2 ∧ s.2 = (pa.take s.1).foldl (addS f) o0) (fun s => pa.length - s.1) (0, o0) ⟨Nat.zero_le _, hol, hoW, rfl⟩ ?_ (hL := by rw [← hoe]; rfl)
          rintro ⟨k, o⟩ env ⟨hk, hl, hW, ho⟩
          dsimp only at *
          have hx : k < pa.length → 0 ≤ rd pa (k : Int) ∧ rd pa (k : Int) < (u.length : Int) := fun h => hpin _ (rd_mem (by omega))
          have hSr : k < pa.length → Srt (rd o (rd pa (k : Int))).un ∧ (rd o (rd pa (k : Int))).un.length ≤ 1000 + k := fun h => hW _ (rd_mem (by have := hx h; omega))
          have hst : k < pa.length → (pa.take (k + 1)).foldl (addS f) o0 = addS f o (rd pa (k : Int)) := fun h => by rw [foldl_step h, ← ho]
          by_cases hkl : k < pa.length
          · have hx := hx hkl
            obtain ⟨hS1, hS2⟩ := hSr hkl
            have hst := hst hkl
            have hlb := lb_le (rd o (rd pa (k : Int))).un (f : Int)
            have hW' := okW_add (i := (f : Int)) hW (x := rd pa (k : Int)) (by omega)
            have hip := ins_put (x := (f : Int)) hS1
            repeat' first | refine go ?_ | (refine sp ?_ ?_ <;> intro h) | intro b
            · have e : addS (f : Int) o (rd pa (k : Int)) = o := by
                rw [addS, upS, if_neg h, setN]
                have h5 := rd_get (l := o) (i := rd pa (k : Int)) (by omega)
                exact List.set_self h5
              rw [e] at hst hW'
              exact lp (k + 1, o) ⟨by dsimp only; omega, hl, hW', hst.symm⟩ (by dsimp only; omega)
            · refine X.sta { rd o (rd pa (k : Int)) with un := insV (rd o (rd pa (k : Int))).un ((lbV (rd o (rd pa (k : Int))).un (f : Int) : Nat) : Int).toNat (f : Int) } ?_
              have e : o.set (rd pa (k : Int)).toNat { rd o (rd pa (k : Int)) with un := insV (rd o (rd pa (k : Int))).un ((lbV (rd o (rd pa (k : Int))).un (f : Int) : Nat) : Int).toNat (f : Int) } = addS (f : Int) o (rd pa (k : Int)) := by
                rw [addS, upS, if_pos h, Int.toNat_natCast, hip]; rfl
              rw [e]
              repeat' first | refine go ?_ | (refine sp ?_ ?_ <;> intro h) | intro b
              exact lp (k + 1, addS (f : Int) o (rd pa (k : Int))) ⟨by dsimp only; omega, by rw [← hl]; exact len_set, hW', hst.symm⟩ (by dsimp only; omega)
          · repeat' first | refine go ?_ | (refine sp ?_ ?_ <;> intro h) | intro b
            rw [List.take_of_length_le (by omega)] at ho
            rw [← ho]
            exact fin rfl
        · obtain rfl : u = t := (eg2 hg).symm
          repeat' first | refine go ?_ | (refine sp ?_ ?_ <;> intro h) | intro b
          generalize freeN u = f at *
          clear eg1 eg2 k1
          generalize hpe : pathV u (f : Int) = pa at *
          generalize hoe : setN u (2 * (f : Int)) (leafN name pub) = o0 at *
          have hol : o0.length = u.length := by rw [← hoe]; exact len_set
          have hoW : okW 1000 o0 := by rw [← hoe]; exact okW_set hW0 ⟨fun p q _ hq => by simp [leafN] at hq, by simp [leafN]⟩
          refine W.loop (fun s : Nat × List Nd => [(13, .own 0 0 u.length u.length), (11, .int .i64 f), (59, gI pa), (60, .int .i64 (pa.length : Nat)), (61, .int .i64 s.1)]) (fun s => [.buf 5 0 (s.2.map gN)]) (fun s => s.1 ≤ pa.length ∧ s.2.length = u.length ∧ okW (1000 + s.1) s.2 ∧ s.2 = (pa.take s.1).foldl (addS f) o0) (fun s => pa.length - s.1) (0, o0) ⟨Nat.zero_le _, hol, hoW, rfl⟩ ?_ (hL := by rw [← hoe]; rfl)
          rintro ⟨k, o⟩ env ⟨hk, hl, hW, ho⟩
          dsimp only at *
          have hx : k < pa.length → 0 ≤ rd pa (k : Int) ∧ rd pa (k : Int) < (u.length : Int) := fun h => hpin _ (rd_mem (by omega))
          have hSr : k < pa.length → Srt (rd o (rd pa (k : Int))).un ∧ (rd o (rd pa (k : Int))).un.length ≤ 1000 + k := fun h => hW _ (rd_mem (by have := hx h; omega))
          have hst : k < pa.length → (pa.take (k + 1)).foldl (addS f) o0 = addS f o (rd pa (k : Int)) := fun h => by rw [foldl_step h, ← ho]
          by_cases hkl : k < pa.length
          · have hx := hx hkl
            obtain ⟨hS1, hS2⟩ := hSr hkl
            have hst := hst hkl
            have hlb := lb_le (rd o (rd pa (k : Int))).un (f : Int)
            have hW' := okW_add (i := (f : Int)) hW (x := rd pa (k : Int)) (by omega)
            have hip := ins_put (x := (f : Int)) hS1
            repeat' first | refine go ?_ | (refine sp ?_ ?_ <;> intro h) | intro b
            · have e : addS (f : Int) o (rd pa (k : Int)) = o := by
                rw [addS, upS, if_neg h, setN]
                have h5 := rd_get (l := o) (i := rd pa (k : Int)) (by omega)
                exact List.set_self h5
              rw [e] at hst hW'
              exact lp (k + 1, o) ⟨by dsimp only; omega, hl, hW', hst.symm⟩ (by dsimp only; omega)
            · refine X.sta { rd o (rd pa (k : Int)) with un := insV (rd o (rd pa (k : Int))).un ((lbV (rd o (rd pa (k : Int))).un (f : Int) : Nat) : Int).toNat (f : Int) } ?_
              have e : o.set (rd pa (k : Int)).toNat { rd o (rd pa (k : Int)) with un := insV (rd o (rd pa (k : Int))).un ((lbV (rd o (rd pa (k : Int))).un (f : Int) : Nat) : Int).toNat (f : Int) } = addS (f : Int) o (rd pa (k : Int)) := by
                rw [addS, upS, if_pos h, Int.toNat_natCast, hip]; rfl
              rw [e]
              repeat' first | refine go ?_ | (refine sp ?_ ?_ <;> intro h) | intro b
              exact lp (k + 1, addS (f : Int) o (rd pa (k : Int))) ⟨by dsimp only; omega, by rw [← hl]; exact len_set, hW', hst.symm⟩ (by dsimp only; omega)
          · repeat' first | refine go ?_ | (refine sp ?_ ?_ <;> intro h) | intro b
            rw [List.take_of_length_le (by omega)] at ho
            rw [← ho]
            exact fin rfl
  · have e : addV t name pub = (t, 0, 1) := by unfold addV; rw [if_pos (by simpa using hn)]
    rw [e]
    repeat' first | refine go ?_ | (refine sp ?_ ?_ <;> intro h) | intro b
    exact fin rfl⟩
end Go.Proofs.Mth
end
section
/- Trees: the reference of a leaf that is added. -/
set_option linter.unusedVariables false
set_option linter.unusedSimpArgs false
set_option maxRecDepth 100000
set_option maxHeartbeats 4000000
namespace Go.Proofs.Mth
open Go Go.Pv Go.Proofs Go.Shelf
theorem free_is {t : List Nd} {i : Nat} (hi : i ≤ cnt t) (hq : ∀ q, q < i → ¬ (lf t q).kind = 0) (h : i < cnt t → (lf t i).kind = 0) : freeN t = i := by
  by_cases hc : i < cnt t
  · rw [freeN, find_some (i := i) hc (by simp [h hc]) (fun q hq' => by simp [hq q hq'])]; rfl
  · rw [freeN, find_none (fun q hq' => by simp [hq q (by omega)])]; show cnt t = i; omega
theorem grow_m (t : List Nd) {M : Nat} (h : M = if freeN t = cnt t then 2 * cnt t else 0) : t ++ List.replicate M blankN = growT t := by rw [growT, ← h]
instance rAdd : CC Tryd.prog 32 (∀ (t : List Nd) (name : Int) (pub : List UInt8), okS t → okW 1000 t → pub.length ≤ 1000000 → C 32 [gT t, .int .i64 name, gB pub] (.tup [gT (addV t name pub).1, .int .i64 (addV t name pub).2.1, .int .i64 (addV t name pub).2.2])) := ⟨fun t name pub h1 h2 h3 => by
  refine ct Tryd.func32 fun {Z} H => ?_
  have hS := h1
  obtain ⟨j, hj, hlen⟩ := h1
  have hb := two_pow_bound hj
  have hct := cnt_of hlen
  have hf := freeN_le t
  by_cases hn : isNm name pub = true
  · by_cases hh : (findV t name).2 = true
    · have e : addV t name pub = (t, 0, 12) := by unfold addV; rw [if_neg (by simp [hn]), if_pos hh]
      rw [e]
      repeat' first | refine go ?_ | (refine sp ?_ ?_ <;> intro h) | intro b
      exact fin rfl
    · repeat' first | refine go ?_ | (refine sp ?_ ?_ <;> intro h) | intro b
      refine W.loop (fun i : Nat => [(0, gT t), (1, .int .i64 name), (2, gB pub), (12, .int .i64 i)]) (fun _ => []) (fun i => i ≤ cnt t ∧ ∀ q, q < i → ¬ (lf t q).kind = 0) (fun i => cnt t - i) 0 ⟨Nat.zero_le _, fun q hq => absurd hq (Nat.not_lt_zero q)⟩ ?_
      rintro i env ⟨hi, hq⟩
      have hx : i < cnt t → 2 * i < t.length := lf_at
      by_cases hgo : i < cnt t ∧ ¬ (lf t i).kind = 0
      · obtain ⟨hg1, hg2⟩ := hgo
        have hx := hx hg1
        have hg2 : ¬ (rd t (2 * (i : Int))).kind = 0 := hg2
        repeat' first | refine go ?_ | (refine sp ?_ ?_ <;> intro h) | intro b
        exact lp (i + 1) ⟨by omega, fun q hq' => by by_cases e : q = i; (subst e; assumption); exact hq q (by omega)⟩ (by omega)
      · have hfi : freeN t = i := free_is hi hq (fun hc => by by_cases h0 : (lf t i).kind = 0; assumption; exact absurd ⟨hc, h0⟩ hgo)
        have hg2 : i < cnt t → (rd t (2 * (i : Int))).kind = 0 := fun hc => by by_cases h0 : (lf t i).kind = 0; exact h0; exact absurd ⟨hc, h0⟩ hgo
        by_cases h4 : (freeN t : Int) = 1024
        · have e : addV t name pub = (t, 0, 4) := by unfold addV; rw [if_neg (by simp [hn]), if_neg hh, if_pos h4]
          rw [e]
          rw [hfi] at h4
          repeat' first | refine go ?_ | (refine sp ?_ ?_ <;> intro h) | intro b
          all_goals first | (exact fin rfl) | trace_state
        · have e : addV t name pub = (addO t name pub, ((freeN t : Nat) : Int), 0) := by unfold addV; rw [if_neg (by simp [hn]), if_neg hh, if_neg h4]
          rw [e]
          obtain ⟨hG, hfG⟩ := grow_okS hS h4
          have hgl := grow_len t
          obtain ⟨M, hM⟩ : ∃ M, M = if freeN t = cnt t then 2 * cnt t else 0 := ⟨_, rfl⟩
          have hMc : (freeN t = cnt t ∧ M = 2 * cnt t) ∨ (¬ freeN t = cnt t ∧ M = 0) := by
            by_cases hz : freeN t = cnt t
            · exact .inl ⟨hz, hM.trans (if_pos hz)⟩
            · exact .inr ⟨hz, hM.trans (if_neg hz)⟩
          rw [← hM] at hgl
          have hgm := grow_m t hM
          rw [hfi] at h4
          clear hM
          have hW0 : okW 1000 (growT t) := fun n hn => by
            rcases List.mem_append.1 hn with hn | hn
            · exact h2 n hn
            · rw [List.eq_of_mem_replicate hn]; exact ⟨fun p q _ hq => by simp [blankN] at hq, by simp [blankN]⟩
          have hul : (growT t).length ≤ 10000 := by omega
          have hfu := lf_at hfG
          have hpin := pathV_in hG (i := (freeN t : Nat)) (by omega) (by omega)
          rw [show addO t name pub = (pathV (growT t) (freeN t : Nat)).foldl (addS (freeN t : Nat)) (setN (growT t) (2 * (freeN t : Nat)) (leafN name pub)) from rfl]
          clear e
          rw [hfi] at hfG hfu hpin hMc ⊢
          have hpl := pathV_len (growT t) (i : Int)
          repeat' first | refine go ?_ | (refine sp ?_ ?_ <;> intro h) | intro b
          all_goals
            refine W.loop (fun m : Nat => [(0, gT t), (1, .int .i64 name), (2, gB pub), (12, .int .i64 i), (13, .own 0 0 (t.length + m) (t.length + m))]) (fun m => [.buf 5 0 ((t ++ List.replicate m blankN).map gN)]) (fun m => m ≤ M) (fun m => M - m) 0 (Nat.zero_le _) ?_ (hL := by rw [List.replicate_zero, List.append_nil]; rfl)
            intro m env hm
            have hml : (t ++ List.replicate m blankN).length = t.length + m := by simp
            by_cases hmM : m < M
            · have hic : (i : Int) = (cnt t : Nat) := by omega
              repeat' first | refine go ?_ | (refine sp ?_ ?_ <;> intro h) | intro b
              refine X.apw (g := gN) (l := t ++ List.replicate m blankN) [blankN] ?_
              rw [show t ++ List.replicate m blankN ++ [blankN] = t ++ List.replicate (m + 1) blankN by rw [List.append_assoc, ← List.replicate_succ'], show (t ++ List.replicate (m + 1) blankN).length = t.length + (m + 1) by simp]
              repeat' first | refine go ?_ | (refine sp ?_ ?_ <;> intro h) | intro b
              exact lp (m + 1) (by omega) (by omega)
            · obtain rfl : m = M := by omega
              have hnot : ¬ ((i : Int) = (cnt t : Nat) ∧ (t.length : Int) + m < 2 * t.length + 1) := by omega
              rw [← hgl, hgm]
              generalize growT t = u at *
              have k1 := rpathO H (t := u) (id := 0) rfl (i := (i : Int)) (by omega) (by omega)
              repeat' first | refine go ?_ | (refine sp ?_ ?_ <;> intro h) | intro b
              all_goals
                refine X.sta (leafN name pub) ?_
                repeat' first | refine go ?_ | (refine sp ?_ ?_ <;> intro h) | intro b
                generalize hpe : pathV u (i : Int) = pa at *
                generalize hoe : setN u (2 * (i : Int)) (leafN name pub) = o0 at *
                have hol : o0.length = u.length := by rw [← hoe]; exact len_set
                have hoW : okW 1000 o0 := by rw [← hoe]; exact okW_set hW0 ⟨fun p q _ hq => by simp [leafN] at hq, by simp [leafN]⟩
                refine W.loop (fun s : Nat × List Nd => [(13, .own 0 0 u.length u.length), (12, .int .i64 i), (14, gI pa), (15, .int .i64 s.1)]) (fun s => [.buf 5 0 (s.2.map gN)]) (fun s => s.1 ≤ pa.length ∧ s.2.length = u.length ∧ okW (1000 + s.1) s.2 ∧ s.2 = (pa.take s.1).foldl (addS i) o0) (fun s => pa.length - s.1) (0, o0) ⟨Nat.zero_le _, hol, hoW, rfl⟩ ?_ (hL := by rw [← hoe]; rfl)
                rintro ⟨k, o⟩ env ⟨hk, hl, hW, ho⟩
                dsimp only at *
                by_cases hkl : k < pa.length
                · have hx := hpin _ (rd_mem (l := pa) (i := (k : Int)) (by omega))
                  have hS2 := (hW _ (rd_mem (l := o) (i := rd pa (k : Int)) (by omega))).2
                  have hst : (pa.take (k + 1)).foldl (addS i) o0 = addS i o (rd pa (k : Int)) := by rw [foldl_step hkl, ← ho]
                  have hW' := okW_add (i := (i : Int)) hW (x := rd pa (k : Int)) (by omega)
                  repeat' first | refine go ?_ | (refine sp ?_ ?_ <;> intro h) | intro b
                  · refine X.sta { rd o (rd pa (k : Int)) with un := putV (i : Int) (rd o (rd pa (k : Int))).un } ?_
                    have e : o.set (rd pa (k : Int)).toNat { rd o (rd pa (k : Int)) with un := putV (i : Int) (rd o (rd pa (k : Int))).un } = addS (i : Int) o (rd pa (k : Int)) := by
                      rw [addS, upS, if_pos (by assumption)]; rfl
                    rw [e]
                    repeat' first | refine go ?_ | (refine sp ?_ ?_ <;> intro h) | intro b
                    exact lp (k + 1, addS (i : Int) o (rd pa (k : Int))) ⟨by dsimp only; omega, by rw [← hl]; exact len_set, hW', hst.symm⟩ (by dsimp only; omega)
                  · have e : addS (i : Int) o (rd pa (k : Int)) = o := by
                      rw [addS, upS, if_neg (by assumption), setN]
                      exact List.set_self (rd_get (l := o) (i := rd pa (k : Int)) (by omega))
                    rw [e] at hst hW'
                    exact lp (k + 1, o) ⟨by dsimp only; omega, hl, hW', hst.symm⟩ (by dsimp only; omega)
                · repeat' first | refine go ?_ | (refine sp ?_ ?_ <;> intro h) | intro b
                  rw [List.take_of_length_le (by omega)] at ho
                  rw [← ho]
                  exact fin rfl
  · have e : addV t name pub = (t, 0, 1) := by unfold addV; rw [if_pos (by simpa using hn)]
    rw [e]
    repeat' first | refine go ?_ | (refine sp ?_ ?_ <;> intro h) | intro b
    exact fin rfl⟩
end Go.Proofs.Mth
end
section
/- Trees: what the laws use beside: the reference of Resolve, small right trees, rows of one byte, other leaves. -/
set_option linter.unusedVariables false
set_option linter.unusedSimpArgs false
set_option maxRecDepth 100000
set_option maxHeartbeats 4000000
namespace Go.Proofs.Mth
open Go Go.Pv Go.Proofs Go.Shelf
instance rResolve : CC Tryd.prog 23 (∀ (t : List Nd) (x : Int), okU t → t.length ≤ 2047 → Om 23 [gT t, .int .i64 x] 1 (resM 11 t x) (rslV t x).length ((rslV t x).map (V.int .i64))) :=
  ⟨fun t x h1 h2 => rResolve_at h1 h2 11 (Nat.le_refl _) x (fun h0 hx => by have := lev_le x.toNat (by omega); omega) (by omega)⟩
def mayB (t : List Nd) : Bool := smallB t 80 && rightB t
theorem small_okL {t : List Nd} (h : smallB t 80 = true) : okL t := by
  simp only [smallB, Bool.and_eq_true, decide_eq_true_iff, List.all_eq_true, okNd] at h
  exact ⟨by omega, fun n hn => by have := h.2 n hn; omega⟩
instance rSmall8 : CC Tryd.prog 12 (∀ (t : List Nd) (m : Int), 0 ≤ m ∧ m ≤ 1000000 → C 12 [gT t, .int .i64 m] (.bool (smallB t m.toNat))) := ⟨fun t m h1 => by
  refine ct Tryd.func12 fun {Z} H => ?_
  obtain ⟨m, rfl⟩ := Int.eq_ofNat_of_zero_le h1.1
  rw [Int.toNat_natCast]
  repeat' first | refine go ?_ | (refine sp ?_ ?_ <;> intro h) | intro b
  · refine fin (vB ?_)
    simp [smallB]; omega
  · refine W.loop (fun i : Nat => [(0, gT t), (1, .int .i64 m), (5, .int .i64 i)]) (fun _ => []) (fun i => i ≤ t.length ∧ ∀ q, q < i → okNd m (rd t (q : Int)) = true) (fun i => t.length - i) 0 ⟨Nat.zero_le _, fun q hq => absurd hq (Nat.not_lt_zero q)⟩ ?_
    rintro i env ⟨hi, hq⟩
    repeat' first | refine go ?_ | (refine sp ?_ ?_ <;> intro h) | intro b
    · refine fin (vB ?_); symm; rw [Bool.eq_false_iff]; intro hs
      have := smallB_rd hs (i := i) (by omega); simp [okNd] at this; omega
    · refine fin (vB ?_); symm; rw [Bool.eq_false_iff]; intro hs
      have := smallB_rd hs (i := i) (by omega); simp [okNd] at this; omega
    · refine fin (vB ?_); symm; rw [Bool.eq_false_iff]; intro hs
      have := smallB_rd hs (i := i) (by omega); simp [okNd] at this; omega
    · exact lp (i + 1) ⟨by omega, fun q hq' => by
        by_cases hqi : q = i
        · subst hqi; simp [okNd]; omega
        · exact hq q (by omega)⟩ (by omega)
    · refine fin (vB ?_)
      have := all_rd (p := okNd m) (l := t) fun q hq' => hq q (by omega)
      simp only [smallB, this, Bool.and_true]
      symm; rw [decide_eq_true_iff]; omega⟩
instance rMay80 : CC Tryd.prog 24 (∀ (t : List Nd), C 24 [gT t, .int .i64 80] (.bool (mayB t))) := ⟨fun t => by
  refine ct Tryd.func24 fun {Z} H => ?_
  by_cases h : smallB t 80 = true
  · have hL := small_okL h
    have k1 := rSmall8.out t 80 (by omega) H
    rw [show (80 : Int).toNat = 80 from rfl, h] at k1
    repeat' first | refine go ?_ | (refine sp ?_ ?_ <;> intro h) | intro b
    refine fin (vB ?_)
    rw [mayB, h]; rfl
  · have h : smallB t 80 = false := by simpa using h
    have k1 := rSmall8.out t 80 (by omega) H
    rw [show (80 : Int).toNat = 80 from rfl, h] at k1
    repeat' first | refine go ?_ | (refine sp ?_ ?_ <;> intro h) | intro b
    refine fin (vB ?_)
    rw [mayB, h]; rfl⟩
def halfL (n : Int) : List UInt8 := List.replicate 32 (UInt8.ofNat n.toNat)
theorem rep_set {b : UInt8} {k : Nat} (h : k < 32) : (List.replicate k b ++ List.replicate (32 - k) 0).set k b = List.replicate (k + 1) b ++ List.replicate (32 - (k + 1)) 0 := by
  rw [List.set_append_right _ _ (by simp), List.length_replicate, Nat.sub_self, show 32 - k = (32 - (k + 1)) + 1 by omega, List.replicate_succ, List.set_cons_zero, List.replicate_succ', List.append_assoc]; rfl
instance half : CC Tryd.prog 28 (∀ (n : Int), 0 ≤ n ∧ n < 256 → C 28 [.int .u8 n] (gB (halfL n))) := ⟨fun n h1 => by
  refine ct Tryd.func28 fun {Z} H => ?_
  obtain ⟨b, rfl⟩ : ∃ b : UInt8, n = (b.toNat : Int) := ⟨UInt8.ofNat n.toNat, by rw [UInt8.toNat_ofNat', Nat.mod_eq_of_lt (by omega)]; omega⟩
  have e : halfL (b.toNat : Int) = List.replicate 32 b := by unfold halfL; rw [Int.toNat_natCast]; simp
  rw [e]
  repeat' first | refine go ?_ | (refine sp ?_ ?_ <;> intro h) | intro b
  refine W.loop (fun k : Nat => [(0, g8 b), (3, .own 0 0 32 32), (4, .int .i64 k)]) (fun k => [.buf 1 0 ((List.replicate k b ++ List.replicate (32 - k) 0).map g8)]) (fun k => k ≤ 32) (fun k => 32 - k) 0 (Nat.zero_le _) ?_
  intro k env hk
  have hl : (List.replicate k b ++ List.replicate (32 - k) (0 : UInt8)).length = 32 := by simp; omega
  repeat' first | refine go ?_ | (refine sp ?_ ?_ <;> intro h) | intro b
  · rw [Int.toNat_natCast, rep_set (by omega)]
    exact lp (k + 1) (by omega) (by omega)
  · obtain rfl : k = 32 := by omega
    exact fin rfl⟩
/-- A leaf; where there is none: blank. -/
def lfB (t : List Nd) (i : Nat) : Nd := if i < cnt t then lf t i else blankN
def othersB (a b : List Nd) (but : Int) : Bool := (List.range (max (cnt a) (cnt b))).all fun i => decide ((i : Int) = but) || decide (lfB a i = lfB b i)
theorem sameW {Z : Nat → Go.Obj → Prop} (H : ZT Z) {a b : V} {x y : Nd} (ha : V.weak a = gN x) (hb : V.weak b = gN y) (hu : x.un.length ≤ 1000000) (L : List Go.Pv.Obj) : SE Tryd.prog Z 38 [a, b] L (.bool (decide (x = y))) L :=
  (rSameNode.out x y hu H L).argw rfl fun p h1 h2 G r hr => by
    match p, h1 with
    | 0, _ => show VR G (gN x) r; rw [← ha]; exact VR.weak hr
    | 1, _ => show VR G (gN y) r; rw [← hb]; exact VR.weak hr
abbrev zN : V := .agg [.int .i64 0, .int .i64 0, .sl true true [], .sl true true [], .sl true true []]
theorem others_no {a b : List Nd} {but : Int} {i : Nat} (hi : i < max (cnt a) (cnt b)) (h1 : ¬ (i : Int) = but) (h2 : ¬ lfB a i = lfB b i) : othersB a b but = false := by
  rw [Bool.eq_false_iff]; intro h
  rw [othersB, List.all_eq_true] at h
  have := h i (List.mem_range.2 hi)
  simp [h1, h2] at this
theorem others_yes {a b : List Nd} {but : Int} (h : ∀ i : Nat, i < max (cnt a) (cnt b) → (i : Int) = but ∨ lfB a i = lfB b i) : othersB a b but = true := by
  rw [othersB, List.all_eq_true]
  intro i hi
  have := h i (List.mem_range.1 hi)
  simpa using this
instance others : CC Tryd.prog 36 (∀ (a b : List Nd) (but : Int), okL a → b.length ≤ 1000000 → C 36 [gT a, gT b, .int .i64 but] (.bool (othersB a b but))) := ⟨fun a b but h1 h2 => by
  refine ct Tryd.func36 fun {Z} H => ?_
  have hal := h1.1
  repeat' first | refine go ?_ | (refine sp ?_ ?_ <;> intro h) | intro b
  refine W.loop (fun i : Nat => [(0, gT a), (1, gT b), (2, .int .i64 but), (7, .int .i64 i)]) (fun _ => []) (fun i => i ≤ max (cnt a) (cnt b) ∧ ∀ q : Nat, q < i → (q : Int) = but ∨ lfB a q = lfB b q) (fun i => max (cnt a) (cnt b) - i) 0 ⟨Nat.zero_le _, fun q hq => absurd hq (Nat.not_lt_zero q)⟩ ?_
  rintro i env ⟨hi, hq⟩
  have hxa : i < cnt a → 2 * i < a.length := lf_at
  have hxb : i < cnt b → 2 * i < b.length := lf_at
  have hla : i < cnt a → lfB a i = rd a (2 * (i : Int)) := fun h => by rw [lfB, if_pos h]; rfl
  have hlb : i < cnt b → lfB b i = rd b (2 * (i : Int)) := fun h => by rw [lfB, if_pos h]; rfl
  have hca : cnt a ≤ 1000000 := by unfold cnt; omega
  have hcb : cnt b ≤ 1000000 := by unfold cnt; omega
  have go1 : ∀ {x y : Nd}, lfB a i = x → lfB b i = y → i < max (cnt a) (cnt b) → ¬ (i : Int) = but → ¬ x = y → false = othersB a b but := fun h1 h2 h3 h4 h5 => (others_no (i := i) h3 h4 (by rw [h1, h2]; exact h5)).symm
  have go2 : ∀ {x y : Nd}, lfB a i = x → lfB b i = y → x = y → ∀ q : Nat, q < i + 1 → (q : Int) = but ∨ lfB a q = lfB b q := fun h1 h2 h3 => step_all hq (.inr (by rw [h1, h2, h3]))
  have go3 : (i : Int) = but → ∀ q : Nat, q < i + 1 → (q : Int) = but ∨ lfB a q = lfB b q := fun h => step_all hq (.inl h)
  have hna : ¬ i < cnt a → lfB a i = blankN := fun h => by rw [lfB, if_neg h]
  have hnb : ¬ i < cnt b → lfB b i = blankN := fun h => by rw [lfB, if_neg h]
  by_cases ha : i < cnt a
  · have hun := (h1.2 _ (rd_mem (l := a) (i := 2 * (i : Int)) (by have := hxa ha; omega))).2.1
    by_cases hb : i < cnt b
    · have k1 := sameW H (a := gN (rd a (2 * (i : Int)))) (b := gN (rd b (2 * (i : Int)))) (x := rd a (2 * (i : Int))) (y := rd b (2 * (i : Int))) rfl rfl hun
      repeat' first | refine go ?_ | (refine sp ?_ ?_ <;> intro h) | intro b
      · exact fin (vB (go1 (hla ha) (hlb hb) (by omega) (by assumption) (by assumption)))
      · exact lp (i + 1) ⟨by omega, go2 (hla ha) (hlb hb) (by assumption)⟩ (by omega)
      · exact lp (i + 1) ⟨by omega, go3 (by assumption)⟩ (by omega)
    · have k1 := sameW H (a := gN (rd a (2 * (i : Int)))) (b := zN) (x := rd a (2 * (i : Int))) (y := blankN) rfl rfl hun
      repeat' first | refine go ?_ | (refine sp ?_ ?_ <;> intro h) | intro b
      · exact fin (vB (go1 (hla ha) (hnb hb) (by omega) (by assumption) (by assumption)))
      · exact lp (i + 1) ⟨by omega, go2 (hla ha) (hnb hb) (by assumption)⟩ (by omega)
      · exact lp (i + 1) ⟨by omega, go3 (by assumption)⟩ (by omega)
      · exfalso; simp only [if_true] at h; split at h <;> omega
  · by_cases hb : i < cnt b
    · have k1 := sameW H (a := zN) (b := gN (rd b (2 * (i : Int)))) (x := blankN) (y := rd b (2 * (i : Int))) rfl rfl (by simp [blankN])
      repeat' first | refine go ?_ | (refine sp ?_ ?_ <;> intro h) | intro b
      · exact fin (vB (go1 (hna ha) (hlb hb) (by omega) (by assumption) (by assumption)))
      · exact lp (i + 1) ⟨by omega, go2 (hna ha) (hlb hb) (by assumption)⟩ (by omega)
      · exact lp (i + 1) ⟨by omega, go3 (by assumption)⟩ (by omega)
      · exfalso; simp only [if_true] at h; split at h <;> omega
    · repeat' first | refine go ?_ | (refine sp ?_ ?_ <;> intro h) | intro b
      exact fin (vB (others_yes fun q hq' => hq q (by omega)).symm)⟩
end Go.Proofs.Mth
end
section
/- Trees: the document's example. -/
set_option linter.unusedVariables false
set_option linter.unusedSimpArgs false
set_option maxRecDepth 100000
set_option maxHeartbeats 4000000
namespace Go.Proofs.Mth
open Go Go.Pv Go.Proofs Go.Shelf
def shL (i : Nat) : Nd := leafN (10 + i) (halfL i)
/-- The example's trees. -/
def shT : Nat → List Nd
  | 0 => []
  | 1 => [leafN 10 (halfL 1)]
  | 2 => [leafN 10 (halfL 1), blankN, shL 1]
  | 3 => [leafN 10 (halfL 1), blankN, shL 1, blankN, shL 2, blankN, blankN]
  | _ => [leafN 10 (halfL 1), blankN, shL 1, blankN, shL 2, blankN, shL 3]
def okWb (t : List Nd) : Bool := t.all fun n => decide (n.un = [])
theorem okW_of {t : List Nd} (h : okWb t = true) : okW 1000 t := fun n hn => by
  have := List.all_eq_true.1 h n hn
  rw [of_decide_eq_true this]
  exact ⟨fun p q _ hq => by simp at hq, by simp⟩
def okLb (t : List Nd) : Bool := decide (t.length ≤ 1000) && t.all fun n => decide (n.pub.length ≤ 1000000) && decide (n.un.length ≤ 1000000) && decide (n.hash.length ≤ 1000000)
theorem okL_of {t : List Nd} (h : okLb t = true) : okL t := by
  simp only [okLb, Bool.and_eq_true, decide_eq_true_iff, List.all_eq_true] at h
  exact ⟨h.1, fun n hn => by have := h.2 n hn; omega⟩
theorem shS : ∀ i, 1 ≤ i → i ≤ 4 → okS (shT i) ∧ okW 1000 (shT i) ∧ okL (shT i) := by
  intro i h1 h2
  have : i = 1 ∨ i = 2 ∨ i = 3 ∨ i = 4 := by omega
  rcases this with rfl | rfl | rfl | rfl
  · exact ⟨⟨0, by decide, rfl⟩, okW_of rfl, okL_of (by kernel_rfl)⟩
  · exact ⟨⟨1, by decide, rfl⟩, okW_of rfl, okL_of (by kernel_rfl)⟩
  · exact ⟨⟨2, by decide, rfl⟩, okW_of rfl, okL_of (by kernel_rfl)⟩
  · exact ⟨⟨2, by decide, rfl⟩, okW_of rfl, okL_of (by kernel_rfl)⟩
theorem shA : ∀ i : Nat, 1 ≤ i → i ≤ 3 → addV (shT i) (10 + (i : Int)) (halfL i) = (shT (i + 1), (i : Int), 0) := by
  intro i h1 h2
  have : i = 1 ∨ i = 2 ∨ i = 3 := by omega
  rcases this with rfl | rfl | rfl <;> exact of_decide_eq_true (by kernel_rfl)
theorem shR : remV (shT 4) 3 = (shT 3, 0) ∧ remV (shT 3) 2 = (shT 2, 0) ∧ findV (shT 4) 12 = (2, true) ∧ rightB (shT 4) = true ∧ rslV (shT 4) 3 = [0, 2, 4, 6] ∧ ¬ shT 4 = shT 3 ∧ newV 10 (halfL 1) = (shT 1, 0) :=
  ⟨of_decide_eq_true (by kernel_rfl), of_decide_eq_true (by kernel_rfl), of_decide_eq_true (by kernel_rfl), by kernel_rfl, of_decide_eq_true (by kernel_rfl), of_decide_eq_false (by kernel_rfl), of_decide_eq_true (by kernel_rfl)⟩
theorem half_len (n : Int) : (halfL n).length = 32 := by simp [halfL]
theorem okU_of {t : List Nd} (h : okWb t = true) : okU t := fun n hn => by
  have := List.all_eq_true.1 h n hn
  rw [of_decide_eq_true this]
  exact ⟨by simp, fun i hi => by simp at hi⟩
instance shown : CC Tryd.prog 11 (C 11 [] (.bool true)) := ⟨by
  refine ct Tryd.func11 fun {Z} H => ?_
  obtain ⟨r1, r2, r3, r4, r5, r6, r7⟩ := shR
  have hh1 := half_len 1
  have k1 := new.out 10 (halfL 1) (by omega) H
  rw [r7] at k1
  dsimp only at k1
  repeat' first | refine go ?_ | (refine sp ?_ ?_ <;> intro h) | intro b
  refine W.loop (fun i : Nat => [(1, gT (shT i)), (2, .int .i64 0), (3, .int .i64 i)]) (fun _ => []) (fun i => 1 ≤ i ∧ i ≤ 4) (fun i => 4 - i) 1 ⟨by decide, by decide⟩ ?_
  rintro i env ⟨h1, h2⟩
  by_cases h3 : i < 4
  · obtain ⟨s1, s2, s3⟩ := shS i h1 h2
    have hhi := half_len (i : Int)
    have k1 := add.out (shT i) (10 + (i : Int)) (halfL i) s1 s2 (by omega) H
    rw [shA i h1 (by omega)] at k1
    dsimp only at k1
    repeat' first | refine go ?_ | (refine sp ?_ ?_ <;> intro h) | intro b
    exact lp (i + 1) (by omega) (by omega)
  · obtain rfl : i = 4 := by omega
    obtain ⟨s1, s2, s3⟩ := shS 4 (by decide) (by decide)
    obtain ⟨q1, q2, q3⟩ := shS 3 (by decide) (by decide)
    have k1 := remove.out (shT 4) 3 s1 (fun a b => pathV_in s1 a b) H
    rw [r1] at k1
    dsimp only at k1
    have k2 := remove.out (shT 3) 2 q1 (fun a b => pathV_in q1 a b) H
    rw [r2] at k2
    dsimp only at k2
    have k3 := find.out (shT 4) 12 (by decide) H
    rw [r3] at k3
    dsimp only at k3
    have u1 : okU (shT 4) := okU_of rfl
    have u2 : (shT 4).length ≤ 2047 := by decide
    have l1 : ((shT 4).length : Int) = 7 := by decide
    have l2 : ((shT 3).length : Int) = 7 := by decide
    have l3 : ((shT 2).length : Int) = 3 := by decide
    have ki : SE Tryd.prog Z 21 [gI (rslV (shT 4) 3), .sl false true [.int .i64 0, .int .i64 2, .int .i64 4, .int .i64 6]] [] (.bool true) [] := by
      have := ints.out (rslV (shT 4) 3) [0, 2, 4, 6] (by rw [r5]; decide) H []
      rw [decide_eq_true r5] at this
      exact this.argw rfl (fun p h1 h2 G r hr => by
        match p, h1 with
        | 0, _ => exact hr
        | 1, _ => exact hr.slw)
    have kr := rightT.out (shT 4) s3 H
    rw [r4] at kr
    have ks := same.out (shT 4) (shT 3) s3 H
    rw [decide_eq_false r6] at ks
    repeat' first | refine go ?_ | (refine sp ?_ ?_ <;> intro h) | intro b
    refine X.call (ha := rfl) (SE.borrow ki borsI rfl) ?_
    repeat' first | refine go ?_ | (refine sp ?_ ?_ <;> intro h) | intro b
    refine fin (vB ?_)
    rw [decide_eq_false r6]; rfl⟩
end Go.Proofs.Mth
end
section
/- Trees: the first laws. -/
set_option linter.unusedVariables false
set_option linter.unusedSimpArgs false
set_option maxRecDepth 100000
set_option maxHeartbeats 4000000
namespace Go.Proofs.Mth
open Go Go.Pv Go.Proofs Go.Shelf
theorem small_len {t : List Nd} {m : Nat} (h : smallB t m = true) : t.length ≤ m := by
  simp only [smallB, Bool.and_eq_true, decide_eq_true_iff] at h; exact h.1
theorem right_un {t : List Nd} {j : Nat} (h : RT t j) {x : Nat} (hx : x < t.length) : (rd t (x : Int)).un.Pairwise (· < ·) ∧ ∀ u ∈ (rd t (x : Int)).un, (loN x : Int) ≤ u ∧ u ≤ hiN x ∧ (rd t (2 * u)).kind = 1 ∧ (rd t (x : Int)).kind = 2 ∧ x % 2 = 1 := by
  have hb := two_pow_bound h.hj
  have hl := h.len
  rcases whole_iff.1 (h.wh x hx) with h0 | ⟨_, _, _, _, h0⟩ | ⟨h2, _, _, ho, _, hu⟩
  · rw [h0]; simp [blankN]
  · rw [h0]; simp
  · rw [lv_lo (by omega), lv_hi (by omega), unB_iff] at hu
    exact ⟨hu.1, fun u hu' => by have := hu.2 u hu'; exact ⟨this.1, this.2.1, this.2.2, h2, by omega⟩⟩
theorem nd_at {t : List Nd} {n : Nd} (h : n ∈ t) : ∃ x : Nat, x < t.length ∧ rd t (x : Int) = n := by
  obtain ⟨x, hx, rfl⟩ := List.getElem_of_mem h
  exact ⟨x, hx, by rw [rd_nat, List.getD_eq_getElem?_getD, List.getElem?_eq_getElem hx]; rfl⟩
theorem right_okU {t : List Nd} (hs : smallB t 80 = true) (h : rightB t = true) : okU t := fun n hn => by
  obtain ⟨j, hr⟩ := right_iff.1 h
  have hl := small_len hs
  have hlen := hr.len
  have hj : j < 7 := by
    by_cases hj : j < 7
    · exact hj
    · have : 2 ^ 7 ≤ 2 ^ j := Nat.pow_le_pow_right (by decide) (by omega)
      omega
  obtain ⟨x, hx, rfl⟩ := nd_at hn
  have hu := (right_un hr hx).2
  have hb := below hj (x := x) (by omega)
  have hp := two_pow_bound hr.hj
  simp only [smallB, Bool.and_eq_true, decide_eq_true_iff, List.all_eq_true, okNd] at hs
  exact ⟨by have := hs.2 _ hn; omega, fun i hi => by have := hu i hi; omega⟩
theorem right_okW {t : List Nd} (hs : smallB t 80 = true) (h : rightB t = true) : okW 1000 t := fun n hn => by
  obtain ⟨j, hr⟩ := right_iff.1 h
  obtain ⟨x, hx, rfl⟩ := nd_at hn
  have hu := (right_un hr hx).1
  simp only [smallB, Bool.and_eq_true, decide_eq_true_iff, List.all_eq_true, okNd] at hs
  refine ⟨fun p q hpq hq => ?_, by have := hs.2 _ hn; omega⟩
  have hget : ∀ {l : List Int} q (h : q < l.length), rd l (q : Int) = l[q] := fun q h => by rw [rd_nat, List.getD_eq_getElem?_getD, List.getElem?_eq_getElem h]; rfl
  rw [hget p (by omega), hget q hq]
  exact Int.le_of_lt (List.pairwise_iff_getElem.1 hu p q (by omega) hq hpq)
theorem right_okS {t : List Nd} (h : rightB t = true) : okS t := by
  obtain ⟨j, hr⟩ := right_iff.1 h
  exact ⟨j, hr.hj, hr.len⟩
theorem new_okL {name : Int} {pub : List UInt8} (h : pub.length ≤ 40) : okL (newV name pub).1 := by
  unfold newV; split
  · exact ⟨by simp, fun n hn => by rw [List.mem_singleton.1 hn]; simp [leafN]; omega⟩
  · exact ⟨by simp, fun n hn => by simp at hn⟩
instance tells : CC Tryd.prog 3 (∀ (a b : List Nd) (name : Int) (pub : List UInt8) (x : Int), C 3 [.agg [gT a, gT b, .int .i64 name, gB pub, .int .i64 x]] (.bool true)) := ⟨fun a b name pub x => by
  refine ct Tryd.func3 fun {Z} H => ?_
  by_cases g1 : smallB a 80 = true
  · by_cases g2 : smallB b 80 = true
    · by_cases g3 : pub.length ≤ 40
      · have l1 := small_len g1
        have l2 := small_len g2
        have o1 := small_okL g1
        have o2 := small_okL g2
        have o4 := new_okL (name := name) g3
        by_cases hr : rightB a = true
        · have o3 := right_okU g1 hr
          have hrl2 : (rslV a x).length ≤ 1000000000 := Nat.le_trans (res_len o3 11 x) (by decide)
          repeat' first | refine go ?_ | (refine sp ?_ ?_ <;> intro h) | intro b
          all_goals first | (exfalso; simp at *; done) | (refine fin (vB ?_); simp) | trace_state
        · have hr : rightB a = false := by simpa using hr
          repeat' first | refine go ?_ | (refine sp ?_ ?_ <;> intro h) | intro b
          all_goals first | (exfalso; simp at *; done) | (refine fin (vB ?_); simp) | trace_state
      · repeat' first | refine go ?_ | (refine sp ?_ ?_ <;> intro h) | intro b
        all_goals first | exact fin rfl | (exfalso; omega) | trace_state
    · have g2 : smallB b 80 = false := by simpa using g2
      repeat' first | refine go ?_ | (refine sp ?_ ?_ <;> intro h) | intro b
      all_goals first | exact fin rfl | trace_state
  · have g1 : smallB a 80 = false := by simpa using g1
    repeat' first | refine go ?_ | (refine sp ?_ ?_ <;> intro h) | intro b
    all_goals first | exact fin rfl | trace_state⟩
end Go.Proofs.Mth
end
