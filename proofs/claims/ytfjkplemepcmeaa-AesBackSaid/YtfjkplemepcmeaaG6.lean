import Derived.Test.YtfjkplemepcmeaaG5
import Derived.Deep.Slices
set_option linter.unusedVariables false
set_option linter.unusedSimpArgs false
set_option linter.unusedSectionVars false
section
/- Arguments that came in, by the form of their types: numbers, slices, structs. -/
set_option linter.unusedVariables false
set_option linter.unusedSectionVars false
namespace Go.Pv
open Go Go.ChangeShapes Go.WideShapes Go.Deep
variable {P : Program} {W : World}
/-- The cells of a type stand for a datum, as g tells it, for which q holds. -/
structure Opn (P : Program) (W : World) (t : TypeId) {α : Type} (g : α → V) (q : α → Prop) : Prop where
  out : ∀ {H : Type} {enc : TypeId × Value → H} (fuel : Nat) (cs : List Value) (d : DataW H) (ps : List MemPlace), DataW.trod enc P W 0 (fun _ => true) true fuel t cs = some (d, ps) →
    ∃ a : α, q a ∧ cs.length = (g a).cells.length ∧ (∀ p (h : p < (g a).cells.length), VR (Gh.all W) (g a).cells[p] (cs.getD p undef)) ∧ ∀ x ∈ ps, x.block < W.heap.size
theorem Opn.int {t : TypeId} {k : IntKind} (hu : P.underlying t = some (.int k)) : Opn P W t (V.int k) (fun n => (Lit.int k n).wf = true) := ⟨fun fuel cs d ps h => by
  obtain ⟨n, rfl, hx, hw⟩ := DataW.trod_int hu h
  simp only [Prod.mk.injEq] at hx
  obtain ⟨rfl, rfl⟩ := hx
  exact ⟨n, hw, rfl, fun p hp => by obtain rfl : p = 0 := by simpa [V.cells] using hp
                                    exact .int k n, fun x hx => by cases hx⟩⟩
theorem Opn.map {t : TypeId} {α β : Type} {g : α → V} {g' : β → V} {q : α → Prop} {q' : β → Prop} (h : Opn P W t g q) (f : α → β) (hg : ∀ a, q a → g' (f a) = g a) (hq : ∀ a, q a → q' (f a)) : Opn P W t g' q' := ⟨fun fuel cs d ps ht => by
  obtain ⟨a, h1, h2, h3, h4⟩ := h.out fuel cs d ps ht
  exact ⟨f a, hq a h1, by rw [hg a h1]; exact h2, by rw [hg a h1]; exact h3, h4⟩⟩
theorem Opn.u8 {t : TypeId} (hu : P.underlying t = some (.int .u8)) : Opn P W t g8 (fun _ => True) := Opn.map (Opn.int hu) (fun n => UInt8.ofNat n.toNat) (fun n hw => by
  simp [Lit.wf, IntKind.min, IntKind.max, IntKind.signed, IntKind.bits] at hw
  unfold g8
  rw [UInt8.toNat_ofNat', Nat.mod_eq_of_lt (by omega), Int.toNat_of_nonneg (by omega)]) (fun _ _ => trivial)
theorem add_two (a : Addr) (i j : Nat) : (a.add i).add j = a.add (i + j) := by
  unfold Addr.add
  by_cases h1 : i = 0
  · subst h1; simp
  · by_cases h2 : j = 0
    · subst h2; simp
    · simp [h1, h2, Nat.add_assoc]
theorem list_of {α : Type} {R : Nat → α → Prop} : ∀ {n : Nat}, (∀ i, i < n → ∃ a, R i a) → ∃ l : List α, l.length = n ∧ ∀ i (h : i < l.length), R i l[i]
  | 0, _ => ⟨[], rfl, fun i h => absurd h (Nat.not_lt_zero i)⟩
  | n + 1, h => by
    obtain ⟨l, h1, h2⟩ := list_of (n := n) (fun i hi => h i (by omega))
    obtain ⟨a, ha⟩ := h n (by omega)
    refine ⟨l ++ [a], by simp [h1], fun i hi => ?_⟩
    by_cases hl : i < l.length
    · rw [List.getElem_append_left hl]; exact h2 i hl
    · have : i = n := by simp at hi; omega
      subst this
      rw [List.getElem_append_right (by omega)]
      simpa [h1] using ha
theorem Opn.slice {t e : TypeId} {α : Type} {g : α → V} {q : α → Prop} {sz : Nat} (hu : P.underlying t = some (.slice e)) (hc : P.cellsOf e = sz) (h0 : 0 < sz) (hg : ∀ a, (g a).cells.length = sz) (ho : Opn P W e g q) :
    Opn P W t (fun l : List α => .sl false false (l.map g)) (fun l => ∀ a ∈ l, q a) := ⟨fun fuel cs d ps h => by
  rcases open_slice hu h with ⟨rfl, hx⟩ | ⟨a, len, cap, m, n, D, Pl, rfl, hb, hl, hm, hsp, hx, hel⟩
  · simp only [Prod.mk.injEq] at hx
    obtain ⟨rfl, rfl⟩ := hx
    refine ⟨[], by simp, rfl, fun p hp => ?_, by simp⟩
    obtain rfl : p = 0 := by simpa [V.cells] using hp
    exact .sl0 (by simp)
  · simp only [if_true] at hsp
    subst hsp
    simp only [Prod.mk.injEq] at hx
    obtain ⟨rfl, rfl⟩ := hx
    rw [hc] at hel
    obtain ⟨l, hll, hlr⟩ := list_of (n := m) (R := fun i b => q b ∧ (∀ p (h : p < (g b).cells.length), ∃ v, W.cell? (a.add (i * sz + p)) = some v ∧ VR (Gh.all W) (g b).cells[p] v) ∧ ∀ x ∈ Pl i, x.block < W.heap.size) (fun i hi => by
      obtain ⟨cs', h1, h2⟩ := hel i hi
      obtain ⟨b, q1, q2, q3, q4⟩ := ho.out n cs' _ _ h2
      obtain ⟨_, r1, r2⟩ := World.cells?_some h1
      refine ⟨b, q1, fun p hp => ?_, q4⟩
      have hp' : p < sz := by rw [← hg b]; exact hp
      have := r2 p hp'
      rw [List.getElem?_eq_getElem (by omega)] at this
      rw [add_two] at this
      refine ⟨_, this, ?_⟩
      have := q3 p hp
      rwa [List.getD_eq_getElem?_getD, List.getElem?_eq_getElem (by omega)] at this)
    have hlen : (l.take len).length = len := by rw [List.length_take]; omega
    have hb0 : 0 < m → a.block < W.heap.size := fun h => by
      obtain ⟨cs', h1, _⟩ := hel 0 h
      have := World.cells?_block h1 h0
      simpa [Addr.add] using this
    refine ⟨l.take len, fun b hb => ?_, rfl, fun p hp => ?_, fun x hx => ?_⟩
    · obtain ⟨i, hi, rfl⟩ := List.getElem_of_mem hb
      rw [List.getElem_take]
      exact (hlr i (by omega)).1
    · obtain rfl : p = 0 := by simpa [V.cells] using hp
      show VR (Gh.all W) (.sl false false ((l.take len).map g)) (.slice (some a) len m)
      by_cases hz : len = 0
      · subst hz; exact .sl0 (by simp)
      · obtain ⟨ab, ao, asp⟩ := a
        have hspot : asp = none := by
          obtain ⟨v, hv, _⟩ := (hlr 0 (by omega)).2.1 0 (by rw [hg]; exact h0)
          simpa [Addr.add] using World.cell?_spot hv
        subst hspot
        have hsz : ∀ x ∈ (l.take len).map g, x.cells.length = sz := fun x hx => by
          obtain ⟨b, _, rfl⟩ := List.mem_map.1 hx; exact hg b
        have hfl : (flat ((l.take len).map g)).length = len * sz := by rw [flat_length hsz, List.length_map, hlen]
        have hat : ∀ p (h : p < (flat ((l.take len).map g)).length), ∃ v, W.cell? ⟨ab, ao + p, none⟩ = some v ∧ VR (Gh.all W) (flat ((l.take len).map g))[p] v := fun p hp => by
          have hp' : p < len * sz := by omega
          have hi : p / sz < len := (Nat.div_lt_iff_lt_mul h0).2 hp'
          have hr : p % sz < sz := Nat.mod_lt _ h0
          have hpe : p / sz * sz + p % sz = p := by rw [Nat.mul_comm]; exact Nat.div_add_mod p sz
          obtain ⟨v, e1, e2⟩ := (hlr (p / sz) (by omega)).2.1 (p % sz) (by rw [hg]; exact hr)
          rw [hpe, add_plain] at e1
          refine ⟨v, e1, ?_⟩
          have hgi : ((l.take len).map g)[p / sz]? = some (g (l[p / sz]'(by omega))) := by
            rw [List.getElem?_map, List.getElem?_take_of_lt hi, List.getElem?_eq_getElem (by omega)]; rfl
          have := flat_get hsz hgi hr
          rw [hpe, List.getElem?_eq_getElem hp, List.getElem?_eq_getElem (by rw [hg]; exact hr)] at this
          rw [Option.some.inj this]; exact e2
        have hr := VR.sl (G := Gh.all W) (exact := false) (xs := (l.take len).map g) (B := ab) (O := ao) (c := m) sz (fun p => (W.cell? ⟨ab, ao + p, none⟩).getD undef)
          (by intro hn; have := congrArg List.length hn; rw [List.length_map, hlen] at this; exact hz this) (by simp) (by rw [List.length_map, hlen]; exact hl) hsz
          (fun p hp => by obtain ⟨v, e1, _⟩ := hat p hp; show W.cell? _ = some _; rw [e1]; rfl)
          (fun p hp => by obtain ⟨v, e1, e2⟩ := hat p hp; rw [e1]; exact e2)
        rw [List.length_map, hlen] at hr
        exact hr
    · rcases List.mem_append.1 hx with hx | hx
      · simp only [MemPlace.row, List.mem_map, List.mem_range] at hx
        obtain ⟨i, hi, rfl⟩ := hx
        exact hb0 (by
          by_cases hm0 : m = 0
          · subst hm0; simp at hi
          · omega)
      · obtain ⟨i, hi, hx⟩ := List.mem_flatMap.1 hx
        have hi := List.mem_range.1 hi
        exact (hlr i (by omega)).2.2 x hx⟩
theorem Opn.bytes {t e : TypeId} (hu : P.underlying t = some (.slice e)) (he : P.underlying e = some (.int .u8)) (hc : P.cellsOf e = 1) : Opn P W t gB (fun _ => True) :=
  Opn.map (Opn.slice (g := g8) hu hc (by decide) (fun _ => rfl) (Opn.u8 he)) id (fun _ _ => rfl) (fun _ _ => trivial)
/-- Fields, one behind the other. -/
structure OpnL (P : Program) (W : World) (fs : List Field) (off : Nat) {β : Type} (gs : β → List V) (q : β → Prop) : Prop where
  out : ∀ {H : Type} {enc : TypeId × Value → H} (fuel : Nat) (cs : List Value) (xs : List (DataW H × List MemPlace)), fs.mapM (fun f => DataW.trod enc P W 0 (fun _ => true) true fuel f.type ((cs.drop f.offset).take (P.cellsOf f.type))) = some xs →
    ∃ b, q b ∧ (∀ p (h : p < (gs b).length), VR (Gh.all W) (gs b)[p] (cs.getD (off + p) undef)) ∧ ∀ y ∈ xs.flatMap (·.2), y.block < W.heap.size
theorem OpnL.nil {off : Nat} : OpnL P W [] off (fun _ : Unit => []) (fun _ => True) := ⟨fun fuel cs xs h => by
  simp at h; subst h
  exact ⟨(), trivial, fun p hp => by simp at hp, fun y hy => by simp at hy⟩⟩
theorem OpnL.cons {f : Field} {fs : List Field} {off n : Nat} {α β : Type} {g : α → V} {gs : β → List V} {q : α → Prop} {qs : β → Prop} (hof : f.offset = off) (hn : P.cellsOf f.type = n) (hf : Opn P W f.type g q) (hg : ∀ a, (g a).cells.length = n) (hs : OpnL P W fs (off + n) gs qs) :
    OpnL P W (f :: fs) off (fun p : α × β => (g p.1).cells ++ gs p.2) (fun p => q p.1 ∧ qs p.2) := ⟨fun {H enc} fuel cs xs h => by
  rw [List.mapM_cons] at h
  simp only [Option.bind_eq_bind, Option.pure_def] at h
  obtain ⟨x, h1, h2⟩ := Option.bind_eq_some_iff.1 h
  obtain ⟨ys, h3, h4⟩ := Option.bind_eq_some_iff.1 h2
  obtain rfl := Option.some.inj h4
  obtain ⟨d, ps⟩ := x
  obtain ⟨a, a1, a2, a3, a4⟩ := hf.out fuel _ d ps h1
  obtain ⟨b, b1, b2, b3⟩ := hs.out fuel cs ys h3
  rw [hof, hn] at a2 a3
  have hl := hg a
  refine ⟨(a, b), ⟨a1, b1⟩, fun p hp => ?_, fun y hy => ?_⟩
  · by_cases hpn : p < (g a).cells.length
    · simp only [List.getElem_append_left hpn]
      have := a3 p hpn
      rwa [List.getD_eq_getElem?_getD, List.getElem?_take_of_lt (by omega), List.getElem?_drop, ← List.getD_eq_getElem?_getD] at this
    · simp only [List.getElem_append_right (Nat.not_lt.1 hpn)]
      have := b2 (p - (g a).cells.length) (by simp at hp; omega)
      rwa [show off + n + (p - (g a).cells.length) = off + p by omega] at this
  · rw [List.flatMap_cons] at hy
    rcases List.mem_append.1 hy with hy | hy
    · exact a4 y hy
    · exact b3 y hy⟩
theorem Opn.struct {t : TypeId} {fs : Array Field} {β : Type} {gs : β → List V} {q : β → Prop} (hu : P.underlying t = some (.struct fs)) (hl : OpnL P W fs.toList 0 gs q) (hc : ∀ b, (gs b).length = P.cellsOf t) : Opn P W t (fun b => .agg (gs b)) q := ⟨fun fuel cs d ps h => by
  cases fuel with
  | zero => simp [DataW.trod] at h
  | succ n =>
    unfold DataW.trod at h
    simp only [hu] at h
    split at h
    · rename_i hcl
      obtain ⟨xs, h1, h2⟩ := Option.map_eq_some_iff.1 h
      simp only [Prod.mk.injEq] at h2
      obtain ⟨rfl, rfl⟩ := h2
      obtain ⟨b, b1, b2, b3⟩ := hl.out n cs xs h1
      exact ⟨b, b1, by rw [hcl, ← hc b]; rfl, fun p hp => by have := b2 p hp; rwa [Nat.zero_add] at this, b3⟩
    · simp at h⟩
/-! values -/
theorem Opn.valS {t e : TypeId} {α : Type} {g : α → V} {q : α → Prop} (ho : Opn P W t g q) (hu : P.underlying t = some (.slice e)) (hg : ∀ a, (g a).cells = [g a]) {H : Type} {enc : TypeId × Value → H} {base : Nat} {v : Value} {d : DataW H} {ps : List MemPlace} (hval : Value.okWide P W .any base t v)
    (h : DataW.Trod enc P W 0 (fun _ => true) true t v d ps) : ∃ a, q a ∧ VR (Gh.all W) (g a) v ∧ ∀ x ∈ ps, x.block < W.heap.size := by
  obtain ⟨a1, len, cap, rfl⟩ := okWide_slice hu hval
  obtain ⟨fuel, hf⟩ := h
  obtain ⟨a, q1, q2, q3, q4⟩ := ho.out fuel _ d ps hf
  have := q3 0 (by rw [hg]; simp)
  simp only [hg] at this
  exact ⟨a, q1, this, q4⟩
theorem Opn.valA {t : TypeId} {fs : Array Field} {α : Type} {g : α → V} {gs : α → List V} {q : α → Prop} (ho : Opn P W t g q) (hu : P.underlying t = some (.struct fs)) (hg : ∀ a, g a = .agg (gs a)) {H : Type} {enc : TypeId × Value → H} {base : Nat} {v : Value} {d : DataW H} {ps : List MemPlace} (hval : Value.okWide P W .any base t v)
    (h : DataW.Trod enc P W 0 (fun _ => true) true t v d ps) : ∃ a, q a ∧ VR (Gh.all W) (g a) v ∧ ∀ x ∈ ps, x.block < W.heap.size := by
  simp only [Value.okWide, hu] at hval
  obtain ⟨cs, rfl, _, _⟩ := hval
  obtain ⟨fuel, hf⟩ := h
  obtain ⟨a, q1, q2, q3, q4⟩ := ho.out fuel _ d ps hf
  rw [hg] at q2 q3
  refine ⟨a, q1, ?_, q4⟩
  rw [hg]
  refine .agg (by rw [Array.length_toList] at q2; exact q2) fun p hp => ?_
  have := q3 p hp
  rwa [show (Value.agg cs).cells.toList.getD p undef = cs.getD p undef by simp [Value.cells, List.getD_eq_getElem?_getD, Array.getD_eq_getD_getElem?]] at this
end Go.Pv
end
