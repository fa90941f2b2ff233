import Derived.Test.YtfjkplemepcmeaaPv4
set_option linter.unusedVariables false
set_option linter.unusedSectionVars false
/- 'pop' is right: places, parts, cuts. -/
set_option linter.unusedSimpArgs false
namespace Go.Pv
variable {P : Program} {Z : Nat → Go.Obj → Prop} {G : Gh} {L : List Obj} {w : World}

theorem toNat?_spec {v : V} {n : Nat} {r : Value} (h : toNat? v = some n) (hv : VR G v r) : ∃ k, v = .int k n ∧ r = .int k n := by
  unfold toNat? at h
  split at h
  · rename_i k m
    split at h
    · simp only [Option.some.injEq] at h
      have hm : m = (n : Int) := by omega
      subst hm
      cases hv
      exact ⟨k, rfl, rfl⟩
    · simp at h
  · simp at h

theorem indexAddr_sound (hr : Rel Z G L w) {t : TypeId} {x i v : V} {r s : Value} (hx : VR G x r) (hi : VR G i s) (h : pindexAddr P L t x i = some v) :
    ∃ q, (Instr.indexAt t r s).run P w = .ok q w ∧ VR G v q := by
  unfold pindexAddr at h
  split at h
  · rename_i e n hu hn
    obtain ⟨k, rfl, rfl⟩ := toNat?_spec hn hi
    split at h
    · rename_i sz nl ex xs hs
      split at h
      · rename_i y hy
        split at h
        · rename_i hyl
          simp only [Option.some.injEq] at h; subst h
          obtain ⟨hlt, hye⟩ := getD_flat hy
          cases hx with
          | slnil => simp at hlt
          | sl0 _ => simp at hlt
          | sl sz' vs hne hx hc hsz hk hv =>
            rename_i B O c
            have hm : y ∈ xs := by rw [← hye]; exact List.getElem_mem _
            have hsz2 : sz' = sz := by rw [← hsz y hm]; exact hyl
            subst hsz2
            refine ⟨.pointer (some ⟨B, O + n * sz', none⟩), ?_, ?_⟩
            · have h1 : ((0 : Int) ≤ (n : Int) ∧ (n : Int) < (xs.length : Int)) := ⟨by omega, by omega⟩
              simp only [Instr.indexAt, asIntOf, Sem.run_bind, Sem.run_pure, Result.andThen_ok, run_und hu, run_sizeOf hs, if_pos h1, Sem.run_ite, Int.toNat_natCast, add_none]
            · have hg : ∀ p, p < y.cells.length → ∃ h : n * sz' + p < (flat xs).length, (flat xs)[n * sz' + p] = y.cells[p]! := by
                intro p hp
                have := flat_get hsz hy (q := p) (by omega)
                rw [List.getElem?_eq_getElem hp] at this
                obtain ⟨a, b⟩ := getD_flat this
                exact ⟨a, by rw [b]; simp [hp]⟩
              refine .cref (fun p => vs (n * sz' + p)) (fun p hp => ?_) (fun p hp => ?_)
              · obtain ⟨a, b⟩ := hg p hp
                have := hk _ a
                rw [Nat.add_assoc]; exact this
              · obtain ⟨a, b⟩ := hg p hp
                have := hv _ a
                rw [b] at this
                simpa [hp] using this
        · simp at h
      · simp at h
    · rename_i sz id off len gen hs
      split at h
      · rename_i sz' m xs hL
        split at h
        · rename_i hc
          obtain ⟨hg, hil, hsz⟩ := hc
          subst hg hsz
          simp only [Option.some.injEq] at h; subst h
          obtain ⟨hm, hszs, loc, hloc, hlo⟩ := hr.ok id _ hL
          cases hx with
          | own hid hl ha =>
            have hloc2 := hr.fn _ _ _ _ hid hloc
            subst hloc2
            rename_i c0 loc A0
            have h1 : ((0 : Int) ≤ (n : Int) ∧ (n : Int) < (len : Int)) := ⟨by omega, by omega⟩
            cases loc with
            | obj b => exact hlo.elim
            | blk b cap sz2 =>
              obtain ⟨hsz2, _⟩ := hlo
              subst hsz2
              obtain ⟨ha1, ha2, ha3⟩ := ha
              have hA := ha3.resolve_left (by omega)
              subst hA
              refine ⟨.pointer (some ⟨b, (off + n) * sz2 + 0, none⟩), ?_, .eref hid⟩
              simp only [Instr.indexAt, asIntOf, Sem.run_bind, Sem.run_pure, Result.andThen_ok, run_und hu, run_sizeOf hs, if_pos h1, Sem.run_ite, Int.toNat_natCast, add_none, Nat.add_mul, Nat.add_zero]
            | ext B O sz2 =>
              obtain ⟨hsz2, _⟩ := hlo
              subst hsz2
              obtain ⟨ha1, ha2⟩ := ha
              have hA := ha2.resolve_left (by omega)
              subst hA
              refine ⟨.pointer (some ⟨B, O + (off + n) * sz2 + 0, none⟩), ?_, .erefx hid⟩
              simp only [Instr.indexAt, asIntOf, Sem.run_bind, Sem.run_pure, Result.andThen_ok, run_und hu, run_sizeOf hs, if_pos h1, Sem.run_ite, Int.toNat_natCast, add_none, Nat.add_mul, Nat.add_zero, Nat.add_assoc]
        · simp at h
      · simp at h
    · rename_i id off len hs
      split at h
      · rename_i hil
        simp only [Option.some.injEq] at h; subst h
        cases hx with
        | bsl hid hc ha =>
          rename_i b c A
          have hA := ha.resolve_left (by omega)
          subst hA
          have h1 : ((0 : Int) ≤ (n : Int) ∧ (n : Int) < (len : Int)) := ⟨by omega, by omega⟩
          refine ⟨.pointer (some ⟨b, off + n, none⟩), ?_, .ref hid⟩
          simp only [Instr.indexAt, asIntOf, Sem.run_bind, Sem.run_pure, Result.andThen_ok, run_und hu, run_sizeOf hs, if_pos h1, Sem.run_ite, Int.toNat_natCast, add_none, Nat.mul_one]
      · simp at h
    · simp at h
  · rename_i n' e n hu hn
    obtain ⟨k, rfl, rfl⟩ := toNat?_spec hn hi
    split at h
    · rename_i sz id off hs
      split at h
      · rename_i hlt
        simp only [Option.some.injEq] at h; subst h
        cases hx with
        | ref hid =>
          rename_i b
          have h1 : ((0 : Int) ≤ (n : Int) ∧ (n : Int) < (n' : Int)) := ⟨by omega, by omega⟩
          refine ⟨.pointer (some ⟨b, off + n * sz, none⟩), ?_, .ref hid⟩
          simp only [Instr.indexAt, asIntOf, Instr.sureAddr, Sem.run_bind, Sem.run_pure, Result.andThen_ok, run_und hu, run_sizeOf hs, if_pos h1, Sem.run_ite, Int.toNat_natCast, add_none]
      · simp at h
    · rename_i sz cs hs
      split at h
      · rename_i hlt
        simp only [Option.some.injEq] at h; subst h
        cases hx with
        | cref vs hk hv =>
          rename_i B O
          have h1 : ((0 : Int) ≤ (n : Int) ∧ (n : Int) < (n' : Int)) := ⟨by omega, by omega⟩
          refine ⟨.pointer (some ⟨B, O + n * sz, none⟩), ?_, .cref (fun p => vs (n * sz + p)) (fun p hp => ?_) (fun p hp => ?_)⟩
          · simp only [Instr.indexAt, asIntOf, Instr.sureAddr, Sem.run_bind, Sem.run_pure, Result.andThen_ok, run_und hu, run_sizeOf hs, if_pos h1, Sem.run_ite, Int.toNat_natCast, add_none]
          · rw [Nat.add_assoc]; exact hk _ (by simp at hp; omega)
          · have := hv (n * sz + p) (by simp at hp; omega)
            simpa using this
      · simp at h
    · rename_i sz id gen a j hs
      split at h
      · rename_i hlt
        simp only [Option.some.injEq] at h; subst h
        have h1 : ((0 : Int) ≤ (n : Int) ∧ (n : Int) < (n' : Int)) := ⟨by omega, by omega⟩
        cases hx with
        | eref hid =>
          rename_i b cap sz2
          refine ⟨.pointer (some ⟨b, a * sz2 + (j + n * sz), none⟩), ?_, .eref hid⟩
          simp only [Instr.indexAt, asIntOf, Instr.sureAddr, Sem.run_bind, Sem.run_pure, Result.andThen_ok, run_und hu, run_sizeOf hs, if_pos h1, Sem.run_ite, Int.toNat_natCast, add_none, Nat.add_assoc]
        | erefx hid =>
          rename_i B O sz2
          refine ⟨.pointer (some ⟨B, O + a * sz2 + (j + n * sz), none⟩), ?_, .erefx hid⟩
          simp only [Instr.indexAt, asIntOf, Instr.sureAddr, Sem.run_bind, Sem.run_pure, Result.andThen_ok, run_und hu, run_sizeOf hs, if_pos h1, Sem.run_ite, Int.toNat_natCast, add_none, Nat.add_assoc]
      · simp at h
    · simp at h
  · simp at h

theorem part_sound {e : TypeId} {cs : List V} {vs : Array Value} {off : Nat} {v : V} (hn : vs.size = cs.length) (hv : ∀ p (h : p < cs.length), VR G cs[p] (vs.getD p undef))
    (h : (∃ sz, szT P e = some sz ∧ aggT P e = some true ∧ off + sz ≤ cs.length ∧ v = .agg ((cs.drop off).take sz)) ∨ ((szT P e).isSome ∧ aggT P e = some false ∧ cs[off]? = some v)) :
    ∃ q, (part e vs off).run P w = .ok q w ∧ VR G v q := by
  rcases h with ⟨sz, hs, ha, hle, rfl⟩ | ⟨hs, ha, hg⟩
  · refine ⟨.agg (vs.extract off (off + sz)), by simp [part, run_isAgg ha, run_sizeOf hs], .agg (by simp; omega) (fun p hp => ?_)⟩
    have := hv (off + p) (by simp at hp; omega)
    simp only [List.getElem_take, List.getElem_drop]
    have h2 : (vs.extract off (off + sz)).getD p undef = vs.getD (off + p) undef := by
      simp at hp
      have h3 : p < (vs.extract off (off + sz)).size := by simp; omega
      have h4 : off + p < vs.size := by omega
      simp only [Array.getD_eq_getD_getElem?, Array.getElem?_eq_getElem h3, Array.getElem?_eq_getElem h4, Option.getD_some, Array.getElem_extract]
    rw [h2]; exact this
  · obtain ⟨hlt, rfl⟩ := getD_flat hg
    have h4 : off < vs.size := by omega
    refine ⟨vs.getD off undef, ?_, hv off hlt⟩
    simp [part, run_isAgg ha, h4]

theorem index_sound {t : TypeId} {x i v : V} {r s : Value} (hx : VR G x r) (hi : VR G i s) (h : pindex P t x i = some v) :
    ∃ q, (Instr.index t r s).run P w = .ok q w ∧ VR G v q := by
  unfold pindex at h
  split at h
  · rename_i st n hu hn
    obtain ⟨k, rfl, rfl⟩ := toNat?_spec hn hi
    cases hx
    simp only [Option.map_eq_some_iff] at h
    obtain ⟨b, hb, rfl⟩ := h
    refine ⟨.int .u8 b.toNat, ?_, .int _ _⟩
    have h1 : (if (0 : Int) ≤ (n : Int) then st[(n : Int).toNat]? else none) = some b := by simp [hb]
    simp only [Instr.index, asIntOf, Sem.run_bind, Sem.run_pure, Result.andThen_ok, run_und hu, h1]
  · rename_i n' e cs n hu hn
    obtain ⟨k, rfl, rfl⟩ := toNat?_spec hn hi
    cases hx with
    | agg hsz hv =>
      rename_i vs
      have key : ∀ sz, szT P e = some sz → n < n' → (∃ q, (part e vs (n * sz)).run P w = .ok q w ∧ VR G v q) → ∃ q, (Instr.index t (.agg vs) (.int k n)).run P w = .ok q w ∧ VR G v q := by
        rintro sz hs hlt ⟨q, h1, h2⟩
        refine ⟨q, ?_, h2⟩
        have hb : ((0 : Int) ≤ (n : Int) ∧ (n : Int) < (n' : Int)) := ⟨by omega, by omega⟩
        simp only [Instr.index, asIntOf, Sem.run_bind, Sem.run_pure, Result.andThen_ok, run_und hu, Sem.run_ite, if_pos hb, run_sizeOf hs, Int.toNat_natCast, h1]
      split at h
      · rename_i sz hs ha
        split at h
        · rename_i hc
          simp only [Option.some.injEq] at h; subst h
          exact key sz hs hc.1 (part_sound hsz hv (.inl ⟨sz, hs, ha, by omega, rfl⟩))
        · simp at h
      · rename_i sz hs ha
        split at h
        · rename_i hc
          exact key sz hs hc (part_sound hsz hv (.inr ⟨by simp [hs], ha, h⟩))
        · simp at h
      · simp at h
  · simp at h

theorem fieldOf_spec {t : TypeId} {i : Nat} {f : Field} (h : fieldOf P t i = some f) : ∃ fs, P.underlying t = some (.struct fs) ∧ fs[i]? = some f := by
  unfold fieldOf at h
  split at h
  · exact ⟨_, by assumption, h⟩
  · simp at h

theorem fieldAddr_sound {t : TypeId} {x v : V} {i : Nat} {r : Value} (hx : VR G x r) (h : pfieldAddr P t x i = some v) :
    ∃ q, (Instr.fieldAt t r i).run P w = .ok q w ∧ VR G v q := by
  unfold pfieldAddr at h
  split at h
  · simp at h
  · rename_i f hf
    obtain ⟨fs, hu, hfs⟩ := fieldOf_spec hf
    split at h
    · simp at h
    · rename_i hs
      obtain ⟨n, hn, hn0⟩ : ∃ n, szT P f.type = some n ∧ n ≠ 0 := by
        cases hz : szT P f.type with
        | none => exact absurd (.inr hz) hs
        | some n => exact ⟨n, rfl, fun e => hs (.inl (by rw [hz, e]))⟩
      have key : ∀ B O, (Instr.fieldAt t (.pointer (some ⟨B, O, none⟩)) i).run P w = .ok (.pointer (some ⟨B, O + f.offset, none⟩)) w := by
        intro B O
        simp [Instr.fieldAt, run_und hu, hfs, Instr.sureAddr, fieldPlace, run_sizeOf hn, hn0, add_none]
      split at h
      · simp only [Option.some.injEq] at h; subst h
        cases hx with
        | ref hid => exact ⟨_, key _ _, .ref hid⟩
      · split at h
        · rename_i cs hle
          simp only [Option.some.injEq] at h; subst h
          cases hx with
          | cref vs hk hv =>
            refine ⟨_, key _ _, .cref (fun p => vs (f.offset + p)) (fun p hp => ?_) (fun p hp => ?_)⟩
            · rw [Nat.add_assoc]; exact hk _ (by simp at hp; omega)
            · have := hv (f.offset + p) (by simp at hp; omega)
              simpa using this
        · simp at h
      · simp only [Option.some.injEq] at h; subst h
        cases hx with
        | eref hid => exact ⟨_, key _ _, by rw [Nat.add_assoc]; exact .eref hid⟩
        | erefx hid => exact ⟨_, key _ _, by rw [Nat.add_assoc]; exact .erefx hid⟩
      · simp at h

theorem field_sound {t : TypeId} {x v : V} {i : Nat} {r : Value} (hx : VR G x r) (h : pfield P t x i = some v) :
    ∃ q, (Instr.field t r i).run P w = .ok q w ∧ VR G v q := by
  unfold pfield at h
  split at h
  · rename_i f cs hf
    obtain ⟨fs, hu, hfs⟩ := fieldOf_spec hf
    cases hx with
    | agg hn hv =>
      rename_i vs
      have key : (∃ q, (part f.type vs f.offset).run P w = .ok q w ∧ VR G v q) → ∃ q, (Instr.field t (.agg vs) i).run P w = .ok q w ∧ VR G v q := by
        rintro ⟨q, h1, h2⟩
        exact ⟨q, by simp [Instr.field, run_und hu, hfs, asAgg, h1], h2⟩
      split at h
      · rename_i sz hs ha
        split at h
        · rename_i hle
          simp only [Option.some.injEq] at h; subst h
          exact key (part_sound hn hv (.inl ⟨sz, hs, ha, hle, rfl⟩))
        · simp at h
      · rename_i sz hs ha
        exact key (part_sound hn hv (.inr ⟨by simp [hs], ha, h⟩))
      · simp at h
  · simp at h

theorem extract_sound {vs : List V} {v : V} {i : Nat} {r : Value} (hx : VR G (.tup vs) r) (h : vs[i]? = some v) :
    ∃ q, (Instr.extract r i).run P w = .ok q w ∧ VR G v q := by
  obtain ⟨hlt, rfl⟩ := getD_flat h
  cases hx with
  | tup hn hv =>
    rename_i qs
    have h4 : i < qs.size := by omega
    exact ⟨_, by simp [Instr.extract, h4]; rfl, by simpa [Array.getD_eq_getD_getElem?, h4] using hv i hlt⟩

/-! ### cuts -/
theorem pbounds_spec {len : Nat} {lo hi : Option V} {l h : Nat} (hb : pbounds len lo hi = some (l, h)) :
    l ≤ h ∧ h ≤ len ∧ (match lo with | some v => toNat? v = some l | none => l = 0) ∧ (match hi with | some v => toNat? v = some h | none => h = len) := by
  unfold pbounds at hb
  cases lo with
  | none =>
    cases hi with
    | none => simp at hb; omega
    | some v =>
      cases hv : toNat? v with
      | none => simp [hv] at hb
      | some n => simp [hv] at hb; obtain ⟨a, rfl, rfl⟩ := hb; exact ⟨Nat.zero_le _, a, rfl, hv⟩
  | some u =>
    cases hu : toNat? u with
    | none => simp [hu] at hb
    | some m =>
      cases hi with
      | none => simp [hu] at hb; obtain ⟨a, rfl, rfl⟩ := hb; exact ⟨a, Nat.le_refl _, hu, rfl⟩
      | some v =>
        cases hv : toNat? v with
        | none => simp [hv, hu] at hb
        | some n => simp [hv, hu] at hb; obtain ⟨⟨a, b⟩, rfl, rfl⟩ := hb; exact ⟨a, b, hu, hv⟩

def OptVR (G : Gh) (x : Option V) (r : Option Value) : Prop :=
  match x, r with
  | none, none => True
  | some v, some r => VR G v r
  | _, _ => False

/-- The bounds of a slice expression without a max, 'cap' being the real capacity. -/
theorem run_bounds {isS : Bool} {len cap : Nat} {lo hi : Option V} {rlo rhi : Option Value} {l h : Nat} (hlo : OptVR G lo rlo) (hhi : OptVR G hi rhi) (hc : len ≤ cap)
    (hb : pbounds len lo hi = some (l, h)) : (Instr.sliceBounds isS len cap rlo rhi none).run P w = .ok (l, h, cap) w := by
  obtain ⟨h1, h2, h3, h4⟩ := pbounds_spec hb
  have hbd : ∀ (k : IntKind) (n y : Nat) (code : BoundsCode), n ≤ y → (Instr.sliceBound (.int k n) y code).run P w = .ok n w := by
    intro k n y code hle
    have : ((0 : Int) ≤ (n : Int) ∧ (n : Int) ≤ (y : Int)) := ⟨by omega, by omega⟩
    simp only [Instr.sliceBound, asIntOf, Sem.run_bind, Sem.run_pure, Result.andThen_ok, Sem.run_ite, if_pos this, Int.toNat_natCast]
  cases lo with
  | none =>
    cases rlo with
    | some _ => exact hlo.elim
    | none =>
      simp only [] at h3; subst h3
      cases hi with
      | none =>
        cases rhi with
        | some _ => exact hhi.elim
        | none => simp only [] at h4; subst h4; simp [Instr.sliceBounds]
      | some v =>
        cases rhi with
        | none => exact hhi.elim
        | some r =>
          obtain ⟨k, rfl, rfl⟩ := toNat?_spec h4 hhi
          simp [Instr.sliceBounds, hbd k h cap _ (by omega)]
  | some u =>
    cases rlo with
    | none => exact hlo.elim
    | some ru =>
      obtain ⟨ku, rfl, rfl⟩ := toNat?_spec h3 hlo
      cases hi with
      | none =>
        cases rhi with
        | some _ => exact hhi.elim
        | none => simp only [] at h4; subst h4; simp [Instr.sliceBounds, hbd ku l h _ h1]
      | some v =>
        cases rhi with
        | none => exact hhi.elim
        | some r =>
          obtain ⟨k, rfl, rfl⟩ := toNat?_spec h4 hhi
          simp [Instr.sliceBounds, hbd k h cap _ (by omega), hbd ku l h _ h1]

theorem run_bounds3 {isS : Bool} {len cap m : Nat} {km : IntKind} {lo hi : Option V} {rlo rhi : Option Value} {l h : Nat} (hlo : OptVR G lo rlo) (hhi : OptVR G hi rhi) (hc : m ≤ cap)
    (hs : hi.isSome = true) (hb : pbounds m lo hi = some (l, h)) : (Instr.sliceBounds isS len cap rlo rhi (some (.int km m))).run P w = .ok (l, h, m) w := by
  obtain ⟨h1, h2, h3, h4⟩ := pbounds_spec hb
  have hbd : ∀ (k : IntKind) (n y : Nat) (code : BoundsCode), n ≤ y → (Instr.sliceBound (.int k n) y code).run P w = .ok n w := by
    intro k n y code hle
    have : ((0 : Int) ≤ (n : Int) ∧ (n : Int) ≤ (y : Int)) := ⟨by omega, by omega⟩
    simp only [Instr.sliceBound, asIntOf, Sem.run_bind, Sem.run_pure, Result.andThen_ok, Sem.run_ite, if_pos this, Int.toNat_natCast]
  cases hi with
  | none => simp at hs
  | some v =>
    cases rhi with
    | none => exact hhi.elim
    | some r =>
      obtain ⟨k, rfl, rfl⟩ := toNat?_spec h4 hhi
      cases lo with
      | none =>
        cases rlo with
        | some _ => exact hlo.elim
        | none =>
          simp only [] at h3; subst h3
          cases isS <;> simp [Instr.sliceBounds, hbd k h m _ h2, hbd km m cap _ hc]
      | some u =>
        cases rlo with
        | none => exact hlo.elim
        | some ru =>
          obtain ⟨ku, rfl, rfl⟩ := toNat?_spec h3 hlo
          cases isS <;> simp [Instr.sliceBounds, hbd k h m _ h2, hbd km m cap _ hc, hbd ku l h _ h1]

/-- A part of a slice that is only read. -/
theorem sl_sub {nl ex : Bool} {xs : List V} {A : Option Addr} {c sz l h m : Nat} (hx : VR G (.sl nl ex xs) (.slice A xs.length c)) (hlh : l ≤ h) (hhx : h ≤ xs.length)
    (hhm : h ≤ m) (hmc : m ≤ c) (hall : ∀ y ∈ xs, y.cells.length = sz) (ex' : Bool) (hex : ex' = true → m = h) (hnil : nl = true → ex' = true) :
    VR G (.sl nl ex' ((xs.take h).drop l)) (.slice (if m = l then A else A.map (·.add (l * sz))) (h - l) (m - l)) := by
  cases hx with
  | slnil =>
    have h1 : m = 0 := by simpa using hmc
    have h2 : h = 0 := by simpa using hhx
    subst h1 h2
    have h3 : l = 0 := by omega
    subst h3
    rw [hnil rfl]
    simpa using VR.slnil
  | sl0 h0 =>
    simp at hhx
    subst hhx
    have h3 : l = 0 := by omega
    subst h3
    simpa using VR.sl0 (G := G) (A := if m = 0 then A else A.map (·.add (0 * sz))) (c := m) (fun he => by have := hex he; omega)
  | sl sz' vs hne hxx hc hsz hk hv =>
    rename_i B O
    have hszz : sz' = sz := by
      cases xs with
      | nil => exact absurd rfl hne
      | cons a as => rw [← hsz a (by simp)]; exact hall a (by simp)
    subst hszz
    have hlen : ((xs.take h).drop l).length = h - l := by simp; omega
    by_cases hz : h - l = 0
    · have he : (xs.take h).drop l = [] := List.length_eq_zero_iff.1 (by omega)
      rw [he, hz]
      by_cases hm : m = l
      · simp only [hm, if_true]; exact .sl0 (fun _ => by omega)
      · simp only [hm, if_false, Option.map_some]; exact .sl0 (fun he => by have := hex he; omega)
    · have hm : m ≠ l := by omega
      simp only [hm, if_false, Option.map_some, add_none]
      have hflat : flat ((xs.take h).drop l) = ((flat xs).take (h * sz')).drop (l * sz') := by
        rw [flat_drop l (fun y hy => hsz y (List.mem_of_mem_take hy)), flat_take h hsz]
      have := VR.sl (G := G) (exact := ex') (xs := (xs.take h).drop l) (B := B) (O := O + l * sz') (c := m - l) sz' (fun p => vs (l * sz' + p))
        (fun he => by rw [he] at hlen; simp at hlen; omega) (fun he => by rw [hlen, hex he]) (by rw [hlen]; omega)
        (fun y hy => hsz y (List.mem_of_mem_take (List.mem_of_mem_drop hy)))
        (fun p hp => by
          rw [hflat] at hp
          have : l * sz' + p < (flat xs).length := by simp at hp; omega
          rw [Nat.add_assoc]; exact hk _ this)
        (fun p hp => by
          have hp' := hp
          rw [hflat] at hp'
          have hlt : l * sz' + p < (flat xs).length := by simp at hp'; omega
          have := hv _ hlt
          simpa [hflat] using this)
      rw [hlen] at this
      exact this

theorem slice_sound (hr : Rel Z G L w) {t : TypeId} {x v : V} {lo hi mx : Option V} {r : Value} {rlo rhi rmx : Option Value} (hx : VR G x r)
    (hlo : OptVR G lo rlo) (hhi : OptVR G hi rhi) (hmx : OptVR G mx rmx) (h : pslice P L t x lo hi mx = some v) :
    ∃ q, (Instr.sliceAt t r rlo rhi rmx).run P w = .ok q w ∧ VR G v q := by
  unfold pslice at h
  split at h
  · rename_i s hu
    cases rmx with
    | some _ => exact hmx.elim
    | none =>
      simp only [Option.map_eq_some_iff] at h
      obtain ⟨⟨l, h'⟩, hb, rfl⟩ := h
      cases hx
      have := run_bounds (P := P) (w := w) (isS := false) hlo hhi (Nat.le_refl _) hb
      exact ⟨_, by simp [Instr.sliceAt, run_und hu, Instr.slice, this], .str _⟩
  · rename_i e nl ex xs hu
    cases rmx with
    | some _ => exact hmx.elim
    | none =>
      split at h
      · rename_i sz hs
        split at h
        · rename_i hall
          simp only [Option.map_eq_some_iff] at h
          obtain ⟨⟨l, h'⟩, hb, rfl⟩ := h
          have hall' : ∀ y ∈ xs, y.cells.length = sz := by simpa using hall
          obtain ⟨h1, h2, _, _⟩ := pbounds_spec hb
          obtain ⟨A, c, rfl, hc, hex, hn⟩ : ∃ A c, r = .slice A xs.length c ∧ xs.length ≤ c ∧ (ex = true → c = xs.length) ∧ (nl = true → ex = true ∧ xs.length = 0) := by
            cases hx with
            | slnil => exact ⟨_, _, rfl, Nat.le_refl _, fun _ => rfl, fun _ => ⟨rfl, rfl⟩⟩
            | sl0 h0 => exact ⟨_, _, rfl, Nat.zero_le _, fun e => h0 e, by simp⟩
            | sl _ _ _ hxx hc => exact ⟨_, _, rfl, hc, hxx, by simp⟩
          have := run_bounds (P := P) (w := w) (isS := true) hlo hhi hc hb
          refine ⟨_, by simp only [Instr.sliceAt, Sem.run_bind, Sem.run_pure, Result.andThen_ok, run_und hu, Instr.slice, this, run_sizeOf hs]; rfl, ?_⟩
          refine sl_sub hx h1 h2 (by omega) (Nat.le_refl _) hall' _ (fun he => ?_) (fun he => ?_)
          · simp only [Bool.and_eq_true, beq_iff_eq] at he
            rw [hex he.1, he.2]
          · obtain ⟨ha, hb2⟩ := hn he
            simp only [ha, Bool.true_and, beq_iff_eq]; omega
        · simp at h
      · simp at h
  · rename_i e ex xs m hu
    cases rmx with
    | none => exact hmx.elim
    | some rm =>
      split at h
      · rename_i sz mm hs hm
        split at h
        · rename_i hall
          obtain ⟨hall, hml⟩ := hall
          split at h
          · rename_i l h' hb
            split at h
            · rename_i hsome
              simp only [Option.some.injEq] at h; subst h
              obtain ⟨km, rfl, rfl⟩ := toNat?_spec hm hmx
              have hall' : ∀ y ∈ xs, y.cells.length = sz := by simpa using hall
              obtain ⟨h1, h2, _, _⟩ := pbounds_spec hb
              obtain ⟨A, c, rfl, hc⟩ : ∃ A c, r = .slice A xs.length c ∧ xs.length ≤ c := by
                cases hx with
                | sl0 h0 => exact ⟨_, _, rfl, Nat.zero_le _⟩
                | sl _ _ _ hxx hc => exact ⟨_, _, rfl, hc⟩
              have := run_bounds3 (P := P) (w := w) (isS := true) (len := xs.length) (cap := c) (km := km) hlo hhi (by omega) hsome hb
              refine ⟨_, by simp only [Instr.sliceAt, Sem.run_bind, Sem.run_pure, Result.andThen_ok, run_und hu, Instr.slice, this, run_sizeOf hs]; rfl, ?_⟩
              exact sl_sub hx h1 (by omega) h2 (by omega) hall' _ (fun he => by simp at he; omega) (by simp)
            · simp at h
          · simp at h
        · simp at h
      · simp at h
  · rename_i e id off len gen hu
    cases rmx with
    | some _ => exact hmx.elim
    | none =>
      split at h
      · rename_i sz sz' m xs hs hL
        split at h
        · rename_i hcond
          obtain ⟨hszz, hgen⟩ := hcond
          subst hszz hgen
          simp only [Option.map_eq_some_iff] at h
          obtain ⟨⟨l, h'⟩, hb, rfl⟩ := h
          obtain ⟨h1, h2, _, _⟩ := pbounds_spec hb
          obtain ⟨hm, hszs, loc, hloc, hlo'⟩ := hr.ok id _ hL
          cases hx with
          | own hid hl ha =>
            have hloc2 := hr.fn _ _ _ _ hid hloc
            subst hloc2
            rename_i c0 loc A0
            have hlc : len ≤ c0 := by
              cases loc with
              | obj b => exact hlo'.elim
              | blk b cap sz2 => obtain ⟨a1, a2, _⟩ := ha; omega
              | ext B O sz2 => obtain ⟨a1, _⟩ := ha; omega
            have := run_bounds (P := P) (w := w) (isS := true) hlo hhi hlc hb
            refine ⟨_, by simp only [Instr.sliceAt, Sem.run_bind, Sem.run_pure, Result.andThen_ok, run_und hu, Instr.slice, this, run_sizeOf hs]; rfl, ?_⟩
            refine .own hid (by omega) ?_
            cases loc with
            | obj b => exact hlo'.elim
            | blk b cap sz2 =>
              obtain ⟨hs2, _⟩ := hlo'
              subst hs2
              obtain ⟨a1, a2, a3⟩ := ha
              refine ⟨by omega, a2, ?_⟩
              by_cases hz : c0 = l
              · left; omega
              · right
                have := a3.resolve_left (by omega)
                subst this
                simp only [hz, if_false, Option.map_some, add_none, Nat.add_mul]
            | ext B O sz2 =>
              obtain ⟨hs2, _⟩ := hlo'
              subst hs2
              obtain ⟨a1, a2⟩ := ha
              refine ⟨by omega, ?_⟩
              by_cases hz : c0 = l
              · left; omega
              · right
                have := a2.resolve_left (by omega)
                subst this
                simp only [hz, if_false, Option.map_some, add_none, Nat.add_mul, Nat.add_assoc]
        · simp at h
      · simp at h
  · rename_i e id off len hu
    cases rmx with
    | some _ => exact hmx.elim
    | none =>
      split at h
      · rename_i hs
        simp only [Option.map_eq_some_iff] at h
        obtain ⟨⟨l, h'⟩, hb, rfl⟩ := h
        obtain ⟨h1, h2, _, _⟩ := pbounds_spec hb
        cases hx with
        | bsl hid hc ha =>
          rename_i b c A
          have := run_bounds (P := P) (w := w) (isS := true) hlo hhi hc hb
          refine ⟨_, by simp only [Instr.sliceAt, Sem.run_bind, Sem.run_pure, Result.andThen_ok, run_und hu, Instr.slice, this, run_sizeOf hs]; rfl, ?_⟩
          refine .bsl hid (by omega) ?_
          by_cases hz : c = l
          · left; omega
          · right
            have := ha.resolve_left (by omega)
            subst this
            simp only [hz, if_false, Option.map_some, add_none, Nat.mul_one]
      · simp at h
  · rename_i n e id off hu
    cases rmx with
    | some _ => exact hmx.elim
    | none =>
      split at h
      · rename_i hs
        simp only [Option.map_eq_some_iff] at h
        obtain ⟨⟨l, h'⟩, hb, rfl⟩ := h
        obtain ⟨h1, h2, _, _⟩ := pbounds_spec hb
        cases hx with
        | ref hid =>
          rename_i b
          have := run_bounds (P := P) (w := w) (isS := false) hlo hhi (Nat.le_refl n) hb
          refine ⟨_, by simp only [Instr.sliceAt, Instr.sureAddr, Sem.run_bind, Sem.run_pure, Result.andThen_ok, run_und hu, Instr.slice, this, run_sizeOf hs, Option.map_some, add_none, Nat.mul_one]; rfl, ?_⟩
          refine .bsl hid (by omega) ?_
          by_cases hz : n = l
          · left; omega
          · right; simp only [hz, if_false]
      · simp at h
  · rename_i n e cs hu
    cases rmx with
    | some _ => exact hmx.elim
    | none =>
      split at h
      · rename_i hs
        simp only [Option.map_eq_some_iff] at h
        obtain ⟨⟨l, h'⟩, hb, rfl⟩ := h
        obtain ⟨h1, h2, _, _⟩ := pbounds_spec hb
        obtain ⟨hs, hnl, hone⟩ := hs
        cases hx with
        | cref vs hk hv =>
          rename_i B O
          have := run_bounds (P := P) (w := w) (isS := false) hlo hhi (Nat.le_refl n) hb
          refine ⟨_, by simp only [Instr.sliceAt, Instr.sureAddr, Sem.run_bind, Sem.run_pure, Result.andThen_ok, run_und hu, Instr.slice, this, run_sizeOf hs, Option.map_some, add_none, Nat.mul_one]; rfl, ?_⟩
          have hlen : ((cs.take h').drop l).length = h' - l := by simp; omega
          have hcells : ∀ ys : List V, (∀ y ∈ ys, y.one = true) → (∀ y ∈ ys, V.cells y = [y]) := by
            intro ys hy y hyy
            have := hy y hyy
            cases y <;> first | rfl | (simp [V.one] at this)
          have hfl : ∀ zs : List V, (∀ y ∈ zs, V.cells y = [y]) → flat zs = zs := by
            intro zs hz
            induction zs with
            | nil => rfl
            | cons z zs ih => rw [flat_cons, hz z (by simp), ih (fun y hy => hz y (by simp [hy]))]; rfl
          have hone' : ∀ y ∈ (cs.take h').drop l, y.one = true := fun y hy => List.all_eq_true.1 hone y (List.mem_of_mem_take (List.mem_of_mem_drop hy))
          by_cases hz : h' - l = 0
          · have he : (cs.take h').drop l = [] := List.length_eq_zero_iff.1 (by omega)
            rw [he, hz]
            split
            · exact .sl0 (fun _ => by omega)
            · exact .sl0 (fun he => by simp at he; omega)
          · have hm : n ≠ l := by omega
            simp only [hm, if_false]
            have hf := hfl _ (hcells _ hone')
            have := VR.sl (G := G) (exact := (h' == n)) (xs := (cs.take h').drop l) (B := B) (O := O + l) (c := n - l) 1 (fun p => vs (l + p))
              (fun he => by rw [he] at hlen; simp at hlen; omega) (fun he => by simp at he; omega) (by omega)
              (fun y hy => by rw [hcells _ hone' y hy]; rfl)
              (fun p hp => by rw [hf] at hp; rw [Nat.add_assoc]; exact hk _ (by omega))
              (fun p hp => by
                have hp' := hp
                rw [hf] at hp'
                have := hv (l + p) (by omega)
                simpa [hf] using this)
            rw [hlen] at this
            exact this
      · simp at h
  · simp at h
end Go.Pv
