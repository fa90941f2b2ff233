import Derived.Test.YtfjkplemepcmeaaG3
import Derived.Test.YtfjkplemepcmeaaPv24
import Derived.OpenShut
import Derived.WideShapes
set_option linter.unusedVariables false
set_option linter.unusedSimpArgs false
set_option linter.unusedSectionVars false
section
/- Laws over arguments that came in: slices of bytes. -/
set_option linter.unusedVariables false
namespace Go.Pv
open Go Go.ChangeShapes Go.WideShapes
variable {P : Program} {Z : Nat → Go.Obj → Prop}
/-- Every cell of the world at the call's start is known. -/
def Gh.all (w : World) : Gh := ⟨fun B o v => w.cell? ⟨B, o, Option.none⟩ = some v, fun _ _ _ => False⟩
theorem Rel.all {w : World} (hz : ∀ B o, Z B o → w.heap[B]? = some o) : Rel Z (Gh.all w) [] w where
  kc := fun _ _ _ h => h
  ok := fun id ob h => by simp at h
  fn := fun _ _ _ _ h => h.elim
  dis := fun id _ _ _ _ h => by simp at h
  kw := fun _ _ _ _ _ _ h => by simp at h
  rl := fun _ _ _ h => h.elim
  rg := fun _ _ _ _ _ _ h => h.elim
  zc := hz
  zh := fun B o _ ⟨id, ob, h, _⟩ => by simp at h
theorem SE.lawA {f : FuncId} {args : List V} {rargs : Array Value} {w : World} (h : SE P Z f args [] (.bool true) []) (hz : ∀ B o, Z B o → w.heap[B]? = some o) (ha : VRL (Gh.all w) args rargs) :
    Calls P f rargs w fun e w' => e = .returned (.bool true) ∧ Kept w w' := by
  refine (h.out.2 (Gh.all w) w rargs (Rel.all hz) ha).calls.mono ?_
  rintro e w' ⟨v, rfl, G', L', u, ⟨rfl, rfl⟩, _, he, hv⟩
  cases hv
  refine ⟨rfl, ?_⟩
  have hk : ∀ B, B < w.heap.size → w'.heap[B]? = w.heap[B]? := fun B hB => he.keep B hB fun ⟨id, ob, h, _⟩ => by simp at h
  exact ⟨he.io.1, he.io.2, he.size, hk⟩
theorem cell_block {w : World} {a : Addr} {v : Value} (h : w.cell? a = some v) : a.block < w.heap.size := by
  unfold World.cell? at h
  by_cases hb : a.block < w.heap.size
  · exact hb
  · rw [Array.getElem?_eq_none (by omega)] at h
    cases h
/-- A slice of bytes that came in. -/
theorem open_gB {H : Type} {enc : TypeId × Value → H} {W : World} {base : Nat} {t e : TypeId} {v : Value} {d : DataW H} {ps : List MemPlace} (ht : P.underlying t = some (.slice e)) (he : P.underlying e = some (.int .u8)) (hc : P.cellsOf e = 1)
    (hval : Value.okWide P W .any base t v) (h : DataW.Trod enc P W 0 (fun _ => true) true t v d ps) :
    ∃ l : List UInt8, VR (Gh.all W) (gB l) v ∧ ∀ x ∈ ps, x.block < W.heap.size := by
  obtain ⟨a1, len, cap, rfl⟩ := okWide_slice ht hval
  obtain ⟨fuel, hf⟩ := h
  rcases open_ints ht he hc hf with ⟨hcs, hx⟩ | ⟨a, len', cap', zs, hcs, _, hl, hm, hz, hx, hcell, hwz⟩
  · simp [Value.cells] at hcs
    obtain ⟨rfl, rfl, rfl⟩ := hcs
    simp only [Prod.mk.injEq] at hx
    obtain ⟨rfl, rfl⟩ := hx
    exact ⟨[], .sl0 (by simp), fun _ h => by cases h⟩
  · simp [Value.cells] at hcs
    obtain ⟨rfl, rfl, rfl⟩ := hcs
    simp only [Prod.mk.injEq] at hx
    obtain ⟨rfl, rfl⟩ := hx
    simp only [if_true] at hz
    have hlen : ((zs.take len).map fun n => UInt8.ofNat n.toNat).length = len := by simp; omega
    refine ⟨(zs.take len).map fun n => UInt8.ofNat n.toNat, ?_, fun x hx => ?_⟩
    · by_cases h0 : len = 0
      · subst h0
        exact .sl0 (by simp)
      · obtain ⟨ab, ao, spot⟩ := a
        have hspot : spot = none := by simpa [Addr.add] using World.cell?_spot (hcell 0 (by omega))
        subst hspot
        have hfl : flat (((zs.take len).map fun n => UInt8.ofNat n.toNat).map g8) = ((zs.take len).map fun n => UInt8.ofNat n.toNat).map g8 := by
          unfold flat
          generalize (zs.take len).map (fun n => UInt8.ofNat n.toNat) = l
          induction l with
          | nil => rfl
          | cons b l ih => rw [List.map_cons, List.flatMap_cons, ih]; rfl
        have hr := VR.sl (G := Gh.all W) (exact := false) (xs := ((zs.take len).map fun n => UInt8.ofNat n.toNat).map g8) (B := ab) (O := ao) (c := cap) 1 (fun p => .int .u8 (zs.getD p 0))
          (by intro hn; have := congrArg List.length hn; rw [List.length_map, hlen] at this; exact h0 this) (by simp) (by rw [List.length_map, hlen]; exact hl)
          (by intro x hx; obtain ⟨b, _, rfl⟩ := List.mem_map.1 hx; rfl)
          (by
            intro p hp
            rw [hfl, List.length_map, hlen] at hp
            have := hcell p (by omega)
            rw [add_plain] at this
            exact this)
          (by
            intro p hp
            have hp' := hp
            rw [hfl, List.length_map, hlen] at hp'
            have e1 : (flat (((zs.take len).map fun n => UInt8.ofNat n.toNat).map g8))[p] = .int .u8 (zs.getD p 0) := by
              simp only [hfl, List.getElem_map, List.getElem_take]
              have hw := hwz zs[p] (List.getElem_mem (by omega))
              simp [Lit.wf, IntKind.min, IntKind.max, IntKind.signed, IntKind.bits] at hw
              unfold g8
              rw [UInt8.toNat_ofNat', Nat.mod_eq_of_lt (by omega), List.getD_eq_getElem?_getD, List.getElem?_eq_getElem (show p < zs.length by omega)]
              show V.int _ (((zs[p]).toNat : Nat) : Int) = V.int _ zs[p]
              rw [Int.toNat_of_nonneg (by omega)]
            rw [e1]
            exact .int .u8 _)
        rw [List.length_map, hlen] at hr
        exact hr
    · simp only [MemPlace.row, List.mem_map] at hx
      obtain ⟨i, hi, rfl⟩ := hx
      have := cell_block (hcell i (by simpa using hi))
      rw [block_add] at this
      exact this
/-- An argument list, one behind the other. -/
theorem VRL.one {G : Gh} {v : V} {r : Value} (h : VR G v r) : VRL G [v] #[r] := ⟨rfl, fun p hp => by match p, hp with | 0, _ => exact h⟩
theorem VRL.two {G : Gh} {v v' : V} {r r' : Value} (h : VR G v r) (h' : VR G v' r') : VRL G [v, v'] #[r, r'] := ⟨rfl, fun p hp => by
  match p, hp with
  | 0, _ => exact h
  | 1, _ => exact h'⟩
theorem VRL.three {G : Gh} {v v' v'' : V} {r r' r'' : Value} (h : VR G v r) (h' : VR G v' r') (h'' : VR G v'' r'') : VRL G [v, v', v''] #[r, r', r''] := ⟨rfl, fun p hp => by
  match p, hp with
  | 0, _ => exact h
  | 1, _ => exact h'
  | 2, _ => exact h''⟩
end Go.Pv
end
section
/- One place where all operations are reckoned ('popI'), and steps that go on by themselves ('go', 'sp', 'fin'). -/
set_option linter.unusedVariables false
set_option linter.unusedSimpArgs false
set_option linter.unusedSectionVars false
namespace Go.Pv
variable {P : Program} {Z : Nat → Go.Obj → Prop}
structure PI (P : Program) (L : List Obj) (env : Nat → V) (op : Op) (v : V) (L' : List Obj) : Prop where
  out : pop P L (St.ev ⟨env, L⟩) op = some (v, L')
section
variable {env : Nat → V} {L L' : List Obj} {t e u : TypeId} {x s i y : Operand} {id sz m gen len off n : Nat} {k k' : IntKind} {nl ex : Bool} {α : Type} [Inhabited α] {g : α → V} {l l2 : List α} {c a b : Int} {ats : Array TypeId} {cs xs : List V} {v : V}
theorem I.mv (h : St.ev ⟨env, L⟩ x = v) : PI P L env (.move x) v L := ⟨by rw [← h]; rfl⟩
theorem I.as (h : St.ev ⟨env, L⟩ x = v) : PI P L env (.assign x) v L := ⟨by rw [← h]; rfl⟩
theorem I.go {op : Op} {v0 : V} {L0 : List Obj} (h : pop P L (St.ev ⟨env, L⟩) op = some (v0, L0)) (hv : v0 = v) (hL : L0 = L') : PI P L env op v L' := ⟨by rw [h, hv, hL]⟩
theorem I.add (hx : St.ev ⟨env, L⟩ x = .int .i64 a) (hy : St.ev ⟨env, L⟩ y = .int .i64 b) (h : -9223372036854775808 ≤ a + b ∧ a + b ≤ 9223372036854775807) : PI P L env (.binOp .add t x y u) (.int .i64 (a + b)) L :=
  ⟨by simp [pop, hx, hy, pbin, pint, w64R h]⟩
theorem I.sub (hx : St.ev ⟨env, L⟩ x = .int .i64 a) (hy : St.ev ⟨env, L⟩ y = .int .i64 b) (h : -9223372036854775808 ≤ a - b ∧ a - b ≤ 9223372036854775807) : PI P L env (.binOp .sub t x y u) (.int .i64 (a - b)) L :=
  ⟨by simp [pop, hx, hy, pbin, pint, w64R h]⟩
theorem I.mul (hx : St.ev ⟨env, L⟩ x = .int .i64 a) (hy : St.ev ⟨env, L⟩ y = .int .i64 b) (h : -9223372036854775808 ≤ a * b ∧ a * b ≤ 9223372036854775807) : PI P L env (.binOp .mul t x y u) (.int .i64 (a * b)) L :=
  ⟨by simp [pop, hx, hy, pbin, pint, w64R h]⟩
theorem I.rem (hx : St.ev ⟨env, L⟩ x = .int k a) (hy : St.ev ⟨env, L⟩ y = .int k b) (h : 0 ≤ a ∧ 0 < b) : PI P L env (.binOp .rem t x y u) (.int k (a % b)) L :=
  ⟨by simp [pop, hx, hy, pbin, pint, show b ≠ 0 by omega, Int.tmod_eq_emod_of_nonneg h.1]⟩
theorem I.quo (hx : St.ev ⟨env, L⟩ x = .int .i64 a) (hy : St.ev ⟨env, L⟩ y = .int .i64 b) (h : 0 ≤ a ∧ 0 < b ∧ a ≤ 9223372036854775807) : PI P L env (.binOp .quo t x y u) (.int .i64 (a / b)) L :=
  ⟨by simp [pop, hx, hy, pbin, pint, show b ≠ 0 by omega, quo_in h]⟩
theorem I.shl (hx : St.ev ⟨env, L⟩ x = .int k a) (hy : St.ev ⟨env, L⟩ y = .int k' b) (hb : 0 ≤ b) : PI P L env (.binOp .shl t x y u) (.int k (k.wrap (a * 2 ^ (min b.toNat k.bits)))) L := ⟨pop_shl hx hy hb⟩
theorem I.shr (hx : St.ev ⟨env, L⟩ x = .int k a) (hy : St.ev ⟨env, L⟩ y = .int k' b) (hb : 0 ≤ b) : PI P L env (.binOp .shr t x y u) (.int k (a.fdiv (2 ^ (min b.toNat k.bits)))) L := ⟨pop_shr hx hy hb⟩
theorem I.shlN {n : Nat} (hx : St.ev ⟨env, L⟩ x = .int .i64 a) (hy : St.ev ⟨env, L⟩ y = .int k' (n : Int)) (h : n ≤ 62 ∧ -9223372036854775808 ≤ a * 2 ^ n ∧ a * 2 ^ n ≤ 9223372036854775807) : PI P L env (.binOp .shl t x y u) (.int .i64 (a * 2 ^ n)) L := ⟨by
  rw [pop_shl hx hy (Int.natCast_nonneg _), Int.toNat_natCast, show min n IntKind.i64.bits = n from Nat.min_eq_left (by have : IntKind.i64.bits = 64 := rfl; omega), w64R h.2]⟩
theorem I.shrN {n : Nat} (hx : St.ev ⟨env, L⟩ x = .int .i64 a) (hy : St.ev ⟨env, L⟩ y = .int k' (n : Int)) (h : n ≤ 62 ∧ 0 ≤ a) : PI P L env (.binOp .shr t x y u) (.int .i64 (a / 2 ^ n)) L := ⟨by
  rw [pop_shr hx hy (Int.natCast_nonneg _), Int.toNat_natCast, show min n IntKind.i64.bits = n from Nat.min_eq_left (by have : IntKind.i64.bits = 64 := rfl; omega), Int.fdiv_eq_ediv_of_nonneg _ (Int.le_of_lt (Int.pow_pos (by decide)))]⟩
theorem I.shrU {n : Nat} (hx : St.ev ⟨env, L⟩ x = .int .u64 a) (hy : St.ev ⟨env, L⟩ y = .int k' (n : Int)) (h : n ≤ 62 ∧ 0 ≤ a) : PI P L env (.binOp .shr t x y u) (.int .u64 (a / 2 ^ n)) L := ⟨by
  rw [pop_shr hx hy (Int.natCast_nonneg _), Int.toNat_natCast, show min n IntKind.u64.bits = n from Nat.min_eq_left (by have : IntKind.u64.bits = 64 := rfl; omega), Int.fdiv_eq_ediv_of_nonneg _ (Int.le_of_lt (Int.pow_pos (by decide)))]⟩
theorem I.xor8 {a b : UInt8} (hx : St.ev ⟨env, L⟩ x = g8 a) (hy : St.ev ⟨env, L⟩ y = g8 b) : PI P L env (.binOp .xor t x y u) (g8 (a ^^^ b)) L := ⟨by simp only [pop, hx, hy, g8, pbin, if_true]; rw [xor8v]; rfl⟩
theorem I.and8 {a b : UInt8} (hx : St.ev ⟨env, L⟩ x = g8 a) (hy : St.ev ⟨env, L⟩ y = g8 b) : PI P L env (.binOp .and t x y u) (g8 (a &&& b)) L := ⟨by simp only [pop, hx, hy, g8, pbin, if_true]; rw [and8v]; rfl⟩
theorem I.or8 {a b : UInt8} (hx : St.ev ⟨env, L⟩ x = g8 a) (hy : St.ev ⟨env, L⟩ y = g8 b) : PI P L env (.binOp .or t x y u) (g8 (a ||| b)) L := ⟨by simp only [pop, hx, hy, g8, pbin, if_true]; rw [or8v]; rfl⟩
theorem I.cv {dd : TypeDesc} (hx : St.ev ⟨env, L⟩ x = .int k' a) (hu : P.underlying t = some dd) (hu' : P.underlying u = some (.int k)) (h : k.wrap a = a) : PI P L env (.convert t u x) (.int k a) L :=
  ⟨by simp only [pop, pconv, hx, hu, hu', h]; rfl⟩
theorem I.cvS {l : List UInt8} (hx : St.ev ⟨env, L⟩ x = .sl nl ex (l.map g8)) (hs : P.underlying t = some (.slice e)) (he : P.underlying e = some (.int .u8)) (hsz : szT P e = some 1) (hb : P.underlying u = some .string) :
    PI P L env (.convert t u x) (.str (bS l)) L := ⟨pop_cvS (by rw [hx]; rfl) hs he hsz hb (by simp [hx]) (by simp [hx])⟩
theorem I.lnS (hx : St.ev ⟨env, L⟩ x = .sl nl ex (l.map g)) (ht : ats[0]? = some t) (hu : P.underlying t = some (.slice e)) : PI P L env (.call ⟨.builtin .len, #[x], ats⟩) (.int .i64 (l.length : Nat)) L := ⟨by simp [pop, pbuiltin, hx, ht, hu]⟩
theorem I.lnL (hx : St.ev ⟨env, L⟩ x = .own id off (l.map g).length gen) (ht : ats[0]? = some t) (hu : P.underlying t = some (.slice e)) : PI P L env (.call ⟨.builtin .len, #[x], ats⟩) (.int .i64 (l.length : Nat)) L := ⟨by simp [pop, pbuiltin, hx, ht, hu]⟩
theorem I.lnN (hx : St.ev ⟨env, L⟩ x = .own id off n gen) (ht : ats[0]? = some t) (hu : P.underlying t = some (.slice e)) : PI P L env (.call ⟨.builtin .len, #[x], ats⟩) (.int .i64 (n : Nat)) L := ⟨by simp [pop, pbuiltin, hx, ht, hu]⟩
theorem I.min {p q : Int} (hx : St.ev ⟨env, L⟩ x = .int k p) (hy : St.ev ⟨env, L⟩ y = .int k q) : PI P L env (.call ⟨.builtin .min, #[x, y], ats⟩) (.int k (min p q)) L := ⟨by
  simp only [pop, pbuiltin, List.map_cons, List.map_nil, hx, hy, pminmax, pmm]
  have : (if q < p then q else p) = Min.min p q := by rw [Int.min_def]; split <;> split <;> omega
  simp [this]⟩
theorem I.max {p q : Int} (hx : St.ev ⟨env, L⟩ x = .int k p) (hy : St.ev ⟨env, L⟩ y = .int k q) : PI P L env (.call ⟨.builtin .max, #[x, y], ats⟩) (.int k (max p q)) L := ⟨by
  simp only [pop, pbuiltin, List.map_cons, List.map_nil, hx, hy, pminmax, pmm]
  have : (if q > p then q else p) = Max.max p q := by rw [Int.max_def]; split <;> split <;> omega
  simp [this]⟩
theorem I.iaS (hx : St.ev ⟨env, L⟩ x = .sl nl ex (l.map g)) (hi : St.ev ⟨env, L⟩ i = .int k c) (h : 0 ≤ c ∧ c < (l.length : Int)) (hte : P.underlying t = some (.slice e)) (hsz : szT P e = some sz) (hy : (g (rd l c)).cells.length = sz) :
    PI P L env (.indexAddr t x i) (.cref (g (rd l c)).cells) L := ⟨pop_iaS hx hi h hte hsz hy⟩
theorem I.iaN (hx : St.ev ⟨env, L⟩ x = .own id 0 n n) (hi : St.ev ⟨env, L⟩ i = .int k c) (h : 0 ≤ c ∧ c < (n : Int)) (hL : L[id]? = some (.buf sz m (l.map g))) (hn : l.length = n) (hte : P.underlying t = some (.slice e)) (hsz : szT P e = some sz) :
    PI P L env (.indexAddr t x i) (.eref id n c.toNat 0) L := ⟨pop_iaN hx hi h hL hn hte hsz⟩
theorem I.iaR (hx : St.ev ⟨env, L⟩ x = .ref id 0) (hi : St.ev ⟨env, L⟩ i = .int k c) (h : 0 ≤ c ∧ c < (n : Int)) (hte : P.underlying t = some (.array n e)) (hsz : szT P e = some 1) :
    PI P L env (.indexAddr t x i) (.ref id c.toNat) L := ⟨pop_iaR1 hx hi h hte hsz⟩
theorem I.iaC (hx : St.ev ⟨env, L⟩ x = .cref (l.map g)) (hi : St.ev ⟨env, L⟩ i = .int k c) (h : 0 ≤ c ∧ c < (n : Int)) (hl : c < (l.length : Int)) (hte : P.underlying t = some (.array n e)) (hsz : szT P e = some 1) :
    PI P L env (.indexAddr t x i) (.cref ((l.map g).drop c.toNat)) L := ⟨pop_iaC1 hx hi h hl hte hsz⟩
theorem I.ixA (hx : St.ev ⟨env, L⟩ x = .agg (l.map g)) (hi : St.ev ⟨env, L⟩ i = .int k c) (h : 0 ≤ c ∧ c < (n : Int)) (hl : c < (l.length : Int)) (hte : P.underlying t = some (.array n e)) (hsz : szT P e = some 1) (ha : aggT P e = some false) :
    PI P L env (.index t x i) (g (rd l c)) L := ⟨pop_ixA hx hi h hl hte hsz ha⟩
/-- An element of an own slice: its cells from one on. -/
theorem pcells_eref (hL : L[id]? = some (.buf sz m (l.map g))) (hn : l.length = n) (h : 0 ≤ c ∧ c < (n : Int)) {j : Nat} : pcells L (.eref id n c.toNat j) = some ((g (rd l c)).cells.drop j) := by
  have h1 := map_rd (g := g) (l := l) (c := c) (by omega)
  simp only [pcells, hL, h1, List.length_map, hn, if_true, Option.map_some]
theorem I.ldN (hx : St.ev ⟨env, L⟩ x = .eref id n c.toNat off) (hL : L[id]? = some (.buf sz m (l.map g))) (hn : l.length = n) (h : 0 ≤ c ∧ c < (n : Int)) (hsz : szT P t = some len) (ha : aggT P t = some false) (hv : ((g (rd l c)).cells.drop off)[0]? = some v) :
    PI P L env (.load t x) v L := ⟨by simp only [pop, pload, hx, pcells_eref hL hn h, hsz, ha, hv]; rfl⟩
theorem I.ldA (hx : St.ev ⟨env, L⟩ x = .eref id n c.toNat off) (hL : L[id]? = some (.buf sz m (l.map g))) (hn : l.length = n) (h : 0 ≤ c ∧ c < (n : Int)) (hsz : szT P t = some len) (ha : aggT P t = some true) (hl : decide (len ≤ ((g (rd l c)).cells.drop off).length) = true) (hv : ((g (rd l c)).cells.drop off).take len = cs) :
    PI P L env (.load t x) (.agg cs) L := ⟨by simp only [pop, pload, hx, pcells_eref hL hn h, hsz, ha, hv]; rw [if_pos (of_decide_eq_true hl)]; rfl⟩
theorem I.ldR (hx : St.ev ⟨env, L⟩ x = .ref id c.toNat) (hL : L[id]? = some (.box (l.map g))) (h : 0 ≤ c ∧ c < (l.length : Int)) (hsz : szT P t = some 1) (ha : aggT P t = some false) : PI P L env (.load t x) (g (rd l c)) L := ⟨pop_ldR hx hL h hsz ha⟩
theorem I.ldC (hx : St.ev ⟨env, L⟩ x = .cref ((l.map g).drop c.toNat)) (h : 0 ≤ c ∧ c < (l.length : Int)) (hsz : szT P t = some 1) (ha : aggT P t = some false) : PI P L env (.load t x) (g (rd l c)) L := ⟨pop_ldC hx h hsz ha⟩
theorem I.ldW (hx : St.ev ⟨env, L⟩ x = .ref id 0) (hL : L[id]? = some (.box cs)) (hn : cs.length = n) (hsz : szT P t = some n) (ha : aggT P t = some true) : PI P L env (.load t x) (.agg cs) L := ⟨pop_ldW hx hL hn hsz ha⟩
/-- An element, or a part of it, is written. -/
theorem I.stE (a : α) (hx : St.ev ⟨env, L⟩ x = .eref id n c.toNat off) (hL : L[id]? = some (.buf sz m (l.map g))) (hn : l.length = n) (h : 0 ≤ c ∧ c < (n : Int)) (hy : St.ev ⟨env, L⟩ y = v) (ha : setElem (g (rd l c)) off v.cells = g a) (hm : m ≤ c.toNat)
    (hsz : szT P t = some v.cells.length) (ho : v.cells.all V.one = true) (hj : decide (off + v.cells.length ≤ sz ∧ 0 < v.cells.length) = true) (hL' : L.set id (.buf sz m ((l.set c.toNat a).map g)) = L') : PI P L env (.store t x y) .undef L' := ⟨by
  have h1 := map_rd (g := g) (l := l) (c := c) (by omega)
  have hj := of_decide_eq_true hj
  subst hL'
  simp only [pop, pstore, hx, hy]
  rw [if_pos ⟨hsz, ho⟩]
  simp only [hL, h1]
  rw [if_pos ⟨by simp [hn], hm, hj.1, hj.2⟩]
  simp [ha, List.map_set]⟩
theorem I.stR (a : α) (hx : St.ev ⟨env, L⟩ x = .ref id c.toNat) (hL : L[id]? = some (.box (l.map g))) (hy : St.ev ⟨env, L⟩ y = g a) (h : 0 ≤ c ∧ c < (l.length : Int)) (hc : (g a).cells = [g a]) (ho : (g a).one = true) (hsz : szT P t = some 1)
    (hL' : L.set id (.box ((l.set c.toNat a).map g)) = L') : PI P L env (.store t x y) .undef L' := ⟨by rw [← hL']; exact pop_stR hx hL hy h hc ho hsz⟩
/-! more elements -/
structure El (P : Program) (ats : Array TypeId) (g : α → V) (sz : Nat) : Prop where
  ok : ∃ t u e z, ats[0]? = some t ∧ ats[1]? = some u ∧ (match P.underlying u with | some (.slice _) => true | some .string => true | _ => false) = true ∧ P.underlying t = some (.slice e) ∧ szT P e = some sz ∧ zeroV P e = some z ∧ z.cells.length = sz ∧ byT P e ≤ 1000
  pos : 0 < sz
  one : ∀ a, ((g a).cells.length == sz && (g a).cells.all V.one) = true
theorem El.mk' {z : V} (h1 : ats[0]? = some t) (h2 : ats[1]? = some u) (h3 : (match P.underlying u with | some (.slice _) => true | some .string => true | _ => false) = true) (h4 : P.underlying t = some (.slice e)) (h5 : szT P e = some sz) (h6 : zeroV P e = some z)
    (h7 : z.cells.length = sz) (h8 : byT P e ≤ 1000) (h9 : 0 < sz) (h10 : ∀ a : α, ((g a).cells.length == sz && (g a).cells.all V.one) = true) : El P ats g sz := ⟨⟨t, u, e, z, h1, h2, h3, h4, h5, h6, h7, h8⟩, h9, h10⟩
theorem all_map {p : V → Bool} (h : ∀ a, p (g a) = true) : ∀ l : List α, (l.map g).all p = true := fun l => by simp [h]
theorem I.ap (l2 : List α) (hx : elems L (St.ev ⟨env, L⟩ x) = some (l2.map g)) (hs : St.ev ⟨env, L⟩ s = .own id 0 n n) (hL : L[id]? = some (.buf sz m (l.map g))) (hn : l.length = n) (hb : l.length + l2.length ≤ 1000000000) (he : El P ats g sz)
    (hL' : L.set id (.buf sz m ((l ++ l2).map g)) = L') : PI P L env (.call ⟨.builtin .append, #[s, x], ats⟩) (.own id 0 (l ++ l2).length (l ++ l2).length) L' := ⟨by
  subst hL' hn
  obtain ⟨t, u, e, z, h1, h2, h3, h4, h5, h6, h7, h8⟩ := he.ok
  have hs' : St.ev ⟨env, L⟩ s = .own id 0 (l.map g).length (l.map g).length := by rw [hs, List.length_map]
  have := pop_app_own (P := P) (env := env) (L := L) (ats := ats) (x := x) (s := s) h1 h2 h3 h4 h5 h6 h7 he.pos hs' hL hx (all_map he.one _) (by
    simp only [List.length_map]
    have : (l.length + l2.length) * byT P e ≤ 1000000000 * 1000 := Nat.mul_le_mul hb h8
    omega) (by simp only [List.length_map]; omega)
  rw [this]; simp⟩
theorem I.apN (l2 : List α) (hx : elems L (St.ev ⟨env, L⟩ x) = some (l2.map g)) (hs : St.ev ⟨env, L⟩ s = .sl nl true (l.map g)) (hb : l.length + l2.length ≤ 1000000000) (he : El P ats g sz)
    (hL' : L ++ [.buf sz l.length ((l ++ l2).map g)] = L') : PI P L env (.call ⟨.builtin .append, #[s, x], ats⟩) (.own L.length 0 (l ++ l2).length (l ++ l2).length) L' := ⟨by
  subst hL'
  obtain ⟨t, u, e, z, h1, h2, h3, h4, h5, h6, h7, h8⟩ := he.ok
  have := pop_app_sl (P := P) (env := env) (L := L) (ats := ats) (x := x) (s := s) h1 h2 h3 h4 h5 h6 h7 he.pos hs (by simp; intro a _; have := he.one a; simp at this; exact this.1) hx (all_map he.one _) (by
    simp only [List.length_map]
    have : (l.length + l2.length) * byT P e ≤ 1000000000 * 1000 := Nat.mul_le_mul hb h8
    omega) (by simp only [List.length_map]; omega)
  rw [this]; simp⟩
theorem I.apE (l2 : List α) (hx : elems L (St.ev ⟨env, L⟩ x) = some (l2.map g)) (hs : St.ev ⟨env, L⟩ s = .sl nl true []) (hb : l2.length ≤ 1000000000) (he : El P ats g sz)
    (hL' : L ++ [.buf sz 0 (l2.map g)] = L') : PI P L env (.call ⟨.builtin .append, #[s, x], ats⟩) (.own L.length 0 l2.length l2.length) L' := by
  have := I.apN (P := P) (l := []) (s := s) (ats := ats) (L' := L') l2 hx (by simpa using hs) (by simpa using hb) he (by simpa using hL')
  simpa using this
/-! parts -/
theorem I.slB {lo hi : Operand} {p q : Int} (hx : St.ev ⟨env, L⟩ x = .sl false false (l.map g)) (hlo : St.ev ⟨env, L⟩ lo = .int k p) (hhi : St.ev ⟨env, L⟩ hi = .int k' q) (h : 0 ≤ p ∧ p ≤ q ∧ q ≤ (l.length : Int)) (hte : P.underlying t = some (.slice e)) (hsz : szT P e = some sz) (hg : ∀ a, (g a).cells.length = sz) :
    PI P L env (.slice t x (some lo) (some hi) none) (.sl false false (((l.take q.toNat).drop p.toNat).map g)) L := ⟨pop_sl2 hx hlo hhi h hg hte hsz⟩
theorem I.slH {hi : Operand} {q : Int} (hx : St.ev ⟨env, L⟩ x = .sl false false (l.map g)) (hhi : St.ev ⟨env, L⟩ hi = .int k' q) (h : 0 ≤ q ∧ q ≤ (l.length : Int)) (hte : P.underlying t = some (.slice e)) (hsz : szT P e = some sz) (hg : ∀ a, (g a).cells.length = sz) :
    PI P L env (.slice t x none (some hi) none) (.sl false false ((l.take q.toNat).map g)) L := ⟨by
  have h2 : (0 : Int) ≤ q := h.1
  have h3 : q.toNat ≤ l.length := by omega
  simp only [pop, Option.map_some, Option.map_none, pslice, hte, hx, hsz, hhi]
  rw [if_pos (show (l.map g).all (fun y => y.cells.length == sz) = true by simp [hg])]
  simp [pbounds, toNat?, h2, h3, List.map_take]⟩
theorem I.slL {lo : Operand} {p : Int} (hx : St.ev ⟨env, L⟩ x = .sl false false (l.map g)) (hlo : St.ev ⟨env, L⟩ lo = .int k p) (h : 0 ≤ p ∧ p ≤ (l.length : Int)) (hte : P.underlying t = some (.slice e)) (hsz : szT P e = some sz) (hg : ∀ a, (g a).cells.length = sz) :
    PI P L env (.slice t x (some lo) none none) (.sl false false ((l.drop p.toNat).map g)) L := ⟨by
  have h2 : (0 : Int) ≤ p := h.1
  have h3 : p.toNat ≤ l.length := by omega
  simp only [pop, Option.map_some, Option.map_none, pslice, hte, hx, hsz, hlo]
  rw [if_pos (show (l.map g).all (fun y => y.cells.length == sz) = true by simp [hg])]
  simp only [pbounds, toNat?, h2, if_true]
  rw [if_pos ⟨by simp; omega, Nat.le_refl _⟩]
  simp only [Option.map_some, Bool.false_and]
  rw [List.take_of_length_le (Nat.le_refl _), List.map_drop]⟩
/-- The beginning of a row of one's own. -/
theorem I.slO {hi : Operand} {q : Int} {m : Nat} (hx : St.ev ⟨env, L⟩ x = .own id 0 n gen) (hhi : St.ev ⟨env, L⟩ hi = .int k' q) (h : 0 ≤ q ∧ q ≤ (n : Int)) (hL : L[id]? = some (.buf sz m (l.map g))) (hn : l.length = gen) (hte : P.underlying t = some (.slice e)) (hsz : szT P e = some sz) :
    PI P L env (.slice t x none (some hi) none) (.own id 0 q.toNat gen) L := ⟨by
  have h2 : (0 : Int) ≤ q := h.1
  have h3 : q.toNat ≤ n := by omega
  simp only [pop, Option.map_some, Option.map_none, pslice, hte, hx, hsz, hhi, hL]
  rw [if_pos ⟨trivial, by simp [hn]⟩]
  simp [pbounds, toNat?, h2, h3]⟩
theorem I.slT {lo hi : Operand} {p q : Int} {s : ByteArray} (hx : St.ev ⟨env, L⟩ x = .str s) (hlo : St.ev ⟨env, L⟩ lo = .int k p) (hhi : St.ev ⟨env, L⟩ hi = .int k' q) (h : 0 ≤ p ∧ p ≤ q ∧ q ≤ (s.size : Int)) (ht : P.underlying t = some .string) :
    PI P L env (.slice t x (some lo) (some hi) none) (.str (s.extract p.toNat q.toNat)) L := ⟨pop_slT hx hlo hhi h ht⟩
theorem I.adT {s s' : ByteArray} (hx : St.ev ⟨env, L⟩ x = .str s) (hy : St.ev ⟨env, L⟩ y = .str s') (h : s.size + s'.size ≤ 9223372036854775807) : PI P L env (.binOp .add t x y u) (.str (s ++ s')) L := ⟨by simp [pop, hx, hy, pbin, pstr, h]⟩
theorem I.mk (a : α) (w : Nat) {lo hi : Operand} (hl : St.ev ⟨env, L⟩ lo = .int .i64 (w : Int)) (hc : St.ev ⟨env, L⟩ hi = .int .i64 (w : Int)) (hw : w ≤ 1000000) (hL' : L ++ [.buf sz 0 ((List.replicate w a).map g)] = L')
    (hte : P.underlying t = some (.slice e)) (hsz : szT P e = some sz) (hz : zeroV P e = some (g a)) (h0 : 0 < sz) (hzc : (g a).cells.length = sz) (hbt : byT P e ≤ 1000) : PI P L env (.makeSlice t lo hi) (.own L.length 0 w w) L' := ⟨by
  subst hL'
  have h3 : byT P e * (w : Int) ≤ 281474976710656 := by
    have : byT P e * w ≤ 1000 * 1000000 := Nat.mul_le_mul hbt hw
    have : ((byT P e * w : Nat) : Int) ≤ ((1000 * 1000000 : Nat) : Int) := Int.ofNat_le.2 this
    rw [Int.natCast_mul] at this; omega
  simp only [pop, hl, hc, pmakeSlice, hte, hsz, hz]
  rw [if_pos ⟨h0, hzc, by omega, by omega, by omega, h3⟩]
  simp⟩
/-! slices that are written out -/
theorem I.bs (vs : List V) {ps : Array (Nat × Operand)} {z : V} (hp : (ps.toList.map fun p => (p.1, St.ev ⟨env, L⟩ p.2)) = (List.range' 0 vs.length).zip vs) (hv : ∀ v ∈ vs, v.cells = [v]) (ho : vs.all V.one = true) (hn : vs.length ≤ 1000000)
    (ht : P.underlying t = some (.slice e)) (hsz : szT P e = some 1) (hz : zeroV P e = some z) (hag : aggT P e = some false) (hzc : z.cells.length = 1) : PI P L env (.buildSlice t vs.length ps) (.sl false true vs) L :=
  ⟨by simp only [pop, hp, pbuildSlice_ones vs ht hsz hz hag hzc hv ho hn]; rfl⟩
theorem I.bs0 {z : V} (ht : P.underlying t = some (.slice e)) (hsz : szT P e = some sz) (hz : zeroV P e = some z) {ag : Bool} (hag : aggT P e = some ag) (hzc : z.cells.length = sz) (hs : 0 < sz) (hg : ag = true ∨ sz = 1) : PI P L env (.buildSlice t 0 #[]) (.sl false true []) L := ⟨by
  have : pbuildSlice P t 0 [] = some (.sl false true []) := by
    simp only [pbuildSlice, ht, hsz, hz, hag]
    rw [if_pos ⟨hs, by omega, hzc, hg⟩]
    simp [repl, fillV, chunk]
  show (pbuildSlice P t 0 []).map (·, L) = _
  rw [this]; rfl⟩
theorem I.bs1 {v1 z : V} {x1 : Operand} (h1 : St.ev ⟨env, L⟩ x1 = v1) (ht : P.underlying t = some (.slice e)) (hsz : szT P e = some 1) (hz : zeroV P e = some z) (hag : aggT P e = some false) (hzc : z.cells.length = 1) (c1 : v1.cells = [v1]) (o1 : v1.one = true) :
    PI P L env (.buildSlice t 1 #[(0, x1)]) (.sl false true [v1]) L := I.bs [v1] (by simp [h1]) (by simp [c1]) (by simp [o1]) (by simp) ht hsz hz hag hzc
theorem I.bs2 {v1 v2 z : V} {x1 x2 : Operand} (h1 : St.ev ⟨env, L⟩ x1 = v1) (h2 : St.ev ⟨env, L⟩ x2 = v2) (ht : P.underlying t = some (.slice e)) (hsz : szT P e = some 1) (hz : zeroV P e = some z) (hag : aggT P e = some false) (hzc : z.cells.length = 1)
    (c1 : v1.cells = [v1]) (o1 : v1.one = true) (c2 : v2.cells = [v2]) (o2 : v2.one = true) : PI P L env (.buildSlice t 2 #[(0, x1), (1, x2)]) (.sl false true [v1, v2]) L := I.bs [v1, v2] (by show [(0, St.ev ⟨env, L⟩ x1), (1, St.ev ⟨env, L⟩ x2)] = _; rw [h1, h2]; rfl) (by simp [c1, c2]) (by simp [o1, o2]) (by simp) ht hsz hz hag hzc
theorem I.bs3 {v1 v2 v3 z : V} {x1 x2 x3 : Operand} (h1 : St.ev ⟨env, L⟩ x1 = v1) (h2 : St.ev ⟨env, L⟩ x2 = v2) (h3 : St.ev ⟨env, L⟩ x3 = v3) (ht : P.underlying t = some (.slice e)) (hsz : szT P e = some 1) (hz : zeroV P e = some z) (hag : aggT P e = some false) (hzc : z.cells.length = 1)
    (c1 : v1.cells = [v1]) (o1 : v1.one = true) (c2 : v2.cells = [v2]) (o2 : v2.one = true) (c3 : v3.cells = [v3]) (o3 : v3.one = true) : PI P L env (.buildSlice t 3 #[(0, x1), (1, x2), (2, x3)]) (.sl false true [v1, v2, v3]) L :=
  I.bs [v1, v2, v3] (by show [(0, St.ev ⟨env, L⟩ x1), (1, St.ev ⟨env, L⟩ x2), (2, St.ev ⟨env, L⟩ x3)] = _; rw [h1, h2, h3]; rfl) (by simp [c1, c2, c3]) (by simp [o1, o2, o3]) (by simp) ht hsz hz hag hzc
theorem I.bs4 {v1 v2 v3 v4 z : V} {x1 x2 x3 x4 : Operand} (h1 : St.ev ⟨env, L⟩ x1 = v1) (h2 : St.ev ⟨env, L⟩ x2 = v2) (h3 : St.ev ⟨env, L⟩ x3 = v3) (h4 : St.ev ⟨env, L⟩ x4 = v4) (ht : P.underlying t = some (.slice e)) (hsz : szT P e = some 1) (hz : zeroV P e = some z) (hag : aggT P e = some false) (hzc : z.cells.length = 1)
    (c1 : v1.cells = [v1]) (o1 : v1.one = true) (c2 : v2.cells = [v2]) (o2 : v2.one = true) (c3 : v3.cells = [v3]) (o3 : v3.one = true) (c4 : v4.cells = [v4]) (o4 : v4.one = true) : PI P L env (.buildSlice t 4 #[(0, x1), (1, x2), (2, x3), (3, x4)]) (.sl false true [v1, v2, v3, v4]) L :=
  I.bs [v1, v2, v3, v4] (by show [(0, St.ev ⟨env, L⟩ x1), (1, St.ev ⟨env, L⟩ x2), (2, St.ev ⟨env, L⟩ x3), (3, St.ev ⟨env, L⟩ x4)] = _; rw [h1, h2, h3, h4]; rfl) (by simp [c1, c2, c3, c4]) (by simp [o1, o2, o3, o4]) (by simp) ht hsz hz hag hzc
theorem I.bsA {x1 : Operand} {z : V} (h1 : St.ev ⟨env, L⟩ x1 = .agg cs) (ht : P.underlying t = some (.slice e)) (hsz : szT P e = some sz) (hz : zeroV P e = some z) (hag : aggT P e = some true) (hzc : z.cells.length = sz) (hc : cs.length = sz) (ho : cs.all V.one = true) (hs : 0 < sz) (hs2 : sz ≤ 16777216) :
    PI P L env (.buildSlice t 1 #[(0, x1)]) (.sl false true [.agg cs]) L := ⟨by
  have hr : repl 1 z.cells = z.cells := by simp [repl]
  have hf : fillV (fun i => some (i * sz, sz)) z.cells [(0, V.agg cs)] = some cs := by
    show (if cs.length ≠ sz ∨ 0 * sz + cs.length > z.cells.length then none else some (setAt z.cells (0 * sz) cs)) = _
    rw [if_neg (by omega)]
    simp [setAt, hc, hzc]
  have : pbuildSlice P t 1 [(0, V.agg cs)] = some (.sl false true [.agg cs]) := by
    simp only [pbuildSlice, ht, hsz, hz, hag, hr, hf, ho]
    rw [if_pos ⟨hs, by omega, hzc, .inl trivial⟩]
    simp only [chunk, if_true]
    rw [List.take_of_length_le (by omega)]
  show (pbuildSlice P t 1 [(0, St.ev ⟨env, L⟩ x1)]).map (·, L) = _
  rw [h1, this]; rfl⟩
end
end Go.Pv
end
section
/- Maps of whole numbers: sets. -/
set_option linter.unusedVariables false
set_option linter.unusedSimpArgs false
set_option linter.unusedSectionVars false
namespace Go.Pv
variable {P : Program} {Z : Nat → Go.Obj → Prop} {env : Nat → V} {L L' : List Obj} {t e u : TypeId} {x m i y : Operand} {id : Nat} {k : IntKind} {ks : List Int} {n : Int}
/-- A row of a set. -/
def mS (a : Int) : V × V := (.int .i64 a, .bool true)
theorem mfind_set : ∀ {ks : List Int} {i : Nat}, mfind .i64 n (ks.map mS) i = some (if n ∈ ks then some (i + ks.idxOf n, .bool true) else none)
  | [], i => rfl
  | a :: ks, i => by
    simp only [List.map_cons, mS, mfind, if_true]
    by_cases h : n = a
    · subst h; simp
    · rw [if_neg (by simpa using h), show (List.map mS ks) = ks.map mS from rfl, mfind_set]
      have h2 : (n ∈ a :: ks) ↔ n ∈ ks := by simp [h]
      have h3 : (a :: ks).idxOf n = ks.idxOf n + 1 := by rw [List.idxOf_cons]; simp [beq_false_of_ne (Ne.symm h)]
      simp only [h2, h3]
      split
      · congr 3; omega
      · rfl
theorem I.mlS (hx : St.ev ⟨env, L⟩ x = .map id) (hL : L[id]? = some (.map (ks.map mS))) (hi : St.ev ⟨env, L⟩ i = .int .i64 n) (ht : P.underlying t = some (.map e u)) (hk : P.underlying e = some (.int k)) (hz : zeroV P u = some (.bool false)) :
    PI P L env (.lookup t x i false) (.bool (decide (n ∈ ks))) L := ⟨by
  have : plookup P L t (.map id) (.int .i64 n) false = some (.bool (decide (n ∈ ks))) := by
    simp only [plookup, ht, hk, mrows, hL, hz, mfind_set]
    by_cases h : n ∈ ks
    · simp [h]
    · simp [h]
  simp only [pop, hx, hi, this]; rfl⟩
theorem I.muS (hx : St.ev ⟨env, L⟩ m = .map id) (hL : L[id]? = some (.map (ks.map mS))) (hi : St.ev ⟨env, L⟩ i = .int .i64 n) (hy : St.ev ⟨env, L⟩ y = .bool true) (hn : n ∉ ks) (ht : P.underlying t = some (.map e u)) (hk : P.underlying e = some (.int k))
    (hL' : L.set id (.map ((ks ++ [n]).map mS)) = L') : PI P L env (.mapUpdate t m i y) .undef L' := ⟨by
  subst hL'
  have : pmapUpdate P L t (.map id) (.int .i64 n) (.bool true) = some (L.set id (.map ((ks ++ [n]).map mS))) := by
    simp only [pmapUpdate, ht, hk, hL, mfind_set]
    rw [if_neg hn]
    simp [mS]
  simp only [pop, hx, hi, hy, this]; rfl⟩
theorem I.lnM {ats : Array TypeId} (hx : St.ev ⟨env, L⟩ x = .map id) (hL : L[id]? = some (.map (ks.map mS))) (ht : ats[0]? = some t) (hu : P.underlying t = some (.map e u)) : PI P L env (.call ⟨.builtin .len, #[x], ats⟩) (.int .i64 (ks.length : Nat)) L := ⟨by simp [pop, pbuiltin, hx, hL, ht, hu]⟩
theorem ob_mapS {N : Nat} {ks : List Int} : objLts N (.map (ks.map mS)) := by
  intro e he
  obtain ⟨a, _, rfl⟩ := List.mem_map.1 he
  exact ⟨rfl, rfl⟩
end Go.Pv
end
section
/- Words of 32 bits; bytes of numbers; shifts and masks of numbers without sign. -/
set_option linter.unusedVariables false
set_option linter.unusedSimpArgs false
set_option linter.unusedSectionVars false
namespace Go.Pv
variable {P : Program} {Z : Nat → Go.Obj → Prop}
def g32 (x : UInt32) : V := .int .u32 (x.toNat : Int)
instance : Inhabited UInt32 := ⟨0⟩
/-- A number's lowest byte, and its lowest word. -/
def bI (a : Int) : UInt8 := UInt8.ofNat (a % 256).toNat
def wI (a : Int) : UInt32 := UInt32.ofNat (a % 4294967296).toNat
def shl32 (x : UInt32) (n : Nat) : UInt32 := ⟨x.toBitVec <<< n⟩
def shr32 (x : UInt32) (n : Nat) : UInt32 := ⟨x.toBitVec >>> n⟩
/-- A word, turned right. -/
def rot32 (x : UInt32) (n : Nat) : UInt32 := shr32 x n ||| shl32 x (32 - n)
theorem u32_lt (a : UInt32) : a.toNat < 2 ^ 32 := a.toNat_lt
theorem wrap8 (a : Int) : IntKind.u8.wrap a = a % 256 := by
  have e1 : (2 ^ IntKind.u8.bits : Int) = 256 := by decide
  have : IntKind.u8.signed = false := rfl
  simp [IntKind.wrap, e1, this]
theorem wrap32 (a : Int) : IntKind.u32.wrap a = a % 4294967296 := by
  have e1 : (2 ^ IntKind.u32.bits : Int) = 4294967296 := by decide
  have : IntKind.u32.signed = false := rfl
  simp [IntKind.wrap, e1, this]
theorem wrap64 (a : Int) : IntKind.u64.wrap a = a % 18446744073709551616 := by
  have e1 : (2 ^ IntKind.u64.bits : Int) = 18446744073709551616 := by decide
  have : IntKind.u64.signed = false := rfl
  simp [IntKind.wrap, e1, this]
theorem g8_of {a : Int} (b : UInt8) (h : a % 256 = (b.toNat : Int)) : V.int .u8 (IntKind.u8.wrap a) = g8 b := by rw [wrap8, h]; rfl
theorem g32_of {a : Int} (b : UInt32) (h : a % 4294967296 = (b.toNat : Int)) : V.int .u32 (IntKind.u32.wrap a) = g32 b := by rw [wrap32, h]; rfl
theorem bI_nat (a : Int) : a % 256 = ((bI a).toNat : Int) := by
  have : (bI a).toNat = (a % 256).toNat % 256 := by simp [bI]
  omega
theorem wI_nat (a : Int) : a % 4294967296 = ((wI a).toNat : Int) := by
  have : (wI a).toNat = (a % 4294967296).toNat % 4294967296 := by simp [wI]
  omega
theorem lit8 {n : Nat} (h : n < 256) : V.int .u8 (n : Int) = g8 (UInt8.ofNat n) := by
  have : (UInt8.ofNat n).toNat = n := by simp; omega
  simp only [g8, this]
theorem lit32 {n : Nat} (h : n < 4294967296) : V.int .u32 (n : Int) = g32 (UInt32.ofNat n) := by
  have : (UInt32.ofNat n).toNat = n := by simp; omega
  simp only [g32, this]
/-- What is a byte, or a word, seen as one. -/
theorem b8I {v : V} {a : UInt8} (h : v = g8 a := by first | exact rfl | exact lit8 (by decide) | fail) : v = g8 a := h
theorem w32I {v : V} {a : UInt32} (h : v = g32 a := by first | exact rfl | exact lit32 (by decide) | fail) : v = g32 a := h
theorem shl32_toNat (x : UInt32) (n : Nat) : (shl32 x n).toNat = x.toNat <<< n % 4294967296 := by
  show (x.toBitVec <<< n).toNat = _
  rw [BitVec.toNat_shiftLeft]; rfl
theorem shr32_toNat (x : UInt32) (n : Nat) : (shr32 x n).toNat = x.toNat >>> n := by
  show (x.toBitVec >>> n).toNat = _
  rw [BitVec.toNat_ushiftRight]; rfl
def shl8 (x : UInt8) (n : Nat) : UInt8 := ⟨x.toBitVec <<< n⟩
def shr8 (x : UInt8) (n : Nat) : UInt8 := ⟨x.toBitVec >>> n⟩
theorem shl8_toNat (x : UInt8) (n : Nat) : (shl8 x n).toNat = x.toNat <<< n % 256 := by
  show (x.toBitVec <<< n).toNat = _
  rw [BitVec.toNat_shiftLeft]; rfl
theorem shr8_toNat (x : UInt8) (n : Nat) : (shr8 x n).toNat = x.toNat >>> n := by
  show (x.toBitVec >>> n).toNat = _
  rw [BitVec.toNat_ushiftRight]; rfl
/-- What is written into a row: a literal is seen as the row's kind of value. -/
theorem gvI {α : Type} {v : V} {g : α → V} {a : α} (h : v = g a := by first | exact rfl | exact lit8 (by decide) | exact lit32 (by decide) | fail) : v = g a := h
section
variable {env : Nat → V} {L L' : List Obj} {t e u : TypeId} {x s i y : Operand} {k k' : IntKind} {a b : Int} {p q : UInt32} {n : Nat}
theorem I.add32 (hx : St.ev ⟨env, L⟩ x = g32 p) (hy : St.ev ⟨env, L⟩ y = g32 q) : PI P L env (.binOp .add t x y u) (g32 (p + q)) L :=
  ⟨by simp only [pop, hx, hy, pbin, pint, g32, if_true, Option.map_some]; rw [g32_of (p + q) (by rw [UInt32.toNat_add]; omega)]; rfl⟩
theorem I.sub32 (hx : St.ev ⟨env, L⟩ x = g32 p) (hy : St.ev ⟨env, L⟩ y = g32 q) : PI P L env (.binOp .sub t x y u) (g32 (p - q)) L :=
  ⟨by
    have := u32_lt p
    have := u32_lt q
    simp only [pop, hx, hy, pbin, pint, g32, if_true, Option.map_some]; rw [g32_of (p - q) (by rw [UInt32.toNat_sub]; omega)]; rfl⟩
theorem I.mul32 (hx : St.ev ⟨env, L⟩ x = g32 p) (hy : St.ev ⟨env, L⟩ y = g32 q) : PI P L env (.binOp .mul t x y u) (g32 (p * q)) L :=
  ⟨by simp only [pop, hx, hy, pbin, pint, g32, if_true, Option.map_some]; rw [g32_of (p * q) (by rw [UInt32.toNat_mul]; rw [← Int.natCast_mul]; rfl)]; rfl⟩
theorem xor32v (a b : UInt32) : pint .xor .u32 (a.toNat : Int) (b.toNat : Int) = some (g32 (a ^^^ b)) := by
  show some (V.int .u32 (IntKind.u32.wrap ((BitVec.ofInt 32 (a.toNat : Int) ^^^ BitVec.ofInt 32 (b.toNat : Int)).toNat : Nat))) = _
  rw [xor_raw (u32_lt a) (u32_lt b), wU32 ⟨by omega, by have := Nat.xor_lt_two_pow (u32_lt a) (u32_lt b); omega⟩]
  rfl
theorem and32v (a b : UInt32) : pint .and .u32 (a.toNat : Int) (b.toNat : Int) = some (g32 (a &&& b)) := by
  show some (V.int .u32 (IntKind.u32.wrap ((BitVec.ofInt 32 (a.toNat : Int) &&& BitVec.ofInt 32 (b.toNat : Int)).toNat : Nat))) = _
  rw [and_raw (u32_lt a) (u32_lt b), wU32 ⟨by omega, by have := Nat.and_lt_two_pow a.toNat (u32_lt b); omega⟩]
  rfl
theorem or32v (a b : UInt32) : pint .or .u32 (a.toNat : Int) (b.toNat : Int) = some (g32 (a ||| b)) := by
  show some (V.int .u32 (IntKind.u32.wrap ((BitVec.ofInt 32 (a.toNat : Int) ||| BitVec.ofInt 32 (b.toNat : Int)).toNat : Nat))) = _
  rw [or_raw (u32_lt a) (u32_lt b), wU32 ⟨by omega, by have := Nat.or_lt_two_pow (u32_lt a) (u32_lt b); omega⟩]
  rfl
theorem I.xor32 (hx : St.ev ⟨env, L⟩ x = g32 p) (hy : St.ev ⟨env, L⟩ y = g32 q) : PI P L env (.binOp .xor t x y u) (g32 (p ^^^ q)) L := ⟨by simp only [pop, hx, hy, g32, pbin, if_true]; rw [xor32v]; rfl⟩
theorem I.and32 (hx : St.ev ⟨env, L⟩ x = g32 p) (hy : St.ev ⟨env, L⟩ y = g32 q) : PI P L env (.binOp .and t x y u) (g32 (p &&& q)) L := ⟨by simp only [pop, hx, hy, g32, pbin, if_true]; rw [and32v]; rfl⟩
theorem I.or32 (hx : St.ev ⟨env, L⟩ x = g32 p) (hy : St.ev ⟨env, L⟩ y = g32 q) : PI P L env (.binOp .or t x y u) (g32 (p ||| q)) L := ⟨by simp only [pop, hx, hy, g32, pbin, if_true]; rw [or32v]; rfl⟩
theorem I.not32 (hx : St.ev ⟨env, L⟩ x = g32 p) : PI P L env (.unOp .xor t x) (g32 (~~~p)) L := ⟨by
  simp only [pop, hx, g32, pun]
  have h1 : (if IntKind.u32.signed = true then (-1 : Int) else IntKind.u32.max) = ((4294967295 : Nat) : Int) := by decide
  rw [h1]
  show (some (V.int .u32 (IntKind.u32.wrap ((BitVec.ofInt 32 ((4294967295 : Nat) : Int) ^^^ BitVec.ofInt 32 (p.toNat : Int)).toNat : Nat)))).map _ = _
  rw [xor_raw (by decide) (u32_lt p), wU32 ⟨by omega, by have := Nat.xor_lt_two_pow (n := 32) (x := 4294967295) (by decide) (u32_lt p); omega⟩]
  have h2 : (~~~p).toNat = 4294967295 ^^^ p.toNat := by
    show (~~~p.toBitVec).toNat = _
    rw [BitVec.not_def, BitVec.toNat_xor, BitVec.toNat_allOnes]; rfl
  simp [h2]⟩
/-- Shifts of words: the number of places is a literal, or a number that isn't negative. -/
theorem shl32v (p : UInt32) {b : Int} (h : 0 ≤ b) : V.int .u32 (IntKind.u32.wrap ((p.toNat : Int) * 2 ^ (min b.toNat IntKind.u32.bits))) = g32 (shl32 p b.toNat) := by
  refine g32_of _ ?_
  rw [shl32_toNat, Nat.shiftLeft_eq]
  have hb : IntKind.u32.bits = 32 := rfl
  rw [hb]
  have h3 : ((p.toNat : Int) * 2 ^ min b.toNat 32) = ((p.toNat * 2 ^ min b.toNat 32 : Nat) : Int) := by simp
  rw [h3]
  by_cases hl : b.toNat ≤ 32
  · rw [Nat.min_eq_left hl]; omega
  · rw [Nat.min_eq_right (by omega)]
    obtain ⟨d, hd⟩ : ∃ d, b.toNat = 32 + d := ⟨b.toNat - 32, by omega⟩
    rw [hd, Nat.pow_add]
    have h1 : p.toNat * (2 ^ 32 * 2 ^ d) = 4294967296 * (p.toNat * 2 ^ d) := by
      rw [show (2 : Nat) ^ 32 = 4294967296 from rfl, Nat.mul_left_comm]
    rw [h1, Nat.mul_mod_right]
    omega
theorem shr32v (p : UInt32) {b : Int} (h : 0 ≤ b) : V.int .u32 ((p.toNat : Int).fdiv (2 ^ (min b.toNat IntKind.u32.bits))) = g32 (shr32 p b.toNat) := by
  have hb : IntKind.u32.bits = 32 := rfl
  rw [hb]
  have h3 : ((2 : Int) ^ min b.toNat 32) = ((2 ^ min b.toNat 32 : Nat) : Int) := by simp
  have h4 : (p.toNat : Int).fdiv (2 ^ min b.toNat 32) = ((p.toNat / 2 ^ min b.toNat 32 : Nat) : Int) := by
    rw [h3, Int.fdiv_eq_ediv_of_nonneg _ (Int.natCast_nonneg _)]; rfl
  rw [h4]
  unfold g32
  rw [shr32_toNat, Nat.shiftRight_eq_div_pow]
  by_cases hl : b.toNat ≤ 32
  · rw [Nat.min_eq_left hl]
  · rw [Nat.min_eq_right (by omega)]
    have := u32_lt p
    have h5 : 2 ^ 32 ≤ 2 ^ b.toNat := Nat.pow_le_pow_right (by decide) (by omega)
    rw [Nat.div_eq_of_lt (by omega), Nat.div_eq_of_lt (by omega)]
theorem I.shlW (hx : St.ev ⟨env, L⟩ x = g32 p) (hy : St.ev ⟨env, L⟩ y = .int k' (n : Int)) : PI P L env (.binOp .shl t x y u) (g32 (shl32 p n)) L :=
  ⟨by rw [pop_shl hx hy (Int.natCast_nonneg _), shl32v p (Int.natCast_nonneg _), Int.toNat_natCast]⟩
theorem I.shrW (hx : St.ev ⟨env, L⟩ x = g32 p) (hy : St.ev ⟨env, L⟩ y = .int k' (n : Int)) : PI P L env (.binOp .shr t x y u) (g32 (shr32 p n)) L :=
  ⟨by rw [pop_shr hx hy (Int.natCast_nonneg _), shr32v p (Int.natCast_nonneg _), Int.toNat_natCast]⟩
theorem I.shlI32 (hx : St.ev ⟨env, L⟩ x = g32 p) (hy : St.ev ⟨env, L⟩ y = .int k' b) (h : 0 ≤ b) : PI P L env (.binOp .shl t x y u) (g32 (shl32 p b.toNat)) L :=
  ⟨by rw [pop_shl hx hy h, shl32v p h]⟩
theorem I.shrI32 (hx : St.ev ⟨env, L⟩ x = g32 p) (hy : St.ev ⟨env, L⟩ y = .int k' b) (h : 0 ≤ b) : PI P L env (.binOp .shr t x y u) (g32 (shr32 p b.toNat)) L :=
  ⟨by rw [pop_shr hx hy h, shr32v p h]⟩
/-- Numbers become bytes, or words. -/
theorem I.cvB {dd : TypeDesc} (hx : St.ev ⟨env, L⟩ x = .int k' a) (hu : P.underlying t = some dd) (hu' : P.underlying u = some (.int .u8)) : PI P L env (.convert t u x) (g8 (bI a)) L :=
  ⟨by simp only [pop, pconv, hx, hu, hu']; rw [g8_of (bI a) (bI_nat a)]; rfl⟩
theorem I.cvW {dd : TypeDesc} (hx : St.ev ⟨env, L⟩ x = .int k' a) (hu : P.underlying t = some dd) (hu' : P.underlying u = some (.int .u32)) : PI P L env (.convert t u x) (g32 (wI a)) L :=
  ⟨by simp only [pop, pconv, hx, hu, hu']; rw [g32_of (wI a) (wI_nat a)]; rfl⟩
theorem I.cvU {dd : TypeDesc} (hx : St.ev ⟨env, L⟩ x = .int k' a) (hu : P.underlying t = some dd) (hu' : P.underlying u = some (.int .u64)) : PI P L env (.convert t u x) (.int .u64 (a % 18446744073709551616)) L :=
  ⟨by simp only [pop, pconv, hx, hu, hu', wrap64]; rfl⟩
/-- A word of a byte. -/
theorem I.cv8W {dd : TypeDesc} {c : UInt8} (hx : St.ev ⟨env, L⟩ x = g8 c) (hu : P.underlying t = some dd) (hu' : P.underlying u = some (.int .u32)) : PI P L env (.convert t u x) (g32 c.toUInt32) L :=
  ⟨by
    have := u8_lt c
    simp only [pop, pconv, hx, hu, hu', g8]; rw [g32_of c.toUInt32 (by rw [UInt8.toNat_toUInt32]; omega)]; rfl⟩
/-- A byte of a word. -/
theorem I.cvW8 {dd : TypeDesc} (hx : St.ev ⟨env, L⟩ x = g32 p) (hu : P.underlying t = some dd) (hu' : P.underlying u = some (.int .u8)) : PI P L env (.convert t u x) (g8 p.toUInt8) L :=
  ⟨by simp only [pop, pconv, hx, hu, hu', g32]; rw [g8_of p.toUInt8 (by rw [UInt32.toNat_toUInt8]; omega)]; rfl⟩
/-- Numbers of any kind that stay in range. -/
theorem I.addK (hx : St.ev ⟨env, L⟩ x = .int k a) (hy : St.ev ⟨env, L⟩ y = .int k b) (h : k.wrap (a + b) = a + b) : PI P L env (.binOp .add t x y u) (.int k (a + b)) L := ⟨by simp [pop, hx, hy, pbin, pint, h]⟩
theorem I.subK (hx : St.ev ⟨env, L⟩ x = .int k a) (hy : St.ev ⟨env, L⟩ y = .int k b) (h : k.wrap (a - b) = a - b) : PI P L env (.binOp .sub t x y u) (.int k (a - b)) L := ⟨by simp [pop, hx, hy, pbin, pint, h]⟩
theorem I.mulK (hx : St.ev ⟨env, L⟩ x = .int k a) (hy : St.ev ⟨env, L⟩ y = .int k b) (h : k.wrap (a * b) = a * b) : PI P L env (.binOp .mul t x y u) (.int k (a * b)) L := ⟨by simp [pop, hx, hy, pbin, pint, h]⟩
theorem I.quoK (hx : St.ev ⟨env, L⟩ x = .int k a) (hy : St.ev ⟨env, L⟩ y = .int k b) (h0 : 0 ≤ a ∧ 0 < b) (h : k.wrap (a / b) = a / b) : PI P L env (.binOp .quo t x y u) (.int k (a / b)) L :=
  ⟨by simp [pop, hx, hy, pbin, pint, show b ≠ 0 by omega, Int.tdiv_eq_ediv_of_nonneg h0.1, h]⟩
/-- The lowest bits of a number. -/
theorem and_low (w : Nat) {N a : Nat} (ha : a < 2 ^ N) (hw : w ≤ N) : (BitVec.ofInt N (a : Int) &&& BitVec.ofInt N ((2 ^ w - 1 : Nat) : Int)).toNat = a % 2 ^ w := by
  have h1 : 2 ^ w ≤ 2 ^ N := Nat.pow_le_pow_right (by decide) hw
  have h0 : 0 < 2 ^ w := Nat.pos_of_ne_zero (by simp)
  rw [and_raw ha (by omega), Nat.and_two_pow_sub_one_eq_mod]
theorem I.andM (w : Nat) (hx : St.ev ⟨env, L⟩ x = .int k a) (hy : St.ev ⟨env, L⟩ y = .int k ((2 ^ w - 1 : Nat) : Int)) (h : 0 ≤ a ∧ a < 9223372036854775808) (hk : (k = .u64 ∨ k = .i64) ∧ w < 63) :
    PI P L env (.binOp .and t x y u) (.int k (a % (2 ^ w : Nat))) L := ⟨by
  obtain ⟨m, rfl⟩ := Int.eq_ofNat_of_zero_le h.1
  have h1 : (m : Int) % ((2 ^ w : Nat) : Int) = ((m % 2 ^ w : Nat) : Int) := rfl
  have h2 : m % 2 ^ w ≤ m := Nat.mod_le _ _
  obtain ⟨rfl | rfl, hw⟩ := hk
  · simp only [pop, hx, hy, pbin, pint, if_true]
    show (some (V.int .u64 (IntKind.u64.wrap ((BitVec.ofInt 64 (m : Int) &&& BitVec.ofInt 64 ((2 ^ w - 1 : Nat) : Int)).toNat : Nat)))).map _ = _
    rw [and_low w (by omega) (by omega), wU64 (by omega), h1]; rfl
  · simp only [pop, hx, hy, pbin, pint, if_true]
    show (some (V.int .i64 (IntKind.i64.wrap ((BitVec.ofInt 64 (m : Int) &&& BitVec.ofInt 64 ((2 ^ w - 1 : Nat) : Int)).toNat : Nat)))).map _ = _
    rw [and_low w (by omega) (by omega), w64R (by omega), h1]; rfl⟩
/-- The lowest bits of any number without sign. -/
theorem I.andU (w : Nat) (hx : St.ev ⟨env, L⟩ x = .int .u64 a) (hy : St.ev ⟨env, L⟩ y = .int .u64 ((2 ^ w - 1 : Nat) : Int)) (h : 0 ≤ a ∧ a < 18446744073709551616) (hk : w < 63) :
    PI P L env (.binOp .and t x y u) (.int .u64 (a % (2 ^ w : Nat))) L := ⟨by
  obtain ⟨m, rfl⟩ := Int.eq_ofNat_of_zero_le h.1
  have h1 : (m : Int) % ((2 ^ w : Nat) : Int) = ((m % 2 ^ w : Nat) : Int) := rfl
  have h2 : m % 2 ^ w ≤ m := Nat.mod_le _ _
  simp only [pop, hx, hy, pbin, pint, if_true]
  show (some (V.int .u64 (IntKind.u64.wrap ((BitVec.ofInt 64 (m : Int) &&& BitVec.ofInt 64 ((2 ^ w - 1 : Nat) : Int)).toNat : Nat)))).map _ = _
  rw [and_low w (by omega) (by omega), wU64 (by omega), h1]; rfl⟩
/-- Bits beside one another: higher ones, and lower ones. -/
theorem or_low {N w c b : Nat} (hc : c * 2 ^ w < 2 ^ N) (hb : b < 2 ^ w) (hw : w ≤ N) : (BitVec.ofInt N ((c * 2 ^ w : Nat) : Int) ||| BitVec.ofInt N (b : Int)).toNat = c * 2 ^ w + b := by
  have h1 : 2 ^ w ≤ 2 ^ N := Nat.pow_le_pow_right (by decide) hw
  rw [or_raw hc (by omega), Nat.mul_comm c, ← Nat.two_pow_add_eq_or_of_lt hb]
theorem I.orM (hx : St.ev ⟨env, L⟩ x = .int k (a * 2 ^ n)) (hy : St.ev ⟨env, L⟩ y = .int k b) (h : 0 ≤ a ∧ 0 ≤ b ∧ b < ((2 ^ n : Nat) : Int) ∧ a * 2 ^ n < 4611686018427387904 ∧ n ≤ 62) (hk : k = .u64 ∨ k = .i64) :
    PI P L env (.binOp .or t x y u) (.int k (a * 2 ^ n + b)) L := ⟨by
  obtain ⟨m, rfl⟩ := Int.eq_ofNat_of_zero_le h.1
  obtain ⟨m', rfl⟩ := Int.eq_ofNat_of_zero_le h.2.1
  have h1 : (m : Int) * 2 ^ n = ((m * 2 ^ n : Nat) : Int) := by simp
  have h4 := h.2.2.2.1
  have hb : m' < 2 ^ n := by have := h.2.2.1; omega
  have h6 : 2 ^ n ≤ 2 ^ 62 := Nat.pow_le_pow_right (by decide) h.2.2.2.2
  have h5 : (m : Int) * 2 ^ n + (m' : Int) = ((m * 2 ^ n + m' : Nat) : Int) := by simp
  rw [h1] at h4
  rw [h5]
  rw [h1] at hx
  obtain rfl | rfl := hk
  · simp only [pop, hx, hy, pbin, pint, if_true]
    show (some (V.int .u64 (IntKind.u64.wrap ((BitVec.ofInt 64 ((m * 2 ^ n : Nat) : Int) ||| BitVec.ofInt 64 (m' : Int)).toNat : Nat)))).map _ = _
    rw [or_low (by omega) hb (by omega), wU64 (by omega)]; rfl
  · simp only [pop, hx, hy, pbin, pint, if_true]
    show (some (V.int .i64 (IntKind.i64.wrap ((BitVec.ofInt 64 ((m * 2 ^ n : Nat) : Int) ||| BitVec.ofInt 64 (m' : Int)).toNat : Nat)))).map _ = _
    rw [or_low (by omega) hb (by omega), w64R (by omega)]; rfl⟩
/-- One bit above the others. -/
theorem I.orB (w : Nat) (hx : St.ev ⟨env, L⟩ x = .int .i64 a) (hy : St.ev ⟨env, L⟩ y = .int .i64 ((2 ^ w : Nat) : Int)) (h : 0 ≤ a ∧ a < ((2 ^ w : Nat) : Int)) (hw : w ≤ 61) :
    PI P L env (.binOp .or t x y u) (.int .i64 (a + (2 ^ w : Nat))) L := ⟨by
  obtain ⟨m, rfl⟩ := Int.eq_ofNat_of_zero_le h.1
  have h6 : 2 ^ w ≤ 2 ^ 61 := Nat.pow_le_pow_right (by decide) hw
  have h7 := or_low (N := 64) (w := w) (c := 1) (b := m) (by omega) (by omega) (by omega)
  simp only [pop, hx, hy, pbin, pint, if_true]
  show (some (V.int .i64 (IntKind.i64.wrap ((BitVec.ofInt 64 (m : Int) ||| BitVec.ofInt 64 ((2 ^ w : Nat) : Int)).toNat : Nat)))).map _ = _
  rw [BitVec.or_comm, show ((2 ^ w : Nat) : Int) = ((1 * 2 ^ w : Nat) : Int) by rw [Nat.one_mul], h7, w64R (by omega)]
  simp; omega⟩
theorem I.or0 (hx : St.ev ⟨env, L⟩ x = .int .i64 a) (hy : St.ev ⟨env, L⟩ y = .int .i64 0) (h : 0 ≤ a ∧ a ≤ 9223372036854775807) : PI P L env (.binOp .or t x y u) (.int .i64 a) L := ⟨by
  obtain ⟨m, rfl⟩ := Int.eq_ofNat_of_zero_le h.1
  simp only [pop, hx, hy, pbin, pint, if_true]
  show (some (V.int .i64 (IntKind.i64.wrap ((BitVec.ofInt 64 (m : Int) ||| BitVec.ofInt 64 ((0 : Nat) : Int)).toNat : Nat)))).map _ = _
  rw [or_raw (by omega) (by decide), Nat.or_zero, w64R (by omega)]; rfl⟩

/-! bytes -/
theorem I.add8 {p q : UInt8} (hx : St.ev ⟨env, L⟩ x = g8 p) (hy : St.ev ⟨env, L⟩ y = g8 q) : PI P L env (.binOp .add t x y u) (g8 (p + q)) L :=
  ⟨by simp only [pop, hx, hy, pbin, pint, g8, if_true, Option.map_some]; rw [g8_of (p + q) (by rw [UInt8.toNat_add]; omega)]; rfl⟩
theorem I.sub8 {p q : UInt8} (hx : St.ev ⟨env, L⟩ x = g8 p) (hy : St.ev ⟨env, L⟩ y = g8 q) : PI P L env (.binOp .sub t x y u) (g8 (p - q)) L :=
  ⟨by
    have := u8_lt p
    have := u8_lt q
    simp only [pop, hx, hy, pbin, pint, g8, if_true, Option.map_some]; rw [g8_of (p - q) (by rw [UInt8.toNat_sub]; omega)]; rfl⟩
theorem I.mul8 {p q : UInt8} (hx : St.ev ⟨env, L⟩ x = g8 p) (hy : St.ev ⟨env, L⟩ y = g8 q) : PI P L env (.binOp .mul t x y u) (g8 (p * q)) L :=
  ⟨by simp only [pop, hx, hy, pbin, pint, g8, if_true, Option.map_some]; rw [g8_of (p * q) (by rw [UInt8.toNat_mul]; rw [← Int.natCast_mul]; rfl)]; rfl⟩
theorem shl8v (p : UInt8) {b : Int} (h : 0 ≤ b) : V.int .u8 (IntKind.u8.wrap ((p.toNat : Int) * 2 ^ (min b.toNat IntKind.u8.bits))) = g8 (shl8 p b.toNat) := by
  refine g8_of _ ?_
  rw [shl8_toNat, Nat.shiftLeft_eq]
  have hb : IntKind.u8.bits = 8 := rfl
  rw [hb]
  have h3 : ((p.toNat : Int) * 2 ^ min b.toNat 8) = ((p.toNat * 2 ^ min b.toNat 8 : Nat) : Int) := by simp
  rw [h3]
  by_cases hl : b.toNat ≤ 8
  · rw [Nat.min_eq_left hl]; omega
  · rw [Nat.min_eq_right (by omega)]
    obtain ⟨d, hd⟩ : ∃ d, b.toNat = 8 + d := ⟨b.toNat - 8, by omega⟩
    rw [hd, Nat.pow_add]
    have h1 : p.toNat * (2 ^ 8 * 2 ^ d) = 256 * (p.toNat * 2 ^ d) := by
      rw [show (2 : Nat) ^ 8 = 256 from rfl, Nat.mul_left_comm]
    rw [h1, Nat.mul_mod_right]
    omega
theorem shr8v (p : UInt8) {b : Int} (h : 0 ≤ b) : V.int .u8 ((p.toNat : Int).fdiv (2 ^ (min b.toNat IntKind.u8.bits))) = g8 (shr8 p b.toNat) := by
  have hb : IntKind.u8.bits = 8 := rfl
  rw [hb]
  have h3 : ((2 : Int) ^ min b.toNat 8) = ((2 ^ min b.toNat 8 : Nat) : Int) := by simp
  have h4 : (p.toNat : Int).fdiv (2 ^ min b.toNat 8) = ((p.toNat / 2 ^ min b.toNat 8 : Nat) : Int) := by
    rw [h3, Int.fdiv_eq_ediv_of_nonneg _ (Int.natCast_nonneg _)]; rfl
  rw [h4]
  unfold g8
  rw [shr8_toNat, Nat.shiftRight_eq_div_pow]
  by_cases hl : b.toNat ≤ 8
  · rw [Nat.min_eq_left hl]
  · rw [Nat.min_eq_right (by omega)]
    have := u8_lt p
    have h5 : 2 ^ 8 ≤ 2 ^ b.toNat := Nat.pow_le_pow_right (by decide) (by omega)
    rw [Nat.div_eq_of_lt (by omega), Nat.div_eq_of_lt (by omega)]
theorem I.shlB {p : UInt8} (hx : St.ev ⟨env, L⟩ x = g8 p) (hy : St.ev ⟨env, L⟩ y = .int k' (n : Int)) : PI P L env (.binOp .shl t x y u) (g8 (shl8 p n)) L :=
  ⟨by rw [pop_shl hx hy (Int.natCast_nonneg _), shl8v p (Int.natCast_nonneg _), Int.toNat_natCast]⟩
theorem I.shrB {p : UInt8} (hx : St.ev ⟨env, L⟩ x = g8 p) (hy : St.ev ⟨env, L⟩ y = .int k' (n : Int)) : PI P L env (.binOp .shr t x y u) (g8 (shr8 p n)) L :=
  ⟨by rw [pop_shr hx hy (Int.natCast_nonneg _), shr8v p (Int.natCast_nonneg _), Int.toNat_natCast]⟩
theorem I.shlIB {p : UInt8} (hx : St.ev ⟨env, L⟩ x = g8 p) (hy : St.ev ⟨env, L⟩ y = .int k' b) (h : 0 ≤ b) : PI P L env (.binOp .shl t x y u) (g8 (shl8 p b.toNat)) L :=
  ⟨by rw [pop_shl hx hy h, shl8v p h]⟩
theorem I.shrIB {p : UInt8} (hx : St.ev ⟨env, L⟩ x = g8 p) (hy : St.ev ⟨env, L⟩ y = .int k' b) (h : 0 ≤ b) : PI P L env (.binOp .shr t x y u) (g8 (shr8 p b.toNat)) L :=
  ⟨by rw [pop_shr hx hy h, shr8v p h]⟩
/-! any kind: shifts that stay in range -/
theorem I.shlK (hx : St.ev ⟨env, L⟩ x = .int k a) (hy : St.ev ⟨env, L⟩ y = .int k' (n : Int)) (hn : n ≤ k.bits) (h : k.wrap (a * 2 ^ n) = a * 2 ^ n) : PI P L env (.binOp .shl t x y u) (.int k (a * 2 ^ n)) L :=
  ⟨by rw [pop_shl hx hy (Int.natCast_nonneg _), Int.toNat_natCast, Nat.min_eq_left hn, h]⟩
theorem I.shrK (hx : St.ev ⟨env, L⟩ x = .int k a) (hy : St.ev ⟨env, L⟩ y = .int k' (n : Int)) (hn : n ≤ k.bits) (h : 0 ≤ a) : PI P L env (.binOp .shr t x y u) (.int k (a / (2 ^ n : Nat))) L :=
  ⟨by
    have h3 : ((2 : Int) ^ n) = ((2 ^ n : Nat) : Int) := by simp
    rw [pop_shr hx hy (Int.natCast_nonneg _), Int.toNat_natCast, Nat.min_eq_left hn, h3, Int.fdiv_eq_ediv_of_nonneg _ (Int.natCast_nonneg _)]⟩
/-! strings and rows of bytes -/
theorem I.cvT {s : ByteArray} (hx : St.ev ⟨env, L⟩ x = .str s) (hu : P.underlying t = some .string) (hu' : P.underlying u = some (.slice e)) (he : P.underlying e = some (.int .u8)) (hs : szT P e = some 1) :
    PI P L env (.convert t u x) (.sl false false (s.data.toList.map g8)) L := ⟨by simp only [pop, pconv, hx, hu, hu', he, hs]; rfl⟩
theorem I.bsB1 {a1 : UInt8} {z : V} {x1 : Operand} (h1 : St.ev ⟨env, L⟩ x1 = g8 a1) (ht : P.underlying t = some (.slice e)) (hsz : szT P e = some 1) (hz : zeroV P e = some z) (hag : aggT P e = some false) (hzc : z.cells.length = 1) :
    PI P L env (.buildSlice t 1 #[(0, x1)]) (.sl false true ([a1].map g8)) L := I.bs [g8 a1] (by simp [h1]) (by simp [g8, V.cells]) (by simp [g8, V.one]) (by simp) ht hsz hz hag hzc
theorem I.bsB2 {a1 a2 : UInt8} {z : V} {x1 x2 : Operand} (h1 : St.ev ⟨env, L⟩ x1 = g8 a1) (h2 : St.ev ⟨env, L⟩ x2 = g8 a2) (ht : P.underlying t = some (.slice e)) (hsz : szT P e = some 1) (hz : zeroV P e = some z) (hag : aggT P e = some false) (hzc : z.cells.length = 1) :
    PI P L env (.buildSlice t 2 #[(0, x1), (1, x2)]) (.sl false true ([a1, a2].map g8)) L :=
  I.bs [g8 a1, g8 a2] (by show [(0, St.ev ⟨env, L⟩ x1), (1, St.ev ⟨env, L⟩ x2)] = _; rw [h1, h2]; rfl) (by simp [g8, V.cells]) (by simp [g8, V.one]) (by simp) ht hsz hz hag hzc
theorem I.bsB4 {a1 a2 a3 a4 : UInt8} {z : V} {x1 x2 x3 x4 : Operand} (h1 : St.ev ⟨env, L⟩ x1 = g8 a1) (h2 : St.ev ⟨env, L⟩ x2 = g8 a2) (h3 : St.ev ⟨env, L⟩ x3 = g8 a3) (h4 : St.ev ⟨env, L⟩ x4 = g8 a4)
    (ht : P.underlying t = some (.slice e)) (hsz : szT P e = some 1) (hz : zeroV P e = some z) (hag : aggT P e = some false) (hzc : z.cells.length = 1) :
    PI P L env (.buildSlice t 4 #[(0, x1), (1, x2), (2, x3), (3, x4)]) (.sl false true ([a1, a2, a3, a4].map g8)) L :=
  I.bs [g8 a1, g8 a2, g8 a3, g8 a4] (by show [(0, St.ev ⟨env, L⟩ x1), (1, St.ev ⟨env, L⟩ x2), (2, St.ev ⟨env, L⟩ x3), (3, St.ev ⟨env, L⟩ x4)] = _; rw [h1, h2, h3, h4]; rfl) (by simp [g8, V.cells]) (by simp [g8, V.one]) (by simp) ht hsz hz hag hzc
/-! what the context tells -/
theorem I.shlKI (hx : St.ev ⟨env, L⟩ x = .int k a) (hy : St.ev ⟨env, L⟩ y = .int k' b) (hk : (63 ≤ k.bits)) (hb : 0 ≤ b ∧ b ≤ 63) (h : k.wrap (a * 2 ^ b.toNat) = a * 2 ^ b.toNat) : PI P L env (.binOp .shl t x y u) (.int k (a * 2 ^ b.toNat)) L :=
  ⟨by rw [pop_shl hx hy hb.1, Nat.min_eq_left (by omega), h]⟩
theorem I.shrKI (hx : St.ev ⟨env, L⟩ x = .int k a) (hy : St.ev ⟨env, L⟩ y = .int k' b) (hk : (63 ≤ k.bits)) (hb : 0 ≤ b ∧ b ≤ 63) : PI P L env (.binOp .shr t x y u) (.int k (a / ((2 ^ b.toNat : Nat) : Int))) L :=
  ⟨by
    have h3 : ((2 : Int) ^ b.toNat) = ((2 ^ b.toNat : Nat) : Int) := by simp
    rw [pop_shr hx hy hb.1, Nat.min_eq_left (by omega), h3, Int.fdiv_eq_ediv_of_nonneg _ (Int.natCast_nonneg _)]⟩
/-- What or makes of two numbers. -/
structure OrIs (k : IntKind) (a b c : Int) : Prop where
  out : pint .or k a b = some (.int k c)
theorem I.orF {c : Int} (hx : St.ev ⟨env, L⟩ x = .int k a) (hy : St.ev ⟨env, L⟩ y = .int k b) (h : OrIs k a b c) : PI P L env (.binOp .or t x y u) (.int k c) L :=
  ⟨by simp only [pop, hx, hy, pbin, if_true, h.out]; rfl⟩
theorem or_bit {c w : Nat} (h : (c + 1) * 2 ^ (w + 1) ≤ 2 ^ 62) : OrIs .u64 ((c * 2 ^ (w + 1) : Nat) : Int) ((2 ^ w : Nat) : Int) ((c * 2 ^ (w + 1) + 2 ^ w : Nat) : Int) := ⟨by
  have h0 : (c + 1) * 2 ^ (w + 1) = c * 2 ^ (w + 1) + 2 ^ (w + 1) := by rw [Nat.succ_mul]
  have h1 : 2 ^ w < 2 ^ (w + 1) := Nat.pow_lt_pow_right (by decide) (by omega)
  have hw : w + 1 ≤ 64 := by
    rcases Nat.lt_or_ge 64 (w + 1) with hh | hh
    · have := Nat.pow_lt_pow_right (a := 2) (by decide) hh
      omega
    · exact hh
  show some (V.int .u64 (IntKind.u64.wrap ((BitVec.ofInt 64 ((c * 2 ^ (w + 1) : Nat) : Int) ||| BitVec.ofInt 64 ((2 ^ w : Nat) : Int)).toNat : Nat))) = _
  rw [or_low (by omega) h1 hw, wU64 (by omega)]⟩
theorem I.neg (hx : St.ev ⟨env, L⟩ x = .int .i64 a) (h : -9223372036854775808 ≤ -a ∧ -a ≤ 9223372036854775807) : PI P L env (.unOp .neg t x) (.int .i64 (-a)) L :=
  ⟨by simp only [pop, hx, pun, Int.zero_sub, w64R h]; rfl⟩
end
/-! copies -/
section
variable {env : Nat → V} {L L' : List Obj} {t e : TypeId} {x y : Operand} {ats : Array TypeId} {α : Type} [Inhabited α] {g : α → V} {l ys : List α} {id n m sz o len : Nat}
/-- Into a row of one's own. -/
theorem I.cpO (ys : List α) (hx : St.ev ⟨env, L⟩ x = .own id 0 n n) (hL : L[id]? = some (.buf sz 0 (l.map g))) (hy : elems L (St.ev ⟨env, L⟩ y) = some (ys.map g)) (hn : l.length = n) (ht : ats[0]? = some t) (hte : P.underlying t = some (.slice e)) (hsz : szT P e = some sz) (hz : 0 < sz)
    (h1 : ∀ a, ((g a).cells.length == sz && (g a).cells.all V.one) = true) (hL' : L.set id (.buf sz 0 ((ys.take n ++ l.drop (Min.min ys.length n)).map g)) = L') : PI P L env (.call ⟨.builtin .copy, #[x, y], ats⟩) (.int .i64 (Min.min ys.length n : Nat)) L' := ⟨by
  subst hL' hn
  simp only [pop, pbuiltin, List.map_cons, List.map_nil, hx, hy, ht, pcopy, hte, hsz]
  rw [if_pos ⟨hz, by simp only [List.all_map]; exact List.all_eq_true.2 fun a _ => h1 a⟩]
  simp only [hL]
  rw [if_pos (by simp)]
  simp [List.map_take, List.map_drop]⟩
theorem flat_map1 (hg : ∀ a, (g a).cells = [g a]) : ∀ l : List α, flat (l.map g) = l.map g
  | [] => rfl
  | a :: l => by rw [List.map_cons, flat_cons, hg a, flat_map1 hg l]; rfl
/-- Into an array's part. -/
theorem I.cpA (ys : List α) (hx : St.ev ⟨env, L⟩ x = .bsl id o len) (hL : L[id]? = some (.box (l.map g))) (hy : elems L (St.ev ⟨env, L⟩ y) = some (ys.map g)) (hl : o + len ≤ l.length) (ht : ats[0]? = some t) (hte : P.underlying t = some (.slice e)) (hsz : szT P e = some 1)
    (hg : ∀ a, (g a).cells = [g a]) (ho : ∀ a, (g a).one = true) (hL' : L.set id (.box ((l.take o ++ ys.take len ++ l.drop (o + Min.min len ys.length)).map g)) = L') : PI P L env (.call ⟨.builtin .copy, #[x, y], ats⟩) (.int .i64 (Min.min ys.length len : Nat)) L' := ⟨by
  subst hL'
  have h1 : (ys.map g).all (fun y => y.cells.length == 1 && y.cells.all V.one) = true := by simp [hg, ho]
  simp only [pop, pbuiltin, List.map_cons, List.map_nil, hx, hy, ht, pcopy, hte, hsz]
  rw [if_pos ⟨by decide, h1⟩]
  simp only [hL]
  rw [if_pos ⟨by simpa using hl, trivial⟩]
  rw [← List.map_take, flat_map1 hg]
  simp only [List.length_map, setAt, List.length_take, List.map_append, List.map_take, List.map_drop]⟩
end
end Go.Pv
end
section
/- Steps that go on by themselves ('go', 'sp', 'fin'); contracts found by the number of the function ('CC'). -/
set_option linter.unusedVariables false
set_option linter.unusedSimpArgs false
set_option linter.unusedSectionVars false
namespace Go.Pv
variable {P : Program} {Z : Nat → Go.Obj → Prop}
/-- Objects that turned. -/
def setL (L : List Obj) : List (Nat × Obj) → List Obj
  | [] => L
  | (k, o) :: r => (setL L r).set k o
structure Hold (q : Prop) : Prop where out : q
theorem lenI {a b : Nat} (h : a = b := by first | rfl | assumption | omega | (simp; done) | (simp; omega) | fail) : a = b := h
theorem aggW {v : V} {a b : List V} (h : v = .agg a) (h' : a = b) : v = .agg b := by rw [h, h']
theorem refW {v : V} {a b c d : Nat} (h0 : v = .ref a c) (h : a = b) (h' : c = d) : v = .ref b d := by rw [h0, h, h']
theorem nlc {l t t' : List V} {a a' : V} (h : l = a :: t) (ha : a = a') (ht : t = t') : l = a' :: t' := by rw [h, ha, ht]
theorem nln {l : List V} (h : l = []) : l = [] := h
theorem natN {a b : Nat} (h : a = b := by first | ((conv => lhs; whnf) <;> rfl) | fail) : a = b := h
theorem nrmV {a b : V} (h : a = b := by first | ((conv => lhs; whnf) <;> rfl) | fail) : a = b := h
theorem nrmC {a b : List V} (h : a = b := by first
    | exact nln (by first | ((conv => lhs; whnf) <;> rfl) | fail)
    | exact nlc (by first | ((conv => lhs; whnf) <;> rfl) | fail) nrmV nrmC
    | fail) : a = b := h
theorem nrmA {a b : V} (h : a = b := by first | exact aggW rfl nrmC | fail) : a = b := h
theorem nrmR {a b : V} (h : a = b := by first | exact refW rfl natN natN | exact nrmV | fail) : a = b := h
theorem nrmL {a b : List Obj} (h : a = b := by ((try simp (decide := true) only [St.ev, upd, reduceIte, List.getD_cons_zero, List.getD_cons_succ, List.getD_nil, V.ofVal, V.ofVal1, V.ofVals, Option.getD_some, Option.map_some, List.nil_append, List.cons_append, List.set_cons_zero, List.set_cons_succ, setAt, List.take_succ_cons, List.take_zero, List.take_nil, List.drop_succ_cons, List.drop_zero, List.drop_nil, List.length_cons, List.length_nil, Nat.reduceAdd, Nat.zero_add, Nat.add_zero, V.cells, List.map_cons, List.map_nil, List.append_nil, setL]) <;> rfl)) : a = b := h
theorem ltI {p : Prop} (h : p := by first | omega | (simp only [List.length_map, List.length_append, List.length_cons, List.length_nil, List.length_set, List.length_replicate]; omega) | fail) : p := h
theorem elI {α : Type} {ats : Array TypeId} {g : α → V} {sz : Nat} (h : El P ats g sz := by first | exact El.mk' rfl rfl rfl rfl rfl rfl rfl (by decide +kernel) (by decide) (fun _ => rfl) | fail) : El P ats g sz := h
theorem kwI {k : IntKind} {a : Int} (h : k.wrap a = a := by first | exact w64R ltI | exact wU8 ltI | exact wU16 ltI | exact wU32 ltI | exact wU64 ltI | fail) : k.wrap a = a := h
theorem popI {L L' : List Obj} {env : Nat → V} {op : Op} {v : V} (h : PI P L env op v L' := by first
    | (show PI _ _ _ (Op.move _) _ _; first | exact I.mv rfl | fail)
    | (show PI _ _ _ (Op.assign _) _ _; first | exact I.as rfl | fail)
    | (show PI _ _ _ (Op.call (Call.mk (Callee.builtin Builtin.len) _ _)) _ _; first | exact I.lnS rfl rfl rfl | exact I.lnL rfl rfl rfl | exact I.lnN rfl rfl rfl | exact I.lnM rfl rfl rfl rfl | exact I.go rfl nrmV nrmL | fail)
    | (show PI _ _ _ (Op.call (Call.mk (Callee.builtin Builtin.append) _ _)) _ _; first | exact I.ap [_] rfl rfl rfl lenI ltI elI nrmL | exact I.ap _ rfl rfl rfl lenI ltI elI nrmL | exact I.apE [_] rfl rfl ltI elI nrmL | exact I.apE _ rfl rfl ltI elI nrmL | exact I.apN [_] rfl rfl ltI elI nrmL | exact I.apN _ rfl rfl ltI elI nrmL | exact I.go rfl nrmV nrmL | fail)
    | (show PI _ _ _ (Op.call (Call.mk (Callee.builtin Builtin.copy) _ _)) _ _; first | exact I.go rfl nrmV nrmL | exact I.cpO _ rfl rfl rfl lenI rfl rfl rfl (by decide) (fun _ => rfl) nrmL | exact I.cpA _ rfl rfl rfl ltI rfl rfl rfl (fun _ => rfl) (fun _ => rfl) nrmL | fail)
    | (show PI _ _ _ (Op.call (Call.mk (Callee.builtin Builtin.min) _ _)) _ _; first | exact I.min rfl rfl | exact I.go rfl nrmV nrmL | fail)
    | (show PI _ _ _ (Op.call (Call.mk (Callee.builtin Builtin.max) _ _)) _ _; first | exact I.max rfl rfl | exact I.go rfl nrmV nrmL | fail)
    | (show PI _ _ _ (Op.binOp BinOp.add _ _ _ _) _ _; first | exact I.add rfl rfl ltI | exact I.adT rfl rfl ltI | exact I.add32 w32I w32I | exact I.add8 b8I b8I | exact I.addK rfl rfl kwI | exact I.go rfl nrmV nrmL | fail)
    | (show PI _ _ _ (Op.binOp BinOp.sub _ _ _ _) _ _; first | exact I.sub rfl rfl ltI | exact I.sub32 w32I w32I | exact I.sub8 b8I b8I | exact I.subK rfl rfl kwI | exact I.go rfl nrmV nrmL | fail)
    | (show PI _ _ _ (Op.binOp BinOp.mul _ _ _ _) _ _; first | exact I.mul rfl rfl ltI | exact I.mul32 w32I w32I | exact I.mul8 b8I b8I | exact I.mulK rfl rfl kwI | exact I.go rfl nrmV nrmL | fail)
    | (show PI _ _ _ (Op.binOp BinOp.rem _ _ _ _) _ _; first | exact I.rem rfl rfl ltI | exact I.go rfl nrmV nrmL | fail)
    | (show PI _ _ _ (Op.binOp BinOp.quo _ _ _ _) _ _; first | exact I.quo rfl rfl ltI | exact I.quoK rfl rfl ltI kwI | exact I.go rfl nrmV nrmL | fail)
    | (show PI _ _ _ (Op.binOp BinOp.xor _ _ _ _) _ _; first | exact I.xor8 b8I b8I | exact I.xor32 w32I w32I | exact I.go rfl nrmV nrmL | fail)
    | (show PI _ _ _ (Op.binOp BinOp.and _ _ _ _) _ _; first | exact I.and8 b8I b8I | exact I.and32 w32I w32I | exact I.andM 1 rfl rfl ltI ⟨by first | exact .inl rfl | exact .inr rfl, by decide⟩ | exact I.andM 5 rfl rfl ltI ⟨by first | exact .inl rfl | exact .inr rfl, by decide⟩ | exact I.andM 6 rfl rfl ltI ⟨by first | exact .inl rfl | exact .inr rfl, by decide⟩ | exact I.andM 14 rfl rfl ltI ⟨by first | exact .inl rfl | exact .inr rfl, by decide⟩ | exact I.andM 30 rfl rfl ltI ⟨by first | exact .inl rfl | exact .inr rfl, by decide⟩ | exact I.andM 32 rfl rfl ltI ⟨by first | exact .inl rfl | exact .inr rfl, by decide⟩ | exact I.andU 5 rfl rfl ltI (by decide) | exact I.andU 32 rfl rfl ltI (by decide) | exact I.go rfl nrmV nrmL | fail)
    | (show PI _ _ _ (Op.binOp BinOp.or _ _ _ _) _ _; first | exact I.or8 b8I b8I | exact I.or32 w32I w32I | exact I.orF rfl rfl (by assumption) | exact I.or0 rfl rfl ltI | exact I.orM rfl rfl ltI (by first | exact .inl rfl | exact .inr rfl) | exact I.orB 14 rfl rfl ltI (by decide) | exact I.orB 31 rfl rfl ltI (by decide) | exact I.go rfl nrmV nrmL | fail)
    | (show PI _ _ _ (Op.unOp UnOp.neg _ _) _ _; first | exact I.neg rfl ltI | exact I.go rfl nrmV nrmL | fail)
    | (show PI _ _ _ (Op.unOp UnOp.xor _ _) _ _; first | exact I.not32 rfl | exact I.go rfl nrmV nrmL | fail)
    | (show PI _ _ _ (Op.binOp BinOp.shl _ _ _ _) _ _; first | exact I.shlN rfl rfl ltI | exact I.shlW w32I rfl | exact I.shlB b8I rfl | exact I.shlI32 w32I rfl ltI | exact I.shlIB b8I rfl ltI | exact I.shlK rfl rfl (by decide) kwI | exact I.shlKI rfl rfl (by decide) ltI kwI | exact I.go rfl nrmV nrmL | exact I.shl rfl rfl ltI | fail)
    | (show PI _ _ _ (Op.binOp BinOp.shr _ _ _ _) _ _; first | exact I.shrN rfl rfl ltI | exact I.shrU rfl rfl ltI | exact I.shrW w32I rfl | exact I.shrB b8I rfl | exact I.shrI32 w32I rfl ltI | exact I.shrIB b8I rfl ltI | exact I.shrK rfl rfl (by decide) ltI | exact I.shrKI rfl rfl (by decide) ltI | exact I.go rfl nrmV nrmL | exact I.shr rfl rfl ltI | fail)
    | (show PI _ _ _ (Op.convert _ _ _) _ _; first | exact I.cvW8 rfl rfl rfl | exact I.cv8W rfl rfl rfl | exact I.cv rfl rfl rfl (w64R ltI) | exact I.cvB rfl rfl rfl | exact I.cvW rfl rfl rfl | exact I.cv rfl rfl rfl (wU16 ltI) | exact I.cv rfl rfl rfl (wU64 ltI) | exact I.cvU rfl rfl rfl | exact I.cvS rfl rfl rfl rfl rfl | exact I.cvT rfl rfl rfl rfl rfl | exact I.go rfl nrmV nrmL | fail)
    | (show PI _ _ _ (Op.indexAddr _ _ _) _ _; first | exact I.iaS rfl rfl ltI rfl rfl rfl | exact I.iaN rfl rfl ltI rfl lenI rfl rfl | exact I.go rfl nrmV nrmL | exact I.iaR rfl rfl ltI rfl rfl | exact I.iaC rfl rfl ltI ltI rfl rfl | fail)
    | (show PI _ _ _ (Op.index _ _ _) _ _; first | exact I.go rfl nrmA nrmL | exact I.go rfl nrmV nrmL | exact I.ixA rfl rfl ltI ltI rfl rfl rfl | fail)
    | (show PI _ _ _ (Op.load _ _) _ _; first | exact I.go rfl nrmA nrmL | exact I.go rfl nrmV nrmL | exact I.ldN rfl rfl lenI ltI rfl rfl rfl | exact I.ldA rfl rfl lenI ltI rfl rfl rfl rfl | exact I.ldR rfl rfl ltI rfl rfl | exact I.ldC rfl ltI rfl rfl | exact I.ldW rfl rfl lenI rfl rfl | fail)
    | (show PI _ _ _ (Op.store _ _ _) _ _; first | exact I.go rfl nrmV nrmL | exact I.stE _ rfl rfl lenI ltI rfl rfl ltI rfl rfl rfl nrmL | exact I.stE _ rfl rfl lenI ltI b8I rfl ltI rfl rfl rfl nrmL | exact I.stE _ rfl rfl lenI ltI w32I rfl ltI rfl rfl rfl nrmL | exact I.stR _ rfl rfl gvI ltI rfl rfl rfl nrmL | fail)
    | (show PI _ _ _ (Op.slice _ _ _ _ _) _ _; first | exact I.slB rfl rfl rfl ltI rfl rfl (fun _ => rfl) | exact I.slH rfl rfl ltI rfl rfl (fun _ => rfl) | exact I.slL rfl rfl ltI rfl rfl (fun _ => rfl) | exact I.slT rfl rfl rfl ltI rfl | exact I.slO rfl rfl ltI rfl lenI rfl rfl | exact I.go rfl nrmV nrmL | fail)
    | (show PI _ _ _ (Op.lookup _ _ _ _) _ _; first | exact I.mlS rfl rfl rfl rfl rfl rfl | exact I.go rfl nrmV nrmL | fail)
    | (show PI _ _ _ (Op.mapUpdate _ _ _ _) _ _; first | exact I.muS rfl rfl rfl rfl (by assumption) rfl rfl nrmL | exact I.go rfl nrmV nrmL | fail)
    | (show PI _ _ _ (Op.makeSlice _ _ _) _ _; first | exact I.mk (g := g8) 0 _ rfl rfl ltI nrmL rfl rfl rfl (by decide) rfl (by decide +kernel) | exact I.mk (g := g32) 0 _ rfl rfl ltI nrmL rfl rfl rfl (by decide) rfl (by decide +kernel) | exact I.go rfl nrmV nrmL | fail)
    | (show PI _ _ _ (Op.buildSlice _ 0 _) _ _; first | exact I.bs0 rfl rfl rfl rfl rfl (by decide) (by first | exact .inl rfl | exact .inr rfl) | fail)
    | (show PI _ _ _ (Op.buildSlice _ 1 _) _ _; first | exact I.bsB1 b8I rfl rfl rfl rfl rfl | exact I.bs1 nrmV rfl rfl rfl rfl rfl rfl rfl | exact I.bsA rfl rfl rfl rfl rfl rfl rfl rfl (by decide) (by decide) | exact I.go rfl nrmV nrmL | fail)
    | (show PI _ _ _ (Op.buildSlice _ 2 _) _ _; first | exact I.bsB2 b8I b8I rfl rfl rfl rfl rfl | exact I.bs2 nrmV nrmV rfl rfl rfl rfl rfl rfl rfl rfl rfl | exact I.go rfl nrmV nrmL | fail)
    | (show PI _ _ _ (Op.buildSlice _ 3 _) _ _; first | exact I.bs3 nrmV nrmV nrmV rfl rfl rfl rfl rfl rfl rfl rfl rfl rfl rfl | exact I.go rfl nrmV nrmL | fail)
    | (show PI _ _ _ (Op.buildSlice _ 4 _) _ _; first | exact I.bsB4 b8I b8I b8I b8I rfl rfl rfl rfl rfl | exact I.bs4 nrmV nrmV nrmV nrmV rfl rfl rfl rfl rfl rfl rfl rfl rfl rfl rfl rfl rfl | exact I.go rfl nrmV nrmL | fail)
    | (show PI _ _ _ (Op.build _ _) _ _; first | exact I.go rfl nrmA nrmL | fail)
    | (show PI _ _ _ (Op.fieldAddr _ _ _) _ _; first | exact I.go rfl nrmR nrmL | fail)
    | (show PI _ _ _ (Op.alloc _) _ _; first | exact I.go rfl nrmR nrmL | fail)
    | (show PI _ _ _ (Op.box _ _) _ _; first | exact I.go rfl nrmR nrmL | fail)
    | exact I.go rfl nrmV nrmL
    | fail) : PI P L env op v L' := h

class CC (P : Program) (f : FuncId) (C : outParam Prop) : Prop where
  out : C
abbrev HZ (Z : Nat → Go.Obj → Prop) : Prop := ∀ B o, Z B o → ∃ c e f, o = .cells c e f
/-- Data in, data out. -/
abbrev Ct (P : Program) (f : FuncId) (args : List V) (v : V) : Prop := ∀ {Z : Nat → Go.Obj → Prop}, HZ Z → ∀ L, SE P Z f args L v L
section
variable {ops : Array Oper} {rest : List Oper} {env : Nat → V} {L L' L0 : List Obj} {K : St → Prop} {d : Tmp} {op : Op} {ty : TypeId} {pos : String} {af : Array Edge} {v v0 : V} {f : Operand} {args : Array Operand} {ats : Array TypeId} {g : FuncId} {caps as : List V} {C : Prop}
theorem X.opr (h : PI P L env op v0 L0) (hK : XO P Z ops rest (upd env d v) L0 K) (hv : v0 = v := by first | exact nrmV | fail) : XO P Z ops (⟨some d, op, ty, pos, af, none⟩ :: rest) env L K := X.go0 (by rw [h.out, hv]) hK
theorem A.opr (h : PI P L env op v0 L) (hK : AO P Z ops rest (upd env d v) L K) (hv : v0 = v := by first | exact nrmV | fail) : AO P Z ops (⟨some d, op, ty, pos, af, none⟩ :: rest) env L K := A.go0 (by rw [h.out, hv]) hK
theorem X.ost (h : PI P L env op v0 L0) (hK : XO P Z ops rest env L0 K) : XO P Z ops (⟨none, op, ty, pos, af, none⟩ :: rest) env L K := X.st0 h.out hK
theorem X.cc [CC P g C] (ha : args.toList.map (St.ev ⟨env, L⟩) = as) (h : C → SE P Z g as L v L') (hK : XO P Z ops rest (upd env d v) L' K) : XO P Z ops (⟨some d, .call ⟨.value (.func g), args, ats⟩, ty, pos, af, none⟩ :: rest) env L K := X.call (h (CC.out P g)) hK ha
theorem A.cc [CC P g C] (ha : args.toList.map (St.ev ⟨env, L⟩) = as) (h : C → SE P Z g as L v L) (hK : AO P Z ops rest (upd env d v) L K) : AO P Z ops (⟨some d, .call ⟨.value (.func g), args, ats⟩, ty, pos, af, none⟩ :: rest) env L K := A.call (h (CC.out P g)) hK ha
theorem X.cf (hf : St.ev ⟨env, L⟩ f = .fn g caps) [CC P g C] (ha : args.toList.map (St.ev ⟨env, L⟩) ++ caps = as) (h : C → SE P Z g as L v L') (hK : XO P Z ops rest (upd env d v) L' K) : XO P Z ops (⟨some d, .call ⟨.value f, args, ats⟩, ty, pos, af, none⟩ :: rest) env L K :=
  X.callf hf rfl (by rw [ha]; exact h (CC.out P g)) hK
theorem A.cf (hf : St.ev ⟨env, L⟩ f = .fn g caps) [CC P g C] (ha : args.toList.map (St.ev ⟨env, L⟩) ++ caps = as) (h : C → SE P Z g as L v L) (hK : AO P Z ops rest (upd env d v) L K) : AO P Z ops (⟨some d, .call ⟨.value f, args, ats⟩, ty, pos, af, none⟩ :: rest) env L K :=
  A.callf hf rfl (by rw [ha]; exact h (CC.out P g)) hK
end
theorem tstI {p : Prop} (h : p := by first | assumption | omega | decide | (simp; done) | fail) : p := h
theorem notD {p : Prop} [Decidable p] (h : ¬ p) : (!decide p) = true := by simp [h]
theorem notE {p : Prop} [Decidable p] (h : p) : (!decide p) = false := by simp [h]
theorem nB1 {b : Bool} (h : b = true) : (!b) = false := by rw [h]; rfl
theorem nB2 {b : Bool} (h : b = false) : (!b) = true := by rw [h]; rfl
theorem nB3 {b : Bool} (h : ¬ b = true) : (!b) = true := by cases b <;> simp_all
theorem bT {b : Bool} (h : b = true := by first | assumption | (refine decide_eq_true ?_; first | assumption | omega | fail) | (refine notD ?_; first | assumption | omega | fail) | (refine nB2 ?_; assumption) | (refine nB3 ?_; assumption) | rfl | fail) : b = true := h
theorem bF {b : Bool} (h : b = false := by first | assumption | (refine decide_eq_false ?_; first | assumption | omega | fail) | (refine notE ?_; first | assumption | omega | fail) | (refine Bool.eq_false_iff.2 ?_; assumption) | (refine nB1 ?_; assumption) | rfl | fail) : b = false := h
theorem valI {a b : V} (h : a = b := by first | ((conv => lhs; whnf) <;> rfl) | fail) : a = b := h
theorem rrfl {a b : V} (h : a = b := by first | with_reducible rfl | fail) : a = b := h
theorem brfl {a b : V} (h : a = b := by first | with_reducible rfl | with_reducible exact notT | with_reducible exact notF | fail) : a = b := h
section
variable {r : Option Nat} {n : Nat} {Q : Ex → St → Prop} {env : Nat → V} {L : List Obj} {x y : Code} {ops : Array Oper} {rest : List Oper} {K : St → Prop} {dst : Option Tmp} {op : Op} {ty : TypeId} {pos : String} {af : Array Edge} {j : Nat} {want : Bool} {g : Tmp} {v : V} {b : Bool}
theorem X.hbt (hj : (ops[j]?).bind (·.dst) = some g) (hg : env g = v) (hv : v = .bool b) (h : b = true) (hK : XO P Z ops (⟨dst, op, ty, pos, af, some (j, want)⟩ :: rest) (upd env g (.bool true)) L K) : XO P Z ops (⟨dst, op, ty, pos, af, some (j, want)⟩ :: rest) env L K := X.gs hj (hg.trans hv) (fun _ => hK) (fun h' => by rw [h] at h'; cases h')
theorem X.hbf (hj : (ops[j]?).bind (·.dst) = some g) (hg : env g = v) (hv : v = .bool b) (h : b = false) (hK : XO P Z ops (⟨dst, op, ty, pos, af, some (j, want)⟩ :: rest) (upd env g (.bool false)) L K) : XO P Z ops (⟨dst, op, ty, pos, af, some (j, want)⟩ :: rest) env L K := X.gs hj (hg.trans hv) (fun h' => by rw [h] at h'; cases h') (fun _ => hK)
theorem A.hbt (hj : (ops[j]?).bind (·.dst) = some g) (hg : env g = v) (hv : v = .bool b) (h : b = true) (hK : AO P Z ops (⟨dst, op, ty, pos, af, some (j, want)⟩ :: rest) (upd env g (.bool true)) L K) : AO P Z ops (⟨dst, op, ty, pos, af, some (j, want)⟩ :: rest) env L K := A.gs hj (hg.trans hv) (fun _ => hK) (fun h' => by rw [h] at h'; cases h')
theorem A.hbf (hj : (ops[j]?).bind (·.dst) = some g) (hg : env g = v) (hv : v = .bool b) (h : b = false) (hK : AO P Z ops (⟨dst, op, ty, pos, af, some (j, want)⟩ :: rest) (upd env g (.bool false)) L K) : AO P Z ops (⟨dst, op, ty, pos, af, some (j, want)⟩ :: rest) env L K := A.gs hj (hg.trans hv) (fun h' => by rw [h] at h'; cases h') (fun _ => hK)
theorem X.hn (hj : (ops[j]?).bind (·.dst) = some g) (hg : env g = v) (hv : v = .bool (!b)) (h1 : b = false → XO P Z ops (⟨dst, op, ty, pos, af, some (j, want)⟩ :: rest) (upd env g (.bool true)) L K) (h2 : b = true → XO P Z ops (⟨dst, op, ty, pos, af, some (j, want)⟩ :: rest) (upd env g (.bool false)) L K) : XO P Z ops (⟨dst, op, ty, pos, af, some (j, want)⟩ :: rest) env L K := X.gs hj (hg.trans hv) (fun h => h1 (by simpa using h)) (fun h => h2 (by simpa using h))
theorem A.hn (hj : (ops[j]?).bind (·.dst) = some g) (hg : env g = v) (hv : v = .bool (!b)) (h1 : b = false → AO P Z ops (⟨dst, op, ty, pos, af, some (j, want)⟩ :: rest) (upd env g (.bool true)) L K) (h2 : b = true → AO P Z ops (⟨dst, op, ty, pos, af, some (j, want)⟩ :: rest) (upd env g (.bool false)) L K) : AO P Z ops (⟨dst, op, ty, pos, af, some (j, want)⟩ :: rest) env L K := A.gs hj (hg.trans hv) (fun h => h1 (by simpa using h)) (fun h => h2 (by simpa using h))
theorem W.jn {c : Operand} (hc : St.ev ⟨env, L⟩ c = v) (hv : v = .bool (!b)) (h1 : b = false → CW P Z r n x Q env L) (h2 : b = true → CW P Z r n y Q env L) (ho : okX n c = true := by kernel_rfl) : CW P Z r n (.cond c x y) Q env L := W.cd (hc.trans hv) (fun h => h1 (by simpa using h)) (fun h => h2 (by simpa using h)) ho
theorem W.jbt {c : Operand} (hc : St.ev ⟨env, L⟩ c = v) (hv : v = .bool b) (h : b = true) (h1 : CW P Z r n x Q env L) (ho : okX n c = true := by kernel_rfl) : CW P Z r n (.cond c x y) Q env L := W.ct (hc.trans (hv.trans (by rw [h]))) h1 ho
theorem W.jbf {c : Operand} (hc : St.ev ⟨env, L⟩ c = v) (hv : v = .bool b) (h : b = false) (h1 : CW P Z r n y Q env L) (ho : okX n c = true := by kernel_rfl) : CW P Z r n (.cond c x y) Q env L := W.cf (hc.trans (hv.trans (by rw [h]))) h1 ho
end
end Go.Pv
end
section
/- Data by its form; contracts of functions that hand back data; loops by a state. -/
set_option linter.unusedVariables false
set_option linter.unusedSimpArgs false
set_option linter.unusedSectionVars false
namespace Go.Pv
variable {P : Program} {Z : Nat → Go.Obj → Prop}
class DV (v : V) : Prop where
  lt : V.lt 0 v = true
class DVs (vs : List V) : Prop where
  lts : V.lts 0 vs = true
class DG {α : Type} (g : α → V) : Prop where
  lt : ∀ a, V.lt 0 (g a) = true
instance : DVs [] := ⟨rfl⟩
instance {v : V} {vs : List V} [h : DV v] [hs : DVs vs] : DVs (v :: vs) := ⟨by simp [V.lts, h.lt, hs.lts]⟩
instance {α : Type} {g : α → V} {l : List α} [h : DG g] : DVs (l.map g) := ⟨map_data h.lt l⟩
instance {k : IntKind} {n : Int} : DV (.int k n) := ⟨rfl⟩
instance {b : Bool} : DV (.bool b) := ⟨rfl⟩
instance {s : ByteArray} : DV (.str s) := ⟨rfl⟩
instance : DV .nilp := ⟨rfl⟩
instance : DV .nilf := ⟨rfl⟩
instance : DV .nilmap := ⟨rfl⟩
instance {f : FuncId} {cs : List V} [h : DVs cs] : DV (.fn f cs) := ⟨h.lts⟩
instance {a b : Bool} {xs : List V} [h : DVs xs] : DV (.sl a b xs) := ⟨h.lts⟩
instance {xs : List V} [h : DVs xs] : DV (.cref xs) := ⟨h.lts⟩
instance {xs : List V} [h : DVs xs] : DV (.agg xs) := ⟨h.lts⟩
instance {xs : List V} [h : DVs xs] : DV (.tup xs) := ⟨h.lts⟩
instance : DG g8 := ⟨fun _ => rfl⟩
instance {k : IntKind} : DG (V.int k) := ⟨fun _ => rfl⟩
instance {b : UInt8} : DV (g8 b) := ⟨rfl⟩
instance {l : List UInt8} : DV (gB l) := ⟨gB_data l⟩
instance : DG gB := ⟨gB_data⟩
/-- A row of ints. -/
def gI (l : List Int) : V := .sl false false (l.map (V.int .i64))
instance {l : List Int} : DV (gI l) := ⟨(inferInstance : DV (.sl false false (l.map (V.int .i64)))).lt⟩
instance : DG gI := ⟨fun l => (inferInstance : DV (gI l)).lt⟩
theorem V.cutv_data {N : Nat} : ∀ {v : V}, V.lt 0 v = true → V.cutv N v = v := by
  suffices h : ∀ k, ∀ v : V, SizeOf.sizeOf v ≤ k → V.lt 0 v = true → V.cutv N v = v from fun {v} hv => h _ v (Nat.le_refl _) hv
  intro k
  induction k with
  | zero => intro v hv; cases v <;> simp at hv
  | succ k ih =>
    intro v hk hv
    have key : ∀ cs : List V, SizeOf.sizeOf cs ≤ k → V.lts 0 cs = true → V.cutvs N cs = cs := by
      intro cs
      induction cs with
      | nil => intro _ _; rfl
      | cons c cs ihc =>
        intro hs hl
        simp only [V.lts, Bool.and_eq_true] at hl
        simp at hs
        rw [V.cutvs, ih c (by omega) hl.1, ihc (by omega) hl.2]
    cases v with
    | agg cs => rw [V.cutv, key cs (by simp at hk; omega) hv]
    | tup cs => rw [V.cutv, key cs (by simp at hk; omega) hv]
    | sl a b xs => exact cutv_sl hv
    | cref xs => exact cutv_cref hv
    | fn f cs => rw [V.cutv, if_pos (lts_le (Nat.zero_le _) hv)]
    | ref | eref | own | bsl | yl | map => simp [V.lt] at hv
    | _ => rfl
theorem cutD {N : Nat} {u v : V} (e : u = v) [h : DV v] : V.cutv N u = v := by rw [e]; exact V.cutv_data h.lt
theorem cutN {N : Nat} {k : IntKind} {a b : Int} (h : a = b) : V.cutv N (.int k a) = .int k b := by rw [h]; rfl
/-! slots that name earlier objects only -/
theorem ltU {N : Nat} {e : Nat → V} {k : Nat} {v : V} (hv : V.lt N v = true) (he : ∀ t, V.lt N (e t) = true) : ∀ t, V.lt N (upd e k v t) = true := fun t => by
  unfold upd; split
  · exact hv
  · exact he t
theorem ltB {N : Nat} {args : List V} (h : V.lts N args = true) : ∀ t, V.lt N (args.getD t .undef) = true := fun t => by
  rw [List.getD_eq_getElem?_getD]
  cases hq : args[t]? with
  | none => rfl
  | some v => exact V.lts_iff.1 h v (List.mem_of_getElem? hq)
theorem ltD {N : Nat} {v : V} [h : DV v] : V.lt N v = true := V.lt_mono (Nat.zero_le _) _ h.lt
theorem ltsD {N : Nat} {vs : List V} [h : DVs vs] : V.lts N vs = true := lts_le (Nat.zero_le _) h.lts
theorem ltE {N : Nat} {e : Nat → V} (h : ∀ t, V.lt N (e t) = true := by
    repeat' first
      | assumption
      | refine ltU (by first | rfl | exact ltD | fail) ?_
      | exact ltB (by first | rfl | exact ltsD | fail)
      | fail) : ∀ t, V.lt N (e t) = true := h
theorem ob_loop {N : Nat} {stt : LoopState} {pend : Option Code} {env : Nat → V} {n : Nat} {params : Array Tmp} {assign body : Code} (h : ∀ t, V.lt N (env t) = true) : objLts N (.loop stt pend env n params assign body) := fun t _ => h t
theorem ob_boxN {N : Nat} {cs : List V} (h : V.lts N cs = true) : objLts N (.box cs) := h
def agE (env : Nat → V) : List (Nat × V) → Prop
  | [] => True
  | (t, v) :: r => env t = v ∧ agE env r
def setE (env : Nat → V) : List (Nat × V) → (Nat → V)
  | [] => env
  | (t, v) :: r => upd (setE env r) t v
theorem setE_self {env : Nat → V} : ∀ {l : List (Nat × V)}, agE env l → setE env l = env
  | [], _ => rfl
  | (t, v) :: r, h => by rw [setE, setE_self h.2, upd_self h.1]
def lpS {α : Type} (N : Nat) (F : α → List (Nat × V)) (M : α → List Obj) (I : α → Prop) (m : α → Nat) (k : Nat) (Q : Ex → St → Prop) : Ex → St → Prop
  | .normal, st => ∃ s B, agE (fun t => V.cutv N (st.env t)) (F s) ∧ st.L = M s ++ B ∧ (M s).length = N ∧ (∀ ob ∈ M s, objLts N ob) ∧ I s ∧ m s < k
  | e, st => Q e st
section
variable {r : Option Nat} {n : Nat} {Q : Ex → St → Prop} {env : Nat → V} {L : List Obj} {i : Nat} {c : Code} {α : Type} {F : α → List (Nat × V)} {M : α → List Obj} {I : α → Prop} {m : α → Nat} {N k : Nat}
theorem W.loop (F : α → List (Nat × V)) (M : α → List Obj) (I : α → Prop) (m : α → Nat) (s0 : α) (hI : I s0) (round : ∀ s env, I s → CW P Z r n c (Go.Pv.lpS (M s0).length F M I m (m s) Q) (setE env (F s)) (M s))
    (hF : agE env (F s0) := by (repeat' first | exact True.intro | refine And.intro ?_ ?_ | rfl | (refine vI ?_; omega))) (hL : L = M s0 := by rfl) : CW P Z r n (.loop c) Q env L := by
  subst hL
  refine W.lpF (fun k st => ∃ s, I s ∧ m s = k ∧ agE st.env (F s) ∧ st.L = M s) (m s0) ⟨s0, hI, rfl, hF, rfl⟩ ?_
  rintro k env L ⟨s, h1, h2, h3, h4⟩
  subst h2
  have := round s env h1
  rw [setE_self h3] at this
  simp only at h4
  subst h4
  refine W.mono this fun e st h => ?_
  cases e with
  | normal =>
    obtain ⟨s', B, g1, g2, g3, g4, g5, g6⟩ := h
    exact ⟨m s', g6, M s', B, g2, g3, g4, s', g5, rfl, g1, rfl⟩
  | exit _ => exact h
  | ret => exact h
theorem K.Le (h : KO Q (.exit i) env L) : KO (Go.Pv.lpS N F M I m k Q) (.exit i) env L := ⟨h.out⟩
theorem K.Lr (h : KO Q .ret env L) : KO (Go.Pv.lpS N F M I m k Q) .ret env L := ⟨h.out⟩
/-- The end of a round. -/
theorem lp (s : α) (hI : I s) (hm : m s < k) {B : List Obj} (hE : agE (fun t => V.cutv N (env t)) (F s) := by (repeat' first | exact True.intro | refine And.intro ?_ ?_ | rfl | exact cutD rfl | (refine cutN ?_; omega)))
    (hL : L = M s ++ B := by rfl) (hN : (M s).length = N := by rfl) (ho : ∀ ob ∈ M s, objLts N ob := by (repeat' first | exact obs_nil | refine obs_cons ?_ ?_ | exact ob_box rfl | exact ob_buf rfl | exact ob_box DVs.lts | exact ob_buf DVs.lts | exact ob_mapS | exact ob_boxN (by first | rfl | (simp [V.lts, V.lt]; done) | fail) | exact ob_loop ltE | rfl)) : KO (Go.Pv.lpS N F M I m k Q) .normal env L := ⟨⟨s, B, hE, hL, hN, ho, hI, hm⟩⟩
end
mutual
/-- Of slices it is not told any more whether they are nil, or have room. -/
def V.weak : V → V
  | .sl _ _ xs => .sl false false xs
  | .tup vs => .tup (V.weaks vs)
  | .agg vs => .agg (V.weaks vs)
  | v => v
def V.weaks : List V → List V
  | [] => []
  | v :: vs => V.weak v :: V.weaks vs
end
theorem V.weaks_eq : ∀ vs : List V, V.weaks vs = vs.map V.weak
  | [] => rfl
  | v :: vs => by rw [V.weaks, V.weaks_eq vs, List.map_cons]
theorem VR.weak {G : Gh} {v : V} {r : Value} (h : VR G v r) : VR G (V.weak v) r := by
  induction h with
  | slnil => exact .sl0 (by simp)
  | sl0 hx => exact .sl0 (by simp)
  | sl sz vs hne hx hc hsz hk hv _ => exact .sl sz vs hne (by simp) hc hsz hk hv
  | agg hn hv ih => rw [V.weak, V.weaks_eq]; exact .agg (by simpa using hn) fun p hp => by rw [List.getElem_map]; exact ih p (by simpa using hp)
  | tup hn hv ih => rw [V.weak, V.weaks_eq]; exact .tup (by simpa using hn) fun p hp => by rw [List.getElem_map]; exact ih p (by simpa using hp)
  | bool b => exact .bool b
  | int k n => exact .int k n
  | str s => exact .str s
  | nilp => exact .nilp
  | ref h => exact .ref h
  | eref h => exact .eref h
  | erefx h => exact .erefx h
  | cref vs hk hv _ => exact .cref vs hk hv
  | own hr hl ha => exact .own hr hl ha
  | bsl h hc ha => exact .bsl h hc ha
  | fn hn hv _ => exact .fn hn hv
  | nilf => exact .nilf
  | yl h => exact .yl h
  | map h => exact .map h
  | nilmap => exact .nilmap
  | top r h => exact .top r h
mutual
/-- The same, within the elements of slices that are written out, too. -/
def V.weakD : V → V
  | .sl n x xs => if (n || x) = true then .sl false false (V.weakDs xs) else .sl false false xs
  | .tup vs => .tup (V.weakDs vs)
  | .agg vs => .agg (V.weakDs vs)
  | v => v
def V.weakDs : List V → List V
  | [] => []
  | v :: vs => V.weakD v :: V.weakDs vs
end
theorem V.weakDs_eq : ∀ vs : List V, V.weakDs vs = vs.map V.weakD
  | [] => rfl
  | v :: vs => by rw [V.weakDs, V.weakDs_eq vs, List.map_cons]
theorem V.weakD_cells (v : V) : (V.weakD v).cells = v.cells.map V.weakD := by
  cases v with
  | agg cs => rw [V.weakD, V.weakDs_eq]; rfl
  | sl a b xs => simp only [V.weakD]; split <;> simp [V.cells, V.weakD, *]
  | tup cs => rw [V.weakD]; simp [V.cells, V.weakD]
  | _ => simp [V.cells, V.weakD]
theorem V.weakD_flat : ∀ xs : List V, flat (xs.map V.weakD) = (flat xs).map V.weakD
  | [] => rfl
  | x :: xs => by rw [List.map_cons, flat_cons, flat_cons, V.weakD_cells, V.weakD_flat xs, List.map_append]
theorem VR.weakD {G : Gh} {v : V} {r : Value} (h : VR G v r) : VR G (V.weakD v) r := by
  induction h with
  | slnil => exact .sl0 (by simp)
  | sl0 hx =>
    rename_i exact A c
    cases exact <;> exact .sl0 (by simp)
  | sl sz vs hne hx hc hsz hk hv ih =>
    rename_i exact xs B O c
    rw [V.weakD, V.weakDs_eq]
    cases exact with
    | false => exact .sl sz vs hne (by simp) hc hsz hk hv
    | true =>
    rw [if_pos (by rfl)]
    have := VR.sl (G := G) (exact := false) (xs := xs.map V.weakD) (B := B) (O := O) (c := c) sz vs (by simpa using hne) (by simp) (by simpa using hc) (fun x hx => by
      obtain ⟨y, hy, rfl⟩ := List.mem_map.1 hx
      rw [V.weakD_cells, List.length_map]; exact hsz y hy) (fun p hp => hk p (by rw [V.weakD_flat, List.length_map] at hp; exact hp)) (fun p hp => by
      have hp' : p < (flat xs).length := by rw [V.weakD_flat, List.length_map] at hp; exact hp
      have e : (flat (xs.map V.weakD))[p] = V.weakD (flat xs)[p] := by simp [V.weakD_flat]
      rw [e]; exact ih p hp')
    rw [List.length_map] at this
    exact this
  | agg hn hv ih => rw [V.weakD, V.weakDs_eq]; exact .agg (by simpa using hn) fun p hp => by rw [List.getElem_map]; exact ih p (by simpa using hp)
  | tup hn hv ih => rw [V.weakD, V.weakDs_eq]; exact .tup (by simpa using hn) fun p hp => by rw [List.getElem_map]; exact ih p (by simpa using hp)
  | bool b => exact .bool b
  | int k n => exact .int k n
  | str s => exact .str s
  | nilp => exact .nilp
  | ref h => exact .ref h
  | eref h => exact .eref h
  | erefx h => exact .erefx h
  | cref vs hk hv _ => exact .cref vs hk hv
  | own hr hl ha => exact .own hr hl ha
  | bsl h hc ha => exact .bsl h hc ha
  | fn hn hv _ => exact .fn hn hv
  | nilf => exact .nilf
  | yl h => exact .yl h
  | map h => exact .map h
  | nilmap => exact .nilmap
  | top r h => exact .top r h
/-- What is owed where a function that hands back data ends. -/
abbrev FinD (P : Program) (fn : Func) (v : V) : Ex → St → Prop := Fin P fn (fun u M => ∃ B u', M = [] ++ B ∧ frz 0 M u = some u' ∧ (V.weak u' = v ∨ V.weakD u' = v))
/-! what is lent for a call, found by its form -/
theorem borO {L : List Obj} {a : V} {id n sz m : Nat} {α : Type} {g : α → V} {l : List α} (h : a = .own id 0 n n) (hL : L[id]? = some (.buf sz m (l.map g))) (hn : l.length = n) [DG g] : Bor L a (.sl false false (l.map g)) := by
  subst h
  have e : n = (l.map g).length := by simp [hn]
  rw [e]
  exact .own hL DVs.lts (by rw [List.drop_zero, List.take_of_length_le (Nat.le_refl _)])
theorem borT {L : List Obj} {a : V} {id n gen sz m : Nat} {α : Type} {g : α → V} {l : List α} (h : a = .own id 0 n gen) (hL : L[id]? = some (.buf sz m (l.map g))) (hg : l.length = gen) [DG g] : Bor L a (.sl false false ((l.take n).map g)) := by
  subst h
  have e : gen = (l.map g).length := by simp [hg]
  rw [e]
  exact .own hL DVs.lts (by rw [List.drop_zero, List.map_take])
theorem borD {L : List Obj} {a b : V} (h : a = b) [hd : DV b] : Bor L a b := by rw [h]; exact .same hd.lt
theorem bsn {L : List Obj} {as : List V} (h : as = []) : Bors L as [] := by rw [h]; exact .nil
theorem bsc {L : List Obj} {as t t' : List V} {a b : V} (h : as = a :: t) (hb : Bor L a b) (ht : Bors L t t') : Bors L as (b :: t') := by rw [h]; exact .cons hb ht
theorem borI {L : List Obj} {a b : V} (h : Bor L a b := by first | exact borO rfl rfl lenI | exact borT rfl rfl lenI | exact borD nrmV | fail) : Bor L a b := h
theorem borsI {L : List Obj} {as bs : List V} (h : Bors L as bs := by first
    | exact bsn (by first | ((conv => lhs; whnf) <;> rfl) | fail)
    | exact bsc (by first | ((conv => lhs; whnf) <;> rfl) | fail) borI borsI
    | fail) : Bors L as bs := h
section
variable {ops : Array Oper} {rest : List Oper} {env : Nat → V} {L : List Obj} {K : St → Prop} {d : Tmp} {ty : TypeId} {pos : String} {af : Array Edge} {v : V} {args : Array Operand} {ats : Array TypeId} {g : FuncId} {as as' : List V} {C : Prop}
/-- A call that only reads, of rows of one's own: its result is plain. -/
theorem X.ccb [CC P g C] (ha : args.toList.map (St.ev ⟨env, L⟩) = as) (hb : Bors L as as') (h : C → SE P Z g as' [] v []) (hv : V.plain v = true) (hK : XO P Z ops rest (upd env d v) L K) : XO P Z ops (⟨some d, .call ⟨.value (.func g), args, ats⟩, ty, pos, af, none⟩ :: rest) env L K := X.call ((h (CC.out P g)).borrow hb hv) hK ha
theorem A.ccb [CC P g C] (ha : args.toList.map (St.ev ⟨env, L⟩) = as) (hb : Bors L as as') (h : C → SE P Z g as' [] v []) (hv : V.plain v = true) (hK : AO P Z ops rest (upd env d v) L K) : AO P Z ops (⟨some d, .call ⟨.value (.func g), args, ats⟩, ty, pos, af, none⟩ :: rest) env L K := A.call ((h (CC.out P g)).borrow hb hv) hK ha
end
/-- Data in, data out, if the blocks that nobody turns are such. -/
abbrev CtH (P : Program) (H : (Nat → Go.Obj → Prop) → Prop) (f : FuncId) (args : List V) (v : V) : Prop := ∀ {Z : Nat → Go.Obj → Prop}, H Z → ∀ L, SE P Z f args L v L
theorem ctd {H : (Nat → Go.Obj → Prop) → Prop} {f : FuncId} {fn : Func} {c : Code} {args : List V} {v : V} (hz : ∀ Z, H Z → HZ Z) (hf : P.funcs[f]? = some fn)
    (h : ∀ {Z : Nat → Go.Obj → Prop}, H Z → CW P Z none fn.ntmps c (FinD P fn v) (fun t => args.getD t .undef) [])
    (hb : fn.body = some c := by rfl) (hname : (fn.name == "runtime.NumGoroutine") = false := by kernel_rfl) (hn : args.length ≤ fn.ntmps := by first | exact Nat.le_of_ble_eq_true rfl | fail) (hres : fn.results.toList.all (okRes fn.ntmps) = true := by kernel_rfl)
    (ha : DVs args := by infer_instance) (hv : DV v := by infer_instance) : CtH P H f args v := fun {Z} hH L => by
  have h1 : SC P Z f args [] (fun u M => M = [] ∧ ∀ G r, VR G u r → VR G v r) := SC.data (K := fun u => ∀ G r, VR G u r → VR G v r) (SC.of_SW (hz Z hH) hf hb hname hn hres (SW.mono (h hH).out fun e s hq => by
    cases e with
    | normal => obtain ⟨u, h1, B, u', h2, h3, h4⟩ := hq; exact ⟨.inl rfl, u, h1, B, u', h2, h3, fun G r hr => h4.elim (fun e => e ▸ hr.weak) (fun e => e ▸ hr.weakD)⟩
    | ret => obtain ⟨u, h1, B, u', h2, h3, h4⟩ := hq; exact ⟨.inr rfl, u, h1, B, u', h2, h3, fun G r hr => h4.elim (fun e => e ▸ hr.weak) (fun e => e ▸ hr.weakD)⟩
    | exit _ => exact hq.elim))
  have h2 : SE P Z f args [] v [] := ⟨⟨h1.1, fun G w rargs a b => (h1.2 G w rargs a b).mono fun rv w' ⟨G', L', u, ⟨e1, e2⟩, e3, e4, e5⟩ => ⟨G', L', v, ⟨rfl, e1⟩, e3, e4, e2 _ _ e5⟩⟩⟩
  exact SE.lift h2 L ha.lts hv.lt
end Go.Pv
end
section
/- Calls with rows of one's own that are frozen for good: the result may be made of them. -/
set_option linter.unusedVariables false
set_option linter.unusedSimpArgs false
set_option linter.unusedSectionVars false
namespace Go.Pv
variable {P : Program} {Z : Nat → Go.Obj → Prop}
inductive Fz : List Obj → List V → List V → List Obj → Prop
  | nil {L : List Obj} : Fz L [] [] L
  | same {L L1 : List Obj} {a : V} {as bs : List V} (h : Fz L as bs L1) : Fz L (a :: as) (a :: bs) L1
  | own {L L1 : List Obj} {id off len sz m : Nat} {xs ys : List V} {as bs : List V} (hL : L[id]? = some (.buf sz m xs)) (hy : (xs.drop off).take len = ys) (h : Fz (L.set id (.buf sz xs.length xs)) as bs L1) :
      Fz L (.own id off len xs.length :: as) (.sl false false ys :: bs) L1
theorem Fz.sound {L L1 : List Obj} {as bs : List V} (h : Fz L as bs L1) : ∀ {G : Gh} {w : World} {rs : List Value}, Rel Z G L w → rs.length = as.length → (∀ p (hp : p < as.length) (hq : p < rs.length), VR G as[p] rs[p]) →
    ∃ G1, Rel Z G1 L1 w ∧ Evo G L w G1 L1 w ∧ rs.length = bs.length ∧ ∀ p (hp : p < bs.length) (hq : p < rs.length), VR G1 bs[p] rs[p] := by
  induction h with
  | nil => intro G w rs hr hl hv; exact ⟨G, hr, .refl _ _ _, hl, hv⟩
  | same h ih =>
    intro G w rs hr hl hv
    cases rs with
    | nil => simp at hl
    | cons r rs =>
      obtain ⟨G1, h1, h2, h3, h4⟩ := ih hr (by simpa using hl) (fun p hp hq => by have := hv (p + 1) (by simpa using hp) (by simpa using hq); simpa using this)
      refine ⟨G1, h1, h2, by simpa using h3, fun p hp hq => ?_⟩
      cases p with
      | zero => exact (hv 0 (by simp) (by simp)).mono h2.le
      | succ p => simpa using h4 p (by simpa using hp) (by simpa using hq)
  | own hL hy h ih =>
    intro G w rs hr hl hv
    cases rs with
    | nil => simp at hl
    | cons r rs =>
      obtain ⟨G0, hr1, he1, hv1⟩ := hr.freeze hL
      obtain ⟨G1, h1, h2, h3, h4⟩ := ih hr1 (by simpa using hl) (fun p hp hq => by have := (hv (p + 1) (by simpa using hp) (by simpa using hq)).mono he1.le; simpa using this)
      refine ⟨G1, h1, he1.trans h2, by simpa using h3, fun p hp hq => ?_⟩
      cases p with
      | zero =>
        have := (hv1 (hv 0 (by simp) (by simp))).mono h2.le
        rw [hy] at this
        exact this
      | succ p => simpa using h4 p (by simpa using hp) (by simpa using hq)
theorem SE.frz {f : FuncId} {args args' : List V} {v : V} {L L1 L2 : List Obj} (h : SE P Z f args' L1 v L2) (hz : Fz L args args' L1) : SE P Z f args L v L2 :=
  ⟨⟨h.out.1, fun G w rargs hr hra => by
    obtain ⟨G1, h1, h2, h3, h4⟩ := hz.sound (rs := rargs.toList) hr (by simpa using hra.1) (fun p hp hq => by
      have := hra.2 p hp
      simpa [Array.getD_eq_getD_getElem?, Array.getElem?_eq_getElem (show p < rargs.size by simpa using hq)] using this)
    refine (h.out.2 G1 w rargs h1 ⟨by simpa using h3, fun p hp => ?_⟩).mono fun rv w' ⟨G', L', u, a, b, c, d⟩ => ⟨G', L', u, a, b, h2.trans c, d⟩
    have hq : p < rargs.toList.length := by rw [h3]; exact hp
    have := h4 p hp hq
    simpa [Array.getD_eq_getD_getElem?, Array.getElem?_eq_getElem (show p < rargs.size by simpa using hq)] using this⟩⟩
theorem fzN {L : List Obj} {as : List V} (h : as = []) : Fz L as [] L := by rw [h]; exact .nil
theorem fzS {L L1 : List Obj} {as t bs : List V} {a b : V} (h : as = a :: t) (ha : a = b) (ht : Fz L t bs L1) : Fz L as (b :: bs) L1 := by rw [h, ha]; exact .same ht
theorem fzO {α : Type} {g : α → V} {l : List α} {L L0 L1 : List Obj} {as t bs : List V} {id n gen sz m : Nat} (h : as = .own id 0 n gen :: t) (hL : L[id]? = some (.buf sz m (l.map g))) (hn : l.length = n) (hg : l.length = gen)
    (hs : L.set id (.buf sz l.length (l.map g)) = L0) (ht : Fz L0 t bs L1) : Fz L as (.sl false false (l.map g) :: bs) L1 := by
  subst hs hn hg
  rw [h]
  have e : l.length = (l.map g).length := by simp
  have := Fz.own (off := 0) (len := l.length) (ys := l.map g) hL (by rw [List.drop_zero, List.take_of_length_le (by simp)]) (by rw [← e]; exact ht)
  rw [← e] at this
  exact this
theorem fzP {α : Type} {g : α → V} {l : List α} {L L0 L1 : List Obj} {as t bs : List V} {id n gen sz m : Nat} (h : as = .own id 0 n gen :: t) (hL : L[id]? = some (.buf sz m (l.map g))) (hg : l.length = gen)
    (hs : L.set id (.buf sz l.length (l.map g)) = L0) (ht : Fz L0 t bs L1) : Fz L as (.sl false false ((l.take n).map g) :: bs) L1 := by
  subst hs hg
  rw [h]
  have e : l.length = (l.map g).length := by simp
  have := Fz.own (off := 0) (len := n) (ys := (l.take n).map g) hL (by rw [List.drop_zero, List.map_take]) (by rw [← e]; exact ht)
  rw [← e] at this
  exact this
theorem fzsI {L L1 : List Obj} {as bs : List V} (h : Fz L as bs L1 := by first
    | exact fzN (by first | ((conv => lhs; whnf) <;> rfl) | fail)
    | exact fzO (by first | ((conv => lhs; whnf) <;> rfl) | fail) rfl lenI lenI nrmL fzsI
    | exact fzP (by first | ((conv => lhs; whnf) <;> rfl) | fail) rfl lenI nrmL fzsI
    | exact fzS (by first | ((conv => lhs; whnf) <;> rfl) | fail) nrmV fzsI
    | fail) : Fz L as bs L1 := h
section
variable {ops : Array Oper} {rest : List Oper} {env : Nat → V} {L L1 L2 : List Obj} {K : St → Prop} {d : Tmp} {ty : TypeId} {pos : String} {af : Array Edge} {v : V} {args : Array Operand} {ats : Array TypeId} {g : FuncId} {as as' : List V} {C : Prop}
/-- A call with rows of one's own, that are one's own no more. -/
theorem X.ccz [CC P g C] (ha : args.toList.map (St.ev ⟨env, L⟩) = as) (hz : Fz L as as' L1) (h : C → SE P Z g as' L1 v L2) (hK : XO P Z ops rest (upd env d v) L2 K) : XO P Z ops (⟨some d, .call ⟨.value (.func g), args, ats⟩, ty, pos, af, none⟩ :: rest) env L K := X.call ((h (CC.out P g)).frz hz) hK ha
theorem X.cfz (ha : args.toList.map (St.ev ⟨env, L⟩) = as) (hz : Fz L as as' L1) (h : ∀ L, SE P Z g as' L v L) (hK : XO P Z ops rest (upd env d v) L1 K) : XO P Z ops (⟨some d, .call ⟨.value (.func g), args, ats⟩, ty, pos, af, none⟩ :: rest) env L K := X.call ((h _).frz hz) hK ha
end
/-! functions that have no Go body -/
structure XE (P : Program) (f : FuncId) (args : List V) (v : V) : Prop where
  out : ∀ (G : Gh) (w : World) (rargs : Array Value), VRL G args rargs → ∃ rv, (callFunc f rargs).run P w = .ok (.value rv) w ∧ VR G v rv
theorem CallV.ext {f : FuncId} {args : List V} {v : V} {L : List Obj} {K : V → List Obj → Prop} (h : XE P f args v) (hK : K v L) : CallV P Z (.fn f []) args L K := by
  intro G w rf rargs hr hf ha
  cases hf with
  | fn hn hv =>
    rename_i vs
    have hvs : vs = #[] := by apply Array.eq_empty_of_size_eq_zero; simpa using hn
    subst hvs
    obtain ⟨rv, h1, h2⟩ := h.out G w rargs ha
    have hrun : (do let d ← Deferred.ofValue (.func (.func f) #[] #[]) rargs; invoke d.target d.args : Sem Next).run P w = .ok (.value rv) w := by
      simp [Deferred.ofValue, invoke, h1]
    unfold OpR
    rw [hrun]
    exact ⟨G, L, v, hK, hr, .refl _ _ _, h2⟩
theorem X.cce {ops : Array Oper} {rest : List Oper} {env : Nat → V} {L : List Obj} {K : St → Prop} {d : Tmp} {ty : TypeId} {pos : String} {af : Array Edge} {v : V} {args : Array Operand} {ats : Array TypeId} {g : FuncId} {as : List V} {C : Prop}
    [CC P g C] (ha : args.toList.map (St.ev ⟨env, L⟩) = as) (h : C → XE P g as v) (hK : XO P Z ops rest (upd env d v) L K) : XO P Z ops (⟨some d, .call ⟨.value (.func g), args, ats⟩, ty, pos, af, none⟩ :: rest) env L K :=
  X.callv rfl ha (CallV.ext (h (CC.out P g)) hK)
end Go.Pv
end
section
/- Ranges over functions, walked in place: the closure is opened, a yield opens the round, its end goes back to the closure; loops whose objects are told as changes. -/
set_option linter.unusedVariables false
set_option linter.unusedSimpArgs false
set_option linter.unusedSectionVars false
namespace Go.Pv
variable {P : Program} {Z : Nat → Go.Obj → Prop}
section
variable {r : Option Nat} {n : Nat} {Q : Ex → St → Prop} {env env0 : Nat → V} {L L' : List Obj} {id i : Nat} {params : Array Tmp} {assign body c : Code} {fn : Func} {g : FuncId} {caps : List V} {f : Operand}
/-- What is owed where the closure of a range ends. -/
def RfQ (Q : Ex → St → Prop) (env0 : Nat → V) (id n : Nat) (params : Array Tmp) (assign body : Code) : Ex → St → Prop
  | .exit _, _ => False
  | _, s => ∃ stt pend, s.L[id]? = some (.loop stt pend env0 n params assign body) ∧ stt ≠ .busy ∧ rfK Q pend ⟨env0, s.L.set id (.loop .exhausted pend env0 n params assign body)⟩
theorem W.rfS (hZ : HZ Z) (hfn : P.funcs[g]? = some fn) (hf : St.ev ⟨env, L⟩ f = .fn g caps) (h : CW P Z none fn.ntmps c (RfQ Q env L.length n params assign body) (fun t => (V.yl L.length :: caps).getD t .undef) (L ++ [.loop .ready none env n params assign body]))
    (hb : fn.body = some c := by rfl) (ho : okX n f = true := by kernel_rfl) (hname : (fn.name == "runtime.NumGoroutine") = false := by kernel_rfl) (hn : (V.yl L.length :: caps).length ≤ fn.ntmps := by exact Nat.le_of_ble_eq_true rfl)
    (hres : fn.results.toList = [] := by rfl) : CW P Z none n (.rangeFunc f params assign body) Q env L := by
  refine ⟨SW.rangeF hf ho (SC.of_SW hZ hfn hb hname hn (by rw [hres]; rfl) (SW.mono h.out fun e s hq => ?_))⟩
  cases e with
  | exit _ => exact hq.elim
  | normal => exact ⟨.inl rfl, .tup [], by rw [hres]; rfl, hq⟩
  | ret => exact ⟨.inr rfl, .tup [], by rw [hres]; rfl, hq⟩
theorem K.rn {e : Ex} {stt : LoopState} (he : (match e with | .exit _ => false | _ => true) = true) (hL : L[id]? = some (.loop stt none env0 n params assign body)) (h : KO Q .normal env0 L') (hs : L.set id (.loop .exhausted none env0 n params assign body) = L') (hb : stt ≠ .busy) : KO (RfQ Q env0 id n params assign body) e env L := ⟨by
  subst hs
  cases e with
  | exit _ => simp at he
  | normal => exact ⟨stt, none, hL, hb, h.out⟩
  | ret => exact ⟨stt, none, hL, hb, h.out⟩⟩
theorem K.rr {e : Ex} {stt : LoopState} (he : (match e with | .exit _ => false | _ => true) = true) (hL : L[id]? = some (.loop stt (some .ret) env0 n params assign body)) (h : KO Q .ret env0 L') (hs : L.set id (.loop .exhausted (some .ret) env0 n params assign body) = L') (hb : stt ≠ .busy) : KO (RfQ Q env0 id n params assign body) e env L := ⟨by
  subst hs
  cases e with
  | exit _ => simp at he
  | normal => exact ⟨stt, _, hL, hb, h.out⟩
  | ret => exact ⟨stt, _, hL, hb, h.out⟩⟩
theorem K.rx {e : Ex} {stt : LoopState} (he : (match e with | .exit _ => false | _ => true) = true) (hL : L[id]? = some (.loop stt (some (.exit i)) env0 n params assign body)) (h : KO Q (.exit i) env0 L') (hs : L.set id (.loop .exhausted (some (.exit i)) env0 n params assign body) = L') (hb : stt ≠ .busy) : KO (RfQ Q env0 id n params assign body) e env L := ⟨by
  subst hs
  cases e with
  | exit _ => simp at he
  | normal => exact ⟨stt, _, hL, hb, h.out⟩
  | ret => exact ⟨stt, _, hL, hb, h.out⟩⟩
variable {ops : Array Oper} {rest : List Oper} {K : St → Prop} {d : Tmp} {ty : TypeId} {pos : String} {af : Array Edge} {args : Array Operand} {ats : Array TypeId} {as : List V} {pend : Option Code}
/-- A yield: the round. -/
theorem X.yl (hf : St.ev ⟨env, L⟩ f = .yl id) (hL : L[id]? = some (.loop .ready pend env0 n params assign body)) (h : ∀ b, CW P Z (some b) n assign (yaQ P Z b id env0 n params assign body (fun v L' => XO P Z ops rest (upd env d v) L' K)) (updl env0 params.toList (args.toList.map (St.ev ⟨env, L⟩))) L)
    (hlen : params.size = (args.toList.map (St.ev ⟨env, L⟩)).length := by rfl) (hp : params.toList.all (fun t => decide (t < n)) = true := by kernel_rfl) : XO P Z ops (⟨some d, .call ⟨.value f, args, ats⟩, ty, pos, af, none⟩ :: rest) env L K :=
  X.callv hf rfl (Y.go hL h hlen hp)
theorem X.yl1 {x1 : Operand} {v1 : V} {p : Tmp} (hf : St.ev ⟨env, L⟩ f = .yl id) (hL : L[id]? = some (.loop .ready pend env0 n #[p] assign body)) (h1 : St.ev ⟨env, L⟩ x1 = v1) (h : ∀ b, CW P Z (some b) n assign (yaQ P Z b id env0 n #[p] assign body (fun v L' => XO P Z ops rest (upd env d v) L' K)) (upd env0 p v1) L)
    (hp : [p].all (fun t => decide (t < n)) = true := by kernel_rfl) : XO P Z ops (⟨some d, .call ⟨.value f, #[x1], ats⟩, ty, pos, af, none⟩ :: rest) env L K := X.callv (as := [v1]) hf (by simp [h1]) (Y.go1 hL h hp)
theorem X.yl2 {x1 x2 : Operand} {v1 v2 : V} {p q : Tmp} (hf : St.ev ⟨env, L⟩ f = .yl id) (hL : L[id]? = some (.loop .ready pend env0 n #[p, q] assign body)) (h1 : St.ev ⟨env, L⟩ x1 = v1) (h2 : St.ev ⟨env, L⟩ x2 = v2) (h : ∀ b, CW P Z (some b) n assign (yaQ P Z b id env0 n #[p, q] assign body (fun v L' => XO P Z ops rest (upd env d v) L' K)) (upd (upd env0 p v1) q v2) L)
    (hp : [p, q].all (fun t => decide (t < n)) = true := by kernel_rfl) : XO P Z ops (⟨some d, .call ⟨.value f, #[x1, x2], ats⟩, ty, pos, af, none⟩ :: rest) env L K := X.callv (as := [v1, v2]) hf (by simp [h1, h2]) (Y.go2 hL h hp)
/-- Is a slice nil? Both ways are owed. -/
theorem X.nilE {α : Type} {g : α → V} {l : List α} {ex : Bool} {x y : Operand} {t e u : TypeId} (hx : St.ev ⟨env, L⟩ x = .sl false ex (l.map g)) (hy : St.ev ⟨env, L⟩ y = .sl true true []) (hu : P.underlying t = some (.slice e))
    (hK : ∀ b : Bool, (b = true → l = []) → XO P Z ops rest (upd env d (.bool b)) L K) : XO P Z ops (⟨some d, .binOp .eql t x y u, ty, pos, af, none⟩ :: rest) env L K := by
  cases l with
  | cons a l => exact X.go0 (v := (V.bool false)) (by simp only [pop, hx, hy, pbin, peq, hu]; rfl) (hK false (by simp))
  | nil =>
  refine ⟨?_⟩
  have hp : pop P L (St.ev ⟨env, L⟩) (.binOp .eql t x y u) = none := by
    simp only [pop, hx, hy, pbin, peq, hu]; rfl
  have hx' : exOp P Z ⟨some d, .binOp .eql t x y u, ty, pos, af, none⟩ ⟨env, L⟩ (fun v L' => exOps P Z ops rest { env := (St.put ⟨env, L⟩ (some d) v).env, L := L' } K) := by
    simp only [exOp, hp]
    exact ⟨⟨e, hu⟩, ex, _, hx, hy, fun b hb => (hK b fun _ => rfl).out⟩
  simp only [exOps, pwanted, if_true]
  exact hx'
theorem X.nilN {α : Type} {g : α → V} {l : List α} {ex : Bool} {x y : Operand} {t e u : TypeId} (hx : St.ev ⟨env, L⟩ x = .sl false ex (l.map g)) (hy : St.ev ⟨env, L⟩ y = .sl true true []) (hu : P.underlying t = some (.slice e))
    (hK : ∀ b : Bool, (b = true → l = []) → XO P Z ops rest (upd env d (.bool !b)) L K) : XO P Z ops (⟨some d, .binOp .neq t x y u, ty, pos, af, none⟩ :: rest) env L K := by
  cases l with
  | cons a l => exact X.go0 (v := (V.bool !false)) (by simp only [pop, hx, hy, pbin, peq, hu]; rfl) (hK false (by simp))
  | nil =>
  refine ⟨?_⟩
  have hp : pop P L (St.ev ⟨env, L⟩) (.binOp .neq t x y u) = none := by
    simp only [pop, hx, hy, pbin, peq, hu]; rfl
  have hx' : exOp P Z ⟨some d, .binOp .neq t x y u, ty, pos, af, none⟩ ⟨env, L⟩ (fun v L' => exOps P Z ops rest { env := (St.put ⟨env, L⟩ (some d) v).env, L := L' } K) := by
    simp only [exOp, hp]
    exact ⟨⟨e, hu⟩, ex, _, hx, hy, fun b hb => (hK b fun _ => rfl).out⟩
  simp only [exOps, pwanted, if_true]
  exact hx'
variable {ops : Array Oper} {env1 : Nat → V}
theorem K.xn {pend : Option Code} (hs : L[id]? = some (.loop .busy pend env0 n params assign body)) (h : XO P Z ops rest (upd env1 d (.bool true)) L' K) (hL : L.set id (.loop .ready none env0 n params assign body) = L') :
    KO (ybQ id env0 n params assign body (fun v L' => XO P Z ops rest (upd env1 d v) L' K)) .normal env L := Go.Pv.K.yn hs h hL
theorem K.xr {pend : Option Code} (hs : L[id]? = some (.loop .busy pend env0 n params assign body)) (h : XO P Z ops rest (upd env1 d (.bool false)) L' K) (hL : L.set id (.loop .done (some .ret) env0 n params assign body) = L') :
    KO (ybQ id env0 n params assign body (fun v L' => XO P Z ops rest (upd env1 d v) L' K)) .ret env L := Go.Pv.K.yr hs h hL
theorem K.xe {pend : Option Code} (hs : L[id]? = some (.loop .busy pend env0 n params assign body)) (h : XO P Z ops rest (upd env1 d (.bool false)) L' K) (hL : L.set id (.loop .done (some (.exit i)) env0 n params assign body) = L') :
    KO (ybQ id env0 n params assign body (fun v L' => XO P Z ops rest (upd env1 d v) L' K)) (.exit i) env L := Go.Pv.K.ye hs h hL
def lpU {α : Type} (F : α → List (Nat × V)) (M : α → List Obj) (I : α → Prop) (m : α → Nat) (k : Nat) (Q : Ex → St → Prop) : Ex → St → Prop
  | .normal, st => ∃ s, agE st.env (F s) ∧ st.L = M s ∧ I s ∧ m s < k
  | e, st => Q e st
variable {α : Type} {F : α → List (Nat × V)} {U : α → List (Nat × Obj)} {M : α → List Obj} {I : α → Prop} {m : α → Nat} {N k : Nat}
theorem W.loopM (F : α → List (Nat × V)) (M : α → List Obj) (I : α → Prop) (m : α → Nat) (s0 : α) (hI : I s0) (hF : agE env (F s0)) (hL : L = M s0)
    (round : ∀ s env, I s → CW P Z r n c (Go.Pv.lpU F M I m (m s) Q) (setE env (F s)) (M s)) : CW P Z r n (.loop c) Q env L := by
  subst hL
  refine W.lp (fun k st => ∃ s, I s ∧ m s = k ∧ agE st.env (F s) ∧ st.L = M s) (m s0) ⟨s0, hI, rfl, hF, rfl⟩ ?_
  rintro k env L ⟨s, h1, h2, h3, h4⟩
  subst h2
  have := round s env h1
  rw [setE_self h3] at this
  simp only at h4
  subst h4
  refine W.mono this fun e st h => ?_
  cases e with
  | normal =>
    obtain ⟨s', g1, g2, g5, g6⟩ := h
    exact ⟨m s', g6, s', g5, rfl, g1, g2⟩
  | exit _ => exact h
  | ret => exact h
theorem W.loopU (F : α → List (Nat × V)) (U : α → List (Nat × Obj)) (I : α → Prop) (m : α → Nat) (s0 : α) (hI : I s0) (round : ∀ s env, I s → CW P Z r n c (Go.Pv.lpU F (fun s => setL L (U s)) I m (m s) Q) (setE env (F s)) (setL L (U s)))
    (hF : agE env (F s0) := by (repeat' first | exact True.intro | refine And.intro ?_ ?_ | rfl | (refine vI ?_; omega))) (hL : L = setL L (U s0) := by rfl) : CW P Z r n (.loop c) Q env L :=
  W.loopM F (fun s => setL L (U s)) I m s0 hI hF hL round
/-- As loopU; what a round leaves behind is forgotten. -/
theorem W.loopV (F : α → List (Nat × V)) (U : α → List (Nat × Obj)) (I : α → Prop) (m : α → Nat) (s0 : α) (hI : I s0) (round : ∀ s env, I s → CW P Z r n c (Go.Pv.lpS (setL L (U s0)).length F (fun s => setL L (U s)) I m (m s) Q) (setE env (F s)) (setL L (U s)))
    (hF : agE env (F s0) := by (repeat' first | exact True.intro | refine And.intro ?_ ?_ | rfl | (refine vI ?_; omega))) (hL : L = setL L (U s0) := by rfl) : CW P Z r n (.loop c) Q env L :=
  W.loop F (fun s => setL L (U s)) I m s0 hI round hF hL
theorem K.Ue (h : KO Q (.exit i) env L) : KO (Go.Pv.lpU F M I m k Q) (.exit i) env L := ⟨h.out⟩
theorem K.Ur (h : KO Q .ret env L) : KO (Go.Pv.lpU F M I m k Q) .ret env L := ⟨h.out⟩
theorem lu (s : α) (hI : I s) (hm : m s < k) (hE : agE env (F s) := by (repeat' first | exact True.intro | refine And.intro ?_ ?_ | rfl | (refine vI ?_; omega))) (hL : L = M s := by rfl) : KO (Go.Pv.lpU F M I m k Q) .normal env L := ⟨⟨s, hE, hL, hI, hm⟩⟩
end
end Go.Pv
end
section
/- Objects seen in another way: what a place or a row holds, told with less. -/
set_option linter.unusedVariables false
set_option linter.unusedSimpArgs false
set_option linter.unusedSectionVars false
namespace Go.Pv
variable {P : Program} {Z : Nat → Go.Obj → Prop}
/-- Of the value less is told. -/
structure Wl (G : Gh) (v v' : V) : Prop where
  out : ∀ {r : Value}, VR G v r → VR G v' r
theorem Rel.viewBox {G : Gh} {L : List Obj} {w : World} (h : Rel Z G L w) {id : Nat} {cs cs' : List V} (hL : L[id]? = some (.box cs)) (hn : cs'.length = cs.length) (hv : ∀ p (h1 : p < cs.length) (h2 : p < cs'.length), Wl G cs[p] cs'[p]) (ho : ∀ x ∈ cs', x.one = true) :
    Rel Z G (L.set id (.box cs')) w ∧ Evo G L w G (L.set id (.box cs')) w := by
  obtain ⟨b, c, e, fr, hR, hh, hf, hs, hval, _⟩ := h.ok id _ hL
  refine h.change hL (.inl hR) (.refl G) rfl (fun _ _ => rfl) ⟨b, c, e, fr, hR, hh, hf, by rw [hs, hn], fun p hp => (hv p (by omega) hp).out (hval p (by omega)), ho⟩ (fun B hB => ?_) (fun _ _ _ h => .inl h) h.fn (by simp) (fun o v hk => ?_) (fun _ _ _ _ h => h) ⟨rfl, rfl⟩
  · exact h.at_fn (ob := .box cs) hB (.inl hR)
  · obtain ⟨_, _, _, he, _⟩ := h.kw b o v id _ hk hL (.inl hR)
    simp at he
section
variable {r : Option Nat} {n : Nat} {Q : Ex → St → Prop} {env : Nat → V} {L : List Obj} {c : Code}
/-- A place that holds an empty slice without room: one that grows. -/
theorem W.ghostB (id sz : Nat) {nl : Bool} (hL : L[id]? = some (.box [.sl nl true []])) (hK : CW P Z r n c Q env (L.set id (.box [.own L.length 0 0 0]) ++ [.buf sz 0 []])) : CW P Z r n c Q env L := by
  refine ⟨?_⟩
  intro N0 G a w hN hs
  obtain ⟨hr1, he1⟩ := hs.rel.addExt (sz := sz) (B := 0) (O := 0) (xs := []) (by simp) ⟨fun _ => undef, fun p hp => by simp [flat] at hp⟩
  have hlt := (List.getElem?_eq_some_iff.1 hL).1
  obtain ⟨hr2, he2⟩ := hr1.viewBox (id := id) (cs := [.sl nl true []]) (cs' := [.own L.length 0 0 0]) (by rw [List.getElem?_append_left hlt]; exact hL) rfl (fun p h1 h2 => by
    obtain rfl : p = 0 := by simpa using h1
    refine ⟨fun {r} hv => ?_⟩
    have key : ∀ v, VR (G.addR L.length 0 (.ext 0 0 sz)) (.sl nl true []) v → ∃ A, v = .slice A 0 0 := by
      intro v hv
      cases hv with
      | slnil => exact ⟨_, rfl⟩
      | sl0 hx => rw [hx rfl]; exact ⟨_, rfl⟩
      | sl sz vs hne _ _ _ _ _ => exact absurd rfl hne
    obtain ⟨A, hA⟩ := key _ hv
    rw [hA]
    exact .own (loc := .ext 0 0 sz) (Gh.addR_self _ _ _ _) (Nat.le_refl _) ⟨rfl, .inl rfl⟩) (by simp [V.one])
  rw [List.set_append_left _ _ hlt] at hr2 he2
  exact (hK.out N0 _ a w hN (hs.rel' hr2 fun i hi => (hs.tm i hi).mono he1.le)).mono fun e a' w' ⟨st', G', h1, h2, h3⟩ => ⟨st', G', h1, h2, (he1.trans he2).trans h3⟩
end
end Go.Pv
end
section
/- Steps that go on by themselves ('go', 'sp', 'fin'). -/
set_option linter.unusedVariables false
set_option linter.unusedSimpArgs false
namespace Go.Pv
variable {P : Program} {Z : Nat → Go.Obj → Prop}
theorem one {p q : Prop} (hq : q) (h : Hold q → p := by
    intro hq
    first
      | (show XO _ _ _ [] _ _ _; refine X.nil ?_)
      | (show XO _ _ _ (Oper.mk (some _) (Op.call (Call.mk (Callee.value _) _ _)) _ _ _ none :: _) _ _ _; first | refine X.call (k1 _) ?_ | refine X.call (k2 _) ?_ | refine X.call (k3 _) ?_ | refine X.cc rfl (by intro kk; apply kk; (repeat first | assumption | omega | decide | rfl | (simp; done) | fail); first | done | fail) ?_ | refine X.cf rfl rfl (by intro kk; apply kk; (repeat first | assumption | omega | decide | rfl | (simp; done) | fail); first | done | fail) ?_ | refine X.yl1 rfl rfl nrmV ?_ | refine X.yl2 rfl rfl nrmV nrmV ?_ | refine X.yl rfl rfl ?_ | refine X.ccb rfl borsI (by intro kk; apply kk; (repeat first | assumption | omega | decide | rfl | (simp; done) | fail); first | done | fail) rfl ?_ | refine X.ccz rfl fzsI (by intro kk; apply kk; (repeat first | assumption | omega | decide | rfl | (simp; done) | fail); first | done | fail) ?_ | refine X.cce rfl (by intro kk; apply kk; (repeat first | assumption | omega | decide | rfl | (simp; done) | fail); first | done | fail) ?_ | fail)
      | (show XO _ _ _ (Oper.mk (some _) _ _ _ _ none :: _) _ _ _; first | refine X.opr popI ?_ | refine X.nilE rfl rfl rfl ?_ | refine X.nilN rfl rfl rfl ?_ | fail)
      | (show XO _ _ _ (Oper.mk none _ _ _ _ none :: _) _ _ _; first | refine X.ost popI ?_ | fail)
      | (show XO _ _ _ (Oper.mk _ _ _ _ _ (some _) :: _) _ _ _; first | refine X.hy rfl valI brfl ?_ | refine X.hnt rfl valI brfl ?_ | refine X.hnf rfl valI brfl ?_ | refine X.hu rfl valI rrfl ?_ | refine X.hbt rfl valI rrfl bT ?_ | refine X.hbf rfl valI rrfl bF ?_ | fail)
      | (show KO _ _ _ _; first | refine K.sn ?_ | refine K.sr ?_ | refine K.se ?_ | refine K.bn ?_ | refine K.br ?_ | refine K.be ?_ | refine K.bx rfl ?_ | refine K.lr ?_ | refine K.le ?_ | refine K.fr ?_ | refine K.fe ?_ | refine K.Lr ?_ | refine K.Le ?_ | refine K.Ur ?_ | refine K.Ue ?_ | refine K.ya rfl ?_ nrmL | refine K.xn rfl ?_ nrmL | refine K.xr rfl ?_ nrmL | refine K.xe rfl ?_ nrmL | refine K.rn rfl rfl ?_ nrmL (by decide) | refine K.rr rfl rfl ?_ nrmL (by decide) | refine K.rx rfl rfl ?_ nrmL (by decide) | fail)
      | refine K.nx ?_
      | refine K.re ?_
      | (show CW _ _ _ _ (Code.cond _ _ _) _ _ _; first | refine W.jt valI brfl ?_ | refine W.jf valI brfl ?_ | refine W.jbt valI rrfl bT ?_ | refine W.jbf valI rrfl bF ?_ | fail)
      | (show CW _ _ _ _ (Code.seq (Code.region _ _ false) _) _ _ _; refine W.rq ?_)
      | (show CW _ _ _ _ (Code.seq (Code.region _ _ true) _) _ _ _; first | refine W.dq 0 ?_ | refine W.dq 1 ?_ | refine W.dq 2 ?_ | refine W.dq 3 ?_ | refine W.dq 4 ?_ | refine W.dq 5 ?_ | refine W.dq 6 ?_ | refine W.dq 7 ?_ | refine W.dq 8 ?_ | refine W.dq 9 ?_ | refine W.dq 10 ?_ | refine W.dq 11 ?_ | refine W.dq 12 ?_ | refine W.dq 13 ?_ | refine W.dq 14 ?_ | refine W.dq 15 ?_ | refine W.dq 16 ?_ | refine W.dq 17 ?_ | refine W.dq 18 ?_ | refine W.dq 19 ?_ | refine W.dq 20 ?_ | refine W.dq 21 ?_ | refine W.dq 22 ?_ | refine W.dq 23 ?_ | refine W.dq 24 ?_ | refine W.dq 25 ?_ | refine W.dq 26 ?_ | refine W.dq 27 ?_ | refine W.dq 28 ?_ | refine W.dq 29 ?_ | refine W.dq 30 ?_ | refine W.dq 31 ?_ | refine W.dq 32 ?_ | refine W.dq 33 ?_ | refine W.dq 34 ?_ | refine W.dq 35 ?_ | refine W.dq 36 ?_ | refine W.dq 37 ?_ | refine W.dq 38 ?_ | refine W.dq 39 ?_ | fail)
      | (show CW _ _ _ _ (Code.region _ _ true) _ _ _; first | refine W.dz 0 ?_ | refine W.dz 1 ?_ | refine W.dz 2 ?_ | refine W.dz 3 ?_ | refine W.dz 4 ?_ | refine W.dz 5 ?_ | refine W.dz 6 ?_ | refine W.dz 7 ?_ | refine W.dz 8 ?_ | refine W.dz 9 ?_ | refine W.dz 10 ?_ | refine W.dz 11 ?_ | refine W.dz 12 ?_ | refine W.dz 13 ?_ | refine W.dz 14 ?_ | refine W.dz 15 ?_ | refine W.dz 16 ?_ | refine W.dz 17 ?_ | refine W.dz 18 ?_ | refine W.dz 19 ?_ | refine W.dz 20 ?_ | refine W.dz 21 ?_ | refine W.dz 22 ?_ | refine W.dz 23 ?_ | refine W.dz 24 ?_ | refine W.dz 25 ?_ | refine W.dz 26 ?_ | refine W.dz 27 ?_ | refine W.dz 28 ?_ | refine W.dz 29 ?_ | refine W.dz 30 ?_ | refine W.dz 31 ?_ | refine W.dz 32 ?_ | refine W.dz 33 ?_ | refine W.dz 34 ?_ | refine W.dz 35 ?_ | refine W.dz 36 ?_ | refine W.dz 37 ?_ | refine W.dz 38 ?_ | refine W.dz 39 ?_ | fail)
      | (show CW _ _ _ _ _ _ _ _; first | refine W.rz ?_ | refine W.kr ?_ | refine W.kn ?_ | refine W.ke ?_ | refine W.bl ?_ | refine W.sq ?_ | fail)
      | (show AO _ _ _ [] _ _ _; refine A.nil ?_)
      | (show AO _ _ _ (Oper.mk (some _) (Op.call (Call.mk (Callee.value _) _ _)) _ _ _ none :: _) _ _ _; first | refine A.call (k1 _) ?_ | refine A.call (k2 _) ?_ | refine A.call (k3 _) ?_ | refine A.cc rfl (by intro kk; apply kk; (repeat first | assumption | omega | decide | rfl | (simp; done) | fail); first | done | fail) ?_ | refine A.cf rfl rfl (by intro kk; apply kk; (repeat first | assumption | omega | decide | rfl | (simp; done) | fail); first | done | fail) ?_ | refine A.ccb rfl borsI (by intro kk; apply kk; (repeat first | assumption | omega | decide | rfl | (simp; done) | fail); first | done | fail) rfl ?_ | fail)
      | (show AO _ _ _ (Oper.mk (some _) _ _ _ _ none :: _) _ _ _; first | refine A.opr popI ?_ | fail)
      | (show AO _ _ _ (Oper.mk _ _ _ _ _ (some _) :: _) _ _ _; first | refine A.hy rfl valI brfl ?_ | refine A.hnt rfl valI brfl ?_ | refine A.hnf rfl valI brfl ?_ | refine A.hu rfl valI rrfl ?_ | refine A.hbt rfl valI rrfl bT ?_ | refine A.hbf rfl valI rrfl bF ?_ | fail)
      | refine K.dr ?_
      | refine K.dp ?_
      | fail
    exact hq.out) : p := h ⟨hq⟩
theorem go {p q : Prop} (hq : q) (h : Hold q → p := by intro hq; refine one ?_; (repeat refine one ?_); exact hq.out) : p := h ⟨hq⟩
theorem sp {p q q' : Prop} (hq : q) (hq' : q') (h : Hold q → Hold q' → p := by
    intro hq hq'
    first
      | exact X.hp rfl valI rrfl hq.out hq'.out | exact X.hq rfl valI rrfl hq.out hq'.out | exact X.hn rfl valI rrfl hq.out hq'.out | exact X.hb rfl valI rrfl hq.out hq'.out
      | exact W.jp valI rrfl hq.out hq'.out | exact W.jq valI rrfl hq.out hq'.out | exact W.jn valI rrfl hq.out hq'.out | exact W.jb valI rrfl hq.out hq'.out
      | exact A.hp rfl valI rrfl hq.out hq'.out | exact A.hq rfl valI rrfl hq.out hq'.out | exact A.hn rfl valI rrfl hq.out hq'.out | exact A.hb rfl valI rrfl hq.out hq'.out
      | fail) : p := h ⟨hq⟩ ⟨hq'⟩
/-- The end of a function that hands back data. -/
theorem frz_data {n : Nat} {L : List Obj} {v : V} (h : V.lt 0 v = true) : frz n L v = some v := by
  cases v with
  | tup vs => rw [frz, frzs_data h]; rfl
  | agg vs => rw [frz, frzs_data h]; rfl
  | own | bsl => simp [V.lt] at h
  | _ => simp only [frz, frz1, h, if_true]
theorem fzT {n : Nat} {L : List Obj} {u : V} {vs vs' : List V} (h : u = .tup vs) (h' : frzs n L vs = some vs') : frz n L u = some (.tup vs') := by rw [h, frz, h']; rfl
theorem fzA {n : Nat} {L : List Obj} {u : V} {vs vs' : List V} (h : u = .agg vs) (h' : frzs n L vs = some vs') : frz n L u = some (.agg vs') := by rw [h, frz, h']; rfl
theorem fsn {n : Nat} {L : List Obj} {l : List V} (h : l = []) : frzs n L l = some [] := by rw [h]; rfl
theorem fsc {n : Nat} {L : List Obj} {l t t' : List V} {a a' : V} (h : l = a :: t) (h1 : frz1 n L a = some a') (h2 : frzs n L t = some t') : frzs n L l = some (a' :: t') := by rw [h, frzs, h1, h2]
theorem f1d {n : Nat} {L : List Obj} {a v : V} (h : a = v) [hv : DV v] : frz1 n L a = some v := by
  subst h
  have := hv.lt
  cases a with
  | own | bsl => simp [V.lt] at this
  | _ => simp only [frz1, this, if_true]
theorem f1o {n m id sz q : Nat} {L : List Obj} {a : V} {α : Type} [Inhabited α] {g : α → V} {l : List α} (h : a = .own id 0 m m) (hL : L[id]? = some (.buf sz q (l.map g))) (hn : l.length = m) [DG g] (hk : n ≤ id) : frz1 n L a = some (.sl false false (l.map g)) := by
  rw [h]; exact frz_ownN hL hk hn DVs.lts
theorem f1t {n m k id sz q : Nat} {L : List Obj} {a : V} {α : Type} [Inhabited α] {g : α → V} {l : List α} (h : a = .own id 0 k m) (hL : L[id]? = some (.buf sz q (l.map g))) (hn : l.length = m) [DG g] (hk : n ≤ id) : frz1 n L a = some (.sl false false ((l.take k).map g)) := by
  rw [h]
  simp only [frz1, hL]
  rw [if_pos ⟨hk, by simp [hn], DVs.lts⟩, List.drop_zero, List.map_take]
theorem frz1I {n : Nat} {L : List Obj} {a v : V} (h : frz1 n L a = some v := by first | exact f1o rfl rfl lenI (Nat.zero_le _) | exact f1d nrmV | exact f1t rfl rfl lenI (Nat.zero_le _) | fail) : frz1 n L a = some v := h
theorem fsI {n : Nat} {L : List Obj} {l t : List V} (h : frzs n L l = some t := by first
    | exact fsn (by first | ((conv => lhs; whnf) <;> rfl) | fail)
    | exact fsc (by first | ((conv => lhs; whnf) <;> rfl) | fail) frz1I fsI
    | fail) : frzs n L l = some t := h
def nta : V → Bool
  | .tup _ => false
  | .agg _ => false
  | _ => true
theorem fz1 {n : Nat} {L : List Obj} {u v : V} (h : frz1 n L u = some v) (hu : nta u = true) : frz n L u = some v := by
  cases u <;> first | (simp [nta] at hu; done) | exact h
theorem frzI {n : Nat} {L : List Obj} {u v : V} (h : frz n L u = some v := by first
    | exact fz1 (u := _) frz1I rfl | exact fzT rfl fsI | exact fzA rfl fsI | rfl | fail) : frz n L u = some v := h
theorem resI {env : Nat → V} {L : List Obj} {rs : List ResultVar} {v : V} (h : resV P ⟨env, L⟩ rs = some v := by first | rfl | exact resV_cell rfl rfl lenI | fail) : resV P ⟨env, L⟩ rs = some v := h
theorem fin {fn : Func} {env : Nat → V} {L : List Obj} {u u' u'' v : V} (hv : u'' = v) (h : resV P ⟨env, L⟩ fn.results.toList = some u := by first | exact resI | fail) (hf : frz 0 L u = some u' := by first | exact frzI | fail) (hw : V.weak u' = u'' := by rfl) :
    KO (FinD P fn v) .ret env L := K.fin h ⟨_, _, rfl, hf, .inl (hw.trans hv)⟩
theorem finD {fn : Func} {env : Nat → V} {L : List Obj} {u u' u'' v : V} (hv : u'' = v) (h : resV P ⟨env, L⟩ fn.results.toList = some u := by first | exact resI | fail) (hf : frz 0 L u = some u' := by first | exact frzI | fail) (hw : V.weakD u' = u'' := by rfl) :
    KO (FinD P fn v) .ret env L := K.fin h ⟨_, _, rfl, hf, .inr (hw.trans hv)⟩
theorem nrmU {a b : V} (h : a = b := by ((conv => lhs; whnf) <;> rfl)) : a = b := h
end Go.Pv
end
section
/- Functions that hand back a row of one's own. -/
set_option linter.unusedVariables false
set_option linter.unusedSimpArgs false
set_option linter.unusedSectionVars false
namespace Go.Pv
variable {P : Program} {Z : Nat → Go.Obj → Prop}
theorem SC.wk {f : FuncId} {args : List V} {L : List Obj} {K : V → List Obj → Prop} (h : SC P Z f args L (fun u M => Wk Z u M K)) : SC P Z f args L K :=
  ⟨h.1, fun G w rargs a b => (h.2 G w rargs a b).mono fun rv w' ⟨G', L', v, e1, e2, e3, e4⟩ =>
    let ⟨G2, v2, L2, q1, q2, q3, q4⟩ := e1 G' w' rv e2 e4
    ⟨G2, L2, v2, q1, q2, e3.trans q3, q4⟩⟩
/-- An empty slice without room, seen as a row of one's own. -/
theorem Wk.ghost {nl : Bool} {M : List Obj} {sz : Nat} {K : V → List Obj → Prop} (h : K (.own M.length 0 0 0) (M ++ [.buf sz 0 []])) : Wk Z (.sl nl true []) M K := by
  intro G w rv hr hv
  obtain ⟨hr1, he1⟩ := hr.addExt (sz := sz) (B := 0) (O := 0) (xs := []) (by simp) ⟨fun _ => undef, fun p hp => by simp [flat] at hp⟩
  have key : ∃ A, rv = .slice A 0 0 := by
    cases hv with
    | slnil => exact ⟨_, rfl⟩
    | sl0 hx => rw [hx rfl]; exact ⟨_, rfl⟩
    | sl sz vs hne _ _ _ _ _ => exact absurd rfl hne
  obtain ⟨A, rfl⟩ := key
  exact ⟨_, _, _, h, hr1, he1, .own (loc := .ext 0 0 sz) (Gh.addR_self _ _ _ _) (Nat.le_refl _) ⟨rfl, .inl rfl⟩⟩
/-- What is owed where a function ends that hands back a row of its own. -/
abbrev FinO (P : Program) (Z : Nat → Go.Obj → Prop) (fn : Func) (sz n : Nat) (xs : List V) : Ex → St → Prop :=
  Fin P fn (fun u M => Wk Z u M (fun u M => ∃ k, M[k]? = some (.buf sz 0 xs) ∧ V.lts 0 xs = true ∧ kp k u = some (.own 0 0 n n)))
abbrev CtO (P : Program) (H : (Nat → Go.Obj → Prop) → Prop) (f : FuncId) (args : List V) (sz n : Nat) (xs : List V) : Prop := ∀ {Z : Nat → Go.Obj → Prop}, H Z → ∀ L, SE P Z f args L (.own L.length 0 n n) (L ++ [.buf sz 0 xs])
theorem cto {H : (Nat → Go.Obj → Prop) → Prop} {f : FuncId} {fn : Func} {c : Code} {args : List V} {sz n : Nat} {xs : List V} (hz : ∀ Z, H Z → HZ Z) (hf : P.funcs[f]? = some fn)
    (h : ∀ {Z : Nat → Go.Obj → Prop}, H Z → CW P Z none fn.ntmps c (FinO P Z fn sz n xs) (fun t => args.getD t .undef) [])
    (hb : fn.body = some c := by rfl) (hname : (fn.name == "runtime.NumGoroutine") = false := by kernel_rfl) (hn : args.length ≤ fn.ntmps := by exact Nat.le_of_ble_eq_true rfl) (hres : fn.results.toList.all (okRes fn.ntmps) = true := by kernel_rfl)
    (ha : DVs args := by infer_instance) (hx : DVs xs := by infer_instance) : CtO P H f args sz n xs := fun {Z} hH L => by
  have h1 : SC P Z f args [] (fun u M => Wk Z u M (fun u M => ∃ k, M[k]? = some (.buf sz 0 xs) ∧ V.lts 0 xs = true ∧ kp k u = some (.own 0 0 n n))) := SC.of_SW (hz Z hH) hf hb hname hn hres (SW.mono (h hH).out fun e s hq => by
    cases e with
    | normal => obtain ⟨u, h1, h2⟩ := hq; exact ⟨.inl rfl, u, h1, h2⟩
    | ret => obtain ⟨u, h1, h2⟩ := hq; exact ⟨.inr rfl, u, h1, h2⟩
    | exit _ => exact hq.elim)
  have h2 := SE.lift1 (SC.keep h1.wk) L ha.lts hx.lts
  simpa [V.sh] using h2
theorem kpO {k n : Nat} {u : V} (h : u = .own k 0 n n) : kp k u = some (.own 0 0 n n) := by rw [h]; simp [kp, kp1]
theorem finO {fn : Func} {env : Nat → V} {L : List Obj} {sz n k : Nat} {xs : List V} {u : V} (h : resV P ⟨env, L⟩ fn.results.toList = some u := by first | exact resI | fail) (hu : u = .own k 0 n n := by rfl) (hL : L[k]? = some (.buf sz 0 xs) := by rfl) (hx : DVs xs := by infer_instance) :
    KO (FinO P Z fn sz n xs) .ret env L := K.fin h (.of ⟨k, hL, hx.lts, kpO hu⟩)
theorem finG {fn : Func} {env : Nat → V} {L : List Obj} {sz : Nat} {nl : Bool} {u : V} (h : resV P ⟨env, L⟩ fn.results.toList = some u := by first | exact resI | fail) (hu : u = .sl nl true [] := by rfl) :
    KO (FinO P Z fn sz 0 []) .ret env L := K.fin h (by rw [hu]; exact Wk.ghost (sz := sz) ⟨L.length, by simp, rfl, kpO rfl⟩)
/-- What is owed where a function ends that hands back a row of its own, of which the first are known. -/
abbrev FinP (P : Program) (Z : Nat → Go.Obj → Prop) (fn : Func) (sz m n : Nat) (xs : List V) : Ex → St → Prop :=
  Fin P fn (fun u M => Wk Z u M (fun u M => ∃ k, M[k]? = some (.buf sz m xs) ∧ V.lts 0 xs = true ∧ kp k u = some (.own 0 0 n n)))
abbrev CtP (P : Program) (H : (Nat → Go.Obj → Prop) → Prop) (f : FuncId) (args : List V) (sz m n : Nat) (xs : List V) : Prop := ∀ {Z : Nat → Go.Obj → Prop}, H Z → ∀ L, SE P Z f args L (.own L.length 0 n n) (L ++ [.buf sz m xs])
theorem ctp {H : (Nat → Go.Obj → Prop) → Prop} {f : FuncId} {fn : Func} {c : Code} {args : List V} {sz m n : Nat} {xs : List V} (hz : ∀ Z, H Z → HZ Z) (hf : P.funcs[f]? = some fn)
    (h : ∀ {Z : Nat → Go.Obj → Prop}, H Z → CW P Z none fn.ntmps c (FinP P Z fn sz m n xs) (fun t => args.getD t .undef) [])
    (hb : fn.body = some c := by rfl) (hname : (fn.name == "runtime.NumGoroutine") = false := by kernel_rfl) (hn : args.length ≤ fn.ntmps := by exact Nat.le_of_ble_eq_true rfl) (hres : fn.results.toList.all (okRes fn.ntmps) = true := by kernel_rfl)
    (ha : DVs args := by infer_instance) (hx : DVs xs := by infer_instance) : CtP P H f args sz m n xs := fun {Z} hH L => by
  have h1 : SC P Z f args [] (fun u M => Wk Z u M (fun u M => ∃ k, M[k]? = some (.buf sz m xs) ∧ V.lts 0 xs = true ∧ kp k u = some (.own 0 0 n n))) := SC.of_SW (hz Z hH) hf hb hname hn hres (SW.mono (h hH).out fun e s hq => by
    cases e with
    | normal => obtain ⟨u, h1, h2⟩ := hq; exact ⟨.inl rfl, u, h1, h2⟩
    | ret => obtain ⟨u, h1, h2⟩ := hq; exact ⟨.inr rfl, u, h1, h2⟩
    | exit _ => exact hq.elim)
  have h2 := SE.lift1 (SC.keep h1.wk) L ha.lts hx.lts
  simpa [V.sh] using h2
theorem finP {fn : Func} {env : Nat → V} {L : List Obj} {sz m n k : Nat} {xs : List V} {u : V} (h : resV P ⟨env, L⟩ fn.results.toList = some u := by first | exact resI | fail) (hu : u = .own k 0 n n := by rfl) (hL : L[k]? = some (.buf sz m xs) := by rfl) (hx : DVs xs := by infer_instance) :
    KO (FinP P Z fn sz m n xs) .ret env L := K.fin h (.of ⟨k, hL, hx.lts, kpO hu⟩)
/-! A row of one's own beside a number. -/
abbrev FinT (P : Program) (Z : Nat → Go.Obj → Prop) (fn : Func) (e : V) (sz n : Nat) (xs : List V) : Ex → St → Prop :=
  Fin P fn (fun u M => Wk Z u M (fun u M => ∃ k, M[k]? = some (.buf sz 0 xs) ∧ V.lts 0 xs = true ∧ kp k u = some (.tup [.own 0 0 n n, e])))
abbrev CtT (P : Program) (H : (Nat → Go.Obj → Prop) → Prop) (f : FuncId) (args : List V) (e : V) (sz n : Nat) (xs : List V) : Prop := ∀ {Z : Nat → Go.Obj → Prop}, H Z → ∀ L, SE P Z f args L (.tup [.own L.length 0 n n, e]) (L ++ [.buf sz 0 xs])
theorem ctt {H : (Nat → Go.Obj → Prop) → Prop} {f : FuncId} {fn : Func} {c : Code} {args : List V} {e : V} {sz n : Nat} {xs : List V} (hz : ∀ Z, H Z → HZ Z) (hf : P.funcs[f]? = some fn)
    (h : ∀ {Z : Nat → Go.Obj → Prop}, H Z → CW P Z none fn.ntmps c (FinT P Z fn e sz n xs) (fun t => args.getD t .undef) [])
    (hb : fn.body = some c := by rfl) (hname : (fn.name == "runtime.NumGoroutine") = false := by kernel_rfl) (hn : args.length ≤ fn.ntmps := by exact Nat.le_of_ble_eq_true rfl) (hres : fn.results.toList.all (okRes fn.ntmps) = true := by kernel_rfl)
    (ha : DVs args := by infer_instance) (hx : DVs xs := by infer_instance) (he : DV e := by infer_instance) : CtT P H f args e sz n xs := fun {Z} hH L => by
  have h1 : SC P Z f args [] (fun u M => Wk Z u M (fun u M => ∃ k, M[k]? = some (.buf sz 0 xs) ∧ V.lts 0 xs = true ∧ kp k u = some (.tup [.own 0 0 n n, e]))) := SC.of_SW (hz Z hH) hf hb hname hn hres (SW.mono (h hH).out fun e s hq => by
    cases e with
    | normal => obtain ⟨u, h1, h2⟩ := hq; exact ⟨.inl rfl, u, h1, h2⟩
    | ret => obtain ⟨u, h1, h2⟩ := hq; exact ⟨.inr rfl, u, h1, h2⟩
    | exit _ => exact hq.elim)
  have h2 := SE.lift1 (SC.keep h1.wk) L ha.lts hx.lts
  simpa [V.sh, V.shs, V.sh_data _ _ he.lt] using h2
theorem kpT {k n : Nat} {u e e' : V} (h : u = .tup [.own k 0 n n, e']) (he : e' = e) [hd : DV e] : kp k u = some (.tup [.own 0 0 n n, e]) := by
  subst he
  have := hd.lt
  rw [h]
  cases e' with
  | own | bsl => simp [V.lt] at this
  | _ => simp [kp, kps, kp1, this]
theorem finT {fn : Func} {env : Nat → V} {L : List Obj} {sz n k : Nat} {xs : List V} {u e e' : V} (h : resV P ⟨env, L⟩ fn.results.toList = some u := by first | exact resI | fail) (hu : u = .tup [.own k 0 n n, e'] := by rfl) (hL : L[k]? = some (.buf sz 0 xs) := by rfl) (he : e' = e := by rfl) [hx : DVs xs] [DV e] :
    KO (FinT P Z fn e sz n xs) .ret env L := K.fin h (.of ⟨k, hL, hx.lts, kpT hu he⟩)
end Go.Pv
end
section
/- Elements that are written, told with less. -/
set_option linter.unusedVariables false
set_option linter.unusedSimpArgs false
set_option linter.unusedSectionVars false
namespace Go.Pv
variable {P : Program} {Z : Nat → Go.Obj → Prop}
/-- An object seen in another way, of the same shape. -/
theorem Rel.view {G : Gh} {L : List Obj} {w : World} (h : Rel Z G L w) {id : Nat} {ob ob' : Obj} (hid : L[id]? = some ob) (hok : ObjOK G w id ob') (hgen : ob'.gen = ob.gen)
    (hb : ∀ sz m xs, ob = .buf sz m xs → ∃ xs', ob' = .buf sz m xs' ∧ xs'.length = xs.length) (hb' : ∀ sz m xs, ob' = .buf sz m xs → ∃ xs', ob = .buf sz m xs' ∧ xs'.length = xs.length) : Rel Z G (L.set id ob') w ∧ Evo G L w G (L.set id ob') w := by
  have hlt : id < L.length := (List.getElem?_eq_some_iff.1 hid).1
  have hget : ∀ i x, (L.set id ob')[i]? = some x → (i ≠ id ∧ L[i]? = some x) ∨ (i = id ∧ x = ob') := by
    intro i x hi
    by_cases he : i = id
    · subst he; rw [List.getElem?_set_self hlt] at hi; exact .inr ⟨rfl, by simpa using hi.symm⟩
    · rw [List.getElem?_set_ne (Ne.symm he)] at hi; exact .inl ⟨he, hi⟩
  have hat : ∀ {b}, At G id ob' b → At G id ob b := fun ha => by unfold At at *; rwa [hgen] at ha
  have hheld : ∀ B, Held G (L.set id ob') B → Held G L B := by
    rintro B ⟨i, x, hi, ha⟩
    rcases hget i x hi with ⟨_, hi⟩ | ⟨rfl, rfl⟩
    · exact ⟨i, x, hi, ha⟩
    · exact ⟨_, ob, hid, hat ha⟩
  refine ⟨⟨h.kc, ?_, h.fn, ?_, ?_, ?_, ?_, h.zc, fun B o hz hh => h.zh B o hz (hheld B hh)⟩, ⟨.refl G, Nat.le_refl _, fun _ _ _ => rfl, ?_, fun _ _ _ h => .inl h, rfl, rfl⟩⟩
  · intro i x hi
    rcases hget i x hi with ⟨_, hi⟩ | ⟨rfl, rfl⟩
    · exact h.ok i x hi
    · exact hok
  · intro i j x y B hi hj ha hb2
    rcases hget i x hi with ⟨_, ki⟩ | ⟨rfl, rfl⟩ <;> rcases hget j y hj with ⟨_, kj⟩ | ⟨rfl, rfl⟩
    · exact h.dis _ _ _ _ _ ki kj ha hb2
    · exact h.dis _ _ _ _ _ ki hid ha (hat hb2)
    · exact h.dis _ _ _ _ _ hid kj (hat ha) hb2
    · rfl
  · intro B o v i x hv hi ha
    rcases hget i x hi with ⟨_, ki⟩ | ⟨rfl, rfl⟩
    · exact h.kw B o v i x hv ki ha
    · obtain ⟨sz, m, xs, e, hlt'⟩ := h.kw B o v _ ob hv hid (hat ha)
      obtain ⟨xs', e', _⟩ := hb sz m xs e
      exact ⟨sz, m, xs', e', hlt'⟩
  · intro i g l hr; rw [List.length_set]; exact h.rl i g l hr
  · intro i g l sz m xs hr hi
    rcases hget i _ hi with ⟨_, ki⟩ | ⟨rfl, he⟩
    · exact h.rg i g l sz m xs hr ki
    · obtain ⟨xs', e', hl⟩ := hb' sz m xs he.symm
      rw [e'] at hid
      rw [← hl]; exact h.rg i g l sz m xs' hr hid
  · intro i x b hi ha
    rcases hget i x hi with ⟨_, ki⟩ | ⟨rfl, rfl⟩
    · exact .inl ⟨x, ki, ha⟩
    · exact .inl ⟨ob, hid, hat ha⟩
/-- A row of which an element is told with less. -/
theorem Rel.viewBuf {G : Gh} {L : List Obj} {w : World} (h : Rel Z G L w) {id sz m : Nat} {xs xs' : List V} (hid : L[id]? = some (.buf sz m xs)) (hn : xs'.length = xs.length) (hsz : ∀ x ∈ xs', x.cells.length = sz)
    (hv : ∀ p (h1 : p < (flat xs).length) (h2 : p < (flat xs').length) r, VR G (flat xs)[p] r → VR G (flat xs')[p] r) : Rel Z G (L.set id (.buf sz m xs')) w ∧ Evo G L w G (L.set id (.buf sz m xs')) w := by
  obtain ⟨h1, h2, loc, hr, hl⟩ := h.ok id _ hid
  have hfl : (flat xs').length = (flat xs).length := by rw [flat_length hsz, flat_length h2, hn]
  refine h.view hid ⟨by rw [hn]; exact h1, hsz, loc, by rw [hn]; exact hr, ?_⟩ (by simp [Obj.gen, hn]) (fun _ _ _ e => by cases e; exact ⟨xs', rfl, hn⟩) (fun _ _ _ e => by cases e; exact ⟨xs, rfl, hn.symm⟩)
  cases loc with
  | obj b => exact hl
  | blk b cap sz' =>
    obtain ⟨e1, e2, c, e, fr, hh, hf, hs, hvv⟩ := hl
    exact ⟨e1, by rw [hn]; exact e2, c, e, fr, hh, hf, hs, fun p hp => hv p (by omega) hp _ (hvv p (by omega))⟩
  | ext B O sz' =>
    obtain ⟨e1, e2, vs, hvv⟩ := hl
    exact ⟨e1, by rw [hn]; exact e2, vs, fun p hp => ⟨(hvv p (by omega)).1, hv p (by omega) hp _ (hvv p (by omega)).2⟩⟩
theorem flat_setP {sz : Nat} {x x' : V} (hx : x.cells.length = sz) (hx' : x'.cells.length = sz) (hw : ∀ (G : Gh) q (h1 : q < x.cells.length) (h2 : q < x'.cells.length) r, VR G x.cells[q] r → VR G x'.cells[q] r) :
    ∀ {xs : List V} {i : Nat}, i < xs.length → (∀ y ∈ xs, y.cells.length = sz) → ∀ (G : Gh) p (h1 : p < (flat (xs.set i x)).length) (h2 : p < (flat (xs.set i x')).length) r, VR G (flat (xs.set i x))[p] r → VR G (flat (xs.set i x'))[p] r
  | [], i, hi, _, _, _, _, _, _, _ => by simp at hi
  | y :: ys, 0, _, hs, G, p, h1, h2, r, hr => by
    simp only [List.set_cons_zero, flat_cons] at h1 h2 hr ⊢
    by_cases hp : p < sz
    · rw [List.getElem_append_left (by omega)] at hr ⊢
      exact hw G p (by omega) (by omega) r hr
    · rw [List.getElem_append_right (by omega)] at hr ⊢
      simpa [hx, hx'] using hr
  | y :: ys, i + 1, hi, hs, G, p, h1, h2, r, hr => by
    simp only [List.set_cons_succ, flat_cons] at h1 h2 hr ⊢
    by_cases hp : p < y.cells.length
    · rw [List.getElem_append_left hp] at hr ⊢
      exact hr
    · rw [List.getElem_append_right (by omega)] at hr ⊢
      exact flat_setP (xs := ys) (i := i) hx hx' hw (by simpa using hi) (fun z hz => hs z (List.mem_cons_of_mem _ hz)) G _ _ (by simp at h2; omega) r hr
section
variable {ops : Array Oper} {rest : List Oper} {env : Nat → V} {L L' : List Obj} {K : St → Prop} {d : Tmp} {ty t : TypeId} {pos : String} {af : Array Edge} {x y : Operand} {α : Type} [Inhabited α] {g : α → V} {l : List α} {id sz m n off : Nat} {c : Int} {v : V}
/-- An element, or a part of it, is written; nil slices are told as empty ones. -/
theorem X.sta (a : α) (hK : XO P Z ops rest env L' K) (hx : St.ev ⟨env, L⟩ x = .eref id n c.toNat off := by rfl) (hL : L[id]? = some (.buf sz m (l.map g)) := by rfl) (hn : l.length = n := by first | exact lenI | fail) (h : 0 ≤ c ∧ c < (n : Int) := by first | exact ltI | fail) (hy : St.ev ⟨env, L⟩ y = v := by rfl)
    (ha : V.weak (setElem (g (rd l c)) off v.cells) = g a := by rfl) (hm : m ≤ c.toNat := by first | exact ltI | fail) (hsz : szT P t = some v.cells.length := by rfl) (ho : v.cells.all V.one = true := by rfl) (hj : decide (off + v.cells.length ≤ sz ∧ 0 < v.cells.length) = true := by rfl)
    (hc : ∀ a : α, (g a).cells.length = sz := by intro _; rfl) (hc2 : (setElem (g (rd l c)) off v.cells).cells.length = sz := by rfl) (hL' : L.set id (.buf sz m ((l.set c.toNat a).map g)) = L' := by first | exact nrmL | fail) :
    XO P Z ops (⟨none, .store t x y, ty, pos, af, none⟩ :: rest) env L K := by
  have h1 := map_rd (g := g) (l := l) (c := c) (by omega)
  have hj := of_decide_eq_true hj
  have hlt := (List.getElem?_eq_some_iff.1 hL).1
  have hci : c.toNat < l.length := by omega
  subst hL'
  have hp : pop P L (St.ev ⟨env, L⟩) (.store t x y) = some (.undef, L.set id (.buf sz m ((l.map g).set c.toNat (setElem (g (rd l c)) off v.cells)))) := by
    simp only [pop, pstore, hx, hy]
    rw [if_pos ⟨hsz, ho⟩]
    simp only [hL, h1]
    rw [if_pos ⟨by simp [hn], hm, hj.1, hj.2⟩]
    rfl
  have hwk : ∀ Kx : V → List Obj → Prop, Kx .undef (L.set id (.buf sz m ((l.set c.toNat a).map g))) → Wk Z .undef (L.set id (.buf sz m ((l.map g).set c.toNat (setElem (g (rd l c)) off v.cells)))) Kx := by
    intro Kx hKx G w rv hr hv
    have hv2 := hr.viewBuf (id := id) (xs' := (l.map g).set c.toNat (g a)) (List.getElem?_set_self hlt) (by simp) (fun z hz => by
      rcases List.mem_or_eq_of_mem_set hz with hz | rfl
      · obtain ⟨b, _, rfl⟩ := List.mem_map.1 hz; exact hc b
      · exact hc a) (fun p p1 p2 r hh => flat_setP (sz := sz) hc2 (hc a) (fun G q q1 q2 r hq => by
          have e1 : (g a).cells = (setElem (g (rd l c)) off v.cells).cells.map V.weak := by
            rw [← ha]
            cases setElem (g (rd l c)) off v.cells with
            | agg cs => rw [V.weak, V.weaks_eq]; rfl
            | tup cs => simp [V.weak, V.cells]
            | _ => simp [V.weak, V.cells]
          have e2 : (g a).cells[q] = V.weak (setElem (g (rd l c)) off v.cells).cells[q] := by simp [e1]
          rw [e2]; exact hq.weak) (by simpa using hci) (fun z hz => by obtain ⟨b, _, rfl⟩ := List.mem_map.1 hz; exact hc b) G p p1 p2 r hh)
    rw [List.set_set] at hv2
    have e3 : (l.map g).set c.toNat (g a) = (l.set c.toNat a).map g := by rw [List.map_set]
    rw [e3] at hv2
    exact ⟨G, _, _, hKx, hv2.1, hv2.2, hv⟩
  refine ⟨?_⟩
  have hx' : exOp P Z ⟨none, .store t x y, ty, pos, af, none⟩ ⟨env, L⟩ (fun v L' => exOps P Z ops rest { env := (St.put ⟨env, L⟩ none v).env, L := L' } K) := by
    simp only [exOp, hp]
    exact hwk _ hK.out
  simp only [exOps, pwanted, if_true]
  exact hx'
end
end Go.Pv
end
