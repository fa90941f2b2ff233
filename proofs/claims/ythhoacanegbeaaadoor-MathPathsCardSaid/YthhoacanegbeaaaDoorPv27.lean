/- Slices of elements that are alike: their lengths, elements, stores, appends. -/
import Derived.Test.YthhoacanegbeaaaDoorPv26
set_option linter.unusedVariables false
set_option linter.unusedSimpArgs false
set_option linter.unusedSectionVars false
namespace Go.Pv
variable {P : Program} {Z : Nat → Go.Obj → Prop}
def rd {α : Type} [Inhabited α] (l : List α) (i : Int) : α := l.getD i.toNat default
theorem rd_nat {α : Type} [Inhabited α] (l : List α) (i : Nat) : rd l (i : Int) = l.getD i default := rfl
theorem rd_get {α : Type} [Inhabited α] {l : List α} {i : Int} (h : 0 ≤ i ∧ i < (l.length : Int)) : l[i.toNat]? = some (rd l i) := by
  have hi : i.toNat < l.length := by omega
  rw [rd, List.getD_eq_getElem?_getD, List.getElem?_eq_getElem hi]; rfl
section
variable {env : Nat → V} {L L' : List Obj} {ops : Array Oper} {rest : List Oper} {K : St → Prop} {d : Tmp}
  {ty t e u : TypeId} {pos : String} {af : Array Edge} {x s i y : Operand} {id sz m gen len off : Nat} {k : IntKind} {nl ex : Bool} {α : Type} [Inhabited α] {g : α → V} {l l2 : List α} {c : Int} {a : α} {ats : Array TypeId} {cs : List V} {dd : TypeDesc}
theorem X.lnS (hx : St.ev ⟨env, L⟩ x = .sl nl ex (l.map g)) (hK : XO P Z ops rest (upd env d (.int .i64 (l.length : Nat))) L K) (ht : ats[0]? = some t := by rfl) (hu : P.underlying t = some (.slice e) := by rfl) :
    XO P Z ops (⟨some d, .call ⟨.builtin .len, #[x], ats⟩, ty, pos, af, none⟩ :: rest) env L K := X.go0 (by simp [pop, pbuiltin, hx, ht, hu]) hK
theorem A.lnS (hx : St.ev ⟨env, L⟩ x = .sl nl ex (l.map g)) (hK : AO P Z ops rest (upd env d (.int .i64 (l.length : Nat))) L K) (ht : ats[0]? = some t := by rfl) (hu : P.underlying t = some (.slice e) := by rfl) :
    AO P Z ops (⟨some d, .call ⟨.builtin .len, #[x], ats⟩, ty, pos, af, none⟩ :: rest) env L K := A.go0 (by simp [pop, pbuiltin, hx, ht, hu]) hK
theorem X.lnO (hx : St.ev ⟨env, L⟩ x = .own id off (l.map g).length gen) (hK : XO P Z ops rest (upd env d (.int .i64 (l.length : Nat))) L K) (ht : ats[0]? = some t := by rfl) (hu : P.underlying t = some (.slice e) := by rfl) :
    XO P Z ops (⟨some d, .call ⟨.builtin .len, #[x], ats⟩, ty, pos, af, none⟩ :: rest) env L K := X.go0 (by simp [pop, pbuiltin, hx, ht, hu]) hK
theorem A.lnO (hx : St.ev ⟨env, L⟩ x = .own id off (l.map g).length gen) (hK : AO P Z ops rest (upd env d (.int .i64 (l.length : Nat))) L K) (ht : ats[0]? = some t := by rfl) (hu : P.underlying t = some (.slice e) := by rfl) :
    AO P Z ops (⟨some d, .call ⟨.builtin .len, #[x], ats⟩, ty, pos, af, none⟩ :: rest) env L K := A.go0 (by simp [pop, pbuiltin, hx, ht, hu]) hK
theorem map_rd (h : 0 ≤ c ∧ c < (l.length : Int)) : (l.map g)[c.toNat]? = some (g (rd l c)) := by
  rw [List.getElem?_map, rd_get h]; rfl
theorem pop_iaS (hx : St.ev ⟨env, L⟩ x = .sl nl ex (l.map g)) (hi : St.ev ⟨env, L⟩ i = .int k c) (h : 0 ≤ c ∧ c < (l.length : Int)) (hte : P.underlying t = some (.slice e)) (hsz : szT P e = some sz) (hy : (g (rd l c)).cells.length = sz) :
    pop P L (St.ev ⟨env, L⟩) (.indexAddr t x i) = some (.cref (g (rd l c)).cells, L) :=
  pop_ias (n := c.toNat) hte hsz hx (by rw [hi, Int.toNat_of_nonneg h.1]) (map_rd h) hy
theorem X.iaS (hx : St.ev ⟨env, L⟩ x = .sl nl ex (l.map g)) (hi : St.ev ⟨env, L⟩ i = .int k c) (h : 0 ≤ c ∧ c < (l.length : Int)) (hK : XO P Z ops rest (upd env d (.cref (g (rd l c)).cells)) L K)
    (hte : P.underlying t = some (.slice e) := by rfl) (hsz : szT P e = some sz := by rfl) (hy : (g (rd l c)).cells.length = sz := by rfl) :
    XO P Z ops (⟨some d, .indexAddr t x i, ty, pos, af, none⟩ :: rest) env L K := X.go0 (pop_iaS hx hi h hte hsz hy) hK
theorem A.iaS (hx : St.ev ⟨env, L⟩ x = .sl nl ex (l.map g)) (hi : St.ev ⟨env, L⟩ i = .int k c) (h : 0 ≤ c ∧ c < (l.length : Int)) (hK : AO P Z ops rest (upd env d (.cref (g (rd l c)).cells)) L K)
    (hte : P.underlying t = some (.slice e) := by rfl) (hsz : szT P e = some sz := by rfl) (hy : (g (rd l c)).cells.length = sz := by rfl) :
    AO P Z ops (⟨some d, .indexAddr t x i, ty, pos, af, none⟩ :: rest) env L K := A.go0 (pop_iaS hx hi h hte hsz hy) hK
theorem pop_iaO (hx : St.ev ⟨env, L⟩ x = .own id 0 (l.map g).length (l.map g).length) (hi : St.ev ⟨env, L⟩ i = .int k c) (h : 0 ≤ c ∧ c < (l.length : Int)) (hL : L[id]? = some (.buf sz m (l.map g))) (hte : P.underlying t = some (.slice e)) (hsz : szT P e = some sz) :
    pop P L (St.ev ⟨env, L⟩) (.indexAddr t x i) = some (.eref id (l.map g).length c.toNat 0, L) := by
  have := pop_iao (n := c.toNat) hte hsz hx (by rw [hi, Int.toNat_of_nonneg h.1]) hL rfl (by simp; omega)
  rw [this, Nat.zero_add]
theorem X.iaO (hx : St.ev ⟨env, L⟩ x = .own id 0 (l.map g).length (l.map g).length) (hi : St.ev ⟨env, L⟩ i = .int k c) (h : 0 ≤ c ∧ c < (l.length : Int)) (hL : L[id]? = some (.buf sz m (l.map g))) (hK : XO P Z ops rest (upd env d (.eref id (l.map g).length c.toNat 0)) L K)
    (hte : P.underlying t = some (.slice e) := by rfl) (hsz : szT P e = some sz := by rfl) :
    XO P Z ops (⟨some d, .indexAddr t x i, ty, pos, af, none⟩ :: rest) env L K := X.go0 (pop_iaO hx hi h hL hte hsz) hK
theorem A.iaO (hx : St.ev ⟨env, L⟩ x = .own id 0 (l.map g).length (l.map g).length) (hi : St.ev ⟨env, L⟩ i = .int k c) (h : 0 ≤ c ∧ c < (l.length : Int)) (hL : L[id]? = some (.buf sz m (l.map g))) (hK : AO P Z ops rest (upd env d (.eref id (l.map g).length c.toNat 0)) L K)
    (hte : P.underlying t = some (.slice e) := by rfl) (hsz : szT P e = some sz := by rfl) :
    AO P Z ops (⟨some d, .indexAddr t x i, ty, pos, af, none⟩ :: rest) env L K := A.go0 (pop_iaO hx hi h hL hte hsz) hK
/-- A whole element is read. -/
theorem pop_ldO (hx : St.ev ⟨env, L⟩ x = .eref id (l.map g).length c.toNat 0) (hL : L[id]? = some (.buf sz m (l.map g))) (h : 0 ≤ c ∧ c < (l.length : Int)) (hsz : szT P t = some 1) (ha : aggT P t = some false) (hy : (g (rd l c)).cells = [g (rd l c)]) :
    pop P L (St.ev ⟨env, L⟩) (.load t x) = some (g (rd l c), L) := pop_lde hx hL rfl (map_rd h) hsz ha hy
theorem X.ldO (hx : St.ev ⟨env, L⟩ x = .eref id (l.map g).length c.toNat 0) (hL : L[id]? = some (.buf sz m (l.map g))) (h : 0 ≤ c ∧ c < (l.length : Int)) (hK : XO P Z ops rest (upd env d (g (rd l c))) L K)
    (hsz : szT P t = some 1 := by rfl) (ha : aggT P t = some false := by rfl) (hy : (g (rd l c)).cells = [g (rd l c)] := by rfl) :
    XO P Z ops (⟨some d, .load t x, ty, pos, af, none⟩ :: rest) env L K := X.go0 (pop_ldO hx hL h hsz ha hy) hK
theorem A.ldO (hx : St.ev ⟨env, L⟩ x = .eref id (l.map g).length c.toNat 0) (hL : L[id]? = some (.buf sz m (l.map g))) (h : 0 ≤ c ∧ c < (l.length : Int)) (hK : AO P Z ops rest (upd env d (g (rd l c))) L K)
    (hsz : szT P t = some 1 := by rfl) (ha : aggT P t = some false := by rfl) (hy : (g (rd l c)).cells = [g (rd l c)] := by rfl) :
    AO P Z ops (⟨some d, .load t x, ty, pos, af, none⟩ :: rest) env L K := A.go0 (pop_ldO hx hL h hsz ha hy) hK
/-- A struct of an element is read. -/
theorem pop_ldA (hx : St.ev ⟨env, L⟩ x = .eref id (l.map g).length c.toNat 0) (hL : L[id]? = some (.buf sz m (l.map g))) (h : 0 ≤ c ∧ c < (l.length : Int)) (hsz : szT P t = some sz) (ha : aggT P t = some true) (hy : g (rd l c) = .agg cs) (hn : cs.length = sz) :
    pop P L (St.ev ⟨env, L⟩) (.load t x) = some (.agg cs, L) := by
  have h1 := map_rd (g := g) h
  simp only [pop, pload, pcells, hx, hL, h1, hsz, ha, hy, V.cells, if_true, Option.map_some, List.drop_zero]
  rw [if_pos (by omega), List.take_of_length_le (by omega)]
  rfl
theorem X.ldA (hx : St.ev ⟨env, L⟩ x = .eref id (l.map g).length c.toNat 0) (hL : L[id]? = some (.buf sz m (l.map g))) (h : 0 ≤ c ∧ c < (l.length : Int)) (hy : g (rd l c) = .agg cs) (hK : XO P Z ops rest (upd env d (.agg cs)) L K)
    (hsz : szT P t = some sz := by rfl) (ha : aggT P t = some true := by rfl) (hn : cs.length = sz := by rfl) :
    XO P Z ops (⟨some d, .load t x, ty, pos, af, none⟩ :: rest) env L K := X.go0 (pop_ldA hx hL h hsz ha hy hn) hK
theorem A.ldA (hx : St.ev ⟨env, L⟩ x = .eref id (l.map g).length c.toNat 0) (hL : L[id]? = some (.buf sz m (l.map g))) (h : 0 ≤ c ∧ c < (l.length : Int)) (hy : g (rd l c) = .agg cs) (hK : AO P Z ops rest (upd env d (.agg cs)) L K)
    (hsz : szT P t = some sz := by rfl) (ha : aggT P t = some true := by rfl) (hn : cs.length = sz := by rfl) :
    AO P Z ops (⟨some d, .load t x, ty, pos, af, none⟩ :: rest) env L K := A.go0 (pop_ldA hx hL h hsz ha hy hn) hK
/-- A whole element is written. -/
theorem pop_stO (hx : St.ev ⟨env, L⟩ x = .eref id (l.map g).length c.toNat 0) (hy : St.ev ⟨env, L⟩ y = g a) (hL : L[id]? = some (.buf sz 0 (l.map g))) (h : 0 ≤ c ∧ c < (l.length : Int)) (hsz : szT P t = some 1) (hs1 : sz = 1) (hc : ∀ b, (g b).cells = [g b]) (ho : (g a).one = true) :
    pop P L (St.ev ⟨env, L⟩) (.store t x y) = some (.undef, L.set id (.buf sz 0 ((l.set c.toNat a).map g))) := by
  have h1 := map_rd (g := g) h
  subst hs1
  simp only [pop, pstore, hx, hy, hc, hsz, hL, h1, List.length_singleton, List.all_cons, List.all_nil, ho, Bool.and_true]
  rw [if_pos (by simp), if_pos (by simp)]
  have : setElem (g (rd l c)) 0 [g a] = g a := by
    have := hc (rd l c)
    unfold setElem
    split
    · rename_i cs heq
      rw [heq] at this
      simp only [V.cells] at this
      have := congrArg (fun q : List V => SizeOf.sizeOf q) this
      simp at this
      omega
    · rfl
  simp [this, List.map_set]
theorem X.stO (a : α) (hx : St.ev ⟨env, L⟩ x = .eref id (l.map g).length c.toNat 0) (hL : L[id]? = some (.buf sz 0 (l.map g))) (hy : St.ev ⟨env, L⟩ y = g a) (h : 0 ≤ c ∧ c < (l.length : Int)) (hc : ∀ b, (g b).cells = [g b])
    (hK : XO P Z ops rest env L' K) (hL' : L.set id (.buf sz 0 ((l.set c.toNat a).map g)) = L' := by ((try simp only [List.set_cons_zero, List.set_cons_succ]) <;> rfl)) (hsz : szT P t = some 1 := by rfl) (hs1 : sz = 1 := by rfl) (ho : (g a).one = true := by rfl) :
    XO P Z ops (⟨none, .store t x y, ty, pos, af, none⟩ :: rest) env L K := X.st0 (by rw [← hL']; exact pop_stO hx hy hL h hsz hs1 hc ho) hK
/-- One element more. -/
theorem X.ap1 (a : α) (hs : St.ev ⟨env, L⟩ s = .own id 0 (l.map g).length (l.map g).length) (hL : L[id]? = some (.buf sz m (l.map g))) (hx : elems L (St.ev ⟨env, L⟩ x) = some [g a]) (hb : l.length ≤ 1000000000)
    (hK : XO P Z ops rest (upd env d (.own id 0 ((l ++ [a]).map g).length ((l ++ [a]).map g).length)) L' K)
    (hL' : L.set id (.buf sz m ((l ++ [a]).map g)) = L' := by ((try simp only [List.set_cons_zero, List.set_cons_succ]) <;> rfl)) (ht : ats[0]? = some t := by rfl) (hu : ats[1]? = some u := by rfl)
    (hd : (match P.underlying u with | some (.slice _) => true | some .string => true | _ => false) = true := by rfl) (hte : P.underlying t = some (.slice e) := by rfl) (hsz : szT P e = some sz := by rfl) {z : V} (hz : zeroV P e = some z := by rfl)
    (hzc : z.cells.length = sz := by rfl) (h0 : 0 < sz := by decide) (hys : [g a].all (fun y => y.cells.length == sz && y.cells.all V.one) = true := by rfl) (hbt : byT P e ≤ 1000 := by decide +kernel) :
    XO P Z ops (⟨some d, .call ⟨.builtin .append, #[s, x], ats⟩, ty, pos, af, none⟩ :: rest) env L K := by
  subst hL'
  have := pop_app_own (P := P) (env := env) (L := L) (ats := ats) (x := x) (s := s) ht hu hd hte hsz hz hzc h0 hs hL hx hys (by
    simp only [List.length_map, List.length_singleton]
    have : (l.length + 1) * byT P e ≤ (1000000000 + 1) * 1000 := Nat.mul_le_mul (by omega) hbt
    omega) (by simp only [List.length_map, List.length_singleton]; omega)
  refine X.go0 (this.trans ?_) hK
  simp
end
theorem wU8 {a : Int} (h : 0 ≤ a ∧ a < 256) : IntKind.u8.wrap a = a := by
  have e1 : (2 ^ IntKind.u8.bits : Int) = 256 := by decide
  have : IntKind.u8.signed = false := rfl
  simp [IntKind.wrap, e1, this]; omega
theorem wU16 {a : Int} (h : 0 ≤ a ∧ a < 65536) : IntKind.u16.wrap a = a := by
  have e1 : (2 ^ IntKind.u16.bits : Int) = 65536 := by decide
  have : IntKind.u16.signed = false := rfl
  simp [IntKind.wrap, e1, this]; omega
theorem wU32 {a : Int} (h : 0 ≤ a ∧ a < 4294967296) : IntKind.u32.wrap a = a := by
  have e1 : (2 ^ IntKind.u32.bits : Int) = 4294967296 := by decide
  have : IntKind.u32.signed = false := rfl
  simp [IntKind.wrap, e1, this]; omega
theorem wU64 {a : Int} (h : 0 ≤ a ∧ a < 18446744073709551616) : IntKind.u64.wrap a = a := by
  have e1 : (2 ^ IntKind.u64.bits : Int) = 18446744073709551616 := by decide
  have : IntKind.u64.signed = false := rfl
  simp [IntKind.wrap, e1, this]; omega
end Go.Pv
