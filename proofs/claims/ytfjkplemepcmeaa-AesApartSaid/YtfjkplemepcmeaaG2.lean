import Derived.Test.YtfjkplemepcmeaaPv35
set_option linter.unusedVariables false
set_option linter.unusedSimpArgs false
set_option linter.unusedSectionVars false
section
/- Slices that are frozen as they are made; slices seen as arrays; arrays' parts. -/
set_option linter.unusedVariables false
set_option linter.unusedSimpArgs false
set_option linter.unusedSectionVars false
namespace Go.Pv
variable {P : Program} {Z : Nat → Go.Obj → Prop}
section
variable {ops : Array Oper} {rest : List Oper} {env : Nat → V} {L L' L1 : List Obj} {K : St → Prop} {d : Tmp} {op : Op} {ty t e u : TypeId} {pos : String} {af : Array Edge} {x y s i : Operand} {ats : Array TypeId} {α : Type} [Inhabited α] {g : α → V} {l l2 ys l' : List α} {id n o len off sz m : Nat} {nl ex : Bool} {c : Int} {k : IntKind} {xs cs : List V} {v : V}
/-- An operation, and what is known of its result seen in another way. -/
theorem X.wk0 {K' : V → List Obj → Prop} (h : pop P L (St.ev ⟨env, L⟩) op = some (v, L1)) (hw : ∀ K : V → List Obj → Prop, (∀ v L', K' v L' → K v L') → Wk Z v L1 K) (hK : ∀ v L', K' v L' → XO P Z ops rest (upd env d v) L' K) : XO P Z ops (⟨some d, op, ty, pos, af, none⟩ :: rest) env L K := by
  refine ⟨?_⟩
  have hx : exOp P Z ⟨some d, op, ty, pos, af, none⟩ ⟨env, L⟩ (fun v L' => exOps P Z ops rest { env := (St.put ⟨env, L⟩ (some d) v).env, L := L' } K) := by
    unfold exOp
    split
    · rename_i f args ats heq
      simp only at heq
      subst heq
      simp [pop] at h
    · rw [h]; exact hw _ fun v L' hk => (hK v L' hk).out
  simp only [exOps, pwanted, if_true]
  exact hx
/-- An own slice that is frozen at once. -/
theorem X.goF (h : pop P L (St.ev ⟨env, L⟩) op = some (.own id off len xs.length, L1)) (hL : L1[id]? = some (.buf sz m xs)) (hK : XO P Z ops rest (upd env d (.sl false false ((xs.drop off).take len))) (L1.set id (.buf sz xs.length xs)) K) :
    XO P Z ops (⟨some d, op, ty, pos, af, none⟩ :: rest) env L K :=
  X.wk0 (K' := fun v L' => v = .sl false false ((xs.drop off).take len) ∧ L' = L1.set id (.buf sz xs.length xs)) h (fun K hk G w rv hr hv => by
    obtain ⟨G', h1, h2, h3⟩ := hr.freeze hL
    exact ⟨G', _, _, hk _ _ ⟨rfl, rfl⟩, h1, h2, h3 hv⟩) (fun v L' ⟨h1, h2⟩ => by subst h1 h2; exact hK)
/-- append onto a slice without room; the result is frozen. -/
theorem X.apF (l : List α) (l2 : List α) (hs : St.ev ⟨env, L⟩ s = .sl nl true (l.map g)) (hx : elems L (St.ev ⟨env, L⟩ x) = some (l2.map g)) (hg : ∀ a, (g a).cells = [g a]) (ho : ∀ a, (g a).one = true) (hb : l.length + l2.length ≤ 1000000000)
    (hK : XO P Z ops rest (upd env d (.sl false false ((l ++ l2).map g))) L' K) (hL' : L ++ [.buf 1 (l ++ l2).length ((l ++ l2).map g)] = L' := by ((try simp only [List.set_cons_zero, List.set_cons_succ, List.cons_append, List.nil_append]) <;> rfl))
    (ht : ats[0]? = some t := by rfl) (hu : ats[1]? = some u := by rfl) (hd : (match P.underlying u with | some (.slice _) => true | some .string => true | _ => false) = true := by rfl)
    (hte : P.underlying t = some (.slice e) := by rfl) (hsz : szT P e = some 1 := by rfl) {z : V} (hz : zeroV P e = some z := by rfl) (hzc : z.cells.length = 1 := by rfl) (hbt : byT P e ≤ 1000 := by decide +kernel) :
    XO P Z ops (⟨some d, .call ⟨.builtin .append, #[s, x], ats⟩, ty, pos, af, none⟩ :: rest) env L K := by
  subst hL'
  have h := pop_app_sl (P := P) (env := env) (L := L) (ats := ats) (x := x) (s := s) (sz := 1) ht hu hd hte hsz hz hzc (by decide) hs (by simp [hg]) hx (by simp [hg, ho]) (by
    simp only [List.length_map]
    have : (l.length + l2.length) * byT P e ≤ 1000000000 * 1000 := Nat.mul_le_mul hb hbt
    omega) (by simp only [List.length_map]; omega)
  have hlen : (l.map g).length + (l2.map g).length = (l.map g ++ l2.map g).length := by simp
  rw [hlen] at h
  refine X.goF (sz := 1) (m := (l.map g).length) h (by simp) ?_
  have e1 : ((l.map g ++ l2.map g).drop 0).take (l.map g ++ l2.map g).length = (l ++ l2).map g := by
    rw [List.drop_zero, List.take_of_length_le (Nat.le_refl _), List.map_append]
  have e2 : (L ++ [Obj.buf 1 (l.map g).length (l.map g ++ l2.map g)]).set L.length (.buf 1 (l.map g ++ l2.map g).length (l.map g ++ l2.map g)) = L ++ [.buf 1 (l ++ l2).length ((l ++ l2).map g)] := by
    simp
  rw [e1, e2]; exact hK
theorem elems_sl {nl ex : Bool} : elems L (.sl nl ex (l.map g)) = some (l.map g) := rfl
theorem elems_bsl (hL : L[id]? = some (.box (l.map g))) (hn : o + len ≤ l.length) : elems L (.bsl id o len) = some (((l.drop o).take len).map g) := by
  simp only [elems, hL]
  rw [if_pos (by simpa using hn)]
  simp [List.map_drop, List.map_take]
theorem elems_own (hL : L[id]? = some (.buf sz m (l.map g))) : elems L (.own id 0 (l.map g).length (l.map g).length) = some (l.map g) := by
  simp only [elems, hL, if_true, List.drop_zero]
  rw [List.take_of_length_le (Nat.le_refl _)]
/-- A slice, seen as an array. -/
theorem pop_s2a (hx : St.ev ⟨env, L⟩ x = .sl false ex (l.map g)) (hg : ∀ a, (g a).cells = [g a]) (h : 0 < n ∧ n ≤ l.length) (hte : P.underlying t = some (.array n e)) : pop P L (St.ev ⟨env, L⟩) (.sliceToArrayPointer t x) = some (.cref (l.map g), L) := by
  simp [pop, ptoArr, hx, hte, h.1, h.2, flat_map hg]
theorem X.s2a (hx : St.ev ⟨env, L⟩ x = .sl false ex (l.map g)) (hg : ∀ a, (g a).cells = [g a]) (h : 0 < n ∧ n ≤ l.length) (hK : XO P Z ops rest (upd env d (.cref (l.map g))) L K) (hte : P.underlying t = some (.array n e) := by rfl) :
    XO P Z ops (⟨some d, .sliceToArrayPointer t x, ty, pos, af, none⟩ :: rest) env L K := X.go0 (pop_s2a hx hg h hte) hK
theorem A.s2a (hx : St.ev ⟨env, L⟩ x = .sl false ex (l.map g)) (hg : ∀ a, (g a).cells = [g a]) (h : 0 < n ∧ n ≤ l.length) (hK : AO P Z ops rest (upd env d (.cref (l.map g))) L K) (hte : P.underlying t = some (.array n e) := by rfl) :
    AO P Z ops (⟨some d, .sliceToArrayPointer t x, ty, pos, af, none⟩ :: rest) env L K := A.go0 (pop_s2a hx hg h hte) hK
theorem pop_ldZ (hx : St.ev ⟨env, L⟩ x = .cref (l.map g)) (h : l.length = n) (hsz : szT P t = some n) (ha : aggT P t = some true) : pop P L (St.ev ⟨env, L⟩) (.load t x) = some (.agg (l.map g), L) := by
  simp only [pop, pload, pcells, hx, hsz, ha]
  rw [if_pos (by simp; omega), List.take_of_length_le (by simp; omega)]; rfl
theorem X.ldZ (hx : St.ev ⟨env, L⟩ x = .cref (l.map g)) (h : l.length = n) (hK : XO P Z ops rest (upd env d (.agg (l.map g))) L K) (hsz : szT P t = some n := by rfl) (ha : aggT P t = some true := by rfl) :
    XO P Z ops (⟨some d, .load t x, ty, pos, af, none⟩ :: rest) env L K := X.go0 (pop_ldZ hx h hsz ha) hK
theorem A.ldZ (hx : St.ev ⟨env, L⟩ x = .cref (l.map g)) (h : l.length = n) (hK : AO P Z ops rest (upd env d (.agg (l.map g))) L K) (hsz : szT P t = some n := by rfl) (ha : aggT P t = some true := by rfl) :
    AO P Z ops (⟨some d, .load t x, ty, pos, af, none⟩ :: rest) env L K := A.go0 (pop_ldZ hx h hsz ha) hK
/-- An array within an array that is a value. -/
theorem pop_ixS (hx : St.ev ⟨env, L⟩ x = .agg (l.map g)) (hi : St.ev ⟨env, L⟩ i = .int k c) (h : 0 ≤ c ∧ c < (n : Int)) (hl : c.toNat * sz + sz ≤ l.length) (hte : P.underlying t = some (.array n e)) (hsz : szT P e = some sz) (ha : aggT P e = some true) :
    pop P L (St.ev ⟨env, L⟩) (.index t x i) = some (.agg (((l.drop (c.toNat * sz)).take sz).map g), L) := by
  have h1 : c.toNat < n := by omega
  simp only [pop, pindex, hte, hx, hi, toNat?, hsz, ha, h.1, if_true]
  rw [if_pos ⟨h1, by simpa using hl⟩]
  simp [List.map_drop, List.map_take]
theorem X.ixS (hx : St.ev ⟨env, L⟩ x = .agg (l.map g)) (hi : St.ev ⟨env, L⟩ i = .int k c) (h : 0 ≤ c ∧ c < (n : Int)) (hl : c.toNat * sz + sz ≤ l.length) (hK : XO P Z ops rest (upd env d (.agg (((l.drop (c.toNat * sz)).take sz).map g))) L K)
    (hte : P.underlying t = some (.array n e) := by rfl) (hsz : szT P e = some sz := by rfl) (ha : aggT P e = some true := by rfl) :
    XO P Z ops (⟨some d, .index t x i, ty, pos, af, none⟩ :: rest) env L K := X.go0 (pop_ixS hx hi h hl hte hsz ha) hK
theorem A.ixS (hx : St.ev ⟨env, L⟩ x = .agg (l.map g)) (hi : St.ev ⟨env, L⟩ i = .int k c) (h : 0 ≤ c ∧ c < (n : Int)) (hl : c.toNat * sz + sz ≤ l.length) (hK : AO P Z ops rest (upd env d (.agg (((l.drop (c.toNat * sz)).take sz).map g))) L K)
    (hte : P.underlying t = some (.array n e) := by rfl) (hsz : szT P e = some sz := by rfl) (ha : aggT P e = some true := by rfl) :
    AO P Z ops (⟨some d, .index t x i, ty, pos, af, none⟩ :: rest) env L K := A.go0 (pop_ixS hx hi h hl hte hsz ha) hK
/-- A part of bytes, frozen as a result. -/
theorem frz_bsl {kk : Nat} (hL : L[id]? = some (.box cs)) (hn : kk ≤ id) (hle : o + len ≤ cs.length) (hl : V.lts 0 cs = true) : frz1 kk L (.bsl id o len) = some (.sl false false ((cs.drop o).take len)) := by
  simp [frz1, hL, hn, hle, hl]
end
/-- Bytes, as a slice that is read. -/
def gB (l : List UInt8) : V := .sl false false (l.map g8)
theorem gB_data (l : List UInt8) : V.lt 0 (gB l) = true := map_data g8_data l
theorem plain8 : ∀ l : List UInt8, V.plains (l.map g8) = true
  | [] => rfl
  | a :: l => by rw [List.map_cons, V.plains, plain8 l]; rfl
end Go.Pv
end
section
/- Slices that are written out. -/
set_option linter.unusedVariables false
set_option linter.unusedSimpArgs false
set_option linter.unusedSectionVars false
namespace Go.Pv
variable {P : Program} {Z : Nat → Go.Obj → Prop}
theorem fillV_ones : ∀ (vs : List V) (k : Nat) (c : List V), (∀ v ∈ vs, v.cells = [v]) → k + vs.length ≤ c.length → fillV (fun i => some (i * 1, 1)) c ((List.range' k vs.length).zip vs) = some (c.take k ++ vs ++ c.drop (k + vs.length))
  | [], k, c, _, _ => by simp [fillV]
  | v :: vs, k, c, h, hl => by
    have hv := h v (by simp)
    have hlen : k + 1 + vs.length ≤ c.length := by simp at hl; omega
    rw [show (v :: vs).length = vs.length + 1 from rfl, List.range'_succ, List.zip_cons_cons, fillV]
    simp only [hv, List.length_singleton, Nat.mul_one]
    rw [if_neg (by omega)]
    have := fillV_ones vs (k + 1) (setAt c k [v]) (fun v hm => h v (List.mem_cons_of_mem _ hm)) (by simp [setAt]; omega)
    simp only [Nat.mul_one] at this
    rw [this]
    congr 1
    have e1 : (setAt c k [v]).take (k + 1) = c.take k ++ [v] := by
      simp only [setAt, List.length_singleton]
      have hk : (c.take k ++ [v]).length = k + 1 := by simp; omega
      rw [List.take_append_of_le_length (by omega), List.take_of_length_le (by omega)]
    have e2 : (setAt c k [v]).drop (k + 1 + vs.length) = c.drop (k + (vs.length + 1)) := by
      simp only [setAt, List.length_singleton]
      have hk : (c.take k ++ [v]).length = k + 1 := by simp; omega
      rw [List.drop_append, hk, List.drop_of_length_le (by omega), List.nil_append, List.drop_drop]
      congr 1; omega
    rw [e1, e2]; simp
theorem chunk_ones : ∀ (vs : List V), (∀ v ∈ vs, v.cells = [v]) → chunk 1 false vs.length vs = vs
  | [], _ => rfl
  | v :: vs, h => by
    rw [List.length_cons, chunk]
    simp only [Bool.false_eq_true, if_false, List.headD_cons, List.drop_succ_cons, List.drop_zero]
    rw [chunk_ones vs (fun v hm => h v (List.mem_cons_of_mem _ hm))]
theorem pbuildSlice_ones {t e : TypeId} {z : V} (vs : List V) (ht : P.underlying t = some (.slice e)) (hsz : szT P e = some 1) (hz : zeroV P e = some z) (hag : aggT P e = some false) (hzc : z.cells.length = 1) (hv : ∀ v ∈ vs, v.cells = [v]) (ho : vs.all V.one = true) (hn : vs.length ≤ 1000000) :
    pbuildSlice P t vs.length ((List.range' 0 vs.length).zip vs) = some (.sl false true vs) := by
  simp only [pbuildSlice, ht, hsz, hz, hag]
  have hr : (repl vs.length z.cells).length = vs.length := by simp [repl, hzc]
  rw [if_pos ⟨by decide, by omega, hzc, .inr trivial⟩, fillV_ones vs 0 _ hv (by omega)]
  simp only [List.take_zero, List.nil_append, Nat.zero_add]
  rw [List.drop_of_length_le (by omega), List.append_nil, if_pos ho, chunk_ones vs hv]
section
variable {ops : Array Oper} {rest : List Oper} {env : Nat → V} {L L' : List Obj} {K : St → Prop} {d : Tmp} {ty t e : TypeId} {pos : String} {af : Array Edge} {len : Nat} {ps : Array (Nat × Operand)} {z : V}
theorem X.bs (vs : List V) (hp : (ps.toList.map fun p => (p.1, St.ev ⟨env, L⟩ p.2)) = (List.range' 0 vs.length).zip vs) (hlen : len = vs.length) (hv : ∀ v ∈ vs, v.cells = [v]) (ho : vs.all V.one = true) (hn : vs.length ≤ 1000000) (hK : XO P Z ops rest (upd env d (.sl false true vs)) L K)
    (ht : P.underlying t = some (.slice e) := by rfl) (hsz : szT P e = some 1 := by rfl) (hz : zeroV P e = some z := by rfl) (hag : aggT P e = some false := by rfl) (hzc : z.cells.length = 1 := by rfl) :
    XO P Z ops (⟨some d, .buildSlice t len ps, ty, pos, af, none⟩ :: rest) env L K := X.go0 (by subst hlen; simp only [pop, hp, pbuildSlice_ones vs ht hsz hz hag hzc hv ho hn]; rfl) hK
theorem A.bs (vs : List V) (hp : (ps.toList.map fun p => (p.1, St.ev ⟨env, L⟩ p.2)) = (List.range' 0 vs.length).zip vs) (hlen : len = vs.length) (hv : ∀ v ∈ vs, v.cells = [v]) (ho : vs.all V.one = true) (hn : vs.length ≤ 1000000) (hK : AO P Z ops rest (upd env d (.sl false true vs)) L K)
    (ht : P.underlying t = some (.slice e) := by rfl) (hsz : szT P e = some 1 := by rfl) (hz : zeroV P e = some z := by rfl) (hag : aggT P e = some false := by rfl) (hzc : z.cells.length = 1 := by rfl) :
    AO P Z ops (⟨some d, .buildSlice t len ps, ty, pos, af, none⟩ :: rest) env L K := A.go0 (by subst hlen; simp only [pop, hp, pbuildSlice_ones vs ht hsz hz hag hzc hv ho hn]; rfl) hK
theorem X.bs0 (hK : XO P Z ops rest (upd env d (.sl false true [])) L K)
    (ht : P.underlying t = some (.slice e) := by rfl) (hsz : szT P e = some 1 := by rfl) (hz : zeroV P e = some z := by rfl) (hag : aggT P e = some false := by rfl) (hzc : z.cells.length = 1 := by rfl) :
    XO P Z ops (⟨some d, .buildSlice t 0 #[], ty, pos, af, none⟩ :: rest) env L K := X.bs [] rfl rfl (by simp) rfl (by simp) hK ht hsz hz hag hzc
theorem A.bs0 (hK : AO P Z ops rest (upd env d (.sl false true [])) L K)
    (ht : P.underlying t = some (.slice e) := by rfl) (hsz : szT P e = some 1 := by rfl) (hz : zeroV P e = some z := by rfl) (hag : aggT P e = some false := by rfl) (hzc : z.cells.length = 1 := by rfl) :
    AO P Z ops (⟨some d, .buildSlice t 0 #[], ty, pos, af, none⟩ :: rest) env L K := A.bs [] rfl rfl (by simp) rfl (by simp) hK ht hsz hz hag hzc
theorem X.bs1 {x : Operand} {v : V} (hx : St.ev ⟨env, L⟩ x = v) (hK : XO P Z ops rest (upd env d (.sl false true [v])) L K) (hv : v.cells = [v] := by rfl) (ho : v.one = true := by rfl)
    (ht : P.underlying t = some (.slice e) := by rfl) (hsz : szT P e = some 1 := by rfl) (hz : zeroV P e = some z := by rfl) (hag : aggT P e = some false := by rfl) (hzc : z.cells.length = 1 := by rfl) :
    XO P Z ops (⟨some d, .buildSlice t 1 #[(0, x)], ty, pos, af, none⟩ :: rest) env L K := X.bs [v] (by simp [hx]) rfl (by simp [hv]) (by simp [ho]) (by simp) hK ht hsz hz hag hzc
theorem A.bs1 {x : Operand} {v : V} (hx : St.ev ⟨env, L⟩ x = v) (hK : AO P Z ops rest (upd env d (.sl false true [v])) L K) (hv : v.cells = [v] := by rfl) (ho : v.one = true := by rfl)
    (ht : P.underlying t = some (.slice e) := by rfl) (hsz : szT P e = some 1 := by rfl) (hz : zeroV P e = some z := by rfl) (hag : aggT P e = some false := by rfl) (hzc : z.cells.length = 1 := by rfl) :
    AO P Z ops (⟨some d, .buildSlice t 1 #[(0, x)], ty, pos, af, none⟩ :: rest) env L K := A.bs [v] (by simp [hx]) rfl (by simp [hv]) (by simp [ho]) (by simp) hK ht hsz hz hag hzc
end
theorem elems_bslA {L : List Obj} {id len : Nat} {α : Type} {g : α → V} {l : List α} (hL : L[id]? = some (.box (l.map g))) (hn : l.length = len) : elems L (.bsl id 0 len) = some (l.map g) := by
  simp only [elems, hL]
  rw [if_pos (by simp; omega), List.drop_zero, List.take_of_length_le (by simp; omega)]
section
variable {ops : Array Oper} {rest : List Oper} {env : Nat → V} {L L' : List Obj} {K : St → Prop} {d : Tmp} {ty t e u : TypeId} {pos : String} {af : Array Edge} {s x : Operand} {ats : Array TypeId} {α : Type} [Inhabited α] {g : α → V} {nl : Bool}
/-- append onto an empty slice without room; the result is frozen. -/
theorem X.apF0 (l2 : List α) (hs : St.ev ⟨env, L⟩ s = .sl nl true []) (hx : elems L (St.ev ⟨env, L⟩ x) = some (l2.map g)) (hg : ∀ a, (g a).cells = [g a]) (ho : ∀ a, (g a).one = true) (hb : l2.length ≤ 1000000000)
    (hK : XO P Z ops rest (upd env d (.sl false false (l2.map g))) L' K) (hL' : L ++ [.buf 1 l2.length (l2.map g)] = L' := by ((try simp only [List.set_cons_zero, List.set_cons_succ, List.cons_append, List.nil_append]) <;> rfl))
    (ht : ats[0]? = some t := by rfl) (hu : ats[1]? = some u := by rfl) (hd : (match P.underlying u with | some (.slice _) => true | some .string => true | _ => false) = true := by rfl)
    (hte : P.underlying t = some (.slice e) := by rfl) (hsz : szT P e = some 1 := by rfl) {z : V} (hz : zeroV P e = some z := by rfl) (hzc : z.cells.length = 1 := by rfl) (hbt : byT P e ≤ 1000 := by decide +kernel) :
    XO P Z ops (⟨some d, .call ⟨.builtin .append, #[s, x], ats⟩, ty, pos, af, none⟩ :: rest) env L K :=
  X.apF (g := g) [] l2 hs hx hg ho (by simpa using hb) (by simpa using hK) (by simpa using hL') ht hu hd hte hsz hz hzc hbt
end
theorem cutv_data {N : Nat} : ∀ {v : V}, V.plain v = true → V.cutv N v = v := by
  intro v
  refine V.rec (motive_1 := fun v => V.plain v = true → V.cutv N v = v) (motive_2 := fun vs => V.plains vs = true → V.cutvs N vs = vs) ?_ ?_ ?_ ?_ ?_ ?_ ?_ ?_ ?_ ?_ ?_ ?_ ?_ ?_ ?_ ?_ ?_ ?_ ?_ ?_ v <;>
    intros <;> simp_all [V.plain, V.plains, V.cutv, V.cutvs]
end Go.Pv
end
section
/- Slices that are made with a length, and filled. -/
set_option linter.unusedVariables false
set_option linter.unusedSimpArgs false
set_option linter.unusedSectionVars false
namespace Go.Pv
variable {P : Program} {Z : Nat → Go.Obj → Prop}
section
variable {ops : Array Oper} {rest : List Oper} {env : Nat → V} {L L' : List Obj} {K : St → Prop} {d : Tmp} {ty t e : TypeId} {pos : String} {af : Array Edge} {x y i len cap : Operand} {α : Type} [Inhabited α] {g : α → V} {l : List α} {id sz m n w : Nat} {c : Int} {k : IntKind} {a : α}
theorem X.mk (a : α) (w : Nat) (hl : St.ev ⟨env, L⟩ len = .int .i64 (w : Int)) (hc : St.ev ⟨env, L⟩ cap = .int .i64 (w : Int)) (hw : w ≤ 1000000) (hK : XO P Z ops rest (upd env d (.own L.length 0 w w)) L' K) (hL' : L ++ [.buf sz 0 ((List.replicate w a).map g)] = L' := by ((try simp only [List.cons_append, List.nil_append]) <;> rfl))
    (hte : P.underlying t = some (.slice e) := by rfl) (hsz : szT P e = some sz := by rfl) (hz : zeroV P e = some (g a) := by rfl) (h0 : 0 < sz := by decide) (hzc : (g a).cells.length = sz := by rfl) (hbt : byT P e ≤ 1000 := by decide +kernel) :
    XO P Z ops (⟨some d, .makeSlice t len cap, ty, pos, af, none⟩ :: rest) env L K := X.go0 (by
      subst hL'
      have hb : (byT P e : Int) * (w : Int) ≤ 281474976710656 := by
        have : byT P e * w ≤ 1000 * 1000000 := Nat.mul_le_mul hbt hw
        have h2 : ((byT P e * w : Nat) : Int) = (byT P e : Int) * (w : Int) := Int.natCast_mul _ _
        omega
      simp only [pop, pmakeSlice, hte, hl, hc, hsz, hz]
      rw [if_pos ⟨h0, hzc, by omega, by omega, by omega, hb⟩]
      simp) hK
theorem pop_iaN (hx : St.ev ⟨env, L⟩ x = .own id 0 n n) (hi : St.ev ⟨env, L⟩ i = .int k c) (h : 0 ≤ c ∧ c < (n : Int)) (hL : L[id]? = some (.buf sz m (l.map g))) (hn : l.length = n) (hte : P.underlying t = some (.slice e)) (hsz : szT P e = some sz) :
    pop P L (St.ev ⟨env, L⟩) (.indexAddr t x i) = some (.eref id n c.toNat 0, L) := by
  have := pop_iao (n := c.toNat) hte hsz hx (by rw [hi, Int.toNat_of_nonneg h.1]) hL (by simp [hn]) (by omega)
  rw [this, Nat.zero_add]
theorem X.iaN (hx : St.ev ⟨env, L⟩ x = .own id 0 n n) (hi : St.ev ⟨env, L⟩ i = .int k c) (h : 0 ≤ c ∧ c < (n : Int)) (hL : L[id]? = some (.buf sz m (l.map g))) (hn : l.length = n) (hK : XO P Z ops rest (upd env d (.eref id n c.toNat 0)) L K)
    (hte : P.underlying t = some (.slice e) := by rfl) (hsz : szT P e = some sz := by rfl) :
    XO P Z ops (⟨some d, .indexAddr t x i, ty, pos, af, none⟩ :: rest) env L K := X.go0 (pop_iaN hx hi h hL hn hte hsz) hK
theorem A.iaN (hx : St.ev ⟨env, L⟩ x = .own id 0 n n) (hi : St.ev ⟨env, L⟩ i = .int k c) (h : 0 ≤ c ∧ c < (n : Int)) (hL : L[id]? = some (.buf sz m (l.map g))) (hn : l.length = n) (hK : AO P Z ops rest (upd env d (.eref id n c.toNat 0)) L K)
    (hte : P.underlying t = some (.slice e) := by rfl) (hsz : szT P e = some sz := by rfl) :
    AO P Z ops (⟨some d, .indexAddr t x i, ty, pos, af, none⟩ :: rest) env L K := A.go0 (pop_iaN hx hi h hL hn hte hsz) hK
theorem pop_ldN (hx : St.ev ⟨env, L⟩ x = .eref id n c.toNat 0) (hL : L[id]? = some (.buf sz m (l.map g))) (h : 0 ≤ c ∧ c < (l.length : Int)) (hn : l.length = n) (hsz : szT P t = some 1) (ha : aggT P t = some false) (hy : (g (rd l c)).cells = [g (rd l c)]) :
    pop P L (St.ev ⟨env, L⟩) (.load t x) = some (g (rd l c), L) := pop_lde hx hL (by simp [hn]) (map_rd h) hsz ha hy
theorem X.ldN (hx : St.ev ⟨env, L⟩ x = .eref id n c.toNat 0) (hL : L[id]? = some (.buf sz m (l.map g))) (h : 0 ≤ c ∧ c < (l.length : Int)) (hn : l.length = n) (hK : XO P Z ops rest (upd env d (g (rd l c))) L K)
    (hsz : szT P t = some 1 := by rfl) (ha : aggT P t = some false := by rfl) (hy : (g (rd l c)).cells = [g (rd l c)] := by rfl) :
    XO P Z ops (⟨some d, .load t x, ty, pos, af, none⟩ :: rest) env L K := X.go0 (pop_ldN hx hL h hn hsz ha hy) hK
theorem A.ldN (hx : St.ev ⟨env, L⟩ x = .eref id n c.toNat 0) (hL : L[id]? = some (.buf sz m (l.map g))) (h : 0 ≤ c ∧ c < (l.length : Int)) (hn : l.length = n) (hK : AO P Z ops rest (upd env d (g (rd l c))) L K)
    (hsz : szT P t = some 1 := by rfl) (ha : aggT P t = some false := by rfl) (hy : (g (rd l c)).cells = [g (rd l c)] := by rfl) :
    AO P Z ops (⟨some d, .load t x, ty, pos, af, none⟩ :: rest) env L K := A.go0 (pop_ldN hx hL h hn hsz ha hy) hK
theorem X.stN (a : α) (hx : St.ev ⟨env, L⟩ x = .eref id n c.toNat 0) (hL : L[id]? = some (.buf 1 0 (l.map g))) (hy : St.ev ⟨env, L⟩ y = g a) (h : 0 ≤ c ∧ c < (l.length : Int)) (hn : l.length = n) (hc : ∀ b, (g b).cells = [g b])
    (hK : XO P Z ops rest env L' K) (hL' : L.set id (.buf 1 0 ((l.set c.toNat a).map g)) = L' := by ((try simp only [List.set_cons_zero, List.set_cons_succ, List.cons_append, List.nil_append]) <;> rfl)) (hsz : szT P t = some 1 := by rfl) (ho : (g a).one = true := by rfl) :
    XO P Z ops (⟨none, .store t x y, ty, pos, af, none⟩ :: rest) env L K := X.st0 (by rw [← hL']; exact pop_stO (by rw [hx, ← hn]; simp) hy hL h hsz rfl hc ho) hK
theorem X.lnN (hx : St.ev ⟨env, L⟩ x = .own id 0 n n) {ats : Array TypeId} (hK : XO P Z ops rest (upd env d (.int .i64 (n : Nat))) L K) (ht : ats[0]? = some t := by rfl) (hu : P.underlying t = some (.slice e) := by rfl) :
    XO P Z ops (⟨some d, .call ⟨.builtin .len, #[x], ats⟩, ty, pos, af, none⟩ :: rest) env L K := X.go0 (by simp [pop, pbuiltin, hx, ht, hu]) hK
theorem frz_ownN {kk : Nat} (hL : L[id]? = some (.buf sz m (l.map g))) (hk : kk ≤ id) (hn : l.length = n) (hl : V.lts 0 (l.map g) = true) : frz1 kk L (.own id 0 n n) = some (.sl false false (l.map g)) := by
  have : n = (l.map g).length := by simp [hn]
  rw [this]; exact frz_own hL hk hl
theorem X.min2 {ats : Array TypeId} {p q : Int} (hx : St.ev ⟨env, L⟩ x = .int k p) (hy : St.ev ⟨env, L⟩ y = .int k q) (hK : XO P Z ops rest (upd env d (.int k (min p q))) L K) :
    XO P Z ops (⟨some d, .call ⟨.builtin .min, #[x, y], ats⟩, ty, pos, af, none⟩ :: rest) env L K := X.go0 (by
      simp only [pop, pbuiltin, List.map_cons, List.map_nil, hx, hy, pminmax, pmm]
      have : (if q < p then q else p) = min p q := by rw [Int.min_def]; split <;> split <;> omega
      simp [this]) hK
theorem X.max2 {ats : Array TypeId} {p q : Int} (hx : St.ev ⟨env, L⟩ x = .int k p) (hy : St.ev ⟨env, L⟩ y = .int k q) (hK : XO P Z ops rest (upd env d (.int k (max p q))) L K) :
    XO P Z ops (⟨some d, .call ⟨.builtin .max, #[x, y], ats⟩, ty, pos, af, none⟩ :: rest) env L K := X.go0 (by
      simp only [pop, pbuiltin, List.map_cons, List.map_nil, hx, hy, pminmax, pmm]
      have : (if q > p then q else p) = max p q := by rw [Int.max_def]; split <;> split <;> omega
      simp [this]) hK
theorem A.min2 {ats : Array TypeId} {p q : Int} (hx : St.ev ⟨env, L⟩ x = .int k p) (hy : St.ev ⟨env, L⟩ y = .int k q) (hK : AO P Z ops rest (upd env d (.int k (min p q))) L K) :
    AO P Z ops (⟨some d, .call ⟨.builtin .min, #[x, y], ats⟩, ty, pos, af, none⟩ :: rest) env L K := A.go0 (by
      simp only [pop, pbuiltin, List.map_cons, List.map_nil, hx, hy, pminmax, pmm]
      have : (if q < p then q else p) = min p q := by rw [Int.min_def]; split <;> split <;> omega
      simp [this]) hK
theorem A.max2 {ats : Array TypeId} {p q : Int} (hx : St.ev ⟨env, L⟩ x = .int k p) (hy : St.ev ⟨env, L⟩ y = .int k q) (hK : AO P Z ops rest (upd env d (.int k (max p q))) L K) :
    AO P Z ops (⟨some d, .call ⟨.builtin .max, #[x, y], ats⟩, ty, pos, af, none⟩ :: rest) env L K := A.go0 (by
      simp only [pop, pbuiltin, List.map_cons, List.map_nil, hx, hy, pminmax, pmm]
      have : (if q > p then q else p) = max p q := by rw [Int.max_def]; split <;> split <;> omega
      simp [this]) hK
end
end Go.Pv
end
section
/- Aes: the plain functions. -/
namespace Go.Proofs.Aes
open Go.Pv
def xt (a : UInt8) : UInt8 := (a <<< 1) ^^^ ((a >>> 7) * 27)
def mulF : Nat → UInt8 → UInt8 → UInt8 → UInt8
  | 0, _, _, o => o
  | f + 1, a, b, o => mulF f (xt a) (b >>> 1) (if b &&& 1 = 1 then o ^^^ a else o)
def mulU (a b : UInt8) : UInt8 := mulF 8 a b 0
def powF : Nat → Nat → UInt8 → UInt8 → UInt8
  | 0, _, o, _ => o
  | f + 1, n, o, x => powF f (n / 2) (if n % 2 = 1 then mulU o x else o) (mulU x x)
def invU (x : UInt8) : UInt8 := powF 8 254 1 x
def rotU (x : UInt8) (k : UInt8) : UInt8 := (x <<< k) ||| (x >>> (8 - k))
def turnU (y : UInt8) : UInt8 := y ^^^ 99 ^^^ rotU y 1 ^^^ rotU y 2 ^^^ rotU y 3 ^^^ rotU y 4
def boxU (x : UInt8) : UInt8 := turnU (invU x)
def boxL : List UInt8 := (List.range 256).map fun i => boxU (UInt8.ofNat i)
theorem mulF_zero : ∀ (f : Nat) (a o : UInt8), mulF f a 0 o = o
  | 0, _, _ => rfl
  | f + 1, a, o => by
    rw [mulF, if_neg (by decide)]
    exact mulF_zero f _ _
section raw
open Go
theorem xt_raw (a : UInt8) : IntKind.u8.wrap ((BitVec.ofInt IntKind.u8.bits (IntKind.u8.wrap ((a.toNat : Int) * 2 ^ min (Int.toNat 1) IntKind.u8.bits)) ^^^ BitVec.ofInt IntKind.u8.bits (IntKind.u8.wrap (((a.toNat : Int)).fdiv (2 ^ min (Int.toNat 7) IntKind.u8.bits) * 27))).toNat : Nat) = ((xt a).toNat : Int) :=
  eq_of_beq (all_u8 (p := fun a => IntKind.u8.wrap ((BitVec.ofInt IntKind.u8.bits (IntKind.u8.wrap ((a.toNat : Int) * 2 ^ min (Int.toNat 1) IntKind.u8.bits)) ^^^ BitVec.ofInt IntKind.u8.bits (IntKind.u8.wrap (((a.toNat : Int)).fdiv (2 ^ min (Int.toNat 7) IntKind.u8.bits) * 27))).toNat : Nat) == ((xt a).toNat : Int)) (by kernel_rfl) a)
theorem shr1_raw (a : UInt8) : ((a.toNat : Int)).fdiv (2 ^ min (Int.toNat 1) IntKind.u8.bits) = ((a >>> 1).toNat : Int) :=
  eq_of_beq (all_u8 (p := fun a => ((a.toNat : Int)).fdiv (2 ^ min (Int.toNat 1) IntKind.u8.bits) == ((a >>> 1).toNat : Int)) (by kernel_rfl) a)
theorem shr1_nat (a : UInt8) : (a >>> 1).toNat = a.toNat / 2 := eq_of_beq (all_u8 (p := fun a => (a >>> 1).toNat == a.toNat / 2) (by kernel_rfl) a)
theorem and1_nat (a : UInt8) : (a &&& 1).toNat = a.toNat % 2 := eq_of_beq (all_u8 (p := fun a => (a &&& 1).toNat == a.toNat % 2) (by kernel_rfl) a)
theorem and1_iff (a : UInt8) : a &&& 1 = 1 ↔ a.toNat % 2 = 1 := by
  rw [← and1_nat, ← UInt8.toNat_inj]; rfl
theorem xt_nat (a : UInt8) : (xt a).toNat = if 255 < 2 * a.toNat then (2 * a.toNat) ^^^ 283 else 2 * a.toNat :=
  eq_of_beq (all_u8 (p := fun a => (xt a).toNat == if 255 < 2 * a.toNat then (2 * a.toNat) ^^^ 283 else 2 * a.toNat) (by kernel_rfl) a)
theorem mulF_step {i : Nat} (h : i < 8) (a b o : UInt8) : mulF (8 - i) a b o = mulF (8 - (i + 1)) (xt a) (b >>> 1) (if b.toNat % 2 = 1 then o ^^^ a else o) := by
  rw [show 8 - i = (8 - (i + 1)) + 1 by omega, mulF]
  simp only [and1_iff]
end raw
end Go.Proofs.Aes
namespace Go.Proofs.Aes
open Go.Pv
/-! states: 16 bytes -/
def addS (s k : List UInt8) : List UInt8 := (List.range 16).map fun (q : Nat) => rd s q ^^^ rd k q
def shiftB (s : List UInt8) (q : Nat) : UInt8 := rd boxL ((rd s (((q : Int) + 4 * ((q : Int) % 4)) % 16)).toNat : Int)
def shiftS (s : List UInt8) : List UInt8 := (List.range 16).map (shiftB s)
def mixB (s : List UInt8) (q : Nat) : UInt8 :=
  mulU (rd s ((q : Int) / 4 * 4 + ((q : Int) + 0) % 4)) 2 ^^^ mulU (rd s ((q : Int) / 4 * 4 + ((q : Int) + 1) % 4)) 3 ^^^ rd s ((q : Int) / 4 * 4 + ((q : Int) + 2) % 4) ^^^ rd s ((q : Int) / 4 * 4 + ((q : Int) + 3) % 4)
def mixS (s : List UInt8) : List UInt8 := (List.range 16).map (mixB s)
/-- A round's key. -/
def rk (K : List UInt8) (n : Nat) : List UInt8 := (K.drop (n * 16)).take 16
def lockF (K s : List UInt8) : Nat → List UInt8
  | 0 => addS s (rk K 0)
  | n + 1 => addS (if n + 1 < 10 then mixS (shiftS (lockF K s n)) else shiftS (lockF K s n)) (rk K (n + 1))
def lockS (K s : List UInt8) : List UInt8 := lockF K s 10
theorem rk_len {K : List UInt8} (hK : K.length = 176) {n : Nat} (hn : n ≤ 10) : (rk K n).length = 16 := by simp [rk, hK]; omega
theorem boxL_len : boxL.length = 256 := by simp [boxL]
theorem addS_len (s k : List UInt8) : (addS s k).length = 16 := by simp [addS]
theorem shiftS_len (s : List UInt8) : (shiftS s).length = 16 := by simp [shiftS]
theorem mixS_len (s : List UInt8) : (mixS s).length = 16 := by simp [mixS]
theorem lockF_len (K s : List UInt8) (n : Nat) : (lockF K s n).length = 16 := by cases n <;> exact addS_len _ _
end Go.Proofs.Aes
end
section
/- Aes: the laws of products. -/
set_option maxRecDepth 100000
namespace Go.Proofs.Aes
open Go.Pv
theorem x4 (a b c d : UInt8) : (a ^^^ b) ^^^ (c ^^^ d) = (a ^^^ c) ^^^ (b ^^^ d) := by
  rw [UInt8.xor_assoc, ← UInt8.xor_assoc b c d, UInt8.xor_comm b c, UInt8.xor_assoc c b d, ← UInt8.xor_assoc]
def lin (f : UInt8 → UInt8) : Prop := ∀ x y, f (x ^^^ y) = f x ^^^ f y
def bits : List UInt8 := [1, 2, 4, 8, 16, 32, 64, 128]
theorem lin.zero {f : UInt8 → UInt8} (h : lin f) : f 0 = 0 := by
  have := h 0 0
  rw [UInt8.xor_self] at this
  have h2 := congrArg (· ^^^ f 0) this
  simpa [UInt8.xor_assoc, UInt8.xor_self, UInt8.xor_zero] using h2.symm
theorem split8 (x : UInt8) : x = (x &&& 1) ^^^ (x &&& 2) ^^^ (x &&& 4) ^^^ (x &&& 8) ^^^ (x &&& 16) ^^^ (x &&& 32) ^^^ (x &&& 64) ^^^ (x &&& 128) :=
  eq_of_beq (all_u8 (p := fun x => x == (x &&& 1) ^^^ (x &&& 2) ^^^ (x &&& 4) ^^^ (x &&& 8) ^^^ (x &&& 16) ^^^ (x &&& 32) ^^^ (x &&& 64) ^^^ (x &&& 128)) (by kernel_rfl) x)
theorem bit_or (x : UInt8) : ∀ b ∈ bits, x &&& b = 0 ∨ x &&& b = b := by
  have h : (bits.all fun b => (x &&& b == 0 || x &&& b == b)) = true := all_u8 (p := fun x => bits.all fun b => (x &&& b == 0 || x &&& b == b)) (by kernel_rfl) x
  intro b hb
  have := List.all_eq_true.1 h b hb
  simpa using this
theorem lin.null {f : UInt8 → UInt8} (h : lin f) (hb : ∀ b ∈ bits, f b = 0) (x : UInt8) : f x = 0 := by
  have key : ∀ b ∈ bits, f (x &&& b) = 0 := fun b hm => by
    rcases bit_or x b hm with e | e <;> rw [e]
    · exact h.zero
    · exact hb b hm
  rw [split8 x, h, h, h, h, h, h, h, key 1 (by simp [bits]), key 2 (by simp [bits]), key 4 (by simp [bits]), key 8 (by simp [bits]), key 16 (by simp [bits]), key 32 (by simp [bits]), key 64 (by simp [bits]), key 128 (by simp [bits])]
  rfl
theorem xor_eq_zero {a b : UInt8} (h : a ^^^ b = 0) : a = b := by
  have := congrArg (· ^^^ b) h
  simpa [UInt8.xor_assoc, UInt8.xor_self, UInt8.xor_zero] using this
theorem lin.eq {f g : UInt8 → UInt8} (hf : lin f) (hg : lin g) (hb : ∀ b ∈ bits, f b = g b) (x : UInt8) : f x = g x :=
  xor_eq_zero (lin.null (f := fun x => f x ^^^ g x) (fun x y => by simp only [hf x y, hg x y]; exact x4 _ _ _ _) (fun b h => by simp only [hb b h]; exact UInt8.xor_self) x)
theorem par (b : UInt8) : b &&& 1 = 0 ∨ b &&& 1 = 1 := bit_or b 1 (by simp [bits])
theorem par_xor (b c : UInt8) : (b ^^^ c) &&& 1 = (b &&& 1) ^^^ (c &&& 1) := by
  rw [← UInt8.toBitVec_inj]
  simp only [UInt8.toBitVec_and, UInt8.toBitVec_xor]
  ext i hi
  simp
  cases b.toBitVec[i] <;> cases c.toBitVec[i] <;> simp
theorem mulF_linR : ∀ (f : Nat) (a b c o p : UInt8), mulF f a (b ^^^ c) (o ^^^ p) = mulF f a b o ^^^ mulF f a c p
  | 0, _, _, _, _, _ => rfl
  | f + 1, a, b, c, o, p => by
    rw [mulF, mulF, mulF, UInt8.shiftRight_xor, ← mulF_linR f, par_xor]
    congr 1
    rcases par b with hb | hb <;> rcases par c with hc | hc <;> rw [hb, hc]
    · rw [if_neg (by decide), if_neg (by decide), if_neg (by decide)]
    · rw [if_pos (by decide), if_neg (by decide), if_pos (by decide), UInt8.xor_assoc]
    · rw [if_pos (by decide), if_pos (by decide), if_neg (by decide), UInt8.xor_assoc, UInt8.xor_comm p a, ← UInt8.xor_assoc]
    · rw [if_neg (by decide), if_pos (by decide), if_pos (by decide), x4, UInt8.xor_self, UInt8.xor_zero]
theorem lin_xt : lin xt := by
  have h27 : lin fun a => (a >>> 7) * 27 := by
    intro x y
    simp only [UInt8.shiftRight_xor]
    have h7 : ∀ x : UInt8, (x >>> 7 == 0 || x >>> 7 == 1) = true := all_u8 (by kernel_rfl)
    have h1 := h7 x
    have h2 := h7 y
    simp only [Bool.or_eq_true, beq_iff_eq] at h1 h2
    rcases h1 with h1 | h1 <;> rcases h2 with h2 | h2 <;> rw [h1, h2] <;> rfl
  intro x y
  unfold xt
  have h2 := h27 x y
  dsimp only at h2
  rw [UInt8.shiftLeft_xor, h2, x4]
theorem mulF_linL : ∀ (f : Nat) (a b c o p : UInt8), mulF f (a ^^^ b) c (o ^^^ p) = mulF f a c o ^^^ mulF f b c p
  | 0, _, _, _, _, _ => rfl
  | f + 1, a, b, c, o, p => by
    rw [mulF, mulF, mulF, lin_xt a b, ← mulF_linL f]
    congr 1
    by_cases h : c &&& 1 = 1
    · rw [if_pos h, if_pos h, if_pos h, x4]
    · rw [if_neg h, if_neg h, if_neg h]
theorem mul_xor (a b c : UInt8) : mulU a (b ^^^ c) = mulU a b ^^^ mulU a c := by
  unfold mulU
  have := mulF_linR 8 a b c 0 0
  rwa [UInt8.xor_self] at this
theorem xor_mul (a b c : UInt8) : mulU (a ^^^ b) c = mulU a c ^^^ mulU b c := by
  unfold mulU
  have := mulF_linL 8 a b c 0 0
  rwa [UInt8.xor_self] at this
theorem mul_comm (a b : UInt8) : mulU a b = mulU b a := by
  have hb : (bits.all fun x => bits.all fun y => mulU x y == mulU y x) = true := by kernel_rfl
  refine lin.eq (f := fun b => mulU a b) (g := fun b => mulU b a) (fun x y => mul_xor a x y) (fun x y => xor_mul x y a) (fun e he => ?_) b
  refine lin.eq (f := fun a => mulU a e) (g := fun a => mulU e a) (fun x y => xor_mul x y e) (fun x y => mul_xor e x y) (fun d hd => ?_) a
  exact eq_of_beq (List.all_eq_true.1 (List.all_eq_true.1 hb d hd) e he)
theorem mul_assoc (a b c : UInt8) : mulU (mulU a b) c = mulU a (mulU b c) := by
  have hb : (bits.all fun x => bits.all fun y => bits.all fun z => mulU (mulU x y) z == mulU x (mulU y z)) = true := by kernel_rfl
  refine lin.eq (f := fun c => mulU (mulU a b) c) (g := fun c => mulU a (mulU b c)) (fun x y => mul_xor _ x y) (fun x y => by simp only [mul_xor]) (fun e he => ?_) c
  refine lin.eq (f := fun b => mulU (mulU a b) e) (g := fun b => mulU a (mulU b e)) (fun x y => by simp only [mul_xor, xor_mul]) (fun x y => by simp only [mul_xor, xor_mul]) (fun d hd => ?_) b
  refine lin.eq (f := fun a => mulU (mulU a d) e) (g := fun a => mulU a (mulU d e)) (fun x y => by simp only [xor_mul]) (fun x y => by simp only [xor_mul]) (fun q hq => ?_) a
  exact eq_of_beq (List.all_eq_true.1 (List.all_eq_true.1 (List.all_eq_true.1 hb q hq) d hd) e he)
theorem mul_one (a : UInt8) : mulU a 1 = a :=
  lin.eq (f := fun a => mulU a 1) (g := fun a => a) (fun x y => xor_mul x y 1) (fun _ _ => rfl) (fun e he => by
    have hb : (bits.all fun x => mulU x 1 == x) = true := by kernel_rfl
    exact eq_of_beq (List.all_eq_true.1 hb e he)) a
theorem mul_zero (a : UInt8) : mulU a 0 = 0 := lin.zero (f := fun b => mulU a b) (fun x y => mul_xor a x y)
theorem mul_inv0 (x : UInt8) : (x == 0 || mulU x (invU x) == 1) = true := all_u8 (p := fun x => x == 0 || mulU x (invU x) == 1) (by kernel_rfl) x
theorem mul_inv {x : UInt8} (h : x ≠ 0) : mulU x (invU x) = 1 := by
  have := mul_inv0 x
  simp only [Bool.or_eq_true, beq_iff_eq] at this
  exact this.resolve_left h
theorem mul_one_iff (x q : UInt8) : mulU x q = 1 ↔ x ≠ 0 ∧ q = invU x := by
  constructor
  · intro h
    have hx : x ≠ 0 := fun h0 => by rw [h0, mul_comm, mul_zero] at h; exact absurd h (by decide)
    refine ⟨hx, ?_⟩
    have h1 : mulU (mulU x q) (invU x) = invU x := by rw [h, mul_comm, mul_one]
    rw [mul_comm x q, mul_assoc, mul_inv hx, mul_one] at h1
    exact h1
  · rintro ⟨h, rfl⟩; exact mul_inv h
theorem inv_zero : invU 0 = 0 := by decide +kernel
theorem inv_ne {x : UInt8} (h : x ≠ 0) : invU x ≠ 0 := fun h0 => by
  have := mul_inv h
  rw [h0, mul_zero] at this
  exact absurd this (by decide)
end Go.Proofs.Aes
end
