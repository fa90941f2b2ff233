import Derived.Test.YtfjkplemepcmeaaPv35
set_option linter.unusedVariables false
set_option linter.unusedSimpArgs false
set_option linter.unusedSectionVars false
section
/- Slices that are frozen as they are made; slices seen as arrays; arrays' parts. -/
set_option linter.unusedVariables false
set_option linter.unusedSimpArgs false
set_option linter.unusedSectionVars false
namespace Go.Pv
variable {P : Program} {Z : Nat → Go.Obj → Prop}
section
variable {ops : Array Oper} {rest : List Oper} {env : Nat → V} {L L' L1 : List Obj} {K : St → Prop} {d : Tmp} {op : Op} {ty t e u : TypeId} {pos : String} {af : Array Edge} {x y s i : Operand} {ats : Array TypeId} {α : Type} [Inhabited α] {g : α → V} {l l2 ys l' : List α} {id n o len off sz m : Nat} {nl ex : Bool} {c : Int} {k : IntKind} {xs cs : List V} {v : V}
/-- An operation, and what is known of its result seen in another way. -/
theorem X.wk0 {K' : V → List Obj → Prop} (h : pop P L (St.ev ⟨env, L⟩) op = some (v, L1)) (hw : ∀ K : V → List Obj → Prop, (∀ v L', K' v L' → K v L') → Wk Z v L1 K) (hK : ∀ v L', K' v L' → XO P Z ops rest (upd env d v) L' K) : XO P Z ops (⟨some d, op, ty, pos, af, none⟩ :: rest) env L K := by
  refine ⟨?_⟩
  have hx : exOp P Z ⟨some d, op, ty, pos, af, none⟩ ⟨env, L⟩ (fun v L' => exOps P Z ops rest { env := (St.put ⟨env, L⟩ (some d) v).env, L := L' } K) := by
    unfold exOp
    split
    · rename_i f args ats heq
      simp only at heq
      subst heq
      simp [pop] at h
    · rw [h]; exact hw _ fun v L' hk => (hK v L' hk).out
  simp only [exOps, pwanted, if_true]
  exact hx
/-- An own slice that is frozen at once. -/
theorem X.goF (h : pop P L (St.ev ⟨env, L⟩) op = some (.own id off len xs.length, L1)) (hL : L1[id]? = some (.buf sz m xs)) (hK : XO P Z ops rest (upd env d (.sl false false ((xs.drop off).take len))) (L1.set id (.buf sz xs.length xs)) K) :
    XO P Z ops (⟨some d, op, ty, pos, af, none⟩ :: rest) env L K :=
  X.wk0 (K' := fun v L' => v = .sl false false ((xs.drop off).take len) ∧ L' = L1.set id (.buf sz xs.length xs)) h (fun K hk G w rv hr hv => by
    obtain ⟨G', h1, h2, h3⟩ := hr.freeze hL
    exact ⟨G', _, _, hk _ _ ⟨rfl, rfl⟩, h1, h2, h3 hv⟩) (fun v L' ⟨h1, h2⟩ => by subst h1 h2; exact hK)
/-- append onto a slice without room; the result is frozen. -/
theorem X.apF (l : List α) (l2 : List α) (hs : St.ev ⟨env, L⟩ s = .sl nl true (l.map g)) (hx : elems L (St.ev ⟨env, L⟩ x) = some (l2.map g)) (hg : ∀ a, (g a).cells = [g a]) (ho : ∀ a, (g a).one = true) (hb : l.length + l2.length ≤ 1000000000)
    (hK : XO P Z ops rest (upd env d (.sl false false ((l ++ l2).map g))) L' K) (hL' : L ++ [.buf 1 (l ++ l2).length ((l ++ l2).map g)] = L' := by ((try simp only [List.set_cons_zero, List.set_cons_succ, List.cons_append, List.nil_append]) <;> rfl))
    (ht : ats[0]? = some t := by rfl) (hu : ats[1]? = some u := by rfl) (hd : (match P.underlying u with | some (.slice _) => true | some .string => true | _ => false) = true := by rfl)
    (hte : P.underlying t = some (.slice e) := by rfl) (hsz : szT P e = some 1 := by rfl) {z : V} (hz : zeroV P e = some z := by rfl) (hzc : z.cells.length = 1 := by rfl) (hbt : byT P e ≤ 1000 := by decide +kernel) :
    XO P Z ops (⟨some d, .call ⟨.builtin .append, #[s, x], ats⟩, ty, pos, af, none⟩ :: rest) env L K := by
  subst hL'
  have h := pop_app_sl (P := P) (env := env) (L := L) (ats := ats) (x := x) (s := s) (sz := 1) ht hu hd hte hsz hz hzc (by decide) hs (by simp [hg]) hx (by simp [hg, ho]) (by
    simp only [List.length_map]
    have : (l.length + l2.length) * byT P e ≤ 1000000000 * 1000 := Nat.mul_le_mul hb hbt
    omega) (by simp only [List.length_map]; omega)
  have hlen : (l.map g).length + (l2.map g).length = (l.map g ++ l2.map g).length := by simp
  rw [hlen] at h
  refine X.goF (sz := 1) (m := (l.map g).length) h (by simp) ?_
  have e1 : ((l.map g ++ l2.map g).drop 0).take (l.map g ++ l2.map g).length = (l ++ l2).map g := by
    rw [List.drop_zero, List.take_of_length_le (Nat.le_refl _), List.map_append]
  have e2 : (L ++ [Obj.buf 1 (l.map g).length (l.map g ++ l2.map g)]).set L.length (.buf 1 (l.map g ++ l2.map g).length (l.map g ++ l2.map g)) = L ++ [.buf 1 (l ++ l2).length ((l ++ l2).map g)] := by
    simp
  rw [e1, e2]; exact hK
theorem elems_sl {nl ex : Bool} : elems L (.sl nl ex (l.map g)) = some (l.map g) := rfl
theorem elems_bsl (hL : L[id]? = some (.box (l.map g))) (hn : o + len ≤ l.length) : elems L (.bsl id o len) = some (((l.drop o).take len).map g) := by
  simp only [elems, hL]
  rw [if_pos (by simpa using hn)]
  simp [List.map_drop, List.map_take]
theorem elems_own (hL : L[id]? = some (.buf sz m (l.map g))) : elems L (.own id 0 (l.map g).length (l.map g).length) = some (l.map g) := by
  simp only [elems, hL, if_true, List.drop_zero]
  rw [List.take_of_length_le (Nat.le_refl _)]
/-- A slice, seen as an array. -/
theorem pop_s2a (hx : St.ev ⟨env, L⟩ x = .sl false ex (l.map g)) (hg : ∀ a, (g a).cells = [g a]) (h : 0 < n ∧ n ≤ l.length) (hte : P.underlying t = some (.array n e)) : pop P L (St.ev ⟨env, L⟩) (.sliceToArrayPointer t x) = some (.cref (l.map g), L) := by
  simp [pop, ptoArr, hx, hte, h.1, h.2, flat_map hg]
theorem X.s2a (hx : St.ev ⟨env, L⟩ x = .sl false ex (l.map g)) (hg : ∀ a, (g a).cells = [g a]) (h : 0 < n ∧ n ≤ l.length) (hK : XO P Z ops rest (upd env d (.cref (l.map g))) L K) (hte : P.underlying t = some (.array n e) := by rfl) :
    XO P Z ops (⟨some d, .sliceToArrayPointer t x, ty, pos, af, none⟩ :: rest) env L K := X.go0 (pop_s2a hx hg h hte) hK
theorem A.s2a (hx : St.ev ⟨env, L⟩ x = .sl false ex (l.map g)) (hg : ∀ a, (g a).cells = [g a]) (h : 0 < n ∧ n ≤ l.length) (hK : AO P Z ops rest (upd env d (.cref (l.map g))) L K) (hte : P.underlying t = some (.array n e) := by rfl) :
    AO P Z ops (⟨some d, .sliceToArrayPointer t x, ty, pos, af, none⟩ :: rest) env L K := A.go0 (pop_s2a hx hg h hte) hK
theorem pop_ldZ (hx : St.ev ⟨env, L⟩ x = .cref (l.map g)) (h : l.length = n) (hsz : szT P t = some n) (ha : aggT P t = some true) : pop P L (St.ev ⟨env, L⟩) (.load t x) = some (.agg (l.map g), L) := by
  simp only [pop, pload, pcells, hx, hsz, ha]
  rw [if_pos (by simp; omega), List.take_of_length_le (by simp; omega)]; rfl
theorem X.ldZ (hx : St.ev ⟨env, L⟩ x = .cref (l.map g)) (h : l.length = n) (hK : XO P Z ops rest (upd env d (.agg (l.map g))) L K) (hsz : szT P t = some n := by rfl) (ha : aggT P t = some true := by rfl) :
    XO P Z ops (⟨some d, .load t x, ty, pos, af, none⟩ :: rest) env L K := X.go0 (pop_ldZ hx h hsz ha) hK
theorem A.ldZ (hx : St.ev ⟨env, L⟩ x = .cref (l.map g)) (h : l.length = n) (hK : AO P Z ops rest (upd env d (.agg (l.map g))) L K) (hsz : szT P t = some n := by rfl) (ha : aggT P t = some true := by rfl) :
    AO P Z ops (⟨some d, .load t x, ty, pos, af, none⟩ :: rest) env L K := A.go0 (pop_ldZ hx h hsz ha) hK
/-- An array within an array that is a value. -/
theorem pop_ixS (hx : St.ev ⟨env, L⟩ x = .agg (l.map g)) (hi : St.ev ⟨env, L⟩ i = .int k c) (h : 0 ≤ c ∧ c < (n : Int)) (hl : c.toNat * sz + sz ≤ l.length) (hte : P.underlying t = some (.array n e)) (hsz : szT P e = some sz) (ha : aggT P e = some true) :
    pop P L (St.ev ⟨env, L⟩) (.index t x i) = some (.agg (((l.drop (c.toNat * sz)).take sz).map g), L) := by
  have h1 : c.toNat < n := by omega
  simp only [pop, pindex, hte, hx, hi, toNat?, hsz, ha, h.1, if_true]
  rw [if_pos ⟨h1, by simpa using hl⟩]
  simp [List.map_drop, List.map_take]
theorem X.ixS (hx : St.ev ⟨env, L⟩ x = .agg (l.map g)) (hi : St.ev ⟨env, L⟩ i = .int k c) (h : 0 ≤ c ∧ c < (n : Int)) (hl : c.toNat * sz + sz ≤ l.length) (hK : XO P Z ops rest (upd env d (.agg (((l.drop (c.toNat * sz)).take sz).map g))) L K)
    (hte : P.underlying t = some (.array n e) := by rfl) (hsz : szT P e = some sz := by rfl) (ha : aggT P e = some true := by rfl) :
    XO P Z ops (⟨some d, .index t x i, ty, pos, af, none⟩ :: rest) env L K := X.go0 (pop_ixS hx hi h hl hte hsz ha) hK
theorem A.ixS (hx : St.ev ⟨env, L⟩ x = .agg (l.map g)) (hi : St.ev ⟨env, L⟩ i = .int k c) (h : 0 ≤ c ∧ c < (n : Int)) (hl : c.toNat * sz + sz ≤ l.length) (hK : AO P Z ops rest (upd env d (.agg (((l.drop (c.toNat * sz)).take sz).map g))) L K)
    (hte : P.underlying t = some (.array n e) := by rfl) (hsz : szT P e = some sz := by rfl) (ha : aggT P e = some true := by rfl) :
    AO P Z ops (⟨some d, .index t x i, ty, pos, af, none⟩ :: rest) env L K := A.go0 (pop_ixS hx hi h hl hte hsz ha) hK
/-- A part of bytes, frozen as a result. -/
theorem frz_bsl {kk : Nat} (hL : L[id]? = some (.box cs)) (hn : kk ≤ id) (hle : o + len ≤ cs.length) (hl : V.lts 0 cs = true) : frz1 kk L (.bsl id o len) = some (.sl false false ((cs.drop o).take len)) := by
  simp [frz1, hL, hn, hle, hl]
end
/-- Bytes, as a slice that is read. -/
def gB (l : List UInt8) : V := .sl false false (l.map g8)
theorem gB_data (l : List UInt8) : V.lt 0 (gB l) = true := map_data g8_data l
theorem plain8 : ∀ l : List UInt8, V.plains (l.map g8) = true
  | [] => rfl
  | a :: l => by rw [List.map_cons, V.plains, plain8 l]; rfl
end Go.Pv
end
section
/- Slices that are written out. -/
set_option linter.unusedVariables false
set_option linter.unusedSimpArgs false
set_option linter.unusedSectionVars false
namespace Go.Pv
variable {P : Program} {Z : Nat → Go.Obj → Prop}
theorem fillV_ones : ∀ (vs : List V) (k : Nat) (c : List V), (∀ v ∈ vs, v.cells = [v]) → k + vs.length ≤ c.length → fillV (fun i => some (i * 1, 1)) c ((List.range' k vs.length).zip vs) = some (c.take k ++ vs ++ c.drop (k + vs.length))
  | [], k, c, _, _ => by simp [fillV]
  | v :: vs, k, c, h, hl => by
    have hv := h v (by simp)
    have hlen : k + 1 + vs.length ≤ c.length := by simp at hl; omega
    rw [show (v :: vs).length = vs.length + 1 from rfl, List.range'_succ, List.zip_cons_cons, fillV]
    simp only [hv, List.length_singleton, Nat.mul_one]
    rw [if_neg (by omega)]
    have := fillV_ones vs (k + 1) (setAt c k [v]) (fun v hm => h v (List.mem_cons_of_mem _ hm)) (by simp [setAt]; omega)
    simp only [Nat.mul_one] at this
    rw [this]
    congr 1
    have e1 : (setAt c k [v]).take (k + 1) = c.take k ++ [v] := by
      simp only [setAt, List.length_singleton]
      have hk : (c.take k ++ [v]).length = k + 1 := by simp; omega
      rw [List.take_append_of_le_length (by omega), List.take_of_length_le (by omega)]
    have e2 : (setAt c k [v]).drop (k + 1 + vs.length) = c.drop (k + (vs.length + 1)) := by
      simp only [setAt, List.length_singleton]
      have hk : (c.take k ++ [v]).length = k + 1 := by simp; omega
      rw [List.drop_append, hk, List.drop_of_length_le (by omega), List.nil_append, List.drop_drop]
      congr 1; omega
    rw [e1, e2]; simp
theorem chunk_ones : ∀ (vs : List V), (∀ v ∈ vs, v.cells = [v]) → chunk 1 false vs.length vs = vs
  | [], _ => rfl
  | v :: vs, h => by
    rw [List.length_cons, chunk]
    simp only [Bool.false_eq_true, if_false, List.headD_cons, List.drop_succ_cons, List.drop_zero]
    rw [chunk_ones vs (fun v hm => h v (List.mem_cons_of_mem _ hm))]
theorem pbuildSlice_ones {t e : TypeId} {z : V} (vs : List V) (ht : P.underlying t = some (.slice e)) (hsz : szT P e = some 1) (hz : zeroV P e = some z) (hag : aggT P e = some false) (hzc : z.cells.length = 1) (hv : ∀ v ∈ vs, v.cells = [v]) (ho : vs.all V.one = true) (hn : vs.length ≤ 1000000) :
    pbuildSlice P t vs.length ((List.range' 0 vs.length).zip vs) = some (.sl false true vs) := by
  simp only [pbuildSlice, ht, hsz, hz, hag]
  have hr : (repl vs.length z.cells).length = vs.length := by simp [repl, hzc]
  rw [if_pos ⟨by decide, by omega, hzc, .inr trivial⟩, fillV_ones vs 0 _ hv (by omega)]
  simp only [List.take_zero, List.nil_append, Nat.zero_add]
  rw [List.drop_of_length_le (by omega), List.append_nil, if_pos ho, chunk_ones vs hv]
section
variable {ops : Array Oper} {rest : List Oper} {env : Nat → V} {L L' : List Obj} {K : St → Prop} {d : Tmp} {ty t e : TypeId} {pos : String} {af : Array Edge} {len : Nat} {ps : Array (Nat × Operand)} {z : V}
theorem X.bs (vs : List V) (hp : (ps.toList.map fun p => (p.1, St.ev ⟨env, L⟩ p.2)) = (List.range' 0 vs.length).zip vs) (hlen : len = vs.length) (hv : ∀ v ∈ vs, v.cells = [v]) (ho : vs.all V.one = true) (hn : vs.length ≤ 1000000) (hK : XO P Z ops rest (upd env d (.sl false true vs)) L K)
    (ht : P.underlying t = some (.slice e) := by rfl) (hsz : szT P e = some 1 := by rfl) (hz : zeroV P e = some z := by rfl) (hag : aggT P e = some false := by rfl) (hzc : z.cells.length = 1 := by rfl) :
    XO P Z ops (⟨some d, .buildSlice t len ps, ty, pos, af, none⟩ :: rest) env L K := X.go0 (by subst hlen; simp only [pop, hp, pbuildSlice_ones vs ht hsz hz hag hzc hv ho hn]; rfl) hK
theorem A.bs (vs : List V) (hp : (ps.toList.map fun p => (p.1, St.ev ⟨env, L⟩ p.2)) = (List.range' 0 vs.length).zip vs) (hlen : len = vs.length) (hv : ∀ v ∈ vs, v.cells = [v]) (ho : vs.all V.one = true) (hn : vs.length ≤ 1000000) (hK : AO P Z ops rest (upd env d (.sl false true vs)) L K)
    (ht : P.underlying t = some (.slice e) := by rfl) (hsz : szT P e = some 1 := by rfl) (hz : zeroV P e = some z := by rfl) (hag : aggT P e = some false := by rfl) (hzc : z.cells.length = 1 := by rfl) :
    AO P Z ops (⟨some d, .buildSlice t len ps, ty, pos, af, none⟩ :: rest) env L K := A.go0 (by subst hlen; simp only [pop, hp, pbuildSlice_ones vs ht hsz hz hag hzc hv ho hn]; rfl) hK
theorem X.bs0 (hK : XO P Z ops rest (upd env d (.sl false true [])) L K)
    (ht : P.underlying t = some (.slice e) := by rfl) (hsz : szT P e = some 1 := by rfl) (hz : zeroV P e = some z := by rfl) (hag : aggT P e = some false := by rfl) (hzc : z.cells.length = 1 := by rfl) :
    XO P Z ops (⟨some d, .buildSlice t 0 #[], ty, pos, af, none⟩ :: rest) env L K := X.bs [] rfl rfl (by simp) rfl (by simp) hK ht hsz hz hag hzc
theorem A.bs0 (hK : AO P Z ops rest (upd env d (.sl false true [])) L K)
    (ht : P.underlying t = some (.slice e) := by rfl) (hsz : szT P e = some 1 := by rfl) (hz : zeroV P e = some z := by rfl) (hag : aggT P e = some false := by rfl) (hzc : z.cells.length = 1 := by rfl) :
    AO P Z ops (⟨some d, .buildSlice t 0 #[], ty, pos, af, none⟩ :: rest) env L K := A.bs [] rfl rfl (by simp) rfl (by simp) hK ht hsz hz hag hzc
theorem X.bs1 {x : Operand} {v : V} (hx : St.ev ⟨env, L⟩ x = v) (hK : XO P Z ops rest (upd env d (.sl false true [v])) L K) (hv : v.cells = [v] := by rfl) (ho : v.one = true := by rfl)
    (ht : P.underlying t = some (.slice e) := by rfl) (hsz : szT P e = some 1 := by rfl) (hz : zeroV P e = some z := by rfl) (hag : aggT P e = some false := by rfl) (hzc : z.cells.length = 1 := by rfl) :
    XO P Z ops (⟨some d, .buildSlice t 1 #[(0, x)], ty, pos, af, none⟩ :: rest) env L K := X.bs [v] (by simp [hx]) rfl (by simp [hv]) (by simp [ho]) (by simp) hK ht hsz hz hag hzc
theorem A.bs1 {x : Operand} {v : V} (hx : St.ev ⟨env, L⟩ x = v) (hK : AO P Z ops rest (upd env d (.sl false true [v])) L K) (hv : v.cells = [v] := by rfl) (ho : v.one = true := by rfl)
    (ht : P.underlying t = some (.slice e) := by rfl) (hsz : szT P e = some 1 := by rfl) (hz : zeroV P e = some z := by rfl) (hag : aggT P e = some false := by rfl) (hzc : z.cells.length = 1 := by rfl) :
    AO P Z ops (⟨some d, .buildSlice t 1 #[(0, x)], ty, pos, af, none⟩ :: rest) env L K := A.bs [v] (by simp [hx]) rfl (by simp [hv]) (by simp [ho]) (by simp) hK ht hsz hz hag hzc
end
theorem elems_bslA {L : List Obj} {id len : Nat} {α : Type} {g : α → V} {l : List α} (hL : L[id]? = some (.box (l.map g))) (hn : l.length = len) : elems L (.bsl id 0 len) = some (l.map g) := by
  simp only [elems, hL]
  rw [if_pos (by simp; omega), List.drop_zero, List.take_of_length_le (by simp; omega)]
section
variable {ops : Array Oper} {rest : List Oper} {env : Nat → V} {L L' : List Obj} {K : St → Prop} {d : Tmp} {ty t e u : TypeId} {pos : String} {af : Array Edge} {s x : Operand} {ats : Array TypeId} {α : Type} [Inhabited α] {g : α → V} {nl : Bool}
/-- append onto an empty slice without room; the result is frozen. -/
theorem X.apF0 (l2 : List α) (hs : St.ev ⟨env, L⟩ s = .sl nl true []) (hx : elems L (St.ev ⟨env, L⟩ x) = some (l2.map g)) (hg : ∀ a, (g a).cells = [g a]) (ho : ∀ a, (g a).one = true) (hb : l2.length ≤ 1000000000)
    (hK : XO P Z ops rest (upd env d (.sl false false (l2.map g))) L' K) (hL' : L ++ [.buf 1 l2.length (l2.map g)] = L' := by ((try simp only [List.set_cons_zero, List.set_cons_succ, List.cons_append, List.nil_append]) <;> rfl))
    (ht : ats[0]? = some t := by rfl) (hu : ats[1]? = some u := by rfl) (hd : (match P.underlying u with | some (.slice _) => true | some .string => true | _ => false) = true := by rfl)
    (hte : P.underlying t = some (.slice e) := by rfl) (hsz : szT P e = some 1 := by rfl) {z : V} (hz : zeroV P e = some z := by rfl) (hzc : z.cells.length = 1 := by rfl) (hbt : byT P e ≤ 1000 := by decide +kernel) :
    XO P Z ops (⟨some d, .call ⟨.builtin .append, #[s, x], ats⟩, ty, pos, af, none⟩ :: rest) env L K :=
  X.apF (g := g) [] l2 hs hx hg ho (by simpa using hb) (by simpa using hK) (by simpa using hL') ht hu hd hte hsz hz hzc hbt
end
theorem cutv_data {N : Nat} : ∀ {v : V}, V.plain v = true → V.cutv N v = v := by
  intro v
  refine V.rec (motive_1 := fun v => V.plain v = true → V.cutv N v = v) (motive_2 := fun vs => V.plains vs = true → V.cutvs N vs = vs) ?_ ?_ ?_ ?_ ?_ ?_ ?_ ?_ ?_ ?_ ?_ ?_ ?_ ?_ ?_ ?_ ?_ ?_ ?_ ?_ v <;>
    intros <;> simp_all [V.plain, V.plains, V.cutv, V.cutvs]
end Go.Pv
end
section
/- Slices that are made with a length, and filled. -/
set_option linter.unusedVariables false
set_option linter.unusedSimpArgs false
set_option linter.unusedSectionVars false
namespace Go.Pv
variable {P : Program} {Z : Nat → Go.Obj → Prop}
section
variable {ops : Array Oper} {rest : List Oper} {env : Nat → V} {L L' : List Obj} {K : St → Prop} {d : Tmp} {ty t e : TypeId} {pos : String} {af : Array Edge} {x y i len cap : Operand} {α : Type} [Inhabited α] {g : α → V} {l : List α} {id sz m n w : Nat} {c : Int} {k : IntKind} {a : α}
theorem X.mk (a : α) (w : Nat) (hl : St.ev ⟨env, L⟩ len = .int .i64 (w : Int)) (hc : St.ev ⟨env, L⟩ cap = .int .i64 (w : Int)) (hw : w ≤ 1000000) (hK : XO P Z ops rest (upd env d (.own L.length 0 w w)) L' K) (hL' : L ++ [.buf sz 0 ((List.replicate w a).map g)] = L' := by ((try simp only [List.cons_append, List.nil_append]) <;> rfl))
    (hte : P.underlying t = some (.slice e) := by rfl) (hsz : szT P e = some sz := by rfl) (hz : zeroV P e = some (g a) := by rfl) (h0 : 0 < sz := by decide) (hzc : (g a).cells.length = sz := by rfl) (hbt : byT P e ≤ 1000 := by decide +kernel) :
    XO P Z ops (⟨some d, .makeSlice t len cap, ty, pos, af, none⟩ :: rest) env L K := X.go0 (by
      subst hL'
      have hb : (byT P e : Int) * (w : Int) ≤ 281474976710656 := by
        have : byT P e * w ≤ 1000 * 1000000 := Nat.mul_le_mul hbt hw
        have h2 : ((byT P e * w : Nat) : Int) = (byT P e : Int) * (w : Int) := Int.natCast_mul _ _
        omega
      simp only [pop, pmakeSlice, hte, hl, hc, hsz, hz]
      rw [if_pos ⟨h0, hzc, by omega, by omega, by omega, hb⟩]
      simp) hK
theorem pop_iaN (hx : St.ev ⟨env, L⟩ x = .own id 0 n n) (hi : St.ev ⟨env, L⟩ i = .int k c) (h : 0 ≤ c ∧ c < (n : Int)) (hL : L[id]? = some (.buf sz m (l.map g))) (hn : l.length = n) (hte : P.underlying t = some (.slice e)) (hsz : szT P e = some sz) :
    pop P L (St.ev ⟨env, L⟩) (.indexAddr t x i) = some (.eref id n c.toNat 0, L) := by
  have := pop_iao (n := c.toNat) hte hsz hx (by rw [hi, Int.toNat_of_nonneg h.1]) hL (by simp [hn]) (by omega)
  rw [this, Nat.zero_add]
theorem X.iaN (hx : St.ev ⟨env, L⟩ x = .own id 0 n n) (hi : St.ev ⟨env, L⟩ i = .int k c) (h : 0 ≤ c ∧ c < (n : Int)) (hL : L[id]? = some (.buf sz m (l.map g))) (hn : l.length = n) (hK : XO P Z ops rest (upd env d (.eref id n c.toNat 0)) L K)
    (hte : P.underlying t = some (.slice e) := by rfl) (hsz : szT P e = some sz := by rfl) :
    XO P Z ops (⟨some d, .indexAddr t x i, ty, pos, af, none⟩ :: rest) env L K := X.go0 (pop_iaN hx hi h hL hn hte hsz) hK
theorem A.iaN (hx : St.ev ⟨env, L⟩ x = .own id 0 n n) (hi : St.ev ⟨env, L⟩ i = .int k c) (h : 0 ≤ c ∧ c < (n : Int)) (hL : L[id]? = some (.buf sz m (l.map g))) (hn : l.length = n) (hK : AO P Z ops rest (upd env d (.eref id n c.toNat 0)) L K)
    (hte : P.underlying t = some (.slice e) := by rfl) (hsz : szT P e = some sz := by rfl) :
    AO P Z ops (⟨some d, .indexAddr t x i, ty, pos, af, none⟩ :: rest) env L K := A.go0 (pop_iaN hx hi h hL hn hte hsz) hK
theorem pop_ldN (hx : St.ev ⟨env, L⟩ x = .eref id n c.toNat 0) (hL : L[id]? = some (.buf sz m (l.map g))) (h : 0 ≤ c ∧ c < (l.length : Int)) (hn : l.length = n) (hsz : szT P t = some 1) (ha : aggT P t = some false) (hy : (g (rd l c)).cells = [g (rd l c)]) :
    pop P L (St.ev ⟨env, L⟩) (.load t x) = some (g (rd l c), L) := pop_lde hx hL (by simp [hn]) (map_rd h) hsz ha hy
theorem X.ldN (hx : St.ev ⟨env, L⟩ x = .eref id n c.toNat 0) (hL : L[id]? = some (.buf sz m (l.map g))) (h : 0 ≤ c ∧ c < (l.length : Int)) (hn : l.length = n) (hK : XO P Z ops rest (upd env d (g (rd l c))) L K)
    (hsz : szT P t = some 1 := by rfl) (ha : aggT P t = some false := by rfl) (hy : (g (rd l c)).cells = [g (rd l c)] := by rfl) :
    XO P Z ops (⟨some d, .load t x, ty, pos, af, none⟩ :: rest) env L K := X.go0 (pop_ldN hx hL h hn hsz ha hy) hK
theorem A.ldN (hx : St.ev ⟨env, L⟩ x = .eref id n c.toNat 0) (hL : L[id]? = some (.buf sz m (l.map g))) (h : 0 ≤ c ∧ c < (l.length : Int)) (hn : l.length = n) (hK : AO P Z ops rest (upd env d (g (rd l c))) L K)
    (hsz : szT P t = some 1 := by rfl) (ha : aggT P t = some false := by rfl) (hy : (g (rd l c)).cells = [g (rd l c)] := by rfl) :
    AO P Z ops (⟨some d, .load t x, ty, pos, af, none⟩ :: rest) env L K := A.go0 (pop_ldN hx hL h hn hsz ha hy) hK
theorem X.stN (a : α) (hx : St.ev ⟨env, L⟩ x = .eref id n c.toNat 0) (hL : L[id]? = some (.buf 1 0 (l.map g))) (hy : St.ev ⟨env, L⟩ y = g a) (h : 0 ≤ c ∧ c < (l.length : Int)) (hn : l.length = n) (hc : ∀ b, (g b).cells = [g b])
    (hK : XO P Z ops rest env L' K) (hL' : L.set id (.buf 1 0 ((l.set c.toNat a).map g)) = L' := by ((try simp only [List.set_cons_zero, List.set_cons_succ, List.cons_append, List.nil_append]) <;> rfl)) (hsz : szT P t = some 1 := by rfl) (ho : (g a).one = true := by rfl) :
    XO P Z ops (⟨none, .store t x y, ty, pos, af, none⟩ :: rest) env L K := X.st0 (by rw [← hL']; exact pop_stO (by rw [hx, ← hn]; simp) hy hL h hsz rfl hc ho) hK
theorem X.lnN (hx : St.ev ⟨env, L⟩ x = .own id 0 n n) {ats : Array TypeId} (hK : XO P Z ops rest (upd env d (.int .i64 (n : Nat))) L K) (ht : ats[0]? = some t := by rfl) (hu : P.underlying t = some (.slice e) := by rfl) :
    XO P Z ops (⟨some d, .call ⟨.builtin .len, #[x], ats⟩, ty, pos, af, none⟩ :: rest) env L K := X.go0 (by simp [pop, pbuiltin, hx, ht, hu]) hK
theorem frz_ownN {kk : Nat} (hL : L[id]? = some (.buf sz m (l.map g))) (hk : kk ≤ id) (hn : l.length = n) (hl : V.lts 0 (l.map g) = true) : frz1 kk L (.own id 0 n n) = some (.sl false false (l.map g)) := by
  have : n = (l.map g).length := by simp [hn]
  rw [this]; exact frz_own hL hk hl
theorem X.min2 {ats : Array TypeId} {p q : Int} (hx : St.ev ⟨env, L⟩ x = .int k p) (hy : St.ev ⟨env, L⟩ y = .int k q) (hK : XO P Z ops rest (upd env d (.int k (min p q))) L K) :
    XO P Z ops (⟨some d, .call ⟨.builtin .min, #[x, y], ats⟩, ty, pos, af, none⟩ :: rest) env L K := X.go0 (by
      simp only [pop, pbuiltin, List.map_cons, List.map_nil, hx, hy, pminmax, pmm]
      have : (if q < p then q else p) = min p q := by rw [Int.min_def]; split <;> split <;> omega
      simp [this]) hK
theorem X.max2 {ats : Array TypeId} {p q : Int} (hx : St.ev ⟨env, L⟩ x = .int k p) (hy : St.ev ⟨env, L⟩ y = .int k q) (hK : XO P Z ops rest (upd env d (.int k (max p q))) L K) :
    XO P Z ops (⟨some d, .call ⟨.builtin .max, #[x, y], ats⟩, ty, pos, af, none⟩ :: rest) env L K := X.go0 (by
      simp only [pop, pbuiltin, List.map_cons, List.map_nil, hx, hy, pminmax, pmm]
      have : (if q > p then q else p) = max p q := by rw [Int.max_def]; split <;> split <;> omega
      simp [this]) hK
theorem A.min2 {ats : Array TypeId} {p q : Int} (hx : St.ev ⟨env, L⟩ x = .int k p) (hy : St.ev ⟨env, L⟩ y = .int k q) (hK : AO P Z ops rest (upd env d (.int k (min p q))) L K) :
    AO P Z ops (⟨some d, .call ⟨.builtin .min, #[x, y], ats⟩, ty, pos, af, none⟩ :: rest) env L K := A.go0 (by
      simp only [pop, pbuiltin, List.map_cons, List.map_nil, hx, hy, pminmax, pmm]
      have : (if q < p then q else p) = min p q := by rw [Int.min_def]; split <;> split <;> omega
      simp [this]) hK
theorem A.max2 {ats : Array TypeId} {p q : Int} (hx : St.ev ⟨env, L⟩ x = .int k p) (hy : St.ev ⟨env, L⟩ y = .int k q) (hK : AO P Z ops rest (upd env d (.int k (max p q))) L K) :
    AO P Z ops (⟨some d, .call ⟨.builtin .max, #[x, y], ats⟩, ty, pos, af, none⟩ :: rest) env L K := A.go0 (by
      simp only [pop, pbuiltin, List.map_cons, List.map_nil, hx, hy, pminmax, pmm]
      have : (if q > p then q else p) = max p q := by rw [Int.max_def]; split <;> split <;> omega
      simp [this]) hK
end
end Go.Pv
end
section
/- Slices that grow out of exact ones; bytes as strings. -/
set_option linter.unusedVariables false
set_option linter.unusedSimpArgs false
set_option linter.unusedSectionVars false
namespace Go.Pv
variable {P : Program} {Z : Nat → Go.Obj → Prop}
section
variable {r : Option Nat} {n : Nat} {Q : Ex → St → Prop} {env : Nat → V} {L : List Obj} {c : Code}
/-- A slice without room, seen as one that grows; what is there stays. -/
theorem W.ownify (t sz : Nat) {xs : List V} (h : env t = .sl false true xs) (hsz : ∀ x ∈ xs, x.cells.length = sz) (h0 : 0 < sz) (hK : CW P Z r n c Q (upd env t (.own L.length 0 xs.length xs.length)) (L ++ [.buf sz xs.length xs])) (htn0 : decide (t < n) = true := by kernel_rfl) : CW P Z r n c Q env L := by
  refine ⟨?_⟩
  intro N0 G a w hN hs
  by_cases htn : t < n
  · have hv := hs.tm t htn
    simp only at hv
    rw [h] at hv
    obtain ⟨B, O, A, hA, hext⟩ : ∃ B O A, a.tmps.getD t undef = .slice A xs.length xs.length ∧ ((xs = [] ∨ A = some ⟨B, O, none⟩) ∧ ∃ vs : Nat → Value, ∀ p (hp : p < (flat xs).length), G.K B (O + p) (vs p) ∧ VR G (flat xs)[p] (vs p)) := by
      generalize a.tmps.getD t undef = u at hv
      cases hv with
      | sl0 hx => exact ⟨0, 0, _, by rw [hx rfl]; rfl, .inl rfl, fun _ => undef, fun p hp => by simp [flat] at hp⟩
      | sl sz' vs hne hx hc hsz' hk hv =>
        exact ⟨_, _, _, by rw [hx rfl], .inr rfl, vs, fun p hp => ⟨hk p hp, hv p hp⟩⟩
    obtain ⟨hA2, hvs⟩ := hext
    obtain ⟨hr1, he1⟩ := hs.rel.addExt (sz := sz) (B := B) (O := O) (xs := xs) hsz hvs
    refine (hK.out N0 _ a w hN (hs.rel' hr1 fun i hi => ?_)).mono fun e a' w' ⟨st', G', h1, h2, h3⟩ => ⟨st', G', h1, h2, he1.trans h3⟩
    unfold upd
    split
    · rename_i hit; subst hit
      rw [hA]
      refine .own (loc := .ext B O sz) (Gh.addR_self _ _ _ _) (by omega) ⟨by omega, ?_⟩
      rcases hA2 with h | h
      · exact .inl (by rw [h]; rfl)
      · exact .inr (by rw [h]; simp)
    · exact (hs.tm i hi).mono he1.le
  · exact absurd (of_decide_eq_true htn0) htn
end
section
variable {ops : Array Oper} {rest : List Oper} {env : Nat → V} {L L' : List Obj} {K : St → Prop} {d : Tmp} {ty t e u : TypeId} {pos : String} {af : Array Edge} {s x : Operand} {ats : Array TypeId} {α : Type} [Inhabited α] {g : α → V} {nl ex : Bool} {l : List UInt8} {id sz m : Nat}
/-- append onto an empty slice without room: an own one. -/
theorem X.apO (l2 : List α) (hs : St.ev ⟨env, L⟩ s = .sl nl true []) (hx : elems L (St.ev ⟨env, L⟩ x) = some (l2.map g)) (hg : ∀ a, (g a).cells = [g a]) (ho : ∀ a, (g a).one = true) (hb : l2.length ≤ 1000000000)
    (hK : XO P Z ops rest (upd env d (.own L.length 0 (l2.map g).length (l2.map g).length)) L' K) (hL' : L ++ [.buf 1 0 (l2.map g)] = L' := by ((try simp only [List.cons_append, List.nil_append]) <;> rfl))
    (ht : ats[0]? = some t := by rfl) (hu : ats[1]? = some u := by rfl) (hd : (match P.underlying u with | some (.slice _) => true | some .string => true | _ => false) = true := by rfl)
    (hte : P.underlying t = some (.slice e) := by rfl) (hsz : szT P e = some 1 := by rfl) {z : V} (hz : zeroV P e = some z := by rfl) (hzc : z.cells.length = 1 := by rfl) (hbt : byT P e ≤ 1000 := by decide +kernel) :
    XO P Z ops (⟨some d, .call ⟨.builtin .append, #[s, x], ats⟩, ty, pos, af, none⟩ :: rest) env L K := by
  subst hL'
  have h := pop_app_sl (P := P) (env := env) (L := L) (ats := ats) (x := x) (s := s) (sz := 1) (xs := []) ht hu hd hte hsz hz hzc (by decide) hs (by simp) hx (by simp [hg, ho]) (by
    simp only [List.length_map, List.length_nil, Nat.zero_add]
    have : l2.length * byT P e ≤ 1000000000 * 1000 := Nat.mul_le_mul hb hbt
    omega) (by simp only [List.length_map, List.length_nil]; omega)
  simp only [List.length_nil, Nat.zero_add, List.nil_append] at h
  exact X.go0 h hK
theorem X.apON (n : Nat) (l2 : List α) (hn : l2.length = n) (hs : St.ev ⟨env, L⟩ s = .sl nl true []) (hx : elems L (St.ev ⟨env, L⟩ x) = some (l2.map g)) (hg : ∀ a, (g a).cells = [g a]) (ho : ∀ a, (g a).one = true) (hb : n ≤ 1000000000)
    (hK : XO P Z ops rest (upd env d (.own L.length 0 n n)) L' K) (hL' : L ++ [.buf 1 0 (l2.map g)] = L' := by ((try simp only [List.cons_append, List.nil_append]) <;> rfl))
    (ht : ats[0]? = some t := by rfl) (hu : ats[1]? = some u := by rfl) (hd : (match P.underlying u with | some (.slice _) => true | some .string => true | _ => false) = true := by rfl)
    (hte : P.underlying t = some (.slice e) := by rfl) (hsz : szT P e = some 1 := by rfl) {z : V} (hz : zeroV P e = some z := by rfl) (hzc : z.cells.length = 1 := by rfl) (hbt : byT P e ≤ 1000 := by decide +kernel) :
    XO P Z ops (⟨some d, .call ⟨.builtin .append, #[s, x], ats⟩, ty, pos, af, none⟩ :: rest) env L K :=
  X.apO l2 hs hx hg ho (by omega) (by rw [show (l2.map g).length = n by simp [hn]]; exact hK) hL' ht hu hd hte hsz hz hzc hbt
theorem elems_ownN {n m : Nat} {l2 : List α} (hL : L[id]? = some (.buf sz m (l2.map g))) (hn : l2.length = n) : elems L (.own id 0 n n) = some (l2.map g) := by
  have := elems_own (g := g) (l := l2) hL
  rwa [show (l2.map g).length = n by simp [hn]] at this
/-- More elements onto an own slice, which is frozen then. -/
theorem X.apLF (l l2 : List α) (hs : St.ev ⟨env, L⟩ s = .own id 0 (l.map g).length (l.map g).length) (hL : L[id]? = some (.buf 1 m (l.map g))) (hx : elems L (St.ev ⟨env, L⟩ x) = some (l2.map g)) (hg : ∀ a, (g a).cells = [g a]) (ho : ∀ a, (g a).one = true) (hb : l.length + l2.length ≤ 1000000000)
    (hK : XO P Z ops rest (upd env d (.sl false false ((l ++ l2).map g))) L' K) (hL' : L.set id (.buf 1 (l ++ l2).length ((l ++ l2).map g)) = L' := by ((try simp only [List.set_cons_zero, List.set_cons_succ, List.cons_append, List.nil_append]) <;> rfl))
    (ht : ats[0]? = some t := by rfl) (hu : ats[1]? = some u := by rfl) (hd : (match P.underlying u with | some (.slice _) => true | some .string => true | _ => false) = true := by rfl)
    (hte : P.underlying t = some (.slice e) := by rfl) (hsz : szT P e = some 1 := by rfl) {z : V} (hz : zeroV P e = some z := by rfl) (hzc : z.cells.length = 1 := by rfl) (hbt : byT P e ≤ 1000 := by decide +kernel) :
    XO P Z ops (⟨some d, .call ⟨.builtin .append, #[s, x], ats⟩, ty, pos, af, none⟩ :: rest) env L K := by
  subst hL'
  have h := pop_app_own (P := P) (env := env) (L := L) (ats := ats) (x := x) (s := s) ht hu hd hte hsz hz hzc (by decide) hs hL hx (by simp [hg, ho]) (by
    simp only [List.length_map]
    have : (l.length + l2.length) * byT P e ≤ 1000000000 * 1000 := Nat.mul_le_mul hb hbt
    omega) (by simp only [List.length_map]; omega)
  have hlen : (l.map g).length + (l2.map g).length = (l.map g ++ l2.map g).length := by simp
  rw [hlen] at h
  have hlt := (List.getElem?_eq_some_iff.1 hL).1
  refine X.goF (sz := 1) (m := m) h (by rw [List.getElem?_set_self hlt]) ?_
  have e1 : ((l.map g ++ l2.map g).drop 0).take (l.map g ++ l2.map g).length = (l ++ l2).map g := by
    rw [List.drop_zero, List.take_of_length_le (Nat.le_refl _), List.map_append]
  have e2 : (L.set id (Obj.buf 1 m (l.map g ++ l2.map g))).set id (.buf 1 (l.map g ++ l2.map g).length (l.map g ++ l2.map g)) = L.set id (.buf 1 (l ++ l2).length ((l ++ l2).map g)) := by
    simp
  rw [e1, e2]; exact hK
/-- A part of a slice that is read. -/
theorem pop_sl2 {l1 : List α} {lo hi : Operand} {p q : Int} {k k' : IntKind} (hx : St.ev ⟨env, L⟩ x = .sl false false (l1.map g)) (hlo : St.ev ⟨env, L⟩ lo = .int k p) (hhi : St.ev ⟨env, L⟩ hi = .int k' q) (h : 0 ≤ p ∧ p ≤ q ∧ q ≤ (l1.length : Int)) (hg : ∀ a, (g a).cells.length = sz) (hte : P.underlying t = some (.slice e)) (hsz : szT P e = some sz) :
    pop P L (St.ev ⟨env, L⟩) (.slice t x (some lo) (some hi) none) = some (.sl false false (((l1.take q.toNat).drop p.toNat).map g), L) := by
  simp only [pop, Option.map_some, Option.map_none, pslice, hte, hx, hsz, hlo, hhi]
  have h1 : (l1.map g).all (fun y => y.cells.length == sz) = true := by simp [hg]
  have h2 : (0 : Int) ≤ q := by omega
  have h3 : p.toNat ≤ q.toNat ∧ q.toNat ≤ (l1.map g).length := by simp; omega
  rw [if_pos h1]
  simp only [pbounds, toNat?, h.1, h2, if_true]
  rw [if_pos h3]
  simp [List.map_take, List.map_drop]
theorem X.sl2 {l1 : List α} {lo hi : Operand} {p q : Int} {k k' : IntKind} (hx : St.ev ⟨env, L⟩ x = .sl false false (l1.map g)) (hlo : St.ev ⟨env, L⟩ lo = .int k p) (hhi : St.ev ⟨env, L⟩ hi = .int k' q) (h : 0 ≤ p ∧ p ≤ q ∧ q ≤ (l1.length : Int)) (hg : ∀ a, (g a).cells.length = sz)
    (hK : XO P Z ops rest (upd env d (.sl false false (((l1.take q.toNat).drop p.toNat).map g))) L K) (hte : P.underlying t = some (.slice e) := by rfl) (hsz : szT P e = some sz := by rfl) :
    XO P Z ops (⟨some d, .slice t x (some lo) (some hi) none, ty, pos, af, none⟩ :: rest) env L K := X.go0 (pop_sl2 hx hlo hhi h hg hte hsz) hK
theorem A.sl2 {l1 : List α} {lo hi : Operand} {p q : Int} {k k' : IntKind} (hx : St.ev ⟨env, L⟩ x = .sl false false (l1.map g)) (hlo : St.ev ⟨env, L⟩ lo = .int k p) (hhi : St.ev ⟨env, L⟩ hi = .int k' q) (h : 0 ≤ p ∧ p ≤ q ∧ q ≤ (l1.length : Int)) (hg : ∀ a, (g a).cells.length = sz)
    (hK : AO P Z ops rest (upd env d (.sl false false (((l1.take q.toNat).drop p.toNat).map g))) L K) (hte : P.underlying t = some (.slice e) := by rfl) (hsz : szT P e = some sz := by rfl) :
    AO P Z ops (⟨some d, .slice t x (some lo) (some hi) none, ty, pos, af, none⟩ :: rest) env L K := A.go0 (pop_sl2 hx hlo hhi h hg hte hsz) hK
theorem toBytes_map : ∀ l : List UInt8, toBytes (l.map g8) = some l
  | [] => rfl
  | a :: l => by
    rw [List.map_cons]
    show (toBytes (l.map g8)).map (UInt8.ofNat ((a.toNat : Int)).toNat :: ·) = _
    rw [toBytes_map l]
    simp
theorem pop_cvS {a b : TypeId} (hx : elems L (St.ev ⟨env, L⟩ x) = some (l.map g8)) (hs : P.underlying a = some (.slice e)) (he : P.underlying e = some (.int .u8)) (hsz : szT P e = some 1) (hb : P.underlying b = some .string) (hv : ∀ s, St.ev ⟨env, L⟩ x ≠ .str s) (hi : ∀ k n, St.ev ⟨env, L⟩ x ≠ .int k n) :
    pop P L (St.ev ⟨env, L⟩) (.convert a b x) = some (.str ⟨l.toArray⟩, L) := by
  generalize hev : St.ev ⟨env, L⟩ x = v at *
  have : pconv P L a b v = some (.str ⟨l.toArray⟩) := by
    unfold pconv
    rw [hs, hb]
    cases v <;> first | (simp [he, hsz, hx, toBytes_map]; done) | exact absurd rfl (hv _) | (simp [elems] at hx)
  simp [pop, hev, this]
theorem X.cvS {a b : TypeId} (hx : St.ev ⟨env, L⟩ x = .sl nl ex (l.map g8)) (hK : XO P Z ops rest (upd env d (.str ⟨l.toArray⟩)) L K) (hs : P.underlying a = some (.slice e) := by rfl) (he : P.underlying e = some (.int .u8) := by rfl) (hsz : szT P e = some 1 := by rfl) (hb : P.underlying b = some .string := by rfl) :
    XO P Z ops (⟨some d, .convert a b x, ty, pos, af, none⟩ :: rest) env L K := X.go0 (pop_cvS (by rw [hx]; rfl) hs he hsz hb (by rw [hx]; simp) (by rw [hx]; simp)) hK
theorem A.cvS {a b : TypeId} (hx : St.ev ⟨env, L⟩ x = .sl nl ex (l.map g8)) (hK : AO P Z ops rest (upd env d (.str ⟨l.toArray⟩)) L K) (hs : P.underlying a = some (.slice e) := by rfl) (he : P.underlying e = some (.int .u8) := by rfl) (hsz : szT P e = some 1 := by rfl) (hb : P.underlying b = some .string := by rfl) :
    AO P Z ops (⟨some d, .convert a b x, ty, pos, af, none⟩ :: rest) env L K := A.go0 (pop_cvS (by rw [hx]; rfl) hs he hsz hb (by rw [hx]; simp) (by rw [hx]; simp)) hK
theorem str_eq (l l' : List UInt8) : decide ((⟨l.toArray⟩ : ByteArray) = ⟨l'.toArray⟩) = decide (l = l') := by
  by_cases h : l = l'
  · subst h; simp
  · rw [decide_eq_false h, decide_eq_false]
    intro he
    exact h (by have := congrArg (fun b : ByteArray => b.data.toList) he; simpa using this)
end
theorem frzN {L : List Obj} {id sz m n kk : Nat} {α : Type} {g : α → V} {l : List α} (hL : L[id]? = some (.buf sz m (l.map g))) (hk : kk ≤ id) (hn : l.length = n) (hl : V.lts 0 (l.map g) = true) : frz kk L (.own id 0 n n) = some (.sl false false (l.map g)) := by
  have : n = (l.map g).length := by simp [hn]
  rw [frz, this]
  · exact frz_own hL hk hl
  · simp
  · simp
end Go.Pv
end
section
/- Strings: parts, one behind the other. -/
set_option linter.unusedVariables false
set_option linter.unusedSimpArgs false
set_option linter.unusedSectionVars false
namespace Go.Pv
variable {P : Program} {Z : Nat → Go.Obj → Prop}
section
variable {ops : Array Oper} {rest : List Oper} {env : Nat → V} {L L' : List Obj} {K : St → Prop} {d : Tmp} {ty t t' : TypeId} {pos : String} {af : Array Edge} {x y lo hi : Operand} {s s' : ByteArray} {p q : Int} {k k' : IntKind}
theorem pop_slT (hx : St.ev ⟨env, L⟩ x = .str s) (hlo : St.ev ⟨env, L⟩ lo = .int k p) (hhi : St.ev ⟨env, L⟩ hi = .int k' q) (h : 0 ≤ p ∧ p ≤ q ∧ q ≤ (s.size : Int)) (ht : P.underlying t = some .string) :
    pop P L (St.ev ⟨env, L⟩) (.slice t x (some lo) (some hi) none) = some (.str (s.extract p.toNat q.toNat), L) := by
  have h2 : (0 : Int) ≤ q := by omega
  have h3 : p.toNat ≤ q.toNat ∧ q.toNat ≤ s.size := by omega
  simp only [pop, Option.map_some, Option.map_none, pslice, ht, hx, hlo, hhi, pbounds, toNat?, h.1, h2, if_true]
  rw [if_pos h3]; rfl
theorem X.slT (hx : St.ev ⟨env, L⟩ x = .str s) (hlo : St.ev ⟨env, L⟩ lo = .int k p) (hhi : St.ev ⟨env, L⟩ hi = .int k' q) (h : 0 ≤ p ∧ p ≤ q ∧ q ≤ (s.size : Int)) (hK : XO P Z ops rest (upd env d (.str (s.extract p.toNat q.toNat))) L K) (ht : P.underlying t = some .string := by rfl) :
    XO P Z ops (⟨some d, .slice t x (some lo) (some hi) none, ty, pos, af, none⟩ :: rest) env L K := X.go0 (pop_slT hx hlo hhi h ht) hK
theorem A.slT (hx : St.ev ⟨env, L⟩ x = .str s) (hlo : St.ev ⟨env, L⟩ lo = .int k p) (hhi : St.ev ⟨env, L⟩ hi = .int k' q) (h : 0 ≤ p ∧ p ≤ q ∧ q ≤ (s.size : Int)) (hK : AO P Z ops rest (upd env d (.str (s.extract p.toNat q.toNat))) L K) (ht : P.underlying t = some .string := by rfl) :
    AO P Z ops (⟨some d, .slice t x (some lo) (some hi) none, ty, pos, af, none⟩ :: rest) env L K := A.go0 (pop_slT hx hlo hhi h ht) hK
theorem X.adT (hx : St.ev ⟨env, L⟩ x = .str s) (hy : St.ev ⟨env, L⟩ y = .str s') (h : s.size + s'.size ≤ 9223372036854775807) (hK : XO P Z ops rest (upd env d (.str (s ++ s'))) L K) :
    XO P Z ops (⟨some d, .binOp .add t x y t', ty, pos, af, none⟩ :: rest) env L K := X.go0 (by simp only [pop, hx, hy, pbin, pstr, if_pos h]; rfl) hK
theorem A.adT (hx : St.ev ⟨env, L⟩ x = .str s) (hy : St.ev ⟨env, L⟩ y = .str s') (h : s.size + s'.size ≤ 9223372036854775807) (hK : AO P Z ops rest (upd env d (.str (s ++ s'))) L K) :
    AO P Z ops (⟨some d, .binOp .add t x y t', ty, pos, af, none⟩ :: rest) env L K := A.go0 (by simp only [pop, hx, hy, pbin, pstr, if_pos h]; rfl) hK
end
/-- Bytes, as a string. -/
def bS (l : List UInt8) : ByteArray := ⟨l.toArray⟩
theorem bS_size (l : List UInt8) : (bS l).size = l.length := by simp [bS, ByteArray.size]
theorem bS_app (l l' : List UInt8) : bS l ++ bS l' = bS (l ++ l') := by
  apply ByteArray.ext
  simp [bS]
theorem bS_ext (l : List UInt8) (a b : Nat) : (bS l).extract a b = bS ((l.take b).drop a) := by
  apply ByteArray.ext
  simp [bS, ByteArray.data_extract, List.extract_toArray, List.drop_take]
theorem bS_inj {l l' : List UInt8} (h : bS l = bS l') : l = l' := by
  have := congrArg (fun b : ByteArray => b.data.toList) h
  simpa [bS] using this
end Go.Pv
end
