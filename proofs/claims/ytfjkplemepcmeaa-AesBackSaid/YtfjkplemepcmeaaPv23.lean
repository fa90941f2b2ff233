import Derived.Test.YtfjkplemepcmeaaPv22
set_option linter.unusedVariables false
set_option linter.unusedSimpArgs false
set_option linter.unusedSectionVars false
/- Reading an element at an index that is no numeral. -/
namespace Go.Pv
variable {P : Program} {Z : Nat → Go.Obj → Prop} {env : Nat → V} {L L' : List Obj} {ops : Array Oper} {rest : List Oper} {K : St → Prop} {d : Tmp}
  {ty t e u : TypeId} {pos : String} {af : Array Edge} {x i : Operand} {id sz m gen len off n j : Nat} {xs ys : List V} {y z : V} {k : IntKind} {nl ex : Bool}
theorem pop_ias (hte : P.underlying t = some (.slice e)) (hsz : szT P e = some sz) (hx : St.ev ⟨env, L⟩ x = .sl nl ex xs) (hi : St.ev ⟨env, L⟩ i = .int k (n : Int)) (hn : xs[n]? = some y) (hy : y.cells.length = sz) :
    pop P L (St.ev ⟨env, L⟩) (.indexAddr t x i) = some (.cref y.cells, L) := by
  simp [pop, pindexAddr, hte, hx, hi, toNat?, hsz, hn, hy]
theorem pop_iao (hte : P.underlying t = some (.slice e)) (hsz : szT P e = some sz) (hx : St.ev ⟨env, L⟩ x = .own id off len gen) (hi : St.ev ⟨env, L⟩ i = .int k (n : Int)) (hL : L[id]? = some (.buf sz m xs)) (hg : gen = xs.length) (hn : n < len) :
    pop P L (St.ev ⟨env, L⟩) (.indexAddr t x i) = some (.eref id gen (off + n) 0, L) := by
  simp [pop, pindexAddr, hte, hx, hi, toNat?, hsz, hL, hg, hn]
theorem pop_lde (hx : St.ev ⟨env, L⟩ x = .eref id gen n 0) (hL : L[id]? = some (.buf sz m xs)) (hg : gen = xs.length) (hn : xs[n]? = some y) (hsz : szT P t = some 1) (ha : aggT P t = some false) (hy : y.cells = [y]) :
    pop P L (St.ev ⟨env, L⟩) (.load t x) = some (y, L) := by
  simp [pop, pload, pcells, hx, hL, hg, hn, hsz, ha, hy]
theorem X.ias (n : Nat) (hx : St.ev ⟨env, L⟩ x = .sl nl ex xs) (hi : St.ev ⟨env, L⟩ i = .int k (n : Int)) (hn : xs[n]? = some y) (hK : XO P Z ops rest (upd env d (.cref y.cells)) L K)
    (hte : P.underlying t = some (.slice e) := by rfl) (hsz : szT P e = some sz := by rfl) (hy : y.cells.length = sz := by rfl) :
    XO P Z ops (⟨some d, .indexAddr t x i, ty, pos, af, none⟩ :: rest) env L K := X.go0 (pop_ias hte hsz hx hi hn hy) hK
theorem X.iao (n : Nat) (hx : St.ev ⟨env, L⟩ x = .own id off len gen) (hi : St.ev ⟨env, L⟩ i = .int k (n : Int)) (hL : L[id]? = some (.buf sz m xs)) (hg : gen = xs.length) (hn : n < len)
    (hK : XO P Z ops rest (upd env d (.eref id gen (off + n) 0)) L K) (hte : P.underlying t = some (.slice e) := by rfl) (hsz : szT P e = some sz := by rfl) :
    XO P Z ops (⟨some d, .indexAddr t x i, ty, pos, af, none⟩ :: rest) env L K := X.go0 (pop_iao hte hsz hx hi hL hg hn) hK
theorem X.lde (hx : St.ev ⟨env, L⟩ x = .eref id gen n 0) (hL : L[id]? = some (.buf sz m xs)) (hg : gen = xs.length) (hn : xs[n]? = some y) (hK : XO P Z ops rest (upd env d y) L K)
    (hsz : szT P t = some 1 := by rfl) (ha : aggT P t = some false := by rfl) (hy : y.cells = [y] := by rfl) :
    XO P Z ops (⟨some d, .load t x, ty, pos, af, none⟩ :: rest) env L K := X.go0 (pop_lde hx hL hg hn hsz ha hy) hK
theorem A.ias (n : Nat) (hx : St.ev ⟨env, L⟩ x = .sl nl ex xs) (hi : St.ev ⟨env, L⟩ i = .int k (n : Int)) (hn : xs[n]? = some y) (hK : AO P Z ops rest (upd env d (.cref y.cells)) L K)
    (hte : P.underlying t = some (.slice e) := by rfl) (hsz : szT P e = some sz := by rfl) (hy : y.cells.length = sz := by rfl) :
    AO P Z ops (⟨some d, .indexAddr t x i, ty, pos, af, none⟩ :: rest) env L K := A.go0 (pop_ias hte hsz hx hi hn hy) hK
theorem A.iao (n : Nat) (hx : St.ev ⟨env, L⟩ x = .own id off len gen) (hi : St.ev ⟨env, L⟩ i = .int k (n : Int)) (hL : L[id]? = some (.buf sz m xs)) (hg : gen = xs.length) (hn : n < len)
    (hK : AO P Z ops rest (upd env d (.eref id gen (off + n) 0)) L K) (hte : P.underlying t = some (.slice e) := by rfl) (hsz : szT P e = some sz := by rfl) :
    AO P Z ops (⟨some d, .indexAddr t x i, ty, pos, af, none⟩ :: rest) env L K := A.go0 (pop_iao hte hsz hx hi hL hg hn) hK
theorem A.lde (hx : St.ev ⟨env, L⟩ x = .eref id gen n 0) (hL : L[id]? = some (.buf sz m xs)) (hg : gen = xs.length) (hn : xs[n]? = some y) (hK : AO P Z ops rest (upd env d y) L K)
    (hsz : szT P t = some 1 := by rfl) (ha : aggT P t = some false := by rfl) (hy : y.cells = [y] := by rfl) :
    AO P Z ops (⟨some d, .load t x, ty, pos, af, none⟩ :: rest) env L K := A.go0 (pop_lde hx hL hg hn hsz ha hy) hK
theorem X.gu {op : Op} {j : Nat} {want : Bool} {g : Tmp} (hj : (ops[j]?).bind (·.dst) = some g) (hg : env g = .tup []) (hK : XO P Z ops rest (upd env d .undef) L K) :
    XO P Z ops (⟨some d, op, ty, pos, af, some (j, want)⟩ :: rest) env L K := by
  refine ⟨?_⟩
  have hw : ¬ pwanted ops env ⟨some d, op, ty, pos, af, some (j, want)⟩ = true := by simp [pwanted, hj, hg]
  simp only [exOps]
  rw [if_neg hw]
  exact hK.out
theorem A.gu {op : Op} {j : Nat} {want : Bool} {g : Tmp} (hj : (ops[j]?).bind (·.dst) = some g) (hg : env g = .tup []) (hK : AO P Z ops rest (upd env d .undef) L K) :
    AO P Z ops (⟨some d, op, ty, pos, af, some (j, want)⟩ :: rest) env L K := by
  refine ⟨?_⟩
  have hw : ¬ pwanted ops env ⟨some d, op, ty, pos, af, some (j, want)⟩ = true := by simp [pwanted, hj, hg]
  simp only [exA]
  rw [if_neg hw]
  exact hK.out
/-- The guard is known, by a reason. -/
theorem X.gk {op : Op} {dst : Option Tmp} {j : Nat} {want : Bool} {g : Tmp} (b : Bool) (hj : (ops[j]?).bind (·.dst) = some g) (hg : env g = .bool b)
    (hK : XO P Z ops (⟨dst, op, ty, pos, af, some (j, want)⟩ :: rest) (upd env g (.bool b)) L K) : XO P Z ops (⟨dst, op, ty, pos, af, some (j, want)⟩ :: rest) env L K := by rwa [upd_self hg] at hK
theorem A.gk {op : Op} {dst : Option Tmp} {j : Nat} {want : Bool} {g : Tmp} (b : Bool) (hj : (ops[j]?).bind (·.dst) = some g) (hg : env g = .bool b)
    (hK : AO P Z ops (⟨dst, op, ty, pos, af, some (j, want)⟩ :: rest) (upd env g (.bool b)) L K) : AO P Z ops (⟨dst, op, ty, pos, af, some (j, want)⟩ :: rest) env L K := by rwa [upd_self hg] at hK
section quo
variable {a b c : Int} {k' : IntKind} {t' : TypeId}
theorem X.rem (hx : St.ev ⟨env, L⟩ x = .int k a) (hy : St.ev ⟨env, L⟩ i = .int k b) (hb : b ≠ 0) (hc : a.tmod b = c) (hK : XO P Z ops rest (upd env d (.int k c)) L K) :
    XO P Z ops (⟨some d, .binOp .rem t x i t', ty, pos, af, none⟩ :: rest) env L K := X.go0 (by simp [pop, hx, hy, pbin, pint, hb, hc]) hK
theorem X.quo (hx : St.ev ⟨env, L⟩ x = .int k a) (hy : St.ev ⟨env, L⟩ i = .int k b) (hb : b ≠ 0) (hc : k.wrap (a.tdiv b) = c) (hK : XO P Z ops rest (upd env d (.int k c)) L K) :
    XO P Z ops (⟨some d, .binOp .quo t x i t', ty, pos, af, none⟩ :: rest) env L K := X.go0 (by simp [pop, hx, hy, pbin, pint, hb, hc]) hK
end quo
end Go.Pv
