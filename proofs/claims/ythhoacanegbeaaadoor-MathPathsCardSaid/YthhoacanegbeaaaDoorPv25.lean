/- A part of a slice, up to a bound that is no numeral. -/
import Derived.Test.YthhoacanegbeaaaDoorPv24
set_option linter.unusedSimpArgs false
set_option linter.unusedVariables false
namespace Go.Pv
variable {P : Program} {Z : Nat → Go.Obj → Prop} {env : Nat → V} {L L' : List Obj} {ops : Array Oper} {rest : List Oper} {K : St → Prop} {d : Tmp}
  {ty t e : TypeId} {pos : String} {af : Array Edge} {x hi : Operand} {sz h : Nat} {xs ys : List V} {k : IntKind} {nl ex : Bool}
theorem pop_slc (hte : P.underlying t = some (.slice e)) (hsz : szT P e = some sz) (hx : St.ev ⟨env, L⟩ x = .sl nl ex xs) (hh : St.ev ⟨env, L⟩ hi = .int k (h : Int)) (hle : h ≤ xs.length)
    (hall : xs.all (fun y => y.cells.length == sz) = true) (hy : xs.take h = ys) :
    pop P L (St.ev ⟨env, L⟩) (.slice t x none (some hi) none) = some (.sl nl (ex && (h == xs.length)) ys, L) := by
  simp only [pop, Option.map_none, Option.map_some, pslice, hte, hx, hsz, hall, if_true, hh]
  simp [pbounds, toNat?, hle, hy]
theorem X.slc (h : Nat) (hx : St.ev ⟨env, L⟩ x = .sl nl ex xs) (hh : St.ev ⟨env, L⟩ hi = .int k (h : Int)) (hle : h ≤ xs.length) (hy : xs.take h = ys)
    (hall : xs.all (fun y => y.cells.length == sz) = true) (hK : XO P Z ops rest (upd env d (.sl nl (ex && (h == xs.length)) ys)) L K)
    (hte : P.underlying t = some (.slice e) := by rfl) (hsz : szT P e = some sz := by rfl) :
    XO P Z ops (⟨some d, .slice t x none (some hi) none, ty, pos, af, none⟩ :: rest) env L K := X.go0 (pop_slc hte hsz hx hh hle hall hy) hK
theorem A.slc (h : Nat) (hx : St.ev ⟨env, L⟩ x = .sl nl ex xs) (hh : St.ev ⟨env, L⟩ hi = .int k (h : Int)) (hle : h ≤ xs.length) (hy : xs.take h = ys)
    (hall : xs.all (fun y => y.cells.length == sz) = true) (hK : AO P Z ops rest (upd env d (.sl nl (ex && (h == xs.length)) ys)) L K)
    (hte : P.underlying t = some (.slice e) := by rfl) (hsz : szT P e = some sz := by rfl) :
    AO P Z ops (⟨some d, .slice t x none (some hi) none, ty, pos, af, none⟩ :: rest) env L K := A.go0 (pop_slc hte hsz hx hh hle hall hy) hK
end Go.Pv
