import Derived.Test.YtfjkplemepcmeaaPv23
import Derived.Below
import Derived.Carry
set_option linter.unusedVariables false
set_option linter.unusedSimpArgs false
set_option linter.unusedSectionVars false
/- Out of a contract: what a law's row asks for. -/
namespace Go.Pv
variable {P : Program} {Z : Nat → Go.Obj → Prop}
def Gh.none : Gh := ⟨fun _ _ _ => False, fun _ _ _ => False⟩
theorem Rel.none {w : World} (hz : ∀ B o, Z B o → w.heap[B]? = some o) : Rel Z Gh.none [] w where
  kc := fun _ _ _ h => h.elim
  ok := fun id ob h => by simp at h
  fn := fun _ _ _ _ h => h.elim
  dis := fun id _ _ _ _ h => by simp at h
  kw := fun _ _ _ _ _ h => h.elim
  rl := fun _ _ _ h => h.elim
  rg := fun _ _ _ _ _ _ h => h.elim
  zc := hz
  zh := fun B o _ ⟨id, ob, h, _⟩ => by simp at h
/-- What was there when the call began is as it was. -/
structure Kept (w w' : World) : Prop where
  os : w'.os = w.os
  output : w'.output = w.output
  size : w.heap.size ≤ w'.heap.size
  block : ∀ B, B < w.heap.size → w'.heap[B]? = w.heap[B]?
theorem Kept.frame {w w' : World} (h : Kept w w') (may : MemPlace → Prop) : w.keptBut w' may := by
  refine ⟨h.os, h.output, fun i hi => ?_⟩
  rw [h.block i hi]
  split <;> simp_all
theorem Kept.same {W W' : World} (h : Kept W W') {p : MemPlace} (hp : p.block < W.heap.size) : W.sameAt W' p := by
  cases p with
  | cell b o => exact World.cell?_of_block (w := W) (h.block b hp)
  | map b => exact h.block b hp
theorem Kept.trod {H : Type} {enc : TypeId × Value → H} {P : Program} {t : TypeId} (hl : laidOutB P = true) (hr : P.readableRec t = true) (hrow : t < P.types.size) {W W' : World} {v : Value} {d : DataW H} {ps : List MemPlace}
    (h : DataW.Trod enc P W 0 (fun _ => true) true t v d ps) (hb : Kept W W') (hlt : ∀ x ∈ ps, x.block < W.heap.size) :
    DataW.Trod enc P W' 0 (fun b => decide (b < W.heap.size)) true t v d ps :=
  WideElems.Trod_stays hl hr hrow h (fun x hx => hb.same (hlt x hx)) (fun x hx => by simpa using hlt x hx)
theorem SE.law {f : FuncId} {args : List V} {rargs : Array Value} {w : World} (h : SE P Z f args [] (.bool true) []) (hz : ∀ B o, Z B o → w.heap[B]? = some o) (ha : VRL Gh.none args rargs) :
    Calls P f rargs w fun e w' => e = .returned (.bool true) ∧ Kept w w' := by
  refine (h.out.2 Gh.none w rargs (Rel.none hz) ha).calls.mono ?_
  rintro e w' ⟨v, rfl, G', L', u, ⟨rfl, rfl⟩, _, he, hv⟩
  cases hv
  refine ⟨rfl, ?_⟩
  have hk : ∀ B, B < w.heap.size → w'.heap[B]? = w.heap[B]? := fun B hB => he.keep B hB fun ⟨id, ob, h, _⟩ => by simp at h
  exact ⟨he.io.1, he.io.2, he.size, hk⟩
theorem VRL.ints {G : Gh} : ∀ {args : List V} {rargs : Array Value}, rargs.toList = args.map (fun v => match v with | .int k n => .int k n | .bool b => .bool b | .str s => .string s | _ => undef) →
    (∀ v ∈ args, (∃ k n, v = .int k n) ∨ (∃ b, v = .bool b) ∨ ∃ s, v = .str s) → VRL G args rargs := fun {args rargs} h hv => by
  have hs : rargs.size = args.length := by rw [← Array.length_toList, h, List.length_map]
  refine ⟨hs, fun p hp => ?_⟩
  have : rargs.getD p undef = rargs.toList[p]'(by rw [Array.length_toList]; omega) := by
    rw [Array.getD_eq_getD_getElem?, Array.getElem?_eq_getElem (by omega)]; simp
  rw [this]
  simp only [h, List.getElem_map]
  rcases hv args[p] (List.getElem_mem hp) with ⟨k, n, e⟩ | ⟨b, e⟩ | ⟨s, e⟩ <;> rw [e]
  · exact .int k n
  · exact .bool b
  · exact .str s
end Go.Pv
