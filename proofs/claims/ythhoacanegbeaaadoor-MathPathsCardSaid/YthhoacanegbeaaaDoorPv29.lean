/- Results of which less is told. -/
import Derived.Test.YthhoacanegbeaaaDoorPv28
set_option linter.unusedSimpArgs false
set_option linter.unusedVariables false
namespace Go.Pv
variable {P : Program} {Z : Nat → Go.Obj → Prop}
theorem SE.weak {f : FuncId} {args : List V} {L L' : List Obj} {v v' : V} (h : SE P Z f args L v L') (hw : ∀ G r, VR G v r → VR G v' r) : SE P Z f args L v' L' :=
  ⟨⟨h.out.1, fun G w rargs h1 h2 => (h.out.2 G w rargs h1 h2).mono fun _ _ ⟨G', M, u, ⟨hu, hM⟩, a, b, c⟩ => ⟨G', M, v', ⟨rfl, hM⟩, a, b, hw _ _ (hu ▸ c)⟩⟩⟩
theorem VR.slw {G : Gh} {n x : Bool} {xs : List V} {r : Value} (h : VR G (.sl n x xs) r) : VR G (.sl false false xs) r := by
  cases h with
  | slnil => exact .sl0 (by simp)
  | sl0 hx => exact .sl0 (by simp)
  | sl sz vs hne hx hc hsz hk hv => exact .sl sz vs hne (by simp) hc hsz hk hv
theorem VR.tup2 {G : Gh} {a b a' b' : V} {r : Value} (h : VR G (.tup [a, b]) r) (ha : ∀ r, VR G a r → VR G a' r) (hb : ∀ r, VR G b r → VR G b' r) : VR G (.tup [a', b']) r := by
  cases h with
  | tup hn hv =>
    refine .tup hn fun p hp => ?_
    match p, hp with
    | 0, _ => exact ha _ (hv 0 (by simp))
    | 1, _ => exact hb _ (hv 1 (by simp))
/-- Arguments of which less is told to the call than is known. -/
theorem SE.argw {f : FuncId} {args args' : List V} {L L' : List Obj} {v : V} (h : SE P Z f args' L v L') (hn : args.length = args'.length) (hw : ∀ p (h1 : p < args.length) (h2 : p < args'.length) G r, VR G args[p] r → VR G args'[p] r) : SE P Z f args L v L' :=
  ⟨⟨h.out.1, fun G w rargs h1 h2 => h.out.2 G w rargs h1 ⟨by rw [h2.1, hn], fun p hp => hw p (by omega) hp _ _ (h2.2 p (by omega))⟩⟩⟩
end Go.Pv
