import Derived.Test.YtfjkplemepcmeaaG4
import Derived.Test.YtfjkplemepcmeaaPv24
import Derived.OpenShut
import Derived.WideShapes
set_option linter.unusedVariables false
set_option linter.unusedSimpArgs false
set_option linter.unusedSectionVars false
section
/- Laws over arguments that came in: slices of bytes. -/
set_option linter.unusedVariables false
namespace Go.Pv
open Go Go.ChangeShapes Go.WideShapes
variable {P : Program} {Z : Nat → Go.Obj → Prop}
/-- Every cell of the world at the call's start is known. -/
def Gh.all (w : World) : Gh := ⟨fun B o v => w.cell? ⟨B, o, Option.none⟩ = some v, fun _ _ _ => False⟩
theorem Rel.all {w : World} (hz : ∀ B o, Z B o → w.heap[B]? = some o) : Rel Z (Gh.all w) [] w where
  kc := fun _ _ _ h => h
  ok := fun id ob h => by simp at h
  fn := fun _ _ _ _ h => h.elim
  dis := fun id _ _ _ _ h => by simp at h
  kw := fun _ _ _ _ _ _ h => by simp at h
  rl := fun _ _ _ h => h.elim
  rg := fun _ _ _ _ _ _ h => h.elim
  zc := hz
  zh := fun B o _ ⟨id, ob, h, _⟩ => by simp at h
theorem SE.lawA {f : FuncId} {args : List V} {rargs : Array Value} {w : World} (h : SE P Z f args [] (.bool true) []) (hz : ∀ B o, Z B o → w.heap[B]? = some o) (ha : VRL (Gh.all w) args rargs) :
    Calls P f rargs w fun e w' => e = .returned (.bool true) ∧ Kept w w' := by
  refine (h.out.2 (Gh.all w) w rargs (Rel.all hz) ha).calls.mono ?_
  rintro e w' ⟨v, rfl, G', L', u, ⟨rfl, rfl⟩, _, he, hv⟩
  cases hv
  refine ⟨rfl, ?_⟩
  have hk : ∀ B, B < w.heap.size → w'.heap[B]? = w.heap[B]? := fun B hB => he.keep B hB fun ⟨id, ob, h, _⟩ => by simp at h
  exact ⟨he.io.1, he.io.2, he.size, hk⟩
theorem cell_block {w : World} {a : Addr} {v : Value} (h : w.cell? a = some v) : a.block < w.heap.size := by
  unfold World.cell? at h
  by_cases hb : a.block < w.heap.size
  · exact hb
  · rw [Array.getElem?_eq_none (by omega)] at h
    cases h
/-- A slice of bytes that came in. -/
theorem open_gB {H : Type} {enc : TypeId × Value → H} {W : World} {base : Nat} {t e : TypeId} {v : Value} {d : DataW H} {ps : List MemPlace} (ht : P.underlying t = some (.slice e)) (he : P.underlying e = some (.int .u8)) (hc : P.cellsOf e = 1)
    (hval : Value.okWide P W .any base t v) (h : DataW.Trod enc P W 0 (fun _ => true) true t v d ps) :
    ∃ l : List UInt8, VR (Gh.all W) (gB l) v ∧ ∀ x ∈ ps, x.block < W.heap.size := by
  obtain ⟨a1, len, cap, rfl⟩ := okWide_slice ht hval
  obtain ⟨fuel, hf⟩ := h
  rcases open_ints ht he hc hf with ⟨hcs, hx⟩ | ⟨a, len', cap', zs, hcs, _, hl, hm, hz, hx, hcell, hwz⟩
  · simp [Value.cells] at hcs
    obtain ⟨rfl, rfl, rfl⟩ := hcs
    simp only [Prod.mk.injEq] at hx
    obtain ⟨rfl, rfl⟩ := hx
    exact ⟨[], .sl0 (by simp), fun _ h => by cases h⟩
  · simp [Value.cells] at hcs
    obtain ⟨rfl, rfl, rfl⟩ := hcs
    simp only [Prod.mk.injEq] at hx
    obtain ⟨rfl, rfl⟩ := hx
    simp only [if_true] at hz
    have hlen : ((zs.take len).map fun n => UInt8.ofNat n.toNat).length = len := by simp; omega
    refine ⟨(zs.take len).map fun n => UInt8.ofNat n.toNat, ?_, fun x hx => ?_⟩
    · by_cases h0 : len = 0
      · subst h0
        exact .sl0 (by simp)
      · obtain ⟨ab, ao, spot⟩ := a
        have hspot : spot = none := by simpa [Addr.add] using World.cell?_spot (hcell 0 (by omega))
        subst hspot
        have hfl : flat (((zs.take len).map fun n => UInt8.ofNat n.toNat).map g8) = ((zs.take len).map fun n => UInt8.ofNat n.toNat).map g8 := by
          unfold flat
          generalize (zs.take len).map (fun n => UInt8.ofNat n.toNat) = l
          induction l with
          | nil => rfl
          | cons b l ih => rw [List.map_cons, List.flatMap_cons, ih]; rfl
        have hr := VR.sl (G := Gh.all W) (exact := false) (xs := ((zs.take len).map fun n => UInt8.ofNat n.toNat).map g8) (B := ab) (O := ao) (c := cap) 1 (fun p => .int .u8 (zs.getD p 0))
          (by intro hn; have := congrArg List.length hn; rw [List.length_map, hlen] at this; exact h0 this) (by simp) (by rw [List.length_map, hlen]; exact hl)
          (by intro x hx; obtain ⟨b, _, rfl⟩ := List.mem_map.1 hx; rfl)
          (by
            intro p hp
            rw [hfl, List.length_map, hlen] at hp
            have := hcell p (by omega)
            rw [add_plain] at this
            exact this)
          (by
            intro p hp
            have hp' := hp
            rw [hfl, List.length_map, hlen] at hp'
            have e1 : (flat (((zs.take len).map fun n => UInt8.ofNat n.toNat).map g8))[p] = .int .u8 (zs.getD p 0) := by
              simp only [hfl, List.getElem_map, List.getElem_take]
              have hw := hwz zs[p] (List.getElem_mem (by omega))
              simp [Lit.wf, IntKind.min, IntKind.max, IntKind.signed, IntKind.bits] at hw
              unfold g8
              rw [UInt8.toNat_ofNat', Nat.mod_eq_of_lt (by omega), List.getD_eq_getElem?_getD, List.getElem?_eq_getElem (show p < zs.length by omega)]
              show V.int _ (((zs[p]).toNat : Nat) : Int) = V.int _ zs[p]
              rw [Int.toNat_of_nonneg (by omega)]
            rw [e1]
            exact .int .u8 _)
        rw [List.length_map, hlen] at hr
        exact hr
    · simp only [MemPlace.row, List.mem_map] at hx
      obtain ⟨i, hi, rfl⟩ := hx
      have := cell_block (hcell i (by simpa using hi))
      rw [block_add] at this
      exact this
/-- An argument list, one behind the other. -/
theorem VRL.one {G : Gh} {v : V} {r : Value} (h : VR G v r) : VRL G [v] #[r] := ⟨rfl, fun p hp => by match p, hp with | 0, _ => exact h⟩
theorem VRL.two {G : Gh} {v v' : V} {r r' : Value} (h : VR G v r) (h' : VR G v' r') : VRL G [v, v'] #[r, r'] := ⟨rfl, fun p hp => by
  match p, hp with
  | 0, _ => exact h
  | 1, _ => exact h'⟩
theorem VRL.three {G : Gh} {v v' v'' : V} {r r' r'' : Value} (h : VR G v r) (h' : VR G v' r') (h'' : VR G v'' r'') : VRL G [v, v', v''] #[r, r', r''] := ⟨rfl, fun p hp => by
  match p, hp with
  | 0, _ => exact h
  | 1, _ => exact h'
  | 2, _ => exact h''⟩
end Go.Pv
end
