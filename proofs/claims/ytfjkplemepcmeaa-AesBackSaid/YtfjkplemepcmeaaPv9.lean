import Derived.Test.YtfjkplemepcmeaaPv8
set_option linter.unusedVariables false
set_option linter.unusedSectionVars false
/- 'pop' is right: append, copy, literal slices, conversions. -/
set_option linter.unusedSimpArgs false
namespace Go.Pv
variable {P : Program} {Z : Nat → Go.Obj → Prop} {G : Gh} {L : List Obj} {w : World}

theorem zeroCells_size (z : Array Value) (n : Nat) : (Builtin.zeroCells z n).size = n * z.size := by simp [Builtin.zeroCells]

section app
variable {t u e : TypeId} {slen n c : Nat} {A : Option Addr} {x : Value} {us old : Array Value} {i : TypeInfo} {z : Value} {ty : TypeId} {ts : Array TypeId}

theorem run_append_in (ht0 : ts[0]? = some t) (ht1 : ts[1]? = some u) (hu : P.underlying t = some (.slice e))
    (hx : (∃ k, P.underlying u = some (.slice k)) ∨ P.underlying u = some .string) (hi : P.info? e = some i)
    (hl : (Builtin.lenOf x).run P w = .ok n w) (hc : (Builtin.firstCells i.size n x).run P w = .ok us w) (hroom : slen + n ≤ c) {w' : World}
    (hst : (match A with | some a => storeCells (a.add (slen * i.size)) us.toList | none => pure () : Sem Unit).run P w = .ok () w') :
    (Builtin.append_ ts ty #[.slice A slen c, x]).run P w = .ok (.slice A (slen + n) c) w' := by
  cases A with
  | none =>
    simp only [Sem.run_pure, Result.ok.injEq, true_and] at hst
    subst hst
    rcases hx with ⟨k, hk⟩ | hk <;> simp [Builtin.append_, ht0, ht1, run_und hu, run_und hk, sizeOf, run_info hi, hl, hroom, hc]
  | some a =>
    rcases hx with ⟨k, hk⟩ | hk <;> simp [Builtin.append_, ht0, ht1, run_und hu, run_und hk, sizeOf, run_info hi, hl, hroom, hc] <;> (rw [hst]; rfl)

theorem run_append_out (ht0 : ts[0]? = some t) (ht1 : ts[1]? = some u) (hu : P.underlying t = some (.slice e))
    (hx : (∃ k, P.underlying u = some (.slice k)) ∨ P.underlying u = some .string) (hi : P.info? e = some i) (hz : i.zero = some z)
    (hl : (Builtin.lenOf x).run P w = .ok n w) (hroom : ¬ slen + n ≤ c) (hb : (slen + n) * i.bytes ≤ 140737488355328) (hbn : slen + n ≤ 4611686018427387904)
    (ho : (Builtin.firstCells i.size slen (.slice A slen c)).run P w.drew = .ok old w.drew)
    (hc : (Builtin.firstCells i.size n x).run P w.drew = .ok us w.drew) :
    (Builtin.append_ ts ty #[.slice A slen c, x]).run P w = .ok (.slice (some ⟨w.heap.size, 0, none⟩) (slen + n) (grownCap w (slen + n) c e))
      (w.drew.alloc (.cells (old ++ us ++ Builtin.zeroCells z.cells (grownCap w (slen + n) c e - (slen + n))) e)) := by
  have h63 : ¬ (9223372036854775807 < ((slen : Int) + (n : Int))) := by omega
  have hfit := growslice_fits (old := c) (need := slen + n) (bytes := i.bytes) (by omega) hb
  have h48 : ¬ (281474976710656 < Builtin.nextslicecap (slen + n) c * i.bytes) := by omega
  rcases hx with ⟨k, hk⟩ | hk <;>
    simp [Builtin.append_, ht0, ht1, run_und hu, run_und hk, sizeOf, run_info hi, zeroValue, hz, hl, hroom, h63, h48, Question.forced, ho, hc, newRow, grownCap]
/-- What is appended: so many cells. -/
def Ap (P : Program) (_t _u e : TypeId) (ts : Array TypeId) (ty : TypeId) (i : TypeInfo) (z : Value) (n : Nat) (x : Value) (Sr : World → Array Value → Prop) : Prop :=
  (∀ {w : World} {us : Array Value} {A : Option Addr} {slen c : Nat} {w' : World}, Sr w us → slen + n ≤ c → (match A with | some a => storeCells (a.add (slen * i.size)) us.toList | none => pure () : Sem Unit).run P w = .ok () w' →
    (Builtin.append_ ts ty #[.slice A slen c, x]).run P w = .ok (.slice A (slen + n) c) w') ∧
  (∀ {w : World} {us u0 old : Array Value} {A : Option Addr} {slen c : Nat}, Sr w u0 → Sr w.drew us → ¬ slen + n ≤ c → (slen + n) * i.bytes ≤ 140737488355328 → slen + n ≤ 4611686018427387904 →
    (Builtin.firstCells i.size slen (.slice A slen c)).run P w.drew = .ok old w.drew →
    (Builtin.append_ ts ty #[.slice A slen c, x]).run P w = .ok (.slice (some ⟨w.heap.size, 0, none⟩) (slen + n) (grownCap w (slen + n) c e))
      (w.drew.alloc (.cells (old ++ us ++ Builtin.zeroCells z.cells (grownCap w (slen + n) c e - (slen + n))) e)))
theorem Ap.row (ht0 : ts[0]? = some t) (ht1 : ts[1]? = some u) (hu : P.underlying t = some (.slice e))
    (hx : (∃ k, P.underlying u = some (.slice k)) ∨ P.underlying u = some .string) (hi : P.info? e = some i) (hz : i.zero = some z) :
    Ap P t u e ts ty i z n x (fun w us => (Builtin.lenOf x).run P w = .ok n w ∧ (Builtin.firstCells i.size n x).run P w = .ok us w) :=
  ⟨fun hs hroom hst => run_append_in ht0 ht1 hu hx hi hs.1 hs.2 hroom hst, fun h0 hs hroom hb hbn ho => run_append_out ht0 ht1 hu hx hi hz h0.1 hroom hb hbn ho hs.2⟩
theorem Ap.zeros {k : IntKind} (ht0 : ts[0]? = some t) (ht1 : ts[1]? = some u) (hu : P.underlying t = some (.slice e)) (hx : P.underlying u = some (.int k)) (hi : P.info? e = some i) (hz : i.zero = some z) (hn : n ≤ 1000000) (hby : i.bytes ≤ 1000) (hsz : z.cells.size = i.size) :
    Ap P t u e ts ty i z n (.int .i64 (n : Int)) (fun _ us => us = Builtin.zeroCells z.cells n) := by
  have hw : IntKind.i64.wrap (n : Int) = n := wrap64_in (by omega) (by omega)
  have h0 : ¬ ((n : Int) < 0) := by omega
  have h1 : ¬ (281474976710656 < (n : Int) * (i.bytes : Int)) := by
    have : n * i.bytes ≤ 1000000 * 1000 := Nat.mul_le_mul hn hby
    have : ((n * i.bytes : Nat) : Int) ≤ 1000000000 := by omega
    rw [Int.natCast_mul] at this; omega
  have key : n * i.size = 0 → Builtin.zeroCells z.cells n = #[] := fun h => by
    apply Array.eq_empty_of_size_eq_zero
    rw [zeroCells_size, hsz, h]
  refine ⟨?_, ?_⟩
  · rintro w us A slen c w' rfl hroom hst
    by_cases hnz : n * i.size = 0
    · rw [key hnz] at hst
      cases A with
      | none =>
        simp only [Sem.run_pure, Result.ok.injEq, true_and] at hst
        subst hst
        simp [Builtin.append_, ht0, ht1, run_und hu, run_und hx, sizeOf, run_info hi, asInt, asIntOf, hw, h0, h1, hroom, hnz]
      | some a =>
        simp [Builtin.append_, ht0, ht1, run_und hu, run_und hx, sizeOf, run_info hi, asInt, asIntOf, hw, h0, h1, hroom, hnz]
        (rw [hst]; rfl)
    · cases A with
      | none =>
        simp only [Sem.run_pure, Result.ok.injEq, true_and] at hst
        subst hst
        simp [Builtin.append_, ht0, ht1, run_und hu, run_und hx, sizeOf, run_info hi, asInt, asIntOf, hw, h0, h1, hroom, hnz, zeroValue, hz]
      | some a =>
        simp [Builtin.append_, ht0, ht1, run_und hu, run_und hx, sizeOf, run_info hi, asInt, asIntOf, hw, h0, h1, hroom, hnz, zeroValue, hz]
        (rw [hst]; rfl)
  · rintro w us u0 old A slen c _ rfl hroom hb hbn ho
    have h63 : ¬ (9223372036854775807 < ((slen : Int) + (n : Int))) := by omega
    have hfit := growslice_fits (old := c) (need := slen + n) (bytes := i.bytes) (by omega) hb
    have h48 : ¬ (281474976710656 < Builtin.nextslicecap (slen + n) c * i.bytes) := by omega
    by_cases hnz : n * i.size = 0
    · rw [key hnz]
      simp [Builtin.append_, ht0, ht1, run_und hu, run_und hx, sizeOf, run_info hi, asInt, asIntOf, hw, h0, h1, zeroValue, hz, hroom, hnz, h63, h48, Question.forced, ho, newRow, grownCap]
    · simp [Builtin.append_, ht0, ht1, run_und hu, run_und hx, sizeOf, run_info hi, asInt, asIntOf, hw, h0, h1, zeroValue, hz, hroom, hnz, h63, h48, Question.forced, ho, newRow, grownCap]
end app

theorem grownCap_ge {need old e : Nat} : need ≤ grownCap w need old e := by
  unfold grownCap
  simp only [Question.cut]
  exact Nat.le_add_right _ _

theorem grownCap_63 {need old e : Nat} (h : need ≤ 4611686018427387904) : grownCap w need old e ≤ 9223372036854775807 := by
  unfold grownCap Question.cut
  have := Nat.mod_lt (w.tape w.drawn (.appendCap need old e)) (show 0 < 2 ^ 63 - need by omega)
  simp only
  omega

theorem drew_rel (hr : Rel Z G L w) : Rel Z G L w.drew ∧ Evo G L w G L w.drew := hr.heap rfl

/-- New cells: what was there, what came, zeros. -/
theorem RL.news {xs ys : List V} {old us zs : Array Value} (h1 : RL G (flat xs) old) (h2 : RL G (flat ys) us) :
    ∀ p (hp : p < (flat (xs ++ ys)).length), VR G (flat (xs ++ ys))[p] ((old ++ us ++ zs).getD p undef) := by
  intro p hp
  have hp' := hp
  rw [flat_append, List.length_append] at hp'
  have hg : ∀ q, (flat (xs ++ ys))[q]? = if q < (flat xs).length then (flat xs)[q]? else (flat ys)[q - (flat xs).length]? := by
    intro q
    rw [flat_append]
    split
    · rw [List.getElem?_append_left (by assumption)]
    · rw [List.getElem?_append_right (by omega)]
  have hq := hg p
  rw [List.getElem?_eq_getElem hp] at hq
  have s1 := h1.1
  have s2 := h2.1
  by_cases hc : p < (flat xs).length
  · rw [if_pos hc, List.getElem?_eq_getElem hc] at hq
    rw [Option.some.inj hq]
    have := h1.2 p hc
    have e1 : (old ++ us ++ zs).getD p undef = old.getD p undef := by
      simp only [Array.getD_eq_getD_getElem?]
      rw [Array.append_assoc, Array.getElem?_append_left (by omega)]
    rw [e1]; exact this
  · rw [if_neg hc, List.getElem?_eq_getElem (by omega)] at hq
    rw [Option.some.inj hq]
    have := h2.2 (p - (flat xs).length) (by omega)
    have e1 : (old ++ us ++ zs).getD p undef = us.getD (p - (flat xs).length) undef := by
      simp only [Array.getD_eq_getD_getElem?]
      rw [Array.append_assoc, Array.getElem?_append_right (by omega), Array.getElem?_append_left (by omega)]
      rw [s1]
    rw [e1]; exact this

theorem List.set_self {α : Type} {l : List α} {i : Nat} {a : α} (h : l[i]? = some a) : l.set i a = l := by
  obtain ⟨hlt, rfl⟩ := List.getElem?_eq_some_iff.1 h
  exact List.set_getElem_self hlt

theorem append_core (hr : Rel Z G L w) {t u : TypeId} {ts : Array TypeId} {ty : TypeId} {s v : V} {oys : Option (List V)} {rs rx : Value} {L' : List Obj}
    (hap : ∀ {e : TypeId} {i : TypeInfo} {zr : Value} {ys : List V}, oys = some ys → P.underlying t = some (.slice e) → P.info? e = some i → i.zero = some zr → zr.cells.size = i.size → 0 < i.size → (∀ y ∈ ys, y.cells.length = i.size) →
      ∃ Sr, Ap P t u e ts ty i zr ys.length rx Sr ∧ ∀ {w1 : World}, Rel Z G L w1 → ∃ us, Sr w1 us ∧ RL G (flat ys) us)
    (hs : VR G s rs) (h : pappendY P L t s oys = some (v, L')) :
    ∃ q w', (Builtin.append_ ts ty #[rs, rx]).run P w = .ok q w' ∧ Done Z G L w v L' q w' := by
  unfold pappendY at h
  split at h
  · rename_i e hu
    split at h
    · rename_i sz z ys hsz hz
      obtain ⟨i, zr, hi, hiz, hov⟩ := zeroV_info hz
      have hisz : i.size = sz := by simpa [szT, hi] using hsz
      have hib : i.bytes = byT P e := by simp [byT, hi]
      split at h
      · rename_i hcond
        obtain ⟨h0, hzl, hall⟩ := hcond
        have hys : ∀ y ∈ ys, y.cells.length = sz ∧ ∀ c ∈ y.cells, c.one = true := by
          intro y hy
          have := List.all_eq_true.1 hall y hy
          simpa using this
        have hysz : ∀ y ∈ ys, y.cells.length = sz := fun y hy => (hys y hy).1
        have hyone : ∀ c ∈ flat ys, c.one = true := by
          intro c hc
          simp only [flat, List.mem_flatMap] at hc
          obtain ⟨y, hy, hc⟩ := hc
          exact (hys y hy).2 c hc
        obtain ⟨Sr, hAp, hsrc⟩ := hap rfl hu hi hiz (by rw [((ofVal_VR (G := G) hov).rl).1, hzl, hisz]) (by omega) (by rw [hisz]; exact hysz)
        have hdr := drew_rel hr
        split at h
        · rename_i id off len gen
          split at h
          · rename_i sz' m xs hL
            split at h
            · rename_i hc
              obtain ⟨hg, rfl, hlg, hszz, hb, hbn⟩ := hc
              subst hlg hg hszz
              simp only [Option.some.injEq, Prod.mk.injEq] at h
              obtain ⟨rfl, rfl⟩ := h
              have hels : elems L (.own id 0 xs.length xs.length) = some xs := by simp [elems, hL]
              obtain ⟨hmx, hszs, loc, hloc, hlo⟩ := hr.ok id _ hL
              have hall2 : ∀ y ∈ xs ++ ys, y.cells.length = sz' := fun y hy => (List.mem_append.1 hy).elim (hszs y) (hysz y)
              obtain ⟨A, c, rfl, hcap⟩ : ∃ A c, rs = .slice A xs.length c ∧ OwnAt loc xs.length 0 A c := by
                cases hs with
                | own hid hl ha => have := hr.fn _ _ _ _ hid hloc; subst this; exact ⟨_, _, rfl, ha⟩
              by_cases hy0 : ys = []
              · subst hy0
                obtain ⟨us, hu1, hu2⟩ := hsrc hr
                have hus : us = #[] := by apply Array.eq_empty_of_size_eq_zero; rw [hu2.1]; rfl
                subst hus
                have hxc : xs.length ≤ c := by
                  cases loc with
                  | obj b => exact hlo.elim
                  | blk b cap sz2 => obtain ⟨a1, a2, _⟩ := hcap; omega
                  | ext B O sz2 => obtain ⟨a1, _⟩ := hcap; omega
                have hrun := hAp.1 (w := w) (A := A) (slen := xs.length) (c := c) hu1 (by simpa using hxc) (w' := w) (by
                  cases A <;> rfl)
                refine ⟨_, _, hrun, ?_⟩
                simp only [List.length_nil, Nat.add_zero, List.append_nil]
                rw [List.set_self hL]
                exact Done.same hr hs
              · have hyl : 0 < ys.length := List.length_pos_iff.2 hy0
                by_cases hroom : xs.length + ys.length ≤ c
                · cases loc with
                  | obj b => exact hlo.elim
                  | ext B O sz2 => obtain ⟨a1, _⟩ := hcap; omega
                  | blk b cap sz2 =>
                    obtain ⟨hs2, ⟨hxcap, hx63⟩, cc, ee, fr, hh, hf, hcs, hvv⟩ := hlo
                    subst hs2
                    obtain ⟨a1, a2, a3⟩ := hcap
                    have hA := a3.resolve_left (by omega)
                    subst hA
                    rw [Nat.zero_add] at a1
                    subst a1
                    obtain ⟨us, hu1, hu2⟩ := hsrc hr
                    have hfl := flat_length hszs
                    have hfy := flat_length hysz
                    have hus : us.toList.length = ys.length * sz2 := by rw [Array.length_toList, hu2.1, hfy]
                    have hfit : xs.length * sz2 + 0 + us.toList.length ≤ cc.size := by
                      rw [hus, hcs, Nat.add_zero, ← Nat.add_mul]; exact Nat.mul_le_mul_right _ hroom
                    have hvu : ∀ p (hp : p < (flat ys).length), VR G (flat ys)[p] (us.toList.getD p undef) := fun p hp => by
                      have := hu2.2 p hp; simpa [Array.getD_eq_getD_getElem?, List.getD_eq_getElem?_getD] using this
                    have hst := run_storeCells (P := P) us.toList cc w (xs.length * sz2) 0 hh hf hfit (VR.ones (by rw [hus, hfy]) hvu hyone)
                    rw [Nat.add_zero] at hst
                    have hrun := hAp.1 (w := w) (A := some ⟨b, 0 * sz2, none⟩) (slen := xs.length) (c := c) hu1 hroom
                      (w' := { w with heap := w.heap.setIfInBounds b (.cells (updC cc (xs.length * sz2) us.toList) ee fr) })
                      (by simp only [add_none, hisz, Nat.zero_mul, Nat.zero_add]; exact hst)
                    refine ⟨_, _, hrun, ?_⟩
                    have hblt := (Array.getElem?_eq_some_iff.1 hh).1
                    have hself : ({ w with heap := w.heap.setIfInBounds b (.cells (updC cc (xs.length * sz2) us.toList) ee fr) } : World).heap[b]? = some (.cells (updC cc (xs.length * sz2) us.toList) ee fr) := by
                      show (w.heap.setIfInBounds b _)[b]? = _
                      rw [Array.getElem?_setIfInBounds_self_of_lt hblt]
                    have hat : At G id (.buf sz2 m xs) b := .inr ⟨_, _, hloc⟩
                    have hR := Gh.addR_self G id (Obj.buf sz2 m (xs ++ ys)).gen (.blk b c sz2)
                    have hle := Gh.le_addR G id (Obj.buf sz2 m (xs ++ ys)).gen (.blk b c sz2)
                    have hnew : ∀ g l, G.R id g l → g < (Obj.buf sz2 m (xs ++ ys)).gen := fun g l hg => by
                      have := hr.rg _ _ _ _ _ _ hg hL
                      show g < (xs ++ ys).length
                      rw [List.length_append]; omega
                    have := hr.change (G' := G.addR id (Obj.buf sz2 m (xs ++ ys)).gen (.blk b c sz2)) (ob' := .buf sz2 m (xs ++ ys)) hL hat hle
                      (w' := { w with heap := w.heap.setIfInBounds b (.cells (updC cc (xs.length * sz2) us.toList) ee fr) }) (by simp)
                      (fun B hB => by show (w.heap.setIfInBounds b _)[B]? = _; rw [Array.getElem?_setIfInBounds_ne (Ne.symm hB)])
                      (by
                        refine ⟨by simp; omega, hall2, .blk b c sz2, hR, rfl, ⟨by simpa using hroom, hx63⟩, _, ee, fr, hself, hf, by rw [updC_size, hcs], fun p hp => ?_⟩
                        have hp' := hp
                        rw [flat_append, List.length_append] at hp'
                        rw [updC_get us.toList cc _ p (by omega), hus]
                        have hq : (flat (xs ++ ys))[p]? = if p < (flat xs).length then (flat xs)[p]? else (flat ys)[p - (flat xs).length]? := by
                          rw [flat_append]
                          split
                          · rw [List.getElem?_append_left (by assumption)]
                          · rw [List.getElem?_append_right (by omega)]
                        rw [List.getElem?_eq_getElem hp] at hq
                        by_cases hpc : p < (flat xs).length
                        · rw [if_pos hpc, List.getElem?_eq_getElem hpc] at hq
                          rw [if_neg (by omega), Option.some.inj hq]
                          exact (hvv p hpc).mono hle
                        · rw [if_neg hpc, List.getElem?_eq_getElem (by omega)] at hq
                          rw [if_pos (by omega), Option.some.inj hq]
                          have := (hvu (p - (flat xs).length) (by omega)).mono hle
                          rw [show p - xs.length * sz2 = p - (flat xs).length by omega]
                          exact this)
                      (fun B hB => by
                        rcases hB with (hB | ⟨_, _, hB⟩) | ⟨c', s', (hB | ⟨_, _, hB⟩)⟩
                        · exact absurd (hnew _ _ hB) (Nat.lt_irrefl _)
                        · simp at hB
                        · exact absurd (hnew _ _ hB) (Nat.lt_irrefl _)
                        · simp at hB; exact hB.1)
                      (fun i g l h => by
                        rcases h with h | ⟨h1, h2, _⟩
                        · exact .inl h
                        · exact .inr ⟨h1, h2⟩)
                      (by
                        rintro i g x y (h1 | ⟨rfl, rfl, rfl⟩) (h2 | ⟨h2, h3, rfl⟩)
                        · exact hr.fn _ _ _ _ h1 h2
                        · subst h2 h3; exact absurd (hnew _ _ h1) (Nat.lt_irrefl _)
                        · exact absurd (hnew _ _ h2) (Nat.lt_irrefl _)
                        · rfl)
                      (by
                        intro s2 m2 xs2 he g l hg
                        simp only [Obj.buf.injEq] at he
                        obtain ⟨_, _, rfl⟩ := he
                        rcases hg with hg | ⟨_, rfl, _⟩
                        · exact Nat.le_of_lt (hnew _ _ hg)
                        · exact Nat.le_refl _)
                      (by
                        intro o v hk
                        have hkc := hr.kc b o v hk
                        obtain ⟨sz3, m2, xs2, he, ho2⟩ := hr.kw b o v id _ hk hL hat
                        simp only [Obj.buf.injEq] at he
                        obtain ⟨rfl, rfl, rfl⟩ := he
                        refine ⟨?_, _, _, _, rfl, ho2⟩
                        have hmm : m * sz2 ≤ xs.length * sz2 := Nat.mul_le_mul_right _ hmx
                        have hold : w.cell? ⟨b, o, none⟩ = some (cc.getD o undef) := cell_of_heap hh (by omega)
                        have hlt2 : o < (updC cc (xs.length * sz2) us.toList).size := by rw [updC_size]; omega
                        rw [cell_of_heap hself hlt2, updC_get us.toList cc _ o (by omega), if_neg (by omega), ← hold, hkc])
                      (fun _ _ _ _ h => h)
                    refine ⟨_, this.1, this.2, ?_⟩
                    simp only [Obj.gen, List.length_append] at hR
                    refine .own (loc := .blk b c sz2) (by simpa [Obj.gen] using hR) (by omega) ⟨by simp, hroom, .inr rfl⟩
                · obtain ⟨u0, hl1, _⟩ := hsrc hr
                  obtain ⟨us, hu1, hu2⟩ := hsrc hdr.1
                  obtain ⟨_, old, ho1, ho2, ho3⟩ := src_cells (P := P) hdr.1 xs.length hs hels (Nat.le_refl _) hszs h0
                  rw [List.take_length] at ho3
                  have hold : RL G (flat xs) old := ⟨by rw [ho2, flat_length hszs], ho3⟩
                  have hrun := hAp.2 (w := w) (A := A) (slen := xs.length) (c := c) hl1 hu1 hroom (by rw [hib]; exact hb) hbn
                    (by rw [hisz]; exact ho1)
                  refine ⟨_, _, hrun, ?_⟩
                  have hgc := grownCap_ge (w := w) (need := xs.length + ys.length) (old := c) (e := e)
                  have hg63 := grownCap_63 (w := w) (need := xs.length + ys.length) (old := c) (e := e) hbn
                  generalize grownCap w (xs.length + ys.length) c e = nc at *
                  have hzs : zr.cells.size = sz' := by rw [((ofVal_VR (G := G) hov).rl).1, hzl]
                  have hle := Gh.le_addR G id (Obj.buf sz' m (xs ++ ys)).gen (.blk w.drew.heap.size nc sz')
                  have hR := Gh.addR_self G id (Obj.buf sz' m (xs ++ ys)).gen (.blk w.drew.heap.size nc sz')
                  have := hdr.1.move (cap := nc) (sz := sz') (o := .cells (old ++ us ++ Builtin.zeroCells zr.cells (nc - (xs.length + ys.length))) e) (ob' := .buf sz' m (xs ++ ys)) hL
                    (fun g l hg => by
                      have := hr.rg _ _ _ _ _ _ hg hL
                      show g < (xs ++ ys).length
                      rw [List.length_append]; omega) ⟨_, _, _, rfl⟩
                    ⟨by simp; omega, hall2, _, hR, rfl, ⟨by simpa using hgc, hg63⟩, _, e, (0, 0), Array.getElem?_push_size, free_new _, by
                      rw [Array.size_append, Array.size_append, hold.1, hu2.1, zeroCells_size, hzs, flat_length hszs, flat_length hysz, ← Nat.add_mul, ← Nat.add_mul]
                      congr 1; omega, fun p hp => (RL.news hold hu2 p hp).mono hle⟩
                  refine ⟨_, this.1, hdr.2.trans this.2, ?_⟩
                  simp only [Obj.gen, List.length_append] at hR ⊢
                  exact .own hR (by omega) ⟨by simp, hgc, .inr (by simp)⟩
            · split at h
              · rename_i _ hc
                obtain ⟨hg, rfl, hszz, hml, hlg, hfit⟩ := hc
                subst hg hszz
                simp only [Option.some.injEq, Prod.mk.injEq] at h
                obtain ⟨rfl, rfl⟩ := h
                obtain ⟨hmx, hszs, loc, hloc, hlo⟩ := hr.ok id _ hL
                obtain ⟨A, c, rfl, hcap⟩ : ∃ A c, rs = .slice A len c ∧ OwnAt loc xs.length 0 A c := by
                  cases hs with
                  | own hid hl ha => have := hr.fn _ _ _ _ hid hloc; subst this; exact ⟨_, _, rfl, ha⟩
                cases loc with
                | obj b => exact hlo.elim
                | ext B O sz2 => obtain ⟨_, hm2, _⟩ := hlo; omega
                | blk b cap sz2 =>
                  have hs2 := hlo.1
                  subst hs2
                  obtain ⟨a1, a2, a3⟩ := hcap
                  have hA := a3.resolve_left (by omega)
                  subst hA
                  obtain ⟨us, hu1, hu2⟩ := hsrc hr
                  have hfl := flat_length hszs
                  have hft := flat_length hysz
                  have hxl : (xs.take len ++ ys ++ xs.drop (len + ys.length)).length = xs.length := by simp; omega
                  have hfx : flat (xs.take len ++ ys ++ xs.drop (len + ys.length)) = setAt (flat xs) (len * sz2) (flat ys) := by
                    rw [flat_append, flat_append, flat_take len hszs, flat_drop _ hszs, setAt, hft, Nat.add_mul]
                  obtain ⟨w', h1, h2, h3⟩ := buf_put (P := P) hr (xs' := xs.take len ++ ys ++ xs.drop (len + ys.length)) hL hloc (by rw [Array.length_toList, hu2.1])
                    (fun p hp => by have := hu2.2 p hp; simpa [Array.getD_eq_getD_getElem?, List.getD_eq_getElem?_getD] using this) hyone hxl
                    (fun x hx => by
                      simp only [List.mem_append] at hx
                      rcases hx with (hx | hx) | hx
                      · exact hszs x (List.mem_of_mem_take hx)
                      · exact hysz x hx
                      · exact hszs x (List.mem_of_mem_drop hx)) hfx (Nat.mul_le_mul_right _ hml)
                    (by rw [hft, hfl, ← Nat.add_mul]; exact Nat.mul_le_mul_right _ hfit)
                  have hrun := hAp.1 (w := w) (A := some ⟨b, 0 * sz2, none⟩) (slen := len) (c := c) hu1 (by omega) (w' := w')
                    (by simp only [add_none, hisz, Nat.zero_mul, Nat.zero_add]; exact h1)
                  refine ⟨_, _, hrun, _, h2, h3, ?_⟩
                  exact .own (loc := .blk b cap sz2) hloc (by omega) ⟨a1, a2, .inr rfl⟩
              · simp at h
          · simp at h
        · rename_i nl xs
          split at h
          · rename_i hc
            obtain ⟨hxall, hb, hbn⟩ := hc
            simp only [Option.some.injEq, Prod.mk.injEq] at h
            obtain ⟨rfl, rfl⟩ := h
            have hxs : ∀ y ∈ xs, y.cells.length = sz := by simpa using hxall
            have hall2 : ∀ y ∈ xs ++ ys, y.cells.length = sz := fun y hy => (List.mem_append.1 hy).elim (hxs y) (hysz y)
            -- the row that is appended to
            obtain ⟨A, rfl, hrow⟩ : ∃ A, rs = .slice A xs.length xs.length ∧ (xs = [] ∨ ∃ (B O : Nat) (vs : Nat → Value), A = some ⟨B, O, none⟩ ∧ ∀ p (hp : p < (flat xs).length), G.K B (O + p) (vs p) ∧ VR G (flat xs)[p] (vs p)) := by
              cases hs with
              | slnil => exact ⟨_, rfl, .inl rfl⟩
              | sl0 hx => exact ⟨_, by rw [hx rfl]; rfl, .inl rfl⟩
              | sl sz2 vs hne hx hc hsz hk hv => exact ⟨_, by rw [hx rfl], .inr ⟨_, _, vs, rfl, fun p hp => ⟨hk p hp, hv p hp⟩⟩⟩
            by_cases hy0 : ys = []
            · subst hy0
              obtain ⟨us, hu1, hu2⟩ := hsrc hr
              have hrun := hAp.1 (w := w) (A := A) (slen := xs.length) (c := xs.length) hu1 (by simp) (w' := w) (by
                have : us = #[] := by apply Array.eq_empty_of_size_eq_zero; rw [hu2.1]; rfl
                subst this
                cases A <;> rfl)
              refine ⟨_, _, hrun, ?_⟩
              simp only [List.length_nil, Nat.add_zero, List.append_nil]
              rcases hrow with rfl | ⟨B, O, vs, rfl, hk⟩
              · have := hr.addExt (sz := sz) (B := 0) (O := 0) (xs := []) (by simp) ⟨fun _ => undef, fun p hp => by simp [flat_nil] at hp⟩
                exact ⟨_, this.1, this.2, .own (Gh.addR_self _ _ _ _) (by simp) ⟨by simp, .inl rfl⟩⟩
              · have := hr.addExt (sz := sz) (B := B) (O := O) (xs := xs) hxs ⟨vs, hk⟩
                exact ⟨_, this.1, this.2, .own (Gh.addR_self _ _ _ _) (by simp) ⟨by simp, .inr (by simp)⟩⟩
            · obtain ⟨u0, hl1, _⟩ := hsrc hr
              obtain ⟨us, hu1, hu2⟩ := hsrc hdr.1
              have hyl : 0 < ys.length := List.length_pos_iff.2 hy0
              obtain ⟨old, ho1, ho2⟩ : ∃ old : Array Value, (Builtin.firstCells sz xs.length (.slice A xs.length xs.length)).run P w.drew = .ok old w.drew ∧ RL G (flat xs) old := by
                rcases hrow with rfl | ⟨B, O, vs, rfl, hk⟩
                · refine ⟨#[], ?_, by simp [RL, flat_nil]⟩
                  cases A <;> simp [Builtin.firstCells, loadCells, loadCellsFrom]
                · obtain ⟨vv, h1, h2, h3⟩ := Reads.load (P := P) (w := w.drew) (G := G) (B := B) (O := O) (cs := flat xs) (fun q hq => ⟨_, hdr.1.kc _ _ _ (hk q hq).1, (hk q hq).2⟩)
                  rw [flat_length hxs] at h1
                  exact ⟨vv, by simpa [Builtin.firstCells] using h1, h2, h3⟩
              have hrun := hAp.2 (w := w) (A := A) (slen := xs.length) (c := xs.length) hl1 hu1 (by omega) (by rw [hib]; exact hb) hbn
                (by rw [hisz]; exact ho1)
              refine ⟨_, _, hrun, ?_⟩
              have hgc := grownCap_ge (w := w) (need := xs.length + ys.length) (old := xs.length) (e := e)
              have hg63 := grownCap_63 (w := w) (need := xs.length + ys.length) (old := xs.length) (e := e) hbn
              generalize grownCap w (xs.length + ys.length) xs.length e = nc at *
              have hzs : zr.cells.size = sz := by rw [((ofVal_VR (G := G) hov).rl).1, hzl]
              have hle := Gh.le_addR G L.length (xs ++ ys).length (.blk w.heap.size nc sz)
              have hok : ObjOK (G.addR L.length (Obj.buf sz xs.length (xs ++ ys)).gen (.blk w.drew.heap.size nc sz))
                  { w.drew with heap := w.drew.heap.push (.cells (old ++ us ++ Builtin.zeroCells zr.cells (nc - (xs.length + ys.length))) e) } L.length (.buf sz xs.length (xs ++ ys)) := by
                refine ⟨by simp, hall2, .blk w.heap.size nc sz, Gh.addR_self _ _ _ _, rfl, ⟨by simpa using hgc, hg63⟩, _, e, (0, 0), Array.getElem?_push_size, free_new _, ?_, fun p hp => (RL.news ho2 hu2 p hp).mono hle⟩
                rw [Array.size_append, Array.size_append, ho2.1, hu2.1, zeroCells_size, hzs, flat_length hxs, flat_length hysz, ← Nat.add_mul, ← Nat.add_mul]
                congr 1; omega
              have := hdr.1.pushObj (.inr ⟨nc, sz, rfl⟩) hok
              refine ⟨_, this.1, hdr.2.trans this.2, ?_⟩
              have hR := Gh.addR_self G L.length (Obj.buf sz xs.length (xs ++ ys)).gen (.blk w.drew.heap.size nc sz)
              simp only [Obj.gen, List.length_append] at hR ⊢
              exact .own hR (by omega) ⟨by simp, hgc, .inr (by simp)⟩
          · simp at h
        · simp at h
      · simp at h
    · simp at h
  · simp at h
theorem append_sound (hr : Rel Z G L w) {t u : TypeId} {ts : Array TypeId} {ty : TypeId} {s x v : V} {rs rx : Value} {L' : List Obj} (ht0 : ts[0]? = some t) (ht1 : ts[1]? = some u)
    (hxu : (∃ k, P.underlying u = some (.slice k)) ∨ P.underlying u = some .string) (hs : VR G s rs) (hx : VR G x rx) (h : pappend P L t s x = some (v, L')) :
    ∃ q w', (Builtin.append_ ts ty #[rs, rx]).run P w = .ok q w' ∧ Done Z G L w v L' q w' :=
  append_core (u := u) hr (fun hel hu hi hiz _ h0 hysz => ⟨_, Ap.row ht0 ht1 hu hxu hi hiz, fun hr1 => by
    obtain ⟨a1, us, a2, a3, a4⟩ := src_cells (P := P) hr1 _ hx hel (Nat.le_refl _) hysz h0
    rw [List.take_length] at a4
    exact ⟨us, ⟨a1, a2⟩, by rw [a3, flat_length hysz], a4⟩⟩) hs h
/-- Copying. -/
theorem copy_sound (hr : Rel Z G L w) {t : TypeId} {ts : Array TypeId} {ty : TypeId} {d s v : V} {rd rs : Value} {L' : List Obj} (ht0 : ts[0]? = some t)
    (hd : VR G d rd) (hs : VR G s rs) (h : pcopy P L t d s = some (v, L')) :
    ∃ q w', (Builtin.copy_ ts ty #[rd, rs]).run P w = .ok q w' ∧ Done Z G L w v L' q w' := by
  unfold pcopy at h
  split at h
  · rename_i e hu
    split at h
    · rename_i sz ys hsz hel
      split at h
      · rename_i hcond
        obtain ⟨h0, hall⟩ := hcond
        have hys : ∀ y ∈ ys, y.cells.length = sz ∧ ∀ c ∈ y.cells, c.one = true := by
          intro y hy
          have := List.all_eq_true.1 hall y hy
          simpa using this
        have hysz : ∀ y ∈ ys, y.cells.length = sz := fun y hy => (hys y hy).1
        have hcore : ∀ (A : Option Addr) (len c : Nat), rd = .slice A len c →
            (∃ us : Array Value, us.size = (flat (ys.take len)).length ∧ (∀ p (hp : p < (flat (ys.take len)).length), VR G (flat (ys.take len))[p] (us.toList.getD p undef)) ∧
              ∀ w', (match A with | some a => storeCells a us.toList | none => pure () : Sem Unit).run P w = .ok () w' →
                (Builtin.copy_ ts ty #[rd, rs]).run P w = .ok (.int .i64 (min ys.length len : Nat)) w') := by
          rintro A len c rfl
          obtain ⟨a1, us, a2, a3, a4⟩ := src_cells (P := P) hr (min ys.length len) hs hel (Nat.min_le_left _ _) hysz h0
          have htk : ys.take (min ys.length len) = ys.take len := by
            by_cases hle : ys.length ≤ len
            · rw [Nat.min_eq_left hle, List.take_length, List.take_of_length_le hle]
            · rw [Nat.min_eq_right (by omega)]
          rw [htk] at a4
          have hlen : (ys.take len).length = min ys.length len := by simp; omega
          refine ⟨us, by rw [a3, flat_length (fun y hy => hysz y (List.mem_of_mem_take hy)), hlen], fun p hp => ?_, fun w' hw => ?_⟩
          · have := a4 p hp
            simpa [Array.getD_eq_getD_getElem?, List.getD_eq_getElem?_getD] using this
          · have hmin : Nat.min ys.length len = min ys.length len := rfl
            cases A with
            | none =>
              simp only [Sem.run_pure, Result.ok.injEq, true_and] at hw
              subst hw
              simp [Builtin.copy_, ht0, run_und hu, run_sizeOf hsz, a1, hmin, a2, goInt]
            | some a =>
              simp [Builtin.copy_, ht0, run_und hu, run_sizeOf hsz, a1, hmin, a2, goInt]
              rw [hw]; rfl
        split at h
        · rename_i id off len gen
          split at h
          · rename_i sz' m xs hL
            split at h
            · rename_i hc
              obtain ⟨hg, hol, hszz, hmo⟩ := hc
              subst hg hszz
              simp only [Option.some.injEq, Prod.mk.injEq] at h
              obtain ⟨rfl, rfl⟩ := h
              obtain ⟨hmx, hszs, loc, hloc, hlo⟩ := hr.ok id _ hL
              obtain ⟨A, c, rfl, hcap⟩ : ∃ A c, rd = .slice A len c ∧ OwnAt loc xs.length off A c := by
                cases hd with
                | own hid hl ha => have := hr.fn _ _ _ _ hid hloc; subst this; exact ⟨_, _, rfl, ha⟩
              obtain ⟨us, hu1, hu2, hu3⟩ := hcore A len c rfl
              have hlen : (ys.take len).length = min ys.length len := by simp; omega
              have hszt : ∀ y ∈ ys.take len, y.cells.length = sz' := fun y hy => hysz y (List.mem_of_mem_take hy)
              by_cases hn : min ys.length len = 0
              · have hty : ys.take len = [] := List.length_eq_zero_iff.1 (by omega)
                have hus : us = #[] := by apply Array.eq_empty_of_size_eq_zero; rw [hu1, hty]; rfl
                subst hus
                refine ⟨_, w, hu3 w (by cases A <;> rfl), ?_⟩
                have : xs.take off ++ ys.take len ++ xs.drop (off + min ys.length len) = xs := by
                  rw [hty, hn, List.append_nil, Nat.add_zero, List.take_append_drop]
                rw [this, List.set_self hL]
                exact Done.same hr (.int _ _)
              · cases loc with
                | obj b => exact hlo.elim
                | ext B O sz2 => obtain ⟨_, hm2, _⟩ := hlo; omega
                | blk b cap sz2 =>
                  have hs2 := hlo.1
                  subst hs2
                  obtain ⟨a1, a2, a3⟩ := hcap
                  have hA := a3.resolve_left (by omega)
                  subst hA
                  have hfl := flat_length hszs
                  have hft := flat_length hszt
                  have hxl : (xs.take off ++ ys.take len ++ xs.drop (off + min ys.length len)).length = xs.length := by simp; omega
                  have hfx : flat (xs.take off ++ ys.take len ++ xs.drop (off + min ys.length len)) = setAt (flat xs) (off * sz2) (flat (ys.take len)) := by
                    rw [flat_append, flat_append, flat_take off hszs, flat_drop _ hszs, setAt, hft, hlen, Nat.add_mul]
                  obtain ⟨w', h1, h2, h3⟩ := buf_put (P := P) hr (xs' := xs.take off ++ ys.take len ++ xs.drop (off + min ys.length len)) hL hloc (by rw [Array.length_toList, hu1]) hu2
                    (fun x hx => by
                      simp only [flat, List.mem_flatMap] at hx
                      obtain ⟨y, hy, hx⟩ := hx
                      exact (hys y (List.mem_of_mem_take hy)).2 x hx) hxl
                    (fun x hx => by
                      simp only [List.mem_append] at hx
                      rcases hx with (hx | hx) | hx
                      · exact hszs x (List.mem_of_mem_take hx)
                      · exact hszt x hx
                      · exact hszs x (List.mem_of_mem_drop hx)) hfx (Nat.mul_le_mul_right _ hmo)
                    (by rw [hft, hfl, hlen, ← Nat.add_mul]; exact Nat.mul_le_mul_right _ (by omega))
                  exact ⟨_, w', hu3 w' h1, _, h2, h3, .int _ _⟩
            · simp at h
          · simp at h
        · rename_i id off len
          split at h
          · rename_i cs hL
            split at h
            · rename_i hc
              obtain ⟨hol, hsz1⟩ := hc
              subst hsz1
              simp only [Option.some.injEq, Prod.mk.injEq] at h
              obtain ⟨rfl, rfl⟩ := h
              cases hd with
              | bsl hid hc ha =>
                rename_i b c A
                obtain ⟨us, hu1, hu2, hu3⟩ := hcore A len c rfl
                have hlen : (ys.take len).length = min ys.length len := by simp; omega
                have hszt : ∀ y ∈ ys.take len, y.cells.length = 1 := fun y hy => hysz y (List.mem_of_mem_take hy)
                have hft := flat_length hszt
                by_cases hn : min ys.length len = 0
                · have hty : ys.take len = [] := List.length_eq_zero_iff.1 (by omega)
                  have hus : us = #[] := by apply Array.eq_empty_of_size_eq_zero; rw [hu1, hty]; rfl
                  subst hus
                  refine ⟨_, w, hu3 w (by cases A <;> rfl), ?_⟩
                  have : setAt cs off (flat (ys.take len)) = cs := by
                    rw [hty, flat_nil, setAt, List.append_nil, List.length_nil, Nat.add_zero, List.take_append_drop]
                  rw [this, List.set_self hL]
                  exact Done.same hr (.int _ _)
                · have hA := ha.resolve_left (by omega)
                  subst hA
                  obtain ⟨w', h1, h2, h3⟩ := box_put (P := P) hr hL hid (by rw [Array.length_toList, hu1]) hu2
                    (fun x hx => by
                      simp only [flat, List.mem_flatMap] at hx
                      obtain ⟨y, hy, hx⟩ := hx
                      exact (hys y (List.mem_of_mem_take hy)).2 x hx) (off := off) (by rw [hft, hlen]; omega)
                  exact ⟨_, w', hu3 w' h1, _, h2, h3, .int _ _⟩
            · simp at h
          · simp at h
        · simp at h
      · simp at h
    · simp at h
  · simp at h

theorem minmax_sound (isMax : Bool) : ∀ (xs : List V) (x v : V) (r : Value) (rs : List Value), VR G x r → rs.length = xs.length → (∀ p (h : p < xs.length), VR G xs[p] (rs.getD p undef)) →
    pmm isMax x xs = some v → ∃ q, (rs.foldlM (if isMax then Builtin.max2 else Builtin.min2) r : Sem Value).run P w = .ok q w ∧ VR G v q
  | [], x, v, r, rs, hx, hl, _, h => by
    have : rs = [] := List.length_eq_zero_iff.1 (by simpa using hl)
    subst this
    unfold pmm at h
    simp only [Option.some.injEq] at h
    subst h
    exact ⟨r, rfl, hx⟩
  | y :: ys, x, v, r, rs, hx, hl, hv, h => by
    cases rs with
    | nil => simp at hl
    | cons s rs =>
      have hy := hv 0 (by simp)
      simp only [List.getElem_cons_zero, List.getD_cons_zero] at hy
      cases x <;> cases y <;> simp only [pmm, reduceCtorEq] at h
      rename_i k a k2 b
      cases hx; cases hy
      obtain ⟨q, h1, h2⟩ := minmax_sound isMax ys _ v (.int k (if isMax then (if b > a then b else a) else (if b < a then b else a))) rs (.int _ _) (by simpa using hl)
        (fun p hp => by have := hv (p + 1) (by simpa using hp); simpa using this) h
      refine ⟨q, ?_, h2⟩
      rw [List.foldlM_cons, Sem.run_bind]
      cases isMax
      · simp only [Bool.false_eq_true, if_false, Builtin.min2, Sem.run_pure, Result.andThen_ok] at h1 ⊢; exact h1
      · simp only [if_true, Builtin.max2, Sem.run_pure, Result.andThen_ok] at h1 ⊢; exact h1
end Go.Pv
