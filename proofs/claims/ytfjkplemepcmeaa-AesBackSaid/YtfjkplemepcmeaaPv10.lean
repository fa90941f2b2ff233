import Derived.Test.YtfjkplemepcmeaaPv9
import Derived.Lib.ConvBytes
set_option linter.unusedVariables false
set_option linter.unusedSectionVars false
/- 'pop' is right: all operations together. -/
set_option linter.unusedSimpArgs false
namespace Go.Pv
variable {P : Program} {Z : Nat → Go.Obj → Prop} {G : Gh} {L : List Obj} {w : World}

theorem chunk_spec (sz : Nat) (ag : Bool) (h : ag = true ∨ sz = 1) : ∀ (n : Nat) (cs : List V), cs.length = n * sz → (∀ c ∈ cs, c.one = true) →
    (chunk sz ag n cs).length = n ∧ flat (chunk sz ag n cs) = cs ∧ ∀ x ∈ chunk sz ag n cs, x.cells.length = sz
  | 0, cs, hl, _ => by
    have : cs = [] := List.length_eq_zero_iff.1 (by omega)
    subst this
    exact ⟨rfl, rfl, by simp [chunk]⟩
  | n + 1, cs, hl, ho => by
    rw [Nat.succ_mul] at hl
    obtain ⟨h1, h2, h3⟩ := chunk_spec sz ag h n (cs.drop sz) (by simp; omega) (fun c hc => ho c (List.mem_of_mem_drop hc))
    have hc : (if ag then V.agg (cs.take sz) else cs.headD .undef).cells = cs.take sz := by
      cases ag with
      | true => rfl
      | false =>
        have hs : sz = 1 := by simpa using h
        subst hs
        cases cs with
        | nil => simp at hl
        | cons c cs =>
          have := ho c (by simp)
          simp only [Bool.false_eq_true, if_false, List.headD_cons, List.take_succ_cons, List.take_zero]
          cases c <;> first | rfl | (simp [V.one] at this)
    refine ⟨by simp [chunk, h1], by rw [chunk, flat_cons, hc, h2, List.take_append_drop], fun x hx => ?_⟩
    simp only [chunk, List.mem_cons] at hx
    rcases hx with rfl | hx
    · rw [hc]; simp; omega
    · exact h3 x hx

theorem flat_repl (n : Nat) (z : V) : flat (List.replicate n z) = repl n z.cells := by
  induction n with
  | zero => rfl
  | succ n ih => rw [List.replicate_succ, flat_cons, ih]; rfl

theorem zeros_RL {z : V} {zr : Value} {sz n : Nat} (hz : RL G z.cells zr.cells) (hl : z.cells.length = sz) (h0 : 0 < sz) :
    RL G (repl n z.cells) ((Array.range (n * sz)).map (zr.cells[· % zr.cells.size]!)) := by
  have hs : zr.cells.size = sz := by rw [hz.1, hl]
  have hszs : ∀ x ∈ List.replicate n z, x.cells.length = sz := fun x hx => by rw [List.eq_of_mem_replicate hx]; exact hl
  have hlen : (repl n z.cells).length = n * sz := by rw [← flat_repl, flat_length hszs, List.length_replicate]
  refine ⟨by simp [hlen], fun p hp => ?_⟩
  have hp2 : p < n * sz := by omega
  have hpm : p % sz < zr.cells.size := by rw [hs]; exact Nat.mod_lt _ h0
  have hg : ((Array.range (n * sz)).map (zr.cells[· % zr.cells.size]!)).getD p undef = zr.cells.getD (p % sz) undef := by
    simp [Array.getD_eq_getD_getElem?, hp2, hs, hpm, Nat.mod_lt _ h0]
  rw [hg]
  have hv := flat_repl_get (n := n) hl (p := p) (by rw [flat_repl]; exact hp) h0
  have hv2 : (repl n z.cells)[p] = z.cells[p % sz]'(by rw [hl]; exact Nat.mod_lt _ h0) := by
    have h1 : (repl n z.cells)[p]? = some (z.cells[p % sz]'(by rw [hl]; exact Nat.mod_lt _ h0)) := by
      rw [← hv, ← List.getElem?_eq_getElem]; rw [flat_repl]
    rw [List.getElem?_eq_getElem hp] at h1
    exact Option.some.inj h1
  rw [hv2]
  exact hz.2 _ _

theorem zeros_core (hr : Rel Z G L w) {t u : TypeId} {k : IntKind} {ts : Array TypeId} {ty : TypeId} {s x v : V} {rs rx : Value} {L' : List Obj} (ht0 : ts[0]? = some t) (ht1 : ts[1]? = some u)
    (hxu : P.underlying u = some (.int k)) (hs : VR G s rs) (hx : VR G x rx) (h : pappendY P L t s (pzeros P t x) = some (v, L')) :
    ∃ q w', (Builtin.append_ ts ty #[rs, rx]).run P w = .ok q w' ∧ Done Z G L w v L' q w' := by
  cases hp : pzeros P t x with
  | none =>
    rw [hp] at h
    simp only [pappendY] at h
    split at h
    · split at h
      · simp at *
      · simp at h
    · simp at h
  | some ys =>
    rw [hp] at h
    unfold pzeros at hp
    split at hp
    · rename_i e n hu0
      split at hp
      · rename_i z hz0
        split at hp
        · rename_i hc
          obtain ⟨hn0, hn1, hb⟩ := hc
          simp only [Option.some.injEq] at hp
          cases hx
          obtain ⟨m, rfl⟩ := Int.eq_ofNat_of_zero_le hn0
          rw [Int.toNat_natCast] at hp
          subst hp
          refine append_core (u := u) hr (fun {e' i zr ys} hel hu hi hiz hzs h0 hysz => ?_) hs h
          obtain rfl : e = e' := by rw [hu0] at hu; simpa using hu
          have hys := Option.some.inj hel
          subst hys
          rw [List.length_replicate]
          obtain ⟨i', zr', hi', hiz', hov⟩ := zeroV_info hz0
          obtain rfl := Option.some.inj (hi.symm.trans hi')
          obtain rfl := Option.some.inj (hiz.symm.trans hiz')
          refine ⟨_, Ap.zeros ht0 ht1 hu hxu hi hiz (by omega) (by simpa [byT, hi] using hb) hzs, fun _ => ⟨_, rfl, ?_⟩⟩
          have hzc : z.cells.length = i.size := by rw [← hzs, ((ofVal_VR (G := G) hov).rl).1]
          rw [flat_repl]
          have := zeros_RL (G := G) (n := m) (ofVal_VR hov).rl hzc h0
          rw [← hzs] at this
          exact this
        · simp at hp
      · simp at hp
    · simp at hp
theorem buildSlice_sound (hr : Rel Z G L w) {t : TypeId} {len : Nat} {parts : List (Nat × V)} {rparts : Array (Nat × Value)} {v : V} (hl : parts.length = rparts.size)
    (hp : ∀ k (h : k < parts.length) (h' : k < rparts.toList.length), parts[k].1 = rparts.toList[k].1 ∧ VR G parts[k].2 rparts.toList[k].2) (h : pbuildSlice P t len parts = some v) :
    ∃ q w', (Instr.buildSlice t len rparts).run P w = .ok q w' ∧ Done Z G L w v L q w' := by
  unfold pbuildSlice at h
  split at h
  · rename_i e hu
    split at h
    · rename_i sz z ag hs hz hag
      split at h
      · rename_i hcond
        obtain ⟨h0, hmax, hzl, hagz⟩ := hcond
        split at h
        · rename_i cs hf
          split at h
          · rename_i hone
            simp only [Option.some.injEq] at h; subst h
            have hone' : ∀ c ∈ cs, c.one = true := by simpa using hone
            obtain ⟨i, zr, hi, hiz, hov⟩ := zeroV_info hz
            have hzr := (ofVal_VR (G := G) hov).rl
            obtain ⟨c', h3, h4⟩ := fill_sound (zeros_RL hzr hzl h0) hl hp hf
            have hcl : cs.length = len * sz := by
              have h5 : ∀ (ps : List (Nat × V)) (a b : List V), fillV (fun i => some (i * sz, sz)) a ps = some b → b.length = a.length := by
                intro ps
                induction ps with
                | nil => intro a b hab; simp only [fillV, Option.some.injEq] at hab; rw [hab]
                | cons x ps ih =>
                  intro a b hab
                  obtain ⟨i, y⟩ := x
                  simp only [fillV] at hab
                  split at hab
                  · simp at hab
                  · rename_i hcc
                    rw [ih _ _ hab, setAt_length (by omega)]
              rw [h5 _ _ _ hf]
              have := (zeros_RL (G := G) (n := len) hzr hzl h0).1
              simpa using this.symm
            obtain ⟨k1, k2, k3⟩ := chunk_spec sz ag hagz len cs hcl hone'
            have hrun : (Instr.buildSlice t len rparts).run P w = .ok (.slice (some ⟨w.heap.size, 0, none⟩) len len) { w with heap := w.heap.push (.cells c' e) } := by
              have hm : ¬ (len * sz > 2 ^ 24) := by omega
              simp only [Instr.buildSlice, Sem.run_bind, run_und hu, Result.andThen_ok, run_sizeOf hs, hm, if_false, Sem.run_pure]
              by_cases hz0 : len * sz = 0
              · have hrz : Array.range 0 = #[] := by decide
                have hm0 : ∀ f : Nat → Value, (Array.range 0).map f = #[] := fun f => by rw [hrz]; simp
                simp only [hz0, if_true, Sem.run_bind, Sem.run_pure, Result.andThen_ok, hm0]
                rw [hz0, hm0] at h3
                rw [h3]
                simp [newRow]
              · simp only [hz0, if_false, Sem.run_bind, run_zeroValue hi hiz, Sem.run_pure, Result.andThen_ok]
                rw [h3]
                simp [newRow]
            refine ⟨_, _, hrun, ?_⟩
            have hps := hr.pushReal (.cells c' e)
            have hnh : ¬ Held G L w.heap.size := fun hh => Nat.lt_irrefl _ (hr.held_lt hh)
            have hak := hps.1.addK hnh (by simp)
            refine ⟨_, hak.1, hak.2 hps.2 (Nat.le_refl _), ?_⟩
            have hcell : ∀ p, p < cs.length → ({ w with heap := w.heap.push (.cells c' e) } : World).cell? ⟨w.heap.size, p, none⟩ = some (c'.getD p undef) := fun p hp =>
              cell_of_heap (c := c') (e := e) (fr := (0, 0)) Array.getElem?_push_size (by rw [h4.1]; exact hp)
            by_cases hlen0 : len = 0
            · subst hlen0
              simp only [chunk]
              exact .sl0 (fun _ => rfl)
            · have hne : chunk sz ag len cs ≠ [] := by intro he; rw [he] at k1; simp at k1; omega
              have := VR.sl (G := G.addK fun B' o v => B' = w.heap.size ∧ ({ w with heap := w.heap.push (.cells c' e) } : World).cell? ⟨w.heap.size, o, none⟩ = some v) (exact := true)
                (xs := chunk sz ag len cs) (B := w.heap.size) (O := 0) (c := len) sz (fun p => c'.getD p undef) hne (fun _ => k1.symm) (Nat.le_of_eq k1) k3
                (fun p hp => by rw [k2] at hp; exact .inr ⟨rfl, by rw [Nat.zero_add]; exact hcell p hp⟩)
                (fun p hp => by
                  have hp' := hp
                  rw [k2] at hp'
                  have := (h4.2 p hp').mono (Gh.le_addK G fun B' o v => B' = w.heap.size ∧ ({ w with heap := w.heap.push (.cells c' e) } : World).cell? ⟨w.heap.size, o, none⟩ = some v)
                  simpa [k2] using this)
              rw [k1] at this
              exact this
          · simp at h
        · simp at h
      · simp at h
    · simp at h
  · simp at h

theorem toBytes_cons {v : V} {vs : List V} {l : List UInt8} (h : toBytes (v :: vs) = some l) : ∃ n, v = .int .u8 n ∧ ∃ l', toBytes vs = some l' ∧ UInt8.ofNat n.toNat :: l' = l := by
  cases v with
  | int k n => cases k <;> simp [toBytes] at h <;> exact ⟨n, rfl, h⟩
  | _ => simp [toBytes] at h

theorem toBytes_spec : ∀ {vs : List V} {l : List UInt8}, toBytes vs = some l → l.length = vs.length ∧ ∀ p (hp : p < vs.length) (hq : p < l.length), ∃ n, vs[p] = .int .u8 n ∧ l[p] = UInt8.ofNat n.toNat
  | [], l, h => by simp [toBytes] at h; subst h; exact ⟨rfl, fun p hp => absurd hp (Nat.not_lt_zero p)⟩
  | v :: vs, l, h => by
    obtain ⟨n, rfl, l', h1, rfl⟩ := toBytes_cons h
    obtain ⟨a, b⟩ := toBytes_spec h1
    refine ⟨by simp [a], fun p hp hq => ?_⟩
    cases p with
    | zero => exact ⟨n, rfl, rfl⟩
    | succ p => simpa using b p (by simpa using hp) (by simpa using hq)

theorem run_push_loop (f : Value → ByteArray → Sem (ForInStep ByteArray)) (hf : ∀ n r, f (.int .u8 n) r = pure (.yield (r.push (UInt8.ofNat n.toNat)))) :
    ∀ (vs : List V) (us : List Value) (l : List UInt8) (s : ByteArray) (w : World), toBytes vs = some l → us.length = vs.length → (∀ p (h : p < vs.length), VR G vs[p] (us.getD p undef)) →
    (forIn us s f).run P w = .ok ⟨(s.data.toList ++ l).toArray⟩ w
  | [], us, l, s, w, h, hl, _ => by
    have : us = [] := List.length_eq_zero_iff.1 (by simpa using hl)
    subst this
    simp [toBytes] at h; subst h
    simp
  | v :: vs, us, l, s, w, h, hl, hv => by
    cases us with
    | nil => simp at hl
    | cons u us =>
      have h0 := hv 0 (by simp)
      simp only [List.getElem_cons_zero, List.getD_cons_zero] at h0
      obtain ⟨n, rfl, l', h1, rfl⟩ := toBytes_cons h
      cases h0
      have := run_push_loop f hf vs us l' (s.push (UInt8.ofNat n.toNat)) w h1 (by simpa using hl) (fun p hp => by have := hv (p + 1) (by simpa using hp); simpa using this)
      rw [List.forIn_cons, Sem.run_bind, hf]
      simp only [Sem.run_pure, Result.andThen_ok]
      rw [this]
      simp

theorem bytesToString_sound (hr : Rel Z G L w) {x : V} {r : Value} {ys : List V} {l : List UInt8} (hx : VR G x r) (hns : ∀ s, x ≠ .str s) (hy : elems L x = some ys) (hb : toBytes ys = some l) :
    (Conv.bytesToString r).run P w = .ok (.string ⟨l.toArray⟩) w := by
  rcases elems_sound hr hx hy with ⟨s, rfl, rfl⟩ | ⟨A, c, rfl, hc, hread⟩
  · exact absurd rfl (hns s)
  · have hbl := (toBytes_spec hb).1
    cases A with
    | none =>
      have : ys = [] := by
        rcases hread with h | ⟨B, O, sz, hA, _⟩
        · exact h
        · simp at hA
      subst this
      simp at hbl; subst hbl
      rfl
    | some a =>
      obtain ⟨us, h1, h2, h3⟩ : ∃ us : Array Value, (loadCells a ys.length).run P w = .ok us w ∧ us.size = ys.length ∧ ∀ p (hp : p < ys.length), VR G ys[p] (us.toList.getD p undef) := by
        rcases hread with rfl | ⟨B, O, sz, hA, hsz, hrd⟩
        · exact ⟨#[], rfl, rfl, fun p hp => absurd hp (Nat.not_lt_zero p)⟩
        · simp only [Option.some.injEq] at hA
          subst hA
          have hfl : flat ys = ys := by
            have : ∀ zs : List V, (∀ z ∈ zs, z.cells = [z]) → flat zs = zs := by
              intro zs hz
              induction zs with
              | nil => rfl
              | cons z zs ih => rw [flat_cons, hz z (by simp), ih (fun y hy => hz y (by simp [hy]))]; rfl
            apply this
            intro z hz
            obtain ⟨p, hp, rfl⟩ := List.getElem_of_mem hz
            obtain ⟨n, hn, _⟩ := (toBytes_spec hb).2 p hp (by omega)
            rw [hn]; rfl
          rw [hfl] at hrd
          obtain ⟨vs, k1, k2, k3⟩ := hrd.load (P := P)
          exact ⟨vs, k1, k2, fun p hp => by have := k3 p hp; simpa [Array.getD_eq_getD_getElem?, List.getD_eq_getElem?_getD] using this⟩
      simp only [Conv.bytesToString, Sem.run_bind, h1, Result.andThen_ok]
      rw [← Array.forIn_toList, run_push_loop (G := G) _ (fun n r => rfl) ys us.toList l ByteArray.empty w hb (by simpa using h2) h3]
      simp

theorem clear_sound (hr : Rel Z G L w) {t : TypeId} {ts : Array TypeId} {ty : TypeId} {x v : V} {rx : Value} {L' : List Obj} (ht0 : ts[0]? = some t)
    (hx : VR G x rx) (h : pclear P L t x = some (v, L')) :
    ∃ q w', (Builtin.clear_ ts ty #[rx]).run P w = .ok q w' ∧ Done Z G L w v L' q w' := by
  unfold pclear at h
  split at h
  · rename_i e id off len gen hu
    split at h
    · rename_i sz z sz' m xs hsz hz hL
      split at h
      · rename_i hc
        obtain ⟨h0, hzl, hz1, hg, hol, hszz, hmo⟩ := hc
        subst hg hszz
        simp only [Option.some.injEq, Prod.mk.injEq] at h
        obtain ⟨rfl, rfl⟩ := h
        obtain ⟨i, zr, hi, hiz, hov⟩ := zeroV_info hz
        have hzr := (ofVal_VR (G := G) hov).rl
        obtain ⟨hmx, hszs, loc, hloc, hlo⟩ := hr.ok id _ hL
        obtain ⟨A, c, rfl, hcap⟩ : ∃ A c, rx = .slice A len c ∧ OwnAt loc xs.length off A c := by
          cases hx with
          | own hid hl ha => have := hr.fn _ _ _ _ hid hloc; subst this; exact ⟨_, _, rfl, ha⟩
        have hvt : VR G (V.tup []) (.tuple #[]) := .tup rfl (fun p hp => absurd hp (Nat.not_lt_zero p))
        by_cases hn : len = 0
        · subst hn
          refine ⟨_, w, by cases A <;> simp [Builtin.clear_, ht0, run_und hu] <;> rfl, ?_⟩
          simp only [List.replicate_zero, List.append_nil, Nat.add_zero, List.take_append_drop]
          rw [List.set_self hL]
          exact Done.same hr hvt
        · cases loc with
          | obj b => exact hlo.elim
          | ext B O sz2 => obtain ⟨_, hm2, _⟩ := hlo; omega
          | blk b cap sz2 =>
            have hs2 := hlo.1
            subst hs2
            obtain ⟨a1, a2, a3⟩ := hcap
            have hA := a3.resolve_left (by omega)
            subst hA
            have hfl := flat_length hszs
            have hrz : RL G (repl len z.cells) (Builtin.zeroCells zr.cells len) := by
              have := zeros_RL (G := G) (n := len) hzr hzl h0
              have hs9 : zr.cells.size = sz2 := by rw [hzr.1, hzl]
              rw [← hs9] at this
              exact this
            have hfr : flat (List.replicate len z) = repl len z.cells := by rw [flat_repl]
            have hlr : (repl len z.cells).length = len * sz2 := by simp [repl, hzl]
            have hszr : ∀ y ∈ List.replicate len z, y.cells.length = sz2 := fun y hy => by rw [List.eq_of_mem_replicate hy]; exact hzl
            have hxl : (xs.take off ++ List.replicate len z ++ xs.drop (off + len)).length = xs.length := by simp; omega
            have hfx : flat (xs.take off ++ List.replicate len z ++ xs.drop (off + len)) = setAt (flat xs) (off * sz2) (repl len z.cells) := by
              rw [flat_append, flat_append, flat_take off hszs, flat_drop _ hszs, setAt, hfr, hlr, Nat.add_mul]
            obtain ⟨w', h1, h2, h3⟩ := buf_put (P := P) hr (xs' := xs.take off ++ List.replicate len z ++ xs.drop (off + len)) (us := (Builtin.zeroCells zr.cells len).toList) hL hloc (by rw [Array.length_toList]; exact hrz.1)
              (fun p hp => by have := hrz.2 p hp; simpa [Array.getD_eq_getD_getElem?, List.getD_eq_getElem?_getD] using this)
              (fun x hx => by
                simp only [repl, List.mem_flatten] at hx
                obtain ⟨y, hy, hx⟩ := hx
                rw [List.eq_of_mem_replicate hy] at hx
                exact hz1 x hx) hxl
              (fun x hx => by
                simp only [List.mem_append] at hx
                rcases hx with (hx | hx) | hx
                · exact hszs x (List.mem_of_mem_take hx)
                · exact hszr x hx
                · exact hszs x (List.mem_of_mem_drop hx)) hfx (Nat.mul_le_mul_right _ hmo)
              (by rw [hlr, hfl, ← Nat.add_mul]; exact Nat.mul_le_mul_right _ hol)
            refine ⟨_, w', ?_, _, h2, h3, hvt⟩
            obtain ⟨l, rfl⟩ : ∃ l, len = l + 1 := ⟨len - 1, by omega⟩
            simp [Builtin.clear_, ht0, run_und hu, run_zeroValue hi hiz]
            rw [h1]; rfl
      · simp at h
    · simp at h
  · simp at h
theorem cap_sound (hr : Rel Z G L w) {t : TypeId} {ts : Array TypeId} {ty : TypeId} {x v : V} {rx : Value} (ht0 : ts[0]? = some t) (hx : VR G x rx) (h : pcap P t x = some v) :
    ∃ q, (Builtin.cap_ ts ty #[rx]).run P w = .ok q w ∧ VR G v q := by
  unfold pcap at h
  split at h
  · rename_i nl xs hu
    simp only [Option.some.injEq] at h
    subst h
    refine ⟨.int .i64 (xs.length : Nat), ?_, .int _ _⟩
    cases hx with
    | slnil => simp [Builtin.cap_, ht0, run_und hu]; rfl
    | sl0 hx => simp [Builtin.cap_, ht0, run_und hu, hx rfl]; rfl
    | sl sz vs hne hx hc hsz hk hv => simp [Builtin.cap_, ht0, run_und hu, hx rfl]; rfl
  · simp at h
theorem bytesWorld_push (w : World) (e : TypeId) (s : ByteArray) : Lib.bytesWorld w e s = { w.drew with heap := w.drew.heap.push (.cells (Lib.bytesCells w e s) e ((Lib.bytesCells w e s).size, (Lib.bytesCells w e s).size + 1)) } := by
  simp [Lib.bytesWorld, World.freeze, World.alloc, World.drew, -World.alloc_eq, -World.drew_eq]
  refine Array.ext (by simp) fun j h1 h2 => ?_
  rw [Array.getElem_modify]
  by_cases hj : w.heap.size = j
  · subst hj; simp
  · have : j < w.heap.size := by simp at h1; omega
    simp [hj, Array.getElem_push, this]
/-- A string's bytes, in a row of their own. -/
theorem strBytes_sound (hr : Rel Z G L w) (s : ByteArray) (e : TypeId) :
    Done Z G L w (.sl false false (s.data.toList.map fun b => .int .u8 b.toNat)) L (.slice (some ⟨w.heap.size, 0, none⟩) s.size (grownCap w s.size 0 e)) (Lib.bytesWorld w e s) := by
  have hd := drew_rel hr
  have hps := hd.1.pushReal (.cells (Lib.bytesCells w e s) e ((Lib.bytesCells w e s).size, (Lib.bytesCells w e s).size + 1))
  rw [← bytesWorld_push] at hps
  have hev := hd.2.trans hps.2
  have hnh : ¬ Held G L w.heap.size := fun hh => Nat.lt_irrefl _ (hr.held_lt hh)
  have hak := hps.1.addK hnh (by rw [Lib.bytesWorld_size]; omega)
  refine ⟨_, hak.1, hak.2 hev (Nat.le_refl _), ?_⟩
  have hcell := Lib.bytesWorld_cell w e s
  have hsz : s.data.toList.length = s.size := by simp
  have hcap : s.size ≤ grownCap w s.size 0 e := grownCap_ge
  by_cases h0 : s.data.toList = []
  · rw [h0] at hsz ⊢
    have h1 : s.size = 0 := by simpa using hsz.symm
    rw [h1]
    exact .sl0 (fun h => by cases h)
  · have hlen : (s.data.toList.map fun b => V.int .u8 b.toNat).length = s.size := by rw [List.length_map, hsz]
    have hflat : flat (s.data.toList.map fun b => V.int .u8 b.toNat) = s.data.toList.map fun b => V.int .u8 b.toNat := by
      have : ∀ zs : List UInt8, flat (zs.map fun b => V.int .u8 b.toNat) = zs.map fun b => V.int .u8 b.toNat := by
        intro zs
        induction zs with
        | nil => rfl
        | cons z zs ih => rw [List.map_cons, flat_cons, ih]; rfl
      exact this _
    have := VR.sl (G := G.addK fun B' o v => B' = w.heap.size ∧ (Lib.bytesWorld w e s).cell? ⟨w.heap.size, o, none⟩ = some v) (exact := false)
      (xs := s.data.toList.map fun b => V.int .u8 b.toNat) (B := w.heap.size) (O := 0) (c := grownCap w s.size 0 e) 1 (fun p => .int .u8 (s.data.toList.getD p 0).toNat)
      (by simpa using h0) (fun h => by cases h) (by rw [hlen]; exact hcap) (fun x hx => by obtain ⟨b, _, rfl⟩ := List.mem_map.1 hx; rfl)
      (fun p hp => by
        rw [hflat, hlen] at hp
        exact .inr ⟨rfl, by rw [Nat.zero_add]; exact hcell p hp⟩)
      (fun p hp => by
        have hp' := hp
        rw [hflat, hlen] at hp'
        have h2 : (flat (s.data.toList.map fun b => V.int .u8 b.toNat))[p] = V.int .u8 (s.data.toList.getD p 0).toNat := by
          have h3 : p < s.data.toList.length := by omega
          simp only [hflat, List.getElem_map, List.getD_eq_getElem?_getD, List.getElem?_eq_getElem h3, Option.getD_some]
        rw [h2]
        exact .int _ _)
    rw [hlen] at this
    exact this
theorem conv_sound (hr : Rel Z G L w) {src dst : TypeId} {x v : V} {r : Value} (hx : VR G x r) (h : pconv P L src dst x = some v) :
    ∃ q w', (convert src dst r).run P w = .ok q w' ∧ Done Z G L w v L q w' := by
  unfold pconv at h
  split at h
  · rename_i d k k2 n hs hd
    simp only [Option.some.injEq] at h; subst h
    cases hx
    refine ⟨_, w, ?_, Done.same hr (.int _ _)⟩
    simp only [convert, Sem.run_bind, run_und hs, run_und hd, Result.andThen_ok]
    rfl
  · rename_i d s hs hd
    simp only [Option.some.injEq] at h; subst h
    cases hx
    refine ⟨.string s, w, ?_, Done.same hr (.str _)⟩
    simp only [convert, Sem.run_bind, run_und hs, run_und hd, Result.andThen_ok]
    rfl
  · rename_i x0 e hs hd hns
    split at h
    · rename_i he hsz
      simp only [Option.map_eq_some_iff, Option.bind_eq_some_iff] at h
      obtain ⟨l, ⟨ys, hy, hb⟩, rfl⟩ := h
      have hb2 := bytesToString_sound (P := P) hr hx (fun s hh => by subst hh; exact hns s rfl) hy hb
      refine ⟨.string ⟨l.toArray⟩, w, ?_, Done.same hr (.str _)⟩
      simp only [convert, Sem.run_bind, run_und hs, run_und hd, Result.andThen_ok]
      rcases elems_sound hr hx hy with ⟨s, rfl, rfl⟩ | ⟨A, c, rfl, hc, hread⟩
      · exact absurd rfl (hns s)
      · cases A <;> simp only [Sem.run_bind, run_und he, Result.andThen_ok] <;> exact hb2
    · simp at h
  · rename_i e s hs hd
    split at h
    · rename_i he hsz
      simp only [Option.some.injEq] at h; subst h
      cases hx
      exact ⟨_, _, Lib.run_convert_string_bytes w src dst e s hs hd he, strBytes_sound hr s e⟩
    · simp at h
  · simp at h
end Go.Pv
