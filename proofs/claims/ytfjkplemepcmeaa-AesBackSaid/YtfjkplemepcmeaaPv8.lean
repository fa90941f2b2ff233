import Derived.Test.YtfjkplemepcmeaaPv7
set_option linter.unusedVariables false
set_option linter.unusedSectionVars false
/- 'pop' is right: slices that are made, appended to, copied. -/
set_option linter.unusedSimpArgs false
namespace Go.Pv
variable {P : Program} {Z : Nat → Go.Obj → Prop} {G : Gh} {L : List Obj} {w : World}

/-- An object moves into a new block. -/
theorem Rel.move (h : Rel Z G L w) {id cap sz : Nat} {o : Go.Obj} {ob ob' : Obj} (hid : L[id]? = some ob)
    (hgen : ∀ g l, G.R id g l → g < ob'.gen) (hbuf : ∃ s m xs, ob' = .buf s m xs)
    (hok : ObjOK (G.addR id ob'.gen (.blk w.heap.size cap sz)) { w with heap := w.heap.push o } id ob') :
    Rel Z (G.addR id ob'.gen (.blk w.heap.size cap sz)) (L.set id ob') { w with heap := w.heap.push o } ∧
      Evo G L w (G.addR id ob'.gen (.blk w.heap.size cap sz)) (L.set id ob') { w with heap := w.heap.push o } := by
  have hk : ∀ B, B < w.heap.size → (w.heap.push o)[B]? = w.heap[B]? := fun B hB => by
    rw [Array.getElem?_push]; simp [Nat.ne_of_lt hB]
  have hle := Gh.le_addR G id ob'.gen (.blk w.heap.size cap sz)
  have hlt : id < L.length := (List.getElem?_eq_some_iff.1 hid).1
  have hget : ∀ i x, (L.set id ob')[i]? = some x → (i ≠ id ∧ L[i]? = some x) ∨ (i = id ∧ x = ob') := by
    intro i x hi
    by_cases he : i = id
    · subst he; rw [List.getElem?_set_self hlt] at hi; exact .inr ⟨rfl, by simpa using hi.symm⟩
    · rw [List.getElem?_set_ne (Ne.symm he)] at hi; exact .inl ⟨he, hi⟩
  have hatnew : ∀ b, At (G.addR id ob'.gen (.blk w.heap.size cap sz)) id ob' b → b = w.heap.size := by
    intro b hat
    rcases hat with (hr | ⟨_, _, hr⟩) | ⟨c, s, (hr | ⟨_, _, hr⟩)⟩
    · exact absurd (hgen _ _ hr) (Nat.lt_irrefl _)
    · simp at hr
    · exact absurd (hgen _ _ hr) (Nat.lt_irrefl _)
    · simp at hr; exact hr.1
  have hheld : ∀ B, Held (G.addR id ob'.gen (.blk w.heap.size cap sz)) (L.set id ob') B → Held G L B ∨ w.heap.size ≤ B := by
    rintro B ⟨i, x, hi, hat⟩
    rcases hget i x hi with ⟨hne, ki⟩ | ⟨rfl, rfl⟩
    · exact .inl ⟨i, x, ki, At.old hne hat⟩
    · exact .inr (Nat.le_of_eq (hatnew B hat).symm)
  refine ⟨⟨?_, ?_, ?_, ?_, ?_, ?_, ?_, ?_, ?_⟩, ⟨hle, by simp, fun B hB _ => hk B hB, fun i x B hi hat => by
    rcases hget i x hi with ⟨hne, ki⟩ | ⟨rfl, rfl⟩
    · exact .inl ⟨x, ki, At.old hne hat⟩
    · exact .inr (Nat.le_of_eq (hatnew B hat).symm), fun _ _ _ h => .inl h, rfl, rfl⟩⟩
  · intro B o' v hv
    have := h.kc B o' v hv
    rw [World.cell_congr (w := w) (hk B (World.cell_lt this))]; exact this
  · intro i x hi
    rcases hget i x hi with ⟨hne, ki⟩ | ⟨rfl, rfl⟩
    · exact (h.ok i x ki).mono hle (fun b _ hb => hk b hb)
    · exact hok
  · rintro i gen x y (h1 | ⟨rfl, rfl, rfl⟩) (h2 | ⟨h2, h3, rfl⟩)
    · exact h.fn _ _ _ _ h1 h2
    · subst h2 h3; exact absurd (hgen _ _ h1) (Nat.lt_irrefl _)
    · exact absurd (hgen _ _ h2) (Nat.lt_irrefl _)
    · rfl
  · intro i j x y b hi hj a1 a2
    rcases hget i x hi with ⟨hne, ki⟩ | ⟨rfl, rfl⟩ <;> rcases hget j y hj with ⟨hne', kj⟩ | ⟨rfl, rfl⟩
    · exact h.dis _ _ _ _ _ ki kj (At.old hne a1) (At.old hne' a2)
    · have := h.held_lt ⟨i, x, ki, At.old hne a1⟩
      have := hatnew b a2
      omega
    · have := h.held_lt ⟨j, y, kj, At.old hne' a2⟩
      have := hatnew b a1
      omega
    · rfl
  · intro B o' v i x hv hi hat
    rcases hget i x hi with ⟨hne, ki⟩ | ⟨rfl, rfl⟩
    · exact h.kw B o' v i x hv ki (At.old hne hat)
    · have := hatnew B hat
      have := World.cell_lt (h.kc B o' v hv)
      omega
  · rintro i gen x (hr | ⟨rfl, _, _⟩)
    · rw [List.length_set]; exact h.rl _ _ _ hr
    · rw [List.length_set]; exact hlt
  · intro i gen x s m xs hr hi
    rcases hget i _ hi with ⟨hne, ki⟩ | ⟨rfl, hob⟩
    · rcases hr with hr | ⟨rfl, _, _⟩
      · exact h.rg _ _ _ _ _ _ hr ki
      · exact absurd rfl hne
    · rcases hr with hr | ⟨_, rfl, _⟩
      · have := hgen _ _ hr; rw [← hob] at this; exact Nat.le_of_lt this
      · rw [← hob]; exact Nat.le_refl _
  · intro B o' hz
    have := h.zc B o' hz
    show (w.heap.push o)[B]? = _
    rw [hk B (Array.getElem?_eq_some_iff.1 this).1]; exact this
  · intro B o' hz hh
    rcases hheld B hh with hh | hh
    · exact h.zh B o' hz hh
    · have := (Array.getElem?_eq_some_iff.1 (h.zc B o' hz)).1
      omega

/-- A new object whose elements lie in cells that stay. -/
theorem Rel.addExt (h : Rel Z G L w) {sz B O : Nat} {xs : List V} (hsz : ∀ x ∈ xs, x.cells.length = sz)
    (hv : ∃ vs : Nat → Value, ∀ p (hp : p < (flat xs).length), G.K B (O + p) (vs p) ∧ VR G (flat xs)[p] (vs p)) :
    Rel Z (G.addR L.length xs.length (.ext B O sz)) (L ++ [.buf sz xs.length xs]) w ∧ Evo G L w (G.addR L.length xs.length (.ext B O sz)) (L ++ [.buf sz xs.length xs]) w := by
  have hle := Gh.le_addR G L.length xs.length (.ext B O sz)
  have hnlt : ∀ {id ob'}, L[id]? = some ob' → id < L.length := fun hid => (List.getElem?_eq_some_iff.1 hid).1
  have hget : ∀ id ob', (L ++ [Obj.buf sz xs.length xs])[id]? = some ob' → L[id]? = some ob' ∨ (id = L.length ∧ ob' = .buf sz xs.length xs) := by
    intro id ob' hid
    by_cases hlt : id < L.length
    · rw [List.getElem?_append_left hlt] at hid; exact .inl hid
    · rw [List.getElem?_append_right (Nat.not_lt.1 hlt)] at hid
      have h0 : id - L.length = 0 := by
        by_cases h0 : id - L.length = 0
        · exact h0
        · obtain ⟨m, hm⟩ : ∃ m, id - L.length = m + 1 := ⟨id - L.length - 1, by omega⟩
          rw [hm] at hid; simp at hid
      rw [h0] at hid
      simp at hid
      exact .inr ⟨by omega, hid.symm⟩
  have hatnew : ∀ b, ¬ At (G.addR L.length xs.length (.ext B O sz)) L.length (.buf sz xs.length xs) b := by
    intro b hat
    have hold : ∀ g x, G.R L.length g x → False := fun g x hr => absurd (h.rl _ _ _ hr) (Nat.lt_irrefl _)
    rcases hat with (hr | ⟨_, _, hr⟩) | ⟨c, s, (hr | ⟨_, _, hr⟩)⟩
    · exact hold _ _ hr
    · simp at hr
    · exact hold _ _ hr
    · simp at hr
  have hheldold : ∀ {id ob' b}, L[id]? = some ob' → At (G.addR L.length xs.length (.ext B O sz)) id ob' b → At G id ob' b := fun hid hat =>
    At.old (Nat.ne_of_lt (hnlt hid)) hat
  have hheld : ∀ B', Held (G.addR L.length xs.length (.ext B O sz)) (L ++ [.buf sz xs.length xs]) B' → Held G L B' := by
    rintro B' ⟨id, ob', hid, hat⟩
    rcases hget id ob' hid with k | ⟨rfl, rfl⟩
    · exact ⟨id, ob', k, hheldold k hat⟩
    · exact (hatnew B' hat).elim
  refine ⟨⟨h.kc, ?_, ?_, ?_, ?_, ?_, ?_, h.zc, ?_⟩, ⟨hle, Nat.le_refl _, fun _ _ _ => rfl, fun i x B hi hat => by
    rcases hget i x hi with k | ⟨rfl, rfl⟩
    · exact .inl ⟨x, k, hheldold k hat⟩
    · exact (hatnew B hat).elim, fun _ _ _ h => .inl h, rfl, rfl⟩⟩
  · intro id ob' hid
    rcases hget id ob' hid with k | ⟨rfl, rfl⟩
    · exact (h.ok id ob' k).mono hle (fun _ _ _ => rfl)
    · obtain ⟨vs, hv⟩ := hv
      exact ⟨Nat.le_refl _, hsz, .ext B O sz, Gh.addR_self _ _ _ _, rfl, rfl, vs, fun p hp => ⟨(hv p hp).1, (hv p hp).2.mono hle⟩⟩
  · rintro id gen x y (h1 | ⟨rfl, rfl, rfl⟩) (h2 | ⟨h2, h3, rfl⟩)
    · exact h.fn _ _ _ _ h1 h2
    · exact absurd (h2 ▸ h.rl _ _ _ h1) (Nat.lt_irrefl _)
    · exact absurd (h.rl _ _ _ h2) (Nat.lt_irrefl _)
    · rfl
  · intro id id' ob1 ob2 b h1 h2 a1 a2
    rcases hget id ob1 h1 with k1 | ⟨rfl, rfl⟩ <;> rcases hget id' ob2 h2 with k2 | ⟨rfl, rfl⟩
    · exact h.dis _ _ _ _ _ k1 k2 (hheldold k1 a1) (hheldold k2 a2)
    · exact (hatnew b a2).elim
    · exact (hatnew b a1).elim
    · rfl
  · intro B' o' v id ob' hv hid hat
    rcases hget id ob' hid with k | ⟨rfl, rfl⟩
    · exact h.kw B' o' v id ob' hv k (hheldold k hat)
    · exact (hatnew B' hat).elim
  · rintro id gen x (hr | ⟨rfl, _, _⟩)
    · have := h.rl _ _ _ hr; simp; omega
    · simp
  · intro id gen x s m xs' hr hid
    rcases hget id _ hid with k | ⟨rfl, hob⟩
    · rcases hr with hr | ⟨rfl, _, _⟩
      · exact h.rg _ _ _ _ _ _ hr k
      · exact absurd (hnlt k) (Nat.lt_irrefl _)
    · rcases hr with hr | ⟨_, rfl, _⟩
      · exact absurd (h.rl _ _ _ hr) (Nat.lt_irrefl _)
      · simp only [Obj.buf.injEq] at hob; rw [hob.2.2]; exact Nat.le_refl _
  · intro B' o' hz hh
    exact h.zh B' o' hz (hheld B' hh)

/-- Cells of a block that no object holds stay. -/
theorem Rel.addK (h : Rel Z G L w) {B : Nat} (hB : ¬ Held G L B) (hs : B < w.heap.size) : 
    Rel Z (G.addK fun B' o v => B' = B ∧ w.cell? ⟨B, o, none⟩ = some v) L w ∧ (∀ {w0 : World} {G0 : Gh} {L0 : List Obj}, Evo G0 L0 w0 G L w → w0.heap.size ≤ B → Evo G0 L0 w0 (G.addK fun B' o v => B' = B ∧ w.cell? ⟨B, o, none⟩ = some v) L w) := by
  have hle := Gh.le_addK G fun B' o v => B' = B ∧ w.cell? ⟨B, o, none⟩ = some v
  refine ⟨⟨?_, fun id ob hid => (h.ok id ob hid).mono hle (fun _ _ _ => rfl), h.fn, h.dis, ?_, h.rl, h.rg, h.zc, h.zh⟩, fun he hw => ⟨he.le.trans hle, he.size, he.keep, he.heldi, ?_, he.io⟩⟩
  · rintro B' o v (hk | ⟨rfl, hk⟩)
    · exact h.kc _ _ _ hk
    · exact hk
  · rintro B' o v id ob (hk | ⟨rfl, hk⟩) hid hat
    · exact h.kw _ _ _ _ _ hk hid hat
    · exact (hB ⟨id, ob, hid, hat⟩).elim
  · rintro B' o v (hk | ⟨rfl, hk⟩)
    · exact he.kn _ _ _ hk
    · exact .inr (.inr hw)

theorem flat_repl_get {z : V} {sz n p : Nat} (hz : z.cells.length = sz) (hp : p < (flat (List.replicate n z)).length) (h0 : 0 < sz) :
    (flat (List.replicate n z))[p] = z.cells[p % sz]'(by rw [hz]; exact Nat.mod_lt _ h0) := by
  have hs : ∀ x ∈ List.replicate n z, x.cells.length = sz := fun x hx => by rw [List.eq_of_mem_replicate hx]; exact hz
  have hl := flat_length hs
  rw [List.length_replicate] at hl
  have hi : p / sz < n := Nat.div_lt_of_lt_mul (by rw [Nat.mul_comm]; omega)
  have := flat_get hs (i := p / sz) (q := p % sz) (x := z) (by simp [hi]) (Nat.mod_lt _ h0)
  have e : p / sz * sz + p % sz = p := by rw [Nat.mul_comm]; exact Nat.div_add_mod _ _
  rw [e, List.getElem?_eq_getElem hp, List.getElem?_eq_getElem (by rw [hz]; exact Nat.mod_lt _ h0)] at this
  exact Option.some.inj this

theorem wrap64_in {m : Int} (h1 : 0 ≤ m) (h2 : m ≤ 9223372036854775807) : IntKind.i64.wrap m = m := by
  have e1 : (2 ^ IntKind.i64.bits : Int) = 18446744073709551616 := by decide
  have e2 : (2 ^ (IntKind.i64.bits - 1) : Int) = 9223372036854775808 := by decide
  unfold IntKind.wrap
  simp only [e1, e2]
  have h3 : m % 18446744073709551616 = m := Int.emod_eq_of_lt h1 (by omega)
  rw [h3, if_neg]
  simp; omega

theorem makeSlice_sound (hr : Rel Z G L w) {t : TypeId} {len cap v : V} {rl rc : Value} {L' : List Obj} (hl : VR G len rl) (hc : VR G cap rc) (h : pmakeSlice P L t len cap = some (v, L')) :
    ∃ q w', (Instr.makeSlice t rl rc).run P w = .ok q w' ∧ Done Z G L w v L' q w' := by
  unfold pmakeSlice at h
  split at h
  · rename_i e n c hu
    cases hl; cases hc
    split at h
    · rename_i sz z hs hz
      split at h
      · rename_i hcond
        obtain ⟨h0, hzl, hn, hnc, hcm, hb⟩ := hcond
        simp only [Option.some.injEq, Prod.mk.injEq] at h
        obtain ⟨rfl, rfl⟩ := h
        obtain ⟨i, zr, hi, hiz, hov⟩ := zeroV_info hz
        have hzr := (ofVal_VR (G := G) hov).rl
        have hib : i.bytes = byT P e := by simp [byT, hi]
        have hwr : ∀ m : Int, 0 ≤ m → m ≤ 9223372036854775807 → IntKind.i64.wrap m = m := fun m h1 h2 => wrap64_in h1 h2
        obtain ⟨c, rfl⟩ := Int.eq_ofNat_of_zero_le (Int.le_trans hn hnc)
        obtain ⟨n, rfl⟩ := Int.eq_ofNat_of_zero_le hn
        have hcn : n ≤ c := by omega
        have hzs : zr.cells.size = sz := by rw [hzr.1, hzl]
        let cells : Array Value := (Array.range (c * sz)).map (zr.cells[· % zr.cells.size]!)
        have hrun : (Instr.makeSlice t (.int .i64 n) (.int .i64 c)).run P w = .ok (.slice (some ⟨w.heap.size, 0, none⟩) n c) { w with heap := w.heap.push (.cells cells e) } := by
          have hbb : ¬ ((c : Int) < 0 ∨ (byT P e : Int) * c > 281474976710656) := by omega
          simp only [Instr.makeSlice, Sem.run_bind, run_und hu, Result.andThen_ok, asInt, asIntOf, Sem.run_pure, run_info hi, hwr _ (Int.natCast_nonneg n) (by omega), hwr _ (Int.natCast_nonneg c) hcm, hib]
          have hcnd : ((decide ((c : Int) < 0) || decide ((byT P e : Int) * (c : Int) > 2 ^ 48)) || decide ((n : Int) < 0) || decide ((n : Int) > (c : Int))) = false := by
            simp only [Bool.or_eq_false_iff, decide_eq_false_iff_not]
            have : (2 : Int) ^ 48 = 281474976710656 := by decide
            omega
          simp only [hcnd, Bool.false_eq_true, if_false, Sem.run_bind, Sem.run_pure, Result.andThen_ok, Int.toNat_natCast]
          rw [run_askRoom, Result.andThen_ok, run_sizeOf hs, Result.andThen_ok]
          by_cases hc0 : c * sz = 0
          · have hce : cells = #[] := by show (Array.range (c * sz)).map _ = #[]; rw [hc0]; simp
            simp only [hc0, if_true, Sem.run_pure, Result.andThen_ok, newRow, Sem.run_bind, run_newObj, hce]
            have hrz : Array.range 0 = #[] := by decide
            simp [hrz]
          · simp only [hc0, if_false, Sem.run_bind, run_zeroValue hi hiz, Sem.run_pure, Result.andThen_ok, newRow, run_newObj]
            rfl
        refine ⟨_, _, hrun, ?_⟩
        have hle := Gh.le_addR G L.length n (.blk w.heap.size c sz)
        have hcs : cells.size = c * sz := by simp [cells]
        have hszs : ∀ x ∈ List.replicate n z, x.cells.length = sz := fun x hx => by rw [List.eq_of_mem_replicate hx]; exact hzl
        have hok : ObjOK (G.addR L.length (Obj.buf sz 0 (List.replicate n z)).gen (.blk w.heap.size c sz)) { w with heap := w.heap.push (.cells cells e) } L.length (.buf sz 0 (List.replicate n z)) := by
          refine ⟨Nat.zero_le _, hszs, .blk w.heap.size c sz, Gh.addR_self _ _ _ _, rfl, ⟨by simpa using hcn, by omega⟩, cells, e, (0, 0), by simp, free_new _, hcs, fun p hp => ?_⟩
          rw [flat_repl_get hzl hp h0]
          have hp2 : p < n * sz := by rw [flat_length hszs, List.length_replicate] at hp; exact hp
          have hp3 : p < c * sz := Nat.lt_of_lt_of_le hp2 (Nat.mul_le_mul_right _ hcn)
          have hpm : p % sz < zr.cells.size := by rw [hzs]; exact Nat.mod_lt _ h0
          have hg : cells.getD p undef = zr.cells.getD (p % sz) undef := by
            simp [cells, Array.getD_eq_getD_getElem?, hp3, hzs, hpm, Nat.mod_lt _ h0]
          rw [hg]
          exact (hzr.2 _ _).mono (Gh.le_addR _ _ _ _)
        have := hr.pushObj (.inr ⟨c, sz, rfl⟩) hok
        simp only [Obj.gen, List.length_replicate] at this
        refine ⟨_, by simpa using this.1, by simpa using this.2, ?_⟩
        simp only [Int.toNat_natCast]
        exact .own (Gh.addR_self _ _ _ _) (by omega) ⟨by omega, hcn, .inr (by simp)⟩
      · simp at h
    · simp at h
  · simp at h

/-! ### append -/
/-- What is appended or copied: its cells. -/
theorem src_cells (hr : Rel Z G L w) {x : V} {r : Value} {ys : List V} {sz : Nat} (n : Nat) (hx : VR G x r) (h : elems L x = some ys) (hn : n ≤ ys.length)
    (hsz : ∀ y ∈ ys, y.cells.length = sz) (h0 : 0 < sz) :
    (Builtin.lenOf r).run P w = .ok ys.length w ∧ ∃ us : Array Value, (Builtin.firstCells sz n r).run P w = .ok us w ∧ us.size = n * sz ∧
      ∀ p (hp : p < (flat (ys.take n)).length), VR G (flat (ys.take n))[p] (us.getD p undef) := by
  have htl : (ys.take n).length = n := by simp; omega
  have hszt : ∀ y ∈ ys.take n, y.cells.length = sz := fun y hy => hsz y (List.mem_of_mem_take hy)
  have hfl : (flat (ys.take n)).length = n * sz := by rw [flat_length hszt, htl]
  rcases elems_sound hr hx h with ⟨s, rfl, rfl⟩ | ⟨A, c, rfl, hc, hread⟩
  · simp only [elems, Option.some.injEq] at h
    subst h
    refine ⟨by simp only [List.length_map, Array.length_toList]; rfl, ?_⟩
    have hs1 : n = 0 ∨ sz = 1 := by
      by_cases hn0 : n = 0
      · exact .inl hn0
      · right
        have hne : s.data.toList ≠ [] := by
          intro he; simp [he] at hn; omega
        obtain ⟨b, hb⟩ := List.exists_mem_of_ne_nil _ hne
        have := hsz (.int .u8 b.toNat) (by simp only [List.mem_map]; exact ⟨b, hb, rfl⟩)
        simpa [V.cells] using this.symm
    have hlen : n ≤ s.data.size := by simpa using hn
    have hdata : (s.extract 0 n).data.toList = s.data.toList.take n := by
      rw [ByteArray.data_extract, Array.toList_extract]
      simp
    have hsize : (s.extract 0 n).data.size = n := by
      simp only [List.length_map, Array.length_toList] at hn
      rw [← Array.length_toList, hdata, List.length_take, Array.length_toList]; omega
    refine ⟨(s.extract 0 n).data.map fun b => .int .u8 b.toNat, rfl, ?_, fun p hp => ?_⟩
    · rw [Array.size_map, hsize]
      rcases hs1 with rfl | rfl <;> simp
    · rcases hs1 with rfl | rfl
      · simp [flat_nil] at hp
      · have hf1 : ∀ zs : List UInt8, flat (zs.map fun b => V.int .u8 b.toNat) = zs.map fun b => V.int .u8 b.toNat := by
          intro zs
          induction zs with
          | nil => rfl
          | cons z zs ih => rw [List.map_cons, flat_cons, ih]; rfl
        have ht : (s.data.toList.map fun b => V.int .u8 b.toNat).take n = (s.data.toList.take n).map fun b => V.int .u8 b.toNat := by rw [List.map_take]
        have hlt : p < n := by rw [ht, hf1] at hp; simp at hp; omega
        have hps : p < (s.extract 0 n).data.size := by omega
        have hg : ((s.extract 0 n).data.map fun b => Value.int .u8 b.toNat).getD p undef = Value.int .u8 ((s.extract 0 n).data[p]).toNat := by
          simp only [Array.getD_eq_getD_getElem?, Array.getElem?_map, Array.getElem?_eq_getElem hps, Option.map_some, Option.getD_some]
        have hv : (flat ((s.data.toList.map fun b => V.int .u8 b.toNat).take n))[p] = V.int .u8 ((s.extract 0 n).data[p]).toNat := by
          have h1 : (flat ((s.data.toList.map fun b => V.int .u8 b.toNat).take n))[p]? = some (V.int .u8 ((s.extract 0 n).data[p]).toNat) := by
            rw [ht, hf1, ← hdata, List.getElem?_map, Array.getElem?_toList, Array.getElem?_eq_getElem hps]; rfl
          rw [List.getElem?_eq_getElem hp] at h1
          exact Option.some.inj h1
        rw [hv, hg]
        exact .int _ _
  · refine ⟨rfl, ?_⟩
    by_cases hn0 : n = 0
    · subst hn0
      refine ⟨#[], ?_, by simp, fun p hp => by simp [flat_nil] at hp⟩
      cases A with
      | none => rfl
      | some a => simp [Builtin.firstCells, loadCells, loadCellsFrom]
    · have hne : ys ≠ [] := by rintro rfl; simp at hn; omega
      obtain ⟨B, O, sz', rfl, hsz', hrd⟩ := hread.resolve_left hne
      have hsz2 : sz' = sz := by
        cases ys with
        | nil => exact absurd rfl hne
        | cons y ys => rw [← hsz' y (by simp)]; exact hsz y (by simp)
      subst hsz2
      have hft : flat (ys.take n) = (flat ys).take (n * sz') := flat_take n hsz
      obtain ⟨vs, h1, h2, h3⟩ := (Reads.take (cs := flat ys) hrd (n * sz')).load (P := P)
      have hlen : ((flat ys).take (n * sz')).length = n * sz' := by rw [← hft, hfl]
      rw [hlen] at h1 h2
      exact ⟨vs, h1, h2, fun p hp => by have := h3 p (by rw [← hft]; exact hp); simpa [hft] using this⟩
end Go.Pv
