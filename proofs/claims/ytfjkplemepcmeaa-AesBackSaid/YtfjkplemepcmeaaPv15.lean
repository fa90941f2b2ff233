import Derived.Test.YtfjkplemepcmeaaPv14
set_option linter.unusedVariables false
set_option linter.unusedSectionVars false
/- The end of a function: what it hands back; what it leaves behind is forgotten. -/
set_option linter.unusedSimpArgs false
namespace Go.Pv
variable {P : Program} {Z : Nat → Go.Obj → Prop}

/-! ### values that name no object beyond n -/
mutual
def V.lt (n : Nat) : V → Bool
  | .ref id _ | .eref id _ _ _ | .own id _ _ _ | .bsl id _ _ | .yl id | .map id => decide (id < n)
  | .cref cs | .agg cs | .tup cs | .fn _ cs => V.lts n cs
  | .sl _ _ xs => V.lts n xs
  | .bool _ | .int _ _ | .str _ | .nilp | .nilf | .nilmap | .top => true
def V.lts (n : Nat) : List V → Bool
  | [] => true
  | v :: vs => V.lt n v && V.lts n vs
end

theorem V.lts_iff {n : Nat} : ∀ {vs : List V}, V.lts n vs = true ↔ ∀ v ∈ vs, V.lt n v = true
  | [] => by simp [V.lts]
  | v :: vs => by simp [V.lts, V.lts_iff (vs := vs)]

theorem V.lts_mem {n : Nat} {vs : List V} (h : V.lts n vs = true) {p : Nat} (hp : p < vs.length) : V.lt n vs[p] = true := V.lts_iff.1 h _ (List.getElem_mem _)

theorem V.lt_cells {n : Nat} {v : V} (h : V.lt n v = true) : V.lts n v.cells = true := by
  cases v <;> simp_all [V.cells, V.lts, V.lt]
theorem V.lts_flat {n : Nat} {xs : List V} (h : V.lts n xs = true) : V.lts n (flat xs) = true := by
  rw [V.lts_iff] at h ⊢
  intro v hv
  simp only [flat, List.mem_flatMap] at hv
  obtain ⟨x, hx, hv⟩ := hv
  exact V.lts_iff.1 (V.lt_cells (h x hx)) v hv

/-- What is known of the first n objects, and of cells. -/
def Gh.cut (G : Gh) (n : Nat) : Gh := ⟨G.K, fun id g l => G.R id g l ∧ id < n⟩
theorem Gh.cut_le (G : Gh) (n : Nat) : (G.cut n).le G := ⟨fun h => h, fun h => h.1⟩

theorem VR.cut {G : Gh} {n : Nat} {v : V} {r : Value} (h : VR G v r) (hl : V.lt n v = true) : VR (G.cut n) v r := by
  induction h with
  | bool b => exact .bool b
  | int k n => exact .int k n
  | str s => exact .str s
  | nilp => exact .nilp
  | ref h => exact .ref ⟨h, by simpa [V.lt] using hl⟩
  | eref h => exact .eref ⟨h, by simpa [V.lt] using hl⟩
  | erefx h => exact .erefx ⟨h, by simpa [V.lt] using hl⟩
  | cref vs hk _ ih => exact .cref vs hk (fun p hp => ih p hp (V.lts_mem (by simpa [V.lt] using hl) hp))
  | slnil => exact .slnil
  | sl0 hx => exact .sl0 hx
  | sl sz vs hne hx hc hsz hk _ ih => exact .sl sz vs hne hx hc hsz hk (fun p hp => ih p hp (V.lts_mem (V.lts_flat (by simpa [V.lt] using hl)) hp))
  | own hr h ha => exact .own ⟨hr, by simpa [V.lt] using hl⟩ h ha
  | bsl h hc ha => exact .bsl ⟨h, by simpa [V.lt] using hl⟩ hc ha
  | agg hn _ ih => exact .agg hn (fun p hp => ih p hp (V.lts_mem (by simpa [V.lt] using hl) hp))
  | tup hn _ ih => exact .tup hn (fun p hp => ih p hp (V.lts_mem (by simpa [V.lt] using hl) hp))
  | fn hn _ ih => exact .fn hn (fun p hp => ih p hp (V.lts_mem (by simpa [V.lt] using hl) hp))
  | nilf => exact .nilf
  | yl h => exact .yl ⟨h, by simpa [V.lt] using hl⟩
  | map h => exact .map ⟨h, by simpa [V.lt] using hl⟩
  | nilmap => exact .nilmap
  | top r h => exact .top r h

/-- A value that stands for something names known objects alone. -/
theorem VR.lt_of {G : Gh} {n : Nat} (hG : ∀ id g l, G.R id g l → id < n) {v : V} {r : Value} (h : VR G v r) : V.lt n v = true := by
  induction h with
  | ref h => simpa [V.lt] using hG _ _ _ h
  | eref h => simpa [V.lt] using hG _ _ _ h
  | erefx h => simpa [V.lt] using hG _ _ _ h
  | cref vs hk _ ih => rw [V.lt, V.lts_iff]; intro v hv; obtain ⟨p, hp, rfl⟩ := List.getElem_of_mem hv; exact ih p hp
  | sl sz vs hne hx hc hsz hk _ ih =>
    rename_i ex xs B O c hv
    rw [V.lt, V.lts_iff]
    intro v hvm
    have h1 : ∀ c ∈ flat xs, V.lt n c = true := fun c hc => by obtain ⟨p, hp, rfl⟩ := List.getElem_of_mem hc; exact ih p hp
    have h2 : ∀ c ∈ v.cells, V.lt n c = true := fun c hc => h1 c (by simp only [flat, List.mem_flatMap]; exact ⟨v, hvm, hc⟩)
    cases v <;> first
      | (exact h2 _ (List.mem_singleton.2 rfl))
      | (rw [V.lt, V.lts_iff]; exact h2)
  | own hr h ha => simpa [V.lt] using hG _ _ _ hr
  | bsl h hc ha => simpa [V.lt] using hG _ _ _ h
  | agg hn _ ih => rw [V.lt, V.lts_iff]; intro v hv; obtain ⟨p, hp, rfl⟩ := List.getElem_of_mem hv; exact ih p hp
  | tup hn _ ih => rw [V.lt, V.lts_iff]; intro v hv; obtain ⟨p, hp, rfl⟩ := List.getElem_of_mem hv; exact ih p hp
  | fn hn _ ih => rw [V.lt, V.lts_iff]; intro v hv; obtain ⟨p, hp, rfl⟩ := List.getElem_of_mem hv; exact ih p hp
  | yl h => simpa [V.lt] using hG _ _ _ h
  | map h => simpa [V.lt] using hG _ _ _ h
  | _ => rfl

def objLts (n : Nat) : Obj → Prop
  | .box cs => V.lts n cs = true
  | .buf _ _ xs => V.lts n xs = true
  | .loop _ _ env k _ _ _ => ∀ t, t < k → V.lt n (env t) = true
  | .map es => ∀ e ∈ es, V.lt n e.1 = true ∧ V.lt n e.2 = true

theorem ObjOK.lts {G : Gh} {n : Nat} (hG : ∀ id g l, G.R id g l → id < n) {w : World} {id : Nat} {ob : Obj} (h : ObjOK G w id ob) : objLts n ob := by
  have hl : ∀ (cs : List V) (f : Nat → Value), (∀ p (hp : p < cs.length), VR G cs[p] (f p)) → V.lts n cs = true := fun cs f hv => by
    rw [V.lts_iff]; intro v hvm; obtain ⟨p, hp, rfl⟩ := List.getElem_of_mem hvm; exact (hv p hp).lt_of hG
  have hfl : ∀ xs : List V, V.lts n (flat xs) = true → V.lts n xs = true := fun xs hx => by
    rw [V.lts_iff] at hx ⊢
    intro v hvm
    have h2 : ∀ c ∈ v.cells, V.lt n c = true := fun c hc => hx c (by simp only [flat, List.mem_flatMap]; exact ⟨v, hvm, hc⟩)
    cases v <;> first
      | (exact h2 _ (List.mem_singleton.2 rfl))
      | (rw [V.lt, V.lts_iff]; exact h2)
  cases ob with
  | box cs => obtain ⟨b, c, e, fr, _, _, _, _, hv, _⟩ := h; exact hl _ _ hv
  | buf sz m xs =>
    obtain ⟨_, _, loc, _, hlo⟩ := h
    cases loc with
    | obj b => exact hlo.elim
    | blk b cap sz' => obtain ⟨_, _, c, e, fr, _, _, _, hv⟩ := hlo; exact hfl _ (hl _ _ hv)
    | ext B O sz' => obtain ⟨_, _, vs, hv⟩ := hlo; exact hfl _ (hl _ _ fun p hp => (hv p hp).2)
  | loop st pend env k params assign body => obtain ⟨b, tmps, d, fn, _, _, _, hv⟩ := h; exact fun t ht => (hv t ht).lt_of hG
  | map es => obtain ⟨b, en, cl, _, _, _, hv⟩ := h; exact fun e he => by obtain ⟨p, hp, rfl⟩ := List.getElem_of_mem he; exact ⟨(hv p hp).1.lt_of hG, (hv p hp).2.lt_of hG⟩

theorem ObjOK.cut {G : Gh} {n : Nat} {w : World} {id : Nat} {ob : Obj} (h : ObjOK G w id ob) (hid : id < n) (hl : objLts n ob) : ObjOK (G.cut n) w id ob := by
  cases ob with
  | box cs => obtain ⟨b, c, e, fr, h1, h2, h3, h4, hv, h5⟩ := h; exact ⟨b, c, e, fr, ⟨h1, hid⟩, h2, h3, h4, fun p hp => (hv p hp).cut (V.lts_mem hl hp), h5⟩
  | buf sz m xs =>
    obtain ⟨h1, h2, loc, h3, hlo⟩ := h
    refine ⟨h1, h2, loc, ⟨h3, hid⟩, ?_⟩
    cases loc with
    | obj b => exact hlo
    | blk b cap sz' => obtain ⟨k1, k2, c, e, fr, k3, k4, k5, hv⟩ := hlo; exact ⟨k1, k2, c, e, fr, k3, k4, k5, fun p hp => (hv p hp).cut (V.lts_mem (V.lts_flat hl) hp)⟩
    | ext B O sz' => obtain ⟨k1, k2, vs, hv⟩ := hlo; exact ⟨k1, k2, vs, fun p hp => ⟨(hv p hp).1, (hv p hp).2.cut (V.lts_mem (V.lts_flat hl) hp)⟩⟩
  | loop st pend env k params assign body => obtain ⟨b, tmps, d, fn, h1, h2, h3, hv⟩ := h; exact ⟨b, tmps, d, fn, ⟨h1, hid⟩, h2, h3, fun t ht => (hv t ht).cut (hl t ht)⟩
  | map es => obtain ⟨b, en, cl, h1, h2, h3, hv⟩ := h; exact ⟨b, en, cl, ⟨h1, hid⟩, h2, h3, fun p hp => ⟨(hv p hp).1.cut (hl _ (List.getElem_mem _)).1, (hv p hp).2.cut (hl _ (List.getElem_mem _)).2⟩⟩

/-- The later objects are forgotten; their cells stay as they are from now on. -/
theorem Rel.forget {G0 G : Gh} {L0 L B : List Obj} {w0 w : World} (h : Rel Z G (L ++ B) w) (he : Evo G0 L0 w0 G (L ++ B) w) (hr0 : ∀ id g l, G0.R id g l → id < L.length)
    (hlt : ∀ (id : Nat) (ob : Obj), L[id]? = some ob → objLts L.length ob) (hnew : ∀ b, Held G (L ++ B) b → ¬ Held (G.cut L.length) L b → w0.heap.size ≤ b) :
    ∃ G', Rel Z G' L w ∧ Evo G0 L0 w0 G' L w ∧ (∀ {v r}, VR G v r → V.lt L.length v = true → VR G' v r) ∧
      (∀ b o v, Held G (L ++ B) b → ¬ Held (G.cut L.length) L b → w.cell? ⟨b, o, none⟩ = some v → G'.K b o v) ∧ (∀ {b o v}, G.K b o v → G'.K b o v) ∧ (∀ {id g l}, G'.R id g l ↔ G.R id g l ∧ id < L.length) := by
  let G' : Gh := (G.cut L.length).addK fun b o v => Held G (L ++ B) b ∧ ¬ Held (G.cut L.length) L b ∧ w.cell? ⟨b, o, none⟩ = some v
  have hc := Gh.le_addK (G.cut L.length) fun b o v => Held G (L ++ B) b ∧ ¬ Held (G.cut L.length) L b ∧ w.cell? ⟨b, o, none⟩ = some v
  have hget : ∀ {id : Nat} {ob : Obj}, L[id]? = some ob → (L ++ B)[id]? = some ob := fun hid => by
    rw [List.getElem?_append_left (List.getElem?_eq_some_iff.1 hid).1]; exact hid
  have hid : ∀ {id : Nat} {ob : Obj}, L[id]? = some ob → id < L.length := fun h => (List.getElem?_eq_some_iff.1 h).1
  have hat : ∀ {id ob b}, At G' id ob b → At G id ob b := fun h => h.imp (fun h => h.1) (fun ⟨c, s, h⟩ => ⟨c, s, h.1⟩)
  have hheld : ∀ {b}, Held G' L b → Held G (L ++ B) b := fun ⟨id, ob, h1, h2⟩ => ⟨id, ob, hget h1, hat h2⟩
  have hheld2 : ∀ {b}, Held G' L b → Held (G.cut L.length) L b := fun ⟨id, ob, h1, h2⟩ => ⟨id, ob, h1, h2⟩
  refine ⟨G', ⟨?_, ?_, ?_, ?_, ?_, ?_, ?_, h.zc, ?_⟩, ⟨⟨fun hk => .inl (he.le.k hk), fun hr => ⟨he.le.r hr, hr0 _ _ _ hr⟩⟩, he.size, he.keep, fun id ob b h1 h2 => he.heldi id ob b (hget h1) (hat h2), ?_, he.io⟩,
    fun hv hl => (hv.cut hl).mono hc, fun b o v h1 h2 h3 => .inr ⟨h1, h2, h3⟩, fun hk => .inl hk, Iff.rfl⟩
  · rintro b o v (hk | ⟨_, _, hk⟩)
    · exact h.kc _ _ _ hk
    · exact hk
  · intro id ob h1
    exact ((h.ok id ob (hget h1)).cut (hid h1) (hlt id ob h1)).mono hc (fun _ _ _ => rfl)
  · intro id g l l' h1 h2; exact h.fn _ _ _ _ h1.1 h2.1
  · intro id id' ob ob' b h1 h2 a1 a2; exact h.dis _ _ _ _ _ (hget h1) (hget h2) (hat a1) (hat a2)
  · rintro b o v id ob (hk | ⟨_, hn, _⟩) h1 a1
    · exact h.kw _ _ _ _ _ hk (hget h1) (hat a1)
    · exact (hn ⟨id, ob, h1, a1⟩).elim
  · intro id g l hr; exact hr.2
  · intro id g l sz m xs hr h1; exact h.rg _ _ _ _ _ _ hr.1 (hget h1)
  · intro b o hz hh; exact h.zh b o hz (hheld hh)
  · rintro b o v (hk | ⟨h1, h2, h3⟩)
    · exact he.kn _ _ _ hk
    · exact .inr (.inr (hnew b h1 h2))

/-! ### what is handed back, frozen (n: how many objects there were) -/
def frz1 (n : Nat) (L : List Obj) : V → Option V
  | .own id off len gen => match L[id]? with
    | some (.buf _ _ xs) => if n ≤ id ∧ gen = xs.length ∧ V.lts 0 xs = true then some (.sl false false ((xs.drop off).take len)) else none
    | _ => none
  | .bsl id off len => match L[id]? with
    | some (.box cs) => if n ≤ id ∧ off + len ≤ cs.length ∧ V.lts 0 cs = true then some (.sl false false ((cs.drop off).take len)) else none
    | _ => none
  | v => if V.lt 0 v = true then some v else none
def frzs (n : Nat) (L : List Obj) : List V → Option (List V)
  | [] => some []
  | v :: vs => match frz1 n L v, frzs n L vs with
    | some x, some xs => some (x :: xs)
    | _, _ => none
def frz (n : Nat) (L : List Obj) : V → Option V
  | .tup vs => (frzs n L vs).map .tup
  | .agg vs => (frzs n L vs).map .agg
  | v => frz1 n L v

theorem V.lt_mono {n m : Nat} (h : n ≤ m) : ∀ (v : V), V.lt n v = true → V.lt m v = true := by
  intro v
  refine V.rec (motive_1 := fun v => V.lt n v = true → V.lt m v = true) (motive_2 := fun vs => V.lts n vs = true → V.lts m vs = true) ?_ ?_ ?_ ?_ ?_ ?_ ?_ ?_ ?_ ?_ ?_ ?_ ?_ ?_ ?_ ?_ ?_ ?_ ?_ ?_ v <;>
    intros <;> simp_all [V.lt, V.lts] <;> omega

theorem take_drop_lts {n : Nat} {xs : List V} (h : V.lts n xs = true) (a b : Nat) : V.lts n ((xs.drop a).take b) = true := by
  rw [V.lts_iff] at h ⊢
  exact fun v hv => h v (List.mem_of_mem_drop (List.mem_of_mem_take hv))

theorem flat_ones {cs : List V} (h : ∀ c ∈ cs, c.one = true) : flat cs = cs := by
  induction cs with
  | nil => rfl
  | cons c cs ih =>
    have h1 := h c (by simp)
    rw [flat_cons, ih (fun x hx => h x (by simp [hx]))]
    cases c <;> first | rfl | (simp [V.one] at h1)

theorem frz1_sound {G G' : Gh} {L : List Obj} {w : World} (h : Rel Z G L w) {n : Nat} (hv : ∀ {v r}, VR G v r → V.lt 0 v = true → VR G' v r)
    (hk : ∀ id ob b o u, n ≤ id → L[id]? = some ob → At G id ob b → w.cell? ⟨b, o, none⟩ = some u → G'.K b o u) (hkk : ∀ {b o u}, G.K b o u → G'.K b o u) {v v' : V} {r : Value} (hr : VR G v r)
    (hf : frz1 n L v = some v') : VR G' v' r := by
  have hslice : ∀ (ys : List V) (A : Option Addr) (len c : Nat), ys.length = len → len ≤ c → (ys = [] ∨ ∃ B O sz, A = some ⟨B, O, none⟩ ∧ (∀ y ∈ ys, y.cells.length = sz) ∧
      ∃ vs : Nat → Value, (∀ p, p < (flat ys).length → G'.K B (O + p) (vs p)) ∧ ∀ p (hp : p < (flat ys).length), VR G' (flat ys)[p] (vs p)) → VR G' (.sl false false ys) (.slice A len c) := by
    rintro ys A len c rfl hc hh
    by_cases hne : ys = []
    · subst hne; exact .sl0 (by simp)
    · obtain ⟨B, O, sz, rfl, hsz, vs, h1, h2⟩ := hh.resolve_left hne
      exact .sl sz vs hne (by simp) hc hsz h1 h2
  unfold frz1 at hf
  split at hf
  · rename_i id off len gen
    split at hf
    · rename_i sz m xs hL
      split at hf
      · rename_i hc
        obtain ⟨hn, hg, hl⟩ := hc
        subst hg
        simp only [Option.some.injEq] at hf; subst hf
        obtain ⟨hmx, hszs, loc, hloc, hlo⟩ := h.ok id _ hL
        cases hr with
        | own hid hle ha =>
          have hloc2 := h.fn _ _ _ _ hid hloc
          subst hloc2
          rename_i c0 loc A0
          have hlen : ((xs.drop off).take len).length = len := by simp; omega
          have hszt : ∀ y ∈ (xs.drop off).take len, y.cells.length = sz := fun y hy => hszs y (List.mem_of_mem_drop (List.mem_of_mem_take hy))
          have hflat : flat ((xs.drop off).take len) = ((flat xs).drop (off * sz)).take (len * sz) := by
            rw [flat_take len (fun y hy => hszs y (List.mem_of_mem_drop hy)), flat_drop off hszs]
          have hlf : V.lts 0 (flat xs) = true := V.lts_flat hl
          cases loc with
          | obj b => exact hlo.elim
          | blk b cap sz' =>
            obtain ⟨hs2, hcap, cc, e, fr, hh, hf, hcs, hvv⟩ := hlo
            subst hs2
            obtain ⟨a1, a2, a3⟩ := ha
            refine hslice _ _ _ _ hlen (by omega) ?_
            by_cases hn0 : len = 0
            · exact .inl (by subst hn0; simp)
            · refine .inr ⟨b, off * sz', sz', a3.resolve_left (by omega), hszt, fun p => cc.getD (off * sz' + p) undef, fun p hp => ?_, fun p hp => ?_⟩
              · have hp' := hp
                rw [hflat] at hp'
                have hlt : off * sz' + p < (flat xs).length := by simp at hp'; omega
                refine hk id _ b _ _ hn hL (.inr ⟨_, _, hloc⟩) (cell_of_heap hh ?_)
                rw [hcs]; rw [flat_length hszs] at hlt; exact Nat.lt_of_lt_of_le hlt (Nat.mul_le_mul_right _ hcap.1)
              · have hp' := hp
                rw [hflat] at hp'
                have hlt : off * sz' + p < (flat xs).length := by simp at hp'; omega
                have := hv (hvv _ hlt) (V.lts_mem hlf hlt)
                simpa [hflat] using this
          | ext B O sz' =>
            obtain ⟨hs2, hm2, vs, hvv⟩ := hlo
            subst hs2
            obtain ⟨a1, a2⟩ := ha
            refine hslice _ _ _ _ hlen (by omega) ?_
            by_cases hn0 : len = 0
            · exact .inl (by subst hn0; simp)
            · refine .inr ⟨B, O + off * sz', sz', a2.resolve_left (by omega), hszt, fun p => vs (off * sz' + p), fun p hp => ?_, fun p hp => ?_⟩
              · have hp' := hp
                rw [hflat] at hp'
                have hlt : off * sz' + p < (flat xs).length := by simp at hp'; omega
                rw [Nat.add_assoc]; exact hkk (hvv _ hlt).1
              · have hp' := hp
                rw [hflat] at hp'
                have hlt : off * sz' + p < (flat xs).length := by simp at hp'; omega
                have := hv (hvv _ hlt).2 (V.lts_mem hlf hlt)
                simpa [hflat] using this
      · simp at hf
    · simp at hf
  · rename_i id off len
    split at hf
    · rename_i cs hL
      split at hf
      · rename_i hc
        obtain ⟨hn, hol, hl⟩ := hc
        simp only [Option.some.injEq] at hf; subst hf
        obtain ⟨b, cc, e, fr, hrb, hh, hff, hcs, hvv, hone⟩ := h.ok id _ hL
        cases hr with
        | bsl hid hc ha =>
          have := h.fn _ _ _ _ hid hrb
          simp only [Loc.obj.injEq] at this; subst this
          have hlen : ((cs.drop off).take len).length = len := by simp; omega
          have hone' : ∀ c ∈ (cs.drop off).take len, c.one = true := fun c hc => hone c (List.mem_of_mem_drop (List.mem_of_mem_take hc))
          have hfo := flat_ones hone'
          refine hslice _ _ _ _ hlen (by omega) ?_
          by_cases hn0 : len = 0
          · exact .inl (by subst hn0; simp)
          · refine .inr ⟨_, off, 1, ha.resolve_left (by omega), fun y hy => ?_, fun p => cc.getD (off + p) undef, fun p hp => ?_, fun p hp => ?_⟩
            · have := hone' y hy
              cases y <;> first | rfl | (simp [V.one] at this)
            · rw [hfo, hlen] at hp
              exact hk id _ _ _ _ hn hL (.inl hrb) (cell_of_heap hh (by omega))
            · have hp' := hp
              rw [hfo, hlen] at hp'
              have := hv (hvv (off + p) (by omega)) (V.lts_mem hl _)
              simpa [hfo] using this
      · simp at hf
    · simp at hf
  · split at hf
    · rename_i hl
      simp only [Option.some.injEq] at hf; subst hf
      exact hv hr hl
    · simp at hf

theorem frzs_get {n : Nat} {L : List Obj} : ∀ {vs vs' : List V}, frzs n L vs = some vs' → vs'.length = vs.length ∧ ∀ p (hp : p < vs.length) (hp' : p < vs'.length), frz1 n L vs[p] = some vs'[p]
  | [], vs', h => by simp [frzs] at h; subst h; exact ⟨rfl, fun p hp => absurd hp (Nat.not_lt_zero p)⟩
  | v :: vs, vs', h => by
    simp only [frzs] at h
    split at h
    · rename_i x xs h1 h2
      simp only [Option.some.injEq] at h; subst h
      obtain ⟨a, b⟩ := frzs_get h2
      refine ⟨by simp [a], fun p hp hp' => ?_⟩
      cases p with
      | zero => exact h1
      | succ p => exact b p (by simpa using hp) (by simpa using hp')
    · simp at h

theorem frz_sound {G G' : Gh} {L : List Obj} {w : World} (h : Rel Z G L w) {n : Nat} (hv : ∀ {v r}, VR G v r → V.lt 0 v = true → VR G' v r)
    (hk : ∀ id ob b o u, n ≤ id → L[id]? = some ob → At G id ob b → w.cell? ⟨b, o, none⟩ = some u → G'.K b o u) (hkk : ∀ {b o u}, G.K b o u → G'.K b o u) {v v' : V} {r : Value} (hr : VR G v r)
    (hf : frz n L v = some v') : VR G' v' r := by
  unfold frz at hf
  split at hf
  · simp only [Option.map_eq_some_iff] at hf
    obtain ⟨vs', hf, rfl⟩ := hf
    obtain ⟨h1, h2⟩ := frzs_get hf
    cases hr with
    | tup hn hvs => exact .tup (by rw [hn, h1]) (fun p hp => frz1_sound h hv hk hkk (hvs p (by omega)) (h2 p (by omega) hp))
  · simp only [Option.map_eq_some_iff] at hf
    obtain ⟨vs', hf, rfl⟩ := hf
    obtain ⟨h1, h2⟩ := frzs_get hf
    cases hr with
    | agg hn hvs => exact .agg (by rw [hn, h1]) (fun p hp => frz1_sound h hv hk hkk (hvs p (by omega)) (h2 p (by omega) hp))
  · exact frz1_sound h hv hk hkk hr hf

/-- What a function hands back is frozen, what it made is forgotten. -/
theorem forget_data {G0 G : Gh} {L B : List Obj} {w0 w : World} (h0 : Rel Z G0 L w0) (h : Rel Z G (L ++ B) w) (he : Evo G0 L w0 G (L ++ B) w) {v v' : V} {r : Value} (hv : VR G v r) (hf : frz L.length (L ++ B) v = some v') :
    ∃ G', Rel Z G' L w ∧ Evo G0 L w0 G' L w ∧ VR G' v' r := by
  have hlt : ∀ (id : Nat) (ob : Obj), L[id]? = some ob → objLts L.length ob := fun id ob hid => (h0.ok id ob hid).lts h0.rl
  have hnew : ∀ b, Held G (L ++ B) b → ¬ Held (G.cut L.length) L b → w0.heap.size ≤ b := by
    intro b hb hn
    rcases he.held b hb with ⟨id, ob, h1, h2⟩ | h1
    · refine (hn ⟨id, ob, h1, ?_⟩).elim
      have hid := (List.getElem?_eq_some_iff.1 h1).1
      rcases h2.mono he.le with h2 | ⟨c, s, h2⟩
      · exact .inl ⟨h2, hid⟩
      · exact .inr ⟨c, s, h2, hid⟩
    · exact h1
  obtain ⟨G', k1, k2, k3, k4, k5, k6⟩ := h.forget he h0.rl hlt hnew
  refine ⟨G', k1, k2, frz_sound h (fun hv hl => k3 hv (V.lt_mono (Nat.zero_le _) _ hl)) (fun id ob b o u hn hid hat hc => k4 b o u ⟨id, ob, hid, hat⟩ ?_ hc) k5 hv hf⟩
  rintro ⟨id', ob', h1, h2⟩
  have hlt' := (List.getElem?_eq_some_iff.1 h1).1
  have := h.dis id' id ob' ob b (by rw [List.getElem?_append_left hlt']; exact h1) hid (h2.imp (fun h => h.1) (fun ⟨c, s, h⟩ => ⟨c, s, h.1⟩)) hat
  omega

theorem SC.data {f : FuncId} {args : List V} {L : List Obj} {K : V → Prop} (h : SC P Z f args L (fun v L' => ∃ B v', L' = L ++ B ∧ frz L.length L' v = some v' ∧ K v')) :
    SC P Z f args L (fun v L' => L' = L ∧ K v) :=
  ⟨h.1, fun G w rargs hr ha => (h.2 G w rargs hr ha).mono fun rv w' ⟨G', L', v, ⟨B, v', hL, hf, hk⟩, h1, h2, h3⟩ => by
    subst hL
    obtain ⟨G2, k1, k2, k3⟩ := forget_data hr h1 h2 h3 hf
    exact ⟨G2, L, v', ⟨rfl, hk⟩, k1, k2, k3⟩⟩
end Go.Pv
