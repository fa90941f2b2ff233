import Derived.Test.YtfjkplemepcmeaaPv17
set_option linter.unusedVariables false
set_option linter.unusedSectionVars false
/- A contract over no objects holds over any. -/
set_option linter.unusedSimpArgs false
namespace Go.Pv
variable {P : Program} {Z : Nat → Go.Obj → Prop}

mutual
def V.sh (d : Nat) : V → V
  | .ref id o => .ref (d + id) o
  | .eref id g i j => .eref (d + id) g i j
  | .own id o l g => .own (d + id) o l g
  | .bsl id o l => .bsl (d + id) o l
  | .yl id => .yl (d + id)
  | .map id => .map (d + id)
  | .cref cs => .cref (V.shs d cs)
  | .agg cs => .agg (V.shs d cs)
  | .tup cs => .tup (V.shs d cs)
  | .fn f cs => .fn f (V.shs d cs)
  | .sl n e xs => .sl n e (V.shs d xs)
  | .bool b => .bool b
  | .int k n => .int k n
  | .str s => .str s
  | .nilp => .nilp
  | .nilf => .nilf
  | .nilmap => .nilmap
  | .top => .top
def V.shs (d : Nat) : List V → List V
  | [] => []
  | v :: vs => V.sh d v :: V.shs d vs
end

theorem V.shs_map (d : Nat) : ∀ vs : List V, V.shs d vs = vs.map (V.sh d)
  | [] => rfl
  | v :: vs => by rw [V.shs, V.shs_map d vs]; rfl
theorem V.sh_cells (d : Nat) (v : V) : (V.sh d v).cells = v.cells.map (V.sh d) := by
  cases v <;> simp [V.sh, V.cells, V.shs_map]
theorem V.shs_flat (d : Nat) (xs : List V) : flat (xs.map (V.sh d)) = (flat xs).map (V.sh d) := by
  induction xs with
  | nil => rfl
  | cons x xs ih => rw [List.map_cons, flat_cons, flat_cons, ih, V.sh_cells, List.map_append]

theorem V.sh_data (d : Nat) : ∀ (v : V), V.lt 0 v = true → V.sh d v = v := by
  intro v
  refine V.rec (motive_1 := fun v => V.lt 0 v = true → V.sh d v = v) (motive_2 := fun vs => V.lts 0 vs = true → V.shs d vs = vs) ?_ ?_ ?_ ?_ ?_ ?_ ?_ ?_ ?_ ?_ ?_ ?_ ?_ ?_ ?_ ?_ ?_ ?_ ?_ ?_ v <;>
    intros <;> simp_all [V.lt, V.lts, V.sh, V.shs]

def Gh.join (G G' : Gh) (d : Nat) : Gh := ⟨G'.K, fun id g l => G.R id g l ∨ ∃ j, id = d + j ∧ G'.R j g l⟩

theorem VR.sh {G G' : Gh} {d : Nat} {v : V} {r : Value} (h : VR G' v r) : VR (G.join G' d) (V.sh d v) r := by
  have key : ∀ (cs : List V) (f : Nat → Value), (∀ p (hp : p < cs.length), VR (G.join G' d) (V.sh d cs[p]) (f p)) → ∀ p (hp : p < (cs.map (V.sh d)).length), VR (G.join G' d) (cs.map (V.sh d))[p] (f p) := fun cs f h p hp => by
    simp only [List.getElem_map]; exact h p (by simpa using hp)
  induction h with
  | bool b => exact .bool b
  | int k n => exact .int k n
  | str s => exact .str s
  | nilp => exact .nilp
  | ref h => exact .ref (.inr ⟨_, rfl, h⟩)
  | eref h => exact .eref (.inr ⟨_, rfl, h⟩)
  | erefx h => exact .erefx (.inr ⟨_, rfl, h⟩)
  | cref vs hk _ ih => rw [V.sh, V.shs_map]; exact .cref vs (fun p hp => hk p (by simpa using hp)) (key _ _ ih)
  | slnil => rw [V.sh]; exact .slnil
  | sl0 hx => rw [V.sh]; exact .sl0 hx
  | sl sz vs hne hx hc hsz hk hv ih =>
    rename_i ex xs B O c
    rw [V.sh, V.shs_map]
    have := VR.sl (G := G.join G' d) (exact := ex) (xs := xs.map (V.sh d)) (B := B) (O := O) (c := c) sz vs (by simpa using hne) (by simpa using hx) (by simpa using hc)
      (fun x hx => by
        simp only [List.mem_map] at hx
        obtain ⟨y, hy, rfl⟩ := hx
        rw [V.sh_cells, List.length_map]; exact hsz y hy)
      (fun p hp => hk p (by rw [V.shs_flat] at hp; simpa using hp))
      (fun p hp => by
        have hp' := hp
        rw [V.shs_flat, List.length_map] at hp'
        have := ih p hp'
        simpa [V.shs_flat] using this)
    simpa using this
  | own hr h ha => exact .own (.inr ⟨_, rfl, hr⟩) h ha
  | bsl h hc ha => exact .bsl (.inr ⟨_, rfl, h⟩) hc ha
  | agg hn _ ih => rw [V.sh, V.shs_map]; exact .agg (by simpa using hn) (key _ _ ih)
  | tup hn _ ih => rw [V.sh, V.shs_map]; exact .tup (by simpa using hn) (key _ _ ih)
  | fn hn _ ih => rw [V.sh, V.shs_map]; exact .fn (by simpa using hn) (key _ _ ih)
  | nilf => exact .nilf
  | yl h => exact .yl (.inr ⟨_, rfl, h⟩)
  | map h => exact .map (.inr ⟨_, rfl, h⟩)
  | nilmap => exact .nilmap
  | top r h => exact .top r h

def Obj.sh (d : Nat) : Obj → Obj
  | .box cs => .box (cs.map (V.sh d))
  | .buf sz m xs => .buf sz m (xs.map (V.sh d))
  | .loop st pend env n params assign body => .loop st pend (fun t => V.sh d (env t)) n params assign body
  | .map es => .map (es.map fun e => (V.sh d e.1, V.sh d e.2))
theorem Obj.sh_gen (d : Nat) (o : Obj) : (o.sh d).gen = o.gen := by cases o <;> simp [Obj.sh, Obj.gen]

theorem ObjOK.sh {G G' : Gh} {d id : Nat} {w : World} {ob : Obj} (h : ObjOK G' w id ob) : ObjOK (G.join G' d) w (d + id) (ob.sh d) := by
  have key : ∀ (cs : List V) (f : Nat → Value), (∀ p (hp : p < cs.length), VR G' cs[p] (f p)) → ∀ p (hp : p < (cs.map (V.sh d)).length), VR (G.join G' d) (cs.map (V.sh d))[p] (f p) := fun cs f h p hp => by
    simp only [List.getElem_map]; exact (h p (by simpa using hp)).sh
  cases ob with
  | box cs =>
    obtain ⟨b, c, e, fr, h1, h2, h3, h4, hv, h5⟩ := h
    refine ⟨b, c, e, fr, .inr ⟨_, rfl, h1⟩, h2, h3, by simpa using h4, key _ _ hv, fun x hx => ?_⟩
    simp only [List.mem_map] at hx
    obtain ⟨y, hy, rfl⟩ := hx
    have := h5 y hy
    cases y <;> first | rfl | (simp [V.one] at this)
  | buf sz m xs =>
    obtain ⟨h1, h2, loc, h3, hlo⟩ := h
    refine ⟨by simpa using h1, fun x hx => ?_, loc, .inr ⟨_, rfl, by simpa using h3⟩, ?_⟩
    · simp only [List.mem_map] at hx
      obtain ⟨y, hy, rfl⟩ := hx
      rw [V.sh_cells, List.length_map]; exact h2 y hy
    · cases loc with
      | obj b => exact hlo
      | blk b cap sz' =>
        obtain ⟨k1, k2, c, e, fr, k3, k4, k5, hv⟩ := hlo
        refine ⟨k1, by simpa using k2, c, e, fr, k3, k4, k5, fun p hp => ?_⟩
        have hp' := hp
        rw [V.shs_flat, List.length_map] at hp'
        have := (hv p hp').sh (G := G) (d := d)
        simpa [V.shs_flat] using this
      | ext B O sz' =>
        obtain ⟨k1, k2, vs, hv⟩ := hlo
        refine ⟨k1, by simpa using k2, vs, fun p hp => ?_⟩
        have hp' := hp
        rw [V.shs_flat, List.length_map] at hp'
        have := (hv p hp').2.sh (G := G) (d := d)
        exact ⟨(hv p hp').1, by simpa [V.shs_flat] using this⟩
  | loop st pend env n params assign body =>
    obtain ⟨b, tmps, d', fn, h1, h2, h3, hv⟩ := h
    exact ⟨b, tmps, d', fn, .inr ⟨_, rfl, h1⟩, h2, h3, fun t ht => (hv t ht).sh⟩
  | map es =>
    obtain ⟨b, en, cl, h1, h2, h3, hv⟩ := h
    refine ⟨b, en, cl, .inr ⟨_, rfl, h1⟩, h2, by simpa using h3, fun p hp => ?_⟩
    have hp' : p < es.length := by simpa using hp
    simp only [List.getElem_map]
    exact ⟨(hv p hp').1.sh, (hv p hp').2.sh⟩

/-- A call from no objects, made from any. -/
theorem SC.lift {f : FuncId} {args : List V} {K : V → List Obj → Prop} (h : SC P Z f args [] K) (ha : V.lts 0 args = true) (L : List Obj) :
    SC P Z f args L (fun v L' => ∃ u M, K u M ∧ v = V.sh L.length u ∧ L' = L ++ M.map (Obj.sh L.length)) := by
  refine ⟨h.1, fun G w rargs hr hra => ?_⟩
  have hheld0 : ∀ B, ¬ Held (G.cut 0) [] B := fun B ⟨id, ob, h, _⟩ => by simp at h
  have hr0 : Rel Z (G.cut 0) [] w := ⟨hr.kc, by simp, fun _ _ _ _ h1 h2 => hr.fn _ _ _ _ h1.1 h2.1, by simp, by simp, fun _ _ _ h => absurd h.2 (Nat.not_lt_zero _), by simp, hr.zc, fun B _ _ => hheld0 B⟩
  refine (h.2 (G.cut 0) w rargs hr0 ⟨hra.1, fun p hp => (hra.2 p hp).cut (V.lts_mem ha hp)⟩).mono ?_
  rintro rv w' ⟨G', M, u, hK, hr', he, hv⟩
  have hold : ∀ B, B < w.heap.size → w'.heap[B]? = w.heap[B]? := fun B hB => he.keep B hB (hheld0 B)
  have hle : G.le (G.join G' L.length) := ⟨fun hk => he.le.k hk, fun hr => .inl hr⟩
  have hget : ∀ id ob, (L ++ M.map (Obj.sh L.length))[id]? = some ob → (L[id]? = some ob) ∨ ∃ j o, id = L.length + j ∧ M[j]? = some o ∧ ob = o.sh L.length := by
    intro id ob hid
    by_cases hlt : id < L.length
    · rw [List.getElem?_append_left hlt] at hid; exact .inl hid
    · rw [List.getElem?_append_right (Nat.not_lt.1 hlt), List.getElem?_map, Option.map_eq_some_iff] at hid
      obtain ⟨o, h1, h2⟩ := hid
      exact .inr ⟨id - L.length, o, by omega, h1, h2.symm⟩
  have hltL : ∀ {id : Nat} {ob : Obj}, L[id]? = some ob → id < L.length := fun h => (List.getElem?_eq_some_iff.1 h).1
  have hRold : ∀ {id g l}, id < L.length → (G.join G' L.length).R id g l → G.R id g l := fun hlt h => by
    rcases h with h | ⟨j, rfl, _⟩
    · exact h
    · omega
  have hRnew : ∀ {j g l}, (G.join G' L.length).R (L.length + j) g l → G'.R j g l := fun {j g l} h => by
    rcases h with h | ⟨k, hk, h⟩
    · have := hr.rl _ _ _ h; omega
    · have hkj : k = j := by omega
      rw [← hkj]; exact h
  have hatold : ∀ {id : Nat} {ob : Obj} {b : Nat}, L[id]? = some ob → At (G.join G' L.length) id ob b → At G id ob b := fun hid h =>
    h.imp (hRold (hltL hid)) (fun ⟨c, s, h⟩ => ⟨c, s, hRold (hltL hid) h⟩)
  have hatnew : ∀ {j : Nat} {o : Obj} {b : Nat}, At (G.join G' L.length) (L.length + j) (o.sh L.length) b → At G' j o b := fun h => by
    unfold At at *
    rw [Obj.sh_gen] at h
    exact h.imp hRnew (fun ⟨c, s, h⟩ => ⟨c, s, hRnew h⟩)
  have hnewge : ∀ {j : Nat} {o : Obj} {b : Nat}, M[j]? = some o → At G' j o b → w.heap.size ≤ b := fun hj hat => by
    rcases he.held _ ⟨_, _, hj, hat⟩ with h | h
    · exact absurd h (hheld0 _)
    · exact h
  refine ⟨G.join G' L.length, _, _, ⟨u, M, hK, rfl, rfl⟩, ⟨hr'.kc, ?_, ?_, ?_, ?_, ?_, ?_, hr'.zc, ?_⟩, ⟨hle, he.size, fun B hB _ => hold B hB, ?_, ?_, he.io⟩, hv.sh⟩
  · intro id ob hid
    rcases hget id ob hid with hid | ⟨j, o, rfl, hj, rfl⟩
    · exact (hr.ok id ob hid).mono hle (fun b _ hb => hold b hb)
    · exact (hr'.ok j o hj).sh
  · rintro id g x y (h1 | ⟨j, rfl, h1⟩) (h2 | ⟨k, hk, h2⟩)
    · exact hr.fn _ _ _ _ h1 h2
    · have := hr.rl _ _ _ h1; omega
    · have := hr.rl _ _ _ h2; omega
    · obtain rfl : j = k := by omega
      exact hr'.fn _ _ _ _ h1 h2
  · intro id id' ob ob' b h1 h2 a1 a2
    rcases hget id ob h1 with k1 | ⟨j, o, rfl, hj, rfl⟩ <;> rcases hget id' ob' h2 with k2 | ⟨j', o', rfl, hj', rfl⟩
    · exact hr.dis _ _ _ _ _ k1 k2 (hatold k1 a1) (hatold k2 a2)
    · have := hr.held_lt ⟨_, _, k1, hatold k1 a1⟩
      have := hnewge hj' (hatnew a2)
      omega
    · have := hr.held_lt ⟨_, _, k2, hatold k2 a2⟩
      have := hnewge hj (hatnew a1)
      omega
    · rw [hr'.dis _ _ _ _ _ hj hj' (hatnew a1) (hatnew a2)]
  · intro B o v id ob hk hid hat
    rcases hget id ob hid with k1 | ⟨j, oo, rfl, hj, rfl⟩
    · have hat' := hatold k1 hat
      rcases he.kn B o v hk with h | h | h
      · exact hr.kw _ _ _ _ _ h k1 hat'
      · exact absurd h (hheld0 _)
      · have := hr.held_lt ⟨_, _, k1, hat'⟩; omega
    · obtain ⟨sz, m, xs, rfl, ho⟩ := hr'.kw _ _ _ _ _ hk hj (hatnew hat)
      exact ⟨sz, m, _, rfl, ho⟩
  · rintro id g x (h | ⟨j, rfl, h⟩)
    · have := hr.rl _ _ _ h; simp; omega
    · have := hr'.rl _ _ _ h; simp; omega
  · intro id g x sz m xs h hid
    rcases hget id _ hid with k1 | ⟨j, oo, rfl, hj, hoo⟩
    · exact hr.rg _ _ _ _ _ _ (hRold (hltL k1) h) k1
    · cases oo <;> simp only [Obj.sh, reduceCtorEq, Obj.buf.injEq] at hoo
      obtain ⟨rfl, rfl, rfl⟩ := hoo
      rw [List.length_map]
      exact hr'.rg _ _ _ _ _ _ (hRnew h) hj
  · rintro B o hz ⟨id, ob, hid, hat⟩
    rcases hget id ob hid with k1 | ⟨j, oo, rfl, hj, rfl⟩
    · exact hr.zh B o hz ⟨_, _, k1, hatold k1 hat⟩
    · exact hr'.zh B o hz ⟨_, _, hj, hatnew hat⟩
  · intro id ob B hid hat
    rcases hget id ob hid with k1 | ⟨j, oo, rfl, hj, rfl⟩
    · exact .inl ⟨_, k1, hatold k1 hat⟩
    · exact .inr (hnewge hj (hatnew hat))
  · intro B o v hk
    rcases he.kn B o v hk with h | h | h
    · exact .inl h
    · exact absurd h (hheld0 _)
    · exact .inr (.inr h)

theorem SE.lift {f : FuncId} {args : List V} {v : V} (h : SE P Z f args [] v []) (L : List Obj) (ha : V.lts 0 args = true) (hv : V.lt 0 v = true) : SE P Z f args L v L :=
  ⟨(SC.lift h.out ha L).mono fun u M ⟨u', M', ⟨h1, h2⟩, h3, h4⟩ => by subst h1 h2; exact ⟨by rw [h3, V.sh_data _ _ hv], by rw [h4]; simp⟩⟩

/-- A function that hands back one new slice, its own. -/
def shObj (d : Nat) (o : Obj) : Obj := o.sh d
theorem SE.lift1 {f : FuncId} {args : List V} {v : V} {sz m : Nat} {xs : List V} (h : SE P Z f args [] v [.buf sz m xs]) (L : List Obj) (ha : V.lts 0 args = true) (hx : V.lts 0 xs = true) :
    SE P Z f args L (V.sh L.length v) (L ++ [.buf sz m xs]) :=
  ⟨(SC.lift h.out ha L).mono fun u M ⟨u', M', ⟨h1, h2⟩, h3, h4⟩ => by
    subst h1 h2
    refine ⟨h3, ?_⟩
    rw [h4]
    simp only [List.map_cons, List.map_nil, Obj.sh]
    have : xs.map (V.sh L.length) = xs := by
      rw [V.lts_iff] at hx
      conv => rhs; rw [← List.map_id xs]
      exact List.map_congr_left fun x hxm => V.sh_data _ _ (hx x hxm)
    rw [this]⟩

/-! ### one object is kept -/
def kp1 (k : Nat) : V → Option V
  | .own id off len gen => if id = k then some (.own 0 off len gen) else none
  | v => if V.lt 0 v = true then some v else none
def kps (k : Nat) : List V → Option (List V)
  | [] => some []
  | v :: vs => match kp1 k v, kps k vs with
    | some x, some xs => some (x :: xs)
    | _, _ => none
def kp (k : Nat) : V → Option V
  | .tup vs => (kps k vs).map .tup
  | .agg vs => (kps k vs).map .agg
  | v => kp1 k v

theorem kps_get {k : Nat} : ∀ {vs vs' : List V}, kps k vs = some vs' → vs'.length = vs.length ∧ ∀ p (hp : p < vs.length) (hp' : p < vs'.length), kp1 k vs[p] = some vs'[p]
  | [], vs', h => by simp [kps] at h; subst h; exact ⟨rfl, fun p hp => absurd hp (Nat.not_lt_zero p)⟩
  | v :: vs, vs', h => by
    simp only [kps] at h
    split at h
    · rename_i x xs h1 h2
      simp only [Option.some.injEq] at h; subst h
      obtain ⟨a, b⟩ := kps_get h2
      refine ⟨by simp [a], fun p hp hp' => ?_⟩
      cases p with
      | zero => exact h1
      | succ p => exact b p (by simpa using hp) (by simpa using hp')
    · simp at h

theorem SC.keep {f : FuncId} {args : List V} {v : V} {sz m : Nat} {xs : List V} (h : SC P Z f args [] (fun u M => ∃ k, M[k]? = some (.buf sz m xs) ∧ V.lts 0 xs = true ∧ kp k u = some v)) : SE P Z f args [] v [.buf sz m xs] := by
  refine ⟨h.1, fun G w rargs hr hra => (h.2 G w rargs hr hra).mono ?_⟩
  rintro rv w' ⟨G', M, u, ⟨k, hk, hx, hkp⟩, hr', he, hv⟩
  let G2 : Gh := ⟨G'.K, fun id g l => id = 0 ∧ G'.R k g l⟩
  have hG0 : ∀ id g l, ¬ G.R id g l := fun id g l h => by have := hr.rl _ _ _ h; simp at this
  have hdata : ∀ {y : V} {r : Value}, VR G' y r → V.lt 0 y = true → VR G2 y r := fun h1 h2 => VR.mono (G := G'.cut 0) (G' := G2) ⟨fun h => h, fun h => absurd h.2 (Nat.not_lt_zero _)⟩ (h1.cut h2)
  have hk1 : ∀ {y y' : V} {r : Value}, VR G' y r → kp1 k y = some y' → VR G2 y' r := by
    intro y y' r hy hkk
    unfold kp1 at hkk
    split at hkk
    · split at hkk
      · rename_i hid
        subst hid
        simp only [Option.some.injEq] at hkk; subst hkk
        cases hy with
        | own h1 h2 h3 => exact .own ⟨rfl, h1⟩ h2 h3
      · simp at hkk
    · split at hkk
      · rename_i hl
        simp only [Option.some.injEq] at hkk; subst hkk
        exact hdata hy hl
      · simp at hkk
  have hvr : VR G2 v rv := by
    unfold kp at hkp
    split at hkp
    · simp only [Option.map_eq_some_iff] at hkp
      obtain ⟨vs', hf, rfl⟩ := hkp
      obtain ⟨h1, h2⟩ := kps_get hf
      cases hv with
      | tup hn hvs => exact .tup (by rw [hn, h1]) (fun p hp => hk1 (hvs p (by omega)) (h2 p (by omega) hp))
    · simp only [Option.map_eq_some_iff] at hkp
      obtain ⟨vs', hf, rfl⟩ := hkp
      obtain ⟨h1, h2⟩ := kps_get hf
      cases hv with
      | agg hn hvs => exact .agg (by rw [hn, h1]) (fun p hp => hk1 (hvs p (by omega)) (h2 p (by omega) hp))
    · exact hk1 hv hkp
  have hget : ∀ id ob, [Obj.buf sz m xs][id]? = some ob → id = 0 ∧ ob = .buf sz m xs := fun id ob h => by
    cases id with
    | zero => simp at h; exact ⟨rfl, h.symm⟩
    | succ id => simp at h
  have hat : ∀ {b}, At G2 0 (.buf sz m xs) b → At G' k (.buf sz m xs) b := fun h => h.imp (fun h => h.2) (fun ⟨c, s, h⟩ => ⟨c, s, h.2⟩)
  refine ⟨G2, _, v, ⟨rfl, rfl⟩, ⟨hr'.kc, ?_, ?_, ?_, ?_, ?_, ?_, hr'.zc, ?_⟩, ⟨⟨fun h => he.le.k h, fun h => absurd h (hG0 _ _ _)⟩, he.size, he.keep, ?_, he.kn, he.io⟩, hvr⟩
  · intro id ob h
    obtain ⟨rfl, rfl⟩ := hget id ob h
    obtain ⟨h1, h2, loc, h3, hlo⟩ := hr'.ok k _ hk
    refine ⟨h1, h2, loc, ⟨rfl, h3⟩, ?_⟩
    cases loc with
    | obj b => exact hlo
    | blk b cap sz' => obtain ⟨k1, k2, c, e, fr, k3, k4, k5, hvv⟩ := hlo; exact ⟨k1, k2, c, e, fr, k3, k4, k5, fun p hp => hdata (hvv p hp) (V.lts_mem (V.lts_flat hx) hp)⟩
    | ext B O sz' => obtain ⟨k1, k2, vs, hvv⟩ := hlo; exact ⟨k1, k2, vs, fun p hp => ⟨(hvv p hp).1, hdata (hvv p hp).2 (V.lts_mem (V.lts_flat hx) hp)⟩⟩
  · intro id g x y h1 h2; exact hr'.fn _ _ _ _ h1.2 h2.2
  · intro id id' ob ob' b h1 h2 _ _
    rw [(hget id ob h1).1, (hget id' ob' h2).1]
  · intro B o v id ob hkk h1 h2
    obtain ⟨rfl, rfl⟩ := hget id ob h1
    exact hr'.kw _ _ _ _ _ hkk hk (hat h2)
  · intro id g x h1; rw [h1.1]; simp
  · intro id g x s2 m2 xs2 h1 h2
    obtain ⟨rfl, h3⟩ := hget id _ h2
    simp only [Obj.buf.injEq] at h3
    obtain ⟨rfl, rfl, rfl⟩ := h3
    exact hr'.rg _ _ _ _ _ _ h1.2 hk
  · rintro B o hz ⟨id, ob, h1, h2⟩
    obtain ⟨rfl, rfl⟩ := hget id ob h1
    exact hr'.zh B o hz ⟨_, _, hk, hat h2⟩
  · intro id ob B h1 h2
    obtain ⟨rfl, rfl⟩ := hget id ob h1
    rcases he.heldi _ _ B hk (hat h2) with ⟨ob0, h3, _⟩ | h3
    · simp at h3
    · exact .inr h3

/-- A function that hands back a new slice of its own. -/
theorem SE.fresh {f : FuncId} {fn : Func} {c : Code} {args : List V} {v : V} {sz m : Nat} {xs : List V} (hZ : ∀ B o, Z B o → ∃ c e f, o = .cells c e f) (hf : P.funcs[f]? = some fn) (hb : fn.body = some c)
    (h : CW P Z none fn.ntmps c (Fin P fn (fun u M => ∃ k, M[k]? = some (.buf sz m xs) ∧ V.lts 0 xs = true ∧ kp k u = some v)) (fun t => args.getD t .undef) [])
    (hname : (fn.name == "runtime.NumGoroutine") = false := by kernel_rfl) (hn : args.length ≤ fn.ntmps := by exact Nat.le_of_ble_eq_true rfl) (hres : fn.results.toList.all (okRes fn.ntmps) = true := by kernel_rfl) :
    SE P Z f args [] v [.buf sz m xs] :=
  SC.keep (SC.of_SW hZ hf hb hname hn hres (SW.mono h.out fun e s hq => by
    cases e with
    | normal => obtain ⟨u, h1, h2⟩ := hq; exact ⟨.inl rfl, u, h1, h2⟩
    | ret => obtain ⟨u, h1, h2⟩ := hq; exact ⟨.inr rfl, u, h1, h2⟩
    | exit _ => exact hq.elim))
end Go.Pv
