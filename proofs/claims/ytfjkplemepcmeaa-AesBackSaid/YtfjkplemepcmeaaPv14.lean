import Derived.Test.YtfjkplemepcmeaaPv13
set_option linter.unusedVariables false
set_option linter.unusedSectionVars false
/- Regions whose order is left open: the rule. -/
set_option linter.unusedSimpArgs false
namespace Go.Pv
variable {P : Program} {Z : Nat → Go.Obj → Prop}

structure DrawOk (n : Nat) (ops : Array Oper) (m : Nat) : Prop where
  ok : okOps n ops = true
  le : m ≤ ops.size
  back : ∀ i o, ops[i]? = some o → ∀ j ∈ direct o, j < i
  reads : ∀ i o, ops[i]? = some o → i < m → ∀ t ∈ tmpsOf ops o, ∀ j oj, j < m → ops[j]? = some oj → oj.dst = some t → j < i ∧ j ∈ direct o
  apart : ∀ i o, ops[i]? = some o → i < m → ∀ d, o.dst = some d → ∀ j oj, j < m → ops[j]? = some oj → oj.dst = some d → j = i
  tail : ∀ i, m ≤ i → i < ops.size → ∀ j, j < i → ((masks ops.toList []).getD i 0).testBit j = true

theorem drawOk_spec {n : Nat} {ops : Array Oper} {m : Nat} (h : drawOk n ops m = true) : DrawOk n ops m := by
  simp only [drawOk, Bool.and_eq_true, decide_eq_true_eq] at h
  obtain ⟨⟨h1, h2⟩, h3⟩ := h
  have hi : ∀ i o, ops[i]? = some o → (direct o).all (fun j => decide (j < i)) = true ∧
      (if i < m then ((tmpsOf ops o).all fun t => (List.range m).all fun j => wOk ops t i o j) && apartOk ops m i o
      else (List.range i).all fun j => ((masks ops.toList []).getD i 0).testBit j) = true := by
    intro i o ho
    have hlt := (Array.getElem?_eq_some_iff.1 ho).1
    have := List.all_eq_true.1 h3 i (by simpa using hlt)
    unfold placeOk at this
    rw [ho] at this
    simp only [Bool.and_eq_true] at this
    exact this
  refine ⟨h1, h2, fun i o ho j hj => ?_, fun i o ho him t ht j oj hjm hoj hd => ?_, fun i o ho him d hd j oj hjm hoj hdj => ?_, fun i him hlt j hj => ?_⟩
  · have := List.all_eq_true.1 (hi i o ho).1 j hj
    simpa using this
  · have := (hi i o ho).2
    rw [if_pos him, Bool.and_eq_true] at this
    have h4 := List.all_eq_true.1 (List.all_eq_true.1 this.1 t ht) j (by simpa using hjm)
    unfold wOk at h4
    rw [hoj] at h4
    simpa [hd] using h4
  · have := (hi i o ho).2
    rw [if_pos him, Bool.and_eq_true] at this
    have h4 := this.2
    unfold apartOk at h4
    rw [hd] at h4
    have h5 := List.all_eq_true.1 h4 j (by simpa using hjm)
    unfold neOk at h5
    rw [hoj] at h5
    simpa [hdj] using h5
  · obtain ⟨o, ho⟩ : ∃ o, ops[i]? = some o := ⟨ops[i], by simp [hlt]⟩
    have := (hi i o ho).2
    rw [if_neg (by omega)] at this
    exact List.all_eq_true.1 this j (by simpa using hj)

def Ls (listed : Array Bool) (i : Nat) : Prop := listed.getD i false = true

theorem ready_iff {ops : Array Oper} {listed : Array Bool} (hs : listed.size = ops.size) {i : Nat} :
    i ∈ Region.ready .any ops listed ↔ i < ops.size ∧ ¬ Ls listed i ∧ ∀ o, ops[i]? = some o → ∀ j ∈ direct o, Ls listed j := by
  unfold Region.ready Ls
  simp only [List.mem_filter, List.mem_range, Bool.and_eq_true, Bool.not_eq_true']
  constructor
  · rintro ⟨h1, h2, h3⟩
    refine ⟨h1, ?_, fun o ho j hj => ?_⟩
    · have : listed.getD i false = listed.getD i true := by simp [Array.getD_eq_getD_getElem?, show i < listed.size by omega]
      rw [this, h2]; simp
    · rw [ho] at h3
      simp only [Option.map_some, Option.getD_some] at h3
      rw [Array.all_eq_true'] at h3
      simp only [direct, List.mem_map, List.mem_filter] at hj
      obtain ⟨e, ⟨he, hb⟩, rfl⟩ := hj
      have := h3 e (by simpa using he)
      simpa [hb] using this
  · rintro ⟨h1, h2, h3⟩
    refine ⟨h1, ?_, ?_⟩
    · have : listed.getD i false = listed.getD i true := by simp [Array.getD_eq_getD_getElem?, show i < listed.size by omega]
      rw [← this]; simpa using h2
    · have ho : ops[i]? = some ops[i] := by simp [h1]
      rw [ho]
      simp only [Option.map_some, Option.getD_some]
      rw [Array.all_eq_true']
      intro e he
      by_cases hb : Region.binds .any e = true
      · have := h3 _ ho e.on (by simp only [direct, List.mem_map, List.mem_filter]; exact ⟨e, ⟨by simpa using he, hb⟩, rfl⟩)
        simp [this]
      · simp [hb]

theorem Ls_set {listed : Array Bool} {i j : Nat} (hi : i < listed.size) : Ls (listed.setIfInBounds i true) j ↔ Ls listed j ∨ j = i := by
  unfold Ls
  simp only [Array.getD_eq_getD_getElem?]
  by_cases h : j = i
  · subst h; rw [Array.getElem?_setIfInBounds_self_of_lt hi]; simp
  · rw [Array.getElem?_setIfInBounds_ne (Ne.symm h)]; simp [h]

/-- Listed places are closed: what must be behind is there. -/
def Cl (ops : Array Oper) (listed : Array Bool) : Prop := ∀ i o, ops[i]? = some o → Ls listed i → ∀ j ∈ direct o, Ls listed j

theorem Cl.mask {n m : Nat} {ops : Array Oper} {listed : Array Bool} (hd : DrawOk n ops m) (hc : Cl ops listed) : ∀ (i : Nat) (o : Oper), ops[i]? = some o → (∀ j ∈ direct o, Ls listed j) →
    ∀ j, ((masks ops.toList []).getD i 0).testBit j = true → Ls listed j := by
  intro i
  induction i using Nat.strongRecOn with
  | _ i ih =>
    intro o ho hdir j hj
    have hsp := (masks_spec ops.toList []).2 i o (by simpa using ho) j (by simpa using hj)
    obtain ⟨k, hk, hh⟩ := hsp
    rcases hh with rfl | hh | hh
    · exact hdir _ hk
    · have hki := hd.back i o ho k hk
      have hlt := (Array.getElem?_eq_some_iff.1 ho).1
      have hok : ops[k]? = some ops[k] := by simp [show k < ops.size by omega]
      exact ih k hki _ hok (fun j' hj' => hc k _ hok (hdir k hk) j' hj') j hh
    · have := hd.back i o ho k hk
      simp at hh; omega

def unl (ops : Array Oper) (listed : Array Bool) : Nat := ((List.range ops.size).filter fun i => !listed.getD i false).length

theorem unl_set {ops : Array Oper} {listed : Array Bool} {i : Nat} (hs : listed.size = ops.size) (hi : i < ops.size) (hn : ¬ Ls listed i) : unl ops listed = unl ops (listed.setIfInBounds i true) + 1 := by
  unfold unl
  have key : ∀ (l : List Nat), l.Nodup → i ∈ l → (l.filter fun k => !listed.getD k false).length = (l.filter fun k => !(listed.setIfInBounds i true).getD k false).length + 1 := by
    intro l
    induction l with
    | nil => intro _ h; simp at h
    | cons a l ih =>
      intro hnd hm
      have hnd' := List.nodup_cons.1 hnd
      by_cases ha : a = i
      · subst ha
        have h1 : (listed.getD a false) = false := by unfold Ls at hn; simpa using hn
        have h2 : (listed.setIfInBounds a true).getD a false = true := (Ls_set (by omega)).2 (.inr rfl)
        rw [List.filter_cons_of_pos (by simp [h1]), List.filter_cons_of_neg (by simp [h2]), List.length_cons]
        congr 2
        apply List.filter_congr
        intro k hk
        have hka : k ≠ a := fun e => hnd'.1 (e ▸ hk)
        simp only [Array.getD_eq_getD_getElem?]
        rw [Array.getElem?_setIfInBounds_ne (Ne.symm hka)]
      · have hm' : i ∈ l := by simpa [Ne.symm ha] using hm
        have ih' := ih hnd'.2 hm'
        have h3 : (listed.setIfInBounds i true).getD a false = listed.getD a false := by
          simp only [Array.getD_eq_getD_getElem?]; rw [Array.getElem?_setIfInBounds_ne (Ne.symm ha)]
        by_cases hb : listed.getD a false = true
        · rw [List.filter_cons_of_neg (by simp [hb]), List.filter_cons_of_neg (by rw [h3]; simp [hb])]; exact ih'
        · rw [List.filter_cons_of_pos (by simpa using hb), List.filter_cons_of_pos (by rw [h3]; simpa using hb), List.length_cons, List.length_cons, ih']
  exact key _ List.nodup_range (by simpa using hi)

theorem unl_zero {ops : Array Oper} {listed : Array Bool} (h : unl ops listed = 0) : ∀ i, i < ops.size → Ls listed i := by
  intro i hi
  unfold unl at h
  have := List.filter_eq_nil_iff.1 (List.length_eq_zero_iff.1 h) i (by simpa using hi)
  unfold Ls
  simpa using this

theorem ready_nil {n m : Nat} {ops : Array Oper} {listed : Array Bool} (hd : DrawOk n ops m) (hs : listed.size = ops.size) (h : Region.ready .any ops listed = []) : ∀ i, i < ops.size → Ls listed i := by
  intro i
  induction i using Nat.strongRecOn with
  | _ i ih =>
    intro hi
    by_cases hl : Ls listed i
    · exact hl
    · have : i ∈ Region.ready .any ops listed := (ready_iff hs).2 ⟨hi, hl, fun o ho j hj => ih j (hd.back i o ho j hj) (by have := hd.back i o ho j hj; omega)⟩
      rw [h] at this
      simp at this

/-- The environment when just these have been carried out. -/
def EnvD (ops : Array Oper) (m : Nat) (vs : List V) (env0 : Nat → V) (listed : Array Bool) (env : Nat → V) : Prop :=
  (∀ j o d v, j < m → Ls listed j → ops[j]? = some o → o.dst = some d → vs[j]? = some v → env d = v) ∧
  (∀ t, (∀ j o, j < m → Ls listed j → ops[j]? = some o → o.dst ≠ some t) → env t = env0 t)

theorem envs_spec {ops : Array Oper} {m n : Nat} {vs : List V} {envs : Nat → Nat → V} {L : List Obj} (hd : DrawOk n ops m) (hl : vs.length = m)
    (hstep : ∀ k o v, k < m → ops[k]? = some o → vs[k]? = some v → envs (k + 1) = (St.put ⟨envs k, L⟩ o.dst v).env) : ∀ k, k ≤ m →
    (∀ j o d v, j < k → ops[j]? = some o → o.dst = some d → vs[j]? = some v → envs k d = v) ∧ (∀ t, (∀ j o, j < k → ops[j]? = some o → o.dst ≠ some t) → envs k t = envs 0 t)
  | 0, _ => ⟨fun j o d v hj => absurd hj (Nat.not_lt_zero j), fun t _ => rfl⟩
  | k + 1, hk => by
    obtain ⟨h1, h2⟩ := envs_spec hd hl hstep k (by omega)
    have hlt : k < ops.size := by have := hd.le; omega
    have ho : ops[k]? = some ops[k] := by simp [hlt]
    have hv : vs[k]? = some vs[k] := by simp [show k < vs.length by omega]
    have he := hstep k _ _ (by omega) ho hv
    rw [he]
    cases hdst : (ops[k]).dst with
    | none =>
      refine ⟨fun j o d v hj hoj hdj hvj => ?_, fun t ht => ?_⟩
      · by_cases hjk : j = k
        · subst hjk; rw [ho] at hoj; cases hoj; rw [hdst] at hdj; simp at hdj
        · exact h1 j o d v (by omega) hoj hdj hvj
      · exact h2 t fun j o hj hoj => ht j o (by omega) hoj
    | some dk =>
      refine ⟨fun j o d v hj hoj hdj hvj => ?_, fun t ht => ?_⟩
      · simp only [St.put, upd]
        by_cases hjk : j = k
        · subst hjk; rw [ho] at hoj; cases hoj; rw [hdst] at hdj; cases hdj; rw [if_pos rfl]; rw [hv] at hvj; exact Option.some.inj hvj
        · rw [if_neg]
          · exact h1 j o d v (by omega) hoj hdj hvj
          · intro e
            subst e
            exact hjk (hd.apart k _ ho (by omega) d hdst j o (by omega) hoj hdj)
      · simp only [St.put, upd]
        rw [if_neg]
        · exact h2 t fun j o hj hoj => ht j o (by omega) hoj
        · intro e
          subst e
          exact ht k _ (by omega) ho hdst

theorem SW.draw {r : Option Nat} {n : Nat} {Q : Ex → St → Prop} {st : St} {id : Nat} {ops : Array Oper} (m : Nat) (hm : P.follows .mixedOrders = true) (hok : drawOk n ops m = true)
    (h : exA P Z ops (ops.toList.take m) st (fun s => exOps P Z ops (ops.toList.drop m) s (Q .normal))) : SW P Z r n (.region id ops true) Q st := by
  intro N0 G a w hN hs
  have hd := drawOk_spec hok
  obtain ⟨vs, hvl, envs, he0, hstep, hK⟩ := exA_vals _ _ h
  have htl : (ops.toList.take m).length = m := by have := hd.le; simp; omega
  rw [htl] at hvl hK
  have htake : ∀ k, k < m → (ops.toList.take m)[k]? = ops[k]? := fun k hk => by simp [hk]
  have hstep' : ∀ k o v, k < m → ops[k]? = some o → vs[k]? = some v → envs (k + 1) = (St.put ⟨envs k, st.L⟩ o.dst v).env ∧
      (if pwanted ops (envs k) o = true then stepOk P Z st.L (envs k) o v else v = .undef) := fun k o v hk ho hv => hstep k o v (by rw [htake k hk]; exact ho) hv
  have hspec := envs_spec (L := st.L) hd hvl (fun k o v hk ho hv => (hstep' k o v hk ho hv).1)
  refine .region_any hm ?_
  have hdr : Rel Z G st.L w.drew ∧ Evo G st.L w G st.L w.drew := hs.rel.heap rfl
  have hs0 : SR Z N0 n G st a w.drew := ⟨hs.size, hs.tm, hdr.1, hs.ds⟩
  -- the places behind, in a row
  have phaseB : ∀ (fuel k : Nat) (listed : Array Bool) (G' : Gh) (s : St) (a' : Act) (w' : World), listed.size = ops.size → m ≤ k → k ≤ ops.size → (∀ i, i < ops.size → (Ls listed i ↔ i < k)) → fuel = ops.size - k →
      exOps P Z ops (ops.toList.drop k) s (Q .normal) → SR Z N0 n G' s a' w' → Evo G st.L w G' s.L w' →
      RWany P .any ops (fun a' w' => ∃ st' G', Q .normal st' ∧ SR Z N0 n G' st' a' w' ∧ Evo G st.L w G' st'.L w') fuel listed a' w' := by
    intro fuel
    induction fuel with
    | zero =>
      intro k listed G' s a' w' hsz hmk hko hlist hf hx hs' he
      have hk : k = ops.size := by omega
      subst hk
      refine ⟨?_, s, G', ?_, hs', he⟩
      · rw [List.eq_nil_iff_forall_not_mem]
        intro i hi
        obtain ⟨h1, h2, _⟩ := (ready_iff hsz).1 hi
        exact h2 ((hlist i h1).2 h1)
      · rw [List.drop_of_length_le (by simp)] at hx; exact hx
    | succ fuel ih =>
      intro k listed G' s a' w' hsz hmk hko hlist hf hx hs' he
      refine ⟨fun hnil => ?_, fun i hi => ?_⟩
      · have := ready_nil hd hsz hnil
        have hkk := (hlist k (by omega)).1 (this k (by omega))
        omega
      · obtain ⟨hlt, hnl, hdir⟩ := (ready_iff hsz).1 hi
        have hcl : Cl ops listed := fun i' o' ho' hl' j hj => by
          have hi' := (Array.getElem?_eq_some_iff.1 ho').1
          have hb := hd.back i' o' ho' j hj
          exact (hlist j (by omega)).2 (by have := (hlist i' hi').1 hl'; omega)
        have ho : ops[i]? = some ops[i] := by simp [hlt]
        have hik : i = k := by
          have h1 : ¬ i < k := fun h => hnl ((hlist i hlt).2 h)
          by_cases h2 : i = k
          · exact h2
          · have := Cl.mask hd hcl i _ ho (hdir _ ho) k (hd.tail i (by omega) hlt k (by omega))
            have := (hlist k (by omega)).1 this
            omega
        subst hik
        have hdrop : ops.toList.drop i = ops[i] :: ops.toList.drop (i + 1) := by
          rw [List.drop_eq_getElem_cons (by simpa using hlt)]; simp
        rw [hdrop] at hx
        have hoo := okOps_get hd.ok ho
        have hlist' : ∀ j, j < ops.size → (Ls (listed.setIfInBounds i true) j ↔ j < i + 1) := fun j hj => by
          rw [Ls_set (by omega), hlist j hj]; omega
        simp only [RWop, ho]
        rw [wanted_eq hs' hd.ok]
        simp only [exOps] at hx
        by_cases hw : pwanted ops s.env ops[i] = true
        · rw [if_pos hw] at hx ⊢
          obtain ⟨h1, h2⟩ := exOp_sound hs' hoo hx
          refine ⟨h1, h2.mono fun rv w2 ⟨G2, L2, v, hk, hr, he2, hv⟩ => ?_⟩
          exact ih (i + 1) _ G2 _ _ w2 (by simpa using hsz) (by omega) (by omega) hlist' (by omega) hk (hs'.step hr he2 hv (okOp_dst hoo)) (he.trans he2)
        · rw [if_neg hw] at hx ⊢
          have hst := hs'.step hs'.rel (.refl _ _ _) VR_undef (okOp_dst hoo)
          have e : ({ env := (s.put (ops[i]).dst V.undef).env, L := s.L } : St) = s.put (ops[i]).dst V.undef := by cases (ops[i]).dst <;> rfl
          rw [e] at hst
          have eL : (s.put (ops[i]).dst V.undef).L = s.L := by cases (ops[i]).dst <;> rfl
          exact ih (i + 1) _ G' _ _ w' (by simpa using hsz) (by omega) (by omega) hlist' (by omega) hx hst (by rw [eL]; exact he)
  -- the first ones, in any order
  have phaseA : ∀ (fuel : Nat) (listed : Array Bool) (G' : Gh) (env : Nat → V) (a' : Act) (w' : World), listed.size = ops.size → Cl ops listed → (∀ i, m ≤ i → i < ops.size → ¬ Ls listed i) → fuel = unl ops listed →
      EnvD ops m vs st.env listed env → SR Z N0 n G' ⟨env, st.L⟩ a' w' → Evo G st.L w G' st.L w' →
      RWany P .any ops (fun a' w' => ∃ st' G', Q .normal st' ∧ SR Z N0 n G' st' a' w' ∧ Evo G st.L w G' st'.L w') fuel listed a' w' := by
    intro fuel
    induction fuel with
    | zero =>
      intro listed G' env a' w' hsz hcl htail hf henv hs' he
      have hall := unl_zero hf.symm
      have hms : m = ops.size := by
        have hle := hd.le
        by_cases hlt : m < ops.size
        · exact absurd (hall m hlt) (htail m (Nat.le_refl _) hlt)
        · omega
      have henvm : env = envs m := by
        obtain ⟨k1, k2⟩ := hspec m (Nat.le_refl _)
        funext t
        by_cases ht : ∃ j o, j < m ∧ ops[j]? = some o ∧ o.dst = some t
        · obtain ⟨j, o, hj, ho, hdt⟩ := ht
          have hv : vs[j]? = some vs[j] := by simp [show j < vs.length by omega]
          rw [henv.1 j o t _ hj (hall j (by omega)) ho hdt hv, k1 j o t _ hj ho hdt hv]
        · rw [henv.2 t fun j o hj _ ho hdt => ht ⟨j, o, hj, ho, hdt⟩, k2 t fun j o hj ho hdt => ht ⟨j, o, hj, ho, hdt⟩, he0]
      subst henvm
      refine ⟨?_, ⟨envs m, st.L⟩, G', ?_, hs', he⟩
      · rw [List.eq_nil_iff_forall_not_mem]
        intro i hi
        obtain ⟨h1, h2, _⟩ := (ready_iff hsz).1 hi
        exact h2 (hall i h1)
      · rw [List.drop_of_length_le (by simp; omega)] at hK; exact hK
    | succ fuel ih =>
      intro listed G' env a' w' hsz hcl htail hf henv hs' he
      by_cases hall : ∀ i, i < m → Ls listed i
      · -- all of them are through
        have henvm : env = envs m := by
          obtain ⟨k1, k2⟩ := hspec m (Nat.le_refl _)
          funext t
          by_cases ht : ∃ j o, j < m ∧ ops[j]? = some o ∧ o.dst = some t
          · obtain ⟨j, o, hj, ho, hdt⟩ := ht
            have hv : vs[j]? = some vs[j] := by simp [show j < vs.length by omega]
            rw [henv.1 j o t _ hj (hall j hj) ho hdt hv, k1 j o t _ hj ho hdt hv]
          · rw [henv.2 t fun j o hj _ ho hdt => ht ⟨j, o, hj, ho, hdt⟩, k2 t fun j o hj ho hdt => ht ⟨j, o, hj, ho, hdt⟩, he0]
        subst henvm
        have hcount : fuel + 1 = ops.size - m := by
          rw [hf]
          unfold unl
          have e1 : (List.range ops.size).filter (fun i => !listed.getD i false) = (List.range ops.size).filter (fun i => decide (m ≤ i)) := by
            apply List.filter_congr
            intro i hi
            have hi' : i < ops.size := by simpa using hi
            by_cases him : m ≤ i
            · have := htail i him hi'; unfold Ls at this; simp only [him, decide_true]; simpa using this
            · have := hall i (by omega); unfold Ls at this; simp only [him, decide_false]; rw [this]; rfl
          rw [e1]
          have e2 : ∀ N, ((List.range N).filter fun i => decide (m ≤ i)).length = N - m := by
            intro N
            induction N with
            | zero => simp
            | succ N ihN =>
              rw [List.range_succ, List.filter_append, List.length_append, ihN]
              by_cases hmN : m ≤ N
              · simp [hmN]; omega
              · simp [hmN]; omega
          exact e2 _
        exact phaseB (fuel + 1) m listed G' ⟨envs m, st.L⟩ a' w' hsz (Nat.le_refl _) hd.le
          (fun i hi => ⟨fun hl => by by_cases him : i < m; exact him; exact absurd hl (htail i (by omega) hi), fun him => hall i him⟩) hcount hK hs' he
      · refine ⟨fun hnil => ?_, fun i hi => ?_⟩
        · have := ready_nil hd hsz hnil
          exact absurd (fun i hi => this i (by have := hd.le; omega)) hall
        · obtain ⟨hlt, hnl, hdir⟩ := (ready_iff hsz).1 hi
          have ho : ops[i]? = some ops[i] := by simp [hlt]
          have him : i < m := by
            by_cases him : i < m
            · exact him
            · exact absurd (fun j hj => Cl.mask hd hcl i _ ho (hdir _ ho) j (hd.tail i (by omega) hlt j (by omega))) hall
          have hoo := okOps_get hd.ok ho
          have hv : vs[i]? = some vs[i] := by simp [show i < vs.length by omega]
          obtain ⟨_, hst⟩ := hstep' i _ _ him ho hv
          obtain ⟨k1, k2⟩ := hspec i (by omega)
          have hagree : ∀ t ∈ tmpsOf ops ops[i], envs i t = env t := by
            intro t ht
            by_cases hw : ∃ j o, j < m ∧ ops[j]? = some o ∧ o.dst = some t
            · obtain ⟨j, o, hj, hoj, hdt⟩ := hw
              obtain ⟨hji, hjd⟩ := hd.reads i _ ho him t ht j o hj hoj hdt
              have hvj : vs[j]? = some vs[j] := by simp [show j < vs.length by omega]
              rw [k1 j o t _ hji hoj hdt hvj, henv.1 j o t _ hj (hdir _ ho j hjd) hoj hdt hvj]
            · rw [k2 t fun j o hj hoj hdt => hw ⟨j, o, by omega, hoj, hdt⟩, henv.2 t fun j o hj _ hoj hdt => hw ⟨j, o, hj, hoj, hdt⟩, he0]
          have hcl' : Cl ops (listed.setIfInBounds i true) := fun i' o' ho' hl' j hj => by
            rw [Ls_set (by omega)] at hl' ⊢
            rcases hl' with hl' | rfl
            · exact .inl (hcl i' o' ho' hl' j hj)
            · exact .inl (hdir o' ho' j hj)
          have htail' : ∀ i', m ≤ i' → i' < ops.size → ¬ Ls (listed.setIfInBounds i true) i' := fun i' h1 h2 hl => by
            rw [Ls_set (by omega)] at hl
            rcases hl with hl | rfl
            · exact htail i' h1 h2 hl
            · omega
          have hf' : fuel = unl ops (listed.setIfInBounds i true) := by have := unl_set hsz hlt hnl; omega
          have henv' : EnvD ops m vs st.env (listed.setIfInBounds i true) (St.put ⟨env, st.L⟩ (ops[i]).dst vs[i]).env := by
            cases hdst : (ops[i]).dst with
            | none =>
              refine ⟨fun j o d v hj hl hoj hdj hvj => ?_, fun t ht => henv.2 t fun j o hj hl => ht j o hj ((Ls_set (by omega)).2 (.inl hl))⟩
              rw [Ls_set (by omega)] at hl
              rcases hl with hl | rfl
              · exact henv.1 j o d v hj hl hoj hdj hvj
              · rw [ho] at hoj; cases hoj; rw [hdst] at hdj; simp at hdj
            | some di =>
              refine ⟨fun j o d v hj hl hoj hdj hvj => ?_, fun t ht => ?_⟩
              · simp only [St.put, upd]
                rw [Ls_set (by omega)] at hl
                by_cases hji : j = i
                · subst hji; rw [ho] at hoj; cases hoj; rw [hdst] at hdj; cases hdj; rw [if_pos rfl]; rw [hv] at hvj; exact Option.some.inj hvj
                · rw [if_neg]
                  · exact henv.1 j o d v hj (hl.resolve_right hji) hoj hdj hvj
                  · intro e; subst e; exact hji (hd.apart i _ ho him d hdst j o hj hoj hdj)
              · simp only [St.put, upd]
                rw [if_neg]
                · exact henv.2 t fun j o hj hl => ht j o hj ((Ls_set (by omega)).2 (.inl hl))
                · intro e; subst e; exact ht i _ him ((Ls_set (by omega)).2 (.inr rfl)) ho hdst
          simp only [RWop, ho]
          rw [wanted_eq hs' hd.ok]
          rw [pwanted_congr hagree] at hst
          by_cases hw : pwanted ops env ops[i] = true
          · rw [if_pos hw] at hst ⊢
            have hst' := stepOk_congr hagree hst
            have hx : exOp P Z ops[i] ⟨env, st.L⟩ (fun v' L' => v' = vs[i] ∧ L' = st.L) := by
              unfold stepOk at hst'
              unfold exOp
              split at hst'
              · rename_i hop; simp only [hop]; exact hst'
              · split
                · rename_i hop; first | (simp_all; done) | contradiction
                · rw [hst']; exact .of ⟨rfl, rfl⟩
            obtain ⟨h1, h2⟩ := exOp_sound hs' hoo hx
            refine ⟨h1, h2.mono fun rv w2 ⟨G2, L2, v, ⟨hve, hLe⟩, hr, he2, hvr⟩ => ?_⟩
            subst hve hLe
            have hss := hs'.step hr he2 hvr (okOp_dst hoo)
            exact ih _ G2 _ _ w2 (by simpa using hsz) hcl' htail' hf' henv' (by
              have e : ({ env := (St.put ⟨env, st.L⟩ (ops[i]).dst vs[i]).env, L := st.L } : St) = ⟨(St.put ⟨env, st.L⟩ (ops[i]).dst vs[i]).env, st.L⟩ := rfl
              exact hss) (he.trans he2)
          · rw [if_neg hw] at hst ⊢
            have hss := hs'.step hs'.rel (.refl _ _ _) VR_undef (okOp_dst hoo)
            rw [hst] at henv'
            exact ih _ G' _ _ w' (by simpa using hsz) hcl' htail' hf' henv' hss he
  have hnone : ∀ i, ¬ Ls (Array.replicate ops.size false) i := by
    intro i hl
    unfold Ls at hl
    by_cases hi : i < ops.size
    · simp [Array.getD_eq_getD_getElem?, hi] at hl
    · simp [Array.getD_eq_getD_getElem?, hi] at hl
  refine phaseA ops.size (Array.replicate ops.size false) G st.env a w.drew (by simp) (fun i o ho hl => absurd hl (hnone i)) (fun i _ _ => hnone i) ?_ ⟨fun j o d v _ hl => absurd hl (hnone j), fun t _ => rfl⟩ hs0 hdr.2
  unfold unl
  have : (List.range ops.size).filter (fun i => !(Array.replicate ops.size false).getD i false) = List.range ops.size := by
    apply List.filter_eq_self.2
    intro i hi
    have := hnone i
    unfold Ls at this
    simpa using this
  rw [this]; simp
end Go.Pv
