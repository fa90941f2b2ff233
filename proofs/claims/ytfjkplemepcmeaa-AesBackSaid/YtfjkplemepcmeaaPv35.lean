import Derived.Test.YtfjkplemepcmeaaG2
set_option linter.unusedSectionVars false
/- Regions whose order is left open, of which one operation makes a place. -/
set_option linter.unusedVariables false
set_option linter.unusedSimpArgs false
namespace Go.Pv
variable {P : Program} {Z : Nat → Go.Obj → Prop}
/-- Operations that make nothing and turn nothing. -/
def quietOp : Op → Bool
  | .move _ | .assign _ | .pick _ _ _ | .build _ _ | .buildSlice _ _ _ | .load _ _ | .nilCheck _ | .binOp _ _ _ _ _ | .unOp _ _ _ | .convert _ _ _ | .makeFunc _ _ _ | .slice _ _ _ _ _ | .fieldAddr _ _ _ | .field _ _ _ | .indexAddr _ _ _ | .index _ _ _ | .extract _ _ => true
  | .call { callee := .builtin .len, .. } => true
  | _ => false
theorem get_frame {L X : List Obj} {id : Nat} {o : Obj} (h : L[id]? = some o) : (L ++ X)[id]? = some o := by
  rw [List.getElem?_append_left (List.getElem?_eq_some_iff.1 h).1]; exact h
theorem elems_frame {L X : List Obj} {v : V} {xs : List V} (h : elems L v = some xs) : elems (L ++ X) v = some xs := by
  cases v <;> simp only [elems] at h ⊢ <;> first | exact h | skip
  all_goals
    split at h
    · rename_i hL; rw [get_frame hL]; exact h
    · simp at h
theorem pcells_frame {L X : List Obj} {v : V} {xs : List V} (h : pcells L v = some xs) : pcells (L ++ X) v = some xs := by
  cases v <;> simp only [pcells] at h ⊢ <;> first | exact h | skip
  all_goals
    split at h
    · rename_i hL; rw [get_frame hL]; exact h
    · simp at h
theorem pload_frame {L X : List Obj} {t : TypeId} {p v : V} (h : pload P L t p = some v) : pload P (L ++ X) t p = some v := by
  unfold pload at h ⊢
  cases hp : pcells L p with
  | none => rw [hp] at h; simp at h
  | some cs => rw [hp] at h; rw [pcells_frame hp]; exact h
theorem pindexAddr_frame {L X : List Obj} {t : TypeId} {x i v : V} (h : pindexAddr P L t x i = some v) : pindexAddr P (L ++ X) t x i = some v := by
  unfold pindexAddr at h ⊢
  split at h
  · split at h
    · exact h
    · split at h
      · rename_i hL; simp only [get_frame hL]; exact h
      · simp at h
    · exact h
    · simp at h
  · exact h
  · simp at h
theorem pslice_frame {L X : List Obj} {t : TypeId} {x v : V} {lo hi mx : Option V} (h : pslice P L t x lo hi mx = some v) : pslice P (L ++ X) t x lo hi mx = some v := by
  unfold pslice at h ⊢
  split at h
  all_goals first
    | exact h
    | (split at h
       · rename_i hs hL; simp only [hs, get_frame hL]; exact h
       · simp at h)
    | (simp at h; done)
theorem pconv_frame {L X : List Obj} {s d : TypeId} {x v : V} (h : pconv P L s d x = some v) : pconv P (L ++ X) s d x = some v := by
  unfold pconv at h ⊢
  split at h
  · exact h
  · exact h
  · split at h
    · cases he : elems L _ with
      | none => rw [he] at h; simp at h
      | some xs => rw [he] at h; rw [elems_frame he]; exact h
    · simp at h
  · exact h
  · simp at h
theorem plen_frame {L X : List Obj} {ts : Array TypeId} {xs : List V} {v : V} (h : pbuiltin P L .len ts xs = some (v, L)) : pbuiltin P (L ++ X) .len ts xs = some (v, L ++ X) := by
  cases xs with
  | nil => simp [pbuiltin] at h
  | cons x xs =>
    cases xs with
    | cons _ _ => simp [pbuiltin] at h
    | nil =>
      unfold pbuiltin at h ⊢
      simp only at h ⊢
      split at h
      · split at h
        · simpa using h
        · split at h
          · simpa using h
          · simp at h
        · split at h <;> first | (simp at h; done) | (simpa using h)
        · split at h <;> first | (simp at h; done) | (simpa using h)
        · split at h
          · split at h
            · rename_i hL; rw [get_frame hL]; simpa using h
            · simp at h
          · simpa using h
          · simp at h
        · simp at h
      · simp at h
theorem pop_frame {L X : List Obj} {env : Nat → V} {op : Op} {v : V} (hq : quietOp op = true) (h : pop P L (St.ev ⟨env, L⟩) op = some (v, L)) : pop P (L ++ X) (St.ev ⟨env, L ++ X⟩) op = some (v, L ++ X) := by
  have hev : St.ev ⟨env, L ++ X⟩ = St.ev ⟨env, L⟩ := by funext x; cases x <;> rfl
  rw [hev]
  have opt : ∀ {o : Option V}, o.map (·, L) = some (v, L) → o.map (·, L ++ X) = some (v, L ++ X) := fun {o} h => by cases o <;> simp_all
  have opt2 : ∀ {o o' : Option V}, o.map (·, L) = some (v, L) → (∀ u, o = some u → o' = some u) → o'.map (·, L ++ X) = some (v, L ++ X) := fun {o o'} h hh => by
    cases o with
    | none => simp at h
    | some u => rw [hh u rfl]; simpa using h
  cases op <;> simp only [quietOp, Bool.false_eq_true] at hq
  case move x => simpa [pop] using h
  case assign x => simpa [pop] using h
  case pick c a b =>
    simp only [pop] at h ⊢
    split at h <;> first | (simp at h; done) | (simpa using h)
  case build t ps => exact opt h
  case buildSlice t n ps => exact opt h
  case load t a => exact opt2 h fun u hu => pload_frame hu
  case nilCheck x =>
    simp only [pop] at h ⊢
    split at h <;> first | (simp at h; done) | (simpa using h)
  case binOp => exact opt h
  case unOp => exact opt h
  case convert => exact opt2 h fun u hu => pconv_frame hu
  case makeFunc f fs cs =>
    cases f <;> simp only [pop] at h ⊢ <;> first | (simp at h; done) | skip
    split at h
    · rename_i hc; rw [if_pos hc]; simpa using h
    · simp at h
  case slice => exact opt2 h fun u hu => pslice_frame hu
  case fieldAddr => exact opt h
  case field => exact opt h
  case indexAddr => exact opt2 h fun u hu => pindexAddr_frame hu
  case index => exact opt h
  case extract x i =>
    simp only [pop] at h ⊢
    split at h
    · exact opt h
    · simp at h
  case call c =>
    obtain ⟨cal, args, ts⟩ := c
    cases cal with
    | builtin b =>
      cases b <;> simp only [quietOp, Bool.false_eq_true] at hq
      exact plen_frame h
    | _ => simp [quietOp] at hq
theorem stepOk_frame {L X : List Obj} {env : Nat → V} {o : Oper} {v : V} (hq : quietOp o.op = true) (h : stepOk P Z L env o v) : stepOk P Z (L ++ X) env o v := by
  unfold stepOk at *
  split at h
  · rename_i heq; rw [heq] at hq; simp [quietOp] at hq
  · exact pop_frame hq h
theorem put_env (env : Nat → V) (L1 L2 : List Obj) (dst : Option Tmp) (v : V) : (St.put ⟨env, L1⟩ dst v).env = (St.put ⟨env, L2⟩ dst v).env := by cases dst <;> rfl
/-- As SW.draw; the operation behind the first p ones makes a place, and may go at any time among them. -/
theorem SW.drawP {r : Option Nat} {n : Nat} {Q : Ex → St → Prop} {st : St} {id : Nat} {ops : Array Oper} (p : Nat) (hm : P.follows .mixedOrders = true) (hok : drawOk n ops (p + 1) = true) {oa : Oper} {d : Tmp} {t : TypeId} {zv : V}
    (hoa : ops[p]? = some oa) (hop : oa.op = .alloc t) (hg : oa.guard = none) (hd0 : oa.dst = some d) (hzv : zeroV P t = some zv) (hone : zv.cells.all V.one = true) (hquiet : (ops.toList.take p).all (fun o => quietOp o.op) = true)
    (h : exA P Z ops (ops.toList.take p) st (fun s => exOps P Z ops (ops.toList.drop (p + 1)) ⟨upd s.env d (.ref s.L.length 0), s.L ++ [.box zv.cells]⟩ (Q .normal))) : SW P Z r n (.region id ops true) Q st := by
  intro N0 G a w hN hs
  have hd := drawOk_spec hok
  obtain ⟨vsA, hvlA, envsA, he0A, hstepA, hKA⟩ := exA_vals _ _ h
  have hps : p < ops.size := by have := hd.le; omega
  have htl : (ops.toList.take p).length = p := by simp; omega
  rw [htl] at hvlA hKA
  have htake : ∀ k, k < p → (ops.toList.take p)[k]? = ops[k]? := fun k hk => by simp [hk]
  let z : Obj := .box zv.cells
  let va : V := .ref st.L.length 0
  let vs : List V := vsA ++ [va]
  let envs : Nat → Nat → V := fun k => if k ≤ p then envsA k else upd (envsA p) d va
  have hvl : vs.length = p + 1 := by simp [vs, hvlA]
  have he0 : envs 0 = st.env := by simp only [envs, Nat.zero_le, if_true]; exact he0A
  have hvsp : vs[p]? = some va := by simp [vs, hvlA]
  have hstep' : ∀ k o v, k < p + 1 → ops[k]? = some o → vs[k]? = some v → envs (k + 1) = (St.put ⟨envs k, st.L⟩ o.dst v).env ∧
      (k < p → if pwanted ops (envs k) o = true then ∀ X, stepOk P Z (st.L ++ X) (envs k) o v else v = .undef) := by
    intro k o v hk ho hv
    by_cases hkp : k = p
    · subst hkp
      rw [hoa] at ho; cases ho
      rw [hvsp] at hv; cases hv
      refine ⟨?_, fun h => absurd h (Nat.lt_irrefl _)⟩
      simp only [envs, St.put, hd0]
      rw [if_neg (by omega), if_pos (Nat.le_refl _)]
    · have hk' : k < p := by omega
      have hv' : vsA[k]? = some v := by
        simp only [vs] at hv
        rwa [List.getElem?_append_left (by omega)] at hv
      obtain ⟨h1, h2⟩ := hstepA k o v (by rw [htake k hk']; exact ho) hv'
      simp only [envs]
      rw [if_pos (by omega), if_pos (by omega)]
      refine ⟨h1, fun _ => ?_⟩
      split
      · rename_i hw
        rw [if_pos hw] at h2
        exact fun X => stepOk_frame (List.all_eq_true.1 hquiet o (List.mem_of_getElem? ((htake k hk').trans ho))) h2
      · rename_i hw
        rw [if_neg hw] at h2; exact h2
  have hspec := envs_spec (L := st.L) hd hvl (fun k o v hk ho hv => (hstep' k o v hk ho hv).1)
  have hK : exOps P Z ops (ops.toList.drop (p + 1)) ⟨envs (p + 1), st.L ++ [z]⟩ (Q .normal) := by
    simp only [envs]
    rw [if_neg (by omega)]; exact hKA
  let LD : Array Bool → List Obj := fun listed => if listed.getD p false = true then st.L ++ [z] else st.L
  refine .region_any hm ?_
  have hdr : Rel Z G st.L w.drew ∧ Evo G st.L w G st.L w.drew := hs.rel.heap rfl
  have hs0 : SR Z N0 n G st a w.drew := ⟨hs.size, hs.tm, hdr.1, hs.ds⟩
  -- the places behind, in a row
  have phaseB : ∀ (fuel k : Nat) (listed : Array Bool) (G' : Gh) (s : St) (a' : Act) (w' : World), listed.size = ops.size → p + 1 ≤ k → k ≤ ops.size → (∀ i, i < ops.size → (Ls listed i ↔ i < k)) → fuel = ops.size - k →
      exOps P Z ops (ops.toList.drop k) s (Q .normal) → SR Z N0 n G' s a' w' → Evo G st.L w G' s.L w' →
      RWany P .any ops (fun a' w' => ∃ st' G', Q .normal st' ∧ SR Z N0 n G' st' a' w' ∧ Evo G st.L w G' st'.L w') fuel listed a' w' := by
    intro fuel
    induction fuel with
    | zero =>
      intro k listed G' s a' w' hsz hmk hko hlist hf hx hs' he
      have hk : k = ops.size := by omega
      subst hk
      refine ⟨?_, s, G', ?_, hs', he⟩
      · rw [List.eq_nil_iff_forall_not_mem]
        intro i hi
        obtain ⟨h1, h2, _⟩ := (ready_iff hsz).1 hi
        exact h2 ((hlist i h1).2 h1)
      · rw [List.drop_of_length_le (by simp)] at hx; exact hx
    | succ fuel ih =>
      intro k listed G' s a' w' hsz hmk hko hlist hf hx hs' he
      refine ⟨fun hnil => ?_, fun i hi => ?_⟩
      · have := ready_nil hd hsz hnil
        have hkk := (hlist k (by omega)).1 (this k (by omega))
        omega
      · obtain ⟨hlt, hnl, hdir⟩ := (ready_iff hsz).1 hi
        have hcl : Cl ops listed := fun i' o' ho' hl' j hj => by
          have hi' := (Array.getElem?_eq_some_iff.1 ho').1
          have hb := hd.back i' o' ho' j hj
          exact (hlist j (by omega)).2 (by have := (hlist i' hi').1 hl'; omega)
        have ho : ops[i]? = some ops[i] := by simp [hlt]
        have hik : i = k := by
          have h1 : ¬ i < k := fun h => hnl ((hlist i hlt).2 h)
          by_cases h2 : i = k
          · exact h2
          · have := Cl.mask hd hcl i _ ho (hdir _ ho) k (hd.tail i (by omega) hlt k (by omega))
            have := (hlist k (by omega)).1 this
            omega
        subst hik
        have hdrop : ops.toList.drop i = ops[i] :: ops.toList.drop (i + 1) := by
          rw [List.drop_eq_getElem_cons (by simpa using hlt)]; simp
        rw [hdrop] at hx
        have hoo := okOps_get hd.ok ho
        have hlist' : ∀ j, j < ops.size → (Ls (listed.setIfInBounds i true) j ↔ j < i + 1) := fun j hj => by
          rw [Ls_set (by omega), hlist j hj]; omega
        simp only [RWop, ho]
        rw [wanted_eq hs' hd.ok]
        simp only [exOps] at hx
        by_cases hw : pwanted ops s.env ops[i] = true
        · rw [if_pos hw] at hx ⊢
          obtain ⟨h1, h2⟩ := exOp_sound hs' hoo hx
          refine ⟨h1, h2.mono fun rv w2 ⟨G2, L2, v, hk, hr, he2, hv⟩ => ?_⟩
          exact ih (i + 1) _ G2 _ _ w2 (by simpa using hsz) (by omega) (by omega) hlist' (by omega) hk (hs'.step hr he2 hv (okOp_dst hoo)) (he.trans he2)
        · rw [if_neg hw] at hx ⊢
          have hst := hs'.step hs'.rel (.refl _ _ _) VR_undef (okOp_dst hoo)
          have e : ({ env := (s.put (ops[i]).dst V.undef).env, L := s.L } : St) = s.put (ops[i]).dst V.undef := by cases (ops[i]).dst <;> rfl
          rw [e] at hst
          have eL : (s.put (ops[i]).dst V.undef).L = s.L := by cases (ops[i]).dst <;> rfl
          exact ih (i + 1) _ G' _ _ w' (by simpa using hsz) (by omega) (by omega) hlist' (by omega) hx hst (by rw [eL]; exact he)
  -- the first ones, in any order
  have phaseA : ∀ (fuel : Nat) (listed : Array Bool) (G' : Gh) (env : Nat → V) (a' : Act) (w' : World), listed.size = ops.size → Cl ops listed → (∀ i, p + 1 ≤ i → i < ops.size → ¬ Ls listed i) → fuel = unl ops listed →
      EnvD ops (p + 1) vs st.env listed env → SR Z N0 n G' ⟨env, LD listed⟩ a' w' → Evo G st.L w G' (LD listed) w' →
      RWany P .any ops (fun a' w' => ∃ st' G', Q .normal st' ∧ SR Z N0 n G' st' a' w' ∧ Evo G st.L w G' st'.L w') fuel listed a' w' := by
    intro fuel
    induction fuel with
    | zero =>
      intro listed G' env a' w' hsz hcl htail hf henv hs' he
      have hall := unl_zero hf.symm
      have hms : p + 1 = ops.size := by
        have hle := hd.le
        by_cases hlt : p + 1 < ops.size
        · exact absurd (hall (p + 1) hlt) (htail (p + 1) (Nat.le_refl _) hlt)
        · omega
      have henvm : env = envs (p + 1) := by
        obtain ⟨k1, k2⟩ := hspec (p + 1) (Nat.le_refl _)
        funext t
        by_cases ht : ∃ j o, j < p + 1 ∧ ops[j]? = some o ∧ o.dst = some t
        · obtain ⟨j, o, hj, ho, hdt⟩ := ht
          have hv : vs[j]? = some vs[j] := by simp [show j < vs.length by omega]
          rw [henv.1 j o t _ hj (hall j (by omega)) ho hdt hv, k1 j o t _ hj ho hdt hv]
        · rw [henv.2 t fun j o hj _ ho hdt => ht ⟨j, o, hj, ho, hdt⟩, k2 t fun j o hj ho hdt => ht ⟨j, o, hj, ho, hdt⟩, he0]
      subst henvm
      have hLD : LD listed = st.L ++ [z] := if_pos (hall p hps)
      rw [hLD] at hs' he
      refine ⟨?_, ⟨envs (p + 1), st.L ++ [z]⟩, G', ?_, hs', he⟩
      · rw [List.eq_nil_iff_forall_not_mem]
        intro i hi
        obtain ⟨h1, h2, _⟩ := (ready_iff hsz).1 hi
        exact h2 (hall i h1)
      · rw [List.drop_of_length_le (by simp; omega)] at hK; exact hK
    | succ fuel ih =>
      intro listed G' env a' w' hsz hcl htail hf henv hs' he
      by_cases hall : ∀ i, i < p + 1 → Ls listed i
      · -- all of them are through
        have henvm : env = envs (p + 1) := by
          obtain ⟨k1, k2⟩ := hspec (p + 1) (Nat.le_refl _)
          funext t
          by_cases ht : ∃ j o, j < p + 1 ∧ ops[j]? = some o ∧ o.dst = some t
          · obtain ⟨j, o, hj, ho, hdt⟩ := ht
            have hv : vs[j]? = some vs[j] := by simp [show j < vs.length by omega]
            rw [henv.1 j o t _ hj (hall j hj) ho hdt hv, k1 j o t _ hj ho hdt hv]
          · rw [henv.2 t fun j o hj _ ho hdt => ht ⟨j, o, hj, ho, hdt⟩, k2 t fun j o hj ho hdt => ht ⟨j, o, hj, ho, hdt⟩, he0]
        subst henvm
        have hcount : fuel + 1 = ops.size - (p + 1) := by
          rw [hf]
          unfold unl
          have e1 : (List.range ops.size).filter (fun i => !listed.getD i false) = (List.range ops.size).filter (fun i => decide (p + 1 ≤ i)) := by
            apply List.filter_congr
            intro i hi
            have hi' : i < ops.size := by simpa using hi
            by_cases him : p + 1 ≤ i
            · have := htail i him hi'; unfold Ls at this; simp only [him, decide_true]; simpa using this
            · have := hall i (by omega); unfold Ls at this; simp only [him, decide_false]; rw [this]; rfl
          rw [e1]
          have e2 : ∀ N, ((List.range N).filter fun i => decide (p + 1 ≤ i)).length = N - (p + 1) := by
            intro N
            induction N with
            | zero => simp
            | succ N ihN =>
              rw [List.range_succ, List.filter_append, List.length_append, ihN]
              by_cases hmN : p + 1 ≤ N
              · simp [hmN]; omega
              · simp [hmN]; omega
          exact e2 _
        have hLD : LD listed = st.L ++ [z] := if_pos (hall p (by omega))
        rw [hLD] at hs' he
        exact phaseB (fuel + 1) (p + 1) listed G' ⟨envs (p + 1), st.L ++ [z]⟩ a' w' hsz (Nat.le_refl _) hd.le
          (fun i hi => ⟨fun hl => by by_cases him : i < p + 1; exact him; exact absurd hl (htail i (by omega) hi), fun him => hall i him⟩) hcount hK hs' he
      · refine ⟨fun hnil => ?_, fun i hi => ?_⟩
        · have := ready_nil hd hsz hnil
          exact absurd (fun i hi => this i (by have := hd.le; omega)) hall
        · obtain ⟨hlt, hnl, hdir⟩ := (ready_iff hsz).1 hi
          have ho : ops[i]? = some ops[i] := by simp [hlt]
          have him : i < p + 1 := by
            by_cases him : i < p + 1
            · exact him
            · exact absurd (fun j hj => Cl.mask hd hcl i _ ho (hdir _ ho) j (hd.tail i (by omega) hlt j (by omega))) hall
          have hoo := okOps_get hd.ok ho
          have hv : vs[i]? = some vs[i] := by simp [show i < vs.length by omega]
          obtain ⟨_, hst⟩ := hstep' i _ _ him ho hv
          obtain ⟨k1, k2⟩ := hspec i (by omega)
          have hagree : ∀ t ∈ tmpsOf ops ops[i], envs i t = env t := by
            intro t ht
            by_cases hw : ∃ j o, j < p + 1 ∧ ops[j]? = some o ∧ o.dst = some t
            · obtain ⟨j, o, hj, hoj, hdt⟩ := hw
              obtain ⟨hji, hjd⟩ := hd.reads i _ ho him t ht j o hj hoj hdt
              have hvj : vs[j]? = some vs[j] := by simp [show j < vs.length by omega]
              rw [k1 j o t _ hji hoj hdt hvj, henv.1 j o t _ hj (hdir _ ho j hjd) hoj hdt hvj]
            · rw [k2 t fun j o hj hoj hdt => hw ⟨j, o, by omega, hoj, hdt⟩, henv.2 t fun j o hj _ hoj hdt => hw ⟨j, o, hj, hoj, hdt⟩, he0]
          have hcl' : Cl ops (listed.setIfInBounds i true) := fun i' o' ho' hl' j hj => by
            rw [Ls_set (by omega)] at hl' ⊢
            rcases hl' with hl' | rfl
            · exact .inl (hcl i' o' ho' hl' j hj)
            · exact .inl (hdir o' ho' j hj)
          have htail' : ∀ i', p + 1 ≤ i' → i' < ops.size → ¬ Ls (listed.setIfInBounds i true) i' := fun i' h1 h2 hl => by
            rw [Ls_set (by omega)] at hl
            rcases hl with hl | rfl
            · exact htail i' h1 h2 hl
            · omega
          have hf' : fuel = unl ops (listed.setIfInBounds i true) := by have := unl_set hsz hlt hnl; omega
          have henv' : EnvD ops (p + 1) vs st.env (listed.setIfInBounds i true) (St.put ⟨env, st.L⟩ (ops[i]).dst vs[i]).env := by
            cases hdst : (ops[i]).dst with
            | none =>
              refine ⟨fun j o d v hj hl hoj hdj hvj => ?_, fun t ht => henv.2 t fun j o hj hl => ht j o hj ((Ls_set (by omega)).2 (.inl hl))⟩
              rw [Ls_set (by omega)] at hl
              rcases hl with hl | rfl
              · exact henv.1 j o d v hj hl hoj hdj hvj
              · rw [ho] at hoj; cases hoj; rw [hdst] at hdj; simp at hdj
            | some di =>
              refine ⟨fun j o d v hj hl hoj hdj hvj => ?_, fun t ht => ?_⟩
              · simp only [St.put, upd]
                rw [Ls_set (by omega)] at hl
                by_cases hji : j = i
                · subst hji; rw [ho] at hoj; cases hoj; rw [hdst] at hdj; cases hdj; rw [if_pos rfl]; rw [hv] at hvj; exact Option.some.inj hvj
                · rw [if_neg]
                  · exact henv.1 j o d v hj (hl.resolve_right hji) hoj hdj hvj
                  · intro e; subst e; exact hji (hd.apart i _ ho him d hdst j o hj hoj hdj)
              · simp only [St.put, upd]
                rw [if_neg]
                · exact henv.2 t fun j o hj hl => ht j o hj ((Ls_set (by omega)).2 (.inl hl))
                · intro e; subst e; exact ht i _ him ((Ls_set (by omega)).2 (.inr rfl)) ho hdst
          simp only [RWop, ho]
          rw [wanted_eq hs' hd.ok]
          by_cases hip : i = p
          · subst hip
            have hoi : ops[i] = oa := Option.some.inj (ho.symm.trans hoa)
            have hw : pwanted ops env ops[i] = true := by rw [hoi]; simp [pwanted, hg]
            rw [if_pos hw]
            have hLn : LD listed = st.L := if_neg hnl
            have hLn' : LD (listed.setIfInBounds i true) = st.L ++ [z] := if_pos ((Ls_set (by omega)).2 (.inr rfl))
            have hvi : vs[i] = va := by have := hvsp; rw [hv] at this; exact Option.some.inj this
            rw [hLn] at hs' he
            have hx : exOp P Z ops[i] ⟨env, st.L⟩ (fun v' L' => v' = va ∧ L' = st.L ++ [z]) := by
              rw [hoi]
              unfold exOp
              split
              · rename_i hc; rw [hop] at hc; simp at hc
              · rw [hop]; simp only [pop, hzv, hone, if_true]; exact .of ⟨rfl, rfl⟩
            obtain ⟨h1, h2⟩ := exOp_sound hs' hoo hx
            refine ⟨h1, h2.mono fun rv w2 ⟨G2, L2, v, ⟨hve, hLe⟩, hr, he2, hvr⟩ => ?_⟩
            subst hve hLe
            rw [hvi] at henv'
            have hss := hs'.step hr he2 hvr (okOp_dst hoo)
            exact ih _ G2 _ _ w2 (by simpa using hsz) hcl' htail' hf' henv' (by rw [hLn']; exact hss) (by rw [hLn']; exact he.trans he2)
          · have hip' : i < p := by omega
            have hst := hst hip'
            have hLs : LD (listed.setIfInBounds i true) = LD listed := by
              simp only [LD]
              have : Ls (listed.setIfInBounds i true) p ↔ Ls listed p := by
                rw [Ls_set (by omega)]
                exact ⟨fun h => h.resolve_right (fun e => hip e.symm), .inl⟩
              unfold Ls at this
              by_cases hl : listed.getD p false = true
              · rw [if_pos hl, if_pos (this.2 hl)]
              · rw [if_neg hl, if_neg (fun h => hl (this.1 h))]
            rw [pwanted_congr hagree] at hst
            by_cases hw : pwanted ops env ops[i] = true
            · rw [if_pos hw] at hst ⊢
              have hst0 : stepOk P Z (LD listed) (envs i) ops[i] vs[i] := by
                simp only [LD]
                split
                · exact hst [z]
                · have := hst []; rwa [List.append_nil] at this
              have hst' := stepOk_congr hagree hst0
              have hx : exOp P Z ops[i] ⟨env, LD listed⟩ (fun v' L' => v' = vs[i] ∧ L' = LD listed) := by
                unfold stepOk at hst'
                unfold exOp
                split at hst'
                · rename_i hop; simp only [hop]; exact hst'
                · split
                  · rename_i hop; first | (simp_all; done) | contradiction
                  · rw [hst']; exact .of ⟨rfl, rfl⟩
              obtain ⟨h1, h2⟩ := exOp_sound hs' hoo hx
              refine ⟨h1, h2.mono fun rv w2 ⟨G2, L2, v, ⟨hve, hLe⟩, hr, he2, hvr⟩ => ?_⟩
              subst hve
              subst hLe
              have hss := hs'.step hr he2 hvr (okOp_dst hoo)
              exact ih _ G2 _ _ w2 (by simpa using hsz) hcl' htail' hf' henv' (by rw [hLs, put_env env st.L (LD listed)]; exact hss) (by rw [hLs]; exact he.trans he2)
            · rw [if_neg hw] at hst ⊢
              have hss := hs'.step hs'.rel (.refl _ _ _) VR_undef (okOp_dst hoo)
              rw [hst] at henv'
              exact ih _ G' _ _ w' (by simpa using hsz) hcl' htail' hf' henv' (by rw [hLs, put_env env st.L (LD listed)]; exact hss) (by rw [hLs]; exact he)
  have hnone : ∀ i, ¬ Ls (Array.replicate ops.size false) i := by
    intro i hl
    unfold Ls at hl
    by_cases hi : i < ops.size
    · simp [Array.getD_eq_getD_getElem?, hi] at hl
    · simp [Array.getD_eq_getD_getElem?, hi] at hl
  have hL0 : LD (Array.replicate ops.size false) = st.L := if_neg (hnone p)
  refine phaseA ops.size (Array.replicate ops.size false) G st.env a w.drew (by simp) (fun i o ho hl => absurd hl (hnone i)) (fun i _ _ => hnone i) ?_ ⟨fun j o d v _ hl => absurd hl (hnone j), fun t _ => rfl⟩ (by rw [hL0]; exact hs0) (by rw [hL0]; exact hdr.2)
  unfold unl
  have : (List.range ops.size).filter (fun i => !(Array.replicate ops.size false).getD i false) = List.range ops.size := by
    apply List.filter_eq_self.2
    intro i hi
    have := hnone i
    unfold Ls at this
    simpa using this
  rw [this]; simp
section
variable {r : Option Nat} {n : Nat} {Q : Ex → St → Prop} {env : Nat → V} {L L' : List Obj} {y : Code} {id : Nat} {ops : Array Oper} {oa : Oper} {d : Tmp} {t : TypeId} {zv : V}
structure DP (P : Program) (Z : Nat → Go.Obj → Prop) (ops : Array Oper) (p : Nat) (d : Tmp) (z : Obj) (K : St → Prop) (s : St) : Prop where
  out : XO P Z ops (ops.toList.drop (p + 1)) (upd s.env d (.ref s.L.length 0)) (s.L ++ [z]) K
theorem K.dp {p : Nat} {z z' : Obj} {K : St → Prop} (h : XO P Z ops (ops.toList.drop (p + 1)) (upd env d (.ref L.length 0)) (L ++ [z']) K) (hz : z = z' := by ((try simp (decide := true) only [V.cells]) <;> rfl)) : DP P Z ops p d z K ⟨env, L⟩ := ⟨by subst hz; exact h⟩
theorem W.dqP (p : Nat) (hoa : ops[p]? = some oa) (hop : oa.op = .alloc t) (hg : oa.guard = none) (hd0 : oa.dst = some d) (hzv : zeroV P t = some zv) (hone : zv.cells.all V.one = true)
    (h : AO P Z ops (ops.toList.take p) env L (DP P Z ops p d (.box zv.cells) (NX P Z r n y Q))) (hm : P.follows .mixedOrders = true := by rfl) (hok : drawOk n ops (p + 1) = true := by decide +kernel) (hq : (ops.toList.take p).all (fun o => quietOp o.op) = true := by decide +kernel) :
    CW P Z r n (.seq (.region id ops true) y) Q env L :=
  ⟨SW.seq (SW.drawP p hm hok hoa hop hg hd0 hzv hone hq (exA_mono h.out fun _ h => W.rs.exOps_mono h.out.out fun _ h => h.out.out))⟩
end
end Go.Pv
