import Derived.Test.YtfjkplemepcmeaaG4
set_option linter.unusedVariables false
set_option linter.unusedSimpArgs false
set_option linter.unusedSectionVars false
section
/- Elements that are appended, told with less; zeros that are appended. -/
set_option linter.unusedVariables false
set_option linter.unusedSimpArgs false
set_option linter.unusedSectionVars false
namespace Go.Pv
variable {P : Program} {Z : Nat → Go.Obj → Prop}
theorem V.weak_cells (v : V) : (V.weak v).cells = v.cells.map V.weak := by
  cases v with
  | agg cs => rw [V.weak, V.weaks_eq]; rfl
  | tup cs => simp [V.weak, V.cells]
  | _ => simp [V.weak, V.cells]
theorem flat_weak (ys : List V) : flat (ys.map V.weak) = (flat ys).map V.weak := by
  induction ys with
  | nil => rfl
  | cons y ys ih => rw [List.map_cons, flat_cons, flat_cons, ih, V.weak_cells, List.map_append]
/-- So many zeros are appended. -/
theorem pop_app_z {env : Nat → V} {L : List Obj} {t e u : TypeId} {k : IntKind} {ats : Array TypeId} {s x : Operand} {id sz m w : Nat} {xs : List V} {z : V} (ht : ats[0]? = some t) (hu : ats[1]? = some u) (hd : P.underlying u = some (.int k))
    (hte : P.underlying t = some (.slice e)) (hsz : szT P e = some sz) (hz : zeroV P e = some z) (hzc : z.cells.length = sz) (h0 : 0 < sz) (hz1 : z.cells.all V.one = true)
    (hs : St.ev ⟨env, L⟩ s = .own id 0 xs.length xs.length) (hL : L[id]? = some (.buf sz m xs)) (hx : St.ev ⟨env, L⟩ x = .int .i64 (w : Int)) (hw : w ≤ 1000000) (hby : byT P e ≤ 1000) (hb : xs.length + w ≤ 1000000000) :
    pop P L (St.ev ⟨env, L⟩) (.call ⟨.builtin .append, #[s, x], ats⟩) = some (.own id 0 (xs.length + w) (xs.length + w), L.set id (.buf sz m (xs ++ List.replicate w z))) := by
  have h2 : pzeros P t (.int .i64 (w : Int)) = some (List.replicate w z) := by
    simp only [pzeros, hte, hz]
    rw [if_pos ⟨by omega, by omega, hby⟩, Int.toNat_natCast]
  have h3 : (xs.length + w) * byT P e ≤ 140737488355328 := by
    have : (xs.length + w) * byT P e ≤ 1000000000 * 1000 := Nat.mul_le_mul hb hby
    omega
  have h1 : pappendY P L t (.own id 0 xs.length xs.length) (some (List.replicate w z)) = some (.own id 0 (xs.length + w) (xs.length + w), L.set id (.buf sz m (xs ++ List.replicate w z))) := by
    simp only [pappendY, hte, hsz, hz]
    rw [if_pos ⟨h0, hzc, by rw [List.all_eq_true]; intro y hy; rw [List.eq_of_mem_replicate hy]; simp only [hzc, beq_self_eq_true, Bool.true_and]; exact hz1⟩]
    simp only [hL, List.length_replicate]
    rw [if_pos ⟨trivial, trivial, trivial, trivial, h3, by omega⟩]
  simp only [pop, pbuiltin, List.map_cons, List.map_nil, ht, hu, hs, hx, hd, h2, h1]
section
variable {ops : Array Oper} {rest : List Oper} {env : Nat → V} {L L' : List Obj} {K : St → Prop} {d : Tmp} {ty : TypeId} {pos : String} {af : Array Edge} {x s : Operand} {ats : Array TypeId} {α : Type} [Inhabited α] {g : α → V} {l : List α} {id sz m n : Nat}
theorem X.apc (l2 : List α) {ys : List V} (hp : pop P L (St.ev ⟨env, L⟩) (.call ⟨.builtin .append, #[s, x], ats⟩) = some (.own id 0 (l.length + ys.length) (l.length + ys.length), L.set id (.buf sz m (l.map g ++ ys)))) (hL : L[id]? = some (.buf sz m (l.map g)))
    (hw : ys.map V.weak = l2.map g) (hc : ∀ a : α, (g a).cells.length = sz) (hK : XO P Z ops rest (upd env d (.own id 0 (l ++ l2).length (l ++ l2).length)) (L.set id (.buf sz m ((l ++ l2).map g))) K) :
    XO P Z ops (⟨some d, .call ⟨.builtin .append, #[s, x], ats⟩, ty, pos, af, none⟩ :: rest) env L K := by
  have hlt := (List.getElem?_eq_some_iff.1 hL).1
  have hlen : ys.length = l2.length := by have := congrArg List.length hw; simpa using this
  have hwk : ∀ Kx : V → List Obj → Prop, Kx (.own id 0 (l ++ l2).length (l ++ l2).length) (L.set id (.buf sz m ((l ++ l2).map g))) → Wk Z (.own id 0 (l.length + ys.length) (l.length + ys.length)) (L.set id (.buf sz m (l.map g ++ ys))) Kx := by
    intro Kx hKx G w rv hr hv
    have hv2 := hr.viewBuf (id := id) (xs' := (l ++ l2).map g) (List.getElem?_set_self hlt) (by simp [hlen]) (fun z hz => by
      obtain ⟨b, _, rfl⟩ := List.mem_map.1 hz; exact hc b) (fun p p1 p2 r hh => by
        have e : flat ((l ++ l2).map g) = flat (l.map g) ++ (flat ys).map V.weak := by rw [List.map_append, flat_append, ← hw, flat_weak]
        simp only [e]
        simp only [flat_append] at p1 hh
        by_cases hp1 : p < (flat (l.map g)).length
        · rw [List.getElem_append_left hp1] at hh ⊢; exact hh
        · rw [List.getElem_append_right (by omega)] at hh ⊢
          rw [List.getElem_map]
          exact hh.weak)
    rw [List.set_set] at hv2
    refine ⟨G, _, _, hKx, hv2.1, hv2.2, ?_⟩
    rw [List.length_append, ← hlen]; exact hv
  refine ⟨?_⟩
  have hx' : exOp P Z ⟨some d, .call ⟨.builtin .append, #[s, x], ats⟩, ty, pos, af, none⟩ ⟨env, L⟩ (fun v L' => exOps P Z ops rest { env := (St.put ⟨env, L⟩ (some d) v).env, L := L' } K) := by
    simp only [exOp, hp]
    exact hwk _ hK.out
  simp only [exOps, pwanted, if_true]
  exact hx'
/-- Elements are appended; nil slices in them are told as empty ones. -/
theorem X.apw (l2 : List α) {ys : List V} (hK : XO P Z ops rest (upd env d (.own id 0 (l ++ l2).length (l ++ l2).length)) L' K) (hx : elems L (St.ev ⟨env, L⟩ x) = some ys := by rfl) (hs : St.ev ⟨env, L⟩ s = .own id 0 n n := by rfl) (hL : L[id]? = some (.buf sz m (l.map g)) := by rfl)
    (hn : l.length = n := by first | exact lenI | fail) (hw : ys.map V.weak = l2.map g := by rfl) (hys : ys.all (fun y => y.cells.length == sz && y.cells.all V.one) = true := by rfl) (hb : l.length + l2.length ≤ 1000000000 := by first | exact ltI | fail) (he : El P ats g sz := by first | exact elI | fail)
    (hL' : L.set id (.buf sz m ((l ++ l2).map g)) = L' := by first | exact nrmL | fail) : XO P Z ops (⟨some d, .call ⟨.builtin .append, #[s, x], ats⟩, ty, pos, af, none⟩ :: rest) env L K := by
  subst hL' hn
  obtain ⟨t, u, e, z, h1, h2, h3, h4, h5, h6, h7, h8⟩ := he.ok
  have hlen : ys.length = l2.length := by have := congrArg List.length hw; simpa using this
  have hs' : St.ev ⟨env, L⟩ s = .own id 0 (l.map g).length (l.map g).length := by rw [hs, List.length_map]
  have := pop_app_own (P := P) (env := env) (L := L) (ats := ats) (x := x) (s := s) h1 h2 h3 h4 h5 h6 h7 he.pos hs' hL hx hys (by
    simp only [List.length_map]
    have : (l.length + ys.length) * byT P e ≤ 1000000000 * 1000 := Nat.mul_le_mul (by omega) h8
    omega) (by simp only [List.length_map]; omega)
  rw [List.length_map] at this
  exact X.apc l2 this hL hw (fun a => by have := he.one a; simp at this; exact this.1) hK
/-- Zeros are appended. -/
theorem X.apz (a : α) (w : Nat) {t e u : TypeId} {k : IntKind} {z : V} (hK : XO P Z ops rest (upd env d (.own id 0 (l ++ List.replicate w a).length (l ++ List.replicate w a).length)) L' K) (hx : St.ev ⟨env, L⟩ x = .int .i64 (w : Int)) (hw : w ≤ 1000000) (hb : l.length + w ≤ 1000000000)
    (hs : St.ev ⟨env, L⟩ s = .own id 0 n n := by rfl) (hL : L[id]? = some (.buf sz m (l.map g)) := by rfl) (hn : l.length = n := by first | exact lenI | fail) (ht : ats[0]? = some t := by rfl) (hu : ats[1]? = some u := by rfl) (hd : P.underlying u = some (.int k) := by rfl)
    (hte : P.underlying t = some (.slice e) := by rfl) (hsz : szT P e = some sz := by rfl) (hz : zeroV P e = some z := by rfl) (hzc : z.cells.length = sz := by rfl) (h0 : 0 < sz := by decide) (hz1 : z.cells.all V.one = true := by rfl) (hby : byT P e ≤ 1000 := by decide +kernel) (hwk : V.weak z = g a := by rfl) (hc : ∀ a : α, (g a).cells.length = sz := by intro _; rfl)
    (hL' : L.set id (.buf sz m ((l ++ List.replicate w a).map g)) = L' := by first | exact nrmL | fail) : XO P Z ops (⟨some d, .call ⟨.builtin .append, #[s, x], ats⟩, ty, pos, af, none⟩ :: rest) env L K := by
  subst hL' hn
  have := pop_app_z (P := P) (env := env) (L := L) (ats := ats) (x := x) (s := s) (xs := l.map g) ht hu hd hte hsz hz hzc h0 hz1 (by rw [hs, List.length_map]) hL hx hw hby (by simpa using hb)
  rw [List.length_map] at this
  exact X.apc (List.replicate w a) (ys := List.replicate w z) (by rw [List.length_replicate]; exact this) hL (by rw [List.map_replicate, List.map_replicate, hwk]) hc hK
end
end Go.Pv
end
