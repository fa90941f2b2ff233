import Derived.Test.YtfjkplemepcmeaaPv21
set_option linter.unusedVariables false
set_option linter.unusedSimpArgs false
set_option linter.unusedSectionVars false
/- Appending to a slice whose length is not a numeral. -/
namespace Go.Pv
variable {P : Program} {Z : Nat → Go.Obj → Prop} {env : Nat → V} {L L' : List Obj} {ops : Array Oper} {rest : List Oper} {K : St → Prop} {d : Tmp}
  {ty t e u : TypeId} {ats : Array TypeId} {pos : String} {af : Array Edge} {s x : Operand} {id sz m : Nat} {xs ys : List V} {z : V}
theorem pop_app_own (ht : ats[0]? = some t) (hu : ats[1]? = some u) (hd : (match P.underlying u with | some (.slice _) => true | some .string => true | _ => false) = true)
    (hte : P.underlying t = some (.slice e)) (hsz : szT P e = some sz) (hz : zeroV P e = some z) (hzc : z.cells.length = sz) (h0 : 0 < sz)
    (hs : St.ev ⟨env, L⟩ s = .own id 0 xs.length xs.length) (hL : L[id]? = some (.buf sz m xs)) (hx : elems L (St.ev ⟨env, L⟩ x) = some ys) (hys : ys.all (fun y => y.cells.length == sz && y.cells.all V.one) = true)
    (hb : (xs.length + ys.length) * byT P e ≤ 140737488355328) (hb2 : xs.length + ys.length ≤ 4611686018427387904) :
    pop P L (St.ev ⟨env, L⟩) (.call ⟨.builtin .append, #[s, x], ats⟩) = some (.own id 0 (xs.length + ys.length) (xs.length + ys.length), L.set id (.buf sz m (xs ++ ys))) := by
  have h1 : pappend P L t (.own id 0 xs.length xs.length) (St.ev ⟨env, L⟩ x) = some (.own id 0 (xs.length + ys.length) (xs.length + ys.length), L.set id (.buf sz m (xs ++ ys))) := by
    simp only [pappend, pappendY, hte, hsz, hz, hx]
    rw [if_pos ⟨h0, hzc, hys⟩]
    simp only [hL]
    rw [if_pos ⟨trivial, trivial, trivial, trivial, hb, hb2⟩]
  simp only [pop, pbuiltin, List.map_cons, List.map_nil, ht, hu, hs, h1]
  revert hd
  cases P.underlying u with
  | none => simp
  | some k => cases k <;> simp
theorem pop_app_sl (ht : ats[0]? = some t) (hu : ats[1]? = some u) (hd : (match P.underlying u with | some (.slice _) => true | some .string => true | _ => false) = true)
    (hte : P.underlying t = some (.slice e)) (hsz : szT P e = some sz) (hz : zeroV P e = some z) (hzc : z.cells.length = sz) (h0 : 0 < sz) {nl : Bool}
    (hs : St.ev ⟨env, L⟩ s = .sl nl true xs) (hxs : xs.all (fun y => y.cells.length == sz) = true) (hx : elems L (St.ev ⟨env, L⟩ x) = some ys) (hys : ys.all (fun y => y.cells.length == sz && y.cells.all V.one) = true)
    (hb : (xs.length + ys.length) * byT P e ≤ 140737488355328) (hb2 : xs.length + ys.length ≤ 4611686018427387904) :
    pop P L (St.ev ⟨env, L⟩) (.call ⟨.builtin .append, #[s, x], ats⟩) = some (.own L.length 0 (xs.length + ys.length) (xs.length + ys.length), L ++ [.buf sz xs.length (xs ++ ys)]) := by
  have h1 : pappend P L t (.sl nl true xs) (St.ev ⟨env, L⟩ x) = some (.own L.length 0 (xs.length + ys.length) (xs.length + ys.length), L ++ [.buf sz xs.length (xs ++ ys)]) := by
    simp only [pappend, pappendY, hte, hsz, hz, hx]
    rw [if_pos ⟨h0, hzc, hys⟩, if_pos ⟨hxs, hb, hb2⟩]
  simp only [pop, pbuiltin, List.map_cons, List.map_nil, ht, hu, hs, h1]
  revert hd
  cases P.underlying u with
  | none => simp
  | some k => cases k <;> simp
theorem frz_own {k : Nat} (hL : L[id]? = some (.buf sz m xs)) (hn : k ≤ id) (hl : V.lts 0 xs = true) : frz1 k L (.own id 0 xs.length xs.length) = some (.sl false false xs) := by
  simp [frz1, hL, hn, hl]
theorem frz_tup2 {k : Nat} {a b a' b' : V} (h1 : frz1 k L a = some a') (h2 : frz1 k L b = some b') : frz k L (.tup [a, b]) = some (.tup [a', b']) := by
  simp [frz, frzs, h1, h2]
end Go.Pv
