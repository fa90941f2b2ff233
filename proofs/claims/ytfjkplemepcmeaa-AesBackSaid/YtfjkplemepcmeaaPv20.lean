import Derived.Test.YtfjkplemepcmeaaPv19
set_option linter.unusedVariables false
set_option linter.unusedSimpArgs false
set_option linter.unusedSectionVars false
/- Rules by which a walk goes on by itself: each goal's head tells the rule. -/
namespace Go.Pv
variable {P : Program} {Z : Nat → Go.Obj → Prop} {r : Option Nat} {n : Nat} {Q : Ex → St → Prop} {x y : Code} {env : Nat → V} {L : List Obj} {id i : Nat} {ops : Array Oper}
structure KO (Q : Ex → St → Prop) (e : Ex) (env : Nat → V) (L : List Obj) : Prop where
  out : Q e ⟨env, L⟩
structure NX (P : Program) (Z : Nat → Go.Obj → Prop) (r : Option Nat) (n : Nat) (y : Code) (Q : Ex → St → Prop) (s : St) : Prop where
  out : CW P Z r n y Q s.env s.L
structure RE (Q : Ex → St → Prop) (s : St) : Prop where
  out : Q .normal s
structure DR (P : Program) (Z : Nat → Go.Obj → Prop) (ops : Array Oper) (m : Nat) (K : St → Prop) (s : St) : Prop where
  out : XO P Z ops (ops.toList.drop m) s.env s.L K
theorem K.nx (h : CW P Z r n y Q env L) : NX P Z r n y Q ⟨env, L⟩ := ⟨h⟩
theorem K.re (h : KO Q .normal env L) : RE Q ⟨env, L⟩ := ⟨h.out⟩
theorem K.dr {m : Nat} {K : St → Prop} (h : XO P Z ops (ops.toList.drop m) env L K) : DR P Z ops m K ⟨env, L⟩ := ⟨h⟩
theorem K.sn (h : CW P Z r n y Q env L) : KO (sqK P Z r n y Q) .normal env L := ⟨h⟩
theorem K.se (h : KO Q (.exit i) env L) : KO (sqK P Z r n y Q) (.exit i) env L := ⟨h.out⟩
theorem K.sr (h : KO Q .ret env L) : KO (sqK P Z r n y Q) .ret env L := ⟨h.out⟩
theorem K.bn (h : KO Q .normal env L) : KO (blK id Q) .normal env L := ⟨h.out⟩
theorem K.br (h : KO Q .ret env L) : KO (blK id Q) .ret env L := ⟨h.out⟩
theorem K.be (h : KO Q .normal env L) : KO (blK id Q) (.exit id) env L := ⟨by show (if id = id then Q .normal _ else _); rw [if_pos rfl]; exact h.out⟩
theorem K.bx (hne : decide (i = id) = false) (h : KO Q (.exit i) env L) : KO (blK id Q) (.exit i) env L := ⟨by show (if i = id then Q .normal _ else Q (.exit i) _); rw [if_neg (of_decide_eq_false hne)]; exact h.out⟩
theorem K.ln {J : Nat → St → Prop} {k : Nat} (k' : Nat) (hk : k' < k) (h : J k' ⟨env, L⟩) : KO (lpK J k Q) .normal env L := ⟨⟨k', hk, h⟩⟩
theorem K.le {J : Nat → St → Prop} {k : Nat} (h : KO Q (.exit i) env L) : KO (lpK J k Q) (.exit i) env L := ⟨h.out⟩
theorem K.lr {J : Nat → St → Prop} {k : Nat} (h : KO Q .ret env L) : KO (lpK J k Q) .ret env L := ⟨h.out⟩
theorem K.fin {fn : Func} {K : V → List Obj → Prop} {v : V} (h : resV P ⟨env, L⟩ fn.results.toList = some v) (hK : K v L) : KO (Fin P fn K) .ret env L := ⟨v, h, hK⟩
theorem W.rq (h : XO P Z ops ops.toList env L (NX P Z r n y Q)) (hok : okOps n ops = true := by kernel_rfl) : CW P Z r n (.seq (.region id ops false) y) Q env L :=
  W.rs (⟨W.rs.exOps_mono h.out fun _ h => h.out⟩) hok
theorem W.rz (h : XO P Z ops ops.toList env L (RE Q)) (hok : okOps n ops = true := by kernel_rfl) : CW P Z r n (.region id ops false) Q env L :=
  W.re (⟨W.rs.exOps_mono h.out fun _ h => h.out⟩) hok
theorem W.dq (m : Nat) (h : AO P Z ops (ops.toList.take m) env L (DR P Z ops m (NX P Z r n y Q))) (hm : P.follows .mixedOrders = true := by rfl) (hok : drawOk n ops m = true := by decide +kernel) :
    CW P Z r n (.seq (.region id ops true) y) Q env L :=
  W.ds m hm hok ⟨exA_mono h.out fun _ h => ⟨W.rs.exOps_mono h.out.out fun _ h => h.out⟩⟩
theorem W.dz (m : Nat) (h : AO P Z ops (ops.toList.take m) env L (DR P Z ops m (RE Q))) (hm : P.follows .mixedOrders = true := by rfl) (hok : drawOk n ops m = true := by decide +kernel) :
    CW P Z r n (.region id ops true) Q env L :=
  W.de m hm hok ⟨exA_mono h.out fun _ h => ⟨W.rs.exOps_mono h.out.out fun _ h => h.out⟩⟩
theorem W.kr (h : KO Q .ret env L) : CW P Z r n .ret Q env L := W.ret h.out
theorem W.kn (h : KO Q .normal env L) : CW P Z r n .skip Q env L := W.skip h.out
theorem W.ke (h : KO Q (.exit id) env L) : CW P Z r n (.exit id) Q env L := W.exit h.out
end Go.Pv
namespace Go.Pv
section shifts
variable {P : Program} {Z : Nat → Go.Obj → Prop} {env : Nat → V} {L : List Obj} {ops : Array Oper} {rest : List Oper} {K : St → Prop} {d : Tmp} {ty t t' : TypeId} {pos : String} {af : Array Edge} {x y : Operand} {k k' : IntKind} {a b : Int}
theorem pop_shl (hx : St.ev ⟨env, L⟩ x = .int k a) (hy : St.ev ⟨env, L⟩ y = .int k' b) (hb : 0 ≤ b) : pop P L (St.ev ⟨env, L⟩) (.binOp .shl t x y t') = some (.int k (k.wrap (a * 2 ^ (min b.toNat k.bits))), L) := by
  simp [pop, hx, hy, pbin, pshift, Int.not_lt.2 hb]
theorem pop_shr (hx : St.ev ⟨env, L⟩ x = .int k a) (hy : St.ev ⟨env, L⟩ y = .int k' b) (hb : 0 ≤ b) : pop P L (St.ev ⟨env, L⟩) (.binOp .shr t x y t') = some (.int k (a.fdiv (2 ^ (min b.toNat k.bits))), L) := by
  simp [pop, hx, hy, pbin, pshift, Int.not_lt.2 hb]
theorem X.shl (hx : St.ev ⟨env, L⟩ x = .int k a) (hy : St.ev ⟨env, L⟩ y = .int k' b) (hb : 0 ≤ b) (hK : XO P Z ops rest (upd env d (.int k (k.wrap (a * 2 ^ (min b.toNat k.bits))))) L K) :
    XO P Z ops (⟨some d, .binOp .shl t x y t', ty, pos, af, none⟩ :: rest) env L K := X.go0 (pop_shl hx hy hb) hK
theorem X.shr (hx : St.ev ⟨env, L⟩ x = .int k a) (hy : St.ev ⟨env, L⟩ y = .int k' b) (hb : 0 ≤ b) (hK : XO P Z ops rest (upd env d (.int k (a.fdiv (2 ^ (min b.toNat k.bits))))) L K) :
    XO P Z ops (⟨some d, .binOp .shr t x y t', ty, pos, af, none⟩ :: rest) env L K := X.go0 (pop_shr hx hy hb) hK
theorem A.shl (hx : St.ev ⟨env, L⟩ x = .int k a) (hy : St.ev ⟨env, L⟩ y = .int k' b) (hb : 0 ≤ b) (hK : AO P Z ops rest (upd env d (.int k (k.wrap (a * 2 ^ (min b.toNat k.bits))))) L K) :
    AO P Z ops (⟨some d, .binOp .shl t x y t', ty, pos, af, none⟩ :: rest) env L K := A.go0 (pop_shl hx hy hb) hK
theorem A.shr (hx : St.ev ⟨env, L⟩ x = .int k a) (hy : St.ev ⟨env, L⟩ y = .int k' b) (hb : 0 ≤ b) (hK : AO P Z ops rest (upd env d (.int k (a.fdiv (2 ^ (min b.toNat k.bits))))) L K) :
    AO P Z ops (⟨some d, .binOp .shr t x y t', ty, pos, af, none⟩ :: rest) env L K := A.go0 (pop_shr hx hy hb) hK
end shifts
/-- The end of a function: a value of data. -/
theorem end_data {P : Program} {fn : Func} {env : Nat → V} {L : List Obj} {u v : V} (h : resV P ⟨env, L⟩ fn.results.toList = some u) (hf : frz L.length L u = some u) (hu : u = v) :
    KO (Fin P fn (fun u M => ∃ B, M = L ++ B ∧ frz L.length M u = some v)) .ret env L := K.fin h ⟨[], (List.append_nil _).symm, by rw [hf, hu]⟩
theorem vI {k : IntKind} {a b : Int} (h : a = b) : V.int k a = V.int k b := by rw [h]
theorem vB {a b : Bool} (h : a = b) : V.bool a = V.bool b := by rw [h]
theorem vII {k k' : IntKind} {a b c d : Int} (h : a = b) (h' : c = d) : V.tup [.int k a, .int k' c] = V.tup [.int k b, .int k' d] := by rw [h, h']
end Go.Pv
