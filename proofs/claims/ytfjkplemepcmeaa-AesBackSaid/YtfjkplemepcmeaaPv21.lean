import Derived.Test.YtfjkplemepcmeaaPv20
set_option linter.unusedVariables false
set_option linter.unusedSimpArgs false
set_option linter.unusedSectionVars false
/- Rules for loops over functions, rounds, and what a loop keeps. -/
namespace Go.Pv
variable {P : Program} {Z : Nat → Go.Obj → Prop} {r : Option Nat} {n : Nat} {Q : Ex → St → Prop} {x y : Code} {env : Nat → V} {L : List Obj} {id i : Nat} {ops : Array Oper}
theorem K.finN {fn : Func} {K : V → List Obj → Prop} {v : V} (h : resV P ⟨env, L⟩ fn.results.toList = some v) (hK : K v L) : KO (Fin P fn K) .normal env L := ⟨v, h, hK⟩
/-- What one knows of the environment is written into it. -/
theorem upd_self {t : Nat} {v : V} (h : env t = v) : upd env t v = env := by
  funext i; unfold upd; split
  · rename_i hi; subst hi; exact h.symm
  · rfl
theorem W.ev (t : Nat) {v : V} {c : Code} (h : env t = v) (hK : CW P Z r n c Q (upd env t v) L) : CW P Z r n c Q env L := by rwa [upd_self h] at hK
/-- A contract out of a walk. -/
theorem SC.walk {f : FuncId} {fn : Func} {c : Code} {args : List V} {L : List Obj} {K : V → List Obj → Prop} (hZ : ∀ B o, Z B o → ∃ c e f, o = .cells c e f) (hf : P.funcs[f]? = some fn) (hb : fn.body = some c)
    (h : CW P Z none fn.ntmps c (Fin P fn K) (fun t => args.getD t .undef) L)
    (hname : (fn.name == "runtime.NumGoroutine") = false := by kernel_rfl) (hn : args.length ≤ fn.ntmps := by exact Nat.le_of_ble_eq_true rfl) (hres : fn.results.toList.all (okRes fn.ntmps) = true := by kernel_rfl) :
    SC P Z f args L K :=
  SC.of_SW hZ hf hb hname hn hres (SW.mono h.out fun e s hq => by
    cases e with
    | normal => obtain ⟨u, h1, h2⟩ := hq; exact ⟨.inl rfl, u, h1, h2⟩
    | ret => obtain ⟨u, h1, h2⟩ := hq; exact ⟨.inr rfl, u, h1, h2⟩
    | exit _ => exact hq.elim)
/-! rounds -/
def ybQ (id : Nat) (env : Nat → V) (n : Nat) (params : Array Tmp) (assign body : Code) (K : V → List Obj → Prop) (e : Ex) (s : St) : Prop :=
  ∃ pend2, s.L[id]? = some (.loop .busy pend2 env n params assign body) ∧ K (.bool (decide (e = .normal))) (s.L.set id (.loop (if e = .normal then .ready else .done) (jumpOf e) env n params assign body))
def yaQ (P : Program) (Z : Nat → Go.Obj → Prop) (b : Nat) (id : Nat) (env : Nat → V) (n : Nat) (params : Array Tmp) (assign body : Code) (K : V → List Obj → Prop) (e : Ex) (s : St) : Prop :=
  e = .normal ∧ ∃ pend1, s.L[id]? = some (.loop .ready pend1 env n params assign body) ∧ CW P Z (some b) n body (ybQ id env n params assign body K) s.env (s.L.set id (.loop .busy pend1 env n params assign body))
theorem Y.go {pend : Option Code} {params : Array Tmp} {assign body : Code} {args : List V} {K : V → List Obj → Prop}
    (hL : L[id]? = some (.loop .ready pend env n params assign body)) (h : ∀ b, CW P Z (some b) n assign (yaQ P Z b id env n params assign body K) (updl env params.toList args) L)
    (hlen : params.size = args.length := by rfl) (hp : params.toList.all (fun t => decide (t < n)) = true := by kernel_rfl) : CallV P Z (.yl id) args L K :=
  CallV.yield hL hlen hp fun b => ⟨SW.mono (h b).out fun e s ⟨h1, pend1, h2, h3⟩ => ⟨h1, pend1, h2, ⟨SW.mono h3.out fun e2 s2 ⟨p2, h4, h5⟩ => ⟨p2, h4, h5⟩⟩⟩⟩
theorem Y.go1 {pend : Option Code} {p : Tmp} {assign body : Code} {a : V} {K : V → List Obj → Prop}
    (hL : L[id]? = some (.loop .ready pend env n #[p] assign body)) (h : ∀ b, CW P Z (some b) n assign (yaQ P Z b id env n #[p] assign body K) (upd env p a) L)
    (hp : [p].all (fun t => decide (t < n)) = true := by kernel_rfl) : CallV P Z (.yl id) [a] L K := Y.go hL h rfl hp
theorem Y.go2 {pend : Option Code} {p q : Tmp} {assign body : Code} {a a' : V} {K : V → List Obj → Prop}
    (hL : L[id]? = some (.loop .ready pend env n #[p, q] assign body)) (h : ∀ b, CW P Z (some b) n assign (yaQ P Z b id env n #[p, q] assign body K) (upd (upd env p a) q a') L)
    (hp : [p, q].all (fun t => decide (t < n)) = true := by kernel_rfl) : CallV P Z (.yl id) [a, a'] L K := Y.go hL h rfl hp
theorem K.ya {b : Nat} {env0 : Nat → V} {params : Array Tmp} {assign body : Code} {K : V → List Obj → Prop} {pend1 : Option Code} {L' : List Obj} (hs : L[id]? = some (.loop .ready pend1 env0 n params assign body))
    (h : CW P Z (some b) n body (ybQ id env0 n params assign body K) env L') (hL : L.set id (.loop .busy pend1 env0 n params assign body) = L' := by rfl) : KO (yaQ P Z b id env0 n params assign body K) .normal env L := ⟨rfl, pend1, hs, by rw [hL]; exact h⟩
theorem K.yn {env0 : Nat → V} {params : Array Tmp} {assign body : Code} {K : V → List Obj → Prop} {pend2 : Option Code} {L' : List Obj} (hs : L[id]? = some (.loop .busy pend2 env0 n params assign body))
    (h : K (.bool true) L') (hL : L.set id (.loop .ready none env0 n params assign body) = L' := by rfl) : KO (ybQ id env0 n params assign body K) .normal env L := ⟨pend2, hs, by subst hL; exact h⟩
theorem K.yr {env0 : Nat → V} {params : Array Tmp} {assign body : Code} {K : V → List Obj → Prop} {pend2 : Option Code} {L' : List Obj} (hs : L[id]? = some (.loop .busy pend2 env0 n params assign body))
    (h : K (.bool false) L') (hL : L.set id (.loop .done (some .ret) env0 n params assign body) = L' := by rfl) : KO (ybQ id env0 n params assign body K) .ret env L := ⟨pend2, hs, by subst hL; exact h⟩
theorem K.ye {env0 : Nat → V} {params : Array Tmp} {assign body : Code} {K : V → List Obj → Prop} {pend2 : Option Code} {L' : List Obj} (hs : L[id]? = some (.loop .busy pend2 env0 n params assign body))
    (h : K (.bool false) L') (hL : L.set id (.loop .done (some (.exit i)) env0 n params assign body) = L' := by rfl) : KO (ybQ id env0 n params assign body K) (.exit i) env L := ⟨pend2, hs, by subst hL; exact h⟩
/-- A loop over a function; it ends with no jump. -/
theorem W.rf {f : Operand} {params : Array Tmp} {assign body : Code} {g : FuncId} {caps : List V} (hf : St.ev ⟨env, L⟩ f = .fn g caps)
    (h : SC P Z g (.yl L.length :: caps) (L ++ [.loop .ready none env n params assign body]) (fun _ L' => ∃ stt, L'[L.length]? = some (.loop stt none env n params assign body) ∧ stt ≠ .busy ∧
      KO Q .normal env (L'.set L.length (.loop .exhausted none env n params assign body)))) (ho : okX n f = true := by kernel_rfl) : CW P Z none n (.rangeFunc f params assign body) Q env L :=
  ⟨SW.rangeF hf ho (h.mono fun _ _ ⟨stt, h1, h2, h3⟩ => ⟨stt, none, h1, h2, h3.out⟩)⟩
end Go.Pv
