import Derived.Test.YtfjkplemepcmeaaPv24
set_option linter.unusedVariables false
set_option linter.unusedSimpArgs false
set_option linter.unusedSectionVars false
section
/- A part of a slice, up to a bound that is no numeral. -/
set_option linter.unusedVariables false
namespace Go.Pv
variable {P : Program} {Z : Nat → Go.Obj → Prop} {env : Nat → V} {L L' : List Obj} {ops : Array Oper} {rest : List Oper} {K : St → Prop} {d : Tmp}
  {ty t e : TypeId} {pos : String} {af : Array Edge} {x hi : Operand} {sz h : Nat} {xs ys : List V} {k : IntKind} {nl ex : Bool}
theorem pop_slc (hte : P.underlying t = some (.slice e)) (hsz : szT P e = some sz) (hx : St.ev ⟨env, L⟩ x = .sl nl ex xs) (hh : St.ev ⟨env, L⟩ hi = .int k (h : Int)) (hle : h ≤ xs.length)
    (hall : xs.all (fun y => y.cells.length == sz) = true) (hy : xs.take h = ys) :
    pop P L (St.ev ⟨env, L⟩) (.slice t x none (some hi) none) = some (.sl nl (ex && (h == xs.length)) ys, L) := by
  simp only [pop, Option.map_none, Option.map_some, pslice, hte, hx, hsz, hall, if_true, hh]
  simp [pbounds, toNat?, hle, hy]
theorem X.slc (h : Nat) (hx : St.ev ⟨env, L⟩ x = .sl nl ex xs) (hh : St.ev ⟨env, L⟩ hi = .int k (h : Int)) (hle : h ≤ xs.length) (hy : xs.take h = ys)
    (hall : xs.all (fun y => y.cells.length == sz) = true) (hK : XO P Z ops rest (upd env d (.sl nl (ex && (h == xs.length)) ys)) L K)
    (hte : P.underlying t = some (.slice e) := by rfl) (hsz : szT P e = some sz := by rfl) :
    XO P Z ops (⟨some d, .slice t x none (some hi) none, ty, pos, af, none⟩ :: rest) env L K := X.go0 (pop_slc hte hsz hx hh hle hall hy) hK
theorem A.slc (h : Nat) (hx : St.ev ⟨env, L⟩ x = .sl nl ex xs) (hh : St.ev ⟨env, L⟩ hi = .int k (h : Int)) (hle : h ≤ xs.length) (hy : xs.take h = ys)
    (hall : xs.all (fun y => y.cells.length == sz) = true) (hK : AO P Z ops rest (upd env d (.sl nl (ex && (h == xs.length)) ys)) L K)
    (hte : P.underlying t = some (.slice e) := by rfl) (hsz : szT P e = some sz := by rfl) :
    AO P Z ops (⟨some d, .slice t x none (some hi) none, ty, pos, af, none⟩ :: rest) env L K := A.go0 (pop_slc hte hsz hx hh hle hall hy) hK
end Go.Pv
end
section
/- Numbers that stay in range; tests as propositions; nil slices that will grow; slices that will not turn any more; calls that only read. -/
set_option linter.unusedVariables false
set_option linter.unusedSimpArgs false
namespace Go.Pv
variable {P : Program} {Z : Nat → Go.Obj → Prop}
theorem w64R {a : Int} (h : -9223372036854775808 ≤ a ∧ a ≤ 9223372036854775807) : IntKind.i64.wrap a = a := by rw [IntKind.wrap_i64]; omega
section arith
variable {env : Nat → V} {L : List Obj} {ops : Array Oper} {rest : List Oper} {K : St → Prop} {d : Tmp} {ty t t' : TypeId} {pos : String} {af : Array Edge} {x y : Operand} {k k' : IntKind} {a b : Int}
theorem X.addI (hx : St.ev ⟨env, L⟩ x = .int .i64 a) (hy : St.ev ⟨env, L⟩ y = .int .i64 b) (h : -9223372036854775808 ≤ a + b ∧ a + b ≤ 9223372036854775807) (hK : XO P Z ops rest (upd env d (.int .i64 (a + b))) L K) :
    XO P Z ops (⟨some d, .binOp .add t x y t', ty, pos, af, none⟩ :: rest) env L K := X.go0 (by simp [pop, hx, hy, pbin, pint, w64R h]) hK
theorem X.subI (hx : St.ev ⟨env, L⟩ x = .int .i64 a) (hy : St.ev ⟨env, L⟩ y = .int .i64 b) (h : -9223372036854775808 ≤ a - b ∧ a - b ≤ 9223372036854775807) (hK : XO P Z ops rest (upd env d (.int .i64 (a - b))) L K) :
    XO P Z ops (⟨some d, .binOp .sub t x y t', ty, pos, af, none⟩ :: rest) env L K := X.go0 (by simp [pop, hx, hy, pbin, pint, w64R h]) hK
theorem X.mulI (hx : St.ev ⟨env, L⟩ x = .int .i64 a) (hy : St.ev ⟨env, L⟩ y = .int .i64 b) (h : -9223372036854775808 ≤ a * b ∧ a * b ≤ 9223372036854775807) (hK : XO P Z ops rest (upd env d (.int .i64 (a * b))) L K) :
    XO P Z ops (⟨some d, .binOp .mul t x y t', ty, pos, af, none⟩ :: rest) env L K := X.go0 (by simp [pop, hx, hy, pbin, pint, w64R h]) hK
theorem X.remI (hx : St.ev ⟨env, L⟩ x = .int k a) (hy : St.ev ⟨env, L⟩ y = .int k b) (h : 0 ≤ a ∧ 0 < b) (hK : XO P Z ops rest (upd env d (.int k (a % b))) L K) :
    XO P Z ops (⟨some d, .binOp .rem t x y t', ty, pos, af, none⟩ :: rest) env L K := X.rem hx hy (by omega) (Int.tmod_eq_emod_of_nonneg h.1) hK
theorem quo_in {a b : Int} (h : 0 ≤ a ∧ 0 < b ∧ a ≤ 9223372036854775807) : IntKind.i64.wrap (a.tdiv b) = a / b := by
  rw [Int.tdiv_eq_ediv_of_nonneg h.1]
  refine w64R ⟨?_, ?_⟩
  · have := Int.ediv_nonneg h.1 (Int.le_of_lt h.2.1); omega
  · have := Int.ediv_le_self b h.1; omega
theorem X.quoI (hx : St.ev ⟨env, L⟩ x = .int .i64 a) (hy : St.ev ⟨env, L⟩ y = .int .i64 b) (h : 0 ≤ a ∧ 0 < b ∧ a ≤ 9223372036854775807) (hK : XO P Z ops rest (upd env d (.int .i64 (a / b))) L K) :
    XO P Z ops (⟨some d, .binOp .quo t x y t', ty, pos, af, none⟩ :: rest) env L K := X.quo hx hy (by omega) (quo_in h) hK
theorem A.addI (hx : St.ev ⟨env, L⟩ x = .int .i64 a) (hy : St.ev ⟨env, L⟩ y = .int .i64 b) (h : -9223372036854775808 ≤ a + b ∧ a + b ≤ 9223372036854775807) (hK : AO P Z ops rest (upd env d (.int .i64 (a + b))) L K) :
    AO P Z ops (⟨some d, .binOp .add t x y t', ty, pos, af, none⟩ :: rest) env L K := A.go0 (by simp [pop, hx, hy, pbin, pint, w64R h]) hK
theorem A.subI (hx : St.ev ⟨env, L⟩ x = .int .i64 a) (hy : St.ev ⟨env, L⟩ y = .int .i64 b) (h : -9223372036854775808 ≤ a - b ∧ a - b ≤ 9223372036854775807) (hK : AO P Z ops rest (upd env d (.int .i64 (a - b))) L K) :
    AO P Z ops (⟨some d, .binOp .sub t x y t', ty, pos, af, none⟩ :: rest) env L K := A.go0 (by simp [pop, hx, hy, pbin, pint, w64R h]) hK
theorem A.mulI (hx : St.ev ⟨env, L⟩ x = .int .i64 a) (hy : St.ev ⟨env, L⟩ y = .int .i64 b) (h : -9223372036854775808 ≤ a * b ∧ a * b ≤ 9223372036854775807) (hK : AO P Z ops rest (upd env d (.int .i64 (a * b))) L K) :
    AO P Z ops (⟨some d, .binOp .mul t x y t', ty, pos, af, none⟩ :: rest) env L K := A.go0 (by simp [pop, hx, hy, pbin, pint, w64R h]) hK
theorem A.remI (hx : St.ev ⟨env, L⟩ x = .int k a) (hy : St.ev ⟨env, L⟩ y = .int k b) (h : 0 ≤ a ∧ 0 < b) (hK : AO P Z ops rest (upd env d (.int k (a % b))) L K) :
    AO P Z ops (⟨some d, .binOp .rem t x y t', ty, pos, af, none⟩ :: rest) env L K :=
  A.go0 (by have hb : b ≠ 0 := by omega
            simp [pop, hx, hy, pbin, pint, hb, Int.tmod_eq_emod_of_nonneg h.1]) hK
theorem A.quoI (hx : St.ev ⟨env, L⟩ x = .int .i64 a) (hy : St.ev ⟨env, L⟩ y = .int .i64 b) (h : 0 ≤ a ∧ 0 < b ∧ a ≤ 9223372036854775807) (hK : AO P Z ops rest (upd env d (.int .i64 (a / b))) L K) :
    AO P Z ops (⟨some d, .binOp .quo t x y t', ty, pos, af, none⟩ :: rest) env L K :=
  A.go0 (by have hb : b ≠ 0 := by omega
            simp [pop, hx, hy, pbin, pint, hb, quo_in h]) hK
/-- A conversion that keeps the number. -/
theorem X.cvI {u u' : TypeId} {dd : TypeDesc} (hx : St.ev ⟨env, L⟩ x = .int k' a) (hu : P.underlying u = some dd) (hu' : P.underlying u' = some (.int k)) (h : k.wrap a = a) (hK : XO P Z ops rest (upd env d (.int k a)) L K) :
    XO P Z ops (⟨some d, .convert u u' x, ty, pos, af, none⟩ :: rest) env L K := X.go0 (by simp [pop, hx, pconv, hu, hu', h]) hK
theorem A.cvI {u u' : TypeId} {dd : TypeDesc} (hx : St.ev ⟨env, L⟩ x = .int k' a) (hu : P.underlying u = some dd) (hu' : P.underlying u' = some (.int k)) (h : k.wrap a = a) (hK : AO P Z ops rest (upd env d (.int k a)) L K) :
    AO P Z ops (⟨some d, .convert u u' x, ty, pos, af, none⟩ :: rest) env L K := A.go0 (by simp [pop, hx, pconv, hu, hu', h]) hK
end arith

section tests
variable {r : Option Nat} {n : Nat} {Q : Ex → St → Prop} {env : Nat → V} {L : List Obj} {x y : Code} {ops : Array Oper} {rest : List Oper} {K : St → Prop} {dst : Option Tmp} {op : Op} {ty : TypeId} {pos : String} {af : Array Edge} {j : Nat} {want : Bool} {g : Tmp} {p : Prop} {ip : Decidable p}
/-- A test: its proposition. -/
theorem W.cp {c : Operand} (hc : St.ev ⟨env, L⟩ c = .bool (@decide p ip)) (h1 : p → CW P Z r n x Q env L) (h2 : ¬ p → CW P Z r n y Q env L) (ho : okX n c = true := by kernel_rfl) : CW P Z r n (.cond c x y) Q env L :=
  W.cd hc (fun h => h1 (of_decide_eq_true h)) (fun h => h2 (of_decide_eq_false h)) ho
theorem W.cnp {c : Operand} (hc : St.ev ⟨env, L⟩ c = .bool (!@decide p ip)) (h1 : ¬ p → CW P Z r n x Q env L) (h2 : p → CW P Z r n y Q env L) (ho : okX n c = true := by kernel_rfl) : CW P Z r n (.cond c x y) Q env L :=
  W.cd hc (fun h => h1 (of_decide_eq_false (by simpa using h))) (fun h => h2 (of_decide_eq_true (by simpa using h))) ho
theorem W.cpt {c : Operand} (hc : St.ev ⟨env, L⟩ c = .bool (@decide p ip)) (h : p) (h1 : CW P Z r n x Q env L) (ho : okX n c = true := by kernel_rfl) : CW P Z r n (.cond c x y) Q env L :=
  W.ct (by rw [hc, decide_eq_true h]) h1 ho
theorem W.cpf {c : Operand} (hc : St.ev ⟨env, L⟩ c = .bool (@decide p ip)) (h : ¬ p) (h1 : CW P Z r n y Q env L) (ho : okX n c = true := by kernel_rfl) : CW P Z r n (.cond c x y) Q env L :=
  W.cf (by rw [hc, decide_eq_false h]) h1 ho
theorem W.cnt {c : Operand} (hc : St.ev ⟨env, L⟩ c = .bool (!@decide p ip)) (h : ¬ p) (h1 : CW P Z r n x Q env L) (ho : okX n c = true := by kernel_rfl) : CW P Z r n (.cond c x y) Q env L :=
  W.ct (by rw [hc, decide_eq_false h]; rfl) h1 ho
theorem W.cnf {c : Operand} (hc : St.ev ⟨env, L⟩ c = .bool (!@decide p ip)) (h : p) (h1 : CW P Z r n y Q env L) (ho : okX n c = true := by kernel_rfl) : CW P Z r n (.cond c x y) Q env L :=
  W.cf (by rw [hc, decide_eq_true h]; rfl) h1 ho
theorem X.gp (hj : (ops[j]?).bind (·.dst) = some g) (hg : env g = .bool (@decide p ip)) (h1 : p → XO P Z ops (⟨dst, op, ty, pos, af, some (j, want)⟩ :: rest) (upd env g (.bool true)) L K)
    (h2 : ¬ p → XO P Z ops (⟨dst, op, ty, pos, af, some (j, want)⟩ :: rest) (upd env g (.bool false)) L K) : XO P Z ops (⟨dst, op, ty, pos, af, some (j, want)⟩ :: rest) env L K :=
  X.gs hj hg (fun h => h1 (of_decide_eq_true h)) (fun h => h2 (of_decide_eq_false h))
theorem A.gp (hj : (ops[j]?).bind (·.dst) = some g) (hg : env g = .bool (@decide p ip)) (h1 : p → AO P Z ops (⟨dst, op, ty, pos, af, some (j, want)⟩ :: rest) (upd env g (.bool true)) L K)
    (h2 : ¬ p → AO P Z ops (⟨dst, op, ty, pos, af, some (j, want)⟩ :: rest) (upd env g (.bool false)) L K) : AO P Z ops (⟨dst, op, ty, pos, af, some (j, want)⟩ :: rest) env L K :=
  A.gs hj hg (fun h => h1 (of_decide_eq_true h)) (fun h => h2 (of_decide_eq_false h))
theorem X.gnp (hj : (ops[j]?).bind (·.dst) = some g) (hg : env g = .bool (!@decide p ip)) (h1 : ¬ p → XO P Z ops (⟨dst, op, ty, pos, af, some (j, want)⟩ :: rest) (upd env g (.bool true)) L K)
    (h2 : p → XO P Z ops (⟨dst, op, ty, pos, af, some (j, want)⟩ :: rest) (upd env g (.bool false)) L K) : XO P Z ops (⟨dst, op, ty, pos, af, some (j, want)⟩ :: rest) env L K :=
  X.gs hj hg (fun h => h1 (of_decide_eq_false (by simpa using h))) (fun h => h2 (of_decide_eq_true (by simpa using h)))
theorem A.gnp (hj : (ops[j]?).bind (·.dst) = some g) (hg : env g = .bool (!@decide p ip)) (h1 : ¬ p → AO P Z ops (⟨dst, op, ty, pos, af, some (j, want)⟩ :: rest) (upd env g (.bool true)) L K)
    (h2 : p → AO P Z ops (⟨dst, op, ty, pos, af, some (j, want)⟩ :: rest) (upd env g (.bool false)) L K) : AO P Z ops (⟨dst, op, ty, pos, af, some (j, want)⟩ :: rest) env L K :=
  A.gs hj hg (fun h => h1 (of_decide_eq_false (by simpa using h))) (fun h => h2 (of_decide_eq_true (by simpa using h)))
/-- The guard, decided. -/
theorem X.gpt (hj : (ops[j]?).bind (·.dst) = some g) (hg : env g = .bool (@decide p ip)) (h : p) (h1 : XO P Z ops (⟨dst, op, ty, pos, af, some (j, want)⟩ :: rest) (upd env g (.bool true)) L K) : XO P Z ops (⟨dst, op, ty, pos, af, some (j, want)⟩ :: rest) env L K :=
  X.gp hj hg (fun _ => h1) (fun hn => absurd h hn)
theorem X.gpf (hj : (ops[j]?).bind (·.dst) = some g) (hg : env g = .bool (@decide p ip)) (h : ¬ p) (h1 : XO P Z ops (⟨dst, op, ty, pos, af, some (j, want)⟩ :: rest) (upd env g (.bool false)) L K) : XO P Z ops (⟨dst, op, ty, pos, af, some (j, want)⟩ :: rest) env L K :=
  X.gp hj hg (fun hp => absurd hp h) (fun _ => h1)
theorem X.gnt (hj : (ops[j]?).bind (·.dst) = some g) (hg : env g = .bool (!@decide p ip)) (h : ¬ p) (h1 : XO P Z ops (⟨dst, op, ty, pos, af, some (j, want)⟩ :: rest) (upd env g (.bool true)) L K) : XO P Z ops (⟨dst, op, ty, pos, af, some (j, want)⟩ :: rest) env L K :=
  X.gnp hj hg (fun _ => h1) (fun hp => absurd hp h)
theorem X.gnf (hj : (ops[j]?).bind (·.dst) = some g) (hg : env g = .bool (!@decide p ip)) (h : p) (h1 : XO P Z ops (⟨dst, op, ty, pos, af, some (j, want)⟩ :: rest) (upd env g (.bool false)) L K) : XO P Z ops (⟨dst, op, ty, pos, af, some (j, want)⟩ :: rest) env L K :=
  X.gnp hj hg (fun hn => absurd h hn) (fun _ => h1)
theorem A.gpt (hj : (ops[j]?).bind (·.dst) = some g) (hg : env g = .bool (@decide p ip)) (h : p) (h1 : AO P Z ops (⟨dst, op, ty, pos, af, some (j, want)⟩ :: rest) (upd env g (.bool true)) L K) : AO P Z ops (⟨dst, op, ty, pos, af, some (j, want)⟩ :: rest) env L K :=
  A.gp hj hg (fun _ => h1) (fun hn => absurd h hn)
theorem A.gpf (hj : (ops[j]?).bind (·.dst) = some g) (hg : env g = .bool (@decide p ip)) (h : ¬ p) (h1 : AO P Z ops (⟨dst, op, ty, pos, af, some (j, want)⟩ :: rest) (upd env g (.bool false)) L K) : AO P Z ops (⟨dst, op, ty, pos, af, some (j, want)⟩ :: rest) env L K :=
  A.gp hj hg (fun hp => absurd hp h) (fun _ => h1)
theorem A.gnt (hj : (ops[j]?).bind (·.dst) = some g) (hg : env g = .bool (!@decide p ip)) (h : ¬ p) (h1 : AO P Z ops (⟨dst, op, ty, pos, af, some (j, want)⟩ :: rest) (upd env g (.bool true)) L K) : AO P Z ops (⟨dst, op, ty, pos, af, some (j, want)⟩ :: rest) env L K :=
  A.gnp hj hg (fun _ => h1) (fun hp => absurd hp h)
theorem A.gnf (hj : (ops[j]?).bind (·.dst) = some g) (hg : env g = .bool (!@decide p ip)) (h : p) (h1 : AO P Z ops (⟨dst, op, ty, pos, af, some (j, want)⟩ :: rest) (upd env g (.bool false)) L K) : AO P Z ops (⟨dst, op, ty, pos, af, some (j, want)⟩ :: rest) env L K :=
  A.gnp hj hg (fun hn => absurd h hn) (fun _ => h1)
end tests

section ghosts
variable {r : Option Nat} {n : Nat} {Q : Ex → St → Prop} {env : Nat → V} {L : List Obj} {c : Code}
theorem SR.rel' {N0 : Nat} {G G' : Gh} {st : St} {env' : Nat → V} {L' : List Obj} {a : Act} {w : World} (h : SR Z N0 n G st a w) (hr : Rel Z G' L' w) (hv : ∀ t, t < n → VR G' (env' t) (a.tmps.getD t undef)) :
    SR Z N0 n G' ⟨env', L'⟩ a w := ⟨h.size, hv, hr, h.ds⟩
/-- An empty slice without room, seen as one that grows. -/
theorem W.ghost (t sz : Nat) {nl : Bool} (h : env t = .sl nl true []) (hK : CW P Z r n c Q (upd env t (.own L.length 0 0 0)) (L ++ [.buf sz 0 []])) : CW P Z r n c Q env L := by
  refine ⟨?_⟩
  intro N0 G a w hN hs
  obtain ⟨hr1, he1⟩ := hs.rel.addExt (sz := sz) (B := 0) (O := 0) (xs := []) (by simp) ⟨fun _ => undef, fun p hp => by simp [flat] at hp⟩
  refine (hK.out N0 _ a w hN (hs.rel' hr1 fun i hi => ?_)).mono fun e a' w' ⟨st', G', h1, h2, h3⟩ => ⟨st', G', h1, h2, he1.trans h3⟩
  unfold upd
  split
  · rename_i hit; subst hit
    have hv := hs.tm i hi
    simp only at hv
    rw [h] at hv
    have key : ∀ v, VR G (.sl nl true []) v → ∃ A, v = .slice A 0 0 := by
      intro v hv
      cases hv with
      | slnil => exact ⟨_, rfl⟩
      | sl0 hx => rw [hx rfl]; exact ⟨_, rfl⟩
      | sl sz vs hne _ _ _ _ _ => exact absurd rfl hne
    obtain ⟨A, hA⟩ := key _ hv
    rw [hA]
    exact .own (loc := .ext 0 0 sz) (Gh.addR_self _ _ _ _) (Nat.le_refl _) ⟨rfl, .inl rfl⟩
  · exact (hs.tm i hi).mono he1.le

/-- A slice that will not turn any more. -/
theorem Rel.freeze {G : Gh} {w : World} (hr : Rel Z G L w) {id sz m : Nat} {xs : List V} (hL : L[id]? = some (.buf sz m xs)) :
    ∃ G', Rel Z G' (L.set id (.buf sz xs.length xs)) w ∧ Evo G L w G' (L.set id (.buf sz xs.length xs)) w ∧
      ∀ {off len : Nat} {v : Value}, VR G (.own id off len xs.length) v → VR G' (.sl false false ((xs.drop off).take len)) v := by
  obtain ⟨hmx, hszs, loc, hloc, hlo⟩ := hr.ok id _ hL
  have hslice : ∀ {G' : Gh} (ys : List V) (A : Option Addr) (len c : Nat), ys.length = len → len ≤ c → (ys = [] ∨ ∃ B O sz, A = some ⟨B, O, Option.none⟩ ∧ (∀ y ∈ ys, y.cells.length = sz) ∧
      ∃ vs : Nat → Value, (∀ p, p < (flat ys).length → G'.K B (O + p) (vs p)) ∧ ∀ p (hp : p < (flat ys).length), VR G' (flat ys)[p] (vs p)) → VR G' (.sl false false ys) (.slice A len c) := by
    rintro G' ys A len c rfl hc hh
    by_cases hne : ys = []
    · subst hne; exact .sl0 (by simp)
    · obtain ⟨B, O, sz, rfl, hsz, vs, h1, h2⟩ := hh.resolve_left hne
      exact .sl sz vs hne (by simp) hc hsz h1 h2
  cases loc with
  | obj b => exact hlo.elim
  | ext B O sz' =>
    obtain ⟨hs2, hm2, vs, hvv⟩ := hlo
    subst hs2 hm2
    have hset : L.set id (.buf sz' xs.length xs) = L := by
      refine List.ext_getElem? fun i => ?_
      by_cases hi : id = i
      · subst hi; rw [List.getElem?_set_self (List.getElem?_eq_some_iff.1 hL).1]; exact hL.symm
      · rw [List.getElem?_set_ne hi]
    rw [hset]
    refine ⟨G, hr, .refl _ _ _, fun {off len v} hv => ?_⟩
    cases hv with
    | own hid hle ha =>
      have hloc2 := hr.fn _ _ _ _ hid hloc
      subst hloc2
      have hflat : flat ((xs.drop off).take len) = ((flat xs).drop (off * sz')).take (len * sz') := by
        rw [flat_take len (fun y hy => hszs y (List.mem_of_mem_drop hy)), flat_drop off hszs]
      obtain ⟨a1, a2⟩ := ha
      refine hslice _ _ _ _ (by simp; omega) (by omega) ?_
      by_cases hn0 : len = 0
      · exact .inl (by subst hn0; simp)
      · refine .inr ⟨B, O + off * sz', sz', a2.resolve_left (by omega), fun y hy => hszs y (List.mem_of_mem_drop (List.mem_of_mem_take hy)), fun p => vs (off * sz' + p), fun p hp => ?_, fun p hp => ?_⟩
        · rw [hflat] at hp
          have hlt : off * sz' + p < (flat xs).length := by simp at hp; omega
          rw [Nat.add_assoc]; exact (hvv _ hlt).1
        · have hp' := hp
          rw [hflat] at hp'
          have hlt : off * sz' + p < (flat xs).length := by simp at hp'; omega
          have := (hvv _ hlt).2
          simpa [hflat] using this
  | blk b cap sz' =>
    obtain ⟨hs2, hcap, cc, e, fr, hh, hf, hcs, hvv⟩ := hlo
    subst hs2
    have hat : At G id (.buf sz' m xs) b := .inr ⟨_, _, hloc⟩
    have hle := Gh.le_addK G fun B o v => B = b ∧ o < xs.length * sz' ∧ w.cell? ⟨b, o, Option.none⟩ = some v
    have hfl := flat_length hszs
    have hcell : ∀ o, o < cap * sz' → w.cell? ⟨b, o, Option.none⟩ = some (cc.getD o undef) := fun o ho => cell_of_heap hh (by rw [hcs]; exact ho)
    have hlec : xs.length * sz' ≤ cap * sz' := Nat.mul_le_mul_right _ hcap.1
    obtain ⟨h1, h2⟩ := hr.change (G' := G.addK fun B o v => B = b ∧ o < xs.length * sz' ∧ w.cell? ⟨b, o, Option.none⟩ = some v) (w' := w) (ob' := .buf sz' xs.length xs) hL hat hle rfl (fun _ _ => rfl)
      ⟨Nat.le_refl _, hszs, .blk b cap sz', hloc, rfl, hcap, cc, e, fr, hh, hf, hcs, fun p hp => (hvv p hp).mono hle⟩
      (fun B hB => by
        rcases hB with hB | ⟨c', s', hB⟩ <;> have := hr.fn _ _ _ _ hB hloc <;> simp at this
        exact this.1)
      (fun _ _ _ h => .inl h) hr.fn
      (fun sz2 m2 xs2 heq g l hg => by
        simp only [Obj.buf.injEq] at heq
        rw [← heq.2.2]
        exact hr.rg _ _ _ _ _ _ hg hL)
      (fun o v hk => by
        rcases hk with hk | ⟨_, ho, hk⟩
        · refine ⟨hr.kc _ _ _ hk, sz', _, xs, rfl, ?_⟩
          obtain ⟨s3, m3, x3, he3, ho3⟩ := hr.kw _ _ _ _ _ hk hL hat
          simp only [Obj.buf.injEq] at he3
          obtain ⟨rfl, rfl, rfl⟩ := he3
          exact Nat.lt_of_lt_of_le ho3 (Nat.mul_le_mul_right _ hmx)
        · exact ⟨hk, sz', _, xs, rfl, ho⟩)
      (fun B o v hne hk => hk.resolve_right fun h => hne h.1)
    refine ⟨_, h1, h2, fun {off len v} hv => ?_⟩
    cases hv with
    | own hid hle' ha =>
      have hloc2 := hr.fn _ _ _ _ hid hloc
      subst hloc2
      have hflat : flat ((xs.drop off).take len) = ((flat xs).drop (off * sz')).take (len * sz') := by
        rw [flat_take len (fun y hy => hszs y (List.mem_of_mem_drop hy)), flat_drop off hszs]
      obtain ⟨a1, a2, a3⟩ := ha
      refine hslice _ _ _ _ (by simp; omega) (by omega) ?_
      by_cases hn0 : len = 0
      · exact .inl (by subst hn0; simp)
      · refine .inr ⟨b, off * sz', sz', a3.resolve_left (by omega), fun y hy => hszs y (List.mem_of_mem_drop (List.mem_of_mem_take hy)), fun p => cc.getD (off * sz' + p) undef, fun p hp => ?_, fun p hp => ?_⟩
        · rw [hflat] at hp
          have hlt : off * sz' + p < (flat xs).length := by simp at hp; omega
          exact .inr ⟨rfl, by omega, hcell _ (by omega)⟩
        · have hp' := hp
          rw [hflat] at hp'
          have hlt : off * sz' + p < (flat xs).length := by simp at hp'; omega
          have := (hvv _ hlt).mono hle
          simpa [hflat] using this
theorem W.fz (t : Nat) {id off len sz m : Nat} {xs : List V} (h : env t = .own id off len xs.length) (hL : L[id]? = some (.buf sz m xs))
    (hK : CW P Z r n c Q (upd env t (.sl false false ((xs.drop off).take len))) (L.set id (.buf sz xs.length xs))) : CW P Z r n c Q env L := by
  refine ⟨?_⟩
  intro N0 G a w hN hs
  obtain ⟨G1, hr1, he1, hv1⟩ := hs.rel.freeze hL
  refine (hK.out N0 _ a w hN (hs.rel' hr1 fun i hi => ?_)).mono fun e a' w' ⟨st', G', h1, h2, h3⟩ => ⟨st', G', h1, h2, he1.trans h3⟩
  unfold upd
  split
  · rename_i hit; subst hit
    have hv := hs.tm i hi
    simp only at hv
    rw [h] at hv
    exact hv1 hv
  · exact (hs.tm i hi).mono he1.le
/-- A slice of which less is told. -/
theorem W.weak (t : Nat) {nl ex : Bool} {xs : List V} (h : env t = .sl nl ex xs) (hK : CW P Z r n c Q (upd env t (.sl false false xs)) L) : CW P Z r n c Q env L := by
  refine ⟨?_⟩
  intro N0 G a w hN hs
  refine hK.out N0 _ a w hN (hs.rel' hs.rel fun i hi => ?_)
  unfold upd
  split
  · rename_i hit; subst hit
    have hv := hs.tm i hi
    simp only at hv
    rw [h] at hv
    generalize a.tmps.getD i undef = u at hv
    cases hv with
    | slnil => exact .sl0 (by simp)
    | sl0 hx => exact .sl0 (by simp)
    | sl sz vs hne hx hc hsz hk hv => exact .sl sz vs hne (by simp) hc hsz hk hv
  · exact hs.tm i hi
end ghosts

/-! ### calls that only read -/
mutual
/-- A value without memory. -/
def V.plain : V → Bool
  | .bool _ | .int _ _ | .str _ | .nilp | .nilf | .nilmap => true
  | .tup vs | .agg vs => V.plains vs
  | _ => false
def V.plains : List V → Bool
  | [] => true
  | v :: vs => V.plain v && V.plains vs
end
theorem V.plains_iff : ∀ {vs : List V}, V.plains vs = true ↔ ∀ v ∈ vs, V.plain v = true
  | [] => by simp [V.plains]
  | v :: vs => by simp [V.plains, V.plains_iff (vs := vs)]
theorem VR.plain {G G' : Gh} {v : V} {r : Value} (h : VR G v r) : V.plain v = true → VR G' v r := by
  induction h with
  | bool b => exact fun _ => .bool b
  | int k n => exact fun _ => .int k n
  | str s => exact fun _ => .str s
  | nilp => exact fun _ => .nilp
  | nilf => exact fun _ => .nilf
  | nilmap => exact fun _ => .nilmap
  | agg hn _ ih => exact fun hp => .agg hn fun p h => ih p h (V.plains_iff.1 hp _ (List.getElem_mem h))
  | tup hn _ ih => exact fun hp => .tup hn fun p h => ih p h (V.plains_iff.1 hp _ (List.getElem_mem h))
  | _ => intro hp; simp [V.plain] at hp
/-- What is lent for a call, and what the call sees. -/
inductive Bor (L : List Obj) : V → V → Prop
  | same {v : V} (h : V.lt 0 v = true) : Bor L v v
  | own {id off len sz m : Nat} {xs ys : List V} (hL : L[id]? = some (.buf sz m xs)) (hx : V.lts 0 xs = true) (hy : (xs.drop off).take len = ys) : Bor L (.own id off len xs.length) (.sl false false ys)
  | ref {id off : Nat} {cs ds : List V} (hL : L[id]? = some (.box cs)) (hx : V.lts 0 cs = true) (hd : cs.drop off = ds) : Bor L (.ref id off) (.cref ds)
  | bsl {id off len : Nat} {cs ds : List V} (hL : L[id]? = some (.box cs)) (hx : V.lts 0 cs = true) (hd : (cs.drop off).take len = ds) (hle : off + len ≤ cs.length) : Bor L (.bsl id off len) (.sl false false ds)
inductive Bors (L : List Obj) : List V → List V → Prop
  | nil : Bors L [] []
  | cons {a b : V} {as bs : List V} (h : Bor L a b) (hs : Bors L as bs) : Bors L (a :: as) (b :: bs)
theorem Bors.length {L : List Obj} {as bs : List V} (h : Bors L as bs) : as.length = bs.length := by induction h <;> simp_all
theorem Bors.get {L : List Obj} {as bs : List V} (h : Bors L as bs) : ∀ p (h1 : p < as.length) (h2 : p < bs.length), Bor L as[p] bs[p] := by
  induction h with
  | nil => intro p h1; simp at h1
  | cons h _ ih =>
    intro p h1 h2
    cases p with
    | zero => exact h
    | succ p => exact ih p (by simpa using h1) (by simpa using h2)
theorem Bor.sound {G : Gh} {L : List Obj} {w : World} (hr : Rel Z G L w) {a b : V} {v : Value} (hb : Bor L a b) (hv : VR G a v) :
    VR ⟨fun B o u => G.K B o u ∨ (Held G L B ∧ w.cell? ⟨B, o, none⟩ = some u), fun _ _ _ => False⟩ b v := by
  have hcut : ∀ {a : V} {v : Value}, VR G a v → V.lt 0 a = true → VR ⟨fun B o u => G.K B o u ∨ (Held G L B ∧ w.cell? ⟨B, o, none⟩ = some u), fun _ _ _ => False⟩ a v := by
    intro a v hv h
    have h1 : VR (G.cut 0) a v := hv.cut h
    refine h1.mono ⟨fun {B o v} hk => Or.inl hk, fun {id g l} hh => ?_⟩
    have := hh.2
    omega
  have hslice : ∀ {G' : Gh} (ys : List V) (A : Option Addr) (len c : Nat), ys.length = len → len ≤ c → (ys = [] ∨ ∃ B O sz, A = some ⟨B, O, none⟩ ∧ (∀ y ∈ ys, y.cells.length = sz) ∧
      ∃ vs : Nat → Value, (∀ p, p < (flat ys).length → G'.K B (O + p) (vs p)) ∧ ∀ p (hp : p < (flat ys).length), VR G' (flat ys)[p] (vs p)) → VR G' (.sl false false ys) (.slice A len c) := by
    rintro G' ys A len c rfl hc hh
    by_cases hne : ys = []
    · subst hne; exact .sl0 (by simp)
    · obtain ⟨B, O, sz, rfl, hsz, vs, h1, h2⟩ := hh.resolve_left hne
      exact .sl sz vs hne (by simp) hc hsz h1 h2
  cases hb with
  | same h => exact hcut hv h
  | @own id off len sz m xs ys hL hx hy =>
    subst hy
    obtain ⟨hmx, hszs, loc, hloc, hlo⟩ := hr.ok id _ hL
    cases hv with
    | own hid hle ha =>
      have hloc2 := hr.fn _ _ _ _ hid hloc
      subst hloc2
      rename_i c0 loc A0
      cases loc with
      | obj b => exact hlo.elim
      | ext B O sz' =>
        obtain ⟨hs2, hm2, vs, hvv⟩ := hlo
        subst hs2
        have hflat : flat ((xs.drop off).take len) = ((flat xs).drop (off * sz')).take (len * sz') := by
          rw [flat_take len (fun y hy => hszs y (List.mem_of_mem_drop hy)), flat_drop off hszs]
        obtain ⟨a1, a2⟩ := ha
        refine hslice _ _ _ _ (by simp; omega) (by omega) ?_
        by_cases hn0 : len = 0
        · exact .inl (by subst hn0; simp)
        · refine .inr ⟨B, O + off * sz', sz', a2.resolve_left (by omega), fun y hy => hszs y (List.mem_of_mem_drop (List.mem_of_mem_take hy)), fun p => vs (off * sz' + p), fun p hp => ?_, fun p hp => ?_⟩
          · rw [hflat] at hp
            have hlt : off * sz' + p < (flat xs).length := by simp at hp; omega
            rw [Nat.add_assoc]; exact .inl (hvv _ hlt).1
          · have hp' := hp
            rw [hflat] at hp'
            have hlt : off * sz' + p < (flat xs).length := by simp at hp'; omega
            have := hcut (hvv _ hlt).2 (V.lts_mem (V.lts_flat hx) hlt)
            simpa [hflat] using this
      | blk b cap sz' =>
        obtain ⟨hs2, hcap, cc, e, fr, hh, hf, hcs, hvv⟩ := hlo
        subst hs2
        have hat : At G id (.buf sz' m xs) b := .inr ⟨_, _, hloc⟩
        have hfl := flat_length hszs
        have hlec : xs.length * sz' ≤ cap * sz' := Nat.mul_le_mul_right _ hcap.1
        have hflat : flat ((xs.drop off).take len) = ((flat xs).drop (off * sz')).take (len * sz') := by
          rw [flat_take len (fun y hy => hszs y (List.mem_of_mem_drop hy)), flat_drop off hszs]
        obtain ⟨a1, a2, a3⟩ := ha
        refine hslice _ _ _ _ (by simp; omega) (by omega) ?_
        by_cases hn0 : len = 0
        · exact .inl (by subst hn0; simp)
        · refine .inr ⟨b, off * sz', sz', a3.resolve_left (by omega), fun y hy => hszs y (List.mem_of_mem_drop (List.mem_of_mem_take hy)), fun p => cc.getD (off * sz' + p) undef, fun p hp => ?_, fun p hp => ?_⟩
          · rw [hflat] at hp
            have hlt : off * sz' + p < (flat xs).length := by simp at hp; omega
            exact .inr ⟨⟨id, _, hL, hat⟩, cell_of_heap hh (by omega)⟩
          · have hp' := hp
            rw [hflat] at hp'
            have hlt : off * sz' + p < (flat xs).length := by simp at hp'; omega
            have := hcut (hvv _ hlt) (V.lts_mem (V.lts_flat hx) hlt)
            simpa [hflat] using this
  | @ref id off cs ds hL hx hd =>
    subst hd
    obtain ⟨b, cc, e, fr, hrb, hh, hf, hcs, hvv, hone⟩ := hr.ok id _ hL
    cases hv with
    | ref hid =>
      have hloc2 := hr.fn _ _ _ _ hid hrb
      simp only [Loc.obj.injEq] at hloc2
      subst hloc2
      refine .cref (fun p => cc.getD (off + p) undef) (fun p hp => ?_) (fun p hp => ?_)
      · have hlt : off + p < cs.length := by simp at hp; omega
        exact .inr ⟨⟨id, _, hL, .inl hrb⟩, cell_of_heap hh (by omega)⟩
      · have hlt : off + p < cs.length := by simp at hp; omega
        have := hcut (hvv _ hlt) (V.lts_mem hx hlt)
        simpa using this
  | @bsl id off len cs ds hL hx hd hle =>
    subst hd
    obtain ⟨b, cc, e, fr, hrb, hh, hf, hcs, hvv, hone⟩ := hr.ok id _ hL
    cases hv with
    | bsl hid hc ha =>
      have hloc2 := hr.fn _ _ _ _ hid hrb
      simp only [Loc.obj.injEq] at hloc2
      subst hloc2
      have ho : ∀ c ∈ (cs.drop off).take len, c.one = true := fun c hc => hone c (List.mem_of_mem_drop (List.mem_of_mem_take hc))
      have hfl := flat_ones ho
      refine hslice _ _ _ _ (by simp; omega) hc ?_
      by_cases hn0 : len = 0
      · exact .inl (by subst hn0; simp)
      · refine .inr ⟨_, off, 1, ha.resolve_left (by omega), fun y hy => ?_, fun p => cc.getD (off + p) undef, fun p hp => ?_, fun p hp => ?_⟩
        · have := ho y hy; cases y <;> first | rfl | (simp [V.one] at this)
        · rw [hfl] at hp
          have hlt : off + p < cs.length := by simp at hp; omega
          exact .inr ⟨⟨id, _, hL, .inl hrb⟩, cell_of_heap hh (by omega)⟩
        · have hp' := hp
          rw [hfl] at hp'
          have hlt : off + p < cs.length := by simp at hp'; omega
          have := hcut (hvv _ hlt) (V.lts_mem hx hlt)
          simpa [hfl] using this
/-- A call that only reads, made with slices and places that are one's own. -/
theorem SE.borrow {f : FuncId} {args args' : List V} {v : V} {L : List Obj} (h : SE P Z f args' [] v []) (hb : Bors L args args') (hv : V.plain v = true) : SE P Z f args L v L := by
  refine ⟨⟨h.out.1, fun G w rargs hr hra => ?_⟩⟩
  let G0 : Gh := ⟨fun B o u => G.K B o u ∨ (Held G L B ∧ w.cell? ⟨B, o, none⟩ = some u), fun _ _ _ => False⟩
  have hheld0 : ∀ G1 B, ¬ Held G1 [] B := fun G1 B ⟨id, ob, h, _⟩ => by simp at h
  have hr0 : Rel Z G0 [] w := ⟨fun B o u hk => hk.elim (hr.kc B o u) (·.2), by simp, fun _ _ _ _ h => h.elim, by simp, by simp, fun _ _ _ h => h.elim, by simp, hr.zc, fun B _ _ => hheld0 _ B⟩
  refine (h.out.2 G0 w rargs hr0 ⟨by rw [hra.1, hb.length], fun p hp => Bor.sound hr (hb.get p (by rw [hb.length]; exact hp) hp) (hra.2 p (by rw [hb.length]; exact hp))⟩).mono ?_
  rintro rv w' ⟨G', M, u, ⟨rfl, rfl⟩, hr', he, hvv⟩
  have hold : ∀ B, B < w.heap.size → w'.heap[B]? = w.heap[B]? := fun B hB => he.keep B hB (hheld0 _ B)
  refine ⟨G, L, _, ⟨rfl, rfl⟩, ⟨fun B o u hk => ?_, fun id ob hid => (hr.ok id ob hid).mono (.refl _) (fun b _ hb => hold b hb), hr.fn, hr.dis, hr.kw, hr.rl, hr.rg, hr'.zc, hr.zh⟩,
    ⟨.refl _, he.size, fun B hB _ => hold B hB, fun _ ob _ h1 h2 => .inl ⟨ob, h1, h2⟩, fun _ _ _ hk => .inl hk, he.io⟩, hvv.plain hv⟩
  have := hr.kc B o u hk
  rw [World.cell_congr (w := w) (hold B (World.cell_lt this))]; exact this
end Go.Pv
end
section
/- Slices of elements that are alike: their lengths, elements, stores, appends. -/
set_option linter.unusedVariables false
set_option linter.unusedSimpArgs false
set_option linter.unusedSectionVars false
namespace Go.Pv
variable {P : Program} {Z : Nat → Go.Obj → Prop}
def rd {α : Type} [Inhabited α] (l : List α) (i : Int) : α := l.getD i.toNat default
theorem rd_nat {α : Type} [Inhabited α] (l : List α) (i : Nat) : rd l (i : Int) = l.getD i default := rfl
theorem rd_get {α : Type} [Inhabited α] {l : List α} {i : Int} (h : 0 ≤ i ∧ i < (l.length : Int)) : l[i.toNat]? = some (rd l i) := by
  have hi : i.toNat < l.length := by omega
  rw [rd, List.getD_eq_getElem?_getD, List.getElem?_eq_getElem hi]; rfl
section
variable {env : Nat → V} {L L' : List Obj} {ops : Array Oper} {rest : List Oper} {K : St → Prop} {d : Tmp}
  {ty t e u : TypeId} {pos : String} {af : Array Edge} {x s i y : Operand} {id sz m gen len off : Nat} {k : IntKind} {nl ex : Bool} {α : Type} [Inhabited α] {g : α → V} {l l2 : List α} {c : Int} {a : α} {ats : Array TypeId} {cs : List V} {dd : TypeDesc}
theorem X.lnS (hx : St.ev ⟨env, L⟩ x = .sl nl ex (l.map g)) (hK : XO P Z ops rest (upd env d (.int .i64 (l.length : Nat))) L K) (ht : ats[0]? = some t := by rfl) (hu : P.underlying t = some (.slice e) := by rfl) :
    XO P Z ops (⟨some d, .call ⟨.builtin .len, #[x], ats⟩, ty, pos, af, none⟩ :: rest) env L K := X.go0 (by simp [pop, pbuiltin, hx, ht, hu]) hK
theorem A.lnS (hx : St.ev ⟨env, L⟩ x = .sl nl ex (l.map g)) (hK : AO P Z ops rest (upd env d (.int .i64 (l.length : Nat))) L K) (ht : ats[0]? = some t := by rfl) (hu : P.underlying t = some (.slice e) := by rfl) :
    AO P Z ops (⟨some d, .call ⟨.builtin .len, #[x], ats⟩, ty, pos, af, none⟩ :: rest) env L K := A.go0 (by simp [pop, pbuiltin, hx, ht, hu]) hK
theorem X.lnO (hx : St.ev ⟨env, L⟩ x = .own id off (l.map g).length gen) (hK : XO P Z ops rest (upd env d (.int .i64 (l.length : Nat))) L K) (ht : ats[0]? = some t := by rfl) (hu : P.underlying t = some (.slice e) := by rfl) :
    XO P Z ops (⟨some d, .call ⟨.builtin .len, #[x], ats⟩, ty, pos, af, none⟩ :: rest) env L K := X.go0 (by simp [pop, pbuiltin, hx, ht, hu]) hK
theorem A.lnO (hx : St.ev ⟨env, L⟩ x = .own id off (l.map g).length gen) (hK : AO P Z ops rest (upd env d (.int .i64 (l.length : Nat))) L K) (ht : ats[0]? = some t := by rfl) (hu : P.underlying t = some (.slice e) := by rfl) :
    AO P Z ops (⟨some d, .call ⟨.builtin .len, #[x], ats⟩, ty, pos, af, none⟩ :: rest) env L K := A.go0 (by simp [pop, pbuiltin, hx, ht, hu]) hK
theorem map_rd (h : 0 ≤ c ∧ c < (l.length : Int)) : (l.map g)[c.toNat]? = some (g (rd l c)) := by
  rw [List.getElem?_map, rd_get h]; rfl
theorem pop_iaS (hx : St.ev ⟨env, L⟩ x = .sl nl ex (l.map g)) (hi : St.ev ⟨env, L⟩ i = .int k c) (h : 0 ≤ c ∧ c < (l.length : Int)) (hte : P.underlying t = some (.slice e)) (hsz : szT P e = some sz) (hy : (g (rd l c)).cells.length = sz) :
    pop P L (St.ev ⟨env, L⟩) (.indexAddr t x i) = some (.cref (g (rd l c)).cells, L) :=
  pop_ias (n := c.toNat) hte hsz hx (by rw [hi, Int.toNat_of_nonneg h.1]) (map_rd h) hy
theorem X.iaS (hx : St.ev ⟨env, L⟩ x = .sl nl ex (l.map g)) (hi : St.ev ⟨env, L⟩ i = .int k c) (h : 0 ≤ c ∧ c < (l.length : Int)) (hK : XO P Z ops rest (upd env d (.cref (g (rd l c)).cells)) L K)
    (hte : P.underlying t = some (.slice e) := by rfl) (hsz : szT P e = some sz := by rfl) (hy : (g (rd l c)).cells.length = sz := by rfl) :
    XO P Z ops (⟨some d, .indexAddr t x i, ty, pos, af, none⟩ :: rest) env L K := X.go0 (pop_iaS hx hi h hte hsz hy) hK
theorem A.iaS (hx : St.ev ⟨env, L⟩ x = .sl nl ex (l.map g)) (hi : St.ev ⟨env, L⟩ i = .int k c) (h : 0 ≤ c ∧ c < (l.length : Int)) (hK : AO P Z ops rest (upd env d (.cref (g (rd l c)).cells)) L K)
    (hte : P.underlying t = some (.slice e) := by rfl) (hsz : szT P e = some sz := by rfl) (hy : (g (rd l c)).cells.length = sz := by rfl) :
    AO P Z ops (⟨some d, .indexAddr t x i, ty, pos, af, none⟩ :: rest) env L K := A.go0 (pop_iaS hx hi h hte hsz hy) hK
theorem pop_iaO (hx : St.ev ⟨env, L⟩ x = .own id 0 (l.map g).length (l.map g).length) (hi : St.ev ⟨env, L⟩ i = .int k c) (h : 0 ≤ c ∧ c < (l.length : Int)) (hL : L[id]? = some (.buf sz m (l.map g))) (hte : P.underlying t = some (.slice e)) (hsz : szT P e = some sz) :
    pop P L (St.ev ⟨env, L⟩) (.indexAddr t x i) = some (.eref id (l.map g).length c.toNat 0, L) := by
  have := pop_iao (n := c.toNat) hte hsz hx (by rw [hi, Int.toNat_of_nonneg h.1]) hL rfl (by simp; omega)
  rw [this, Nat.zero_add]
theorem X.iaO (hx : St.ev ⟨env, L⟩ x = .own id 0 (l.map g).length (l.map g).length) (hi : St.ev ⟨env, L⟩ i = .int k c) (h : 0 ≤ c ∧ c < (l.length : Int)) (hL : L[id]? = some (.buf sz m (l.map g))) (hK : XO P Z ops rest (upd env d (.eref id (l.map g).length c.toNat 0)) L K)
    (hte : P.underlying t = some (.slice e) := by rfl) (hsz : szT P e = some sz := by rfl) :
    XO P Z ops (⟨some d, .indexAddr t x i, ty, pos, af, none⟩ :: rest) env L K := X.go0 (pop_iaO hx hi h hL hte hsz) hK
theorem A.iaO (hx : St.ev ⟨env, L⟩ x = .own id 0 (l.map g).length (l.map g).length) (hi : St.ev ⟨env, L⟩ i = .int k c) (h : 0 ≤ c ∧ c < (l.length : Int)) (hL : L[id]? = some (.buf sz m (l.map g))) (hK : AO P Z ops rest (upd env d (.eref id (l.map g).length c.toNat 0)) L K)
    (hte : P.underlying t = some (.slice e) := by rfl) (hsz : szT P e = some sz := by rfl) :
    AO P Z ops (⟨some d, .indexAddr t x i, ty, pos, af, none⟩ :: rest) env L K := A.go0 (pop_iaO hx hi h hL hte hsz) hK
/-- A whole element is read. -/
theorem pop_ldO (hx : St.ev ⟨env, L⟩ x = .eref id (l.map g).length c.toNat 0) (hL : L[id]? = some (.buf sz m (l.map g))) (h : 0 ≤ c ∧ c < (l.length : Int)) (hsz : szT P t = some 1) (ha : aggT P t = some false) (hy : (g (rd l c)).cells = [g (rd l c)]) :
    pop P L (St.ev ⟨env, L⟩) (.load t x) = some (g (rd l c), L) := pop_lde hx hL rfl (map_rd h) hsz ha hy
theorem X.ldO (hx : St.ev ⟨env, L⟩ x = .eref id (l.map g).length c.toNat 0) (hL : L[id]? = some (.buf sz m (l.map g))) (h : 0 ≤ c ∧ c < (l.length : Int)) (hK : XO P Z ops rest (upd env d (g (rd l c))) L K)
    (hsz : szT P t = some 1 := by rfl) (ha : aggT P t = some false := by rfl) (hy : (g (rd l c)).cells = [g (rd l c)] := by rfl) :
    XO P Z ops (⟨some d, .load t x, ty, pos, af, none⟩ :: rest) env L K := X.go0 (pop_ldO hx hL h hsz ha hy) hK
theorem A.ldO (hx : St.ev ⟨env, L⟩ x = .eref id (l.map g).length c.toNat 0) (hL : L[id]? = some (.buf sz m (l.map g))) (h : 0 ≤ c ∧ c < (l.length : Int)) (hK : AO P Z ops rest (upd env d (g (rd l c))) L K)
    (hsz : szT P t = some 1 := by rfl) (ha : aggT P t = some false := by rfl) (hy : (g (rd l c)).cells = [g (rd l c)] := by rfl) :
    AO P Z ops (⟨some d, .load t x, ty, pos, af, none⟩ :: rest) env L K := A.go0 (pop_ldO hx hL h hsz ha hy) hK
/-- A struct of an element is read. -/
theorem pop_ldA (hx : St.ev ⟨env, L⟩ x = .eref id (l.map g).length c.toNat 0) (hL : L[id]? = some (.buf sz m (l.map g))) (h : 0 ≤ c ∧ c < (l.length : Int)) (hsz : szT P t = some sz) (ha : aggT P t = some true) (hy : g (rd l c) = .agg cs) (hn : cs.length = sz) :
    pop P L (St.ev ⟨env, L⟩) (.load t x) = some (.agg cs, L) := by
  have h1 := map_rd (g := g) h
  simp only [pop, pload, pcells, hx, hL, h1, hsz, ha, hy, V.cells, if_true, Option.map_some, List.drop_zero]
  rw [if_pos (by omega), List.take_of_length_le (by omega)]
  rfl
theorem X.ldA (hx : St.ev ⟨env, L⟩ x = .eref id (l.map g).length c.toNat 0) (hL : L[id]? = some (.buf sz m (l.map g))) (h : 0 ≤ c ∧ c < (l.length : Int)) (hy : g (rd l c) = .agg cs) (hK : XO P Z ops rest (upd env d (.agg cs)) L K)
    (hsz : szT P t = some sz := by rfl) (ha : aggT P t = some true := by rfl) (hn : cs.length = sz := by rfl) :
    XO P Z ops (⟨some d, .load t x, ty, pos, af, none⟩ :: rest) env L K := X.go0 (pop_ldA hx hL h hsz ha hy hn) hK
theorem A.ldA (hx : St.ev ⟨env, L⟩ x = .eref id (l.map g).length c.toNat 0) (hL : L[id]? = some (.buf sz m (l.map g))) (h : 0 ≤ c ∧ c < (l.length : Int)) (hy : g (rd l c) = .agg cs) (hK : AO P Z ops rest (upd env d (.agg cs)) L K)
    (hsz : szT P t = some sz := by rfl) (ha : aggT P t = some true := by rfl) (hn : cs.length = sz := by rfl) :
    AO P Z ops (⟨some d, .load t x, ty, pos, af, none⟩ :: rest) env L K := A.go0 (pop_ldA hx hL h hsz ha hy hn) hK
/-- A whole element is written. -/
theorem pop_stO (hx : St.ev ⟨env, L⟩ x = .eref id (l.map g).length c.toNat 0) (hy : St.ev ⟨env, L⟩ y = g a) (hL : L[id]? = some (.buf sz 0 (l.map g))) (h : 0 ≤ c ∧ c < (l.length : Int)) (hsz : szT P t = some 1) (hs1 : sz = 1) (hc : ∀ b, (g b).cells = [g b]) (ho : (g a).one = true) :
    pop P L (St.ev ⟨env, L⟩) (.store t x y) = some (.undef, L.set id (.buf sz 0 ((l.set c.toNat a).map g))) := by
  have h1 := map_rd (g := g) h
  subst hs1
  simp only [pop, pstore, hx, hy, hc, hsz, hL, h1, List.length_singleton, List.all_cons, List.all_nil, ho, Bool.and_true]
  rw [if_pos (by simp), if_pos (by simp)]
  have : setElem (g (rd l c)) 0 [g a] = g a := by
    have := hc (rd l c)
    unfold setElem
    split
    · rename_i cs heq
      rw [heq] at this
      simp only [V.cells] at this
      have := congrArg (fun q : List V => SizeOf.sizeOf q) this
      simp at this
      omega
    · rfl
  simp [this, List.map_set]
theorem X.stO (a : α) (hx : St.ev ⟨env, L⟩ x = .eref id (l.map g).length c.toNat 0) (hL : L[id]? = some (.buf sz 0 (l.map g))) (hy : St.ev ⟨env, L⟩ y = g a) (h : 0 ≤ c ∧ c < (l.length : Int)) (hc : ∀ b, (g b).cells = [g b])
    (hK : XO P Z ops rest env L' K) (hL' : L.set id (.buf sz 0 ((l.set c.toNat a).map g)) = L' := by ((try simp only [List.set_cons_zero, List.set_cons_succ, List.cons_append, List.nil_append]) <;> rfl)) (hsz : szT P t = some 1 := by rfl) (hs1 : sz = 1 := by rfl) (ho : (g a).one = true := by rfl) :
    XO P Z ops (⟨none, .store t x y, ty, pos, af, none⟩ :: rest) env L K := X.st0 (by rw [← hL']; exact pop_stO hx hy hL h hsz hs1 hc ho) hK
/-- One element more. -/
theorem X.ap1 (a : α) (hs : St.ev ⟨env, L⟩ s = .own id 0 (l.map g).length (l.map g).length) (hL : L[id]? = some (.buf sz m (l.map g))) (hx : elems L (St.ev ⟨env, L⟩ x) = some [g a]) (hb : l.length ≤ 1000000000)
    (hK : XO P Z ops rest (upd env d (.own id 0 ((l ++ [a]).map g).length ((l ++ [a]).map g).length)) L' K)
    (hL' : L.set id (.buf sz m ((l ++ [a]).map g)) = L' := by ((try simp only [List.set_cons_zero, List.set_cons_succ, List.cons_append, List.nil_append]) <;> rfl)) (ht : ats[0]? = some t := by rfl) (hu : ats[1]? = some u := by rfl)
    (hd : (match P.underlying u with | some (.slice _) => true | some .string => true | _ => false) = true := by rfl) (hte : P.underlying t = some (.slice e) := by rfl) (hsz : szT P e = some sz := by rfl) {z : V} (hz : zeroV P e = some z := by rfl)
    (hzc : z.cells.length = sz := by rfl) (h0 : 0 < sz := by decide) (hys : [g a].all (fun y => y.cells.length == sz && y.cells.all V.one) = true := by rfl) (hbt : byT P e ≤ 1000 := by decide +kernel) :
    XO P Z ops (⟨some d, .call ⟨.builtin .append, #[s, x], ats⟩, ty, pos, af, none⟩ :: rest) env L K := by
  subst hL'
  have := pop_app_own (P := P) (env := env) (L := L) (ats := ats) (x := x) (s := s) ht hu hd hte hsz hz hzc h0 hs hL hx hys (by
    simp only [List.length_map, List.length_singleton]
    have : (l.length + 1) * byT P e ≤ (1000000000 + 1) * 1000 := Nat.mul_le_mul (by omega) hbt
    omega) (by simp only [List.length_map, List.length_singleton]; omega)
  refine X.go0 (this.trans ?_) hK
  simp
end
theorem wU8 {a : Int} (h : 0 ≤ a ∧ a < 256) : IntKind.u8.wrap a = a := by
  have e1 : (2 ^ IntKind.u8.bits : Int) = 256 := by decide
  have : IntKind.u8.signed = false := rfl
  simp [IntKind.wrap, e1, this]; omega
theorem wU16 {a : Int} (h : 0 ≤ a ∧ a < 65536) : IntKind.u16.wrap a = a := by
  have e1 : (2 ^ IntKind.u16.bits : Int) = 65536 := by decide
  have : IntKind.u16.signed = false := rfl
  simp [IntKind.wrap, e1, this]; omega
theorem wU32 {a : Int} (h : 0 ≤ a ∧ a < 4294967296) : IntKind.u32.wrap a = a := by
  have e1 : (2 ^ IntKind.u32.bits : Int) = 4294967296 := by decide
  have : IntKind.u32.signed = false := rfl
  simp [IntKind.wrap, e1, this]; omega
theorem wU64 {a : Int} (h : 0 ≤ a ∧ a < 18446744073709551616) : IntKind.u64.wrap a = a := by
  have e1 : (2 ^ IntKind.u64.bits : Int) = 18446744073709551616 := by decide
  have : IntKind.u64.signed = false := rfl
  simp [IntKind.wrap, e1, this]; omega
end Go.Pv
end
section
/- Tests and guards whose values are read as they stand: nothing is reckoned. -/
set_option linter.unusedVariables false
namespace Go.Pv
variable {P : Program} {Z : Nat → Go.Obj → Prop}
theorem notT : V.bool (!true) = V.bool false := rfl
theorem notF : V.bool (!false) = V.bool true := rfl
section
variable {r : Option Nat} {n : Nat} {Q : Ex → St → Prop} {env : Nat → V} {L : List Obj} {x y : Code} {ops : Array Oper} {rest : List Oper} {K : St → Prop} {dst : Option Tmp} {d : Tmp} {op : Op} {ty : TypeId} {pos : String} {af : Array Edge} {j : Nat} {want : Bool} {g : Tmp} {p : Prop} {ip : Decidable p} {v : V} {b : Bool}
theorem X.hy (hj : (ops[j]?).bind (·.dst) = some g) (hg : env g = v) (hv : v = .bool want) (hK : XO P Z ops (⟨dst, op, ty, pos, af, none⟩ :: rest) env L K) : XO P Z ops (⟨dst, op, ty, pos, af, some (j, want)⟩ :: rest) env L K := X.gy hj (hg.trans hv) hK
theorem X.hnt (hj : (ops[j]?).bind (·.dst) = some g) (hg : env g = v) (hv : v = .bool true) (hK : XO P Z ops rest (upd env d .undef) L K) : XO P Z ops (⟨some d, op, ty, pos, af, some (j, false)⟩ :: rest) env L K := X.gn hj (hg.trans hv) rfl hK
theorem X.hnf (hj : (ops[j]?).bind (·.dst) = some g) (hg : env g = v) (hv : v = .bool false) (hK : XO P Z ops rest (upd env d .undef) L K) : XO P Z ops (⟨some d, op, ty, pos, af, some (j, true)⟩ :: rest) env L K := X.gn hj (hg.trans hv) rfl hK
theorem X.hu (hj : (ops[j]?).bind (·.dst) = some g) (hg : env g = v) (hv : v = .tup []) (hK : XO P Z ops rest (upd env d .undef) L K) : XO P Z ops (⟨some d, op, ty, pos, af, some (j, want)⟩ :: rest) env L K := X.gu hj (hg.trans hv) hK
theorem X.hpt (hj : (ops[j]?).bind (·.dst) = some g) (hg : env g = v) (hv : v = .bool (@decide p ip)) (h : p) (hK : XO P Z ops (⟨dst, op, ty, pos, af, some (j, want)⟩ :: rest) (upd env g (.bool true)) L K) : XO P Z ops (⟨dst, op, ty, pos, af, some (j, want)⟩ :: rest) env L K := X.gpt hj (hg.trans hv) h hK
theorem X.hpf (hj : (ops[j]?).bind (·.dst) = some g) (hg : env g = v) (hv : v = .bool (@decide p ip)) (h : ¬ p) (hK : XO P Z ops (⟨dst, op, ty, pos, af, some (j, want)⟩ :: rest) (upd env g (.bool false)) L K) : XO P Z ops (⟨dst, op, ty, pos, af, some (j, want)⟩ :: rest) env L K := X.gpf hj (hg.trans hv) h hK
theorem X.hqt (hj : (ops[j]?).bind (·.dst) = some g) (hg : env g = v) (hv : v = .bool (!@decide p ip)) (h : ¬ p) (hK : XO P Z ops (⟨dst, op, ty, pos, af, some (j, want)⟩ :: rest) (upd env g (.bool true)) L K) : XO P Z ops (⟨dst, op, ty, pos, af, some (j, want)⟩ :: rest) env L K := X.gnt hj (hg.trans hv) h hK
theorem X.hqf (hj : (ops[j]?).bind (·.dst) = some g) (hg : env g = v) (hv : v = .bool (!@decide p ip)) (h : p) (hK : XO P Z ops (⟨dst, op, ty, pos, af, some (j, want)⟩ :: rest) (upd env g (.bool false)) L K) : XO P Z ops (⟨dst, op, ty, pos, af, some (j, want)⟩ :: rest) env L K := X.gnf hj (hg.trans hv) h hK
theorem X.hp (hj : (ops[j]?).bind (·.dst) = some g) (hg : env g = v) (hv : v = .bool (@decide p ip)) (h1 : p → XO P Z ops (⟨dst, op, ty, pos, af, some (j, want)⟩ :: rest) (upd env g (.bool true)) L K) (h2 : ¬ p → XO P Z ops (⟨dst, op, ty, pos, af, some (j, want)⟩ :: rest) (upd env g (.bool false)) L K) : XO P Z ops (⟨dst, op, ty, pos, af, some (j, want)⟩ :: rest) env L K := X.gp hj (hg.trans hv) h1 h2
theorem X.hq (hj : (ops[j]?).bind (·.dst) = some g) (hg : env g = v) (hv : v = .bool (!@decide p ip)) (h1 : ¬ p → XO P Z ops (⟨dst, op, ty, pos, af, some (j, want)⟩ :: rest) (upd env g (.bool true)) L K) (h2 : p → XO P Z ops (⟨dst, op, ty, pos, af, some (j, want)⟩ :: rest) (upd env g (.bool false)) L K) : XO P Z ops (⟨dst, op, ty, pos, af, some (j, want)⟩ :: rest) env L K := X.gnp hj (hg.trans hv) h1 h2
theorem X.hb (hj : (ops[j]?).bind (·.dst) = some g) (hg : env g = v) (hv : v = .bool b) (h1 : b = true → XO P Z ops (⟨dst, op, ty, pos, af, some (j, want)⟩ :: rest) (upd env g (.bool true)) L K) (h2 : b = false → XO P Z ops (⟨dst, op, ty, pos, af, some (j, want)⟩ :: rest) (upd env g (.bool false)) L K) : XO P Z ops (⟨dst, op, ty, pos, af, some (j, want)⟩ :: rest) env L K := X.gs hj (hg.trans hv) h1 h2
theorem A.hy (hj : (ops[j]?).bind (·.dst) = some g) (hg : env g = v) (hv : v = .bool want) (hK : AO P Z ops (⟨dst, op, ty, pos, af, none⟩ :: rest) env L K) : AO P Z ops (⟨dst, op, ty, pos, af, some (j, want)⟩ :: rest) env L K := A.gy hj (hg.trans hv) hK
theorem A.hnt (hj : (ops[j]?).bind (·.dst) = some g) (hg : env g = v) (hv : v = .bool true) (hK : AO P Z ops rest (upd env d .undef) L K) : AO P Z ops (⟨some d, op, ty, pos, af, some (j, false)⟩ :: rest) env L K := A.gn hj (hg.trans hv) rfl hK
theorem A.hnf (hj : (ops[j]?).bind (·.dst) = some g) (hg : env g = v) (hv : v = .bool false) (hK : AO P Z ops rest (upd env d .undef) L K) : AO P Z ops (⟨some d, op, ty, pos, af, some (j, true)⟩ :: rest) env L K := A.gn hj (hg.trans hv) rfl hK
theorem A.hu (hj : (ops[j]?).bind (·.dst) = some g) (hg : env g = v) (hv : v = .tup []) (hK : AO P Z ops rest (upd env d .undef) L K) : AO P Z ops (⟨some d, op, ty, pos, af, some (j, want)⟩ :: rest) env L K := A.gu hj (hg.trans hv) hK
theorem A.hpt (hj : (ops[j]?).bind (·.dst) = some g) (hg : env g = v) (hv : v = .bool (@decide p ip)) (h : p) (hK : AO P Z ops (⟨dst, op, ty, pos, af, some (j, want)⟩ :: rest) (upd env g (.bool true)) L K) : AO P Z ops (⟨dst, op, ty, pos, af, some (j, want)⟩ :: rest) env L K := A.gpt hj (hg.trans hv) h hK
theorem A.hpf (hj : (ops[j]?).bind (·.dst) = some g) (hg : env g = v) (hv : v = .bool (@decide p ip)) (h : ¬ p) (hK : AO P Z ops (⟨dst, op, ty, pos, af, some (j, want)⟩ :: rest) (upd env g (.bool false)) L K) : AO P Z ops (⟨dst, op, ty, pos, af, some (j, want)⟩ :: rest) env L K := A.gpf hj (hg.trans hv) h hK
theorem A.hqt (hj : (ops[j]?).bind (·.dst) = some g) (hg : env g = v) (hv : v = .bool (!@decide p ip)) (h : ¬ p) (hK : AO P Z ops (⟨dst, op, ty, pos, af, some (j, want)⟩ :: rest) (upd env g (.bool true)) L K) : AO P Z ops (⟨dst, op, ty, pos, af, some (j, want)⟩ :: rest) env L K := A.gnt hj (hg.trans hv) h hK
theorem A.hqf (hj : (ops[j]?).bind (·.dst) = some g) (hg : env g = v) (hv : v = .bool (!@decide p ip)) (h : p) (hK : AO P Z ops (⟨dst, op, ty, pos, af, some (j, want)⟩ :: rest) (upd env g (.bool false)) L K) : AO P Z ops (⟨dst, op, ty, pos, af, some (j, want)⟩ :: rest) env L K := A.gnf hj (hg.trans hv) h hK
theorem A.hp (hj : (ops[j]?).bind (·.dst) = some g) (hg : env g = v) (hv : v = .bool (@decide p ip)) (h1 : p → AO P Z ops (⟨dst, op, ty, pos, af, some (j, want)⟩ :: rest) (upd env g (.bool true)) L K) (h2 : ¬ p → AO P Z ops (⟨dst, op, ty, pos, af, some (j, want)⟩ :: rest) (upd env g (.bool false)) L K) : AO P Z ops (⟨dst, op, ty, pos, af, some (j, want)⟩ :: rest) env L K := A.gp hj (hg.trans hv) h1 h2
theorem A.hq (hj : (ops[j]?).bind (·.dst) = some g) (hg : env g = v) (hv : v = .bool (!@decide p ip)) (h1 : ¬ p → AO P Z ops (⟨dst, op, ty, pos, af, some (j, want)⟩ :: rest) (upd env g (.bool true)) L K) (h2 : p → AO P Z ops (⟨dst, op, ty, pos, af, some (j, want)⟩ :: rest) (upd env g (.bool false)) L K) : AO P Z ops (⟨dst, op, ty, pos, af, some (j, want)⟩ :: rest) env L K := A.gnp hj (hg.trans hv) h1 h2
theorem A.hb (hj : (ops[j]?).bind (·.dst) = some g) (hg : env g = v) (hv : v = .bool b) (h1 : b = true → AO P Z ops (⟨dst, op, ty, pos, af, some (j, want)⟩ :: rest) (upd env g (.bool true)) L K) (h2 : b = false → AO P Z ops (⟨dst, op, ty, pos, af, some (j, want)⟩ :: rest) (upd env g (.bool false)) L K) : AO P Z ops (⟨dst, op, ty, pos, af, some (j, want)⟩ :: rest) env L K := A.gs hj (hg.trans hv) h1 h2
theorem W.jt {c : Operand} (hc : St.ev ⟨env, L⟩ c = v) (hv : v = .bool true) (h1 : CW P Z r n x Q env L) (ho : okX n c = true := by kernel_rfl) : CW P Z r n (.cond c x y) Q env L := W.ct (hc.trans hv) h1 ho
theorem W.jf {c : Operand} (hc : St.ev ⟨env, L⟩ c = v) (hv : v = .bool false) (h1 : CW P Z r n y Q env L) (ho : okX n c = true := by kernel_rfl) : CW P Z r n (.cond c x y) Q env L := W.cf (hc.trans hv) h1 ho
theorem W.jpt {c : Operand} (hc : St.ev ⟨env, L⟩ c = v) (hv : v = .bool (@decide p ip)) (h : p) (h1 : CW P Z r n x Q env L) (ho : okX n c = true := by kernel_rfl) : CW P Z r n (.cond c x y) Q env L := W.cpt (hc.trans hv) h h1 ho
theorem W.jpf {c : Operand} (hc : St.ev ⟨env, L⟩ c = v) (hv : v = .bool (@decide p ip)) (h : ¬ p) (h1 : CW P Z r n y Q env L) (ho : okX n c = true := by kernel_rfl) : CW P Z r n (.cond c x y) Q env L := W.cpf (hc.trans hv) h h1 ho
theorem W.jqt {c : Operand} (hc : St.ev ⟨env, L⟩ c = v) (hv : v = .bool (!@decide p ip)) (h : ¬ p) (h1 : CW P Z r n x Q env L) (ho : okX n c = true := by kernel_rfl) : CW P Z r n (.cond c x y) Q env L := W.cnt (hc.trans hv) h h1 ho
theorem W.jqf {c : Operand} (hc : St.ev ⟨env, L⟩ c = v) (hv : v = .bool (!@decide p ip)) (h : p) (h1 : CW P Z r n y Q env L) (ho : okX n c = true := by kernel_rfl) : CW P Z r n (.cond c x y) Q env L := W.cnf (hc.trans hv) h h1 ho
theorem W.jp {c : Operand} (hc : St.ev ⟨env, L⟩ c = v) (hv : v = .bool (@decide p ip)) (h1 : p → CW P Z r n x Q env L) (h2 : ¬ p → CW P Z r n y Q env L) (ho : okX n c = true := by kernel_rfl) : CW P Z r n (.cond c x y) Q env L := W.cp (hc.trans hv) h1 h2 ho
theorem W.jq {c : Operand} (hc : St.ev ⟨env, L⟩ c = v) (hv : v = .bool (!@decide p ip)) (h1 : ¬ p → CW P Z r n x Q env L) (h2 : p → CW P Z r n y Q env L) (ho : okX n c = true := by kernel_rfl) : CW P Z r n (.cond c x y) Q env L := W.cnp (hc.trans hv) h1 h2 ho
theorem W.jb {c : Operand} (hc : St.ev ⟨env, L⟩ c = v) (hv : v = .bool b) (h1 : b = true → CW P Z r n x Q env L) (h2 : b = false → CW P Z r n y Q env L) (ho : okX n c = true := by kernel_rfl) : CW P Z r n (.cond c x y) Q env L := W.cd (hc.trans hv) h1 h2 ho
end
end Go.Pv
end
section
/- Results of which less is told. -/
namespace Go.Pv
variable {P : Program} {Z : Nat → Go.Obj → Prop}
theorem SE.weak {f : FuncId} {args : List V} {L L' : List Obj} {v v' : V} (h : SE P Z f args L v L') (hw : ∀ G r, VR G v r → VR G v' r) : SE P Z f args L v' L' :=
  ⟨⟨h.out.1, fun G w rargs h1 h2 => (h.out.2 G w rargs h1 h2).mono fun _ _ ⟨G', M, u, ⟨hu, hM⟩, a, b, c⟩ => ⟨G', M, v', ⟨rfl, hM⟩, a, b, hw _ _ (hu ▸ c)⟩⟩⟩
theorem VR.slw {G : Gh} {n x : Bool} {xs : List V} {r : Value} (h : VR G (.sl n x xs) r) : VR G (.sl false false xs) r := by
  cases h with
  | slnil => exact .sl0 (by simp)
  | sl0 hx => exact .sl0 (by simp)
  | sl sz vs hne hx hc hsz hk hv => exact .sl sz vs hne (by simp) hc hsz hk hv
theorem VR.tup2 {G : Gh} {a b a' b' : V} {r : Value} (h : VR G (.tup [a, b]) r) (ha : ∀ r, VR G a r → VR G a' r) (hb : ∀ r, VR G b r → VR G b' r) : VR G (.tup [a', b']) r := by
  cases h with
  | tup hn hv =>
    refine .tup hn fun p hp => ?_
    match p, hp with
    | 0, _ => exact ha _ (hv 0 (by simp))
    | 1, _ => exact hb _ (hv 1 (by simp))
/-- Arguments of which less is told to the call than is known. -/
theorem SE.argw {f : FuncId} {args args' : List V} {L L' : List Obj} {v : V} (h : SE P Z f args' L v L') (hn : args.length = args'.length) (hw : ∀ p (h1 : p < args.length) (h2 : p < args'.length) G r, VR G args[p] r → VR G args'[p] r) : SE P Z f args L v L' :=
  ⟨⟨h.out.1, fun G w rargs h1 h2 => h.out.2 G w rargs h1 ⟨by rw [h2.1, hn], fun p hp => hw p (by omega) hp _ _ (h2.2 p (by omega))⟩⟩⟩
end Go.Pv
end
