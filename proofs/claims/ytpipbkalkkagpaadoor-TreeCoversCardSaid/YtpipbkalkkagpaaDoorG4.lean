import Derived.Shelf.Spec.TrailingZeros
import Derived.Test.YtpipbkalkkagpaaDoorG1
import Derived.Test.YtpipbkalkkagpaaDoorG3
import Derived.Test.YtpipbkalkkagpaaDoorProg
set_option linter.unusedVariables false
set_option linter.unusedSimpArgs false
set_option linter.unusedSectionVars false
section
/- Tree's seat: what the walks ask of the blocks that nobody turns; contracts. -/
set_option linter.unusedVariables false
set_option linter.unusedSimpArgs false
namespace Go.Proofs.Mth
open Go Go.Pv Go.Proofs Go.Shelf
def rn : Ren := ⟨fun x => if x = 29 then 95 else if x = 27 then 90 else x, fun x => if x = 22 then 109 else if x = 25 then 99 else if x = 54 then 111 else x, fun x => x⟩
set_option maxRecDepth 100000 in
theorem tzL : Lays7.n29 Tryd.prog rn := by constructor <;> first | rfl | (intro _; rfl) | kernel_rfl
/-- What the walks ask of the blocks that nobody turns. -/
structure ZT (Z : Nat → Go.Obj → Prop) : Prop where
  z : ∀ B o, Z B o → ∃ c e f, o = Go.Obj.cells c e f
  t : ∀ G L w, Rel Z G L w → TabAt 1 Lib.deBruijn64tab w
abbrev C (f : FuncId) (args : List V) (v : V) : Prop := CtH Tryd.prog ZT f args v
theorem ct {f : FuncId} {fn : Func} {c : Code} {args : List V} {v : V} (hf : Tryd.prog.funcs[f]? = some fn)
    (h : ∀ {Z : Nat → Go.Obj → Prop}, ZT Z → CW Tryd.prog Z none fn.ntmps c (FinD Tryd.prog fn v) (fun t => args.getD t .undef) [])
    (hb : fn.body = some c := by rfl) (hname : (fn.name == "runtime.NumGoroutine") = false := by kernel_rfl) (hn : args.length ≤ fn.ntmps := by exact Nat.le_of_ble_eq_true rfl) (hres : fn.results.toList.all (okRes fn.ntmps) = true := by kernel_rfl)
    (ha : DVs args := by infer_instance) (hv : DV v := by infer_instance) : C f args v := ctd (fun Z h => h.z) hf h hb hname hn hres ha hv
abbrev O (f : FuncId) (args : List V) (sz n : Nat) (xs : List V) : Prop := CtO Tryd.prog ZT f args sz n xs
theorem co {f : FuncId} {fn : Func} {c : Code} {args : List V} {sz n : Nat} {xs : List V} (hf : Tryd.prog.funcs[f]? = some fn)
    (h : ∀ {Z : Nat → Go.Obj → Prop}, ZT Z → CW Tryd.prog Z none fn.ntmps c (FinO Tryd.prog Z fn sz n xs) (fun t => args.getD t .undef) [])
    (hb : fn.body = some c := by rfl) (hname : (fn.name == "runtime.NumGoroutine") = false := by kernel_rfl) (hn : args.length ≤ fn.ntmps := by exact Nat.le_of_ble_eq_true rfl) (hres : fn.results.toList.all (okRes fn.ntmps) = true := by kernel_rfl)
    (ha : DVs args := by infer_instance) (hx : DVs xs := by infer_instance) : O f args sz n xs := cto (fun Z h => h.z) hf h hb hname hn hres ha hx
abbrev Om (f : FuncId) (args : List V) (sz m n : Nat) (xs : List V) : Prop := CtP Tryd.prog ZT f args sz m n xs
theorem com {f : FuncId} {fn : Func} {c : Code} {args : List V} {sz m n : Nat} {xs : List V} (hf : Tryd.prog.funcs[f]? = some fn)
    (h : ∀ {Z : Nat → Go.Obj → Prop}, ZT Z → CW Tryd.prog Z none fn.ntmps c (FinP Tryd.prog Z fn sz m n xs) (fun t => args.getD t .undef) [])
    (hb : fn.body = some c := by rfl) (hname : (fn.name == "runtime.NumGoroutine") = false := by kernel_rfl) (hn : args.length ≤ fn.ntmps := by exact Nat.le_of_ble_eq_true rfl) (hres : fn.results.toList.all (okRes fn.ntmps) = true := by kernel_rfl)
    (ha : DVs args := by infer_instance) (hx : DVs xs := by infer_instance) : Om f args sz m n xs := ctp (fun Z h => h.z) hf h hb hname hn hres ha hx
instance tz64 : CC Tryd.prog 95 (∀ x : Nat, x < 18446744073709551616 → C 95 [.int .u64 x] (.int .i64 (Lib.ctz 64 x))) := ⟨fun x hx {Z} H L => by
  refine ⟨⟨⟨_, (rfl : Tryd.prog.funcs[95]? = some Tryd.f95), by kernel_rfl, by kernel_rfl⟩, fun G w rargs hr ha => ?_⟩⟩
  obtain ⟨hs, hv⟩ := ha
  obtain ⟨v, rfl⟩ : ∃ v, rargs = #[v] := Array.size_eq_one_iff.1 hs
  have hv := hv 0 Nat.one_pos
  cases hv
  refine Calls0.of_calls ((Any7.bits_TrailingZeros64 tzL x hx w (fun _ => H.t G L w hr)).mono ?_)
  rintro e w' ⟨rfl, rfl⟩
  exact ⟨_, rfl, G, L, _, ⟨rfl, rfl⟩, hr, .refl _ _ _, .int _ _⟩⟩
end Go.Proofs.Mth
end
section
/- Trees: the plain functions; no program in sight. -/
namespace Go.Proofs.Mth
open Go Go.Pv
/-- A node. -/
structure Nd where
  kind : Int
  name : Int
  pub : List UInt8
  un : List Int
  hash : List UInt8
  deriving DecidableEq, Inhabited
def gN (n : Nd) : V := .agg [.int .i64 n.kind, .int .i64 n.name, gB n.pub, gI n.un, gB n.hash]
def gT (t : List Nd) : V := .sl false false (t.map gN)
instance {n : Nd} : DV (gN n) := ⟨(inferInstance : DV (.agg [.int .i64 n.kind, .int .i64 n.name, gB n.pub, gI n.un, gB n.hash])).lt⟩
instance : DG gN := ⟨fun n => (inferInstance : DV (gN n)).lt⟩
instance {t : List Nd} : DV (gT t) := ⟨(inferInstance : DV (.sl false false (t.map gN))).lt⟩
instance : DG gT := ⟨fun t => (inferInstance : DV (gT t)).lt⟩
def blankN : Nd := ⟨0, 0, [], [], []⟩
def leafN (name : Int) (pub : List UInt8) : Nd := ⟨1, name, pub, [], []⟩
def isNm (name : Int) (pub : List UInt8) : Bool := decide (0 ≤ name) && decide (name < 65536) && decide (pub.length = 32)
def newV (name : Int) (pub : List UInt8) : List Nd × Int := if isNm name pub then ([leafN name pub], 0) else ([], 1)
def cnt (t : List Nd) : Nat := (t.length + 1) / 2
/-- The leaves of a row that are told as not knowing: they rise, from lo to hi, and are leaves. -/
def okUn (t : List Nd) (hi : Int) : Int → List Int → Bool
  | _, [] => true
  | lo, i :: l => decide (lo ≤ i) && decide (i ≤ hi) && decide ((rd t (2 * i)).kind = 1) && okUn t hi (i + 1) l
/-- The i-th leaf. -/
def lf (t : List Nd) (i : Nat) : Nd := rd t (2 * (i : Int))
def isLf (t : List Nd) (name : Int) (i : Nat) : Bool := decide ((lf t i).kind = 1) && decide ((lf t i).name = name)
def findV (t : List Nd) (name : Int) : Int × Bool := match (List.range (cnt t)).find? (isLf t name) with
  | some i => ((i : Int), true)
  | none => (0, false)
/-- The first leaf that is blank; none is: how many there are. -/
def freeN (t : List Nd) : Nat := ((List.range (cnt t)).find? fun i => decide ((lf t i).kind = 0)).getD (cnt t)
theorem find_some {p : Nat → Bool} {n i : Nat} (hi : i < n) (hp : p i = true) (hq : ∀ q, q < i → p q = false) : (List.range n).find? p = some i :=
  List.find?_range_eq_some.2 ⟨hp, by simpa using hi, fun j hj => by rw [hq j hj]; rfl⟩
theorem find_none {p : Nat → Bool} {n : Nat} (hq : ∀ q, q < n → p q = false) : (List.range n).find? p = none :=
  List.find?_range_eq_none.2 fun j hj => by rw [hq j hj]; rfl
def usedL (t : List Nd) : List Int := ((List.range (cnt t)).filter fun i => decide ((lf t i).kind = 1)).map fun (i : Nat) => (i : Int)
def thereB (t : List Nd) (i : Int) : Bool := decide (0 ≤ i) && decide (i < (cnt t : Int)) && decide ((rd t (2 * i)).kind = 1)
theorem lf_at {t : List Nd} {i : Nat} (h : i < cnt t) : 2 * i < t.length := by unfold cnt at h; omega
def okNd (m : Nat) (n : Nd) : Bool := decide (n.pub.length ≤ 40) && decide (n.hash.length ≤ 40) && decide (n.un.length ≤ m)
def smallB (t : List Nd) (m : Nat) : Bool := decide (t.length ≤ m) && t.all (okNd m)
theorem all_rd {α : Type} [Inhabited α] {p : α → Bool} {l : List α} (h : ∀ q, q < l.length → p (rd l (q : Int)) = true) : l.all p = true := by
  rw [List.all_eq_true]
  intro a ha
  obtain ⟨q, hq, rfl⟩ := List.getElem_of_mem ha
  have := h q hq
  rwa [rd_nat, List.getD_eq_getElem?_getD, List.getElem?_eq_getElem hq] at this
theorem rd_mem {α : Type} [Inhabited α] {l : List α} {i : Int} (h : 0 ≤ i ∧ i < (l.length : Int)) : rd l i ∈ l := List.mem_of_getElem? (rd_get h)
theorem smallB_rd {t : List Nd} {m i : Nat} (h : smallB t m = true) (hi : i < t.length) : okNd m (rd t (i : Int)) = true := by
  simp only [smallB, Bool.and_eq_true, List.all_eq_true] at h
  exact h.2 _ (rd_mem (by omega))
/-- A leaf's path. -/
def pathV (t : List Nd) (i : Int) : List Int := if isN (2 * i) (cnt t) then (ups (2 * i).toNat (cnt t)).map fun q => ((q.2 : Nat) : Int) else []
def setN (t : List Nd) (i : Int) (n : Nd) : List Nd := t.set i.toNat n
def blankV (t : List Nd) (i : Int) : List Nd := (pathV t i).foldl (fun t x => setN t x blankN) t
def updV (t : List Nd) (i : Int) (pub : List UInt8) : List Nd × Int :=
  if pub.length ≠ 32 then (t, 1) else if thereB t i then (setN (blankV t i) (2 * i) (leafN (rd t (2 * i)).name pub), 0) else (t, 11)
/-- Are all leaves from one on blank? -/
def emptyB (t : List Nd) (i : Nat) : Bool := ((List.range (cnt t)).all fun q => decide (i ≤ q) == false || decide ((lf t q).kind = 0))
theorem emptyB_at {t : List Nd} {k q : Nat} (h : emptyB t k = true) (hk : k ≤ q) (hq : q < cnt t) : (lf t q).kind = 0 := by
  rw [emptyB, List.all_eq_true] at h
  have := h q (List.mem_range.2 hq)
  simpa [hk] using this
theorem emptyB_of {t : List Nd} {k : Nat} (h : ∀ q, k ≤ q → q < cnt t → (lf t q).kind = 0) : emptyB t k = true := by
  rw [emptyB, List.all_eq_true]
  intro q hq
  have hq := List.mem_range.1 hq
  by_cases hk : k ≤ q
  · simp [h q hk hq]
  · simp [hk]
theorem pathV_len (t : List Nd) (i : Int) : (pathV t i).length ≤ 11 := by
  unfold pathV; split
  · rw [List.length_map]; exact ups_len _ _
  · simp
theorem foldl_step {α β : Type} [Inhabited α] {f : β → α → β} {l : List α} {b : β} {k : Nat} (h : k < l.length) : (l.take (k + 1)).foldl f b = f ((l.take k).foldl f b) (rd l (k : Int)) := by
  rw [List.take_add_one, List.getElem?_eq_getElem h, List.foldl_append]
  simp [rd_nat, List.getD_eq_getElem?_getD, h]
theorem thereB_le {t : List Nd} {i : Int} (h : thereB t i = true) : 0 ≤ i ∧ i < (cnt t : Int) ∧ (rd t (2 * i)).kind = 1 := by
  simp only [thereB, Bool.and_eq_true, decide_eq_true_eq] at h
  exact ⟨h.1.1, h.1.2, h.2⟩
theorem foldl_len {l : List Int} : ∀ {t : List Nd}, (l.foldl (fun t x => setN t x blankN) t).length = t.length := by
  induction l with
  | nil => intro t; rfl
  | cons a l ih => intro t; rw [List.foldl_cons, ih]; simp [setN]
theorem blankV_len (t : List Nd) (i : Int) : (blankV t i).length = t.length := foldl_len
/-- The last leaf below one that isn't blank; none is: -1. -/
def lastF (t : List Nd) : Nat → Int
  | 0 => -1
  | k + 1 => if (lf t k).kind = 1 then (k : Int) else lastF t k
theorem lastF_lt (t : List Nd) : ∀ k, -1 ≤ lastF t k ∧ lastF t k < k
  | 0 => by simp [lastF]
  | k + 1 => by
    have := lastF_lt t k
    rw [lastF]; split <;> omega
/-- Trees by their form: as many nodes as a power of 2 of leaves has. -/
def okS (t : List Nd) : Prop := ∃ j, j < 11 ∧ t.length = 2 * 2 ^ j - 1
/-- The power of 2 of leaves that is used. -/
def wid (l : Int) : Nat → Nat
  | 0 => 0
  | q + 1 => if l < ((2 ^ q : Nat) : Int) then wid l q else q + 1
def remO (t : List Nd) (i : Int) : List Nd := setN (blankV t i) (2 * i) blankN
def remV (t : List Nd) (i : Int) : List Nd × Int :=
  if thereB t i then if lastF (remO t i) (cnt t) < 0 then (t, 13) else ((remO t i).take (2 * 2 ^ wid (lastF (remO t i) (cnt t)) (Nat.log2 (cnt t)) - 1), 0) else (t, 11)
theorem remO_len (t : List Nd) (i : Int) : (remO t i).length = t.length := by simp [remO, setN, blankV_len]
theorem cnt_of {t : List Nd} {j : Nat} (h : t.length = 2 * 2 ^ j - 1) : cnt t = 2 ^ j := by
  have : 1 ≤ 2 ^ j := Nat.one_le_two_pow
  unfold cnt; omega
theorem step_lt {p : Nat → Bool} {i : Nat} (hq : ∀ q, q < i → p q = false) (h : p i = false) : ∀ q, q < i + 1 → p q = false := fun q hq' => by
  by_cases hqi : q = i
  · subst hqi; exact h
  · exact hq q (by omega)
end Go.Proofs.Mth
end
section
/- Elements that are written, told with less. -/
set_option linter.unusedVariables false
set_option linter.unusedSimpArgs false
set_option linter.unusedSectionVars false
namespace Go.Pv
variable {P : Program} {Z : Nat → Go.Obj → Prop}
/-- An object seen in another way, of the same shape. -/
theorem Rel.view {G : Gh} {L : List Obj} {w : World} (h : Rel Z G L w) {id : Nat} {ob ob' : Obj} (hid : L[id]? = some ob) (hok : ObjOK G w id ob') (hgen : ob'.gen = ob.gen)
    (hb : ∀ sz m xs, ob = .buf sz m xs → ∃ xs', ob' = .buf sz m xs' ∧ xs'.length = xs.length) (hb' : ∀ sz m xs, ob' = .buf sz m xs → ∃ xs', ob = .buf sz m xs' ∧ xs'.length = xs.length) : Rel Z G (L.set id ob') w ∧ Evo G L w G (L.set id ob') w := by
  have hlt : id < L.length := (List.getElem?_eq_some_iff.1 hid).1
  have hget : ∀ i x, (L.set id ob')[i]? = some x → (i ≠ id ∧ L[i]? = some x) ∨ (i = id ∧ x = ob') := by
    intro i x hi
    by_cases he : i = id
    · subst he; rw [List.getElem?_set_self hlt] at hi; exact .inr ⟨rfl, by simpa using hi.symm⟩
    · rw [List.getElem?_set_ne (Ne.symm he)] at hi; exact .inl ⟨he, hi⟩
  have hat : ∀ {b}, At G id ob' b → At G id ob b := fun ha => by unfold At at *; rwa [hgen] at ha
  have hheld : ∀ B, Held G (L.set id ob') B → Held G L B := by
    rintro B ⟨i, x, hi, ha⟩
    rcases hget i x hi with ⟨_, hi⟩ | ⟨rfl, rfl⟩
    · exact ⟨i, x, hi, ha⟩
    · exact ⟨_, ob, hid, hat ha⟩
  refine ⟨⟨h.kc, ?_, h.fn, ?_, ?_, ?_, ?_, h.zc, fun B o hz hh => h.zh B o hz (hheld B hh)⟩, ⟨.refl G, Nat.le_refl _, fun _ _ _ => rfl, ?_, fun _ _ _ h => .inl h, rfl, rfl⟩⟩
  · intro i x hi
    rcases hget i x hi with ⟨_, hi⟩ | ⟨rfl, rfl⟩
    · exact h.ok i x hi
    · exact hok
  · intro i j x y B hi hj ha hb2
    rcases hget i x hi with ⟨_, ki⟩ | ⟨rfl, rfl⟩ <;> rcases hget j y hj with ⟨_, kj⟩ | ⟨rfl, rfl⟩
    · exact h.dis _ _ _ _ _ ki kj ha hb2
    · exact h.dis _ _ _ _ _ ki hid ha (hat hb2)
    · exact h.dis _ _ _ _ _ hid kj (hat ha) hb2
    · rfl
  · intro B o v i x hv hi ha
    rcases hget i x hi with ⟨_, ki⟩ | ⟨rfl, rfl⟩
    · exact h.kw B o v i x hv ki ha
    · obtain ⟨sz, m, xs, e, hlt'⟩ := h.kw B o v _ ob hv hid (hat ha)
      obtain ⟨xs', e', _⟩ := hb sz m xs e
      exact ⟨sz, m, xs', e', hlt'⟩
  · intro i g l hr; rw [List.length_set]; exact h.rl i g l hr
  · intro i g l sz m xs hr hi
    rcases hget i _ hi with ⟨_, ki⟩ | ⟨rfl, he⟩
    · exact h.rg i g l sz m xs hr ki
    · obtain ⟨xs', e', hl⟩ := hb' sz m xs he.symm
      rw [e'] at hid
      rw [← hl]; exact h.rg i g l sz m xs' hr hid
  · intro i x b hi ha
    rcases hget i x hi with ⟨_, ki⟩ | ⟨rfl, rfl⟩
    · exact .inl ⟨x, ki, ha⟩
    · exact .inl ⟨ob, hid, hat ha⟩
/-- A row of which an element is told with less. -/
theorem Rel.viewBuf {G : Gh} {L : List Obj} {w : World} (h : Rel Z G L w) {id sz m : Nat} {xs xs' : List V} (hid : L[id]? = some (.buf sz m xs)) (hn : xs'.length = xs.length) (hsz : ∀ x ∈ xs', x.cells.length = sz)
    (hv : ∀ p (h1 : p < (flat xs).length) (h2 : p < (flat xs').length) r, VR G (flat xs)[p] r → VR G (flat xs')[p] r) : Rel Z G (L.set id (.buf sz m xs')) w ∧ Evo G L w G (L.set id (.buf sz m xs')) w := by
  obtain ⟨h1, h2, loc, hr, hl⟩ := h.ok id _ hid
  have hfl : (flat xs').length = (flat xs).length := by rw [flat_length hsz, flat_length h2, hn]
  refine h.view hid ⟨by rw [hn]; exact h1, hsz, loc, by rw [hn]; exact hr, ?_⟩ (by simp [Obj.gen, hn]) (fun _ _ _ e => by cases e; exact ⟨xs', rfl, hn⟩) (fun _ _ _ e => by cases e; exact ⟨xs, rfl, hn.symm⟩)
  cases loc with
  | obj b => exact hl
  | blk b cap sz' =>
    obtain ⟨e1, e2, c, e, fr, hh, hf, hs, hvv⟩ := hl
    exact ⟨e1, by rw [hn]; exact e2, c, e, fr, hh, hf, hs, fun p hp => hv p (by omega) hp _ (hvv p (by omega))⟩
  | ext B O sz' =>
    obtain ⟨e1, e2, vs, hvv⟩ := hl
    exact ⟨e1, by rw [hn]; exact e2, vs, fun p hp => ⟨(hvv p (by omega)).1, hv p (by omega) hp _ (hvv p (by omega)).2⟩⟩
theorem flat_setP {sz : Nat} {x x' : V} (hx : x.cells.length = sz) (hx' : x'.cells.length = sz) (hw : ∀ (G : Gh) q (h1 : q < x.cells.length) (h2 : q < x'.cells.length) r, VR G x.cells[q] r → VR G x'.cells[q] r) :
    ∀ {xs : List V} {i : Nat}, i < xs.length → (∀ y ∈ xs, y.cells.length = sz) → ∀ (G : Gh) p (h1 : p < (flat (xs.set i x)).length) (h2 : p < (flat (xs.set i x')).length) r, VR G (flat (xs.set i x))[p] r → VR G (flat (xs.set i x'))[p] r
  | [], i, hi, _, _, _, _, _, _, _ => by simp at hi
  | y :: ys, 0, _, hs, G, p, h1, h2, r, hr => by
    simp only [List.set_cons_zero, flat_cons] at h1 h2 hr ⊢
    by_cases hp : p < sz
    · rw [List.getElem_append_left (by omega)] at hr ⊢
      exact hw G p (by omega) (by omega) r hr
    · rw [List.getElem_append_right (by omega)] at hr ⊢
      simpa [hx, hx'] using hr
  | y :: ys, i + 1, hi, hs, G, p, h1, h2, r, hr => by
    simp only [List.set_cons_succ, flat_cons] at h1 h2 hr ⊢
    by_cases hp : p < y.cells.length
    · rw [List.getElem_append_left hp] at hr ⊢
      exact hr
    · rw [List.getElem_append_right (by omega)] at hr ⊢
      exact flat_setP (xs := ys) (i := i) hx hx' hw (by simpa using hi) (fun z hz => hs z (List.mem_cons_of_mem _ hz)) G _ _ (by simp at h2; omega) r hr
section
variable {ops : Array Oper} {rest : List Oper} {env : Nat → V} {L L' : List Obj} {K : St → Prop} {d : Tmp} {ty t : TypeId} {pos : String} {af : Array Edge} {x y : Operand} {α : Type} [Inhabited α] {g : α → V} {l : List α} {id sz m n off : Nat} {c : Int} {v : V}
/-- An element, or a part of it, is written; nil slices are told as empty ones. -/
theorem X.sta (a : α) (hK : XO P Z ops rest env L' K) (hx : St.ev ⟨env, L⟩ x = .eref id n c.toNat off := by rfl) (hL : L[id]? = some (.buf sz m (l.map g)) := by rfl) (hn : l.length = n := by first | exact lenI | fail) (h : 0 ≤ c ∧ c < (n : Int) := by first | exact ltI | fail) (hy : St.ev ⟨env, L⟩ y = v := by rfl)
    (ha : V.weak (setElem (g (rd l c)) off v.cells) = g a := by rfl) (hm : m ≤ c.toNat := by first | exact ltI | fail) (hsz : szT P t = some v.cells.length := by rfl) (ho : v.cells.all V.one = true := by rfl) (hj : decide (off + v.cells.length ≤ sz ∧ 0 < v.cells.length) = true := by rfl)
    (hc : ∀ a : α, (g a).cells.length = sz := by intro _; rfl) (hc2 : (setElem (g (rd l c)) off v.cells).cells.length = sz := by rfl) (hL' : L.set id (.buf sz m ((l.set c.toNat a).map g)) = L' := by first | exact nrmL | fail) :
    XO P Z ops (⟨none, .store t x y, ty, pos, af, none⟩ :: rest) env L K := by
  have h1 := map_rd (g := g) (l := l) (c := c) (by omega)
  have hj := of_decide_eq_true hj
  have hlt := (List.getElem?_eq_some_iff.1 hL).1
  have hci : c.toNat < l.length := by omega
  subst hL'
  have hp : pop P L (St.ev ⟨env, L⟩) (.store t x y) = some (.undef, L.set id (.buf sz m ((l.map g).set c.toNat (setElem (g (rd l c)) off v.cells)))) := by
    simp only [pop, pstore, hx, hy]
    rw [if_pos ⟨hsz, ho⟩]
    simp only [hL, h1]
    rw [if_pos ⟨by simp [hn], hm, hj.1, hj.2⟩]
    rfl
  have hwk : ∀ Kx : V → List Obj → Prop, Kx .undef (L.set id (.buf sz m ((l.set c.toNat a).map g))) → Wk Z .undef (L.set id (.buf sz m ((l.map g).set c.toNat (setElem (g (rd l c)) off v.cells)))) Kx := by
    intro Kx hKx G w rv hr hv
    have hv2 := hr.viewBuf (id := id) (xs' := (l.map g).set c.toNat (g a)) (List.getElem?_set_self hlt) (by simp) (fun z hz => by
      rcases List.mem_or_eq_of_mem_set hz with hz | rfl
      · obtain ⟨b, _, rfl⟩ := List.mem_map.1 hz; exact hc b
      · exact hc a) (fun p p1 p2 r hh => flat_setP (sz := sz) hc2 (hc a) (fun G q q1 q2 r hq => by
          have e1 : (g a).cells = (setElem (g (rd l c)) off v.cells).cells.map V.weak := by
            rw [← ha]
            cases setElem (g (rd l c)) off v.cells with
            | agg cs => rw [V.weak, V.weaks_eq]; rfl
            | tup cs => simp [V.weak, V.cells]
            | _ => simp [V.weak, V.cells]
          have e2 : (g a).cells[q] = V.weak (setElem (g (rd l c)) off v.cells).cells[q] := by simp [e1]
          rw [e2]; exact hq.weak) (by simpa using hci) (fun z hz => by obtain ⟨b, _, rfl⟩ := List.mem_map.1 hz; exact hc b) G p p1 p2 r hh)
    rw [List.set_set] at hv2
    have e3 : (l.map g).set c.toNat (g a) = (l.set c.toNat a).map g := by rw [List.map_set]
    rw [e3] at hv2
    exact ⟨G, _, _, hKx, hv2.1, hv2.2, hv⟩
  refine ⟨?_⟩
  have hx' : exOp P Z ⟨none, .store t x y, ty, pos, af, none⟩ ⟨env, L⟩ (fun v L' => exOps P Z ops rest { env := (St.put ⟨env, L⟩ none v).env, L := L' } K) := by
    simp only [exOp, hp]
    exact hwk _ hK.out
  simp only [exOps, pwanted, if_true]
  exact hx'
end
end Go.Pv
end
section
/- Elements that are appended, told with less; zeros that are appended. -/
set_option linter.unusedVariables false
set_option linter.unusedSimpArgs false
set_option linter.unusedSectionVars false
namespace Go.Pv
variable {P : Program} {Z : Nat → Go.Obj → Prop}
theorem V.weak_cells (v : V) : (V.weak v).cells = v.cells.map V.weak := by
  cases v with
  | agg cs => rw [V.weak, V.weaks_eq]; rfl
  | tup cs => simp [V.weak, V.cells]
  | _ => simp [V.weak, V.cells]
theorem flat_weak (ys : List V) : flat (ys.map V.weak) = (flat ys).map V.weak := by
  induction ys with
  | nil => rfl
  | cons y ys ih => rw [List.map_cons, flat_cons, flat_cons, ih, V.weak_cells, List.map_append]
/-- So many zeros are appended. -/
theorem pop_app_z {env : Nat → V} {L : List Obj} {t e u : TypeId} {k : IntKind} {ats : Array TypeId} {s x : Operand} {id sz m w : Nat} {xs : List V} {z : V} (ht : ats[0]? = some t) (hu : ats[1]? = some u) (hd : P.underlying u = some (.int k))
    (hte : P.underlying t = some (.slice e)) (hsz : szT P e = some sz) (hz : zeroV P e = some z) (hzc : z.cells.length = sz) (h0 : 0 < sz) (hz1 : z.cells.all V.one = true)
    (hs : St.ev ⟨env, L⟩ s = .own id 0 xs.length xs.length) (hL : L[id]? = some (.buf sz m xs)) (hx : St.ev ⟨env, L⟩ x = .int .i64 (w : Int)) (hw : w ≤ 1000000) (hby : byT P e ≤ 1000) (hb : xs.length + w ≤ 1000000000) :
    pop P L (St.ev ⟨env, L⟩) (.call ⟨.builtin .append, #[s, x], ats⟩) = some (.own id 0 (xs.length + w) (xs.length + w), L.set id (.buf sz m (xs ++ List.replicate w z))) := by
  have h2 : pzeros P t (.int .i64 (w : Int)) = some (List.replicate w z) := by
    simp only [pzeros, hte, hz]
    rw [if_pos ⟨by omega, by omega, hby⟩, Int.toNat_natCast]
  have h3 : (xs.length + w) * byT P e ≤ 140737488355328 := by
    have : (xs.length + w) * byT P e ≤ 1000000000 * 1000 := Nat.mul_le_mul hb hby
    omega
  have h1 : pappendY P L t (.own id 0 xs.length xs.length) (some (List.replicate w z)) = some (.own id 0 (xs.length + w) (xs.length + w), L.set id (.buf sz m (xs ++ List.replicate w z))) := by
    simp only [pappendY, hte, hsz, hz]
    rw [if_pos ⟨h0, hzc, by rw [List.all_eq_true]; intro y hy; rw [List.eq_of_mem_replicate hy]; simp only [hzc, beq_self_eq_true, Bool.true_and]; exact hz1⟩]
    simp only [hL, List.length_replicate]
    rw [if_pos ⟨trivial, trivial, trivial, trivial, h3, by omega⟩]
  simp only [pop, pbuiltin, List.map_cons, List.map_nil, ht, hu, hs, hx, hd, h2, h1]
section
variable {ops : Array Oper} {rest : List Oper} {env : Nat → V} {L L' : List Obj} {K : St → Prop} {d : Tmp} {ty : TypeId} {pos : String} {af : Array Edge} {x s : Operand} {ats : Array TypeId} {α : Type} [Inhabited α] {g : α → V} {l : List α} {id sz m n : Nat}
theorem X.apc (l2 : List α) {ys : List V} (hp : pop P L (St.ev ⟨env, L⟩) (.call ⟨.builtin .append, #[s, x], ats⟩) = some (.own id 0 (l.length + ys.length) (l.length + ys.length), L.set id (.buf sz m (l.map g ++ ys)))) (hL : L[id]? = some (.buf sz m (l.map g)))
    (hw : ys.map V.weak = l2.map g) (hc : ∀ a : α, (g a).cells.length = sz) (hK : XO P Z ops rest (upd env d (.own id 0 (l ++ l2).length (l ++ l2).length)) (L.set id (.buf sz m ((l ++ l2).map g))) K) :
    XO P Z ops (⟨some d, .call ⟨.builtin .append, #[s, x], ats⟩, ty, pos, af, none⟩ :: rest) env L K := by
  have hlt := (List.getElem?_eq_some_iff.1 hL).1
  have hlen : ys.length = l2.length := by have := congrArg List.length hw; simpa using this
  have hwk : ∀ Kx : V → List Obj → Prop, Kx (.own id 0 (l ++ l2).length (l ++ l2).length) (L.set id (.buf sz m ((l ++ l2).map g))) → Wk Z (.own id 0 (l.length + ys.length) (l.length + ys.length)) (L.set id (.buf sz m (l.map g ++ ys))) Kx := by
    intro Kx hKx G w rv hr hv
    have hv2 := hr.viewBuf (id := id) (xs' := (l ++ l2).map g) (List.getElem?_set_self hlt) (by simp [hlen]) (fun z hz => by
      obtain ⟨b, _, rfl⟩ := List.mem_map.1 hz; exact hc b) (fun p p1 p2 r hh => by
        have e : flat ((l ++ l2).map g) = flat (l.map g) ++ (flat ys).map V.weak := by rw [List.map_append, flat_append, ← hw, flat_weak]
        simp only [e]
        simp only [flat_append] at p1 hh
        by_cases hp1 : p < (flat (l.map g)).length
        · rw [List.getElem_append_left hp1] at hh ⊢; exact hh
        · rw [List.getElem_append_right (by omega)] at hh ⊢
          rw [List.getElem_map]
          exact hh.weak)
    rw [List.set_set] at hv2
    refine ⟨G, _, _, hKx, hv2.1, hv2.2, ?_⟩
    rw [List.length_append, ← hlen]; exact hv
  refine ⟨?_⟩
  have hx' : exOp P Z ⟨some d, .call ⟨.builtin .append, #[s, x], ats⟩, ty, pos, af, none⟩ ⟨env, L⟩ (fun v L' => exOps P Z ops rest { env := (St.put ⟨env, L⟩ (some d) v).env, L := L' } K) := by
    simp only [exOp, hp]
    exact hwk _ hK.out
  simp only [exOps, pwanted, if_true]
  exact hx'
/-- Elements are appended; nil slices in them are told as empty ones. -/
theorem X.apw (l2 : List α) {ys : List V} (hK : XO P Z ops rest (upd env d (.own id 0 (l ++ l2).length (l ++ l2).length)) L' K) (hx : elems L (St.ev ⟨env, L⟩ x) = some ys := by rfl) (hs : St.ev ⟨env, L⟩ s = .own id 0 n n := by rfl) (hL : L[id]? = some (.buf sz m (l.map g)) := by rfl)
    (hn : l.length = n := by first | exact lenI | fail) (hw : ys.map V.weak = l2.map g := by rfl) (hys : ys.all (fun y => y.cells.length == sz && y.cells.all V.one) = true := by rfl) (hb : l.length + l2.length ≤ 1000000000 := by first | exact ltI | fail) (he : El P ats g sz := by first | exact elI | fail)
    (hL' : L.set id (.buf sz m ((l ++ l2).map g)) = L' := by first | exact nrmL | fail) : XO P Z ops (⟨some d, .call ⟨.builtin .append, #[s, x], ats⟩, ty, pos, af, none⟩ :: rest) env L K := by
  subst hL' hn
  obtain ⟨t, u, e, z, h1, h2, h3, h4, h5, h6, h7, h8⟩ := he.ok
  have hlen : ys.length = l2.length := by have := congrArg List.length hw; simpa using this
  have hs' : St.ev ⟨env, L⟩ s = .own id 0 (l.map g).length (l.map g).length := by rw [hs, List.length_map]
  have := pop_app_own (P := P) (env := env) (L := L) (ats := ats) (x := x) (s := s) h1 h2 h3 h4 h5 h6 h7 he.pos hs' hL hx hys (by
    simp only [List.length_map]
    have : (l.length + ys.length) * byT P e ≤ 1000000000 * 1000 := Nat.mul_le_mul (by omega) h8
    omega) (by simp only [List.length_map]; omega)
  rw [List.length_map] at this
  exact X.apc l2 this hL hw (fun a => by have := he.one a; simp at this; exact this.1) hK
/-- Zeros are appended. -/
theorem X.apz (a : α) (w : Nat) {t e u : TypeId} {k : IntKind} {z : V} (hK : XO P Z ops rest (upd env d (.own id 0 (l ++ List.replicate w a).length (l ++ List.replicate w a).length)) L' K) (hx : St.ev ⟨env, L⟩ x = .int .i64 (w : Int)) (hw : w ≤ 1000000) (hb : l.length + w ≤ 1000000000)
    (hs : St.ev ⟨env, L⟩ s = .own id 0 n n := by rfl) (hL : L[id]? = some (.buf sz m (l.map g)) := by rfl) (hn : l.length = n := by first | exact lenI | fail) (ht : ats[0]? = some t := by rfl) (hu : ats[1]? = some u := by rfl) (hd : P.underlying u = some (.int k) := by rfl)
    (hte : P.underlying t = some (.slice e) := by rfl) (hsz : szT P e = some sz := by rfl) (hz : zeroV P e = some z := by rfl) (hzc : z.cells.length = sz := by rfl) (h0 : 0 < sz := by decide) (hz1 : z.cells.all V.one = true := by rfl) (hby : byT P e ≤ 1000 := by decide +kernel) (hwk : V.weak z = g a := by rfl) (hc : ∀ a : α, (g a).cells.length = sz := by intro _; rfl)
    (hL' : L.set id (.buf sz m ((l ++ List.replicate w a).map g)) = L' := by first | exact nrmL | fail) : XO P Z ops (⟨some d, .call ⟨.builtin .append, #[s, x], ats⟩, ty, pos, af, none⟩ :: rest) env L K := by
  subst hL' hn
  have := pop_app_z (P := P) (env := env) (L := L) (ats := ats) (x := x) (s := s) (xs := l.map g) ht hu hd hte hsz hz hzc h0 hz1 (by rw [hs, List.length_map]) hL hx hw hby (by simpa using hb)
  rw [List.length_map] at this
  exact X.apc (List.replicate w a) (ys := List.replicate w z) (by rw [List.length_replicate]; exact this) hL (by rw [List.map_replicate, List.map_replicate, hwk]) hc hK
end
end Go.Pv
end
