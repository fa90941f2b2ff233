import Derived.Calls
import Derived.Orders
set_option linter.unusedVariables false
set_option linter.unusedSimpArgs false
set_option linter.unusedSectionVars false
/- A program logic over pure values: the values, the objects, and how they stand for memory. No program in sight. -/
namespace Go.Pv

/-- A value as the logic sees it: slices that are only read hold their elements. -/
inductive V where
  | bool (b : Bool)
  | int (k : IntKind) (n : Int)
  | str (s : ByteArray)
  | nilp
  | ref (id off : Nat)
  | eref (id gen i j : Nat)
  | cref (cs : List V)
  | sl (nil exact : Bool) (xs : List V)
  | own (id off len gen : Nat)
  | bsl (id off len : Nat)
  | agg (cs : List V)
  | tup (vs : List V)
  | fn (f : FuncId) (caps : List V)
  | nilf
  | yl (id : Nat)
  | map (id : Nat)
  | nilmap
  | top
  deriving Inhabited

abbrev V.undef : V := .tup []
def V.cells : V → List V
  | .agg cs => cs
  | v => [v]
def V.one : V → Bool
  | .agg _ | .tup _ => false
  | _ => true
def flat (xs : List V) : List V := xs.flatMap V.cells

inductive Loc where
  | obj (b : Nat)
  | blk (b cap sz : Nat)
  | ext (B O sz : Nat)

/-- What is known for good: cells that stay, and where objects lie. -/
structure Gh where
  K : Nat → Nat → Value → Prop
  R : Nat → Nat → Loc → Prop

structure Gh.le (G G' : Gh) : Prop where
  k : ∀ {B o v}, G.K B o v → G'.K B o v
  r : ∀ {id gen l}, G.R id gen l → G'.R id gen l

theorem Gh.le.refl (G : Gh) : G.le G := ⟨id, id⟩
theorem Gh.le.trans {G G' G'' : Gh} (h : G.le G') (h' : G'.le G'') : G.le G'' := ⟨fun x => h'.k (h.k x), fun x => h'.r (h.r x)⟩

def OwnAt : Loc → (gen off : Nat) → Option Addr → Nat → Prop
  | .obj _, _, _, _, _ => False
  | .blk b cap sz, gen, off, A, c => off + c = cap ∧ gen ≤ cap ∧ (c = 0 ∨ A = some ⟨b, off * sz, none⟩)
  | .ext B O sz, gen, off, A, c => off + c = gen ∧ (c = 0 ∨ A = some ⟨B, O + off * sz, none⟩)

/-- A value that is no number, no struct: a place, a slice, a function, a map. -/
def tame : Value → Bool
  | .pointer _ | .slice _ _ _ | .func _ _ _ | .map _ => true
  | _ => false
inductive VR (G : Gh) : V → Value → Prop
  | bool (b : Bool) : VR G (.bool b) (.bool b)
  | int (k : IntKind) (n : Int) : VR G (.int k n) (.int k n)
  | str (s : ByteArray) : VR G (.str s) (.string s)
  | nilp : VR G .nilp (.pointer none)
  | ref {id off b : Nat} (h : G.R id 0 (.obj b)) : VR G (.ref id off) (.pointer (some ⟨b, off, none⟩))
  | eref {id gen i j b cap sz : Nat} (h : G.R id gen (.blk b cap sz)) : VR G (.eref id gen i j) (.pointer (some ⟨b, i * sz + j, none⟩))
  | erefx {id gen i j B O sz : Nat} (h : G.R id gen (.ext B O sz)) : VR G (.eref id gen i j) (.pointer (some ⟨B, O + i * sz + j, none⟩))
  | cref {cs : List V} {B O : Nat} (vs : Nat → Value) (hk : ∀ p, p < cs.length → G.K B (O + p) (vs p))
      (hv : ∀ p (h : p < cs.length), VR G cs[p] (vs p)) : VR G (.cref cs) (.pointer (some ⟨B, O, none⟩))
  | slnil : VR G (.sl true true []) (.slice none 0 0)
  | sl0 {exact : Bool} {A : Option Addr} {c : Nat} (hx : exact = true → c = 0) : VR G (.sl false exact []) (.slice A 0 c)
  | sl {exact : Bool} {xs : List V} {B O c : Nat} (sz : Nat) (vs : Nat → Value) (hne : xs ≠ []) (hx : exact = true → c = xs.length)
      (hc : xs.length ≤ c) (hsz : ∀ x ∈ xs, x.cells.length = sz) (hk : ∀ p, p < (flat xs).length → G.K B (O + p) (vs p))
      (hv : ∀ p (h : p < (flat xs).length), VR G (flat xs)[p] (vs p)) : VR G (.sl false exact xs) (.slice (some ⟨B, O, none⟩) xs.length c)
  | own {id off len gen c : Nat} {loc : Loc} {A : Option Addr} (hr : G.R id gen loc) (hl : off + len ≤ gen) (ha : OwnAt loc gen off A c) :
      VR G (.own id off len gen) (.slice A len c)
  | bsl {id off len b c : Nat} {A : Option Addr} (h : G.R id 0 (.obj b)) (hc : len ≤ c) (ha : c = 0 ∨ A = some ⟨b, off, none⟩) :
      VR G (.bsl id off len) (.slice A len c)
  | agg {cs : List V} {vs : Array Value} (hn : vs.size = cs.length) (hv : ∀ p (h : p < cs.length), VR G cs[p] (vs.getD p undef)) : VR G (.agg cs) (.agg vs)
  | tup {cs : List V} {vs : Array Value} (hn : vs.size = cs.length) (hv : ∀ p (h : p < cs.length), VR G cs[p] (vs.getD p undef)) : VR G (.tup cs) (.tuple vs)
  | fn {f : FuncId} {cs : List V} {vs : Array Value} (hn : vs.size = cs.length) (hv : ∀ p (h : p < cs.length), VR G cs[p] (vs.getD p undef)) :
      VR G (.fn f cs) (.func (.func f) #[] vs)
  | nilf : VR G .nilf .nilFunc
  | yl {id b : Nat} (h : G.R id 0 (.obj b)) : VR G (.yl id) (.func (.yield b) #[] #[])
  | map {id b : Nat} (h : G.R id 0 (.obj b)) : VR G (.map id) (.map (some b))
  | nilmap : VR G .nilmap (.map none)
  | top (r : Value) (h : tame r = true) : VR G .top r

theorem VR.mono {G G' : Gh} (hle : G.le G') {v : V} {r : Value} (h : VR G v r) : VR G' v r := by
  induction h with
  | bool b => exact .bool b
  | int k n => exact .int k n
  | str s => exact .str s
  | nilp => exact .nilp
  | ref h => exact .ref (hle.r h)
  | eref h => exact .eref (hle.r h)
  | erefx h => exact .erefx (hle.r h)
  | cref vs hk _ ih => exact .cref vs (fun p hp => hle.k (hk p hp)) ih
  | slnil => exact .slnil
  | sl0 hx => exact .sl0 hx
  | sl sz vs hne hx hc hsz hk _ ih => exact .sl sz vs hne hx hc hsz (fun p hp => hle.k (hk p hp)) ih
  | own hr hl ha => exact .own (hle.r hr) hl ha
  | bsl h hc ha => exact .bsl (hle.r h) hc ha
  | agg hn _ ih => exact .agg hn ih
  | tup hn _ ih => exact .tup hn ih
  | fn hn _ ih => exact .fn hn ih
  | nilf => exact .nilf
  | yl h => exact .yl (hle.r h)
  | map h => exact .map (hle.r h)
  | nilmap => exact .nilmap
  | top r h => exact .top r h

theorem VR_undef {G : Gh} : VR G V.undef Go.undef := .tup rfl (fun p h => absurd h (Nat.not_lt_zero p))

/-- An object of the logic. -/
inductive Obj where
  | box (cs : List V)
  | buf (sz m : Nat) (xs : List V)
  | loop (st : LoopState) (pend : Option Code) (env : Nat → V) (n : Nat) (params : Array Tmp) (assign body : Code)
  | map (es : List (V × V))

def Obj.gen : Obj → Nat
  | .buf _ _ xs => xs.length
  | _ => 0

def Free (_ : Array Value) (fr : Nat × Nat) : Prop := ∀ o, ¬ (fr.1 ≤ o ∧ o < fr.2)

def ObjOK (G : Gh) (w : World) (id : Nat) : Obj → Prop
  | .box cs => ∃ b c e fr, G.R id 0 (.obj b) ∧ w.heap[b]? = some (.cells c e fr) ∧ Free c fr ∧ c.size = cs.length ∧
      (∀ p (h : p < cs.length), VR G cs[p] (c.getD p undef)) ∧ ∀ x ∈ cs, x.one = true
  | .buf sz m xs => m ≤ xs.length ∧ (∀ x ∈ xs, x.cells.length = sz) ∧ ∃ loc, G.R id xs.length loc ∧ match loc with
      | .obj _ => False
      | .blk b cap sz' => sz' = sz ∧ (xs.length ≤ cap ∧ cap ≤ 9223372036854775807) ∧ ∃ c e fr, w.heap[b]? = some (.cells c e fr) ∧ Free c fr ∧ c.size = cap * sz ∧
          ∀ p (h : p < (flat xs).length), VR G (flat xs)[p] (c.getD p undef)
      | .ext B O sz' => sz' = sz ∧ m = xs.length ∧ ∃ vs : Nat → Value, ∀ p (h : p < (flat xs).length), G.K B (O + p) (vs p) ∧ VR G (flat xs)[p] (vs p)
  | .loop st pend env n params assign body => ∃ b tmps d fn, G.R id 0 (.obj b) ∧
      w.heap[b]? = some (.loop { state := st, pending := pend, fn, tmps, params, assign, body, defers := d }) ∧ tmps.size = n ∧
      ∀ t, t < n → VR G (env t) (tmps.getD t undef)
  | .map es => ∃ b ents clock, G.R id 0 (.obj b) ∧ w.heap[b]? = some (.map ents clock) ∧ ents.size = es.length ∧
      ∀ p (h : p < es.length), VR G es[p].1 ((ents.getD p default).key) ∧ VR G es[p].2 ((ents.getD p default).val)

def At (G : Gh) (id : Nat) (ob : Obj) (b : Nat) : Prop := G.R id ob.gen (.obj b) ∨ ∃ cap sz, G.R id ob.gen (.blk b cap sz)
def Held (G : Gh) (L : List Obj) (b : Nat) : Prop := ∃ id ob, L[id]? = some ob ∧ At G id ob b

theorem At.mono {G G' : Gh} (hle : G.le G') {id : Nat} {ob : Obj} {b : Nat} (h : At G id ob b) : At G' id ob b :=
  h.imp hle.r (fun ⟨c, s, h⟩ => ⟨c, s, hle.r h⟩)

/-- How the objects stand for memory. Z: blocks that nobody turns. -/
structure Rel (Z : Nat → Go.Obj → Prop) (G : Gh) (L : List Obj) (w : World) : Prop where
  kc : ∀ B o v, G.K B o v → w.cell? ⟨B, o, none⟩ = some v
  ok : ∀ id ob, L[id]? = some ob → ObjOK G w id ob
  fn : ∀ id gen l l', G.R id gen l → G.R id gen l' → l = l'
  dis : ∀ id id' ob ob' b, L[id]? = some ob → L[id']? = some ob' → At G id ob b → At G id' ob' b → id = id'
  kw : ∀ B o v id ob, G.K B o v → L[id]? = some ob → At G id ob B → ∃ sz m xs, ob = .buf sz m xs ∧ o < m * sz
  rl : ∀ id gen l, G.R id gen l → id < L.length
  rg : ∀ id gen l sz m xs, G.R id gen l → L[id]? = some (.buf sz m xs) → gen ≤ xs.length
  zc : ∀ B o, Z B o → w.heap[B]? = some o
  zh : ∀ B o, Z B o → ¬ Held G L B

structure Evo (G : Gh) (L : List Obj) (w : World) (G' : Gh) (L' : List Obj) (w' : World) : Prop where
  le : G.le G'
  size : w.heap.size ≤ w'.heap.size
  keep : ∀ B, B < w.heap.size → ¬ Held G L B → w'.heap[B]? = w.heap[B]?
  heldi : ∀ id ob b, L'[id]? = some ob → At G' id ob b → (∃ ob0, L[id]? = some ob0 ∧ At G id ob0 b) ∨ w.heap.size ≤ b
  kn : ∀ B o v, G'.K B o v → G.K B o v ∨ Held G L B ∨ w.heap.size ≤ B
  io : w'.os = w.os ∧ w'.output = w.output

theorem Evo.held {G : Gh} {L : List Obj} {w : World} {G' : Gh} {L' : List Obj} {w' : World} (h : Evo G L w G' L' w') : ∀ B, Held G' L' B → Held G L B ∨ w.heap.size ≤ B := by
  rintro B ⟨id, ob, h1, h2⟩
  rcases h.heldi id ob B h1 h2 with ⟨ob0, h3, h4⟩ | h3
  · exact .inl ⟨id, ob0, h3, h4⟩
  · exact .inr h3

theorem Evo.refl (G : Gh) (L : List Obj) (w : World) : Evo G L w G L w :=
  ⟨.refl G, Nat.le_refl _, fun _ _ _ => rfl, fun _ ob _ h1 h2 => .inl ⟨ob, h1, h2⟩, fun _ _ _ h => .inl h, rfl, rfl⟩

theorem Evo.trans {G G' G'' : Gh} {L L' L'' : List Obj} {w w' w'' : World} (h : Evo G L w G' L' w') (h' : Evo G' L' w' G'' L'' w'') : Evo G L w G'' L'' w'' where
  le := h.le.trans h'.le
  size := Nat.le_trans h.size h'.size
  keep B hB hn := by
    rw [h'.keep B (Nat.lt_of_lt_of_le hB h.size) (fun hh => (h.held B hh).elim hn (fun hs => absurd hB (Nat.not_lt.2 hs))), h.keep B hB hn]
  heldi id ob b h1 h2 := by
    rcases h'.heldi id ob b h1 h2 with ⟨ob0, h3, h4⟩ | h3
    · exact h.heldi id ob0 b h3 h4
    · exact .inr (Nat.le_trans h.size h3)
  io := ⟨h'.io.1.trans h.io.1, h'.io.2.trans h.io.2⟩
  kn B o v hk := by
    rcases h'.kn B o v hk with h1 | h1 | h1
    · exact h.kn B o v h1
    · rcases h.held B h1 with h2 | h2
      · exact .inr (.inl h2)
      · exact .inr (.inr h2)
    · exact .inr (.inr (Nat.le_trans h.size h1))

theorem ObjOK.at {G : Gh} {w : World} {id : Nat} {ob : Obj} (h : ObjOK G w id ob) : (∃ b, At G id ob b ∧ b < w.heap.size) ∨ ∃ B O sz, G.R id ob.gen (.ext B O sz) := by
  cases ob with
  | box cs =>
    obtain ⟨b, c, e, fr, hr, hh, _⟩ := h
    exact .inl ⟨b, .inl hr, (Array.getElem?_eq_some_iff.1 hh).1⟩
  | buf sz m xs =>
    obtain ⟨_, _, loc, hr, hm⟩ := h
    cases loc with
    | obj b => exact hm.elim
    | blk b cap sz' =>
      obtain ⟨_, _, c, e, fr, hh, _⟩ := hm
      exact .inl ⟨b, .inr ⟨_, _, hr⟩, (Array.getElem?_eq_some_iff.1 hh).1⟩
    | ext B O sz' => exact .inr ⟨B, O, sz', hr⟩
  | loop st pend env n params assign body =>
    obtain ⟨b, tmps, d, fn, hr, hh, _⟩ := h
    exact .inl ⟨b, .inl hr, (Array.getElem?_eq_some_iff.1 hh).1⟩
  | map es =>
    obtain ⟨b, en, cl, hr, hh, _⟩ := h
    exact .inl ⟨b, .inl hr, (Array.getElem?_eq_some_iff.1 hh).1⟩

/-- An object stays right if its own block stays. -/
theorem ObjOK.mono {G G' : Gh} {w w' : World} {id : Nat} {ob : Obj} (hle : G.le G') (h : ObjOK G w id ob)
    (hb : ∀ b, At G id ob b → b < w.heap.size → w'.heap[b]? = w.heap[b]?) : ObjOK G' w' id ob := by
  cases ob with
  | box cs =>
    obtain ⟨b, c, e, fr, hr, hh, hf, hs, hv, ho⟩ := h
    exact ⟨b, c, e, fr, hle.r hr, by rw [hb b (.inl hr) (Array.getElem?_eq_some_iff.1 hh).1]; exact hh, hf, hs, fun p hp => (hv p hp).mono hle, ho⟩
  | buf sz m xs =>
    obtain ⟨hm, hsz, loc, hr, hl⟩ := h
    refine ⟨hm, hsz, loc, hle.r hr, ?_⟩
    cases loc with
    | obj b => exact hl.elim
    | blk b cap sz' =>
      obtain ⟨h1, h2, c, e, fr, hh, hf, hs, hv⟩ := hl
      exact ⟨h1, h2, c, e, fr, by rw [hb b (.inr ⟨_, _, hr⟩) (Array.getElem?_eq_some_iff.1 hh).1]; exact hh, hf, hs, fun p hp => (hv p hp).mono hle⟩
    | ext B O sz' =>
      obtain ⟨h1, h2, vs, hv⟩ := hl
      exact ⟨h1, h2, vs, fun p hp => ⟨hle.k (hv p hp).1, (hv p hp).2.mono hle⟩⟩
  | loop st pend env n params assign body =>
    obtain ⟨b, tmps, d, fn, hr, hh, hs, hv⟩ := h
    exact ⟨b, tmps, d, fn, hle.r hr, by rw [hb b (.inl hr) (Array.getElem?_eq_some_iff.1 hh).1]; exact hh, hs, fun p hp => (hv p hp).mono hle⟩
  | map es =>
    obtain ⟨b, en, cl, hr, hh, hs, hv⟩ := h
    exact ⟨b, en, cl, hle.r hr, by rw [hb b (.inl hr) (Array.getElem?_eq_some_iff.1 hh).1]; exact hh, hs, fun p hp => ⟨(hv p hp).1.mono hle, (hv p hp).2.mono hle⟩⟩

theorem Rel.held_lt {Z : Nat → Go.Obj → Prop} {G : Gh} {L : List Obj} {w : World} (h : Rel Z G L w) {B : Nat} (hB : Held G L B) : B < w.heap.size := by
  obtain ⟨id, ob, hid, hat⟩ := hB
  rcases (h.ok id ob hid).at with ⟨b, hat', hb⟩ | ⟨B', O, sz, hr⟩
  · have : B = b := by
      rcases hat with h1 | ⟨c, s, h1⟩ <;> rcases hat' with h2 | ⟨c', s', h2⟩ <;> have := h.fn _ _ _ _ h1 h2 <;> simp at this <;> omega
    omega
  · rcases hat with h1 | ⟨c, s, h1⟩ <;> have := h.fn _ _ _ _ h1 hr <;> simp at this

theorem Rel.at_fn {Z : Nat → Go.Obj → Prop} {G : Gh} {L : List Obj} {w : World} (h : Rel Z G L w) {id : Nat} {ob : Obj} {b b' : Nat} (h1 : At G id ob b) (h2 : At G id ob b') : b = b' := by
  rcases h1 with h1 | ⟨c, s, h1⟩ <;> rcases h2 with h2 | ⟨c', s', h2⟩ <;> have := h.fn _ _ _ _ h1 h2 <;> simp at this <;> omega

theorem World.cell_lt {w : World} {B o : Nat} {v : Value} (h : w.cell? ⟨B, o, none⟩ = some v) : B < w.heap.size := by
  unfold World.cell? at h
  cases hh : w.heap[B]? with
  | none => simp [hh] at h
  | some x => exact (Array.getElem?_eq_some_iff.1 hh).1

theorem World.cell_congr {w w' : World} {B o : Nat} (h : w'.heap[B]? = w.heap[B]?) : w'.cell? ⟨B, o, none⟩ = w.cell? ⟨B, o, none⟩ := by
  unfold World.cell?
  simp only [h]

/-- Only the tape, or what lies outside of the heap, turned. -/
theorem Rel.heap {Z : Nat → Go.Obj → Prop} {G : Gh} {L : List Obj} {w w' : World} (h : Rel Z G L w) (hh : w'.heap = w.heap) (hio : w'.os = w.os ∧ w'.output = w.output := by exact ⟨rfl, rfl⟩) :
    Rel Z G L w' ∧ Evo G L w G L w' := by
  refine ⟨⟨?_, ?_, h.fn, h.dis, h.kw, h.rl, h.rg, ?_, h.zh⟩, ⟨.refl G, by rw [hh]; exact Nat.le_refl _, fun B _ _ => by rw [hh], fun _ ob _ h1 h2 => .inl ⟨ob, h1, h2⟩, fun _ _ _ h => .inl h, hio⟩⟩
  · intro B o v hk; rw [World.cell_congr (w := w) (by rw [hh])]; exact h.kc B o v hk
  · intro id ob hid; exact (h.ok id ob hid).mono (.refl G) (fun b _ _ => by rw [hh])
  · intro B o hz; rw [hh]; exact h.zc B o hz

/-- A block more that no object of the logic has. -/
theorem Rel.pushReal {Z : Nat → Go.Obj → Prop} {G : Gh} {L : List Obj} {w : World} (h : Rel Z G L w) (o : Go.Obj) :
    Rel Z G L { w with heap := w.heap.push o } ∧ Evo G L w G L { w with heap := w.heap.push o } := by
  have hk : ∀ B, B < w.heap.size → (w.heap.push o)[B]? = w.heap[B]? := fun B hB => by
    rw [Array.getElem?_push]; simp [Nat.ne_of_lt hB]
  refine ⟨⟨?_, ?_, h.fn, h.dis, h.kw, h.rl, h.rg, ?_, h.zh⟩, ⟨.refl G, by simp, fun B hB _ => hk B hB, fun _ ob _ h1 h2 => .inl ⟨ob, h1, h2⟩, fun _ _ _ h => .inl h, rfl, rfl⟩⟩
  · intro B o' v hv
    have := h.kc B o' v hv
    rw [World.cell_congr (w := w) (hk B (World.cell_lt this))]; exact this
  · intro id ob hid; exact (h.ok id ob hid).mono (.refl G) (fun b _ hb => hk b hb)
  · intro B o' hz
    have := h.zc B o' hz
    show (w.heap.push o)[B]? = _
    rw [hk B (Array.getElem?_eq_some_iff.1 this).1]; exact this

def Gh.addR (G : Gh) (id gen : Nat) (l : Loc) : Gh := ⟨G.K, fun i g x => G.R i g x ∨ (i = id ∧ g = gen ∧ x = l)⟩
theorem Gh.le_addR (G : Gh) (id gen : Nat) (l : Loc) : G.le (G.addR id gen l) := ⟨fun h => h, fun h => .inl h⟩
theorem Gh.addR_self (G : Gh) (id gen : Nat) (l : Loc) : (G.addR id gen l).R id gen l := .inr ⟨rfl, rfl, rfl⟩
def Gh.addK (G : Gh) (P : Nat → Nat → Value → Prop) : Gh := ⟨fun B o v => G.K B o v ∨ P B o v, G.R⟩
theorem Gh.le_addK (G : Gh) (P : Nat → Nat → Value → Prop) : G.le (G.addK P) := ⟨fun h => .inl h, fun h => h⟩

theorem At.old {G : Gh} {id' id gen : Nat} {l : Loc} {ob : Obj} {b : Nat} (hne : id' ≠ id) (h : At (G.addR id gen l) id' ob b) : At G id' ob b := by
  rcases h with (h | ⟨h, _⟩) | ⟨c, s, (h | ⟨h, _⟩)⟩
  · exact .inl h
  · exact absurd h hne
  · exact .inr ⟨c, s, h⟩
  · exact absurd h hne

/-- A new object in a new block. -/
theorem Rel.pushObj {Z : Nat → Go.Obj → Prop} {G : Gh} {L : List Obj} {w : World} (h : Rel Z G L w) {o : Go.Obj} {ob : Obj} {l : Loc}
    (hl : l = .obj w.heap.size ∨ (∃ cap sz, l = .blk w.heap.size cap sz))
    (hok : ObjOK (G.addR L.length ob.gen l) { w with heap := w.heap.push o } L.length ob) :
    Rel Z (G.addR L.length ob.gen l) (L ++ [ob]) { w with heap := w.heap.push o } ∧
      Evo G L w (G.addR L.length ob.gen l) (L ++ [ob]) { w with heap := w.heap.push o } := by
  have hk : ∀ B, B < w.heap.size → (w.heap.push o)[B]? = w.heap[B]? := fun B hB => by
    rw [Array.getElem?_push]; simp [Nat.ne_of_lt hB]
  have hle := Gh.le_addR G L.length ob.gen l
  have hget : ∀ id ob', (L ++ [ob])[id]? = some ob' → L[id]? = some ob' ∨ (id = L.length ∧ ob' = ob) := by
    intro id ob' hid
    by_cases hlt : id < L.length
    · rw [List.getElem?_append_left hlt] at hid; exact .inl hid
    · rw [List.getElem?_append_right (Nat.not_lt.1 hlt)] at hid
      have : id - L.length = 0 := by
        by_cases h0 : id - L.length = 0
        · exact h0
        · obtain ⟨m, hm⟩ : ∃ m, id - L.length = m + 1 := ⟨id - L.length - 1, by omega⟩
          rw [hm] at hid; simp at hid
      rw [this] at hid
      simp at hid
      exact .inr ⟨by omega, hid.symm⟩
  have hatnew : ∀ b, At (G.addR L.length ob.gen l) L.length ob b → b = w.heap.size := by
    intro b hat
    have hold : ∀ g x, G.R L.length g x → False := fun g x hr => absurd (h.rl _ _ _ hr) (Nat.lt_irrefl _)
    rcases hat with (hr | ⟨_, _, hr⟩) | ⟨c, s, (hr | ⟨_, _, hr⟩)⟩
    · exact (hold _ _ hr).elim
    · rcases hl with rfl | ⟨c, s, rfl⟩ <;> simp at hr; exact hr
    · exact (hold _ _ hr).elim
    · rcases hl with rfl | ⟨c', s', rfl⟩ <;> simp at hr; exact hr.1
  have hnlt : ∀ {id ob'}, L[id]? = some ob' → id < L.length := fun hid => (List.getElem?_eq_some_iff.1 hid).1
  have hheldold : ∀ {id ob' b}, L[id]? = some ob' → At (G.addR L.length ob.gen l) id ob' b → At G id ob' b := fun hid hat =>
    At.old (Nat.ne_of_lt (hnlt hid)) hat
  have hheld : ∀ B, Held (G.addR L.length ob.gen l) (L ++ [ob]) B → Held G L B ∨ w.heap.size ≤ B := by
    rintro B ⟨id, ob', hid, hat⟩
    rcases hget id ob' hid with hid | ⟨rfl, rfl⟩
    · exact .inl ⟨id, ob', hid, hheldold hid hat⟩
    · exact .inr (Nat.le_of_eq (hatnew B hat).symm)
  refine ⟨⟨?_, ?_, ?_, ?_, ?_, ?_, ?_, ?_, ?_⟩, ⟨hle, by simp, fun B hB _ => hk B hB, fun id ob' b hid hat => by
    rcases hget id ob' hid with hid | ⟨rfl, rfl⟩
    · exact .inl ⟨ob', hid, hheldold hid hat⟩
    · exact .inr (Nat.le_of_eq (hatnew b hat).symm), fun _ _ _ h => .inl h, rfl, rfl⟩⟩
  · intro B o' v hv
    have := h.kc B o' v hv
    rw [World.cell_congr (w := w) (hk B (World.cell_lt this))]; exact this
  · intro id ob' hid
    rcases hget id ob' hid with hid | ⟨rfl, rfl⟩
    · exact (h.ok id ob' hid).mono hle (fun b _ hb => hk b hb)
    · exact hok
  · rintro id gen x y (h1 | ⟨rfl, rfl, rfl⟩) (h2 | ⟨h2, h3, rfl⟩)
    · exact h.fn _ _ _ _ h1 h2
    · exact absurd (h2 ▸ h.rl _ _ _ h1) (Nat.lt_irrefl _)
    · exact absurd (h.rl _ _ _ h2) (Nat.lt_irrefl _)
    · rfl
  · intro id id' ob1 ob2 b h1 h2 a1 a2
    rcases hget id ob1 h1 with k1 | ⟨rfl, rfl⟩ <;> rcases hget id' ob2 h2 with k2 | ⟨rfl, rfl⟩
    · exact h.dis _ _ _ _ _ k1 k2 (hheldold k1 a1) (hheldold k2 a2)
    · have := h.held_lt ⟨id, ob1, k1, hheldold k1 a1⟩
      have := hatnew b a2
      omega
    · have := h.held_lt ⟨id', ob2, k2, hheldold k2 a2⟩
      have := hatnew b a1
      omega
    · rfl
  · intro B o' v id ob' hv hid hat
    rcases hget id ob' hid with hid | ⟨rfl, rfl⟩
    · exact h.kw B o' v id ob' hv hid (hheldold hid hat)
    · have := hatnew B hat
      have := World.cell_lt (h.kc B o' v hv)
      omega
  · rintro id gen x (hr | ⟨rfl, _, _⟩)
    · have := h.rl _ _ _ hr; simp; omega
    · simp
  · intro id gen x sz m xs hr hid
    rcases hget id _ hid with hid | ⟨rfl, hob⟩
    · rcases hr with hr | ⟨rfl, _, _⟩
      · exact h.rg _ _ _ _ _ _ hr hid
      · exact absurd (hnlt hid) (Nat.lt_irrefl _)
    · rcases hr with hr | ⟨_, rfl, _⟩
      · exact absurd (h.rl _ _ _ hr) (Nat.lt_irrefl _)
      · rw [← hob]; exact Nat.le_refl _
  · intro B o' hz
    have := h.zc B o' hz
    show (w.heap.push o)[B]? = _
    rw [hk B (Array.getElem?_eq_some_iff.1 this).1]; exact this
  · intro B o' hz hh
    rcases hheld B hh with hh | hh
    · exact h.zh B o' hz hh
    · have := (Array.getElem?_eq_some_iff.1 (h.zc B o' hz)).1
      omega

/-- An object in its own block turns; the block stays its own. -/
theorem Rel.change {Z : Nat → Go.Obj → Prop} {G G' : Gh} {L : List Obj} {w w' : World} (h : Rel Z G L w) {id b : Nat} {ob ob' : Obj}
    (hid : L[id]? = some ob) (hat : At G id ob b) (hle : G.le G') (hsize : w'.heap.size = w.heap.size)
    (hoth : ∀ B, B ≠ b → w'.heap[B]? = w.heap[B]?) (hok : ObjOK G' w' id ob') (hat' : ∀ B, At G' id ob' B → B = b)
    (hR : ∀ i g l, G'.R i g l → G.R i g l ∨ (i = id ∧ g = ob'.gen)) (hfn : ∀ i g l l', G'.R i g l → G'.R i g l' → l = l')
    (hg : ∀ sz m xs, ob' = .buf sz m xs → ∀ g l, G'.R id g l → g ≤ xs.length)
    (hKb : ∀ o v, G'.K b o v → w'.cell? ⟨b, o, none⟩ = some v ∧ ∃ sz m xs, ob' = .buf sz m xs ∧ o < m * sz)
    (hKo : ∀ B o v, B ≠ b → G'.K B o v → G.K B o v) (hio : w'.os = w.os ∧ w'.output = w.output := by exact ⟨rfl, rfl⟩) :
    Rel Z G' (L.set id ob') w' ∧ Evo G L w G' (L.set id ob') w' := by
  have hlt : id < L.length := (List.getElem?_eq_some_iff.1 hid).1
  have hheldb : Held G L b := ⟨id, ob, hid, hat⟩
  have hget : ∀ i x, (L.set id ob')[i]? = some x → (i ≠ id ∧ L[i]? = some x) ∨ (i = id ∧ x = ob') := by
    intro i x hi
    by_cases he : i = id
    · subst he; rw [List.getElem?_set_self hlt] at hi; exact .inr ⟨rfl, by simpa using hi.symm⟩
    · rw [List.getElem?_set_ne (Ne.symm he)] at hi; exact .inl ⟨he, hi⟩
  have hold : ∀ {i x B}, i ≠ id → At G' i x B → At G i x B := by
    rintro i x B hne (hr | ⟨c, s, hr⟩)
    · exact .inl ((hR _ _ _ hr).resolve_right (fun hh => hne hh.1))
    · exact .inr ⟨c, s, (hR _ _ _ hr).resolve_right (fun hh => hne hh.1)⟩
  have hheld : ∀ B, Held G' (L.set id ob') B → Held G L B := by
    rintro B ⟨i, x, hi, ha⟩
    rcases hget i x hi with ⟨hne, hi⟩ | ⟨rfl, rfl⟩
    · exact ⟨i, x, hi, hold hne ha⟩
    · rw [hat' B ha]; exact hheldb
  have hothers : ∀ i x, i ≠ id → L[i]? = some x → ∀ B, At G i x B → B ≠ b := fun i x hne hi B ha hB => hne (h.dis i id x ob b hi hid (hB ▸ ha) hat)
  refine ⟨⟨?_, ?_, hfn, ?_, ?_, ?_, ?_, ?_, ?_⟩, ⟨hle, by omega, fun B _ hn => hoth B (fun e => hn (e ▸ hheldb)), fun i x B hi ha => .inl (by
    rcases hget i x hi with ⟨hne, hi⟩ | ⟨rfl, rfl⟩
    · exact ⟨x, hi, hold hne ha⟩
    · exact ⟨ob, hid, by rw [hat' B ha]; exact hat⟩), ?_, hio⟩⟩
  · intro B o v hv
    by_cases hB : B = b
    · subst hB; exact (hKb o v hv).1
    · rw [World.cell_congr (w := w) (hoth B hB)]; exact h.kc B o v (hKo B o v hB hv)
  · intro i x hi
    rcases hget i x hi with ⟨hne, hi⟩ | ⟨rfl, rfl⟩
    · exact (h.ok i x hi).mono hle (fun B ha _ => hoth B (hothers i x hne hi B ha))
    · exact hok
  · intro i j x y B hi hj ha hb
    rcases hget i x hi with ⟨hne, ki⟩ | ⟨rfl, rfl⟩ <;> rcases hget j y hj with ⟨hne', kj⟩ | ⟨rfl, rfl⟩
    · exact h.dis _ _ _ _ _ ki kj (hold hne ha) (hold hne' hb)
    · exact absurd (hat' B hb) (hothers i x hne ki B (hold hne ha))
    · exact absurd (hat' B ha) (hothers j y hne' kj B (hold hne' hb))
    · rfl
  · intro B o v i x hv hi ha
    rcases hget i x hi with ⟨hne, hi⟩ | ⟨rfl, rfl⟩
    · have hB := hothers i x hne hi B (hold hne ha)
      exact h.kw B o v i x (hKo B o v hB hv) hi (hold hne ha)
    · have hB := hat' B ha
      subst hB
      exact (hKb o v hv).2
  · intro i g l hr
    rw [List.length_set]
    rcases hR i g l hr with hr | ⟨rfl, _⟩
    · exact h.rl _ _ _ hr
    · exact hlt
  · intro i g l sz m xs hr hi
    rcases hget i _ hi with ⟨hne, hi⟩ | ⟨rfl, hx⟩
    · exact h.rg _ _ _ _ _ _ ((hR _ _ _ hr).resolve_right (fun hh => hne hh.1)) hi
    · exact hg sz m xs hx.symm g l hr
  · intro B o hz
    have hn := h.zh B o hz
    rw [hoth B (fun e => hn (e ▸ hheldb))]; exact h.zc B o hz
  · intro B o hz hh
    exact h.zh B o hz (hheld B hh)
  · intro B o v hv
    by_cases hB : B = b
    · subst hB; exact .inr (.inl hheldb)
    · exact .inl (hKo B o v hB hv)

end Go.Pv
