import Derived.Test.YtfjkplemepcmeaaG1
import Derived.KernelRfl
set_option linter.unusedVariables false
set_option linter.unusedSimpArgs false
set_option linter.unusedSectionVars false
section
/- Bytes; arrays in their own place, and read through a pointer. -/
set_option linter.unusedVariables false
set_option linter.unusedSimpArgs false
set_option linter.unusedSectionVars false
namespace Go.Pv
variable {P : Program} {Z : Nat → Go.Obj → Prop}
def g8 (b : UInt8) : V := .int .u8 (b.toNat : Int)
instance : Inhabited UInt8 := ⟨0⟩
theorem all_u8 {p : UInt8 → Bool} (h : ((List.range 256).all fun n => p (UInt8.ofNat n)) = true) (a : UInt8) : p a = true := by
  rw [List.all_eq_true] at h
  have := h a.toNat (List.mem_range.2 (by have := a.toNat_lt; omega))
  simpa using this
theorem ofInt_nat (n a : Nat) (h : a < 2 ^ n) : (BitVec.ofInt n (a : Int)).toNat = a := by
  rw [BitVec.toNat_ofInt]
  have : ((a : Int) % ((2 ^ n : Nat) : Int)) = (a : Int) := Int.emod_eq_of_lt (by omega) (by omega)
  rw [this]; rfl
theorem xor_raw {n a b : Nat} (ha : a < 2 ^ n) (hb : b < 2 ^ n) : (BitVec.ofInt n (a : Int) ^^^ BitVec.ofInt n (b : Int)).toNat = a ^^^ b := by
  rw [BitVec.toNat_xor, ofInt_nat n a ha, ofInt_nat n b hb]
theorem and_raw {n a b : Nat} (ha : a < 2 ^ n) (hb : b < 2 ^ n) : (BitVec.ofInt n (a : Int) &&& BitVec.ofInt n (b : Int)).toNat = a &&& b := by
  rw [BitVec.toNat_and, ofInt_nat n a ha, ofInt_nat n b hb]
theorem or_raw {n a b : Nat} (ha : a < 2 ^ n) (hb : b < 2 ^ n) : (BitVec.ofInt n (a : Int) ||| BitVec.ofInt n (b : Int)).toNat = a ||| b := by
  rw [BitVec.toNat_or, ofInt_nat n a ha, ofInt_nat n b hb]
theorem u8_lt (a : UInt8) : a.toNat < 2 ^ 8 := a.toNat_lt
theorem xor8v (a b : UInt8) : pint .xor .u8 (a.toNat : Int) (b.toNat : Int) = some (g8 (a ^^^ b)) := by
  show some (V.int .u8 (IntKind.u8.wrap ((BitVec.ofInt 8 (a.toNat : Int) ^^^ BitVec.ofInt 8 (b.toNat : Int)).toNat : Nat))) = _
  rw [xor_raw (u8_lt a) (u8_lt b), wU8 ⟨by omega, by have := Nat.xor_lt_two_pow (u8_lt a) (u8_lt b); omega⟩]
  rfl
theorem and8v (a b : UInt8) : pint .and .u8 (a.toNat : Int) (b.toNat : Int) = some (g8 (a &&& b)) := by
  show some (V.int .u8 (IntKind.u8.wrap ((BitVec.ofInt 8 (a.toNat : Int) &&& BitVec.ofInt 8 (b.toNat : Int)).toNat : Nat))) = _
  rw [and_raw (u8_lt a) (u8_lt b), wU8 ⟨by omega, by have := Nat.and_lt_two_pow a.toNat (u8_lt b); omega⟩]
  rfl
theorem or8v (a b : UInt8) : pint .or .u8 (a.toNat : Int) (b.toNat : Int) = some (g8 (a ||| b)) := by
  show some (V.int .u8 (IntKind.u8.wrap ((BitVec.ofInt 8 (a.toNat : Int) ||| BitVec.ofInt 8 (b.toNat : Int)).toNat : Nat))) = _
  rw [or_raw (u8_lt a) (u8_lt b), wU8 ⟨by omega, by have := Nat.or_lt_two_pow (u8_lt a) (u8_lt b); omega⟩]
  rfl
section
variable {env : Nat → V} {L L' : List Obj} {ops : Array Oper} {rest : List Oper} {K : St → Prop} {d : Tmp}
  {ty t t' e u : TypeId} {pos : String} {af : Array Edge} {x s i y : Operand} {id sz n o : Nat} {k : IntKind} {α : Type} [Inhabited α] {g : α → V} {l : List α} {c p : Int} {cs : List V} {dd : TypeDesc} {v : V} 
theorem X.xor8 {a b : UInt8} (hx : St.ev ⟨env, L⟩ x = g8 a) (hy : St.ev ⟨env, L⟩ y = g8 b) (hK : XO P Z ops rest (upd env d (g8 (a ^^^ b))) L K) : XO P Z ops (⟨some d, .binOp .xor t x y t', ty, pos, af, none⟩ :: rest) env L K := X.go0 (by simp only [pop, hx, hy, g8, pbin, if_true]; rw [xor8v]; rfl) hK
theorem A.xor8 {a b : UInt8} (hx : St.ev ⟨env, L⟩ x = g8 a) (hy : St.ev ⟨env, L⟩ y = g8 b) (hK : AO P Z ops rest (upd env d (g8 (a ^^^ b))) L K) : AO P Z ops (⟨some d, .binOp .xor t x y t', ty, pos, af, none⟩ :: rest) env L K := A.go0 (by simp only [pop, hx, hy, g8, pbin, if_true]; rw [xor8v]; rfl) hK
theorem X.and8 {a b : UInt8} (hx : St.ev ⟨env, L⟩ x = g8 a) (hy : St.ev ⟨env, L⟩ y = g8 b) (hK : XO P Z ops rest (upd env d (g8 (a &&& b))) L K) : XO P Z ops (⟨some d, .binOp .and t x y t', ty, pos, af, none⟩ :: rest) env L K := X.go0 (by simp only [pop, hx, hy, g8, pbin, if_true]; rw [and8v]; rfl) hK
theorem A.and8 {a b : UInt8} (hx : St.ev ⟨env, L⟩ x = g8 a) (hy : St.ev ⟨env, L⟩ y = g8 b) (hK : AO P Z ops rest (upd env d (g8 (a &&& b))) L K) : AO P Z ops (⟨some d, .binOp .and t x y t', ty, pos, af, none⟩ :: rest) env L K := A.go0 (by simp only [pop, hx, hy, g8, pbin, if_true]; rw [and8v]; rfl) hK
theorem X.or8 {a b : UInt8} (hx : St.ev ⟨env, L⟩ x = g8 a) (hy : St.ev ⟨env, L⟩ y = g8 b) (hK : XO P Z ops rest (upd env d (g8 (a ||| b))) L K) : XO P Z ops (⟨some d, .binOp .or t x y t', ty, pos, af, none⟩ :: rest) env L K := X.go0 (by simp only [pop, hx, hy, g8, pbin, if_true]; rw [or8v]; rfl) hK
theorem A.or8 {a b : UInt8} (hx : St.ev ⟨env, L⟩ x = g8 a) (hy : St.ev ⟨env, L⟩ y = g8 b) (hK : AO P Z ops rest (upd env d (g8 (a ||| b))) L K) : AO P Z ops (⟨some d, .binOp .or t x y t', ty, pos, af, none⟩ :: rest) env L K := A.go0 (by simp only [pop, hx, hy, g8, pbin, if_true]; rw [or8v]; rfl) hK
theorem pop_iaR  (hx : St.ev ⟨env, L⟩ x = .ref id 0) (hi : St.ev ⟨env, L⟩ i = .int k c) (h : 0 ≤ c ∧ c < (n : Int)) (hte : P.underlying t = some (.array n e)) (hsz : szT P e = some sz) : pop P L (St.ev ⟨env, L⟩) (.indexAddr t x i) = some (.ref id (c.toNat * sz), L) := by
  have h1 : c.toNat < n := by omega
  simp [pop, pindexAddr, hte, hx, hi, toNat?, hsz, h.1, h1]
theorem X.iaR  (hx : St.ev ⟨env, L⟩ x = .ref id 0) (hi : St.ev ⟨env, L⟩ i = .int k c) (h : 0 ≤ c ∧ c < (n : Int)) (hK : XO P Z ops rest (upd env d (.ref id (c.toNat * sz))) L K) (hte : P.underlying t = some (.array n e) := by rfl) (hsz : szT P e = some sz := by rfl) : XO P Z ops (⟨some d, .indexAddr t x i, ty, pos, af, none⟩ :: rest) env L K := X.go0 (pop_iaR hx hi h hte hsz) hK
theorem A.iaR  (hx : St.ev ⟨env, L⟩ x = .ref id 0) (hi : St.ev ⟨env, L⟩ i = .int k c) (h : 0 ≤ c ∧ c < (n : Int)) (hK : AO P Z ops rest (upd env d (.ref id (c.toNat * sz))) L K) (hte : P.underlying t = some (.array n e) := by rfl) (hsz : szT P e = some sz := by rfl) : AO P Z ops (⟨some d, .indexAddr t x i, ty, pos, af, none⟩ :: rest) env L K := A.go0 (pop_iaR hx hi h hte hsz) hK
theorem pop_iaR1  (hx : St.ev ⟨env, L⟩ x = .ref id 0) (hi : St.ev ⟨env, L⟩ i = .int k c) (h : 0 ≤ c ∧ c < (n : Int)) (hte : P.underlying t = some (.array n e)) (hsz : szT P e = some 1) : pop P L (St.ev ⟨env, L⟩) (.indexAddr t x i) = some (.ref id c.toNat, L) := by
  have h1 : c.toNat < n := by omega
  simp [pop, pindexAddr, hte, hx, hi, toNat?, hsz, h.1, h1]
theorem X.iaR1  (hx : St.ev ⟨env, L⟩ x = .ref id 0) (hi : St.ev ⟨env, L⟩ i = .int k c) (h : 0 ≤ c ∧ c < (n : Int)) (hK : XO P Z ops rest (upd env d (.ref id c.toNat)) L K) (hte : P.underlying t = some (.array n e) := by rfl) (hsz : szT P e = some 1 := by rfl) : XO P Z ops (⟨some d, .indexAddr t x i, ty, pos, af, none⟩ :: rest) env L K := X.go0 (pop_iaR1 hx hi h hte hsz) hK
theorem A.iaR1  (hx : St.ev ⟨env, L⟩ x = .ref id 0) (hi : St.ev ⟨env, L⟩ i = .int k c) (h : 0 ≤ c ∧ c < (n : Int)) (hK : AO P Z ops rest (upd env d (.ref id c.toNat)) L K) (hte : P.underlying t = some (.array n e) := by rfl) (hsz : szT P e = some 1 := by rfl) : AO P Z ops (⟨some d, .indexAddr t x i, ty, pos, af, none⟩ :: rest) env L K := A.go0 (pop_iaR1 hx hi h hte hsz) hK
theorem pop_iaR2  (hx : St.ev ⟨env, L⟩ x = .ref id (p.toNat * o)) (hi : St.ev ⟨env, L⟩ i = .int k c) (h : 0 ≤ c ∧ c < (n : Int)) (hp : 0 ≤ p) (hte : P.underlying t = some (.array n e)) (hsz : szT P e = some 1) : pop P L (St.ev ⟨env, L⟩) (.indexAddr t x i) = some (.ref id (p * (o : Nat) + c).toNat, L) := by
  have h1 : c.toNat < n := by omega
  have h2 : (p * (o : Int) + c).toNat = p.toNat * o + c.toNat := by
    have : p * (o : Int) = ((p.toNat * o : Nat) : Int) := by rw [Int.natCast_mul, Int.toNat_of_nonneg hp]
    omega
  simp [pop, pindexAddr, hte, hx, hi, toNat?, hsz, h.1, h1, h2]
theorem X.iaR2  (hx : St.ev ⟨env, L⟩ x = .ref id (p.toNat * o)) (hi : St.ev ⟨env, L⟩ i = .int k c) (h : 0 ≤ c ∧ c < (n : Int)) (hp : 0 ≤ p) (hK : XO P Z ops rest (upd env d (.ref id (p * (o : Nat) + c).toNat)) L K) (hte : P.underlying t = some (.array n e) := by rfl) (hsz : szT P e = some 1 := by rfl) : XO P Z ops (⟨some d, .indexAddr t x i, ty, pos, af, none⟩ :: rest) env L K := X.go0 (pop_iaR2 hx hi h hp hte hsz) hK
theorem A.iaR2  (hx : St.ev ⟨env, L⟩ x = .ref id (p.toNat * o)) (hi : St.ev ⟨env, L⟩ i = .int k c) (h : 0 ≤ c ∧ c < (n : Int)) (hp : 0 ≤ p) (hK : AO P Z ops rest (upd env d (.ref id (p * (o : Nat) + c).toNat)) L K) (hte : P.underlying t = some (.array n e) := by rfl) (hsz : szT P e = some 1 := by rfl) : AO P Z ops (⟨some d, .indexAddr t x i, ty, pos, af, none⟩ :: rest) env L K := A.go0 (pop_iaR2 hx hi h hp hte hsz) hK
theorem pop_iaC  (hx : St.ev ⟨env, L⟩ x = .cref cs) (hi : St.ev ⟨env, L⟩ i = .int k c) (h : 0 ≤ c ∧ c < (n : Int)) (hl : c.toNat * sz ≤ cs.length) (hte : P.underlying t = some (.array n e)) (hsz : szT P e = some sz) : pop P L (St.ev ⟨env, L⟩) (.indexAddr t x i) = some (.cref (cs.drop (c.toNat * sz)), L) := by
  have h1 : c.toNat < n := by omega
  simp [pop, pindexAddr, hte, hx, hi, toNat?, hsz, h.1, h1, hl]
theorem X.iaC  (hx : St.ev ⟨env, L⟩ x = .cref cs) (hi : St.ev ⟨env, L⟩ i = .int k c) (h : 0 ≤ c ∧ c < (n : Int)) (hl : c.toNat * sz ≤ cs.length) (hK : XO P Z ops rest (upd env d (.cref (cs.drop (c.toNat * sz)))) L K) (hte : P.underlying t = some (.array n e) := by rfl) (hsz : szT P e = some sz := by rfl) : XO P Z ops (⟨some d, .indexAddr t x i, ty, pos, af, none⟩ :: rest) env L K := X.go0 (pop_iaC hx hi h hl hte hsz) hK
theorem A.iaC  (hx : St.ev ⟨env, L⟩ x = .cref cs) (hi : St.ev ⟨env, L⟩ i = .int k c) (h : 0 ≤ c ∧ c < (n : Int)) (hl : c.toNat * sz ≤ cs.length) (hK : AO P Z ops rest (upd env d (.cref (cs.drop (c.toNat * sz)))) L K) (hte : P.underlying t = some (.array n e) := by rfl) (hsz : szT P e = some sz := by rfl) : AO P Z ops (⟨some d, .indexAddr t x i, ty, pos, af, none⟩ :: rest) env L K := A.go0 (pop_iaC hx hi h hl hte hsz) hK
theorem pop_iaC1  (hx : St.ev ⟨env, L⟩ x = .cref (l.map g)) (hi : St.ev ⟨env, L⟩ i = .int k c) (h : 0 ≤ c ∧ c < (n : Int)) (hl : c < (l.length : Int)) (hte : P.underlying t = some (.array n e)) (hsz : szT P e = some 1) : pop P L (St.ev ⟨env, L⟩) (.indexAddr t x i) = some (.cref ((l.map g).drop c.toNat), L) := by
  have h1 : c.toNat < n := by omega
  have h2 : c.toNat * 1 ≤ (l.map g).length := by simp; omega
  simp only [pop, pindexAddr, hte, hx, hi, toNat?, hsz, h.1, h1, if_true, Nat.mul_one] at h2 ⊢
  rw [if_pos ⟨trivial, h2⟩]; rfl
theorem X.iaC1  (hx : St.ev ⟨env, L⟩ x = .cref (l.map g)) (hi : St.ev ⟨env, L⟩ i = .int k c) (h : 0 ≤ c ∧ c < (n : Int)) (hl : c < (l.length : Int)) (hK : XO P Z ops rest (upd env d (.cref ((l.map g).drop c.toNat))) L K) (hte : P.underlying t = some (.array n e) := by rfl) (hsz : szT P e = some 1 := by rfl) : XO P Z ops (⟨some d, .indexAddr t x i, ty, pos, af, none⟩ :: rest) env L K := X.go0 (pop_iaC1 hx hi h hl hte hsz) hK
theorem A.iaC1  (hx : St.ev ⟨env, L⟩ x = .cref (l.map g)) (hi : St.ev ⟨env, L⟩ i = .int k c) (h : 0 ≤ c ∧ c < (n : Int)) (hl : c < (l.length : Int)) (hK : AO P Z ops rest (upd env d (.cref ((l.map g).drop c.toNat))) L K) (hte : P.underlying t = some (.array n e) := by rfl) (hsz : szT P e = some 1 := by rfl) : AO P Z ops (⟨some d, .indexAddr t x i, ty, pos, af, none⟩ :: rest) env L K := A.go0 (pop_iaC1 hx hi h hl hte hsz) hK
theorem pop_ldR  (hx : St.ev ⟨env, L⟩ x = .ref id c.toNat) (hL : L[id]? = some (.box (l.map g))) (h : 0 ≤ c ∧ c < (l.length : Int)) (hsz : szT P t = some 1) (ha : aggT P t = some false) : pop P L (St.ev ⟨env, L⟩) (.load t x) = some (g (rd l c), L) := by
  have := map_rd (g := g) h
  simp only [pop, pload, pcells, hx, hL, hsz, ha]
  rw [List.getElem?_drop, Nat.add_zero, this]; rfl
theorem X.ldR  (hx : St.ev ⟨env, L⟩ x = .ref id c.toNat) (hL : L[id]? = some (.box (l.map g))) (h : 0 ≤ c ∧ c < (l.length : Int)) (hK : XO P Z ops rest (upd env d (g (rd l c))) L K) (hsz : szT P t = some 1 := by rfl) (ha : aggT P t = some false := by rfl) : XO P Z ops (⟨some d, .load t x, ty, pos, af, none⟩ :: rest) env L K := X.go0 (pop_ldR hx hL h hsz ha) hK
theorem A.ldR  (hx : St.ev ⟨env, L⟩ x = .ref id c.toNat) (hL : L[id]? = some (.box (l.map g))) (h : 0 ≤ c ∧ c < (l.length : Int)) (hK : AO P Z ops rest (upd env d (g (rd l c))) L K) (hsz : szT P t = some 1 := by rfl) (ha : aggT P t = some false := by rfl) : AO P Z ops (⟨some d, .load t x, ty, pos, af, none⟩ :: rest) env L K := A.go0 (pop_ldR hx hL h hsz ha) hK
theorem pop_ldC  (hx : St.ev ⟨env, L⟩ x = .cref ((l.map g).drop c.toNat)) (h : 0 ≤ c ∧ c < (l.length : Int)) (hsz : szT P t = some 1) (ha : aggT P t = some false) : pop P L (St.ev ⟨env, L⟩) (.load t x) = some (g (rd l c), L) := by
  have := map_rd (g := g) h
  simp only [pop, pload, pcells, hx, hsz, ha]
  rw [List.getElem?_drop, Nat.add_zero, this]; rfl
theorem X.ldC  (hx : St.ev ⟨env, L⟩ x = .cref ((l.map g).drop c.toNat)) (h : 0 ≤ c ∧ c < (l.length : Int)) (hK : XO P Z ops rest (upd env d (g (rd l c))) L K) (hsz : szT P t = some 1 := by rfl) (ha : aggT P t = some false := by rfl) : XO P Z ops (⟨some d, .load t x, ty, pos, af, none⟩ :: rest) env L K := X.go0 (pop_ldC hx h hsz ha) hK
theorem A.ldC  (hx : St.ev ⟨env, L⟩ x = .cref ((l.map g).drop c.toNat)) (h : 0 ≤ c ∧ c < (l.length : Int)) (hK : AO P Z ops rest (upd env d (g (rd l c))) L K) (hsz : szT P t = some 1 := by rfl) (ha : aggT P t = some false := by rfl) : AO P Z ops (⟨some d, .load t x, ty, pos, af, none⟩ :: rest) env L K := A.go0 (pop_ldC hx h hsz ha) hK
theorem pop_ldW  (hx : St.ev ⟨env, L⟩ x = .ref id 0) (hL : L[id]? = some (.box cs)) (hn : cs.length = n) (hsz : szT P t = some n) (ha : aggT P t = some true) : pop P L (St.ev ⟨env, L⟩) (.load t x) = some (.agg cs, L) := by
  simp only [pop, pload, pcells, hx, hL, hsz, ha, List.drop_zero]
  rw [if_pos (by omega), List.take_of_length_le (by omega)]; rfl
theorem X.ldW  (hx : St.ev ⟨env, L⟩ x = .ref id 0) (hL : L[id]? = some (.box cs)) (hn : cs.length = n) (hK : XO P Z ops rest (upd env d (.agg cs)) L K) (hsz : szT P t = some n := by rfl) (ha : aggT P t = some true := by rfl) : XO P Z ops (⟨some d, .load t x, ty, pos, af, none⟩ :: rest) env L K := X.go0 (pop_ldW hx hL hn hsz ha) hK
theorem A.ldW  (hx : St.ev ⟨env, L⟩ x = .ref id 0) (hL : L[id]? = some (.box cs)) (hn : cs.length = n) (hK : AO P Z ops rest (upd env d (.agg cs)) L K) (hsz : szT P t = some n := by rfl) (ha : aggT P t = some true := by rfl) : AO P Z ops (⟨some d, .load t x, ty, pos, af, none⟩ :: rest) env L K := A.go0 (pop_ldW hx hL hn hsz ha) hK
theorem pop_ixA  (hx : St.ev ⟨env, L⟩ x = .agg (l.map g)) (hi : St.ev ⟨env, L⟩ i = .int k c) (h : 0 ≤ c ∧ c < (n : Int)) (hl : c < (l.length : Int)) (hte : P.underlying t = some (.array n e)) (hsz : szT P e = some 1) (ha : aggT P e = some false) : pop P L (St.ev ⟨env, L⟩) (.index t x i) = some (g (rd l c), L) := by
  have h1 : c.toNat < n := by omega
  have := map_rd (g := g) (l := l) (c := c) ⟨h.1, hl⟩
  simp only [pop, pindex, hte, hx, hi, toNat?, hsz, ha, h.1, h1, if_true, Nat.mul_one]
  rw [this]; rfl
theorem X.ixA  (hx : St.ev ⟨env, L⟩ x = .agg (l.map g)) (hi : St.ev ⟨env, L⟩ i = .int k c) (h : 0 ≤ c ∧ c < (n : Int)) (hl : c < (l.length : Int)) (hK : XO P Z ops rest (upd env d (g (rd l c))) L K) (hte : P.underlying t = some (.array n e) := by rfl) (hsz : szT P e = some 1 := by rfl) (ha : aggT P e = some false := by rfl) : XO P Z ops (⟨some d, .index t x i, ty, pos, af, none⟩ :: rest) env L K := X.go0 (pop_ixA hx hi h hl hte hsz ha) hK
theorem A.ixA  (hx : St.ev ⟨env, L⟩ x = .agg (l.map g)) (hi : St.ev ⟨env, L⟩ i = .int k c) (h : 0 ≤ c ∧ c < (n : Int)) (hl : c < (l.length : Int)) (hK : AO P Z ops rest (upd env d (g (rd l c))) L K) (hte : P.underlying t = some (.array n e) := by rfl) (hsz : szT P e = some 1 := by rfl) (ha : aggT P e = some false := by rfl) : AO P Z ops (⟨some d, .index t x i, ty, pos, af, none⟩ :: rest) env L K := A.go0 (pop_ixA hx hi h hl hte hsz ha) hK
theorem pop_stR {a : α} (hx : St.ev ⟨env, L⟩ x = .ref id c.toNat) (hL : L[id]? = some (.box (l.map g))) (hy : St.ev ⟨env, L⟩ y = g a) (h : 0 ≤ c ∧ c < (l.length : Int)) (hc : (g a).cells = [g a]) (ho : (g a).one = true) (hsz : szT P t = some 1) :
    pop P L (St.ev ⟨env, L⟩) (.store t x y) = some (.undef, L.set id (.box ((l.set c.toNat a).map g))) := by
  simp only [pop, pstore, hx, hy, hc, hsz, hL, List.length_singleton, List.all_cons, List.all_nil, ho, Bool.and_true]
  rw [if_pos (by simp), if_pos (by simp; omega)]
  have : setAt (l.map g) c.toNat [g a] = (l.set c.toNat a).map g := by
    unfold setAt
    rw [List.length_singleton, List.map_set]
    have hlt : c.toNat < (l.map g).length := by simp; omega
    rw [List.set_eq_take_append_cons_drop, if_pos hlt, List.append_assoc]; rfl
  rw [this]; rfl
theorem X.stR (a : α) (hx : St.ev ⟨env, L⟩ x = .ref id c.toNat) (hL : L[id]? = some (.box (l.map g))) (hy : St.ev ⟨env, L⟩ y = g a) (h : 0 ≤ c ∧ c < (l.length : Int))
    (hK : XO P Z ops rest env L' K) (hL' : L.set id (.box ((l.set c.toNat a).map g)) = L' := by ((try simp only [List.set_cons_zero, List.set_cons_succ, List.cons_append, List.nil_append]) <;> rfl)) (hc : (g a).cells = [g a] := by rfl) (ho : (g a).one = true := by rfl) (hsz : szT P t = some 1 := by rfl) :
    XO P Z ops (⟨none, .store t x y, ty, pos, af, none⟩ :: rest) env L K := X.st0 (by rw [← hL']; exact pop_stR hx hL hy h hc ho hsz) hK
/-- A whole array is written to its place. -/
theorem X.stW {ds : List V} (hx : St.ev ⟨env, L⟩ x = .ref id 0) (hL : L[id]? = some (.box ds)) (hy : St.ev ⟨env, L⟩ y = .agg cs) (hn : cs.length = n) (hn' : ds.length = n) (ho : cs.all V.one = true)
    (hK : XO P Z ops rest env L' K) (hL' : L.set id (.box cs) = L' := by ((try simp only [List.set_cons_zero, List.set_cons_succ, List.cons_append, List.nil_append]) <;> rfl)) (hsz : szT P t = some n := by rfl) :
    XO P Z ops (⟨none, .store t x y, ty, pos, af, none⟩ :: rest) env L K := X.st0 (v := .undef) (by
      rw [← hL']
      simp only [pop, pstore, hx, hy, V.cells, hsz, hL, hn, ho]
      rw [if_pos (by simp), if_pos (by simp; omega)]
      simp [setAt, hn', hn, List.drop_of_length_le (Nat.le_of_eq hn')]) hK
/-- A value is laid into a place of its own. -/
theorem X.bx (hx : St.ev ⟨env, L⟩ x = v) (hv : v.cells = cs) (ho : cs.all V.one = true) (hK : XO P Z ops rest (upd env d (.ref L.length 0)) L' K) (hL' : L ++ [.box cs] = L' := by ((try simp only [List.set_cons_zero, List.set_cons_succ, List.cons_append, List.nil_append]) <;> rfl)) :
    XO P Z ops (⟨some d, .box t x, ty, pos, af, none⟩ :: rest) env L K := X.go0 (by subst hL'; simp only [pop, hx, hv, ho, if_true]) hK
theorem ones_map (hg : ∀ a, (g a).one = true) : (l.map g).all V.one = true := by simp [hg]
end
end Go.Pv
end
section
/- Rows that are filled one by one; a new place handed back. -/
set_option linter.unusedVariables false
set_option linter.unusedSimpArgs false
namespace Go.Pv
variable {P : Program} {Z : Nat → Go.Obj → Prop}
/-- The first i are told by f; the others stay as they were. -/
def fill {α : Type} (f : Nat → α) (r : List α) (i : Nat) : List α := (List.range r.length).map fun q => if q < i then f q else r.getD q (f q)
theorem fill_len {α : Type} (f : Nat → α) (r : List α) (i : Nat) : (fill f r i).length = r.length := by simp [fill]
theorem fill_zero {α : Type} (f : Nat → α) (r : List α) : fill f r 0 = r := by
  refine List.ext_getElem (by simp [fill]) fun p h1 h2 => ?_
  simp [fill, List.getD_eq_getElem?_getD, h2]
theorem fill_all {α : Type} (f : Nat → α) (r : List α) (n : Nat) (h : r.length ≤ n) : fill f r n = (List.range r.length).map f := by
  refine List.ext_getElem (by simp [fill]) fun p h1 h2 => ?_
  have : p < n := by simp at h2; omega
  simp [fill, this]
theorem fill_step {α : Type} (f : Nat → α) (r : List α) (i : Nat) : (fill f r i).set i (f i) = fill f r (i + 1) := by
  refine List.ext_getElem (by simp [fill]) fun p h1 h2 => ?_
  rw [List.getElem_set]
  by_cases hp : i = p
  · subst hp
    rw [if_pos rfl]
    simp [fill]
  · rw [if_neg hp]
    simp only [fill, List.getElem_map, List.getElem_range]
    by_cases h : p < i
    · rw [if_pos h, if_pos (by omega)]
    · rw [if_neg h, if_neg (by omega)]
theorem fill_get {α : Type} [Inhabited α] (f : Nat → α) (r : List α) (i p : Nat) (h : p < r.length) : (fill f r i).getD p default = if p < i then f p else r.getD p default := by
  rw [List.getD_eq_getElem?_getD, List.getElem?_eq_getElem (by simp [fill]; exact h)]
  simp only [fill, List.getElem_map, List.getElem_range, Option.getD_some]
  split
  · rfl
  · rw [List.getD_eq_getElem?_getD, List.getD_eq_getElem?_getD, List.getElem?_eq_getElem h]; rfl
theorem fill_set {α : Type} (f : Nat → α) (r : List α) (i : Nat) (c : Int) (a : α) (hc : c = (i : Int)) (ha : a = f i) : (fill f r i).set c.toNat a = fill f r (i + 1) := by
  subst hc ha; exact fill_step f r i
theorem map_data {α : Type} {g : α → V} (h : ∀ a, V.lt 0 (g a) = true) : ∀ l : List α, V.lts 0 (l.map g) = true
  | [] => rfl
  | a :: l => by simp only [List.map_cons, V.lts, h a, map_data h l, Bool.and_self]
theorem sh_map {α : Type} {g : α → V} (h : ∀ a, V.lt 0 (g a) = true) (d : Nat) (l : List α) : (l.map g).map (V.sh d) = l.map g := by
  rw [List.map_map]; exact List.map_congr_left fun a _ => V.sh_data d (g a) (h a)
/-- A new place, handed back. -/
theorem SE.lift_box {f : FuncId} {args cs : List V} (h : SE P Z f args [] (.ref 0 0) [.box cs]) (L : List Obj) (ha : V.lts 0 args = true) (hc : V.lts 0 cs = true) : SE P Z f args L (.ref L.length 0) (L ++ [.box cs]) :=
  ⟨(SC.lift h.out ha L).mono fun u M ⟨u', M', ⟨h1, h2⟩, h3, h4⟩ => by
    subst h1 h2
    refine ⟨by rw [h3]; simp [V.sh], ?_⟩
    rw [h4]
    simp only [List.map_cons, List.map_nil, Obj.sh]
    have : cs.map (V.sh L.length) = cs := by
      rw [V.lts_iff] at hc
      conv => rhs; rw [← List.map_id cs]
      exact List.map_congr_left fun x hxm => V.sh_data _ _ (hc x hxm)
    rw [this]⟩
theorem g8_data (a : UInt8) : V.lt 0 (g8 a) = true := rfl
theorem all_u8' {Q : UInt8 → Prop} [DecidablePred Q] (h : ((List.range 256).all fun n => decide (Q (UInt8.ofNat n))) = true) (a : UInt8) : Q a := of_decide_eq_true (all_u8 (p := fun a => decide (Q a)) h a)
end Go.Pv
end
section
/- Loops whose rounds leave things behind: these are forgotten at each round's end. -/
set_option linter.unusedVariables false
set_option linter.unusedSimpArgs false
namespace Go.Pv
variable {P : Program} {Z : Nat → Go.Obj → Prop}
mutual
/-- A value, of which what names later objects is not told any more. -/
def V.cutv (N : Nat) : V → V
  | .agg cs => .agg (V.cutvs N cs)
  | .tup cs => .tup (V.cutvs N cs)
  | .bool b => .bool b
  | .int k n => .int k n
  | .str s => .str s
  | .nilp => .nilp
  | .nilf => .nilf
  | .nilmap => .nilmap
  | .top => .top
  | .ref id off => if id < N then .ref id off else .top
  | .eref id a b c => if id < N then .eref id a b c else .top
  | .own id a b c => if id < N then .own id a b c else .top
  | .bsl id a b => if id < N then .bsl id a b else .top
  | .yl id => if id < N then .yl id else .top
  | .map id => if id < N then .map id else .top
  | .cref cs => if V.lts N cs = true then .cref cs else .top
  | .sl n x xs => if V.lts N xs = true then .sl n x xs else .top
  | .fn f cs => if V.lts N cs = true then .fn f cs else .top
def V.cutvs (N : Nat) : List V → List V
  | [] => []
  | v :: vs => V.cutv N v :: V.cutvs N vs
end
theorem V.cutvs_eq (N : Nat) : ∀ vs : List V, V.cutvs N vs = vs.map (V.cutv N)
  | [] => rfl
  | v :: vs => by rw [V.cutvs, V.cutvs_eq N vs, List.map_cons]
theorem VR.cutv {G G' : Gh} {N : Nat} (hG : ∀ {v r}, VR G v r → V.lt N v = true → VR G' v r) {v : V} {r : Value} (h : VR G v r) : VR G' (V.cutv N v) r := by
  induction h with
  | agg hn _ ih =>
    rw [V.cutv, V.cutvs_eq]
    refine .agg (by rw [hn, List.length_map]) fun p hp => ?_
    rw [List.getElem_map]; exact ih p (by simpa using hp)
  | tup hn _ ih =>
    rw [V.cutv, V.cutvs_eq]
    refine .tup (by rw [hn, List.length_map]) fun p hp => ?_
    rw [List.getElem_map]; exact ih p (by simpa using hp)
  | bool b => exact .bool b
  | int k n => exact .int k n
  | str s => exact .str s
  | nilp => exact .nilp
  | nilf => exact .nilf
  | nilmap => exact .nilmap
  | top r h => exact .top r h
  | ref h => rw [V.cutv]; split <;> first | exact hG (.ref h) (by simp [V.lt, *]) | exact .top _ rfl
  | eref h => rw [V.cutv]; split <;> first | exact hG (.eref h) (by simp [V.lt, *]) | exact .top _ rfl
  | erefx h => rw [V.cutv]; split <;> first | exact hG (.erefx h) (by simp [V.lt, *]) | exact .top _ rfl
  | own hr hl ha => rw [V.cutv]; split <;> first | exact hG (.own hr hl ha) (by simp [V.lt, *]) | exact .top _ rfl
  | bsl h hc ha => rw [V.cutv]; split <;> first | exact hG (.bsl h hc ha) (by simp [V.lt, *]) | exact .top _ rfl
  | yl h => rw [V.cutv]; split <;> first | exact hG (.yl h) (by simp [V.lt, *]) | exact .top _ rfl
  | map h => rw [V.cutv]; split <;> first | exact hG (.map h) (by simp [V.lt, *]) | exact .top _ rfl
  | cref vs hk hv _ => rw [V.cutv]; split <;> first | exact hG (.cref vs hk hv) (by simp [V.lt, *]) | exact .top _ rfl
  | slnil => exact hG .slnil rfl
  | sl0 hx => exact hG (.sl0 hx) rfl
  | sl sz vs hne hx hc hsz hk hv _ => rw [V.cutv]; split <;> first | exact hG (.sl sz vs hne hx hc hsz hk hv) (by simp [V.lt, *]) | exact .top _ rfl
  | fn hn hv _ => rw [V.cutv]; split <;> first | exact hG (.fn hn hv) (by simp [V.lt, *]) | exact .top _ rfl
/-- What is left when objects from N on are forgotten. -/
def Cut (N : Nat) (J : St → Prop) (s : St) : Prop := ∃ L' B, s.L = L' ++ B ∧ L'.length = N ∧ (∀ ob ∈ L', objLts N ob) ∧ J ⟨fun t => V.cutv N (s.env t), L'⟩
def lpF (N : Nat) (J : Nat → St → Prop) (k : Nat) (Q : Ex → St → Prop) : Ex → St → Prop
  | .normal, s => ∃ k', k' < k ∧ Cut N (J k') s
  | e, s => Q e s
theorem SW.loopF {r : Option Nat} {n : Nat} {Q : Ex → St → Prop} {st : St} {c : Code} (I : Nat → St → Prop) (k : Nat) (h₀ : I k st) (round : ∀ k s, I k s → SW P Z r n c (lpF st.L.length I k Q) s) : SW P Z r n (.loop c) Q st := by
  intro N0 G a w hN hs
  refine .loop (fun k a' w' => ∃ st' G', I k st' ∧ st'.L.length = st.L.length ∧ SR Z N0 n G' st' a' w' ∧ Evo G st.L w G' st'.L w') k ⟨st, G, h₀, rfl, hs, .refl _ _ _⟩ ?_
  rintro k a' w' ⟨st', G', hI, hlen, hs', he⟩
  refine (round k st' hI N0 G' a' w' (Nat.le_trans hN he.size) hs').mono fun e a2 w2 ⟨st2, G2, k1, k2, k3⟩ => ?_
  cases e with
  | exit _ => exact ⟨st2, G2, k1, k2, he.trans k3⟩
  | ret => exact ⟨st2, G2, k1, k2, he.trans k3⟩
  | normal =>
    obtain ⟨k', hk, L', B, hL, hl, hob, hJ⟩ := k1
    obtain ⟨env2, L2⟩ := st2
    simp only at hL
    subst hL
    have he2 := he.trans k3
    obtain ⟨G3, f1, f2, f3, _⟩ := k2.rel.forget he2 (fun id g l h => by rw [hl]; exact hs.rel.rl id g l h) (fun id ob hid => by rw [hl]; exact hob ob (List.mem_of_getElem? hid)) (by
      intro b hb hn
      obtain ⟨id, ob, h1, h2⟩ := hb
      by_cases hid : id < L'.length
      · refine (hn ⟨id, ob, by rwa [List.getElem?_append_left hid] at h1, ?_⟩).elim
        exact h2.imp (fun h => ⟨h, hid⟩) (fun ⟨c, s, h⟩ => ⟨c, s, h, hid⟩)
      · rcases he2.heldi id ob b h1 h2 with ⟨ob0, h3, _⟩ | h3
        · have := (List.getElem?_eq_some_iff.1 h3).1
          omega
        · exact h3)
    rw [hl] at f3
    exact ⟨k', hk, ⟨fun t => V.cutv st.L.length (env2 t), L'⟩, G3, hJ, hl, k2.rel' f1 (fun t ht => (k2.tm t ht).cutv f3), f2⟩
section
variable {r : Option Nat} {n : Nat} {Q : Ex → St → Prop} {env : Nat → V} {L : List Obj} {i : Nat}
theorem W.lpF {c : Code} (J : Nat → St → Prop) (k : Nat) (h₀ : J k ⟨env, L⟩) (round : ∀ k env L1, J k ⟨env, L1⟩ → CW P Z r n c (lpF L.length J k Q) env L1) : CW P Z r n (.loop c) Q env L :=
  ⟨SW.loopF J k h₀ (fun k s hs => (round k s.env s.L hs).out)⟩
theorem K.fe {N : Nat} {J : Nat → St → Prop} {k : Nat} (h : KO Q (.exit i) env L) : KO (Go.Pv.lpF N J k Q) (.exit i) env L := ⟨h.out⟩
theorem K.fr {N : Nat} {J : Nat → St → Prop} {k : Nat} (h : KO Q .ret env L) : KO (Go.Pv.lpF N J k Q) .ret env L := ⟨h.out⟩
theorem K.fn {N : Nat} {J : Nat → St → Prop} {k : Nat} (k' : Nat) (hk : k' < k) (L' B : List Obj) (hL : L = L' ++ B) (hl : L'.length = N) (hob : ∀ ob ∈ L', objLts N ob) (h : J k' ⟨fun t => V.cutv N (env t), L'⟩) : KO (Go.Pv.lpF N J k Q) .normal env L :=
  ⟨k', hk, L', B, hL, hl, hob, h⟩
end
theorem lts_le {n m : Nat} (h : n ≤ m) {vs : List V} (hv : V.lts n vs = true) : V.lts m vs = true := by
  rw [V.lts_iff] at hv ⊢; exact fun v hm => V.lt_mono h v (hv v hm)
theorem cutv_sl {N : Nat} {nl x : Bool} {xs : List V} (h : V.lts 0 xs = true) : V.cutv N (.sl nl x xs) = .sl nl x xs := by
  rw [V.cutv, if_pos (lts_le (Nat.zero_le _) h)]
theorem cutv_cref {N : Nat} {xs : List V} (h : V.lts 0 xs = true) : V.cutv N (.cref xs) = .cref xs := by
  rw [V.cutv, if_pos (lts_le (Nat.zero_le _) h)]
theorem obs_nil {n : Nat} : ∀ ob ∈ ([] : List Obj), objLts n ob := fun _ h => by simp at h
theorem obs_cons {n : Nat} {ob : Obj} {L : List Obj} (h : objLts n ob) (hs : ∀ o ∈ L, objLts n o) : ∀ o ∈ ob :: L, objLts n o := fun o ho => by
  rcases List.mem_cons.1 ho with rfl | ho
  · exact h
  · exact hs o ho
theorem ob_box {n : Nat} {cs : List V} (h : V.lts 0 cs = true) : objLts n (.box cs) := lts_le (Nat.zero_le _) h
theorem ob_buf {n sz m : Nat} {cs : List V} (h : V.lts 0 cs = true) : objLts n (.buf sz m cs) := lts_le (Nat.zero_le _) h
end Go.Pv
end
section
/- Functions that hand back an array out of its place. -/
set_option linter.unusedVariables false
set_option linter.unusedSimpArgs false
namespace Go.Pv
variable {P : Program} {Z : Nat → Go.Obj → Prop}
theorem resV_cell {env : Nat → V} {L : List Obj} {a : Tmp} {t : TypeId} {id n : Nat} {cs : List V} (ha : env a = .ref id 0) (hL : L[id]? = some (.box cs)) (hn : cs.length = n) (hsz : szT P t = some n := by rfl) (hg : aggT P t = some true := by rfl) :
    resV P ⟨env, L⟩ [.cell a t] = some (.agg cs) := by
  have : pload P L t (env a) = some (.agg cs) := by
    simp only [pload, pcells, ha, hL, hsz, hg, List.drop_zero]
    rw [if_pos (by omega), List.take_of_length_le (by omega)]
  simp [resV, resVs, resV1, this]
theorem frzs_data {n : Nat} {L : List Obj} : ∀ {vs : List V}, V.lts 0 vs = true → frzs n L vs = some vs
  | [], _ => rfl
  | v :: vs, h => by
    simp only [V.lts, Bool.and_eq_true] at h
    have h1 : frz1 n L v = some v := by
      unfold frz1
      split
      · simp [V.lt] at h
      · simp [V.lt] at h
      · rw [if_pos h.1]
    rw [frzs, h1, frzs_data h.2]
theorem frz_agg {n : Nat} {L : List Obj} {cs : List V} (h : V.lts 0 cs = true) : frz n L (.agg cs) = some (.agg cs) := by
  rw [frz, frzs_data h]; rfl
theorem agg_data {cs : List V} (h : V.lts 0 cs = true) : V.lt 0 (.agg cs) = true := h
end Go.Pv
namespace Go.Pv
section
variable {P : Program} {Z : Nat → Go.Obj → Prop} {ops : Array Oper} {rest : List Oper} {env : Nat → V} {L L' : List Obj} {K : St → Prop} {d : Tmp} {ty : TypeId} {pos : String} {af : Array Edge} {v : V} {f : Operand} {args : Array Operand} {ats : Array TypeId} {g : FuncId} {caps as : List V}
/-- A call of a function value. -/
theorem X.callf (hf : St.ev ⟨env, L⟩ f = .fn g caps) (ha : args.toList.map (St.ev ⟨env, L⟩) = as) (h : SE P Z g (as ++ caps) L v L') (hK : XO P Z ops rest (upd env d v) L' K) :
    XO P Z ops (⟨some d, .call ⟨.value f, args, ats⟩, ty, pos, af, none⟩ :: rest) env L K :=
  X.callv hf ha (CallV.of_SC (h.out.mono fun u M ⟨h1, h2⟩ => by subst h1 h2; exact hK))
theorem A.callf (hf : St.ev ⟨env, L⟩ f = .fn g caps) (ha : args.toList.map (St.ev ⟨env, L⟩) = as) (h : SE P Z g (as ++ caps) L v L) (hK : AO P Z ops rest (upd env d v) L K) :
    AO P Z ops (⟨some d, .call ⟨.value f, args, ats⟩, ty, pos, af, none⟩ :: rest) env L K :=
  A.callv hf ha (CallV.of_SC h.out) hK
variable {t : TypeId} {x : Operand} {α : Type} [Inhabited α] {g' : α → V} {l : List α} {n o : Nat}
/-- A whole array is read out of a row of cells. -/
theorem pop_ldS (hx : St.ev ⟨env, L⟩ x = .cref ((l.map g').drop o)) (h : o + n ≤ l.length) (hsz : szT P t = some n) (ha : aggT P t = some true) : pop P L (St.ev ⟨env, L⟩) (.load t x) = some (.agg (((l.drop o).take n).map g'), L) := by
  simp only [pop, pload, pcells, hx, hsz, ha]
  rw [if_pos (by simp; omega)]
  simp [List.map_drop, List.map_take]
theorem X.ldS (hx : St.ev ⟨env, L⟩ x = .cref ((l.map g').drop o)) (h : o + n ≤ l.length) (hK : XO P Z ops rest (upd env d (.agg (((l.drop o).take n).map g'))) L K) (hsz : szT P t = some n := by rfl) (ha : aggT P t = some true := by rfl) :
    XO P Z ops (⟨some d, .load t x, ty, pos, af, none⟩ :: rest) env L K := X.go0 (pop_ldS hx h hsz ha) hK
theorem A.ldS (hx : St.ev ⟨env, L⟩ x = .cref ((l.map g').drop o)) (h : o + n ≤ l.length) (hK : AO P Z ops rest (upd env d (.agg (((l.drop o).take n).map g'))) L K) (hsz : szT P t = some n := by rfl) (ha : aggT P t = some true := by rfl) :
    AO P Z ops (⟨some d, .load t x, ty, pos, af, none⟩ :: rest) env L K := A.go0 (pop_ldS hx h hsz ha) hK
end
end Go.Pv
end
section
/- Copies into an array; parts of an array read and written. -/
set_option linter.unusedVariables false
set_option linter.unusedSimpArgs false
set_option linter.unusedSectionVars false
namespace Go.Pv
variable {P : Program} {Z : Nat → Go.Obj → Prop}
section
variable {ops : Array Oper} {rest : List Oper} {env : Nat → V} {L L' : List Obj} {K : St → Prop} {d : Tmp} {ty t e : TypeId} {pos : String} {af : Array Edge} {x y : Operand} {ats : Array TypeId} {α : Type} [Inhabited α] {g : α → V} {l ys l' : List α} {id n o len : Nat} {nl ex : Bool}
theorem flat_map {g : α → V} (hg : ∀ a, (g a).cells = [g a]) : ∀ l : List α, flat (l.map g) = l.map g
  | [] => rfl
  | a :: l => by rw [List.map_cons, flat_cons, hg a, flat_map hg l]; rfl
/-- copy into an array's part. -/
theorem X.cpB (l' : List α) (hx : St.ev ⟨env, L⟩ x = .bsl id o len) (hy : St.ev ⟨env, L⟩ y = .sl nl ex (ys.map g)) (hL : L[id]? = some (.box (l.map g))) (hl : o + len ≤ l.length) (hg : ∀ a, (g a).cells = [g a]) (ho : ∀ a, (g a).one = true)
    (hl' : l.take o ++ ys.take len ++ l.drop (o + min len ys.length) = l') (hK : XO P Z ops rest (upd env d (.int .i64 (min ys.length len : Nat))) L' K) (hL' : L.set id (.box (l'.map g)) = L' := by ((try simp only [List.set_cons_zero, List.set_cons_succ, List.cons_append, List.nil_append]) <;> rfl))
    (ht : ats[0]? = some t := by rfl) (hte : P.underlying t = some (.slice e) := by rfl) (hsz : szT P e = some 1 := by rfl) :
    XO P Z ops (⟨some d, .call ⟨.builtin .copy, #[x, y], ats⟩, ty, pos, af, none⟩ :: rest) env L K := X.go0 (by
      subst hL' hl'
      have h1 : (ys.map g).all (fun y => y.cells.length == 1 && y.cells.all V.one) = true := by simp [hg, ho]
      simp only [pop, pbuiltin, List.map_cons, List.map_nil, hx, hy, ht, pcopy, hte, hsz, elems]
      rw [if_pos ⟨by decide, h1⟩]
      simp only [hL]
      rw [if_pos ⟨by simpa using hl, trivial⟩]
      rw [← List.map_take, flat_map hg]
      simp only [List.length_map, setAt, List.length_take, List.map_append, List.map_take, List.map_drop]) hK
/-- A whole array is read out of a part of a place. -/
theorem pop_ldP (hx : St.ev ⟨env, L⟩ x = .ref id o) (hL : L[id]? = some (.box (l.map g))) (h : o + n ≤ l.length) (hsz : szT P t = some n) (ha : aggT P t = some true) : pop P L (St.ev ⟨env, L⟩) (.load t x) = some (.agg (((l.drop o).take n).map g), L) := by
  simp only [pop, pload, pcells, hx, hL, hsz, ha]
  rw [if_pos (by simp; omega)]
  simp [List.map_drop, List.map_take]
theorem X.ldP (hx : St.ev ⟨env, L⟩ x = .ref id o) (hL : L[id]? = some (.box (l.map g))) (h : o + n ≤ l.length) (hK : XO P Z ops rest (upd env d (.agg (((l.drop o).take n).map g))) L K) (hsz : szT P t = some n := by rfl) (ha : aggT P t = some true := by rfl) :
    XO P Z ops (⟨some d, .load t x, ty, pos, af, none⟩ :: rest) env L K := X.go0 (pop_ldP hx hL h hsz ha) hK
theorem A.ldP (hx : St.ev ⟨env, L⟩ x = .ref id o) (hL : L[id]? = some (.box (l.map g))) (h : o + n ≤ l.length) (hK : AO P Z ops rest (upd env d (.agg (((l.drop o).take n).map g))) L K) (hsz : szT P t = some n := by rfl) (ha : aggT P t = some true := by rfl) :
    AO P Z ops (⟨some d, .load t x, ty, pos, af, none⟩ :: rest) env L K := A.go0 (pop_ldP hx hL h hsz ha) hK
theorem X.ldQ (k : List α) (hx : St.ev ⟨env, L⟩ x = .ref id o) (hL : L[id]? = some (.box (l.map g))) (h : o + n ≤ l.length) (hk : (l.drop o).take n = k) (hK : XO P Z ops rest (upd env d (.agg (k.map g))) L K) (hsz : szT P t = some n := by rfl) (ha : aggT P t = some true := by rfl) :
    XO P Z ops (⟨some d, .load t x, ty, pos, af, none⟩ :: rest) env L K := X.ldP hx hL h (by rw [hk]; exact hK) hsz ha
theorem A.ldQ (k : List α) (hx : St.ev ⟨env, L⟩ x = .ref id o) (hL : L[id]? = some (.box (l.map g))) (h : o + n ≤ l.length) (hk : (l.drop o).take n = k) (hK : AO P Z ops rest (upd env d (.agg (k.map g))) L K) (hsz : szT P t = some n := by rfl) (ha : aggT P t = some true := by rfl) :
    AO P Z ops (⟨some d, .load t x, ty, pos, af, none⟩ :: rest) env L K := A.ldP hx hL h (by rw [hk]; exact hK) hsz ha
end
theorem W.lq {r : Option Nat} {n : Nat} {Q : Ex → St → Prop} {env : Nat → V} {L : List Obj} {c : Code} (J : Nat → St → Prop) (h₀ : ∃ k, J k ⟨env, L⟩) (round : ∀ k env L, J k ⟨env, L⟩ → CW P Z r n c (lpK J k Q) env L) : CW P Z r n (.loop c) Q env L :=
  h₀.elim fun k h => W.lp J k h round
theorem W.lqF {r : Option Nat} {n : Nat} {Q : Ex → St → Prop} {env : Nat → V} {L : List Obj} {c : Code} (N : Nat) (J : Nat → St → Prop) (h₀ : ∃ k, J k ⟨env, L⟩) (round : ∀ k env L1, J k ⟨env, L1⟩ → CW P Z r n c (Go.Pv.lpF N J k Q) env L1) (hN : L.length = N := by rfl) : CW P Z r n (.loop c) Q env L :=
  h₀.elim fun k h => W.lpF J k h (by rw [hN]; exact round)
end Go.Pv
end
