import Derived.Test.YtfjkplemepcmeaaG3
set_option linter.unusedVariables false
set_option linter.unusedSimpArgs false
set_option linter.unusedSectionVars false
section
/- Aes: the plain functions. -/
namespace Go.Proofs.Aes
open Go.Pv
def xt (a : UInt8) : UInt8 := (a <<< 1) ^^^ ((a >>> 7) * 27)
def mulF : Nat → UInt8 → UInt8 → UInt8 → UInt8
  | 0, _, _, o => o
  | f + 1, a, b, o => mulF f (xt a) (b >>> 1) (if b &&& 1 = 1 then o ^^^ a else o)
def mulU (a b : UInt8) : UInt8 := mulF 8 a b 0
def powF : Nat → Nat → UInt8 → UInt8 → UInt8
  | 0, _, o, _ => o
  | f + 1, n, o, x => powF f (n / 2) (if n % 2 = 1 then mulU o x else o) (mulU x x)
def invU (x : UInt8) : UInt8 := powF 8 254 1 x
def rotU (x : UInt8) (k : UInt8) : UInt8 := (x <<< k) ||| (x >>> (8 - k))
def turnU (y : UInt8) : UInt8 := y ^^^ 99 ^^^ rotU y 1 ^^^ rotU y 2 ^^^ rotU y 3 ^^^ rotU y 4
def boxU (x : UInt8) : UInt8 := turnU (invU x)
def boxL : List UInt8 := (List.range 256).map fun i => boxU (UInt8.ofNat i)
theorem mulF_zero : ∀ (f : Nat) (a o : UInt8), mulF f a 0 o = o
  | 0, _, _ => rfl
  | f + 1, a, o => by
    rw [mulF, if_neg (by decide)]
    exact mulF_zero f _ _
section raw
open Go
theorem xt_raw (a : UInt8) : IntKind.u8.wrap ((BitVec.ofInt IntKind.u8.bits (IntKind.u8.wrap ((a.toNat : Int) * 2 ^ min (Int.toNat 1) IntKind.u8.bits)) ^^^ BitVec.ofInt IntKind.u8.bits (IntKind.u8.wrap (((a.toNat : Int)).fdiv (2 ^ min (Int.toNat 7) IntKind.u8.bits) * 27))).toNat : Nat) = ((xt a).toNat : Int) :=
  eq_of_beq (all_u8 (p := fun a => IntKind.u8.wrap ((BitVec.ofInt IntKind.u8.bits (IntKind.u8.wrap ((a.toNat : Int) * 2 ^ min (Int.toNat 1) IntKind.u8.bits)) ^^^ BitVec.ofInt IntKind.u8.bits (IntKind.u8.wrap (((a.toNat : Int)).fdiv (2 ^ min (Int.toNat 7) IntKind.u8.bits) * 27))).toNat : Nat) == ((xt a).toNat : Int)) (by kernel_rfl) a)
theorem shr1_raw (a : UInt8) : ((a.toNat : Int)).fdiv (2 ^ min (Int.toNat 1) IntKind.u8.bits) = ((a >>> 1).toNat : Int) :=
  eq_of_beq (all_u8 (p := fun a => ((a.toNat : Int)).fdiv (2 ^ min (Int.toNat 1) IntKind.u8.bits) == ((a >>> 1).toNat : Int)) (by kernel_rfl) a)
theorem shr1_nat (a : UInt8) : (a >>> 1).toNat = a.toNat / 2 := eq_of_beq (all_u8 (p := fun a => (a >>> 1).toNat == a.toNat / 2) (by kernel_rfl) a)
theorem and1_nat (a : UInt8) : (a &&& 1).toNat = a.toNat % 2 := eq_of_beq (all_u8 (p := fun a => (a &&& 1).toNat == a.toNat % 2) (by kernel_rfl) a)
theorem and1_iff (a : UInt8) : a &&& 1 = 1 ↔ a.toNat % 2 = 1 := by
  rw [← and1_nat, ← UInt8.toNat_inj]; rfl
theorem xt_nat (a : UInt8) : (xt a).toNat = if 255 < 2 * a.toNat then (2 * a.toNat) ^^^ 283 else 2 * a.toNat :=
  eq_of_beq (all_u8 (p := fun a => (xt a).toNat == if 255 < 2 * a.toNat then (2 * a.toNat) ^^^ 283 else 2 * a.toNat) (by kernel_rfl) a)
theorem mulF_step {i : Nat} (h : i < 8) (a b o : UInt8) : mulF (8 - i) a b o = mulF (8 - (i + 1)) (xt a) (b >>> 1) (if b.toNat % 2 = 1 then o ^^^ a else o) := by
  rw [show 8 - i = (8 - (i + 1)) + 1 by omega, mulF]
  simp only [and1_iff]
end raw
end Go.Proofs.Aes
namespace Go.Proofs.Aes
open Go.Pv
/-! states: 16 bytes -/
def addS (s k : List UInt8) : List UInt8 := (List.range 16).map fun (q : Nat) => rd s q ^^^ rd k q
def shiftB (s : List UInt8) (q : Nat) : UInt8 := rd boxL ((rd s (((q : Int) + 4 * ((q : Int) % 4)) % 16)).toNat : Int)
def shiftS (s : List UInt8) : List UInt8 := (List.range 16).map (shiftB s)
def mixB (s : List UInt8) (q : Nat) : UInt8 :=
  mulU (rd s ((q : Int) / 4 * 4 + ((q : Int) + 0) % 4)) 2 ^^^ mulU (rd s ((q : Int) / 4 * 4 + ((q : Int) + 1) % 4)) 3 ^^^ rd s ((q : Int) / 4 * 4 + ((q : Int) + 2) % 4) ^^^ rd s ((q : Int) / 4 * 4 + ((q : Int) + 3) % 4)
def mixS (s : List UInt8) : List UInt8 := (List.range 16).map (mixB s)
/-- A round's key. -/
def rk (K : List UInt8) (n : Nat) : List UInt8 := (K.drop (n * 16)).take 16
def lockF (K s : List UInt8) : Nat → List UInt8
  | 0 => addS s (rk K 0)
  | n + 1 => addS (if n + 1 < 10 then mixS (shiftS (lockF K s n)) else shiftS (lockF K s n)) (rk K (n + 1))
def lockS (K s : List UInt8) : List UInt8 := lockF K s 10
theorem rk_len {K : List UInt8} (hK : K.length = 176) {n : Nat} (hn : n ≤ 10) : (rk K n).length = 16 := by simp [rk, hK]; omega
theorem boxL_len : boxL.length = 256 := by simp [boxL]
theorem addS_len (s k : List UInt8) : (addS s k).length = 16 := by simp [addS]
theorem shiftS_len (s : List UInt8) : (shiftS s).length = 16 := by simp [shiftS]
theorem mixS_len (s : List UInt8) : (mixS s).length = 16 := by simp [mixS]
theorem lockF_len (K s : List UInt8) (n : Nat) : (lockF K s n).length = 16 := by cases n <;> exact addS_len _ _
end Go.Proofs.Aes
end
section
/- Aes: the laws of products. -/
set_option maxRecDepth 100000
namespace Go.Proofs.Aes
open Go.Pv
theorem x4 (a b c d : UInt8) : (a ^^^ b) ^^^ (c ^^^ d) = (a ^^^ c) ^^^ (b ^^^ d) := by
  rw [UInt8.xor_assoc, ← UInt8.xor_assoc b c d, UInt8.xor_comm b c, UInt8.xor_assoc c b d, ← UInt8.xor_assoc]
def lin (f : UInt8 → UInt8) : Prop := ∀ x y, f (x ^^^ y) = f x ^^^ f y
def bits : List UInt8 := [1, 2, 4, 8, 16, 32, 64, 128]
theorem lin.zero {f : UInt8 → UInt8} (h : lin f) : f 0 = 0 := by
  have := h 0 0
  rw [UInt8.xor_self] at this
  have h2 := congrArg (· ^^^ f 0) this
  simpa [UInt8.xor_assoc, UInt8.xor_self, UInt8.xor_zero] using h2.symm
theorem split8 (x : UInt8) : x = (x &&& 1) ^^^ (x &&& 2) ^^^ (x &&& 4) ^^^ (x &&& 8) ^^^ (x &&& 16) ^^^ (x &&& 32) ^^^ (x &&& 64) ^^^ (x &&& 128) :=
  eq_of_beq (all_u8 (p := fun x => x == (x &&& 1) ^^^ (x &&& 2) ^^^ (x &&& 4) ^^^ (x &&& 8) ^^^ (x &&& 16) ^^^ (x &&& 32) ^^^ (x &&& 64) ^^^ (x &&& 128)) (by kernel_rfl) x)
theorem bit_or (x : UInt8) : ∀ b ∈ bits, x &&& b = 0 ∨ x &&& b = b := by
  have h : (bits.all fun b => (x &&& b == 0 || x &&& b == b)) = true := all_u8 (p := fun x => bits.all fun b => (x &&& b == 0 || x &&& b == b)) (by kernel_rfl) x
  intro b hb
  have := List.all_eq_true.1 h b hb
  simpa using this
theorem lin.null {f : UInt8 → UInt8} (h : lin f) (hb : ∀ b ∈ bits, f b = 0) (x : UInt8) : f x = 0 := by
  have key : ∀ b ∈ bits, f (x &&& b) = 0 := fun b hm => by
    rcases bit_or x b hm with e | e <;> rw [e]
    · exact h.zero
    · exact hb b hm
  rw [split8 x, h, h, h, h, h, h, h, key 1 (by simp [bits]), key 2 (by simp [bits]), key 4 (by simp [bits]), key 8 (by simp [bits]), key 16 (by simp [bits]), key 32 (by simp [bits]), key 64 (by simp [bits]), key 128 (by simp [bits])]
  rfl
theorem xor_eq_zero {a b : UInt8} (h : a ^^^ b = 0) : a = b := by
  have := congrArg (· ^^^ b) h
  simpa [UInt8.xor_assoc, UInt8.xor_self, UInt8.xor_zero] using this
theorem lin.eq {f g : UInt8 → UInt8} (hf : lin f) (hg : lin g) (hb : ∀ b ∈ bits, f b = g b) (x : UInt8) : f x = g x :=
  xor_eq_zero (lin.null (f := fun x => f x ^^^ g x) (fun x y => by simp only [hf x y, hg x y]; exact x4 _ _ _ _) (fun b h => by simp only [hb b h]; exact UInt8.xor_self) x)
theorem par (b : UInt8) : b &&& 1 = 0 ∨ b &&& 1 = 1 := bit_or b 1 (by simp [bits])
theorem par_xor (b c : UInt8) : (b ^^^ c) &&& 1 = (b &&& 1) ^^^ (c &&& 1) := by
  rw [← UInt8.toBitVec_inj]
  simp only [UInt8.toBitVec_and, UInt8.toBitVec_xor]
  ext i hi
  simp
  cases b.toBitVec[i] <;> cases c.toBitVec[i] <;> simp
theorem mulF_linR : ∀ (f : Nat) (a b c o p : UInt8), mulF f a (b ^^^ c) (o ^^^ p) = mulF f a b o ^^^ mulF f a c p
  | 0, _, _, _, _, _ => rfl
  | f + 1, a, b, c, o, p => by
    rw [mulF, mulF, mulF, UInt8.shiftRight_xor, ← mulF_linR f, par_xor]
    congr 1
    rcases par b with hb | hb <;> rcases par c with hc | hc <;> rw [hb, hc]
    · rw [if_neg (by decide), if_neg (by decide), if_neg (by decide)]
    · rw [if_pos (by decide), if_neg (by decide), if_pos (by decide), UInt8.xor_assoc]
    · rw [if_pos (by decide), if_pos (by decide), if_neg (by decide), UInt8.xor_assoc, UInt8.xor_comm p a, ← UInt8.xor_assoc]
    · rw [if_neg (by decide), if_pos (by decide), if_pos (by decide), x4, UInt8.xor_self, UInt8.xor_zero]
theorem lin_xt : lin xt := by
  have h27 : lin fun a => (a >>> 7) * 27 := by
    intro x y
    simp only [UInt8.shiftRight_xor]
    have h7 : ∀ x : UInt8, (x >>> 7 == 0 || x >>> 7 == 1) = true := all_u8 (by kernel_rfl)
    have h1 := h7 x
    have h2 := h7 y
    simp only [Bool.or_eq_true, beq_iff_eq] at h1 h2
    rcases h1 with h1 | h1 <;> rcases h2 with h2 | h2 <;> rw [h1, h2] <;> rfl
  intro x y
  unfold xt
  have h2 := h27 x y
  dsimp only at h2
  rw [UInt8.shiftLeft_xor, h2, x4]
theorem mulF_linL : ∀ (f : Nat) (a b c o p : UInt8), mulF f (a ^^^ b) c (o ^^^ p) = mulF f a c o ^^^ mulF f b c p
  | 0, _, _, _, _, _ => rfl
  | f + 1, a, b, c, o, p => by
    rw [mulF, mulF, mulF, lin_xt a b, ← mulF_linL f]
    congr 1
    by_cases h : c &&& 1 = 1
    · rw [if_pos h, if_pos h, if_pos h, x4]
    · rw [if_neg h, if_neg h, if_neg h]
theorem mul_xor (a b c : UInt8) : mulU a (b ^^^ c) = mulU a b ^^^ mulU a c := by
  unfold mulU
  have := mulF_linR 8 a b c 0 0
  rwa [UInt8.xor_self] at this
theorem xor_mul (a b c : UInt8) : mulU (a ^^^ b) c = mulU a c ^^^ mulU b c := by
  unfold mulU
  have := mulF_linL 8 a b c 0 0
  rwa [UInt8.xor_self] at this
theorem mul_comm (a b : UInt8) : mulU a b = mulU b a := by
  have hb : (bits.all fun x => bits.all fun y => mulU x y == mulU y x) = true := by kernel_rfl
  refine lin.eq (f := fun b => mulU a b) (g := fun b => mulU b a) (fun x y => mul_xor a x y) (fun x y => xor_mul x y a) (fun e he => ?_) b
  refine lin.eq (f := fun a => mulU a e) (g := fun a => mulU e a) (fun x y => xor_mul x y e) (fun x y => mul_xor e x y) (fun d hd => ?_) a
  exact eq_of_beq (List.all_eq_true.1 (List.all_eq_true.1 hb d hd) e he)
theorem mul_assoc (a b c : UInt8) : mulU (mulU a b) c = mulU a (mulU b c) := by
  have hb : (bits.all fun x => bits.all fun y => bits.all fun z => mulU (mulU x y) z == mulU x (mulU y z)) = true := by kernel_rfl
  refine lin.eq (f := fun c => mulU (mulU a b) c) (g := fun c => mulU a (mulU b c)) (fun x y => mul_xor _ x y) (fun x y => by simp only [mul_xor]) (fun e he => ?_) c
  refine lin.eq (f := fun b => mulU (mulU a b) e) (g := fun b => mulU a (mulU b e)) (fun x y => by simp only [mul_xor, xor_mul]) (fun x y => by simp only [mul_xor, xor_mul]) (fun d hd => ?_) b
  refine lin.eq (f := fun a => mulU (mulU a d) e) (g := fun a => mulU a (mulU d e)) (fun x y => by simp only [xor_mul]) (fun x y => by simp only [xor_mul]) (fun q hq => ?_) a
  exact eq_of_beq (List.all_eq_true.1 (List.all_eq_true.1 (List.all_eq_true.1 hb q hq) d hd) e he)
theorem mul_one (a : UInt8) : mulU a 1 = a :=
  lin.eq (f := fun a => mulU a 1) (g := fun a => a) (fun x y => xor_mul x y 1) (fun _ _ => rfl) (fun e he => by
    have hb : (bits.all fun x => mulU x 1 == x) = true := by kernel_rfl
    exact eq_of_beq (List.all_eq_true.1 hb e he)) a
theorem mul_zero (a : UInt8) : mulU a 0 = 0 := lin.zero (f := fun b => mulU a b) (fun x y => mul_xor a x y)
theorem mul_inv0 (x : UInt8) : (x == 0 || mulU x (invU x) == 1) = true := all_u8 (p := fun x => x == 0 || mulU x (invU x) == 1) (by kernel_rfl) x
theorem mul_inv {x : UInt8} (h : x ≠ 0) : mulU x (invU x) = 1 := by
  have := mul_inv0 x
  simp only [Bool.or_eq_true, beq_iff_eq] at this
  exact this.resolve_left h
theorem mul_one_iff (x q : UInt8) : mulU x q = 1 ↔ x ≠ 0 ∧ q = invU x := by
  constructor
  · intro h
    have hx : x ≠ 0 := fun h0 => by rw [h0, mul_comm, mul_zero] at h; exact absurd h (by decide)
    refine ⟨hx, ?_⟩
    have h1 : mulU (mulU x q) (invU x) = invU x := by rw [h, mul_comm, mul_one]
    rw [mul_comm x q, mul_assoc, mul_inv hx, mul_one] at h1
    exact h1
  · rintro ⟨h, rfl⟩; exact mul_inv h
theorem inv_zero : invU 0 = 0 := by decide +kernel
theorem inv_ne {x : UInt8} (h : x ≠ 0) : invU x ≠ 0 := fun h0 => by
  have := mul_inv h
  rw [h0, mul_zero] at this
  exact absurd this (by decide)
end Go.Proofs.Aes
end
