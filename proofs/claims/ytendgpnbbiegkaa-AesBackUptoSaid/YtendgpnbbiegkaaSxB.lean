/-
  The values of operations that leave the world alone: whole numbers of each kind, bools, pointers, fields, indexes.
-/
import Derived.Test.YtendgpnbbiegkaaSxA
set_option linter.all false
set_option linter.unusedSimpArgs false
set_option linter.unusedVariables false
namespace Go.Proofs.Ytendgpnbbiegkaa.Sx
open Go

theorem wrap_i64 (z : Int) (h1 : -9223372036854775808 ≤ z) (h2 : z < 9223372036854775808) : IntKind.i64.wrap z = z := by
  show (if (true && decide (z % 18446744073709551616 ≥ 9223372036854775808)) = true then z % 18446744073709551616 - 18446744073709551616 else z % 18446744073709551616) = z
  split
  · rename_i h; simp at h; omega
  · rename_i h; simp at h; omega

section
variable {C : Ctx} {E : World} {ρ : Env} {L : Hs}

theorem Yl.move {x : Operand} {v : Value} (hx : ev ρ x = some v) : Yl C E (.move x) ρ L v := by
  intro d t p af g f w hf _
  simp [execOp, hf _ _ hx]
theorem Yl.assign {x : Operand} {v : Value} (hx : ev ρ x = some v) : Yl C E (.assign x) ρ L v := by
  intro d t p af g f w hf _
  simp [execOp, hf _ _ hx]
theorem Yl.pickT {c x y : Operand} {v : Value} (hc : ev ρ c = some (.bool true)) (hx : ev ρ x = some v) : Yl C E (.pick c x y) ρ L v := by
  intro d t p af g f w hf _
  simp [execOp, hf _ _ hx, hf _ _ hc, asBool]
theorem Yl.pickF {c x y : Operand} {v : Value} (hc : ev ρ c = some (.bool false)) (hx : ev ρ y = some v) : Yl C E (.pick c x y) ρ L v := by
  intro d t p af g f w hf _
  simp [execOp, hf _ _ hx, hf _ _ hc, asBool]
theorem Yl.nilCheck {x : Operand} {a : Addr} (hx : ev ρ x = some (.pointer (some a))) : Yl C E (.nilCheck x) ρ L (.pointer (some a)) := by
  intro d t p af g f w hf _
  simp [execOp, hf _ _ hx]
theorem Yl.extract {x : Operand} {i : Nat} {vs : Array Value} {v : Value} (hx : ev ρ x = some (.tuple vs)) (hi : nth vs.toList i = some v) : Yl C E (.extract x i) ρ L v := by
  intro d t p af g f w hf _
  have : vs[i]? = some v := by rw [nth_eq] at hi; simpa using hi
  simp [execOp, hf _ _ hx, Instr.extract, this]

/-- A binary operation by what it comes to on values. -/
def Bin (C : Ctx) (op : BinOp) (T : TypeId) (u v r : Value) : Prop := ∀ (x y : Operand) (w : World), ((do eqGuard op T x y u v; binOp op T u v) : Sem Value).run C.P w = .ok r w
theorem Yl.bin {op : BinOp} {T T' : TypeId} {x y : Operand} {u v r : Value} (hx : ev ρ x = some u) (hy : ev ρ y = some v) (h : Bin C op T u v r) : Yl C E (.binOp op T x y T') ρ L r := by
  intro d t p af g f w hf _
  have := h x y w
  simp only [execOp, hf _ _ hx, hf _ _ hy, Sem.run_bind] at this ⊢
  rw [this]; rfl

/-! ### Whole numbers of the kind int -/
theorem Bin.intArith {op : BinOp} {T : TypeId} {k : IntKind} {a b c : Int} (h : ∀ w, (binOp op T (.int k a) (.int k b)).run C.P w = .ok (.int k c) w) : Bin C op T (.int k a) (.int k b) (.int k c) := by
  intro x y w
  have e : (eqGuard op T x y (.int k a) (.int k b)).run C.P w = .ok () w := by
    unfold eqGuard; cases op <;> simp
  rw [Sem.run_bind, e]; exact h w
theorem Bin.intCmp {op : BinOp} {T : TypeId} {k : IntKind} {a b : Int} {c : Bool} (h : ∀ w, (binOp op T (.int k a) (.int k b)).run C.P w = .ok (.bool c) w) : Bin C op T (.int k a) (.int k b) (.bool c) := by
  intro x y w
  have e : (eqGuard op T x y (.int k a) (.int k b)).run C.P w = .ok () w := by
    unfold eqGuard; cases op <;> simp
  rw [Sem.run_bind, e]; exact h w
theorem Bin.addN {T : TypeId} {a b : Nat} (h : a + b < 9223372036854775808) : Bin C .add T (vN a) (vN b) (vN (a + b)) :=
  Bin.intArith fun w => by simp [binOp, Op.intArith]; rw [wrap_i64 _ (by omega) (by omega)]
theorem Bin.subN {T : TypeId} {a b : Nat} (h : b ≤ a) (h' : a < 9223372036854775808) : Bin C .sub T (vN a) (vN b) (vN (a - b)) :=
  Bin.intArith fun w => by simp [binOp, Op.intArith]; rw [wrap_i64 _ (by omega) (by omega)]; omega
theorem Bin.mulN {T : TypeId} {a b : Nat} (h : a * b < 9223372036854775808) : Bin C .mul T (vN a) (vN b) (vN (a * b)) :=
  Bin.intArith fun w => by simp [binOp, Op.intArith]; rw [← Int.natCast_mul, wrap_i64 _ (by omega) (by omega)]
theorem Bin.quoN {T : TypeId} {a b : Nat} (h : 0 < b) (h' : a < 9223372036854775808) : Bin C .quo T (vN a) (vN b) (vN (a / b)) :=
  Bin.intArith fun w => by
    have : a / b ≤ a := Nat.div_le_self _ _
    have hw : ∀ q : Nat, q ≤ a → IntKind.i64.wrap (q : Int) = (q : Int) := fun q hq => wrap_i64 _ (by omega) (by omega)
    have h0 : ¬ ((b : Int) = 0) := by omega
    simp only [binOp, Op.intDiv, if_neg h0, ne_eq, not_true_eq_false, if_false, Sem.run_pure]
    rw [show ((a : Int).tdiv b) = ((a / b : Nat) : Int) from rfl, hw _ this]
theorem Bin.remN {T : TypeId} {a b : Nat} (h : 0 < b) : Bin C .rem T (vN a) (vN b) (vN (a % b)) :=
  Bin.intArith fun w => by
    have h0 : ¬ ((b : Int) = 0) := by omega
    simp only [binOp, Op.intDiv, if_neg h0, ne_eq, not_true_eq_false, if_false, Sem.run_pure]
    rfl
theorem Bin.addZ {T : TypeId} {a b : Int} (h : -9223372036854775808 ≤ a + b) (h' : a + b < 9223372036854775808) : Bin C .add T (vZ a) (vZ b) (vZ (a + b)) :=
  Bin.intArith fun w => by simp [binOp, Op.intArith]; rw [wrap_i64 _ h h']
theorem Bin.subZ {T : TypeId} {a b : Int} (h : -9223372036854775808 ≤ a - b) (h' : a - b < 9223372036854775808) : Bin C .sub T (vZ a) (vZ b) (vZ (a - b)) :=
  Bin.intArith fun w => by simp [binOp, Op.intArith]; rw [wrap_i64 _ h h']
theorem Bin.mulZ {T : TypeId} {a b : Int} (h : -9223372036854775808 ≤ a * b) (h' : a * b < 9223372036854775808) : Bin C .mul T (vZ a) (vZ b) (vZ (a * b)) :=
  Bin.intArith fun w => by simp [binOp, Op.intArith]; rw [wrap_i64 _ h h']

theorem Bin.lssN {T : TypeId} {a b : Nat} : Bin C .lss T (vN a) (vN b) (.bool (decide (a < b))) :=
  Bin.intCmp fun w => by simp [binOp, Op.intCmp]
theorem Bin.lssZ {T : TypeId} {a b : Int} : Bin C .lss T (vZ a) (vZ b) (.bool (decide (a < b))) :=
  Bin.intCmp fun w => by simp [binOp, Op.intCmp]
theorem Bin.leqN {T : TypeId} {a b : Nat} : Bin C .leq T (vN a) (vN b) (.bool (decide (a ≤ b))) :=
  Bin.intCmp fun w => by simp [binOp, Op.intCmp]
theorem Bin.leqZ {T : TypeId} {a b : Int} : Bin C .leq T (vZ a) (vZ b) (.bool (decide (a ≤ b))) :=
  Bin.intCmp fun w => by simp [binOp, Op.intCmp]
theorem Bin.gtrN {T : TypeId} {a b : Nat} : Bin C .gtr T (vN a) (vN b) (.bool (decide (b < a))) :=
  Bin.intCmp fun w => by simp [binOp, Op.intCmp]
theorem Bin.gtrZ {T : TypeId} {a b : Int} : Bin C .gtr T (vZ a) (vZ b) (.bool (decide (b < a))) :=
  Bin.intCmp fun w => by simp [binOp, Op.intCmp]
theorem Bin.geqN {T : TypeId} {a b : Nat} : Bin C .geq T (vN a) (vN b) (.bool (decide (b ≤ a))) :=
  Bin.intCmp fun w => by simp [binOp, Op.intCmp]
theorem Bin.geqZ {T : TypeId} {a b : Int} : Bin C .geq T (vZ a) (vZ b) (.bool (decide (b ≤ a))) :=
  Bin.intCmp fun w => by simp [binOp, Op.intCmp]
theorem Bin.eqlZ {T : TypeId} {a b : Int} : Bin C .eql T (vZ a) (vZ b) (.bool (decide (a = b))) :=
  Bin.intCmp fun w => by
    have : (a == b) = decide (a = b) := by rw [Bool.eq_iff_iff]; simp
    simp only [binOp, Op.intCmp, this, ne_eq, not_true_eq_false, if_false, Sem.run_pure]
theorem Bin.neqZ {T : TypeId} {a b : Int} : Bin C .neq T (vZ a) (vZ b) (.bool (decide (¬ a = b))) :=
  Bin.intCmp fun w => by
    have : (a != b) = decide (¬ a = b) := by rw [Bool.eq_iff_iff]; simp
    simp only [binOp, Op.intCmp, this, ne_eq, not_true_eq_false, if_false, Sem.run_pure]
theorem Bin.eqlN {T : TypeId} {a b : Nat} : Bin C .eql T (vN a) (vN b) (.bool (decide (a = b))) := by
  have h := Bin.eqlZ (C := C) (T := T) (a := (a : Int)) (b := (b : Int))
  rwa [show decide ((a : Int) = (b : Int)) = decide (a = b) by rw [Bool.eq_iff_iff]; simp; omega] at h
theorem Bin.neqN {T : TypeId} {a b : Nat} : Bin C .neq T (vN a) (vN b) (.bool (decide (¬ a = b))) := by
  have h := Bin.neqZ (C := C) (T := T) (a := (a : Int)) (b := (b : Int))
  rwa [show decide (¬ (a : Int) = (b : Int)) = decide (¬ a = b) by rw [Bool.eq_iff_iff]; simp; omega] at h

/-! ### Whole numbers without a sign -/
theorem ofInt_toNat {w : Nat} (a : BitVec w) : BitVec.ofInt w (a.toNat : Int) = a := by
  rw [BitVec.ofInt_natCast]; simp
theorem shl_toNat {w : Nat} (a : BitVec w) (s : Nat) : (a.toNat * 2 ^ min s w) % 2 ^ w = (a <<< s).toNat := by
  rw [BitVec.toNat_shiftLeft, Nat.shiftLeft_eq]
  by_cases h : s ≤ w
  · rw [Nat.min_eq_left h]
  · rw [Nat.min_eq_right (by omega), Nat.mul_mod_left]
    have : s = w + (s - w) := by omega
    rw [this, Nat.pow_add, ← Nat.mul_assoc, Nat.mul_assoc, Nat.mul_comm (2 ^ w), ← Nat.mul_assoc, Nat.mul_mod_left]
theorem shr_toNat {w : Nat} (a : BitVec w) (s : Nat) : a.toNat / 2 ^ min s w = (a >>> s).toNat := by
  rw [BitVec.toNat_ushiftRight, Nat.shiftRight_eq_div_pow]
  by_cases h : s ≤ w
  · rw [Nat.min_eq_left h]
  · rw [Nat.min_eq_right (by omega)]
    have h1 : a.toNat / 2 ^ w = 0 := Nat.div_eq_of_lt a.isLt
    have h2 : a.toNat / 2 ^ s = 0 := Nat.div_eq_of_lt (Nat.lt_of_lt_of_le a.isLt (Nat.pow_le_pow_right (by omega) (by omega)))
    rw [h1, h2]

theorem wrap_u8 (z : Int) : IntKind.u8.wrap z = z % 256 := by
  simp only [IntKind.wrap, IntKind.bits, IntKind.signed, Bool.false_and, Bool.false_eq_true, if_false]; rfl
theorem wrap_u8_nat (m : Nat) : IntKind.u8.wrap (m : Int) = ((BitVec.ofNat 8 m).toNat : Int) := by
  rw [wrap_u8, BitVec.toNat_ofNat]; omega
theorem Bin.addB {T : TypeId} {a b : BitVec 8} : Bin C .add T (vB a) (vB b) (vB (a + b)) :=
  Bin.intArith fun w => by simp only [binOp, Op.intArith, ne_eq, not_true_eq_false, if_false, Sem.run_pure, wrap_u8, BitVec.toNat_add]; congr 2
theorem Bin.subB {T : TypeId} {a b : BitVec 8} : Bin C .sub T (vB a) (vB b) (vB (a - b)) :=
  Bin.intArith fun w => by
    have := a.isLt; have := b.isLt
    have e : ((a.toNat : Int) - b.toNat) % 256 = (((2 ^ 8 - b.toNat + a.toNat) % 2 ^ 8 : Nat) : Int) := by omega
    simp only [binOp, Op.intArith, ne_eq, not_true_eq_false, if_false, Sem.run_pure, wrap_u8, BitVec.toNat_sub, e]
theorem Bin.mulB {T : TypeId} {a b : BitVec 8} : Bin C .mul T (vB a) (vB b) (vB (a * b)) :=
  Bin.intArith fun w => by simp only [binOp, Op.intArith, ne_eq, not_true_eq_false, if_false, Sem.run_pure, wrap_u8, BitVec.toNat_mul]; congr 2
theorem Bin.andB {T : TypeId} {a b : BitVec 8} : Bin C .and T (vB a) (vB b) (vB (a &&& b)) :=
  Bin.intArith fun w => by
    have e : ∀ z : BitVec 8, IntKind.u8.wrap (z.toNat : Int) = z.toNat := fun z => by have := z.isLt; rw [wrap_u8]; omega
    have h1 := ofInt_toNat a; have h2 := ofInt_toNat b
    show (Op.intBits .and .u8 a.toNat b.toNat).run C.P w = _
    unfold Op.intBits
    show (pure (.int .u8 (IntKind.u8.wrap ((BitVec.ofInt 8 a.toNat &&& BitVec.ofInt 8 b.toNat : BitVec 8).toNat : Int))) : Sem Value).run C.P w = _
    rw [h1, h2, e]; rfl
theorem Bin.orB {T : TypeId} {a b : BitVec 8} : Bin C .or T (vB a) (vB b) (vB (a ||| b)) :=
  Bin.intArith fun w => by
    have e : ∀ z : BitVec 8, IntKind.u8.wrap (z.toNat : Int) = z.toNat := fun z => by have := z.isLt; rw [wrap_u8]; omega
    have h1 := ofInt_toNat a; have h2 := ofInt_toNat b
    show (Op.intBits .or .u8 a.toNat b.toNat).run C.P w = _
    unfold Op.intBits
    show (pure (.int .u8 (IntKind.u8.wrap ((BitVec.ofInt 8 a.toNat ||| BitVec.ofInt 8 b.toNat : BitVec 8).toNat : Int))) : Sem Value).run C.P w = _
    rw [h1, h2, e]; rfl
theorem Bin.xorB {T : TypeId} {a b : BitVec 8} : Bin C .xor T (vB a) (vB b) (vB (a ^^^ b)) :=
  Bin.intArith fun w => by
    have e : ∀ z : BitVec 8, IntKind.u8.wrap (z.toNat : Int) = z.toNat := fun z => by have := z.isLt; rw [wrap_u8]; omega
    have h1 := ofInt_toNat a; have h2 := ofInt_toNat b
    show (Op.intBits .xor .u8 a.toNat b.toNat).run C.P w = _
    unfold Op.intBits
    show (pure (.int .u8 (IntKind.u8.wrap ((BitVec.ofInt 8 a.toNat ^^^ BitVec.ofInt 8 b.toNat : BitVec 8).toNat : Int))) : Sem Value).run C.P w = _
    rw [h1, h2, e]; rfl
theorem Bin.quoB {T : TypeId} {a b : BitVec 8} (hb : 0 < b.toNat) : Bin C .quo T (vB a) (vB b) (vB (a / b)) :=
  Bin.intArith fun w => by
    have := a.isLt
    have hq : a.toNat / b.toNat ≤ a.toNat := Nat.div_le_self _ _
    have h0 : ¬ ((b.toNat : Int) = 0) := by omega
    simp only [binOp, Op.intDiv, if_neg h0, ne_eq, not_true_eq_false, if_false, Sem.run_pure]
    rw [show ((a.toNat : Int).tdiv b.toNat) = ((a.toNat / b.toNat : Nat) : Int) from rfl, wrap_u8]
    rw [BitVec.toNat_udiv]
    have e : ((a.toNat / b.toNat : Nat) : Int) % 256 = ((a.toNat / b.toNat : Nat) : Int) := Int.emod_eq_of_lt (Int.natCast_nonneg _) (by
      have h1 := a.isLt
      have h2 : a.toNat / b.toNat < 256 := by omega
      exact Int.ofNat_lt.2 h2)
    rw [e]
theorem Bin.remB {T : TypeId} {a b : BitVec 8} (hb : 0 < b.toNat) : Bin C .rem T (vB a) (vB b) (vB (a % b)) :=
  Bin.intArith fun w => by
    have h0 : ¬ ((b.toNat : Int) = 0) := by omega
    simp only [binOp, Op.intDiv, if_neg h0, ne_eq, not_true_eq_false, if_false, Sem.run_pure]
    rw [show ((a.toNat : Int).tmod b.toNat) = ((a.toNat % b.toNat : Nat) : Int) from rfl, BitVec.toNat_umod]
theorem Yl.shlB {T T' : TypeId} {x y : Operand} {a : BitVec 8} {k : IntKind} {s : Nat} (hx : ev ρ x = some (vB a)) (hy : ev ρ y = some (.int k (s : Int))) : Yl C E (.binOp .shl T x y T') ρ L (vB (a <<< s)) :=
  Yl.bin hx hy fun x y w => by
    have e := shl_toNat a s
    have h0 : ¬ ((s : Int) < 0) := by omega
    simp only [eqGuard, binOp, Op.shift, if_neg h0, Sem.run_bind, Int.toNat_natCast, IntKind.bits]
    simp only [Bool.not_false, if_true, Sem.run_pure, Result.andThen_ok, wrap_u8]
    show Result.ok (Value.int .u8 _) w = Result.ok (Value.int .u8 (((a <<< s).toNat : Nat) : Int)) w
    rw [← e, Int.natCast_emod, Int.natCast_mul, Int.natCast_pow]; rfl
theorem Yl.shrB {T T' : TypeId} {x y : Operand} {a : BitVec 8} {k : IntKind} {s : Nat} (hx : ev ρ x = some (vB a)) (hy : ev ρ y = some (.int k (s : Int))) : Yl C E (.binOp .shr T x y T') ρ L (vB (a >>> s)) :=
  Yl.bin hx hy fun x y w => by
    have e := shr_toNat a s
    have h0 : ¬ ((s : Int) < 0) := by omega
    simp only [eqGuard, binOp, Op.shift, if_neg h0, Sem.run_bind, Int.toNat_natCast, IntKind.bits]
    simp only [Bool.not_false, if_true, Sem.run_pure, Result.andThen_ok]
    show Result.ok (Value.int .u8 _) w = Result.ok (Value.int .u8 (((a >>> s).toNat : Nat) : Int)) w
    rw [← e, Int.natCast_ediv, Int.natCast_pow, Int.fdiv_eq_ediv_of_nonneg _ (Int.pow_nonneg (by decide))]; rfl
theorem Yl.shlBC {T T' : TypeId} {x : Operand} {a : BitVec 8} {k : IntKind} {s : Nat} (hx : ev ρ x = some (vB a)) : Yl C E (.binOp .shl T x (.const (.int k (Int.ofNat s))) T') ρ L (vB (a <<< (@OfNat.ofNat Nat s (instOfNatNat s)))) :=
  Yl.shlB hx (congrArg some (evc_eq _))
theorem Yl.shrBC {T T' : TypeId} {x : Operand} {a : BitVec 8} {k : IntKind} {s : Nat} (hx : ev ρ x = some (vB a)) : Yl C E (.binOp .shr T x (.const (.int k (Int.ofNat s))) T') ρ L (vB (a >>> (@OfNat.ofNat Nat s (instOfNatNat s)))) :=
  Yl.shrB hx (congrArg some (evc_eq _))
theorem Yl.complB {T : TypeId} {x : Operand} {a : BitVec 8} (hx : ev ρ x = some (vB a)) : Yl C E (.unOp .xor T x) ρ L (vB (~~~ a)) := by
  intro d t p af g f w hf _
  have e : ∀ z : BitVec 8, IntKind.u8.wrap (z.toNat : Int) = z.toNat := fun z => by have := z.isLt; rw [wrap_u8]; omega
  simp only [execOp, hf _ _ hx, Op.unary, Op.intBits, IntKind.signed, Bool.false_eq_true, if_false]
  show ((pure (.int .u8 (IntKind.u8.wrap ((BitVec.ofInt 8 (IntKind.u8.max) ^^^ BitVec.ofInt 8 a.toNat : BitVec 8).toNat : Int))) : Sem Value) >>= fun v => pure (Next.value v)).run C.P w = _
  rw [ofInt_toNat a, show BitVec.ofInt 8 (IntKind.u8.max) = BitVec.allOnes 8 from rfl, BitVec.allOnes_xor, e]; rfl
theorem Yl.negB {T : TypeId} {x : Operand} {a : BitVec 8} (hx : ev ρ x = some (vB a)) : Yl C E (.unOp .neg T x) ρ L (vB (-a)) := by
  intro d t p af g f w hf _
  have := a.isLt
  have e : (0 - (a.toNat : Int)) % 256 = (((2 ^ 8 - a.toNat) % 2 ^ 8 : Nat) : Int) := by omega
  simp only [execOp, hf _ _ hx, Op.unary, Op.intArith, Sem.run_bind, Sem.run_pure, Result.andThen_ok, wrap_u8, e]
  rw [← BitVec.toNat_neg]
theorem Bin.lssB {T : TypeId} {a b : BitVec 8} : Bin C .lss T (vB a) (vB b) (.bool (decide (a < b))) :=
  Bin.intCmp fun w => by simp [binOp, Op.intCmp, BitVec.lt_def, BitVec.le_def]
theorem Bin.leqB {T : TypeId} {a b : BitVec 8} : Bin C .leq T (vB a) (vB b) (.bool (decide (a ≤ b))) :=
  Bin.intCmp fun w => by simp [binOp, Op.intCmp, BitVec.lt_def, BitVec.le_def]
theorem Bin.gtrB {T : TypeId} {a b : BitVec 8} : Bin C .gtr T (vB a) (vB b) (.bool (decide (b < a))) :=
  Bin.intCmp fun w => by simp [binOp, Op.intCmp, BitVec.lt_def, BitVec.le_def]
theorem Bin.geqB {T : TypeId} {a b : BitVec 8} : Bin C .geq T (vB a) (vB b) (.bool (decide (b ≤ a))) :=
  Bin.intCmp fun w => by simp [binOp, Op.intCmp, BitVec.lt_def, BitVec.le_def]
theorem Bin.eqlB {T : TypeId} {a b : BitVec 8} : Bin C .eql T (vB a) (vB b) (.bool (decide (a = b))) :=
  Bin.intCmp fun w => by
    have : (((a.toNat : Int) == (b.toNat : Int))) = decide (a = b) := by
      rw [Bool.eq_iff_iff]; simp only [bne_iff_ne, beq_iff_eq, decide_eq_true_eq, ne_eq, Int.natCast_inj, BitVec.toNat_inj]
    simp only [binOp, Op.intCmp, this, ne_eq, not_true_eq_false, if_false, Sem.run_pure]
theorem Bin.neqB {T : TypeId} {a b : BitVec 8} : Bin C .neq T (vB a) (vB b) (.bool (decide (¬ a = b))) :=
  Bin.intCmp fun w => by
    have : (((a.toNat : Int) != (b.toNat : Int))) = decide (¬ a = b) := by
      rw [Bool.eq_iff_iff]; simp only [bne_iff_ne, beq_iff_eq, decide_eq_true_eq, ne_eq, Int.natCast_inj, BitVec.toNat_inj]
    simp only [binOp, Op.intCmp, this, ne_eq, not_true_eq_false, if_false, Sem.run_pure]
theorem wrap_u16 (z : Int) : IntKind.u16.wrap z = z % 65536 := by
  simp only [IntKind.wrap, IntKind.bits, IntKind.signed, Bool.false_and, Bool.false_eq_true, if_false]; rfl
theorem wrap_u16_nat (m : Nat) : IntKind.u16.wrap (m : Int) = ((BitVec.ofNat 16 m).toNat : Int) := by
  rw [wrap_u16, BitVec.toNat_ofNat]; omega
theorem Bin.addH {T : TypeId} {a b : BitVec 16} : Bin C .add T (vH a) (vH b) (vH (a + b)) :=
  Bin.intArith fun w => by simp only [binOp, Op.intArith, ne_eq, not_true_eq_false, if_false, Sem.run_pure, wrap_u16, BitVec.toNat_add]; congr 2
theorem Bin.subH {T : TypeId} {a b : BitVec 16} : Bin C .sub T (vH a) (vH b) (vH (a - b)) :=
  Bin.intArith fun w => by
    have := a.isLt; have := b.isLt
    have e : ((a.toNat : Int) - b.toNat) % 65536 = (((2 ^ 16 - b.toNat + a.toNat) % 2 ^ 16 : Nat) : Int) := by omega
    simp only [binOp, Op.intArith, ne_eq, not_true_eq_false, if_false, Sem.run_pure, wrap_u16, BitVec.toNat_sub, e]
theorem Bin.mulH {T : TypeId} {a b : BitVec 16} : Bin C .mul T (vH a) (vH b) (vH (a * b)) :=
  Bin.intArith fun w => by simp only [binOp, Op.intArith, ne_eq, not_true_eq_false, if_false, Sem.run_pure, wrap_u16, BitVec.toNat_mul]; congr 2
theorem Bin.andH {T : TypeId} {a b : BitVec 16} : Bin C .and T (vH a) (vH b) (vH (a &&& b)) :=
  Bin.intArith fun w => by
    have e : ∀ z : BitVec 16, IntKind.u16.wrap (z.toNat : Int) = z.toNat := fun z => by have := z.isLt; rw [wrap_u16]; omega
    have h1 := ofInt_toNat a; have h2 := ofInt_toNat b
    show (Op.intBits .and .u16 a.toNat b.toNat).run C.P w = _
    unfold Op.intBits
    show (pure (.int .u16 (IntKind.u16.wrap ((BitVec.ofInt 16 a.toNat &&& BitVec.ofInt 16 b.toNat : BitVec 16).toNat : Int))) : Sem Value).run C.P w = _
    rw [h1, h2, e]; rfl
theorem Bin.orH {T : TypeId} {a b : BitVec 16} : Bin C .or T (vH a) (vH b) (vH (a ||| b)) :=
  Bin.intArith fun w => by
    have e : ∀ z : BitVec 16, IntKind.u16.wrap (z.toNat : Int) = z.toNat := fun z => by have := z.isLt; rw [wrap_u16]; omega
    have h1 := ofInt_toNat a; have h2 := ofInt_toNat b
    show (Op.intBits .or .u16 a.toNat b.toNat).run C.P w = _
    unfold Op.intBits
    show (pure (.int .u16 (IntKind.u16.wrap ((BitVec.ofInt 16 a.toNat ||| BitVec.ofInt 16 b.toNat : BitVec 16).toNat : Int))) : Sem Value).run C.P w = _
    rw [h1, h2, e]; rfl
theorem Bin.xorH {T : TypeId} {a b : BitVec 16} : Bin C .xor T (vH a) (vH b) (vH (a ^^^ b)) :=
  Bin.intArith fun w => by
    have e : ∀ z : BitVec 16, IntKind.u16.wrap (z.toNat : Int) = z.toNat := fun z => by have := z.isLt; rw [wrap_u16]; omega
    have h1 := ofInt_toNat a; have h2 := ofInt_toNat b
    show (Op.intBits .xor .u16 a.toNat b.toNat).run C.P w = _
    unfold Op.intBits
    show (pure (.int .u16 (IntKind.u16.wrap ((BitVec.ofInt 16 a.toNat ^^^ BitVec.ofInt 16 b.toNat : BitVec 16).toNat : Int))) : Sem Value).run C.P w = _
    rw [h1, h2, e]; rfl
theorem Bin.quoH {T : TypeId} {a b : BitVec 16} (hb : 0 < b.toNat) : Bin C .quo T (vH a) (vH b) (vH (a / b)) :=
  Bin.intArith fun w => by
    have := a.isLt
    have hq : a.toNat / b.toNat ≤ a.toNat := Nat.div_le_self _ _
    have h0 : ¬ ((b.toNat : Int) = 0) := by omega
    simp only [binOp, Op.intDiv, if_neg h0, ne_eq, not_true_eq_false, if_false, Sem.run_pure]
    rw [show ((a.toNat : Int).tdiv b.toNat) = ((a.toNat / b.toNat : Nat) : Int) from rfl, wrap_u16]
    rw [BitVec.toNat_udiv]
    have e : ((a.toNat / b.toNat : Nat) : Int) % 65536 = ((a.toNat / b.toNat : Nat) : Int) := Int.emod_eq_of_lt (Int.natCast_nonneg _) (by
      have h1 := a.isLt
      have h2 : a.toNat / b.toNat < 65536 := by omega
      exact Int.ofNat_lt.2 h2)
    rw [e]
theorem Bin.remH {T : TypeId} {a b : BitVec 16} (hb : 0 < b.toNat) : Bin C .rem T (vH a) (vH b) (vH (a % b)) :=
  Bin.intArith fun w => by
    have h0 : ¬ ((b.toNat : Int) = 0) := by omega
    simp only [binOp, Op.intDiv, if_neg h0, ne_eq, not_true_eq_false, if_false, Sem.run_pure]
    rw [show ((a.toNat : Int).tmod b.toNat) = ((a.toNat % b.toNat : Nat) : Int) from rfl, BitVec.toNat_umod]
theorem Yl.shlH {T T' : TypeId} {x y : Operand} {a : BitVec 16} {k : IntKind} {s : Nat} (hx : ev ρ x = some (vH a)) (hy : ev ρ y = some (.int k (s : Int))) : Yl C E (.binOp .shl T x y T') ρ L (vH (a <<< s)) :=
  Yl.bin hx hy fun x y w => by
    have e := shl_toNat a s
    have h0 : ¬ ((s : Int) < 0) := by omega
    simp only [eqGuard, binOp, Op.shift, if_neg h0, Sem.run_bind, Int.toNat_natCast, IntKind.bits]
    simp only [Bool.not_false, if_true, Sem.run_pure, Result.andThen_ok, wrap_u16]
    show Result.ok (Value.int .u16 _) w = Result.ok (Value.int .u16 (((a <<< s).toNat : Nat) : Int)) w
    rw [← e, Int.natCast_emod, Int.natCast_mul, Int.natCast_pow]; rfl
theorem Yl.shrH {T T' : TypeId} {x y : Operand} {a : BitVec 16} {k : IntKind} {s : Nat} (hx : ev ρ x = some (vH a)) (hy : ev ρ y = some (.int k (s : Int))) : Yl C E (.binOp .shr T x y T') ρ L (vH (a >>> s)) :=
  Yl.bin hx hy fun x y w => by
    have e := shr_toNat a s
    have h0 : ¬ ((s : Int) < 0) := by omega
    simp only [eqGuard, binOp, Op.shift, if_neg h0, Sem.run_bind, Int.toNat_natCast, IntKind.bits]
    simp only [Bool.not_false, if_true, Sem.run_pure, Result.andThen_ok]
    show Result.ok (Value.int .u16 _) w = Result.ok (Value.int .u16 (((a >>> s).toNat : Nat) : Int)) w
    rw [← e, Int.natCast_ediv, Int.natCast_pow, Int.fdiv_eq_ediv_of_nonneg _ (Int.pow_nonneg (by decide))]; rfl
theorem Yl.shlHC {T T' : TypeId} {x : Operand} {a : BitVec 16} {k : IntKind} {s : Nat} (hx : ev ρ x = some (vH a)) : Yl C E (.binOp .shl T x (.const (.int k (Int.ofNat s))) T') ρ L (vH (a <<< (@OfNat.ofNat Nat s (instOfNatNat s)))) :=
  Yl.shlH hx (congrArg some (evc_eq _))
theorem Yl.shrHC {T T' : TypeId} {x : Operand} {a : BitVec 16} {k : IntKind} {s : Nat} (hx : ev ρ x = some (vH a)) : Yl C E (.binOp .shr T x (.const (.int k (Int.ofNat s))) T') ρ L (vH (a >>> (@OfNat.ofNat Nat s (instOfNatNat s)))) :=
  Yl.shrH hx (congrArg some (evc_eq _))
theorem Yl.complH {T : TypeId} {x : Operand} {a : BitVec 16} (hx : ev ρ x = some (vH a)) : Yl C E (.unOp .xor T x) ρ L (vH (~~~ a)) := by
  intro d t p af g f w hf _
  have e : ∀ z : BitVec 16, IntKind.u16.wrap (z.toNat : Int) = z.toNat := fun z => by have := z.isLt; rw [wrap_u16]; omega
  simp only [execOp, hf _ _ hx, Op.unary, Op.intBits, IntKind.signed, Bool.false_eq_true, if_false]
  show ((pure (.int .u16 (IntKind.u16.wrap ((BitVec.ofInt 16 (IntKind.u16.max) ^^^ BitVec.ofInt 16 a.toNat : BitVec 16).toNat : Int))) : Sem Value) >>= fun v => pure (Next.value v)).run C.P w = _
  rw [ofInt_toNat a, show BitVec.ofInt 16 (IntKind.u16.max) = BitVec.allOnes 16 from rfl, BitVec.allOnes_xor, e]; rfl
theorem Yl.negH {T : TypeId} {x : Operand} {a : BitVec 16} (hx : ev ρ x = some (vH a)) : Yl C E (.unOp .neg T x) ρ L (vH (-a)) := by
  intro d t p af g f w hf _
  have := a.isLt
  have e : (0 - (a.toNat : Int)) % 65536 = (((2 ^ 16 - a.toNat) % 2 ^ 16 : Nat) : Int) := by omega
  simp only [execOp, hf _ _ hx, Op.unary, Op.intArith, Sem.run_bind, Sem.run_pure, Result.andThen_ok, wrap_u16, e]
  rw [← BitVec.toNat_neg]
theorem Bin.lssH {T : TypeId} {a b : BitVec 16} : Bin C .lss T (vH a) (vH b) (.bool (decide (a < b))) :=
  Bin.intCmp fun w => by simp [binOp, Op.intCmp, BitVec.lt_def, BitVec.le_def]
theorem Bin.leqH {T : TypeId} {a b : BitVec 16} : Bin C .leq T (vH a) (vH b) (.bool (decide (a ≤ b))) :=
  Bin.intCmp fun w => by simp [binOp, Op.intCmp, BitVec.lt_def, BitVec.le_def]
theorem Bin.gtrH {T : TypeId} {a b : BitVec 16} : Bin C .gtr T (vH a) (vH b) (.bool (decide (b < a))) :=
  Bin.intCmp fun w => by simp [binOp, Op.intCmp, BitVec.lt_def, BitVec.le_def]
theorem Bin.geqH {T : TypeId} {a b : BitVec 16} : Bin C .geq T (vH a) (vH b) (.bool (decide (b ≤ a))) :=
  Bin.intCmp fun w => by simp [binOp, Op.intCmp, BitVec.lt_def, BitVec.le_def]
theorem Bin.eqlH {T : TypeId} {a b : BitVec 16} : Bin C .eql T (vH a) (vH b) (.bool (decide (a = b))) :=
  Bin.intCmp fun w => by
    have : (((a.toNat : Int) == (b.toNat : Int))) = decide (a = b) := by
      rw [Bool.eq_iff_iff]; simp only [bne_iff_ne, beq_iff_eq, decide_eq_true_eq, ne_eq, Int.natCast_inj, BitVec.toNat_inj]
    simp only [binOp, Op.intCmp, this, ne_eq, not_true_eq_false, if_false, Sem.run_pure]
theorem Bin.neqH {T : TypeId} {a b : BitVec 16} : Bin C .neq T (vH a) (vH b) (.bool (decide (¬ a = b))) :=
  Bin.intCmp fun w => by
    have : (((a.toNat : Int) != (b.toNat : Int))) = decide (¬ a = b) := by
      rw [Bool.eq_iff_iff]; simp only [bne_iff_ne, beq_iff_eq, decide_eq_true_eq, ne_eq, Int.natCast_inj, BitVec.toNat_inj]
    simp only [binOp, Op.intCmp, this, ne_eq, not_true_eq_false, if_false, Sem.run_pure]
theorem wrap_u32 (z : Int) : IntKind.u32.wrap z = z % 4294967296 := by
  simp only [IntKind.wrap, IntKind.bits, IntKind.signed, Bool.false_and, Bool.false_eq_true, if_false]; rfl
theorem wrap_u32_nat (m : Nat) : IntKind.u32.wrap (m : Int) = ((BitVec.ofNat 32 m).toNat : Int) := by
  rw [wrap_u32, BitVec.toNat_ofNat]; omega
theorem Bin.addW {T : TypeId} {a b : BitVec 32} : Bin C .add T (vW a) (vW b) (vW (a + b)) :=
  Bin.intArith fun w => by simp only [binOp, Op.intArith, ne_eq, not_true_eq_false, if_false, Sem.run_pure, wrap_u32, BitVec.toNat_add]; congr 2
theorem Bin.subW {T : TypeId} {a b : BitVec 32} : Bin C .sub T (vW a) (vW b) (vW (a - b)) :=
  Bin.intArith fun w => by
    have := a.isLt; have := b.isLt
    have e : ((a.toNat : Int) - b.toNat) % 4294967296 = (((2 ^ 32 - b.toNat + a.toNat) % 2 ^ 32 : Nat) : Int) := by omega
    simp only [binOp, Op.intArith, ne_eq, not_true_eq_false, if_false, Sem.run_pure, wrap_u32, BitVec.toNat_sub, e]
theorem Bin.mulW {T : TypeId} {a b : BitVec 32} : Bin C .mul T (vW a) (vW b) (vW (a * b)) :=
  Bin.intArith fun w => by simp only [binOp, Op.intArith, ne_eq, not_true_eq_false, if_false, Sem.run_pure, wrap_u32, BitVec.toNat_mul]; congr 2
theorem Bin.andW {T : TypeId} {a b : BitVec 32} : Bin C .and T (vW a) (vW b) (vW (a &&& b)) :=
  Bin.intArith fun w => by
    have e : ∀ z : BitVec 32, IntKind.u32.wrap (z.toNat : Int) = z.toNat := fun z => by have := z.isLt; rw [wrap_u32]; omega
    have h1 := ofInt_toNat a; have h2 := ofInt_toNat b
    show (Op.intBits .and .u32 a.toNat b.toNat).run C.P w = _
    unfold Op.intBits
    show (pure (.int .u32 (IntKind.u32.wrap ((BitVec.ofInt 32 a.toNat &&& BitVec.ofInt 32 b.toNat : BitVec 32).toNat : Int))) : Sem Value).run C.P w = _
    rw [h1, h2, e]; rfl
theorem Bin.orW {T : TypeId} {a b : BitVec 32} : Bin C .or T (vW a) (vW b) (vW (a ||| b)) :=
  Bin.intArith fun w => by
    have e : ∀ z : BitVec 32, IntKind.u32.wrap (z.toNat : Int) = z.toNat := fun z => by have := z.isLt; rw [wrap_u32]; omega
    have h1 := ofInt_toNat a; have h2 := ofInt_toNat b
    show (Op.intBits .or .u32 a.toNat b.toNat).run C.P w = _
    unfold Op.intBits
    show (pure (.int .u32 (IntKind.u32.wrap ((BitVec.ofInt 32 a.toNat ||| BitVec.ofInt 32 b.toNat : BitVec 32).toNat : Int))) : Sem Value).run C.P w = _
    rw [h1, h2, e]; rfl
theorem Bin.xorW {T : TypeId} {a b : BitVec 32} : Bin C .xor T (vW a) (vW b) (vW (a ^^^ b)) :=
  Bin.intArith fun w => by
    have e : ∀ z : BitVec 32, IntKind.u32.wrap (z.toNat : Int) = z.toNat := fun z => by have := z.isLt; rw [wrap_u32]; omega
    have h1 := ofInt_toNat a; have h2 := ofInt_toNat b
    show (Op.intBits .xor .u32 a.toNat b.toNat).run C.P w = _
    unfold Op.intBits
    show (pure (.int .u32 (IntKind.u32.wrap ((BitVec.ofInt 32 a.toNat ^^^ BitVec.ofInt 32 b.toNat : BitVec 32).toNat : Int))) : Sem Value).run C.P w = _
    rw [h1, h2, e]; rfl
theorem Bin.quoW {T : TypeId} {a b : BitVec 32} (hb : 0 < b.toNat) : Bin C .quo T (vW a) (vW b) (vW (a / b)) :=
  Bin.intArith fun w => by
    have := a.isLt
    have hq : a.toNat / b.toNat ≤ a.toNat := Nat.div_le_self _ _
    have h0 : ¬ ((b.toNat : Int) = 0) := by omega
    simp only [binOp, Op.intDiv, if_neg h0, ne_eq, not_true_eq_false, if_false, Sem.run_pure]
    rw [show ((a.toNat : Int).tdiv b.toNat) = ((a.toNat / b.toNat : Nat) : Int) from rfl, wrap_u32]
    rw [BitVec.toNat_udiv]
    have e : ((a.toNat / b.toNat : Nat) : Int) % 4294967296 = ((a.toNat / b.toNat : Nat) : Int) := Int.emod_eq_of_lt (Int.natCast_nonneg _) (by
      have h1 := a.isLt
      have h2 : a.toNat / b.toNat < 4294967296 := by omega
      exact Int.ofNat_lt.2 h2)
    rw [e]
theorem Bin.remW {T : TypeId} {a b : BitVec 32} (hb : 0 < b.toNat) : Bin C .rem T (vW a) (vW b) (vW (a % b)) :=
  Bin.intArith fun w => by
    have h0 : ¬ ((b.toNat : Int) = 0) := by omega
    simp only [binOp, Op.intDiv, if_neg h0, ne_eq, not_true_eq_false, if_false, Sem.run_pure]
    rw [show ((a.toNat : Int).tmod b.toNat) = ((a.toNat % b.toNat : Nat) : Int) from rfl, BitVec.toNat_umod]
theorem Yl.shlW {T T' : TypeId} {x y : Operand} {a : BitVec 32} {k : IntKind} {s : Nat} (hx : ev ρ x = some (vW a)) (hy : ev ρ y = some (.int k (s : Int))) : Yl C E (.binOp .shl T x y T') ρ L (vW (a <<< s)) :=
  Yl.bin hx hy fun x y w => by
    have e := shl_toNat a s
    have h0 : ¬ ((s : Int) < 0) := by omega
    simp only [eqGuard, binOp, Op.shift, if_neg h0, Sem.run_bind, Int.toNat_natCast, IntKind.bits]
    simp only [Bool.not_false, if_true, Sem.run_pure, Result.andThen_ok, wrap_u32]
    show Result.ok (Value.int .u32 _) w = Result.ok (Value.int .u32 (((a <<< s).toNat : Nat) : Int)) w
    rw [← e, Int.natCast_emod, Int.natCast_mul, Int.natCast_pow]; rfl
theorem Yl.shrW {T T' : TypeId} {x y : Operand} {a : BitVec 32} {k : IntKind} {s : Nat} (hx : ev ρ x = some (vW a)) (hy : ev ρ y = some (.int k (s : Int))) : Yl C E (.binOp .shr T x y T') ρ L (vW (a >>> s)) :=
  Yl.bin hx hy fun x y w => by
    have e := shr_toNat a s
    have h0 : ¬ ((s : Int) < 0) := by omega
    simp only [eqGuard, binOp, Op.shift, if_neg h0, Sem.run_bind, Int.toNat_natCast, IntKind.bits]
    simp only [Bool.not_false, if_true, Sem.run_pure, Result.andThen_ok]
    show Result.ok (Value.int .u32 _) w = Result.ok (Value.int .u32 (((a >>> s).toNat : Nat) : Int)) w
    rw [← e, Int.natCast_ediv, Int.natCast_pow, Int.fdiv_eq_ediv_of_nonneg _ (Int.pow_nonneg (by decide))]; rfl
theorem Yl.shlWC {T T' : TypeId} {x : Operand} {a : BitVec 32} {k : IntKind} {s : Nat} (hx : ev ρ x = some (vW a)) : Yl C E (.binOp .shl T x (.const (.int k (Int.ofNat s))) T') ρ L (vW (a <<< (@OfNat.ofNat Nat s (instOfNatNat s)))) :=
  Yl.shlW hx (congrArg some (evc_eq _))
theorem Yl.shrWC {T T' : TypeId} {x : Operand} {a : BitVec 32} {k : IntKind} {s : Nat} (hx : ev ρ x = some (vW a)) : Yl C E (.binOp .shr T x (.const (.int k (Int.ofNat s))) T') ρ L (vW (a >>> (@OfNat.ofNat Nat s (instOfNatNat s)))) :=
  Yl.shrW hx (congrArg some (evc_eq _))
theorem Yl.complW {T : TypeId} {x : Operand} {a : BitVec 32} (hx : ev ρ x = some (vW a)) : Yl C E (.unOp .xor T x) ρ L (vW (~~~ a)) := by
  intro d t p af g f w hf _
  have e : ∀ z : BitVec 32, IntKind.u32.wrap (z.toNat : Int) = z.toNat := fun z => by have := z.isLt; rw [wrap_u32]; omega
  simp only [execOp, hf _ _ hx, Op.unary, Op.intBits, IntKind.signed, Bool.false_eq_true, if_false]
  show ((pure (.int .u32 (IntKind.u32.wrap ((BitVec.ofInt 32 (IntKind.u32.max) ^^^ BitVec.ofInt 32 a.toNat : BitVec 32).toNat : Int))) : Sem Value) >>= fun v => pure (Next.value v)).run C.P w = _
  rw [ofInt_toNat a, show BitVec.ofInt 32 (IntKind.u32.max) = BitVec.allOnes 32 from rfl, BitVec.allOnes_xor, e]; rfl
theorem Yl.negW {T : TypeId} {x : Operand} {a : BitVec 32} (hx : ev ρ x = some (vW a)) : Yl C E (.unOp .neg T x) ρ L (vW (-a)) := by
  intro d t p af g f w hf _
  have := a.isLt
  have e : (0 - (a.toNat : Int)) % 4294967296 = (((2 ^ 32 - a.toNat) % 2 ^ 32 : Nat) : Int) := by omega
  simp only [execOp, hf _ _ hx, Op.unary, Op.intArith, Sem.run_bind, Sem.run_pure, Result.andThen_ok, wrap_u32, e]
  rw [← BitVec.toNat_neg]
theorem Bin.lssW {T : TypeId} {a b : BitVec 32} : Bin C .lss T (vW a) (vW b) (.bool (decide (a < b))) :=
  Bin.intCmp fun w => by simp [binOp, Op.intCmp, BitVec.lt_def, BitVec.le_def]
theorem Bin.leqW {T : TypeId} {a b : BitVec 32} : Bin C .leq T (vW a) (vW b) (.bool (decide (a ≤ b))) :=
  Bin.intCmp fun w => by simp [binOp, Op.intCmp, BitVec.lt_def, BitVec.le_def]
theorem Bin.gtrW {T : TypeId} {a b : BitVec 32} : Bin C .gtr T (vW a) (vW b) (.bool (decide (b < a))) :=
  Bin.intCmp fun w => by simp [binOp, Op.intCmp, BitVec.lt_def, BitVec.le_def]
theorem Bin.geqW {T : TypeId} {a b : BitVec 32} : Bin C .geq T (vW a) (vW b) (.bool (decide (b ≤ a))) :=
  Bin.intCmp fun w => by simp [binOp, Op.intCmp, BitVec.lt_def, BitVec.le_def]
theorem Bin.eqlW {T : TypeId} {a b : BitVec 32} : Bin C .eql T (vW a) (vW b) (.bool (decide (a = b))) :=
  Bin.intCmp fun w => by
    have : (((a.toNat : Int) == (b.toNat : Int))) = decide (a = b) := by
      rw [Bool.eq_iff_iff]; simp only [bne_iff_ne, beq_iff_eq, decide_eq_true_eq, ne_eq, Int.natCast_inj, BitVec.toNat_inj]
    simp only [binOp, Op.intCmp, this, ne_eq, not_true_eq_false, if_false, Sem.run_pure]
theorem Bin.neqW {T : TypeId} {a b : BitVec 32} : Bin C .neq T (vW a) (vW b) (.bool (decide (¬ a = b))) :=
  Bin.intCmp fun w => by
    have : (((a.toNat : Int) != (b.toNat : Int))) = decide (¬ a = b) := by
      rw [Bool.eq_iff_iff]; simp only [bne_iff_ne, beq_iff_eq, decide_eq_true_eq, ne_eq, Int.natCast_inj, BitVec.toNat_inj]
    simp only [binOp, Op.intCmp, this, ne_eq, not_true_eq_false, if_false, Sem.run_pure]
theorem wrap_u64 (z : Int) : IntKind.u64.wrap z = z % 18446744073709551616 := by
  simp only [IntKind.wrap, IntKind.bits, IntKind.signed, Bool.false_and, Bool.false_eq_true, if_false]; rfl
theorem wrap_u64_nat (m : Nat) : IntKind.u64.wrap (m : Int) = ((BitVec.ofNat 64 m).toNat : Int) := by
  rw [wrap_u64, BitVec.toNat_ofNat]; omega
theorem Bin.addQ {T : TypeId} {a b : BitVec 64} : Bin C .add T (vQ a) (vQ b) (vQ (a + b)) :=
  Bin.intArith fun w => by simp only [binOp, Op.intArith, ne_eq, not_true_eq_false, if_false, Sem.run_pure, wrap_u64, BitVec.toNat_add]; congr 2
theorem Bin.subQ {T : TypeId} {a b : BitVec 64} : Bin C .sub T (vQ a) (vQ b) (vQ (a - b)) :=
  Bin.intArith fun w => by
    have := a.isLt; have := b.isLt
    have e : ((a.toNat : Int) - b.toNat) % 18446744073709551616 = (((2 ^ 64 - b.toNat + a.toNat) % 2 ^ 64 : Nat) : Int) := by omega
    simp only [binOp, Op.intArith, ne_eq, not_true_eq_false, if_false, Sem.run_pure, wrap_u64, BitVec.toNat_sub, e]
theorem Bin.mulQ {T : TypeId} {a b : BitVec 64} : Bin C .mul T (vQ a) (vQ b) (vQ (a * b)) :=
  Bin.intArith fun w => by simp only [binOp, Op.intArith, ne_eq, not_true_eq_false, if_false, Sem.run_pure, wrap_u64, BitVec.toNat_mul]; congr 2
theorem Bin.andQ {T : TypeId} {a b : BitVec 64} : Bin C .and T (vQ a) (vQ b) (vQ (a &&& b)) :=
  Bin.intArith fun w => by
    have e : ∀ z : BitVec 64, IntKind.u64.wrap (z.toNat : Int) = z.toNat := fun z => by have := z.isLt; rw [wrap_u64]; omega
    have h1 := ofInt_toNat a; have h2 := ofInt_toNat b
    show (Op.intBits .and .u64 a.toNat b.toNat).run C.P w = _
    unfold Op.intBits
    show (pure (.int .u64 (IntKind.u64.wrap ((BitVec.ofInt 64 a.toNat &&& BitVec.ofInt 64 b.toNat : BitVec 64).toNat : Int))) : Sem Value).run C.P w = _
    rw [h1, h2, e]; rfl
theorem Bin.orQ {T : TypeId} {a b : BitVec 64} : Bin C .or T (vQ a) (vQ b) (vQ (a ||| b)) :=
  Bin.intArith fun w => by
    have e : ∀ z : BitVec 64, IntKind.u64.wrap (z.toNat : Int) = z.toNat := fun z => by have := z.isLt; rw [wrap_u64]; omega
    have h1 := ofInt_toNat a; have h2 := ofInt_toNat b
    show (Op.intBits .or .u64 a.toNat b.toNat).run C.P w = _
    unfold Op.intBits
    show (pure (.int .u64 (IntKind.u64.wrap ((BitVec.ofInt 64 a.toNat ||| BitVec.ofInt 64 b.toNat : BitVec 64).toNat : Int))) : Sem Value).run C.P w = _
    rw [h1, h2, e]; rfl
theorem Bin.xorQ {T : TypeId} {a b : BitVec 64} : Bin C .xor T (vQ a) (vQ b) (vQ (a ^^^ b)) :=
  Bin.intArith fun w => by
    have e : ∀ z : BitVec 64, IntKind.u64.wrap (z.toNat : Int) = z.toNat := fun z => by have := z.isLt; rw [wrap_u64]; omega
    have h1 := ofInt_toNat a; have h2 := ofInt_toNat b
    show (Op.intBits .xor .u64 a.toNat b.toNat).run C.P w = _
    unfold Op.intBits
    show (pure (.int .u64 (IntKind.u64.wrap ((BitVec.ofInt 64 a.toNat ^^^ BitVec.ofInt 64 b.toNat : BitVec 64).toNat : Int))) : Sem Value).run C.P w = _
    rw [h1, h2, e]; rfl
theorem Bin.quoQ {T : TypeId} {a b : BitVec 64} (hb : 0 < b.toNat) : Bin C .quo T (vQ a) (vQ b) (vQ (a / b)) :=
  Bin.intArith fun w => by
    have := a.isLt
    have hq : a.toNat / b.toNat ≤ a.toNat := Nat.div_le_self _ _
    have h0 : ¬ ((b.toNat : Int) = 0) := by omega
    simp only [binOp, Op.intDiv, if_neg h0, ne_eq, not_true_eq_false, if_false, Sem.run_pure]
    rw [show ((a.toNat : Int).tdiv b.toNat) = ((a.toNat / b.toNat : Nat) : Int) from rfl, wrap_u64]
    rw [BitVec.toNat_udiv]
    have e : ((a.toNat / b.toNat : Nat) : Int) % 18446744073709551616 = ((a.toNat / b.toNat : Nat) : Int) := Int.emod_eq_of_lt (Int.natCast_nonneg _) (by
      have h1 := a.isLt
      have h2 : a.toNat / b.toNat < 18446744073709551616 := by omega
      exact Int.ofNat_lt.2 h2)
    rw [e]
theorem Bin.remQ {T : TypeId} {a b : BitVec 64} (hb : 0 < b.toNat) : Bin C .rem T (vQ a) (vQ b) (vQ (a % b)) :=
  Bin.intArith fun w => by
    have h0 : ¬ ((b.toNat : Int) = 0) := by omega
    simp only [binOp, Op.intDiv, if_neg h0, ne_eq, not_true_eq_false, if_false, Sem.run_pure]
    rw [show ((a.toNat : Int).tmod b.toNat) = ((a.toNat % b.toNat : Nat) : Int) from rfl, BitVec.toNat_umod]
theorem Yl.shlQ {T T' : TypeId} {x y : Operand} {a : BitVec 64} {k : IntKind} {s : Nat} (hx : ev ρ x = some (vQ a)) (hy : ev ρ y = some (.int k (s : Int))) : Yl C E (.binOp .shl T x y T') ρ L (vQ (a <<< s)) :=
  Yl.bin hx hy fun x y w => by
    have e := shl_toNat a s
    have h0 : ¬ ((s : Int) < 0) := by omega
    simp only [eqGuard, binOp, Op.shift, if_neg h0, Sem.run_bind, Int.toNat_natCast, IntKind.bits]
    simp only [Bool.not_false, if_true, Sem.run_pure, Result.andThen_ok, wrap_u64]
    show Result.ok (Value.int .u64 _) w = Result.ok (Value.int .u64 (((a <<< s).toNat : Nat) : Int)) w
    rw [← e, Int.natCast_emod, Int.natCast_mul, Int.natCast_pow]; rfl
theorem Yl.shrQ {T T' : TypeId} {x y : Operand} {a : BitVec 64} {k : IntKind} {s : Nat} (hx : ev ρ x = some (vQ a)) (hy : ev ρ y = some (.int k (s : Int))) : Yl C E (.binOp .shr T x y T') ρ L (vQ (a >>> s)) :=
  Yl.bin hx hy fun x y w => by
    have e := shr_toNat a s
    have h0 : ¬ ((s : Int) < 0) := by omega
    simp only [eqGuard, binOp, Op.shift, if_neg h0, Sem.run_bind, Int.toNat_natCast, IntKind.bits]
    simp only [Bool.not_false, if_true, Sem.run_pure, Result.andThen_ok]
    show Result.ok (Value.int .u64 _) w = Result.ok (Value.int .u64 (((a >>> s).toNat : Nat) : Int)) w
    rw [← e, Int.natCast_ediv, Int.natCast_pow, Int.fdiv_eq_ediv_of_nonneg _ (Int.pow_nonneg (by decide))]; rfl
theorem Yl.shlQC {T T' : TypeId} {x : Operand} {a : BitVec 64} {k : IntKind} {s : Nat} (hx : ev ρ x = some (vQ a)) : Yl C E (.binOp .shl T x (.const (.int k (Int.ofNat s))) T') ρ L (vQ (a <<< (@OfNat.ofNat Nat s (instOfNatNat s)))) :=
  Yl.shlQ hx (congrArg some (evc_eq _))
theorem Yl.shrQC {T T' : TypeId} {x : Operand} {a : BitVec 64} {k : IntKind} {s : Nat} (hx : ev ρ x = some (vQ a)) : Yl C E (.binOp .shr T x (.const (.int k (Int.ofNat s))) T') ρ L (vQ (a >>> (@OfNat.ofNat Nat s (instOfNatNat s)))) :=
  Yl.shrQ hx (congrArg some (evc_eq _))
theorem Yl.complQ {T : TypeId} {x : Operand} {a : BitVec 64} (hx : ev ρ x = some (vQ a)) : Yl C E (.unOp .xor T x) ρ L (vQ (~~~ a)) := by
  intro d t p af g f w hf _
  have e : ∀ z : BitVec 64, IntKind.u64.wrap (z.toNat : Int) = z.toNat := fun z => by have := z.isLt; rw [wrap_u64]; omega
  simp only [execOp, hf _ _ hx, Op.unary, Op.intBits, IntKind.signed, Bool.false_eq_true, if_false]
  show ((pure (.int .u64 (IntKind.u64.wrap ((BitVec.ofInt 64 (IntKind.u64.max) ^^^ BitVec.ofInt 64 a.toNat : BitVec 64).toNat : Int))) : Sem Value) >>= fun v => pure (Next.value v)).run C.P w = _
  rw [ofInt_toNat a, show BitVec.ofInt 64 (IntKind.u64.max) = BitVec.allOnes 64 from rfl, BitVec.allOnes_xor, e]; rfl
theorem Yl.negQ {T : TypeId} {x : Operand} {a : BitVec 64} (hx : ev ρ x = some (vQ a)) : Yl C E (.unOp .neg T x) ρ L (vQ (-a)) := by
  intro d t p af g f w hf _
  have := a.isLt
  have e : (0 - (a.toNat : Int)) % 18446744073709551616 = (((2 ^ 64 - a.toNat) % 2 ^ 64 : Nat) : Int) := by omega
  simp only [execOp, hf _ _ hx, Op.unary, Op.intArith, Sem.run_bind, Sem.run_pure, Result.andThen_ok, wrap_u64, e]
  rw [← BitVec.toNat_neg]
theorem Bin.lssQ {T : TypeId} {a b : BitVec 64} : Bin C .lss T (vQ a) (vQ b) (.bool (decide (a < b))) :=
  Bin.intCmp fun w => by simp [binOp, Op.intCmp, BitVec.lt_def, BitVec.le_def]
theorem Bin.leqQ {T : TypeId} {a b : BitVec 64} : Bin C .leq T (vQ a) (vQ b) (.bool (decide (a ≤ b))) :=
  Bin.intCmp fun w => by simp [binOp, Op.intCmp, BitVec.lt_def, BitVec.le_def]
theorem Bin.gtrQ {T : TypeId} {a b : BitVec 64} : Bin C .gtr T (vQ a) (vQ b) (.bool (decide (b < a))) :=
  Bin.intCmp fun w => by simp [binOp, Op.intCmp, BitVec.lt_def, BitVec.le_def]
theorem Bin.geqQ {T : TypeId} {a b : BitVec 64} : Bin C .geq T (vQ a) (vQ b) (.bool (decide (b ≤ a))) :=
  Bin.intCmp fun w => by simp [binOp, Op.intCmp, BitVec.lt_def, BitVec.le_def]
theorem Bin.eqlQ {T : TypeId} {a b : BitVec 64} : Bin C .eql T (vQ a) (vQ b) (.bool (decide (a = b))) :=
  Bin.intCmp fun w => by
    have : (((a.toNat : Int) == (b.toNat : Int))) = decide (a = b) := by
      rw [Bool.eq_iff_iff]; simp only [bne_iff_ne, beq_iff_eq, decide_eq_true_eq, ne_eq, Int.natCast_inj, BitVec.toNat_inj]
    simp only [binOp, Op.intCmp, this, ne_eq, not_true_eq_false, if_false, Sem.run_pure]
theorem Bin.neqQ {T : TypeId} {a b : BitVec 64} : Bin C .neq T (vQ a) (vQ b) (.bool (decide (¬ a = b))) :=
  Bin.intCmp fun w => by
    have : (((a.toNat : Int) != (b.toNat : Int))) = decide (¬ a = b) := by
      rw [Bool.eq_iff_iff]; simp only [bne_iff_ne, beq_iff_eq, decide_eq_true_eq, ne_eq, Int.natCast_inj, BitVec.toNat_inj]
    simp only [binOp, Op.intCmp, this, ne_eq, not_true_eq_false, if_false, Sem.run_pure]

/-! ### Conversions -/
theorem Yl.conv {S T : TypeId} {x : Operand} {k k' : IntKind} {z : Int} {s : TR} {r : TR} (hx : ev ρ x = some (.int k' z)) (hS : C.ty S = some s) (hT : C.ty T = some r) (hd : r.desc = .int k) :
    Yl C E (.convert S T x) ρ L (.int k (k.wrap z)) := by
  intro d t p af g f w hf _
  have h1 := C.und_of hS; have h2 := C.und_of hT
  rw [hd] at h2
  simp [execOp, hf _ _ hx, convert, underlying, program, Sem.run, h1, h2, Conv.intToInt]

theorem Yl.convBB {S T : TypeId} {x : Operand} {a : BitVec 8} {s r : TR} (hx : ev ρ x = some (vB a)) (hS : C.ty S = some s) (hT : C.ty T = some r) (hd : r.desc = .int .u8) : Yl C E (.convert S T x) ρ L (vB a) := by
  have h := Yl.conv (E := E) (L := L) hx hS hT hd
  have e : IntKind.u8.wrap (a.toNat : Int) = (a.toNat : Int) := by have := a.isLt; rw [wrap_u8]; omega
  rwa [e] at h
theorem Yl.convBH {S T : TypeId} {x : Operand} {a : BitVec 8} {s r : TR} (hx : ev ρ x = some (vB a)) (hS : C.ty S = some s) (hT : C.ty T = some r) (hd : r.desc = .int .u16) : Yl C E (.convert S T x) ρ L (vH (a.setWidth 16)) := by
  have h := Yl.conv (E := E) (L := L) hx hS hT hd
  have e : IntKind.u16.wrap (a.toNat : Int) = ((a.setWidth 16).toNat : Int) := by rw [wrap_u16, BitVec.toNat_setWidth]; omega
  rwa [e] at h
theorem Yl.convBW {S T : TypeId} {x : Operand} {a : BitVec 8} {s r : TR} (hx : ev ρ x = some (vB a)) (hS : C.ty S = some s) (hT : C.ty T = some r) (hd : r.desc = .int .u32) : Yl C E (.convert S T x) ρ L (vW (a.setWidth 32)) := by
  have h := Yl.conv (E := E) (L := L) hx hS hT hd
  have e : IntKind.u32.wrap (a.toNat : Int) = ((a.setWidth 32).toNat : Int) := by rw [wrap_u32, BitVec.toNat_setWidth]; omega
  rwa [e] at h
theorem Yl.convBQ {S T : TypeId} {x : Operand} {a : BitVec 8} {s r : TR} (hx : ev ρ x = some (vB a)) (hS : C.ty S = some s) (hT : C.ty T = some r) (hd : r.desc = .int .u64) : Yl C E (.convert S T x) ρ L (vQ (a.setWidth 64)) := by
  have h := Yl.conv (E := E) (L := L) hx hS hT hd
  have e : IntKind.u64.wrap (a.toNat : Int) = ((a.setWidth 64).toNat : Int) := by rw [wrap_u64, BitVec.toNat_setWidth]; omega
  rwa [e] at h
theorem Yl.convNB {S T : TypeId} {x : Operand} {m : Nat} {s r : TR} (hx : ev ρ x = some (vN m)) (hS : C.ty S = some s) (hT : C.ty T = some r) (hd : r.desc = .int .u8) : Yl C E (.convert S T x) ρ L (vB (BitVec.ofNat 8 m)) := by
  have h := Yl.conv (E := E) (L := L) hx hS hT hd
  rwa [wrap_u8_nat] at h
theorem Yl.convZB {S T : TypeId} {x : Operand} {z : Int} {s r : TR} (hx : ev ρ x = some (vZ z)) (hS : C.ty S = some s) (hT : C.ty T = some r) (hd : r.desc = .int .u8) : Yl C E (.convert S T x) ρ L (vB (BitVec.ofInt 8 z)) := by
  have h := Yl.conv (E := E) (L := L) hx hS hT hd
  have e : IntKind.u8.wrap z = ((BitVec.ofInt 8 z).toNat : Int) := by rw [wrap_u8, BitVec.toNat_ofInt]; omega
  rwa [e] at h
theorem Yl.convBN {S T : TypeId} {x : Operand} {a : BitVec 8} {s r : TR} (hx : ev ρ x = some (vB a)) (hS : C.ty S = some s) (hT : C.ty T = some r) (hd : r.desc = .int .i64) : Yl C E (.convert S T x) ρ L (vN a.toNat) := by
  have h := Yl.conv (E := E) (L := L) hx hS hT hd
  have := a.isLt
  rwa [wrap_i64 _ (by omega) (by omega)] at h
theorem Yl.convHB {S T : TypeId} {x : Operand} {a : BitVec 16} {s r : TR} (hx : ev ρ x = some (vH a)) (hS : C.ty S = some s) (hT : C.ty T = some r) (hd : r.desc = .int .u8) : Yl C E (.convert S T x) ρ L (vB (a.setWidth 8)) := by
  have h := Yl.conv (E := E) (L := L) hx hS hT hd
  have e : IntKind.u8.wrap (a.toNat : Int) = ((a.setWidth 8).toNat : Int) := by rw [wrap_u8, BitVec.toNat_setWidth]; omega
  rwa [e] at h
theorem Yl.convHH {S T : TypeId} {x : Operand} {a : BitVec 16} {s r : TR} (hx : ev ρ x = some (vH a)) (hS : C.ty S = some s) (hT : C.ty T = some r) (hd : r.desc = .int .u16) : Yl C E (.convert S T x) ρ L (vH a) := by
  have h := Yl.conv (E := E) (L := L) hx hS hT hd
  have e : IntKind.u16.wrap (a.toNat : Int) = (a.toNat : Int) := by have := a.isLt; rw [wrap_u16]; omega
  rwa [e] at h
theorem Yl.convHW {S T : TypeId} {x : Operand} {a : BitVec 16} {s r : TR} (hx : ev ρ x = some (vH a)) (hS : C.ty S = some s) (hT : C.ty T = some r) (hd : r.desc = .int .u32) : Yl C E (.convert S T x) ρ L (vW (a.setWidth 32)) := by
  have h := Yl.conv (E := E) (L := L) hx hS hT hd
  have e : IntKind.u32.wrap (a.toNat : Int) = ((a.setWidth 32).toNat : Int) := by rw [wrap_u32, BitVec.toNat_setWidth]; omega
  rwa [e] at h
theorem Yl.convHQ {S T : TypeId} {x : Operand} {a : BitVec 16} {s r : TR} (hx : ev ρ x = some (vH a)) (hS : C.ty S = some s) (hT : C.ty T = some r) (hd : r.desc = .int .u64) : Yl C E (.convert S T x) ρ L (vQ (a.setWidth 64)) := by
  have h := Yl.conv (E := E) (L := L) hx hS hT hd
  have e : IntKind.u64.wrap (a.toNat : Int) = ((a.setWidth 64).toNat : Int) := by rw [wrap_u64, BitVec.toNat_setWidth]; omega
  rwa [e] at h
theorem Yl.convNH {S T : TypeId} {x : Operand} {m : Nat} {s r : TR} (hx : ev ρ x = some (vN m)) (hS : C.ty S = some s) (hT : C.ty T = some r) (hd : r.desc = .int .u16) : Yl C E (.convert S T x) ρ L (vH (BitVec.ofNat 16 m)) := by
  have h := Yl.conv (E := E) (L := L) hx hS hT hd
  rwa [wrap_u16_nat] at h
theorem Yl.convZH {S T : TypeId} {x : Operand} {z : Int} {s r : TR} (hx : ev ρ x = some (vZ z)) (hS : C.ty S = some s) (hT : C.ty T = some r) (hd : r.desc = .int .u16) : Yl C E (.convert S T x) ρ L (vH (BitVec.ofInt 16 z)) := by
  have h := Yl.conv (E := E) (L := L) hx hS hT hd
  have e : IntKind.u16.wrap z = ((BitVec.ofInt 16 z).toNat : Int) := by rw [wrap_u16, BitVec.toNat_ofInt]; omega
  rwa [e] at h
theorem Yl.convHN {S T : TypeId} {x : Operand} {a : BitVec 16} {s r : TR} (hx : ev ρ x = some (vH a)) (hS : C.ty S = some s) (hT : C.ty T = some r) (hd : r.desc = .int .i64) : Yl C E (.convert S T x) ρ L (vN a.toNat) := by
  have h := Yl.conv (E := E) (L := L) hx hS hT hd
  have := a.isLt
  rwa [wrap_i64 _ (by omega) (by omega)] at h
theorem Yl.convWB {S T : TypeId} {x : Operand} {a : BitVec 32} {s r : TR} (hx : ev ρ x = some (vW a)) (hS : C.ty S = some s) (hT : C.ty T = some r) (hd : r.desc = .int .u8) : Yl C E (.convert S T x) ρ L (vB (a.setWidth 8)) := by
  have h := Yl.conv (E := E) (L := L) hx hS hT hd
  have e : IntKind.u8.wrap (a.toNat : Int) = ((a.setWidth 8).toNat : Int) := by rw [wrap_u8, BitVec.toNat_setWidth]; omega
  rwa [e] at h
theorem Yl.convWH {S T : TypeId} {x : Operand} {a : BitVec 32} {s r : TR} (hx : ev ρ x = some (vW a)) (hS : C.ty S = some s) (hT : C.ty T = some r) (hd : r.desc = .int .u16) : Yl C E (.convert S T x) ρ L (vH (a.setWidth 16)) := by
  have h := Yl.conv (E := E) (L := L) hx hS hT hd
  have e : IntKind.u16.wrap (a.toNat : Int) = ((a.setWidth 16).toNat : Int) := by rw [wrap_u16, BitVec.toNat_setWidth]; omega
  rwa [e] at h
theorem Yl.convWW {S T : TypeId} {x : Operand} {a : BitVec 32} {s r : TR} (hx : ev ρ x = some (vW a)) (hS : C.ty S = some s) (hT : C.ty T = some r) (hd : r.desc = .int .u32) : Yl C E (.convert S T x) ρ L (vW a) := by
  have h := Yl.conv (E := E) (L := L) hx hS hT hd
  have e : IntKind.u32.wrap (a.toNat : Int) = (a.toNat : Int) := by have := a.isLt; rw [wrap_u32]; omega
  rwa [e] at h
theorem Yl.convWQ {S T : TypeId} {x : Operand} {a : BitVec 32} {s r : TR} (hx : ev ρ x = some (vW a)) (hS : C.ty S = some s) (hT : C.ty T = some r) (hd : r.desc = .int .u64) : Yl C E (.convert S T x) ρ L (vQ (a.setWidth 64)) := by
  have h := Yl.conv (E := E) (L := L) hx hS hT hd
  have e : IntKind.u64.wrap (a.toNat : Int) = ((a.setWidth 64).toNat : Int) := by rw [wrap_u64, BitVec.toNat_setWidth]; omega
  rwa [e] at h
theorem Yl.convNW {S T : TypeId} {x : Operand} {m : Nat} {s r : TR} (hx : ev ρ x = some (vN m)) (hS : C.ty S = some s) (hT : C.ty T = some r) (hd : r.desc = .int .u32) : Yl C E (.convert S T x) ρ L (vW (BitVec.ofNat 32 m)) := by
  have h := Yl.conv (E := E) (L := L) hx hS hT hd
  rwa [wrap_u32_nat] at h
theorem Yl.convZW {S T : TypeId} {x : Operand} {z : Int} {s r : TR} (hx : ev ρ x = some (vZ z)) (hS : C.ty S = some s) (hT : C.ty T = some r) (hd : r.desc = .int .u32) : Yl C E (.convert S T x) ρ L (vW (BitVec.ofInt 32 z)) := by
  have h := Yl.conv (E := E) (L := L) hx hS hT hd
  have e : IntKind.u32.wrap z = ((BitVec.ofInt 32 z).toNat : Int) := by rw [wrap_u32, BitVec.toNat_ofInt]; omega
  rwa [e] at h
theorem Yl.convWN {S T : TypeId} {x : Operand} {a : BitVec 32} {s r : TR} (hx : ev ρ x = some (vW a)) (hS : C.ty S = some s) (hT : C.ty T = some r) (hd : r.desc = .int .i64) : Yl C E (.convert S T x) ρ L (vN a.toNat) := by
  have h := Yl.conv (E := E) (L := L) hx hS hT hd
  have := a.isLt
  rwa [wrap_i64 _ (by omega) (by omega)] at h
theorem Yl.convQB {S T : TypeId} {x : Operand} {a : BitVec 64} {s r : TR} (hx : ev ρ x = some (vQ a)) (hS : C.ty S = some s) (hT : C.ty T = some r) (hd : r.desc = .int .u8) : Yl C E (.convert S T x) ρ L (vB (a.setWidth 8)) := by
  have h := Yl.conv (E := E) (L := L) hx hS hT hd
  have e : IntKind.u8.wrap (a.toNat : Int) = ((a.setWidth 8).toNat : Int) := by rw [wrap_u8, BitVec.toNat_setWidth]; omega
  rwa [e] at h
theorem Yl.convQH {S T : TypeId} {x : Operand} {a : BitVec 64} {s r : TR} (hx : ev ρ x = some (vQ a)) (hS : C.ty S = some s) (hT : C.ty T = some r) (hd : r.desc = .int .u16) : Yl C E (.convert S T x) ρ L (vH (a.setWidth 16)) := by
  have h := Yl.conv (E := E) (L := L) hx hS hT hd
  have e : IntKind.u16.wrap (a.toNat : Int) = ((a.setWidth 16).toNat : Int) := by rw [wrap_u16, BitVec.toNat_setWidth]; omega
  rwa [e] at h
theorem Yl.convQW {S T : TypeId} {x : Operand} {a : BitVec 64} {s r : TR} (hx : ev ρ x = some (vQ a)) (hS : C.ty S = some s) (hT : C.ty T = some r) (hd : r.desc = .int .u32) : Yl C E (.convert S T x) ρ L (vW (a.setWidth 32)) := by
  have h := Yl.conv (E := E) (L := L) hx hS hT hd
  have e : IntKind.u32.wrap (a.toNat : Int) = ((a.setWidth 32).toNat : Int) := by rw [wrap_u32, BitVec.toNat_setWidth]; omega
  rwa [e] at h
theorem Yl.convQQ {S T : TypeId} {x : Operand} {a : BitVec 64} {s r : TR} (hx : ev ρ x = some (vQ a)) (hS : C.ty S = some s) (hT : C.ty T = some r) (hd : r.desc = .int .u64) : Yl C E (.convert S T x) ρ L (vQ a) := by
  have h := Yl.conv (E := E) (L := L) hx hS hT hd
  have e : IntKind.u64.wrap (a.toNat : Int) = (a.toNat : Int) := by have := a.isLt; rw [wrap_u64]; omega
  rwa [e] at h
theorem Yl.convNQ {S T : TypeId} {x : Operand} {m : Nat} {s r : TR} (hx : ev ρ x = some (vN m)) (hS : C.ty S = some s) (hT : C.ty T = some r) (hd : r.desc = .int .u64) : Yl C E (.convert S T x) ρ L (vQ (BitVec.ofNat 64 m)) := by
  have h := Yl.conv (E := E) (L := L) hx hS hT hd
  rwa [wrap_u64_nat] at h
theorem Yl.convZQ {S T : TypeId} {x : Operand} {z : Int} {s r : TR} (hx : ev ρ x = some (vZ z)) (hS : C.ty S = some s) (hT : C.ty T = some r) (hd : r.desc = .int .u64) : Yl C E (.convert S T x) ρ L (vQ (BitVec.ofInt 64 z)) := by
  have h := Yl.conv (E := E) (L := L) hx hS hT hd
  have e : IntKind.u64.wrap z = ((BitVec.ofInt 64 z).toNat : Int) := by rw [wrap_u64, BitVec.toNat_ofInt]; omega
  rwa [e] at h
theorem Yl.convQN {S T : TypeId} {x : Operand} {a : BitVec 64} {s r : TR} (hx : ev ρ x = some (vQ a)) (hS : C.ty S = some s) (hT : C.ty T = some r) (hd : r.desc = .int .i64) (hs : a.toNat < 9223372036854775808) : Yl C E (.convert S T x) ρ L (vN a.toNat) := by
  have h := Yl.conv (E := E) (L := L) hx hS hT hd
  have := a.isLt
  rwa [wrap_i64 _ (by omega) (by omega)] at h
theorem Yl.convNN {S T : TypeId} {x : Operand} {m : Nat} {s r : TR} (hx : ev ρ x = some (vN m)) (hS : C.ty S = some s) (hT : C.ty T = some r) (hd : r.desc = .int .i64) (hm : m < 9223372036854775808) : Yl C E (.convert S T x) ρ L (vN m) := by
  have h := Yl.conv (E := E) (L := L) hx hS hT hd
  rwa [wrap_i64 _ (by omega) (by omega)] at h
theorem Yl.convZZ {S T : TypeId} {x : Operand} {m : Int} {s r : TR} (hx : ev ρ x = some (vZ m)) (hS : C.ty S = some s) (hT : C.ty T = some r) (hd : r.desc = .int .i64) (hm : -9223372036854775808 ≤ m) (hm' : m < 9223372036854775808) : Yl C E (.convert S T x) ρ L (vZ m) := by
  have h := Yl.conv (E := E) (L := L) hx hS hT hd
  rwa [wrap_i64 _ (by omega) (by omega)] at h
theorem Yl.negZ {T : TypeId} {x : Operand} {z : Int} (hx : ev ρ x = some (vZ z)) (h1 : -9223372036854775808 < z) (h2 : z < 9223372036854775808) : Yl C E (.unOp .neg T x) ρ L (vZ (-z)) := by
  intro d t p af g f w hf _
  simp only [execOp, hf _ _ hx, Op.unary, Op.intArith, Sem.run_bind, Sem.run_pure, Result.andThen_ok]
  rw [wrap_i64 _ (by omega) (by omega), Int.zero_sub]
theorem Yl.notB {T : TypeId} {x : Operand} {b : Bool} (hx : ev ρ x = some (.bool b)) : Yl C E (.unOp .not T x) ρ L (.bool (!b)) := by
  intro d t p af g f w hf _
  simp [execOp, hf _ _ hx, Op.unary]
end
end Go.Proofs.Ytendgpnbbiegkaa.Sx
