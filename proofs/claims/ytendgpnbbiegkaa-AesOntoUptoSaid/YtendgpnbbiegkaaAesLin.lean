/-
  The cipher's steps undo one another: plain Lean.
-/
import Derived.Test.YtendgpnbbiegkaaAesSpec
set_option linter.all false
set_option linter.unusedSimpArgs false
set_option linter.unusedVariables false
namespace Go.Proofs.Ytendgpnbbiegkaa.Aes

def sb (a b : BitVec 8) : Nat → BitVec 8
  | 0 => 0#8
  | k + 1 => (if b &&& 1#8 = 1#8 then a else 0#8) ^^^ sb (tw a) (b >>> 1) k
theorem sb_zero (a : BitVec 8) (k : Nat) : sb a 0#8 k = 0#8 := by
  induction k generalizing a with
  | zero => rfl
  | succ k ih => simp [sb, ih]
theorem tm_sb (k : Nat) : ∀ out a b : BitVec 8, tm out a b k = out ^^^ sb a b k := by
  induction k with
  | zero => intro out a b; simp [tm, sb]
  | succ k ih =>
    intro out a b
    unfold tm sb
    split
    · rename_i h; subst h; simp [sb_zero]
    · rw [ih]
      split
      · rw [BitVec.xor_assoc]
      · simp
theorem bit_cases (b : BitVec 8) : b &&& 1#8 = 0#8 ∨ b &&& 1#8 = 1#8 := by
  have h : ∀ i : Fin 256, BitVec.ofFin (w := 8) i &&& 1#8 = 0#8 ∨ BitVec.ofFin (w := 8) i &&& 1#8 = 1#8 := by decide +kernel
  exact h b.toFin
theorem sb_xor (k : Nat) : ∀ a b c : BitVec 8, sb a (b ^^^ c) k = sb a b k ^^^ sb a c k := by
  induction k with
  | zero => intro a b c; simp [sb]
  | succ k ih =>
    intro a b c
    simp only [sb]
    rw [BitVec.ushiftRight_xor_distrib, ih]
    have e : (b ^^^ c) &&& 1#8 = (b &&& 1#8) ^^^ (c &&& 1#8) := by
      apply BitVec.eq_of_getLsbD_eq
      intro i hi
      simp only [BitVec.getLsbD_and, BitVec.getLsbD_xor, Bool.and_xor_distrib_right]
    rw [e]
    have h01 : ¬ ((0#8 : BitVec 8) = 1#8) := by decide
    generalize sb (tw a) (b >>> 1) k = p
    generalize sb (tw a) (c >>> 1) k = q
    rcases bit_cases b with hb | hb <;> rcases bit_cases c with hc | hc <;> rw [hb, hc] <;> simp <;> first | ac_rfl | (rw [show a ^^^ p ^^^ (a ^^^ q) = (a ^^^ a) ^^^ (p ^^^ q) by ac_rfl, BitVec.xor_self, BitVec.zero_xor]) | (rw [show a ^^^ (p ^^^ (a ^^^ q)) = (a ^^^ a) ^^^ (p ^^^ q) by ac_rfl, BitVec.xor_self, BitVec.zero_xor]) | (rw [show a ^^^ (a ^^^ (p ^^^ q)) = (a ^^^ a) ^^^ (p ^^^ q) by ac_rfl, BitVec.xor_self, BitVec.zero_xor])
theorem mul_xor (a b c : BitVec 8) : mul a (b ^^^ c) = mul a b ^^^ mul a c := by
  simp only [mul, tm_sb, sb_xor, BitVec.zero_xor]
theorem mul_zero (a : BitVec 8) : mul a 0#8 = 0#8 := tm_zero _ _ _

theorem allB {p : BitVec 8 → Prop} [DecidablePred p] (h : ((List.range 256).all fun i => decide (p (BitVec.ofNat 8 i))) = true) (x : BitVec 8) : p x := by
  have := List.all_eq_true.1 h x.toNat (List.mem_range.2 x.isLt)
  simpa using this

theorem sixteen {α : Type} {l : List α} (h : l.length = 16) : ∃ a b c d e f g i j k m n o p q r, l = [a, b, c, d, e, f, g, i, j, k, m, n, o, p, q, r] := by
  match l, h with
  | [a, b, c, d, e, f, g, i, j, k, m, n, o, p, q, r], _ => exact ⟨a, b, c, d, e, f, g, i, j, k, m, n, o, p, q, r, rfl⟩
/-- One column: mixed. -/
def mx (f0 f1 f2 f3 a b c d : BitVec 8) : BitVec 8 := 0#8 ^^^ mul f0 a ^^^ mul f1 b ^^^ mul f2 c ^^^ mul f3 d
theorem mixB_eq (f0 f1 f2 f3 a b c d e f g i j k m n o p q r : BitVec 8) : mixB [f0, f1, f2, f3] [a, b, c, d, e, f, g, i, j, k, m, n, o, p, q, r] =
    [mx f0 f1 f2 f3 a b c d, mx f3 f0 f1 f2 a b c d, mx f2 f3 f0 f1 a b c d, mx f1 f2 f3 f0 a b c d,
     mx f0 f1 f2 f3 e f g i, mx f3 f0 f1 f2 e f g i, mx f2 f3 f0 f1 e f g i, mx f1 f2 f3 f0 e f g i,
     mx f0 f1 f2 f3 j k m n, mx f3 f0 f1 f2 j k m n, mx f2 f3 f0 f1 j k m n, mx f1 f2 f3 f0 j k m n,
     mx f0 f1 f2 f3 o p q r, mx f3 f0 f1 f2 o p q r, mx f2 f3 f0 f1 o p q r, mx f1 f2 f3 f0 o p q r] := rfl
theorem sum4 (p0 p1 p2 p3 q0 q1 q2 q3 r0 r1 r2 r3 s0 s1 s2 s3 : BitVec 8) :
    (p0 ^^^ q0 ^^^ r0 ^^^ s0) ^^^ (p1 ^^^ q1 ^^^ r1 ^^^ s1) ^^^ (p2 ^^^ q2 ^^^ r2 ^^^ s2) ^^^ (p3 ^^^ q3 ^^^ r3 ^^^ s3) = (p0 ^^^ p1 ^^^ p2 ^^^ p3) ^^^ (q0 ^^^ q1 ^^^ q2 ^^^ q3) ^^^ (r0 ^^^ r1 ^^^ r2 ^^^ r3) ^^^ (s0 ^^^ s1 ^^^ s2 ^^^ s3) := by ac_rfl
theorem mx_mx (g0 g1 g2 g3 f0 f1 f2 f3 h0 h1 h2 h3 i0 i1 i2 i3 j0 j1 j2 j3 a b c d : BitVec 8) :
    mx g0 g1 g2 g3 (mx f0 f1 f2 f3 a b c d) (mx h0 h1 h2 h3 a b c d) (mx i0 i1 i2 i3 a b c d) (mx j0 j1 j2 j3 a b c d) =
    (mul g0 (mul f0 a) ^^^ mul g1 (mul h0 a) ^^^ mul g2 (mul i0 a) ^^^ mul g3 (mul j0 a)) ^^^ (mul g0 (mul f1 b) ^^^ mul g1 (mul h1 b) ^^^ mul g2 (mul i1 b) ^^^ mul g3 (mul j1 b)) ^^^
    (mul g0 (mul f2 c) ^^^ mul g1 (mul h2 c) ^^^ mul g2 (mul i2 c) ^^^ mul g3 (mul j2 c)) ^^^ (mul g0 (mul f3 d) ^^^ mul g1 (mul h3 d) ^^^ mul g2 (mul i3 d) ^^^ mul g3 (mul j3 d)) := by
  simp only [mx, BitVec.zero_xor, mul_xor]
  exact sum4 ..
theorem inv0 (a b c d : BitVec 8) : mx 14#8 11#8 13#8 9#8 (mx 2#8 3#8 1#8 1#8 a b c d) (mx 1#8 2#8 3#8 1#8 a b c d) (mx 1#8 1#8 2#8 3#8 a b c d) (mx 3#8 1#8 1#8 2#8 a b c d) = a := by
  rw [mx_mx]
  have h0 : mul 14#8 (mul 2#8 a) ^^^ mul 11#8 (mul 1#8 a) ^^^ mul 13#8 (mul 1#8 a) ^^^ mul 9#8 (mul 3#8 a) = a := allB (p := fun x => mul 14#8 (mul 2#8 x) ^^^ mul 11#8 (mul 1#8 x) ^^^ mul 13#8 (mul 1#8 x) ^^^ mul 9#8 (mul 3#8 x) = x) (by decide +kernel) a
  have h1 : mul 14#8 (mul 3#8 b) ^^^ mul 11#8 (mul 2#8 b) ^^^ mul 13#8 (mul 1#8 b) ^^^ mul 9#8 (mul 1#8 b) = 0#8 := allB (p := fun x => mul 14#8 (mul 3#8 x) ^^^ mul 11#8 (mul 2#8 x) ^^^ mul 13#8 (mul 1#8 x) ^^^ mul 9#8 (mul 1#8 x) = 0#8) (by decide +kernel) b
  have h2 : mul 14#8 (mul 1#8 c) ^^^ mul 11#8 (mul 3#8 c) ^^^ mul 13#8 (mul 2#8 c) ^^^ mul 9#8 (mul 1#8 c) = 0#8 := allB (p := fun x => mul 14#8 (mul 1#8 x) ^^^ mul 11#8 (mul 3#8 x) ^^^ mul 13#8 (mul 2#8 x) ^^^ mul 9#8 (mul 1#8 x) = 0#8) (by decide +kernel) c
  have h3 : mul 14#8 (mul 1#8 d) ^^^ mul 11#8 (mul 1#8 d) ^^^ mul 13#8 (mul 3#8 d) ^^^ mul 9#8 (mul 2#8 d) = 0#8 := allB (p := fun x => mul 14#8 (mul 1#8 x) ^^^ mul 11#8 (mul 1#8 x) ^^^ mul 13#8 (mul 3#8 x) ^^^ mul 9#8 (mul 2#8 x) = 0#8) (by decide +kernel) d
  rw [h0, h1, h2, h3]
  simp only [BitVec.xor_zero, BitVec.zero_xor]
theorem inv1 (a b c d : BitVec 8) : mx 9#8 14#8 11#8 13#8 (mx 2#8 3#8 1#8 1#8 a b c d) (mx 1#8 2#8 3#8 1#8 a b c d) (mx 1#8 1#8 2#8 3#8 a b c d) (mx 3#8 1#8 1#8 2#8 a b c d) = b := by
  rw [mx_mx]
  have h0 : mul 9#8 (mul 2#8 a) ^^^ mul 14#8 (mul 1#8 a) ^^^ mul 11#8 (mul 1#8 a) ^^^ mul 13#8 (mul 3#8 a) = 0#8 := allB (p := fun x => mul 9#8 (mul 2#8 x) ^^^ mul 14#8 (mul 1#8 x) ^^^ mul 11#8 (mul 1#8 x) ^^^ mul 13#8 (mul 3#8 x) = 0#8) (by decide +kernel) a
  have h1 : mul 9#8 (mul 3#8 b) ^^^ mul 14#8 (mul 2#8 b) ^^^ mul 11#8 (mul 1#8 b) ^^^ mul 13#8 (mul 1#8 b) = b := allB (p := fun x => mul 9#8 (mul 3#8 x) ^^^ mul 14#8 (mul 2#8 x) ^^^ mul 11#8 (mul 1#8 x) ^^^ mul 13#8 (mul 1#8 x) = x) (by decide +kernel) b
  have h2 : mul 9#8 (mul 1#8 c) ^^^ mul 14#8 (mul 3#8 c) ^^^ mul 11#8 (mul 2#8 c) ^^^ mul 13#8 (mul 1#8 c) = 0#8 := allB (p := fun x => mul 9#8 (mul 1#8 x) ^^^ mul 14#8 (mul 3#8 x) ^^^ mul 11#8 (mul 2#8 x) ^^^ mul 13#8 (mul 1#8 x) = 0#8) (by decide +kernel) c
  have h3 : mul 9#8 (mul 1#8 d) ^^^ mul 14#8 (mul 1#8 d) ^^^ mul 11#8 (mul 3#8 d) ^^^ mul 13#8 (mul 2#8 d) = 0#8 := allB (p := fun x => mul 9#8 (mul 1#8 x) ^^^ mul 14#8 (mul 1#8 x) ^^^ mul 11#8 (mul 3#8 x) ^^^ mul 13#8 (mul 2#8 x) = 0#8) (by decide +kernel) d
  rw [h0, h1, h2, h3]
  simp only [BitVec.xor_zero, BitVec.zero_xor]
theorem inv2 (a b c d : BitVec 8) : mx 13#8 9#8 14#8 11#8 (mx 2#8 3#8 1#8 1#8 a b c d) (mx 1#8 2#8 3#8 1#8 a b c d) (mx 1#8 1#8 2#8 3#8 a b c d) (mx 3#8 1#8 1#8 2#8 a b c d) = c := by
  rw [mx_mx]
  have h0 : mul 13#8 (mul 2#8 a) ^^^ mul 9#8 (mul 1#8 a) ^^^ mul 14#8 (mul 1#8 a) ^^^ mul 11#8 (mul 3#8 a) = 0#8 := allB (p := fun x => mul 13#8 (mul 2#8 x) ^^^ mul 9#8 (mul 1#8 x) ^^^ mul 14#8 (mul 1#8 x) ^^^ mul 11#8 (mul 3#8 x) = 0#8) (by decide +kernel) a
  have h1 : mul 13#8 (mul 3#8 b) ^^^ mul 9#8 (mul 2#8 b) ^^^ mul 14#8 (mul 1#8 b) ^^^ mul 11#8 (mul 1#8 b) = 0#8 := allB (p := fun x => mul 13#8 (mul 3#8 x) ^^^ mul 9#8 (mul 2#8 x) ^^^ mul 14#8 (mul 1#8 x) ^^^ mul 11#8 (mul 1#8 x) = 0#8) (by decide +kernel) b
  have h2 : mul 13#8 (mul 1#8 c) ^^^ mul 9#8 (mul 3#8 c) ^^^ mul 14#8 (mul 2#8 c) ^^^ mul 11#8 (mul 1#8 c) = c := allB (p := fun x => mul 13#8 (mul 1#8 x) ^^^ mul 9#8 (mul 3#8 x) ^^^ mul 14#8 (mul 2#8 x) ^^^ mul 11#8 (mul 1#8 x) = x) (by decide +kernel) c
  have h3 : mul 13#8 (mul 1#8 d) ^^^ mul 9#8 (mul 1#8 d) ^^^ mul 14#8 (mul 3#8 d) ^^^ mul 11#8 (mul 2#8 d) = 0#8 := allB (p := fun x => mul 13#8 (mul 1#8 x) ^^^ mul 9#8 (mul 1#8 x) ^^^ mul 14#8 (mul 3#8 x) ^^^ mul 11#8 (mul 2#8 x) = 0#8) (by decide +kernel) d
  rw [h0, h1, h2, h3]
  simp only [BitVec.xor_zero, BitVec.zero_xor]
theorem inv3 (a b c d : BitVec 8) : mx 11#8 13#8 9#8 14#8 (mx 2#8 3#8 1#8 1#8 a b c d) (mx 1#8 2#8 3#8 1#8 a b c d) (mx 1#8 1#8 2#8 3#8 a b c d) (mx 3#8 1#8 1#8 2#8 a b c d) = d := by
  rw [mx_mx]
  have h0 : mul 11#8 (mul 2#8 a) ^^^ mul 13#8 (mul 1#8 a) ^^^ mul 9#8 (mul 1#8 a) ^^^ mul 14#8 (mul 3#8 a) = 0#8 := allB (p := fun x => mul 11#8 (mul 2#8 x) ^^^ mul 13#8 (mul 1#8 x) ^^^ mul 9#8 (mul 1#8 x) ^^^ mul 14#8 (mul 3#8 x) = 0#8) (by decide +kernel) a
  have h1 : mul 11#8 (mul 3#8 b) ^^^ mul 13#8 (mul 2#8 b) ^^^ mul 9#8 (mul 1#8 b) ^^^ mul 14#8 (mul 1#8 b) = 0#8 := allB (p := fun x => mul 11#8 (mul 3#8 x) ^^^ mul 13#8 (mul 2#8 x) ^^^ mul 9#8 (mul 1#8 x) ^^^ mul 14#8 (mul 1#8 x) = 0#8) (by decide +kernel) b
  have h2 : mul 11#8 (mul 1#8 c) ^^^ mul 13#8 (mul 3#8 c) ^^^ mul 9#8 (mul 2#8 c) ^^^ mul 14#8 (mul 1#8 c) = 0#8 := allB (p := fun x => mul 11#8 (mul 1#8 x) ^^^ mul 13#8 (mul 3#8 x) ^^^ mul 9#8 (mul 2#8 x) ^^^ mul 14#8 (mul 1#8 x) = 0#8) (by decide +kernel) c
  have h3 : mul 11#8 (mul 1#8 d) ^^^ mul 13#8 (mul 1#8 d) ^^^ mul 9#8 (mul 3#8 d) ^^^ mul 14#8 (mul 2#8 d) = d := allB (p := fun x => mul 11#8 (mul 1#8 x) ^^^ mul 13#8 (mul 1#8 x) ^^^ mul 9#8 (mul 3#8 x) ^^^ mul 14#8 (mul 2#8 x) = x) (by decide +kernel) d
  rw [h0, h1, h2, h3]
  simp only [BitVec.xor_zero, BitVec.zero_xor]
theorem mix_inv (b : List (BitVec 8)) (h : b.length = 16) : mixB [14#8, 11#8, 13#8, 9#8] (mixB [2#8, 3#8, 1#8, 1#8] b) = b := by
  obtain ⟨a, b, c, d, e, f, g, i, j, k, m, n, o, p, q, r, rfl⟩ := sixteen h
  rw [mixB_eq, mixB_eq]
  simp only [inv0, inv1, inv2, inv3]
theorem fwd0 (a b c d : BitVec 8) : mx 2#8 3#8 1#8 1#8 (mx 14#8 11#8 13#8 9#8 a b c d) (mx 9#8 14#8 11#8 13#8 a b c d) (mx 13#8 9#8 14#8 11#8 a b c d) (mx 11#8 13#8 9#8 14#8 a b c d) = a := by
  rw [mx_mx]
  have h0 : mul 2#8 (mul 14#8 a) ^^^ mul 3#8 (mul 9#8 a) ^^^ mul 1#8 (mul 13#8 a) ^^^ mul 1#8 (mul 11#8 a) = a := allB (p := fun x => mul 2#8 (mul 14#8 x) ^^^ mul 3#8 (mul 9#8 x) ^^^ mul 1#8 (mul 13#8 x) ^^^ mul 1#8 (mul 11#8 x) = x) (by decide +kernel) a
  have h1 : mul 2#8 (mul 11#8 b) ^^^ mul 3#8 (mul 14#8 b) ^^^ mul 1#8 (mul 9#8 b) ^^^ mul 1#8 (mul 13#8 b) = 0#8 := allB (p := fun x => mul 2#8 (mul 11#8 x) ^^^ mul 3#8 (mul 14#8 x) ^^^ mul 1#8 (mul 9#8 x) ^^^ mul 1#8 (mul 13#8 x) = 0#8) (by decide +kernel) b
  have h2 : mul 2#8 (mul 13#8 c) ^^^ mul 3#8 (mul 11#8 c) ^^^ mul 1#8 (mul 14#8 c) ^^^ mul 1#8 (mul 9#8 c) = 0#8 := allB (p := fun x => mul 2#8 (mul 13#8 x) ^^^ mul 3#8 (mul 11#8 x) ^^^ mul 1#8 (mul 14#8 x) ^^^ mul 1#8 (mul 9#8 x) = 0#8) (by decide +kernel) c
  have h3 : mul 2#8 (mul 9#8 d) ^^^ mul 3#8 (mul 13#8 d) ^^^ mul 1#8 (mul 11#8 d) ^^^ mul 1#8 (mul 14#8 d) = 0#8 := allB (p := fun x => mul 2#8 (mul 9#8 x) ^^^ mul 3#8 (mul 13#8 x) ^^^ mul 1#8 (mul 11#8 x) ^^^ mul 1#8 (mul 14#8 x) = 0#8) (by decide +kernel) d
  rw [h0, h1, h2, h3]
  simp only [BitVec.xor_zero, BitVec.zero_xor]
theorem fwd1 (a b c d : BitVec 8) : mx 1#8 2#8 3#8 1#8 (mx 14#8 11#8 13#8 9#8 a b c d) (mx 9#8 14#8 11#8 13#8 a b c d) (mx 13#8 9#8 14#8 11#8 a b c d) (mx 11#8 13#8 9#8 14#8 a b c d) = b := by
  rw [mx_mx]
  have h0 : mul 1#8 (mul 14#8 a) ^^^ mul 2#8 (mul 9#8 a) ^^^ mul 3#8 (mul 13#8 a) ^^^ mul 1#8 (mul 11#8 a) = 0#8 := allB (p := fun x => mul 1#8 (mul 14#8 x) ^^^ mul 2#8 (mul 9#8 x) ^^^ mul 3#8 (mul 13#8 x) ^^^ mul 1#8 (mul 11#8 x) = 0#8) (by decide +kernel) a
  have h1 : mul 1#8 (mul 11#8 b) ^^^ mul 2#8 (mul 14#8 b) ^^^ mul 3#8 (mul 9#8 b) ^^^ mul 1#8 (mul 13#8 b) = b := allB (p := fun x => mul 1#8 (mul 11#8 x) ^^^ mul 2#8 (mul 14#8 x) ^^^ mul 3#8 (mul 9#8 x) ^^^ mul 1#8 (mul 13#8 x) = x) (by decide +kernel) b
  have h2 : mul 1#8 (mul 13#8 c) ^^^ mul 2#8 (mul 11#8 c) ^^^ mul 3#8 (mul 14#8 c) ^^^ mul 1#8 (mul 9#8 c) = 0#8 := allB (p := fun x => mul 1#8 (mul 13#8 x) ^^^ mul 2#8 (mul 11#8 x) ^^^ mul 3#8 (mul 14#8 x) ^^^ mul 1#8 (mul 9#8 x) = 0#8) (by decide +kernel) c
  have h3 : mul 1#8 (mul 9#8 d) ^^^ mul 2#8 (mul 13#8 d) ^^^ mul 3#8 (mul 11#8 d) ^^^ mul 1#8 (mul 14#8 d) = 0#8 := allB (p := fun x => mul 1#8 (mul 9#8 x) ^^^ mul 2#8 (mul 13#8 x) ^^^ mul 3#8 (mul 11#8 x) ^^^ mul 1#8 (mul 14#8 x) = 0#8) (by decide +kernel) d
  rw [h0, h1, h2, h3]
  simp only [BitVec.xor_zero, BitVec.zero_xor]
theorem fwd2 (a b c d : BitVec 8) : mx 1#8 1#8 2#8 3#8 (mx 14#8 11#8 13#8 9#8 a b c d) (mx 9#8 14#8 11#8 13#8 a b c d) (mx 13#8 9#8 14#8 11#8 a b c d) (mx 11#8 13#8 9#8 14#8 a b c d) = c := by
  rw [mx_mx]
  have h0 : mul 1#8 (mul 14#8 a) ^^^ mul 1#8 (mul 9#8 a) ^^^ mul 2#8 (mul 13#8 a) ^^^ mul 3#8 (mul 11#8 a) = 0#8 := allB (p := fun x => mul 1#8 (mul 14#8 x) ^^^ mul 1#8 (mul 9#8 x) ^^^ mul 2#8 (mul 13#8 x) ^^^ mul 3#8 (mul 11#8 x) = 0#8) (by decide +kernel) a
  have h1 : mul 1#8 (mul 11#8 b) ^^^ mul 1#8 (mul 14#8 b) ^^^ mul 2#8 (mul 9#8 b) ^^^ mul 3#8 (mul 13#8 b) = 0#8 := allB (p := fun x => mul 1#8 (mul 11#8 x) ^^^ mul 1#8 (mul 14#8 x) ^^^ mul 2#8 (mul 9#8 x) ^^^ mul 3#8 (mul 13#8 x) = 0#8) (by decide +kernel) b
  have h2 : mul 1#8 (mul 13#8 c) ^^^ mul 1#8 (mul 11#8 c) ^^^ mul 2#8 (mul 14#8 c) ^^^ mul 3#8 (mul 9#8 c) = c := allB (p := fun x => mul 1#8 (mul 13#8 x) ^^^ mul 1#8 (mul 11#8 x) ^^^ mul 2#8 (mul 14#8 x) ^^^ mul 3#8 (mul 9#8 x) = x) (by decide +kernel) c
  have h3 : mul 1#8 (mul 9#8 d) ^^^ mul 1#8 (mul 13#8 d) ^^^ mul 2#8 (mul 11#8 d) ^^^ mul 3#8 (mul 14#8 d) = 0#8 := allB (p := fun x => mul 1#8 (mul 9#8 x) ^^^ mul 1#8 (mul 13#8 x) ^^^ mul 2#8 (mul 11#8 x) ^^^ mul 3#8 (mul 14#8 x) = 0#8) (by decide +kernel) d
  rw [h0, h1, h2, h3]
  simp only [BitVec.xor_zero, BitVec.zero_xor]
theorem fwd3 (a b c d : BitVec 8) : mx 3#8 1#8 1#8 2#8 (mx 14#8 11#8 13#8 9#8 a b c d) (mx 9#8 14#8 11#8 13#8 a b c d) (mx 13#8 9#8 14#8 11#8 a b c d) (mx 11#8 13#8 9#8 14#8 a b c d) = d := by
  rw [mx_mx]
  have h0 : mul 3#8 (mul 14#8 a) ^^^ mul 1#8 (mul 9#8 a) ^^^ mul 1#8 (mul 13#8 a) ^^^ mul 2#8 (mul 11#8 a) = 0#8 := allB (p := fun x => mul 3#8 (mul 14#8 x) ^^^ mul 1#8 (mul 9#8 x) ^^^ mul 1#8 (mul 13#8 x) ^^^ mul 2#8 (mul 11#8 x) = 0#8) (by decide +kernel) a
  have h1 : mul 3#8 (mul 11#8 b) ^^^ mul 1#8 (mul 14#8 b) ^^^ mul 1#8 (mul 9#8 b) ^^^ mul 2#8 (mul 13#8 b) = 0#8 := allB (p := fun x => mul 3#8 (mul 11#8 x) ^^^ mul 1#8 (mul 14#8 x) ^^^ mul 1#8 (mul 9#8 x) ^^^ mul 2#8 (mul 13#8 x) = 0#8) (by decide +kernel) b
  have h2 : mul 3#8 (mul 13#8 c) ^^^ mul 1#8 (mul 11#8 c) ^^^ mul 1#8 (mul 14#8 c) ^^^ mul 2#8 (mul 9#8 c) = 0#8 := allB (p := fun x => mul 3#8 (mul 13#8 x) ^^^ mul 1#8 (mul 11#8 x) ^^^ mul 1#8 (mul 14#8 x) ^^^ mul 2#8 (mul 9#8 x) = 0#8) (by decide +kernel) c
  have h3 : mul 3#8 (mul 9#8 d) ^^^ mul 1#8 (mul 13#8 d) ^^^ mul 1#8 (mul 11#8 d) ^^^ mul 2#8 (mul 14#8 d) = d := allB (p := fun x => mul 3#8 (mul 9#8 x) ^^^ mul 1#8 (mul 13#8 x) ^^^ mul 1#8 (mul 11#8 x) ^^^ mul 2#8 (mul 14#8 x) = x) (by decide +kernel) d
  rw [h0, h1, h2, h3]
  simp only [BitVec.xor_zero, BitVec.zero_xor]
theorem mix_fwd (b : List (BitVec 8)) (h : b.length = 16) : mixB [2#8, 3#8, 1#8, 1#8] (mixB [14#8, 11#8, 13#8, 9#8] b) = b := by
  obtain ⟨a, b, c, d, e, f, g, i, j, k, m, n, o, p, q, r, rfl⟩ := sixteen h
  rw [mixB_eq, mixB_eq]
  simp only [fwd0, fwd1, fwd2, fwd3]
end Go.Proofs.Ytendgpnbbiegkaa.Aes
