/-
  The digest of bytes that come in parts, in plain Lean.
-/
import Derived.Test.YtklhogikokhdgaaShaSpec
import Derived.KernelRfl
set_option linter.all false
set_option linter.unusedSimpArgs false
set_option linter.unusedVariables false
namespace Go.Proofs.Ytklhogikokhdgaa.Sha

/-- Whole blocks are taken. -/
def eatN : Nat → List (BitVec 32) → List (BitVec 8) → List (BitVec 32)
  | 0, hs, _ => hs
  | k + 1, hs, bs => eatN k (comp hs (bs.take 64)) (bs.drop 64)
def eat (hs : List (BitVec 32)) (bs : List (BitVec 8)) : List (BitVec 32) := eatN (bs.length / 64) hs bs
def left (bs : List (BitVec 8)) : List (BitVec 8) := bs.drop (64 * (bs.length / 64))
theorem eat_step (hs : List (BitVec 32)) (bs : List (BitVec 8)) (h : 64 ≤ bs.length) : eat hs bs = eat (comp hs (bs.take 64)) (bs.drop 64) := by
  unfold eat
  rw [show bs.length / 64 = (bs.drop 64).length / 64 + 1 by rw [List.length_drop]; omega]
  rfl
theorem left_step (bs : List (BitVec 8)) (h : 64 ≤ bs.length) : left bs = left (bs.drop 64) := by
  unfold left
  rw [List.drop_drop, List.length_drop]
  congr 1; omega
theorem eat_done (hs : List (BitVec 32)) (bs : List (BitVec 8)) (h : bs.length < 64) : eat hs bs = hs := by
  unfold eat; rw [Nat.div_eq_of_lt h]; rfl
theorem left_done (bs : List (BitVec 8)) (h : bs.length < 64) : left bs = bs := by
  unfold left; rw [Nat.div_eq_of_lt h]; rfl
theorem eatN_length (k : Nat) : ∀ (hs : List (BitVec 32)) (bs : List (BitVec 8)), (eatN k hs bs).length = hs.length := by
  induction k with
  | zero => intro hs bs; rfl
  | succ k ih => intro hs bs; simp [eatN, ih, comp_length]
theorem eat_length (hs : List (BitVec 32)) (bs : List (BitVec 8)) : (eat hs bs).length = hs.length := eatN_length _ _ _
theorem left_length (bs : List (BitVec 8)) : (left bs).length = bs.length % 64 := by
  unfold left; rw [List.length_drop]; omega

/-- The tail: 0x80, zeros, the number of bits. -/
def zpad (t : List (BitVec 8)) : List (BitVec 8) := t ++ List.replicate ((120 - t.length % 64) % 64) 0#8
def be8 (n : BitVec 64) : List (BitVec 8) := [(n >>> 56).setWidth 8, (n >>> 48).setWidth 8, (n >>> 40).setWidth 8, (n >>> 32).setWidth 8, (n >>> 24).setWidth 8, (n >>> 16).setWidth 8, (n >>> 8).setWidth 8, n.setWidth 8]
/-- So many of the bytes of a number, the greatest first. -/
def beP (n : BitVec 64) (k : Nat) : List (BitVec 8) := (List.range k).map fun j => (n >>> (8 * (7 - j))).setWidth 8
def tail (bs : List (BitVec 8)) (cnt : BitVec 64) : List (BitVec 8) := zpad (bs ++ [0x80#8]) ++ beP (8#64 * cnt) 8
theorem zpad_length (t : List (BitVec 8)) : (zpad t).length % 64 = 56 := by
  unfold zpad; rw [List.length_append, List.length_replicate]; omega
theorem zpad_lt (t : List (BitVec 8)) : (zpad t).length < t.length + 64 := by
  unfold zpad; rw [List.length_append, List.length_replicate]; omega
theorem tail_length (bs : List (BitVec 8)) (cnt : BitVec 64) : (tail bs cnt).length % 64 = 0 := by
  have := zpad_length (bs ++ [0x80#8])
  unfold tail beP; rw [List.length_append, List.length_map, List.length_range]; omega
def bytes4 (x : BitVec 32) : List (BitVec 8) := [(x >>> 24).setWidth 8, (x >>> 16).setWidth 8, (x >>> 8).setWidth 8, x.setWidth 8]
/-- What Sum answers of a hash. -/
def fin (hs : List (BitVec 32)) (bs : List (BitVec 8)) (cnt : BitVec 64) : List (BitVec 8) := (eat hs (tail bs cnt)).flatMap bytes4
/-- The digest. -/
def digest (m : List (BitVec 8)) : List (BitVec 8) := fin (eat H0 m) (left m) (BitVec.ofNat 64 m.length)

/-! ### parts -/
theorem eat_append (k : Nat) : ∀ (hs : List (BitVec 32)) (a b : List (BitVec 8)), a.length = 64 * k → eat hs (a ++ b) = eat (eat hs a) b := by
  induction k with
  | zero => intro hs a b h; have : a = [] := List.eq_nil_of_length_eq_zero (by omega); subst this; rw [eat_done hs [] (by simp)]; rfl
  | succ k ih =>
    intro hs a b h
    rw [eat_step hs (a ++ b) (by simp; omega), eat_step hs a (by omega), List.take_append_of_le_length (by omega), List.drop_append_of_le_length (by omega)]
    exact ih _ _ _ (by simp; omega)
theorem split_left (a : List (BitVec 8)) : a = a.take (64 * (a.length / 64)) ++ left a := by unfold left; rw [List.take_append_drop]
theorem eat_take (hs : List (BitVec 32)) (a : List (BitVec 8)) : eat hs (a.take (64 * (a.length / 64))) = eat hs a := by
  have h := eat_append (a.length / 64) hs (a.take (64 * (a.length / 64))) (left a) (by rw [List.length_take]; omega)
  rw [← split_left a] at h
  rw [h, eat_done _ (left a) (by rw [left_length]; omega)]
/-- What was taken goes on as if it had come at one time. -/
theorem eat_more (a b : List (BitVec 8)) : eat H0 (a ++ b) = eat (eat H0 a) (left a ++ b) := by
  conv => lhs; rw [split_left a, List.append_assoc]
  rw [eat_append (a.length / 64) H0 _ _ (by rw [List.length_take]; omega), eat_take]
theorem left_add (k : Nat) (a b : List (BitVec 8)) (h : a.length = 64 * k) : left (a ++ b) = left b := by
  unfold left
  rw [List.length_append, h, show (64 * k + b.length) / 64 = k + b.length / 64 by omega, Nat.mul_add, ← h, ← List.drop_drop, List.drop_append_of_le_length (Nat.le_refl _), List.drop_length, List.nil_append]
theorem left_more (a b : List (BitVec 8)) : left (a ++ b) = left (left a ++ b) := by
  conv => lhs; rw [split_left a, List.append_assoc]
  exact left_add (a.length / 64) _ _ (by rw [List.length_take]; omega)
/-- The digest's bytes, set in place. -/
def ob (xs : List (BitVec 32)) : Nat → List (BitVec 8)
  | 0 => List.replicate 32 0#8
  | k + 1 => ((((ob xs k).set (4 * k) ((xs[k]! >>> 24).setWidth 8)).set (4 * k + 1) ((xs[k]! >>> 16).setWidth 8)).set (4 * k + 2) ((xs[k]! >>> 8).setWidth 8)).set (4 * k + 3) (xs[k]!.setWidth 8)
theorem ob_length (xs : List (BitVec 32)) (k : Nat) : (ob xs k).length = 32 := by
  induction k with
  | zero => simp [ob]
  | succ k ih => simp [ob, ih]
theorem ob_all (xs : List (BitVec 32)) (h : xs.length = 8) : ob xs 8 = xs.flatMap bytes4 := by
  obtain ⟨a, b, c, d, e, f, g, i, rfl⟩ := eight h
  kernel_rfl
theorem beP_succ (n : BitVec 64) (k : Nat) : beP n (k + 1) = beP n k ++ [(n >>> (8 * (7 - k))).setWidth 8] := by
  unfold beP; rw [List.range_succ]; simp
theorem fin_length (hs : List (BitVec 32)) (bs : List (BitVec 8)) (cnt : BitVec 64) (h : hs.length = 8) : (fin hs bs cnt).length = 32 := by
  unfold fin
  rw [← ob_all _ ((eat_length _ _).trans h), ob_length]
end Go.Proofs.Ytklhogikokhdgaa.Sha
