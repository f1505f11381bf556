/-
  The cipher in plain Lean: as the program reckons it.
-/
set_option linter.all false
set_option linter.unusedSimpArgs false
set_option linter.unusedVariables false
namespace Go.Proofs.Ytendgpnbbiegkaa.Aes

def tw (a : BitVec 8) : BitVec 8 := if a &&& 0x80#8 = 0#8 then a <<< 1 else a <<< 1 ^^^ 0x1B#8
def tm (out a b : BitVec 8) : Nat → BitVec 8
  | 0 => out
  | k + 1 => if b = 0#8 then out else tm (if b &&& 1#8 = 1#8 then out ^^^ a else out) (tw a) (b >>> 1) k
def mul (a b : BitVec 8) : BitVec 8 := tm 0#8 a b 8
theorem tm_zero (out a : BitVec 8) (k : Nat) : tm out a 0#8 k = out := by cases k <;> simp [tm]

/-- The powers of 3. -/
def pw : Nat → BitVec 8
  | 0 => 1#8
  | i + 1 => mul (pw i) 3#8
def pwA : Nat → List (BitVec 8)
  | 0 => List.replicate 256 0#8
  | i + 1 => (pwA i).set i (pw i)
def rl (v : BitVec 8) (n : Nat) : BitVec 8 := v <<< n ||| v >>> (8 - n)
/-- S of a byte whose inverse is v. -/
def aff (v : BitVec 8) : BitVec 8 := v ^^^ rl v 1 ^^^ rl v 2 ^^^ rl v 3 ^^^ rl v 4 ^^^ 0x63#8
/-- The two tables behind some steps. -/
def setS (s : List (BitVec 8) × List (BitVec 8)) (b v : BitVec 8) : List (BitVec 8) × List (BitVec 8) := (s.1.set b.toNat (aff v), s.2.set (aff v).toNat b)
def tabs (p : List (BitVec 8)) : Nat → List (BitVec 8) × List (BitVec 8)
  | 0 => (List.replicate 256 0#8, List.replicate 256 0#8)
  | i + 1 => setS (tabs p i) p[i]! p[255 - i]!
def subT : List (BitVec 8) × List (BitVec 8) := setS (tabs (pwA 256) 255) 0#8 0#8

def Sb (x : BitVec 8) : BitVec 8 := subT.1[x.toNat]!
def Bk (x : BitVec 8) : BitVec 8 := subT.2[x.toNat]!

def putB (l : List (BitVec 8)) (p : Nat) (ys : List (BitVec 8)) : List (BitVec 8) := l.take p ++ ys ++ l.drop (p + ys.length)
/-- The words of a key, 4 bytes each, one behind the other: word i out of word i - 4 and u. -/
def wr (u : List (BitVec 8)) (i : Nat) (W : List (BitVec 8)) : Nat → List (BitVec 8)
  | 0 => W
  | j + 1 => (wr u i W j).set (4 * i + j) ((wr u i W j)[4 * (i - 4) + j]! ^^^ u[j]!)
def kt (S : BitVec 8 → BitVec 8) (x : BitVec 8) (i : Nat) (t : List (BitVec 8)) : List (BitVec 8) := if i % 4 = 0 then [S t[1]! ^^^ x, S t[2]!, S t[3]!, S t[0]!] else t
def kx (i : Nat) (x : BitVec 8) : BitVec 8 := if i % 4 = 0 then tw x else x
def kf (S : BitVec 8 → BitVec 8) (key : List (BitVec 8)) : Nat → List (BitVec 8) × BitVec 8
  | 0 => (List.replicate 176 0#8, 1#8)
  | i + 1 => if i < 4 then (putB (kf S key i).1 (4 * i) ((key.drop (4 * i)).take 4), (kf S key i).2)
    else (wr (kt S (kf S key i).2 i (((kf S key i).1.drop (4 * (i - 1))).take 4)) i (kf S key i).1 4, kx i (kf S key i).2)
def keysOf (key : List (BitVec 8)) : List (BitVec 8) := (kf Sb key 44).1
def keyOf (key : List (BitVec 8)) (round : Nat) : List (BitVec 8) := ((keysOf key).drop (16 * round)).take 16

def addB (b k : List (BitVec 8)) : List (BitVec 8) := (List.range 16).map fun i => b[i]! ^^^ k[i]!
def eachB (S : BitVec 8 → BitVec 8) (b : List (BitVec 8)) : List (BitVec 8) := b.map S
def turnB (t : Nat) (b : List (BitVec 8)) : List (BitVec 8) := (List.range 16).map fun i => b[4 * ((i / 4 + i % 4 * t) % 4) + i % 4]!
def mixB (f : List (BitVec 8)) (b : List (BitVec 8)) : List (BitVec 8) := (List.range 16).map fun i => (List.range 4).foldl (fun x k => x ^^^ mul f[(k + 4 - i % 4) % 4]! b[i / 4 * 4 + k]!) 0#8
def rnd (key : List (BitVec 8)) (b : List (BitVec 8)) (r : Nat) : List (BitVec 8) :=
  let c := turnB 1 (eachB Sb b)
  addB (if r < 10 then mixB [2#8, 3#8, 1#8, 1#8] c else c) (keyOf key r)
def enc (key b : List (BitVec 8)) : List (BitVec 8) := (List.range 10).foldl (fun b r => rnd key b (r + 1)) (addB b (keyOf key 0))
def dnr (key : List (BitVec 8)) (b : List (BitVec 8)) (r : Nat) : List (BitVec 8) :=
  let c := addB b (keyOf key r)
  eachB Bk (turnB 3 (if r < 10 then mixB [14#8, 11#8, 13#8, 9#8] c else c))
def dec (key b : List (BitVec 8)) : List (BitVec 8) := addB ((List.range 10).foldl (fun b r => dnr key b (10 - r)) b) (keyOf key 0)

/-! ### the tables undo one another -/
theorem sub_back : ∀ x : BitVec 8, Bk (Sb x) = x := by
  have h : (List.range 256).all (fun i => Bk (Sb (BitVec.ofNat 8 i)) == BitVec.ofNat 8 i) = true := by decide +kernel
  intro x
  have := List.all_eq_true.1 h x.toNat (List.mem_range.2 x.isLt)
  simpa using this
end Go.Proofs.Ytendgpnbbiegkaa.Aes
