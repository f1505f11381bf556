/-
  SHA-256 in plain Lean: as the program reckons it, and as the document's answer does.
-/
set_option linter.all false
set_option linter.unusedSimpArgs false
set_option linter.unusedVariables false
namespace Go.Proofs.Ytklhogikokhdgaa.Sha

def rr (x : BitVec 32) (n : Nat) : BitVec 32 := x >>> n ||| x <<< (32 - n)
def s0 (x : BitVec 32) : BitVec 32 := rr x 7 ^^^ rr x 18 ^^^ x >>> 3
def s1 (x : BitVec 32) : BitVec 32 := rr x 17 ^^^ rr x 19 ^^^ x >>> 10
def S0 (a : BitVec 32) : BitVec 32 := rr a 2 ^^^ rr a 13 ^^^ rr a 22
def S1 (e : BitVec 32) : BitVec 32 := rr e 6 ^^^ rr e 11 ^^^ rr e 25
def be4 (b0 b1 b2 b3 : BitVec 8) : BitVec 32 := b0.setWidth 32 <<< 24 ||| b1.setWidth 32 <<< 16 ||| b2.setWidth 32 <<< 8 ||| b3.setWidth 32

/-- The program's table of words: set in place. -/
def nxt (b : List (BitVec 8)) (ws : List (BitVec 32)) (t : Nat) : BitVec 32 :=
  if t < 16 then be4 b[4 * t]! b[4 * t + 1]! b[4 * t + 2]! b[4 * t + 3]! else s1 ws[t - 2]! + ws[t - 7]! + s0 ws[t - 15]! + ws[t - 16]!
def wa (b : List (BitVec 8)) : Nat → List (BitVec 32)
  | 0 => List.replicate 64 0#32
  | t + 1 => (wa b t).set t (nxt b (wa b t) t)
theorem wa_length (b : List (BitVec 8)) (t : Nat) : (wa b t).length = 64 := by
  induction t with
  | zero => simp [wa]
  | succ t ih => simp [wa, ih]

def Ks : List (BitVec 32) := [0x428a2f98#32, 0x71374491#32, 0xb5c0fbcf#32, 0xe9b5dba5#32, 0x3956c25b#32, 0x59f111f1#32, 0x923f82a4#32, 0xab1c5ed5#32, 0xd807aa98#32, 0x12835b01#32, 0x243185be#32, 0x550c7dc3#32, 0x72be5d74#32, 0x80deb1fe#32, 0x9bdc06a7#32, 0xc19bf174#32,
  0xe49b69c1#32, 0xefbe4786#32, 0x0fc19dc6#32, 0x240ca1cc#32, 0x2de92c6f#32, 0x4a7484aa#32, 0x5cb0a9dc#32, 0x76f988da#32, 0x983e5152#32, 0xa831c66d#32, 0xb00327c8#32, 0xbf597fc7#32, 0xc6e00bf3#32, 0xd5a79147#32, 0x06ca6351#32, 0x14292967#32,
  0x27b70a85#32, 0x2e1b2138#32, 0x4d2c6dfc#32, 0x53380d13#32, 0x650a7354#32, 0x766a0abb#32, 0x81c2c92e#32, 0x92722c85#32, 0xa2bfe8a1#32, 0xa81a664b#32, 0xc24b8b70#32, 0xc76c51a3#32, 0xd192e819#32, 0xd6990624#32, 0xf40e3585#32, 0x106aa070#32,
  0x19a4c116#32, 0x1e376c08#32, 0x2748774c#32, 0x34b0bcb5#32, 0x391c0cb3#32, 0x4ed8aa4a#32, 0x5b9cca4f#32, 0x682e6ff3#32, 0x748f82ee#32, 0x78a5636f#32, 0x84c87814#32, 0x8cc70208#32, 0x90befffa#32, 0xa4506ceb#32, 0xbef9a3f7#32, 0xc67178f2#32]
def H0 : List (BitVec 32) := [0x6a09e667#32, 0xbb67ae85#32, 0x3c6ef372#32, 0xa54ff53a#32, 0x510e527f#32, 0x9b05688c#32, 0x1f83d9ab#32, 0x5be0cd19#32]

def T1 (e f g h k w : BitVec 32) : BitVec 32 := h + S1 e + (e &&& f ^^^ ~~~ e &&& g) + k + w
def T2 (a b c : BitVec 32) : BitVec 32 := S0 a + (a &&& b ^^^ a &&& c ^^^ b &&& c)
def rnd (k w : BitVec 32) : List (BitVec 32) → List (BitVec 32)
  | [a, b, c, d, e, f, g, h] => [T1 e f g h k w + T2 a b c, a, b, c, d + T1 e f g h k w, e, f, g]
  | v => v
def rds (ws hs : List (BitVec 32)) : Nat → List (BitVec 32)
  | 0 => hs
  | t + 1 => rnd Ks[t]! ws[t]! (rds ws hs t)
theorem rnd_length (k w : BitVec 32) (v : List (BitVec 32)) : (rnd k w v).length = v.length := by unfold rnd; split <;> simp
theorem rds_length (ws hs : List (BitVec 32)) (t : Nat) : (rds ws hs t).length = hs.length := by
  induction t with
  | zero => rfl
  | succ t ih => simp [rds, rnd_length, ih]
def addr (hs v : List (BitVec 32)) : Nat → List (BitVec 32)
  | 0 => hs
  | i + 1 => (addr hs v i).set i ((addr hs v i)[i]! + v[i]!)
theorem addr_length (hs v : List (BitVec 32)) (i : Nat) : (addr hs v i).length = hs.length := by
  induction i with
  | zero => rfl
  | succ i ih => simp [addr, ih]
/-- One block of 64 bytes. -/
def comp (hs : List (BitVec 32)) (b : List (BitVec 8)) : List (BitVec 32) := addr hs (rds (wa b 64) hs 64) 8
theorem comp_length (hs : List (BitVec 32)) (b : List (BitVec 8)) : (comp hs b).length = hs.length := addr_length _ _ _
theorem eight {α : Type} {l : List α} (h : l.length = 8) : ∃ a b c d e f g i, l = [a, b, c, d, e, f, g, i] := by
  match l, h with
  | [a, b, c, d, e, f, g, i], _ => exact ⟨a, b, c, d, e, f, g, i, rfl⟩
theorem rr_of (x : BitVec 32) (n : Nat) (h0 : 0 < n) (h : n < 32) :
    x <<< (BitVec.ofInt 64 (-(n : Int)) &&& 31#64).toNat ||| x >>> (32#64 - (BitVec.ofInt 64 (-(n : Int)) &&& 31#64)).toNat = rr x n := by
  have key : ∀ m : Nat, m < 32 → 0 < m → (BitVec.ofInt 64 (-(m : Int)) &&& 31#64).toNat = 32 - m ∧ (32#64 - (BitVec.ofInt 64 (-(m : Int)) &&& 31#64)).toNat = m := by decide
  obtain ⟨h1, h2⟩ := key n h h0
  rw [h1, h2, rr, BitVec.or_comm]
end Go.Proofs.Ytklhogikokhdgaa.Sha
