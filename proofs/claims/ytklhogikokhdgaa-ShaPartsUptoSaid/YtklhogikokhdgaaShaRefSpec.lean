/-
  The document's answer for the digest, in plain Lean, and that it is the program's.
-/
import Derived.Test.YtklhogikokhdgaaShaSpec2
set_option linter.all false
set_option linter.unusedSimpArgs false
set_option linter.unusedVariables false
namespace Go.Proofs.Ytklhogikokhdgaa.Sha

def be4r (b0 b1 b2 b3 : BitVec 8) : BitVec 32 := b0.setWidth 32 * 16777216#32 + b1.setWidth 32 * 65536#32 + b2.setWidth 32 * 256#32 + b3.setWidth 32
def nxr (b : List (BitVec 8)) (ws : List (BitVec 32)) (t : Nat) : BitVec 32 :=
  if t < 16 then be4r b[4 * t]! b[4 * t + 1]! b[4 * t + 2]! b[4 * t + 3]! else s1 ws[t - 2]! + ws[t - 7]! + s0 ws[t - 15]! + ws[t - 16]!
def wl (b : List (BitVec 8)) : Nat → List (BitVec 32)
  | 0 => []
  | t + 1 => wl b t ++ [nxr b (wl b t) t]
theorem wl_length (b : List (BitVec 8)) (t : Nat) : (wl b t).length = t := by
  induction t with
  | zero => rfl
  | succ t ih => simp [wl, ih]
theorem shl_mul (x p : BitVec 32) (k : Nat) (hp : p = BitVec.twoPow 32 k) : x * p = x <<< k := by rw [hp, BitVec.shiftLeft_eq_mul_twoPow]
theorem shl_or (x y : BitVec 32) (k : Nat) (h : ∀ i, k ≤ i → y.getLsbD i = false) : x <<< k + y = x <<< k ||| y := by
  apply BitVec.add_eq_or_of_and_eq_zero
  apply BitVec.eq_of_getLsbD_eq
  intro i hi
  rw [BitVec.getLsbD_and, BitVec.getLsbD_shiftLeft, BitVec.getLsbD_zero]
  rcases Nat.lt_or_ge i k with h1 | h1
  · simp [h1]
  · rw [h i h1]; simp
theorem low8 (b : BitVec 8) (i : Nat) (h : 8 ≤ i) : (b.setWidth 32).getLsbD i = false := by
  rw [BitVec.getLsbD_setWidth, BitVec.getLsbD_of_ge b i h]; simp
theorem lowS (b : BitVec 8) (k i : Nat) (h : k + 8 ≤ i) : (b.setWidth 32 <<< k).getLsbD i = false := by
  rw [BitVec.getLsbD_shiftLeft, low8 b (i - k) (by omega)]; simp
theorem be4_eq (b0 b1 b2 b3 : BitVec 8) : be4r b0 b1 b2 b3 = be4 b0 b1 b2 b3 := by
  unfold be4r be4
  rw [shl_mul _ 16777216#32 24 (by decide), shl_mul _ 65536#32 16 (by decide), shl_mul _ 256#32 8 (by decide)]
  generalize hx : b0.setWidth 32 <<< 24 = x
  rw [BitVec.add_assoc, BitVec.add_assoc, shl_or (b2.setWidth 32) _ 8 (fun i h => low8 b3 i h),
    shl_or (b1.setWidth 32) _ 16 (fun i h => by rw [BitVec.getLsbD_or, lowS b2 8 i (by omega), low8 b3 i (by omega)]; rfl), ← hx,
    shl_or (b0.setWidth 32) _ 24 (fun i h => by rw [BitVec.getLsbD_or, BitVec.getLsbD_or, lowS b1 16 i (by omega), lowS b2 8 i (by omega), low8 b3 i (by omega)]; rfl)]
  simp only [BitVec.or_assoc]
theorem nx_eq (b : List (BitVec 8)) (ws ws' : List (BitVec 32)) (t : Nat) (h : ∀ i, i < t → ws[i]! = ws'[i]!) : nxr b ws t = nxt b ws' t := by
  unfold nxr nxt
  split
  · exact be4_eq _ _ _ _
  · rw [h _ (by omega), h _ (by omega), h _ (by omega), h _ (by omega)]
theorem wl_wa (b : List (BitVec 8)) : ∀ t, t ≤ 64 → wa b t = wl b t ++ List.replicate (64 - t) 0#32
  | 0, _ => by simp [wl, wa]
  | t + 1, h => by
    have ih := wl_wa b t (by omega)
    have hl := wl_length b t
    have hn : nxt b (wa b t) t = nxr b (wl b t) t := (nx_eq b _ _ t (fun i hi => by
      rw [ih, getElem!_def, getElem!_def, List.getElem?_append_left (by omega)])).symm
    show (wa b t).set t (nxt b (wa b t) t) = (wl b t ++ [nxr b (wl b t) t]) ++ _
    rw [hn]
    generalize nxr b (wl b t) t = v
    rw [ih, List.set_append_right _ _ (by omega), hl, Nat.sub_self, show 64 - t = (64 - (t + 1)) + 1 by omega, List.replicate_succ, List.set_cons_zero]
    simp
theorem wl_wa64 (b : List (BitVec 8)) : wl b 64 = wa b 64 := by rw [wl_wa b 64 (Nat.le_refl _)]; simp

/-- The blocks of a text, one behind the other. -/
def blks (hs : List (BitVec 32)) (text : List (BitVec 8)) : Nat → List (BitVec 32)
  | 0 => hs
  | k + 1 => comp (blks hs text k) ((text.drop (64 * k)).take 64)
theorem blks_length (hs : List (BitVec 32)) (text : List (BitVec 8)) (k : Nat) : (blks hs text k).length = hs.length := by
  induction k with
  | zero => rfl
  | succ k ih => simp [blks, comp_length, ih]
theorem blks_succ (k : Nat) : ∀ (hs : List (BitVec 32)) (text : List (BitVec 8)), blks hs text (k + 1) = blks (comp hs (text.take 64)) (text.drop 64) k := by
  induction k with
  | zero => intro hs text; simp [blks]
  | succ k ih =>
    intro hs text
    rw [blks, ih hs text, blks, List.drop_drop, show 64 + 64 * k = 64 * (k + 1) by omega]
theorem blks_eat (k : Nat) : ∀ (hs : List (BitVec 32)) (text : List (BitVec 8)), text.length = 64 * k → blks hs text k = eat hs text := by
  induction k with
  | zero => intro hs text h; rw [eat_done hs text (by omega)]; rfl
  | succ k ih => intro hs text h; rw [blks_succ, eat_step hs text (by omega), ih _ _ (by simp; omega)]
/-- Behind the text: its number of bits. -/
def rtext (m : List (BitVec 8)) : List (BitVec 8) := zpad (m ++ [0x80#8]) ++ beP (BitVec.ofNat 64 m.length * 8#64) 8
theorem rtext_eq (m : List (BitVec 8)) : rtext m = tail m (BitVec.ofNat 64 m.length) := by unfold rtext tail; rw [BitVec.mul_comm]
def rdigest (m : List (BitVec 8)) : List (BitVec 8) := (blks H0 (rtext m) ((rtext m).length / 64)).flatMap bytes4
theorem tail_app (k : Nat) (a b : List (BitVec 8)) (cnt : BitVec 64) (h : a.length = 64 * k) : tail (a ++ b) cnt = a ++ tail b cnt := by
  unfold tail zpad
  have e : (a ++ b ++ [128#8]).length % 64 = (b ++ [128#8]).length % 64 := by simp only [List.length_append, List.length_cons, List.length_nil]; omega
  rw [e]; simp
theorem rdigest_eq (m : List (BitVec 8)) : rdigest m = digest m := by
  unfold rdigest digest fin
  rw [blks_eat _ _ _ (by have := tail_length m (BitVec.ofNat 64 m.length); rw [rtext_eq]; omega), rtext_eq]
  congr 1
  have hk : (m.take (64 * (m.length / 64))).length = 64 * (m.length / 64) := by rw [List.length_take]; omega
  have ht : tail m (BitVec.ofNat 64 m.length) = m.take (64 * (m.length / 64)) ++ tail (left m) (BitVec.ofNat 64 m.length) := by
    have := tail_app (m.length / 64) (m.take (64 * (m.length / 64))) (left m) (BitVec.ofNat 64 m.length) hk
    rwa [← split_left m] at this
  rw [ht, eat_append _ _ _ _ hk, eat_take]
end Go.Proofs.Ytklhogikokhdgaa.Sha
