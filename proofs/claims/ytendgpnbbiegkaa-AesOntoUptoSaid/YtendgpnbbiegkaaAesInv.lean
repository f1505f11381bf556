/-
  Deciphering undoes enciphering, and the other way round: plain Lean.
-/
import Derived.Test.YtendgpnbbiegkaaAesLin
set_option linter.all false
set_option linter.unusedSimpArgs false
set_option linter.unusedVariables false
namespace Go.Proofs.Ytendgpnbbiegkaa.Aes

theorem back_sub : ∀ x : BitVec 8, Sb (Bk x) = x := allB (p := fun x => Sb (Bk x) = x) (by decide +kernel)
theorem addB_length (b k : List (BitVec 8)) : (addB b k).length = 16 := by simp [addB]
theorem turnB_length (t : Nat) (b : List (BitVec 8)) : (turnB t b).length = 16 := by simp [turnB]
theorem mixB_length (f b : List (BitVec 8)) : (mixB f b).length = 16 := by simp [mixB]
theorem eachB_length (S : BitVec 8 → BitVec 8) (b : List (BitVec 8)) : (eachB S b).length = b.length := by simp [eachB]
theorem xx (a k : BitVec 8) : a ^^^ k ^^^ k = a := by rw [BitVec.xor_assoc, BitVec.xor_self, BitVec.xor_zero]
theorem addB_eq (k : List (BitVec 8)) (a b c d e f g i j l m n o p q r : BitVec 8) : addB [a, b, c, d, e, f, g, i, j, l, m, n, o, p, q, r] k =
    [a ^^^ k[0]!, b ^^^ k[1]!, c ^^^ k[2]!, d ^^^ k[3]!, e ^^^ k[4]!, f ^^^ k[5]!, g ^^^ k[6]!, i ^^^ k[7]!, j ^^^ k[8]!, l ^^^ k[9]!, m ^^^ k[10]!, n ^^^ k[11]!, o ^^^ k[12]!, p ^^^ k[13]!, q ^^^ k[14]!, r ^^^ k[15]!] := rfl
theorem add_add (k b : List (BitVec 8)) (h : b.length = 16) : addB (addB b k) k = b := by
  obtain ⟨a, b, c, d, e, f, g, i, j, l, m, n, o, p, q, r, rfl⟩ := sixteen h
  rw [addB_eq, addB_eq]
  simp only [xx]
theorem turn31 (b : List (BitVec 8)) (h : b.length = 16) : turnB 3 (turnB 1 b) = b := by
  obtain ⟨a, b, c, d, e, f, g, i, j, l, m, n, o, p, q, r, rfl⟩ := sixteen h
  rfl
theorem turn13 (b : List (BitVec 8)) (h : b.length = 16) : turnB 1 (turnB 3 b) = b := by
  obtain ⟨a, b, c, d, e, f, g, i, j, l, m, n, o, p, q, r, rfl⟩ := sixteen h
  rfl
theorem each_inv (b : List (BitVec 8)) : eachB Bk (eachB Sb b) = b := by
  unfold eachB; rw [List.map_map, show (Bk ∘ Sb) = id from funext sub_back, List.map_id]
theorem each_fwd (b : List (BitVec 8)) : eachB Sb (eachB Bk b) = b := by
  unfold eachB; rw [List.map_map, show (Sb ∘ Bk) = id from funext back_sub, List.map_id]
theorem rnd_length (key b : List (BitVec 8)) (r : Nat) : (rnd key b r).length = 16 := addB_length _ _
theorem dnr_length (key b : List (BitVec 8)) (r : Nat) : (dnr key b r).length = 16 := by unfold dnr; rw [eachB_length, turnB_length]
theorem dnr_rnd (key b : List (BitVec 8)) (r : Nat) (h : b.length = 16) : dnr key (rnd key b r) r = b := by
  have h1 := (eachB_length Sb b).trans h
  have h2 := turnB_length 1 (eachB Sb b)
  unfold dnr rnd
  split
  · rw [add_add _ _ (mixB_length _ _)]; dsimp only; rw [mix_inv _ h2, turn31 _ h1, each_inv]
  · rw [add_add _ _ h2]; dsimp only; rw [turn31 _ h1, each_inv]
theorem rnd_dnr (key b : List (BitVec 8)) (r : Nat) (h : b.length = 16) : rnd key (dnr key b r) r = b := by
  have h1 := addB_length b (keyOf key r)
  unfold dnr rnd
  split
  · rw [each_fwd, turn13 _ (mixB_length _ _)]; dsimp only; rw [mix_fwd _ h1, add_add _ _ h]
  · rw [each_fwd, turn13 _ h1]; dsimp only; rw [add_add _ _ h]
def encN (key : List (BitVec 8)) (b : List (BitVec 8)) (n : Nat) : List (BitVec 8) := (List.range n).foldl (fun b r => rnd key b (r + 1)) b
theorem encN_length (key b : List (BitVec 8)) (h : b.length = 16) (n : Nat) : (encN key b n).length = 16 := by
  cases n with
  | zero => exact h
  | succ n => unfold encN; rw [List.range_succ, List.foldl_append]; exact rnd_length _ _ _
def decN (key : List (BitVec 8)) (b : List (BitVec 8)) (n : Nat) : List (BitVec 8) := (List.range n).foldl (fun b r => dnr key b (10 - r)) b
theorem decN_length (key b : List (BitVec 8)) (h : b.length = 16) (n : Nat) : (decN key b n).length = 16 := by
  cases n with
  | zero => exact h
  | succ n => unfold decN; rw [List.range_succ, List.foldl_append]; exact dnr_length _ _ _
theorem encN_succ (key b : List (BitVec 8)) (n : Nat) : encN key b (n + 1) = rnd key (encN key b n) (n + 1) := by unfold encN; rw [List.range_succ, List.foldl_append]; rfl
theorem decN_succ (key b : List (BitVec 8)) (n : Nat) : decN key b (n + 1) = dnr key (decN key b n) (10 - n) := by unfold decN; rw [List.range_succ, List.foldl_append]; rfl
theorem encN_zero (key b : List (BitVec 8)) : encN key b 0 = b := rfl
theorem decN_zero (key b : List (BitVec 8)) : decN key b 0 = b := rfl
theorem enc_def (key b : List (BitVec 8)) : enc key b = encN key (addB b (keyOf key 0)) 10 := rfl
theorem dec_def (key b : List (BitVec 8)) : dec key b = addB (decN key b 10) (keyOf key 0) := rfl
attribute [local irreducible] encN decN enc dec
theorem decN_encN (key b : List (BitVec 8)) (h : b.length = 16) (n : Nat) : ∀ t, n ≤ t → t = 10 → decN key (encN key b t) n = encN key b (t - n) := by
  induction n with
  | zero => intro t _ _; rw [decN_zero, Nat.sub_zero]
  | succ n ih =>
    intro t hn ht
    rw [decN_succ, ih t (by omega) ht]
    obtain ⟨m, hm⟩ : ∃ m, t - n = m + 1 := ⟨t - n - 1, by omega⟩
    rw [hm, show 10 - n = m + 1 by omega, encN_succ, dnr_rnd _ _ _ (encN_length key b h m), show t - (n + 1) = m by omega]
theorem encN_decN (key b : List (BitVec 8)) (h : b.length = 16) (n : Nat) : ∀ t, n ≤ t → t = 10 → encN key (decN key b t) n = decN key b (t - n) := by
  induction n with
  | zero => intro t _ _; rw [encN_zero, Nat.sub_zero]
  | succ n ih =>
    intro t hn ht
    rw [encN_succ, ih t (by omega) ht]
    obtain ⟨m, hm⟩ : ∃ m, t - n = m + 1 := ⟨t - n - 1, by omega⟩
    rw [hm, decN_succ, show 10 - m = n + 1 by omega, rnd_dnr _ _ _ (decN_length key b h m), show t - (n + 1) = m by omega]
theorem enc_length (key b : List (BitVec 8)) : (enc key b).length = 16 := by rw [enc_def]; exact encN_length key _ (addB_length _ _) 10
theorem dec_length (key b : List (BitVec 8)) : (dec key b).length = 16 := by rw [dec_def]; exact addB_length _ _
theorem dec_enc (key b : List (BitVec 8)) (h : b.length = 16) : dec key (enc key b) = b := by
  rw [enc_def, dec_def, decN_encN key _ (addB_length _ _) 10 10 (Nat.le_refl _) rfl, Nat.sub_self, encN_zero]
  exact add_add _ _ h
theorem enc_dec (key b : List (BitVec 8)) (h : b.length = 16) : enc key (dec key b) = b := by
  rw [dec_def, enc_def, add_add _ _ (decN_length key b h 10), encN_decN key b h 10 10 (Nat.le_refl _) rfl, Nat.sub_self, decN_zero]
end Go.Proofs.Ytendgpnbbiegkaa.Aes
