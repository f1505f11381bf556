/-
  A hash by what was written into it.
-/
import Derived.Test.YtklhogikokhdgaaShaDig
import Derived.Test.YtklhogikokhdgaaSxJ
set_option linter.all false
set_option linter.unusedSimpArgs false
set_option linter.unusedVariables false
namespace Go.Proofs.Ytklhogikokhdgaa
open Go Sx
attribute [local irreducible] Yl Ef SL SH SC SQ FnC Bin RdS
open Sha
theorem swapH (p q : Nat × Obj) (A B L : Hs) : Sx.Sub (q :: (B ++ (p :: (A ++ L)))) (p :: (A ++ (q :: (B ++ L)))) := Sub.of_perm (List.perm_append_comm_assoc (p :: A) (q :: B) L)
/-- The block of a hash into which m was written. -/
@[reducible] def mobj (m : List (BitVec 8)) (rest : Value) : Obj := hobj (eat H0 m) rest (BitVec.ofNat 64 m.length)
theorem newM_fn (E : World) (L : Hs) : FnC C E 10 #[] L fun v N => ∃ S, v = .pointer (some ⟨S, 0, none⟩) ∧ N = (S, mobj [] (.slice none 0 0)) :: ([] ++ L) := by
  have h := new_fn E L
  rw [show hobj H0 (.slice none 0 0) 0#64 = mobj [] (.slice none 0 0) by unfold mobj; rw [eat_done H0 [] (by decide)]; rfl] at h
  exact h
theorem ownM_nil : OwS vB 5 (.slice none 0 0) (left []) [] := OwS.nil _ _
theorem writeM_fn (E : World) (S : Nat) (sl : Value) (ys m : List (BitVec 8)) (rest : Value) (ch : Hs) (L M : Hs) (hO : OwS vB 5 rest (left m) ch) (hr : RdS vB M sl ys) (hM : M ⊆ L) (hn : ys.length ≤ 70368744177664) :
    FnC C E 11 #[.pointer (some ⟨S, 0, none⟩), sl] ((S, mobj m rest) :: (ch ++ L))
      fun v N => v = .tuple #[] ∧ ∃ rest' ch', OwS vB 5 rest' (left (m ++ ys)) ch' ∧ N = (S, mobj (m ++ ys) rest') :: (ch' ++ L) := by
  have h := write_fn E S sl ys (eat H0 m) ((eat_length _ _).trans rfl) rest (left m) ch (BitVec.ofNat 64 m.length) L M hO hr hM (by have := left_length m; omega)
  rw [← left_more, ← eat_more, show BitVec.ofNat 64 m.length + BitVec.ofNat 64 ys.length = BitVec.ofNat 64 (m ++ ys).length by rw [List.length_append, BitVec.ofNat_add]] at h
  exact h
theorem sumM_fn (E : World) (S : Nat) (m : List (BitVec 8)) (rest : Value) (ch L : Hs) (hO : OwS vB 5 rest (left m) ch) :
    FnC C E 12 #[.pointer (some ⟨S, 0, none⟩)] ((S, mobj m rest) :: (ch ++ L))
      fun v N => v = .agg ⟨(digest m).map vB⟩ ∧ N = (S, mobj m rest) :: (ch ++ L) :=
  sum_fn E S (eat H0 m) ((eat_length _ _).trans rfl) rest (left m) ch (BitVec.ofNat 64 m.length) L hO (by have := left_length m; omega)
end Go.Proofs.Ytklhogikokhdgaa
