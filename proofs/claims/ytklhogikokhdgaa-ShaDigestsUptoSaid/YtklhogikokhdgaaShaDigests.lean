/-
  PROVED HERE: ShaDigestsUptoSaid: the law 'stowagelaw03.ShaDigests' answers true wherever its argument is of bulk at most 1048576, and the argument reads as it did.
-/
import Derived.Test.YtklhogikokhdgaaRows
import Derived.Test.YtklhogikokhdgaaSxR
import Derived.Test.YtklhogikokhdgaaShaLaw
import Derived.WalkKit
import Derived.ProofKit
import Derived.OpenShut
import Derived.JoinedCond
namespace Go.Proofs.Ytklhogikokhdgaa.shaDigests
open Go.ChangeShapes Go.WideShapes Go.ChangeAt Go.RowKit
set_option linter.unusedVariables false

theorem own : ownKnob Try.prog.godebug = none := by kernel_rfl
theorem bulk_len {H : Type} : ∀ l : List (DataW H), l.length ≤ Rows.uptoBulkAll l
  | [] => Nat.zero_le _
  | d :: l => by
    have h1 := bulk_len l
    have h2 : 1 ≤ Rows.uptoBulk d := by
      cases d with
      | lit l => cases l <;> simp [Rows.uptoBulk]
      | _ => simp [Rows.uptoBulk]
    simp only [Rows.uptoBulkAll, List.length_cons]
    omega
theorem bulk_bytes {H : Type} {d : DataW H} {xs : List (BitVec 8)} (h : d = .nil ∧ xs = [] ∨ ∃ els sp, d = .slice els sp ∧ els.length = xs.length) : xs.length ≤ Rows.uptoBulk d := by
  rcases h with ⟨rfl, rfl⟩ | ⟨els, sp, rfl, h⟩
  · exact Nat.zero_le _
  · have := bulk_len els
    simp only [Rows.uptoBulk]
    omega
theorem laid : laidOutB Try.prog = true := by kernel_rfl

theorem contract (H : Type) (enc : TypeId × Value → H) (W : World) (base : Nat) (args : Array Value) (ds gs : List (DataW H)) (before : List MemPlace)
    (hval : ∀ (j : Nat) t v, Try.f3.params[j]? = some t → args[j]? = some v → Value.okWide Try.prog W .any base t v)
    (hW : DataW.Whole enc Try.prog Try.f3.params.toList Rows.shaDigestsSpec.vars false W args.toList ds gs before) (hk : Rows.uptoSmall H (ds ++ gs) = true) :
    Calls Try.prog 3 args W fun e W' => ∃ v, e = .returned v ∧ Rows.shaDigestsSpec.post enc Try.prog Try.f3 false true false false W args v W' := by
  have hW' := hW
  obtain ⟨p, q, hA0, hV, rfl, hfz, hnd⟩ := hW
  have hA : DataW.TrodAll enc Try.prog W 0 (fun _ => true) true Try.f3.params.toList args.toList ds p := hA0
  rw [Try.params3] at hA hval
  obtain ⟨v0, vs0, d0, ds0, p0, q0, hargs, rfl, rfl, h0, r0⟩ := trodAll_cons hA
  obtain ⟨rfl, rfl, rfl⟩ := trodAll_nil r0
  obtain rfl : args = #[v0] := by cases args; simp_all
  obtain ⟨rfl, rfl⟩ := trodVars_none hV
  obtain ⟨xs, hr, hd⟩ := Sx.open_bytes Try.underlying22 Try.underlying5 (by kernel_rfl) (hval 0 22 v0 rfl rfl) h0
  have hb := bulk_bytes hd
  have hn : xs.length ≤ 1048576 := by
    simp [Rows.uptoSmall, Rows.uptoBulkAll] at hk
    omega
  refine (shaDigests_fn W v0 xs (Sx.allH W) (Sx.allH W) hr (List.Subset.refl _) (by omega) W (Sx.hp_allH W)).mono fun e W' ⟨v, L', he, ⟨hv, hL⟩, hp⟩ => ?_
  subst hv; subst hL
  exact ⟨_, he, Sx.row_post hW' rfl rfl (by kernel_rfl) Try.underlying4 laid (by
    rw [Try.params3]
    intro t ht
    obtain rfl : t = 22 := by simpa using ht
    exact ⟨of_decide_eq_true (by kernel_rfl), by kernel_rfl⟩) hp⟩

set_option maxRecDepth 100000 in
theorem lifted (os : Os) (started : os.Started) (H : Type) (enc : TypeId × Value → H) (F : Stop.Interp) :
    ReturnsInHanded {} Try.checked os 3 .any ((Rows.OpenSpec.upto Rows.shaDigestsSpec).pre6 enc Try.prog Try.f3 Rows.shaDigestsUptoRow.domain false) (((Rows.OpenSpec.upto Rows.shaDigestsSpec).at F).post enc Try.prog Try.f3 false true false false) := by
  refine returnsInHanded_of_cond (C := Try.checked) (s := Rows.OpenSpec.upto Rows.shaDigestsSpec) (k := Rows.uptoSmall) rfl own started (by kernel_rfl) Try.func3
    (OpenSpec.witness (enc := enc) (C := Try.checked) (s := Rows.OpenSpec.upto Rows.shaDigestsSpec) (k := Rows.uptoSmall) rfl false ⟨#[], #[.slice none 0 0], []⟩ 8 (by kernel_rfl) (by kernel_rfl) (by kernel_rfl)
      (x := ([.nil], [], [])) (by kernel_rfl) rfl (by kernel_rfl)) ?_
  intro W base args ds gs before hval hW _ hk _
  exact contract H enc W base args ds gs before hval hW hk

theorem over : Rows.shaDigestsUptoRow.holds Try.pinned (Rows.OpenSpec.upto Rows.shaDigestsSpec) :=
  OpenClaim.holds_of_cond 3 Try.f3 rfl rfl rfl rfl rfl rfl rfl ⟨rfl, rfl, rfl, rfl, rfl⟩ rfl rfl rfl rfl rfl (by kernel_rfl) Try.func3 (by kernel_rfl)
    (of_decide_eq_true (by kernel_rfl)) (by unfold Func.isWrapper; first | (rw [if_pos (by decide +kernel)]; kernel_rfl) | (rw [if_neg (by decide +kernel)]; exact ⟨rfl, rfl⟩))
    (fun os started H enc _ F => lifted os started H enc F)

theorem proved : Rows.ShaDigestsUptoSaid :=
  over
end Go.Proofs.Ytklhogikokhdgaa.shaDigests
