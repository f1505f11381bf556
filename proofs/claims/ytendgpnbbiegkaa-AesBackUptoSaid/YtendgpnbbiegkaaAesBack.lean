/-
  PROVED HERE: AesBackUptoSaid: the law 'stowagelaw05.AesBack' answers true wherever its arguments are together of bulk at most 1048576, and the arguments read as they did.
-/
import Derived.Test.YtendgpnbbiegkaaRows
import Derived.Test.YtendgpnbbiegkaaSxR
import Derived.Test.YtendgpnbbiegkaaAesG
import Derived.WalkKit
import Derived.ProofKit
import Derived.OpenShut
import Derived.JoinedCond
set_option linter.all false
set_option linter.unusedSimpArgs false
set_option linter.unusedVariables false
namespace Go.Proofs.Ytendgpnbbiegkaa.aesBack
open Go.ChangeShapes Go.WideShapes Go.ChangeAt Go.RowKit
set_option linter.unusedVariables false

theorem own : ownKnob Try.prog.godebug = none := by kernel_rfl
theorem bulk_len {H : Type} : ∀ l : List (DataW H), l.length ≤ Rows.uptoBulkAll l
  | [] => Nat.zero_le _
  | d :: l => by
    have h1 := bulk_len l
    have h2 : 1 ≤ Rows.uptoBulk d := by
      cases d with
      | lit l => cases l <;> simp [Rows.uptoBulk]
      | _ => simp [Rows.uptoBulk]
    simp only [Rows.uptoBulkAll, List.length_cons]
    omega
theorem bulk_bytes {H : Type} {d : DataW H} {xs : List (BitVec 8)} (h : d = .nil ∧ xs = [] ∨ ∃ els sp, d = .slice els sp ∧ els.length = xs.length) : xs.length ≤ Rows.uptoBulk d := by
  rcases h with ⟨rfl, rfl⟩ | ⟨els, sp, rfl, h⟩
  · exact Nat.zero_le _
  · have := bulk_len els
    simp only [Rows.uptoBulk]
    omega
theorem laid : laidOutB Try.prog = true := by kernel_rfl

theorem contract (H : Type) (enc : TypeId × Value → H) (W : World) (base : Nat) (args : Array Value) (ds gs : List (DataW H)) (before : List MemPlace)
    (hval : ∀ (j : Nat) t v, Try.f9.params[j]? = some t → args[j]? = some v → Value.okWide Try.prog W .any base t v)
    (hW : DataW.Whole enc Try.prog Try.f9.params.toList Rows.aesBackSpec.vars false W args.toList ds gs before) (hk : Rows.uptoSmall H (ds ++ gs) = true) :
    Calls Try.prog 9 args W fun e W' => ∃ v, e = .returned v ∧ Rows.aesBackSpec.post enc Try.prog Try.f9 false true false false W args v W' := by
  have hW' := hW
  obtain ⟨p, q, hA0, hV, rfl, hfz, hnd⟩ := hW
  have hA : DataW.TrodAll enc Try.prog W 0 (fun _ => true) true Try.f9.params.toList args.toList ds p := hA0
  rw [Try.params9] at hA hval
  obtain ⟨v0, vs0, d0, ds0, p0, q0, hargs0, rfl, rfl, h0, c0⟩ := trodAll_cons hA
  obtain ⟨v1, vs1, d1, ds1, p1, q1, rfl, rfl, rfl, h1, c1⟩ := trodAll_cons c0
  obtain ⟨rfl, rfl, rfl⟩ := trodAll_nil c1
  obtain rfl : args = #[v0, v1] := by cases args; simp_all
  obtain ⟨rfl, rfl⟩ := trodVars_none hV
  obtain ⟨x0, r0, e0⟩ := Sx.open_bytes Try.underlying22 Try.underlying5 (by kernel_rfl) (hval 0 22 v0 rfl rfl) h0
  have b0 := bulk_bytes e0
  have n0 : x0.length ≤ 1048576 := by
    simp [Rows.uptoSmall, Rows.uptoBulkAll] at hk
    omega
  obtain ⟨x1, r1, e1⟩ := Sx.open_bytes Try.underlying22 Try.underlying5 (by kernel_rfl) (hval 1 22 v1 rfl rfl) h1
  have b1 := bulk_bytes e1
  have n1 : x1.length ≤ 1048576 := by
    simp [Rows.uptoSmall, Rows.uptoBulkAll] at hk
    omega
  refine (Sx.FnS.law (aesBack_fn W v0 v1 x0 x1 (Sx.allH W) r0.rdB r1.rdB) (List.Subset.refl _) W (Sx.hp_allH W)).mono fun e W' ⟨v, L', he, ⟨hv, hL⟩, hp⟩ => ?_
  subst hv; subst hL
  exact ⟨_, he, Sx.row_post hW' rfl rfl (by kernel_rfl) Try.underlying4 laid (by
    rw [Try.params9]
    intro t ht
    simp only [List.mem_cons, List.not_mem_nil, or_false] at ht
    rcases ht with rfl | rfl
    all_goals exact ⟨of_decide_eq_true (by kernel_rfl), by kernel_rfl⟩) hp⟩

set_option maxRecDepth 100000 in
theorem lifted (os : Os) (started : os.Started) (H : Type) (enc : TypeId × Value → H) (F : Stop.Interp) :
    ReturnsInHanded {} Try.checked os 9 .any ((Rows.OpenSpec.upto Rows.aesBackSpec).pre6 enc Try.prog Try.f9 Rows.aesBackUptoRow.domain false) (((Rows.OpenSpec.upto Rows.aesBackSpec).at F).post enc Try.prog Try.f9 false true false false) := by
  refine returnsInHanded_of_cond (C := Try.checked) (s := Rows.OpenSpec.upto Rows.aesBackSpec) (k := Rows.uptoSmall) rfl own started (by kernel_rfl) Try.func9
    (OpenSpec.witness (enc := enc) (C := Try.checked) (s := Rows.OpenSpec.upto Rows.aesBackSpec) (k := Rows.uptoSmall) rfl false ⟨#[], #[.slice none 0 0, .slice none 0 0], []⟩ 8 (by kernel_rfl) (by kernel_rfl) (by kernel_rfl)
      (x := ([.nil, .nil], [], [])) (by kernel_rfl) rfl (by kernel_rfl)) ?_
  intro W base args ds gs before hval hW _ hk _
  exact contract H enc W base args ds gs before hval hW hk

theorem over : Rows.aesBackUptoRow.holds Try.pinned (Rows.OpenSpec.upto Rows.aesBackSpec) :=
  OpenClaim.holds_of_cond 9 Try.f9 rfl rfl rfl rfl rfl rfl rfl ⟨rfl, rfl, rfl, rfl, rfl⟩ rfl rfl rfl rfl rfl (by kernel_rfl) Try.func9 (by kernel_rfl)
    (of_decide_eq_true (by kernel_rfl)) (by unfold Func.isWrapper; first | (rw [if_pos (by decide +kernel)]; kernel_rfl) | (rw [if_neg (by decide +kernel)]; exact ⟨rfl, rfl⟩))
    (fun os started H enc _ F => lifted os started H enc F)

theorem proved : Rows.AesBackUptoSaid :=
  over
end Go.Proofs.Ytendgpnbbiegkaa.aesBack
