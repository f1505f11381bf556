/-
  No cell of these rows narrows 'for every input' (looked for: loops, veiled, ifaces, maps, wideKeys, modest, calm, conditions, laid).
  DERIVED. THE GIVEN ROWS OF THIS SEAT. 4 by the template 'for every input the law returns true; each argument reads behind the call as it read before'; 0 by the template 'total and deterministic' (their statements: YtklhogikokhdgaaTotals.lean).
  GIVEN WITH THE SEED: the statements are not yours to turn. If you find one false, say at which input.
  Laid BY PROGRAM, IN A SANDBOX (cutbox-rows.mjs): the forced cells as the released guide's own fill.sh prints them over the translation acd99354b9ef7b0d… (all of the seat's roots in one cut). By AI agents, Wed Nov 11 2026. No macro, syntax, notation, axiom, sorry.
-/
import Derived.Test.YtklhogikokhdgaaChecked
import GoSem.Claim
import GoSem.ClaimJoined
import GoSem.ClaimMapViews
import Derived.JoinedTies
import Derived.KernelRfl
namespace Go.Proofs.Ytklhogikokhdgaa
/- THE CELL 'sum', in the pinned program and in every row, IS THE sha256 OF THE DUMP (.gsa) THAT YtklhogikokhdgaaProg.lean LOADS. Nothing in Lean hashes anything: it is a label: what it is worth is what the hold of that sum in a sandbox is worth. -/
noncomputable def Try.pinned : Pinned := { name := "ytklhogikokhdgaa", sum := "acd99354b9ef7b0d4167ed59991d34ebe88c1b5ff96801ea9e0ab7a6097dfa2f", checked := Try.checked }
namespace Rows
def none {H : Type} : Left H := { results := [], args := [] }

/-- 'stowagelaw03.ShaDigests': WHATEVER THE INPUT: true; the input reads as it did. -/
def shaDigestsSpec : ChangeSpec := { name := "shaDigests", fn := fun _ => fun
  | [d] => { results := [.lit (.bool true)], args := [d] }
  | _ => none }
def shaDigestsRow : OpenClaim := { program := "ytklhogikokhdgaa", sum := "acd99354b9ef7b0d4167ed59991d34ebe88c1b5ff96801ea9e0ab7a6097dfa2f", func := "stowage/stowagelaw03.ShaDigests", spec := "shaDigests", apart := false }
def ShaDigestsSaid : Prop := shaDigestsRow.holds Try.pinned (OpenSpec.ofChange shaDigestsSpec)

/-- ITS FALSE NEIGHBOUR: 'it returns false'. Refute it at one input. -/
def shaDigestsWrong : ChangeSpec := { name := "shaDigests", fn := fun _ => fun
  | [d] => { results := [.lit (.bool false)], args := [d] }
  | _ => none }
def ShaDigestsWrongFalsely : Prop := shaDigestsRow.holds Try.pinned (OpenSpec.ofChange shaDigestsWrong)

/-- 'stowagelaw03.ShaParts': WHATEVER THE INPUT: true; the input reads as it did. -/
def shaPartsSpec : ChangeSpec := { name := "shaParts", fn := fun _ => fun
  | [d] => { results := [.lit (.bool true)], args := [d] }
  | _ => none }
def shaPartsRow : OpenClaim := { program := "ytklhogikokhdgaa", sum := "acd99354b9ef7b0d4167ed59991d34ebe88c1b5ff96801ea9e0ab7a6097dfa2f", func := "stowage/stowagelaw03.ShaParts", spec := "shaParts", apart := false }
def ShaPartsSaid : Prop := shaPartsRow.holds Try.pinned (OpenSpec.ofChange shaPartsSpec)

/-- ITS FALSE NEIGHBOUR: 'it returns false'. Refute it at one input. -/
def shaPartsWrong : ChangeSpec := { name := "shaParts", fn := fun _ => fun
  | [d] => { results := [.lit (.bool false)], args := [d] }
  | _ => none }
def ShaPartsWrongFalsely : Prop := shaPartsRow.holds Try.pinned (OpenSpec.ofChange shaPartsWrong)

/-- 'stowagelaw03.ShaTwo': WHATEVER THE INPUT: true; the input reads as it did. -/
def shaTwoSpec : ChangeSpec := { name := "shaTwo", fn := fun _ => fun
  | [d1, d2] => { results := [.lit (.bool true)], args := [d1, d2] }
  | _ => none }
def shaTwoRow : OpenClaim := { program := "ytklhogikokhdgaa", sum := "acd99354b9ef7b0d4167ed59991d34ebe88c1b5ff96801ea9e0ab7a6097dfa2f", func := "stowage/stowagelaw03.ShaTwo", spec := "shaTwo", apart := false }
def ShaTwoSaid : Prop := shaTwoRow.holds Try.pinned (OpenSpec.ofChange shaTwoSpec)

/-- ITS FALSE NEIGHBOUR: 'it returns false'. Refute it at one input. -/
def shaTwoWrong : ChangeSpec := { name := "shaTwo", fn := fun _ => fun
  | [d1, d2] => { results := [.lit (.bool false)], args := [d1, d2] }
  | _ => none }
def ShaTwoWrongFalsely : Prop := shaTwoRow.holds Try.pinned (OpenSpec.ofChange shaTwoWrong)

/-- 'stowagelaw03.ShaBytes': WHATEVER THE INPUT: true; the input reads as it did. -/
def shaBytesSpec : ChangeSpec := { name := "shaBytes", fn := fun _ => fun
  | [d] => { results := [.lit (.bool true)], args := [d] }
  | _ => none }
def shaBytesRow : OpenClaim := { program := "ytklhogikokhdgaa", sum := "acd99354b9ef7b0d4167ed59991d34ebe88c1b5ff96801ea9e0ab7a6097dfa2f", func := "stowage/stowagelaw03.ShaBytes", spec := "shaBytes", apart := false }
def ShaBytesSaid : Prop := shaBytesRow.holds Try.pinned (OpenSpec.ofChange shaBytesSpec)

/-- ITS FALSE NEIGHBOUR: 'it returns false'. Refute it at one input. -/
def shaBytesWrong : ChangeSpec := { name := "shaBytes", fn := fun _ => fun
  | [d] => { results := [.lit (.bool false)], args := [d] }
  | _ => none }
def ShaBytesWrongFalsely : Prop := shaBytesRow.holds Try.pinned (OpenSpec.ofChange shaBytesWrong)

/- THE SECOND FORM. 'bulk': how many values and letters a reading holds, each counted each time it is reached (what is shared counts as often as it is met; a slice's spare places count too). A statement '..UptoSaid' is the law's where the arguments, and the package variables that the reading takes, are together of bulk at most 1048576: NARROWER than '..Said'. Prove '..Said' where nothing that the law and all that it calls make is longer than what came in: it says more and counts as full. Else prove '..UptoSaid'. A law counts once. -/
mutual
def uptoBulk {H : Type} : DataW H → Nat
  | .lit (.string bytes) => bytes.length + 1
  | .lit _ => 1
  | .nil => 1
  | .ptr d => uptoBulk d + 1
  | .slice elems spare => uptoBulkAll elems + uptoBulkAll spare + 1
  | .agg parts => uptoBulkAll parts + 1
  | .iface _ d => uptoBulk d + 1
  | .map entries => uptoBulkEntries entries + 1
  | .held _ => 1
def uptoBulkAll {H : Type} : List (DataW H) → Nat
  | [] => 0
  | d :: r => uptoBulk d + uptoBulkAll r
def uptoBulkEntries {H : Type} : List (Lit × DataW H) → Nat
  | [] => 0
  | x :: r => uptoBulkEntry x + uptoBulkEntries r
def uptoBulkEntry {H : Type} : Lit × DataW H → Nat
  | (.string bytes, d) => bytes.length + uptoBulk d + 1
  | (_, d) => uptoBulk d + 1
 end
def uptoSmall : (H : Type) → List (DataW H) → Bool := fun _ ds => decide (uptoBulkAll ds ≤ 1048576)
def OpenSpec.upto (s : _root_.Go.ChangeSpec) : _root_.Go.OpenSpec := { _root_.Go.OpenSpec.ofChange s with cond := some uptoSmall }

/-- 'stowagelaw03.ShaDigests', WHERE WHAT IT READS IS OF BULK AT MOST 1048576: true; the input reads as it did. -/
def shaDigestsUptoRow : OpenClaim := { program := "ytklhogikokhdgaa", sum := "acd99354b9ef7b0d4167ed59991d34ebe88c1b5ff96801ea9e0ab7a6097dfa2f", func := "stowage/stowagelaw03.ShaDigests", spec := "shaDigests", apart := false, narrowed := true }
def ShaDigestsUptoSaid : Prop := shaDigestsUptoRow.holds Try.pinned (OpenSpec.upto shaDigestsSpec)

/-- 'stowagelaw03.ShaParts', WHERE WHAT IT READS IS OF BULK AT MOST 1048576: true; the input reads as it did. -/
def shaPartsUptoRow : OpenClaim := { program := "ytklhogikokhdgaa", sum := "acd99354b9ef7b0d4167ed59991d34ebe88c1b5ff96801ea9e0ab7a6097dfa2f", func := "stowage/stowagelaw03.ShaParts", spec := "shaParts", apart := false, narrowed := true }
def ShaPartsUptoSaid : Prop := shaPartsUptoRow.holds Try.pinned (OpenSpec.upto shaPartsSpec)

/-- 'stowagelaw03.ShaTwo', WHERE WHAT IT READS IS OF BULK AT MOST 1048576: true; the input reads as it did. -/
def shaTwoUptoRow : OpenClaim := { program := "ytklhogikokhdgaa", sum := "acd99354b9ef7b0d4167ed59991d34ebe88c1b5ff96801ea9e0ab7a6097dfa2f", func := "stowage/stowagelaw03.ShaTwo", spec := "shaTwo", apart := false, narrowed := true }
def ShaTwoUptoSaid : Prop := shaTwoUptoRow.holds Try.pinned (OpenSpec.upto shaTwoSpec)

/-- 'stowagelaw03.ShaBytes', WHERE WHAT IT READS IS OF BULK AT MOST 1048576: true; the input reads as it did. -/
def shaBytesUptoRow : OpenClaim := { program := "ytklhogikokhdgaa", sum := "acd99354b9ef7b0d4167ed59991d34ebe88c1b5ff96801ea9e0ab7a6097dfa2f", func := "stowage/stowagelaw03.ShaBytes", spec := "shaBytes", apart := false, narrowed := true }
def ShaBytesUptoSaid : Prop := shaBytesUptoRow.holds Try.pinned (OpenSpec.upto shaBytesSpec)

end Rows
end Go.Proofs.Ytklhogikokhdgaa
