/-
  Regions whose order is open, by a plan: operations that read no memory first, in an order that may be taken; then those whose order is forced.
-/
import Derived.Test.YtendgpnbbiegkaaSyG
set_option linter.all false
set_option linter.unusedSimpArgs false
set_option linter.unusedVariables false
namespace Go.Proofs.Ytendgpnbbiegkaa.Sx
open Go

section
variable {C : Ctx} {E : World} {σ : SEnv} {H : List HI} {L : Hs} {n : Nat} {Q : Exit → Act → World → Prop}
/-- Operations that read no memory. -/
def runP (C : Ctx) (n : Nat) (zs : List Nat) : List Oper → SEnv → Option (SEnv × Prop)
  | [], σ => some (σ, True)
  | o :: r, σ => match o.guard, o.dst with
    | none, some d => match stepV C (inN zs (some d)) σ [] o.op with
      | some (v, P) => cond (Nat.blt d n) (match runP C n zs r ((d, v) :: σ) with
        | some (σ', P') => some (σ', P ∧ P')
        | none => none) none
      | none => none
    | _, _ => none
def planF (md : Region.Mode) (ops : Array Oper) : List Nat → Array Bool → Bool
  | i :: fs, listed => decide (Region.ready md ops listed = [i]) && planF md ops fs (listed.setIfInBounds i true)
  | [], listed => (Region.ready md ops listed).isEmpty
def planPB (md : Region.Mode) (ops : Array Oper) (fs : List Nat) : List Nat → Array Bool → Bool
  | i :: ps, listed => (Region.ready md ops listed).contains i && Region.free md ops listed i && planPB md ops fs ps (listed.setIfInBounds i true)
  | [], listed => planF md ops fs listed
def opsAt (ops : List Oper) : List Nat → Option (List Oper)
  | [] => some []
  | i :: r => match nth ops i, opsAt ops r with
    | some o, some l => some (o :: l)
    | _, _ => none
theorem forced_any {md : Region.Mode} {ops : Array Oper} {Q : Exit → Act → World → Prop} : ∀ (fs : List Nat) (l : List Oper) (listed : Array Bool) (a : Act) (w : World), opsAt ops.toList fs = some l → planF md ops fs listed = true →
    wpList C.P ops Q l a w → wpAny C.P md ops Q fs.length listed a w
  | [], l, listed, a, w, hl, hB, h => by
    simp only [opsAt, Option.some.injEq] at hl; subst hl
    exact ⟨by simpa [planF] using hB, h⟩
  | i :: fs, l, listed, a, w, hl, hB, h => by
    unfold opsAt at hl
    split at hl
    case h_2 => simp at hl
    rename_i o l' ho hl'
    simp only [Option.some.injEq] at hl; subst hl
    simp only [planF, Bool.and_eq_true, decide_eq_true_eq] at hB
    obtain ⟨h1, h2⟩ := hB
    refine ⟨fun h0 => (by rw [h1] at h0; cases h0), fun j hj => ?_⟩
    rw [h1] at hj
    obtain rfl : j = i := by simpa using hj
    have hoi : ops[j]? = some o := by rw [nth_eq] at ho; simpa using ho
    have hw : wpOp C.P ops Q j (wpList C.P ops Q l') a w := by unfold wpOp; simp only [hoi]; exact h
    exact wpOp_mono (fun a' w' h' => forced_any fs l' _ a' w' hl' h2 h') hw
theorem pure_any {md : Region.Mode} {ops : Array Oper} {Q : Exit → Act → World → Prop} (hs : Region.noSelect ops = true) (hQ : ∀ c a w, ¬ Q (.panic c) a w) {fs : List Nat} {lf : List Oper} (hlf : opsAt ops.toList fs = some lf) {zs : List Nat} {σ' : SEnv} :
    ∀ (ps : List Nat) (l : List Oper) (listed : Array Bool) (σ : SEnv) (P : Prop) (a : Act) (w : World), opsAt ops.toList ps = some l → planPB md ops fs ps listed = true → runP C n zs l σ = some (σ', P) → P → Fits n (env σ) a →
      (∀ a, Fits n (env σ') a → wpList C.P ops Q lf a w) → wpAny C.P md ops Q (ps.length + fs.length) listed a w
  | [], l, listed, σ, P, a, w, hl, hB, hr, hP, hf, k => by
    simp only [opsAt, Option.some.injEq] at hl; subst hl
    simp only [runP, Option.some.injEq, Prod.mk.injEq] at hr; obtain ⟨rfl, rfl⟩ := hr
    have := forced_any (C := C) (md := md) (Q := Q) fs lf listed a w hlf hB (k a hf)
    simpa using this
  | i :: ps, l, listed, σ, P, a, w, hl, hB, hr, hP, hf, k => by
    unfold opsAt at hl
    split at hl
    case h_2 => simp at hl
    rename_i o l' ho hl'
    simp only [Option.some.injEq] at hl; subst hl
    have hoi : ops[i]? = some o := by rw [nth_eq] at ho; simpa using ho
    simp only [planPB, Bool.and_eq_true] at hB
    obtain ⟨⟨h1, h2⟩, h3⟩ := hB
    unfold runP at hr
    split at hr
    case h_2 => simp at hr
    rename_i d hg hd
    split at hr
    case h_2 => simp at hr
    rename_i v P1 hst
    replace hr := cond_some hr
    rcases hr with ⟨hb, hr⟩ | ⟨hb, hr⟩
    case inr => simp at hr
    split at hr
    case h_2 => simp at hr
    rename_i σ1 P2 hr2
    simp only [Option.some.injEq, Prod.mk.injEq] at hr; obtain ⟨rfl, rfl⟩ := hr
    have hy : Yields C.P ops o v.val a := by
      left
      obtain ⟨d', op, t, p, af, gu⟩ := o
      simp only at hg; subst hg
      refine ⟨by simp [Region.wanted], fun w => ?_⟩
      exact stepV_yl (C := C) (E := w) (H := []) hst hP.1 d' t p af none a.eval w hf.evs ⟨rfl, rfl, rfl, List.nodup_nil, fun p hp => by cases hp⟩
    have ih := pure_any hs hQ hlf ps l' (listed.setIfInBounds i true) ((d, v) :: σ) P2 (a.put o.dst v.val) w hl' h3 hr2 hP.2 (by rw [hd]; exact hf.put hb) k
    rw [List.length_cons, show ps.length + 1 + fs.length = ps.length + fs.length + 1 by omega]
    exact wpAny_first hoi (Region.noSelect_spec hs) (fun c a w h => (hQ c _ w h).elim) _ listed a w (Region.free_spec hoi h2) (by simpa using h1) hy ih
theorem SC.regionP {id : Nat} {l : List Oper} (ps fs : List Nat) (zs : List Nat) {lp lf : List Oper} {σ' : SEnv} {P : Prop} (hs : Region.noSelect l.toArray = true) (hB : planPB .any l.toArray fs ps (Array.replicate l.length false) = true) (hn : Nat.beq (ps.length + fs.length) l.length = true)
    (hlp : opsAt l ps = some lp) (hlf : opsAt l fs = some lf) (hr : runP C n zs lp σ = some (σ', P)) (hP : P) (k : SL C E n l.toArray (noP Q) lf (env σ') L) : SC C E n (.region id l.toArray true) Q (env σ) L := by
  intro a w hf hp
  have H := pure_any (C := C) (n := n) (md := .any) (ops := l.toArray) (Q := Sx.noP Q) hs (fun c a w h => h) hlf ps lp (Array.replicate l.length false) σ P a { w with drawn := w.drawn + 1 } hlp hB hr hP hf (fun a' hf' => k a' _ hf' (hp.drew _))
  have h3 : (Code.region id l.toArray true).wp C.P (Sx.noP Q) a w := by
    refine wp_region_any C.mixed ?_
    rw [beq_iff.1 hn] at H
    simpa using H
  exact wp_mono h3 fun e a w hq => by
    cases e with
    | panic c => exact hq.elim
    | _ => exact hq
end
end Go.Proofs.Ytendgpnbbiegkaa.Sx
