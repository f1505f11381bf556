/-
  Literals of structs.
-/
import Derived.Test.YtendgpnbbiegkaaSxH
set_option linter.all false
set_option linter.unusedSimpArgs false
set_option linter.unusedVariables false
namespace Go.Proofs.Ytendgpnbbiegkaa.Sx
open Go

/-- A literal's parts. -/
def evPs (ρ : Env) : List (Nat × Operand) → Option (List (Nat × Value))
  | [] => some []
  | (i, x) :: l => (ev ρ x).bind fun v => (evPs ρ l).map ((i, v) :: ·)
theorem evPs_spec {ρ : Env} {f : Operand → Value} (hf : Evs ρ f) : ∀ (l : List (Nat × Operand)) (vs : List (Nat × Value)), evPs ρ l = some vs → l.map (fun p => (p.1, f p.2)) = vs
  | [], vs, h => by simp [evPs] at h; subst h; rfl
  | (i, x) :: l, vs, h => by
    simp only [evPs, Option.bind_eq_some_iff, Option.map_eq_some_iff] at h
    obtain ⟨v, h1, us, h2, rfl⟩ := h
    simp only [List.map_cons, evPs_spec hf l us h2, hf _ _ h1]
/-- The places of a struct's fields. -/
def places (C : Ctx) : List Field → Option (List (Nat × Nat))
  | [] => some []
  | f :: l => (C.ty f.type).bind fun q => (places C l).map ((f.offset, q.size) :: ·)
def fillL (pl : List (Nat × Nat)) : List Value → List (Nat × Value) → Option (List Value)
  | cs, [] => some cs
  | cs, (i, v) :: l => match nth pl i with
    | some (off, size) => cond (Nat.beq v.cells.toList.length size && Nat.ble (off + size) cs.length) (fillL pl (putl cs off v.cells.toList) l) none
    | none => none
theorem foldl_putl : ∀ (vs cs : List Value) (off k : Nat), off + k + vs.length ≤ cs.length →
    (vs.zipIdx k).foldl (fun (a : Array Value) (x : Value × Nat) => a.setIfInBounds (off + x.2) x.1) ⟨cs⟩ = ⟨putl cs (off + k) vs⟩
  | [], cs, off, k, _ => by simp [putl]
  | v :: vs, cs, off, k, h => by
    simp only [List.length_cons] at h
    simp only [List.zipIdx_cons, List.foldl_cons]
    rw [show (⟨cs⟩ : Array Value).setIfInBounds (off + k) v = ⟨cs.set (off + k) v⟩ by simp]
    rw [foldl_putl vs (cs.set (off + k) v) off (k + 1) (by simp; omega), show off + (k + 1) = off + k + 1 by omega, putl_cons _ _ _ _ (by omega)]
theorem fill_fillL {pl : List (Nat × Nat)} {place : Nat → Option (Nat × Nat)} (hp : ∀ i, place i = nth pl i) : ∀ (l : List (Nat × Value)) (cs r : List Value), fillL pl cs l = some r → Instr.fill place ⟨cs⟩ l = some ⟨r⟩
  | [], cs, r, h => by simp [fillL] at h; subst h; rfl
  | (i, v) :: l, cs, r, h => by
    simp only [fillL] at h
    split at h
    · rename_i off size hi
      cases hb : (Nat.beq v.cells.toList.length size && Nat.ble (off + size) cs.length) with
      | false => rw [hb] at h; simp at h
      | true =>
        rw [hb] at h
        simp only [cond_true] at h
        simp only [Bool.and_eq_true] at hb
        have h1 : v.cells.toList.length = size := Nat.eq_of_beq_eq_true hb.1
        have h2 : off + size ≤ cs.length := by simpa using hb.2
        simp only [Instr.fill, hp, hi]
        have hsz : v.cells.size = size := by simpa using h1
        rw [if_neg (by simp [hsz]; omega)]
        have hfold : v.cells.zipIdx.foldl (fun (a : Array Value) (x : Value × Nat) => a.setIfInBounds (off + x.2) x.1) ⟨cs⟩ = ⟨putl cs off v.cells.toList⟩ := by
          rw [← Array.foldl_toList, Array.toList_zipIdx]
          have := foldl_putl v.cells.toList cs off 0 (by omega)
          simpa using this
        have ih := fill_fillL hp l _ r h
        rw [← hfold] at ih
        exact ih
    · simp at h
section
variable {C : Ctx} {E : World} {ρ : Env} {L : Hs}
theorem run_places {P : Program} : ∀ (fs : List Field) (pl : List (Nat × Nat)) (w : World), places C fs = some pl → (fs.mapM (fun f => do pure (f.offset, ← sizeOf f.type)) : Sem (List (Nat × Nat))).run C.P w = .ok pl w
  | [], pl, w, h => by simp [places] at h; subst h; rfl
  | f :: fs, pl, w, h => by
    simp only [places, Option.bind_eq_some_iff, Option.map_eq_some_iff] at h
    obtain ⟨q, hq, l, hl, rfl⟩ := h
    rw [List.mapM_cons]
    simp only [Sem.run_bind, run_size hq, Result.andThen_ok, Sem.run_pure, run_places (P := P) fs l w hl]
theorem Yl.buildS {T : Nat} {parts : List (Nat × Operand)} {vs : List (Nat × Value)} {r : TR} {fs : Array Field} {pl : List (Nat × Nat)} {zs cs : List Value} (hr : C.ty T = some r) (hd : r.desc = .struct fs) (hz : r.zero.cells = ⟨zs⟩)
    (hpl : places C fs.toList = some pl) (hp : evPs ρ parts = some vs) (hf : fillL pl zs vs = some cs) : Yl C E (.build T parts.toArray) ρ L (.agg ⟨cs⟩) := by
  intro d ty p af g f w hfe hpw
  have hu : ∀ w, (underlying T).run C.P w = .ok (.struct fs) w := fun w => by have := run_und hr w; rwa [hd] at this
  have hps : (parts.toArray.map fun (i, x) => (i, f x)).toList = vs := by
    have := evPs_spec hfe parts vs hp
    simpa using this
  have hpr := run_places (C := C) (P := C.P) fs.toList pl w hpl
  have hpr' : (fs.mapM (fun f => do pure (f.offset, ← sizeOf f.type)) : Sem (Array (Nat × Nat))).run C.P w = .ok ⟨pl⟩ w := by
    rw [Array.mapM_eq_mapM_toList, Sem.run_map, hpr]; rfl
  have hfill := fill_fillL (pl := pl) (place := fun i => (⟨pl⟩ : Array (Nat × Nat))[i]?) (fun i => by rw [nth_eq]; simp) vs zs cs hf
  simp only [execOp, Instr.build, Sem.run_bind, run_zero hr, Result.andThen_ok, hu, hz, hps, hpr', hfill, Sem.run_pure]
end
end Go.Proofs.Ytendgpnbbiegkaa.Sx
