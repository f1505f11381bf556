/-
  Symbolic values: literals, stores, the run of a list of operations.
-/
import Derived.Test.YtendgpnbbiegkaaSyE
set_option linter.all false
set_option linter.unusedSimpArgs false
set_option linter.unusedVariables false
namespace Go.Proofs.Ytendgpnbbiegkaa.Sx
open Go

section
variable {C : Ctx} {E : World} {σ : SEnv} {H : List HI} {L : Hs}

/-! ### zeros and literals -/
def kdOf : TypeDesc → Option Kd
  | .int .u8 => some .b | .int .u16 => some .h | .int .u32 => some .w | .int .u64 => some .q
  | .int .i64 => some .n | .bool => some .t | .string => some .str
  | _ => none
def zerosF (g : TypeId → Option (List Sg)) : List TypeId → Option (List Sg)
  | [] => some []
  | T :: l => match g T, zerosF g l with
    | some a, some b => appO a b
    | _, _ => none
/-- A type's zero, in runs. -/
def zeroG : Nat → Ctx → TypeId → Option (List Sg)
  | 0, _, _ => none
  | f + 1, C, T => match C.ty T with
    | none => none
    | some r => match r.desc with
      | .array n e => match C.ty e with
        | none => none
        | some q => match kdOf q.desc with
          | some .b => some [.a .b (List.replicate n 0#8) n]
          | some .h => some [.a .h (List.replicate n 0#16) n]
          | some .w => some [.a .w (List.replicate n 0#32) n]
          | some .q => some [.a .q (List.replicate n 0#64) n]
          | some .n => some [.a .n (List.replicate n 0) n]
          | some .t => some [.a .t (List.replicate n false) n]
          | some .str => some [.a .str (List.replicate n []) n]
          | _ => match q.desc, zeroG f C e with
            | .array m _, some [.a .b _ _] => withLit (n * m) fun nm => some [.a .b (List.replicate nm 0#8) nm]
            | _, _ => none
      | .struct fs => zerosF (zeroG f C) (fs.toList.map fun f => f.type)
      | _ => some [.c (constC r.zero)]
def partV : List (Nat × SV) → Nat → Option SV
  | [], _ => none
  | (i, v) :: r, k => cond (Nat.beq i k) (some v) (partV r k)
def segOf : SV → Option (List Sg)
  | .r (.c v) => some [.c v]
  | .r (.g l) => some l
  | _ => none
def partsV (σ : SEnv) : List (Nat × Operand) → Option (List (Nat × SV))
  | [] => some []
  | (i, x) :: r => match evO σ x, partsV σ r with
    | some v, some l => some ((i, v) :: l)
    | _, _ => none
def vals : List (Nat × SV) → List (Nat × Value)
  | [] => []
  | (i, v) :: r => (i, v.val) :: vals r
theorem partsV_ev : ∀ {l : List (Nat × Operand)} {p : List (Nat × SV)}, partsV σ l = some p → evPs (env σ) l = some (vals p)
  | [], p, h => by simp only [partsV, Option.some.injEq] at h; subst h; rfl
  | (i, x) :: r, p, h => by
    unfold partsV at h
    split at h
    · rename_i v l hv hl
      simp only [Option.some.injEq] at h; subst h
      simp only [evPs, evO_ev hv, partsV_ev hl, Option.bind_some, Option.map_some, vals]
    · simp at h
def fieldsV (C : Ctx) (p : List (Nat × SV)) : List Field → Nat → Option (List Sg)
  | [], _ => some []
  | f :: fs, k => match (match partV p k with | some v => segOf v | none => zeroG 8 C f.type), fieldsV C p fs (k + 1) with
    | some a, some b => appO a b
    | _, _ => none
/-- A literal of a struct comes to these runs. -/
def BuildS (C : Ctx) (T : TypeId) (p : List (Nat × SV)) (s : List Sg) : Prop :=
  ∃ r fs pl zs, C.ty T = some r ∧ r.desc = .struct fs ∧ r.zero.cells = ⟨zs⟩ ∧ places C fs.toList = some pl ∧ fillL pl zs (vals p) = some (cellsG s)
def decAll (k : Kd) : List (Nat × SV) → Nat → Option (List k.T)
  | [], _ => some []
  | (i, .r (.c v)) :: r, j => cond (Nat.beq i j) (match k.put default 0 v, decAll k r (j + 1) with | some x, some l => some (x :: l) | _, _ => none) none
  | _, _ => none
def cAll : List (Nat × SV) → Nat → Option (List Sg)
  | [], _ => some []
  | (i, .r (.c v)) :: r, j => cond (Nat.beq i j) (match cAll r (j + 1) with | some l => some (.c v :: l) | none => none) none
  | _, _ => none
def rowV (k : Kd) (p : List (Nat × SV)) (n : Nat) : Option (List Sg) :=
  match decAll k p 0 with | some xs => some [.a k xs n] | none => none
def orO {α : Type} : Option α → Option α → Option α
  | some a, _ => some a
  | none, b => b
def arrV (q : TR) (p : List (Nat × SV)) (n : Nat) : Option (List Sg) :=
  match kdOf q.desc with
  | some .b => rowV .b p n
  | some .h => rowV .h p n
  | some .w => rowV .w p n
  | some .q => rowV .q p n
  | some .n => orO (rowV .n p n) (rowV .z p n)
  | some .t => rowV .t p n
  | some .str => rowV .str p n
  | _ => cAll p 0
def BuildA (C : Ctx) (T : TypeId) (p : List (Nat × SV)) (s : List Sg) : Prop :=
  ∃ r n zs, C.ty T = some r ∧ arrOf C T = some (n, 1) ∧ r.zero.cells = ⟨zs⟩ ∧ Nat.beq zs.length n = true ∧ Nat.beq p.length n = true ∧ ((p.map fun q => q.2.val) = cellsG s) ∧ (p.map Prod.fst = List.range p.length) ∧ ∀ v ∈ cellsG s, oneC v = true
def buildV (C : Ctx) (σ : SEnv) (T : TypeId) (parts : List (Nat × Operand)) : Option (SV × Prop) :=
  match partsV σ parts, C.ty T with
  | some p, some r => match r.desc with
    | .struct fs => match fieldsV C p fs.toList 0 with
      | some s => some (.r (.g s), BuildS C T p s)
      | none => none
    | .array n e => match C.ty e with
      | some q => cond (Nat.beq p.length n) (match arrV q p n with
        | some s => some (.r (.g s), BuildA C T p s)
        | none => none) (cond (Nat.beq p.length 0) (match zeroG 8 C T with
          | some s => some (.r (.g s), ∃ r, C.ty T = some r ∧ r.zero.cells = ⟨cellsG s⟩ ∧ ∃ n, arrOf C T = some (n, 1) ∧ Nat.beq (cellsG s).length n = true)
          | none => none) none)
      | none => none
    | _ => none
  | _, _ => none
theorem evP_of : ∀ (l : List (Nat × Operand)) (vs : List (Nat × Value)) (k : Nat), evPs (env σ) l = some vs → vs.map Prod.fst = List.range' k vs.length → evP (env σ) k l = some (vs.map Prod.snd)
  | [], vs, k, h, hr => by simp only [evPs, Option.some.injEq] at h; subst h; rfl
  | (i, x) :: l, vs, k, h, hr => by
    simp only [evPs, Option.bind_eq_some_iff, Option.map_eq_some_iff] at h
    obtain ⟨v, h1, us, h2, rfl⟩ := h
    simp only [List.map_cons, List.length_cons, List.range'_succ, List.cons.injEq] at hr
    obtain ⟨rfl, hr⟩ := hr
    have := evP_of l us (i + 1) h2 hr
    simp only [evP, Nat.beq_refl, cond_true, h1, Option.bind_some, this, Option.map_some, List.map_cons]
theorem vals_map (p : List (Nat × SV)) : vals p = p.map fun q => (q.1, q.2.val) := by
  induction p with
  | nil => rfl
  | cons a p ih => simp [vals, ih]
theorem buildV_yl {T : TypeId} {parts : List (Nat × Operand)} {v : SV} {P : Prop} (h : buildV C σ T parts = some (v, P)) (hP : P) : Yl C E (.build T parts.toArray) (env σ) L v.val := by
  unfold buildV at h
  split at h
  case h_2 => simp at h
  rename_i p r hp hT
  have hev := partsV_ev hp
  split at h
  · split at h
    · rename_i s hs
      simp only [Option.some.injEq, Prod.mk.injEq] at h; obtain ⟨rfl, rfl⟩ := h
      obtain ⟨r', fs, pl, zs, h1, h2, h3, h4, h5⟩ := hP
      exact Yl.buildS h1 h2 h3 h4 hev h5
    · simp at h
  · split at h
    case h_2 => simp at h
    replace h := cond_some h
    rcases h with ⟨hb, h⟩ | ⟨hb, h⟩
    · split at h
      · rename_i s hs
        simp only [Option.some.injEq, Prod.mk.injEq] at h; obtain ⟨rfl, rfl⟩ := h
        obtain ⟨r', n, zs, h1, h2, h3, h4, h5, h6, h7, h8⟩ := hP
        have e1 : (vals p).map Prod.snd = cellsG s := by rw [vals_map, List.map_map, ← h6]; rfl
        have e2 := evP_of parts (vals p) 0 hev (by rw [vals_map, List.map_map, List.length_map, ← List.range_eq_range', ← h7]; rfl)
        rw [e1] at e2
        have hl : (cellsG s).length = p.length := by rw [← h6, List.length_map]
        exact Yl.buildF (et := 0) h2 h1 h3 h4 e2 (by rw [hl]; exact h5) h8
      · simp at h
    · replace h := cond_some h
      rcases h with ⟨hc, h⟩ | ⟨hc, h⟩
      · split at h
        · rename_i s hs
          simp only [Option.some.injEq, Prod.mk.injEq] at h; obtain ⟨rfl, rfl⟩ := h
          obtain ⟨r', h1, h2, n, h3, h4⟩ := hP
          have hp0 : p = [] := List.eq_nil_of_length_eq_zero (beq_iff.1 hc)
          subst hp0
          have hpe : parts = [] := by
            cases parts with
            | nil => rfl
            | cons a l =>
              obtain ⟨i, x⟩ := a
              simp only [evPs, vals, Option.bind_eq_some_iff, Option.map_eq_some_iff] at hev
              obtain ⟨_, _, _, _, he⟩ := hev; cases he
          subst hpe
          have := Yl.buildA (C := C) (E := E) (ρ := env σ) (L := L) (et := 0) (vs := []) (parts := []) h3 h1 h2 h4 rfl (by simp) (fun v hv => by cases hv)
          simpa [SV.val, Rv.val] using this
        · simp at h
      · simp at h
  · simp at h

/-! ### one operation that leaves the world alone -/
def arrPtrV (C : Ctx) (σ : SEnv) (H : List HI) (T : TypeId) (x : Operand) : Option (SV × Prop) :=
  match evC σ x, arrT C T with
  | some (.rd k v xs), some (n, _, _) => some (.r (.c (.rp k v xs 0 0)), n ≤ xs.length ∧ 0 < xs.length ∧ RdL k v xs (hs H))
  | _, _ => none
theorem arrPtrV_yl {T : TypeId} {x : Operand} {v : SV} {P : Prop} (h : arrPtrV C σ H T x = some (v, P)) (hP : P) : Yl C E (.sliceToArrayPointer T x) (env σ) (hs H) v.val := by
  unfold arrPtrV at h
  split at h
  · rename_i k u xs n e q hx hT
    simp only [Option.some.injEq, Prod.mk.injEq] at h; obtain ⟨rfl, rfl⟩ := h
    obtain ⟨h1, h2, h3⟩ := hP
    obtain ⟨r, hr, hd, _⟩ := arrT_spec hT
    obtain ⟨ao, cap, rfl, hc, hrest⟩ := h3.rd
    rcases hrest with rfl | ⟨b, off, cs, t, fz, rfl, _, _⟩
    · simp at h2
    intro d ty p af g f w hf hp
    have hu := run_und hr w
    rw [hd] at hu
    have hx' := evC_ev hx
    have hlt : ¬ xs.length < n := by omega
    simp only [execOp, hf _ _ hx', CV.val, Instr.arrayAt, Sem.run_bind, hu, Result.andThen_ok, if_neg hlt, Sem.run_pure, SV.val, Rv.val, adrK, Nat.zero_mul, Nat.add_zero]
  · simp at h
def wrapC : Option (CV × Prop) → Option (SV × Prop)
  | some (v, P) => some (.r (.c v), P)
  | none => none
def stepV (C : Ctx) (zs : Bool) (σ : SEnv) (H : List HI) : Op → Option (SV × Prop)
  | .move x => match evO σ x with | some v => some (v, True) | none => none
  | .assign x => match evO σ x with | some v => some (v, True) | none => none
  | .pick c x y => pickV σ c x y
  | .load T x => loadV C σ H T x
  | .fieldAddr T x k => fieldAddrV C σ H T k x
  | .indexAddr T x y => indexAddrV C σ H T x y
  | .nilCheck x => nilCheckV σ x
  | .binOp op T x y _ => wrapC (binV C zs σ op T x y)
  | .unOp op _ x => unV op σ x
  | .convert S T x => convV C σ H S T x
  | .extract x i => extractV σ x i
  | .slice T x lo hi none => sliceV C σ H T x lo hi
  | .index T x y => indexV C σ T x y
  | .field T x k => fieldV C σ T k x
  | .build T parts => buildV C σ T parts.toList
  | .sliceToArrayPointer T x => arrPtrV C σ H T x
  | .call c => match c.callee, c.args.toList, c.argTypes.toList with
    | .builtin .len, [x], [T] => lenV C σ H T x
    | _, _, _ => none
  | _ => none
theorem wrapC_some {o : Option (CV × Prop)} {v : SV} {P : Prop} (h : wrapC o = some (v, P)) : ∃ u, o = some (u, P) ∧ v = .r (.c u) := by
  cases o with
  | none => simp [wrapC] at h
  | some p => simp only [wrapC, Option.some.injEq, Prod.mk.injEq] at h; obtain ⟨rfl, rfl⟩ := h; exact ⟨_, rfl, rfl⟩
theorem stepV_yl {zs : Bool} {op : Op} {v : SV} {P : Prop} (h : stepV C zs σ H op = some (v, P)) (hP : P) : Yl C E op (env σ) (hs H) v.val := by
  unfold stepV at h
  split at h
  · split at h
    · rename_i hx
      simp only [Option.some.injEq, Prod.mk.injEq] at h; obtain ⟨rfl, rfl⟩ := h
      exact Yl.move (evO_ev hx)
    · simp at h
  · split at h
    · rename_i hx
      simp only [Option.some.injEq, Prod.mk.injEq] at h; obtain ⟨rfl, rfl⟩ := h
      exact Yl.assign (evO_ev hx)
    · simp at h
  · exact pickV_yl h
  · exact loadV_yl h hP
  · exact fieldAddrV_yl h hP
  · exact indexAddrV_yl h hP
  · exact nilCheckV_yl h
  · obtain ⟨u, h1, rfl⟩ := wrapC_some h
    exact binV_yl h1 hP
  · exact unV_yl h hP
  · exact convV_yl h hP
  · exact extractV_yl h
  · exact sliceV_yl h hP
  · exact indexV_yl h hP
  · exact fieldV_yl h hP
  · rename_i T parts
    exact buildV_yl (parts := parts.toList) h hP
  · exact arrPtrV_yl h hP
  · rename_i c
    split at h
    · rename_i x T hc ha ht
      have e : c = ⟨.builtin .len, #[x], #[T]⟩ := by
        obtain ⟨c1, c2, c3⟩ := c
        simp only at hc ha ht
        subst hc
        have : c2 = #[x] := by rw [← Array.toArray_toList (xs := c2), ha]
        have : c3 = #[T] := by rw [← Array.toArray_toList (xs := c3), ht]
        simp_all
      subst e
      exact lenV_yl h hP
    · simp at h
  · simp at h

/-! ### stores -/
def oneV : CV → Prop
  | .raw v => oneC v = true
  | .rd _ v _ => oneC v = true
  | _ => True
theorem oneV_one {v : CV} (h : oneV v) : oneC v.val = true := by cases v <;> first | rfl | exact h
def Kd.plain : Kd → Bool
  | .raw | .rw _ => false
  | .pr k l => k.plain && l.plain
  | _ => true
theorem Kd.plain_one : ∀ (k : Kd), k.plain = true → ∀ x : k.T, ∀ v ∈ k.cells x, oneC v = true
  | .pr k l, hk, x, v, hv => by
    simp only [Kd.plain, Bool.and_eq_true] at hk
    simp only [Kd.cells, List.mem_append] at hv
    rcases hv with hv | hv
    · exact k.plain_one hk.1 _ v hv
    · exact l.plain_one hk.2 _ v hv
  | .b, _, _, _, hv | .h, _, _, _, hv | .w, _, _, _, hv | .q, _, _, _, hv | .n, _, _, _, hv | .z, _, _, _, hv | .t, _, _, _, hv | .str, _, _, _, hv => by
    simp only [Kd.cells, List.mem_singleton] at hv; subst hv; rfl
def oneG : List Sg → Option Prop
  | [] => some True
  | .c v :: r => match oneG r with
    | some P => (match v with
      | .raw v => some (oneC v = true ∧ P)
      | .rd _ v _ => some (oneC v = true ∧ P)
      | _ => some P)
    | none => none
  | .a k xs _ :: r => match oneG r with
    | some P => cond k.plain (some P) (some ((∀ v ∈ k.row xs, oneC v = true) ∧ P))
    | none => none
theorem oneG_one : ∀ {s : List Sg} {P : Prop}, oneG s = some P → P → ∀ v ∈ cellsG s, oneC v = true
  | [], P, h, hP, v, hv => by cases hv
  | .c u :: r, P, h, hP, v, hv => by
    unfold oneG at h
    split at h
    case h_2 => simp at h
    rename_i Q hQ
    rw [cellsG_cons, List.mem_append] at hv
    split at h <;> simp only [Option.some.injEq] at h <;> subst h
    · rcases hv with hv | hv
      · simp only [Sg.cells, List.mem_singleton] at hv; subst hv; exact hP.1
      · exact oneG_one hQ hP.2 v hv
    · rcases hv with hv | hv
      · simp only [Sg.cells, List.mem_singleton] at hv; subst hv; exact hP.1
      · exact oneG_one hQ hP.2 v hv
    · rename_i h1 h2
      rcases hv with hv | hv
      · simp only [Sg.cells, List.mem_singleton] at hv; subst hv
        cases u <;> first | rfl | exact absurd rfl (h1 _) | exact absurd rfl (h2 _ _ _)
      · exact oneG_one hQ hP v hv
  | .a k xs n :: r, P, h, hP, v, hv => by
    unfold oneG at h
    split at h
    case h_2 => simp at h
    rename_i Q hQ
    rw [cellsG_cons, List.mem_append] at hv
    replace h := cond_some h
    rcases h with ⟨hk, h⟩ | ⟨hk, h⟩ <;> simp only [Option.some.injEq] at h <;> subst h
    · rcases hv with hv | hv
      · simp only [Sg.cells, k.row_eq, List.mem_flatMap] at hv
        obtain ⟨x, _, hx⟩ := hv
        exact k.plain_one hk x v hx
      · exact oneG_one hQ hP v hv
    · rcases hv with hv | hv
      · exact hP.1 v hv
      · exact oneG_one hQ hP.2 v hv
def updB (nm b : Nat) (f : List Sg → Option (List Sg × Prop)) : List HI → Option (List HI × Prop)
  | [] => none
  | .blk m b' s T :: r => cond (Nat.beq nm m) (match f s with | some (s', P) => some (.blk m b' s' T :: r, b' = b ∧ P) | none => none)
      (match updB nm b f r with | some (r', P) => some (.blk m b' s T :: r', P) | none => none)
  | .op m h :: r => match updB nm b f r with | some (r', P) => some (.op m h :: r', P) | none => none
theorem updB_repl {nm b : Nat} {f : List Sg → Option (List Sg × Prop)} : ∀ {H H' : List HI} {P : Prop}, updB nm b f H = some (H', P) → P →
    ∃ s s' T Q, f s = some (s', Q) ∧ Q ∧ Repl (hs H) b (.cells ⟨cellsG s⟩ T (0, 0)) (.cells ⟨cellsG s'⟩ T (0, 0)) (hs H')
  | .blk m b' s T :: r, H', P, h, hP => by
    unfold updB at h
    replace h := cond_some h
    rcases h with ⟨hb, h⟩ | ⟨hb, h⟩
    · split at h
      · rename_i s' Q hf
        simp only [Option.some.injEq, Prod.mk.injEq] at h; obtain ⟨rfl, rfl⟩ := h
        obtain ⟨rfl, hQ⟩ := hP
        exact ⟨s, s', T, Q, hf, hQ, Repl.head _ _ _ _⟩
      · simp at h
    · split at h
      · rename_i r' Q hr
        simp only [Option.some.injEq, Prod.mk.injEq] at h; obtain ⟨rfl, rfl⟩ := h
        obtain ⟨s1, s', T', Q', g1, g2, g3⟩ := updB_repl hr hP
        exact ⟨s1, s', T', Q', g1, g2, Repl.tail _ g3⟩
      · simp at h
  | .op m g :: r, H', P, h, hP => by
    unfold updB at h
    split at h
    · rename_i r' Q hr
      simp only [Option.some.injEq, Prod.mk.injEq] at h; obtain ⟨rfl, rfl⟩ := h
      obtain ⟨s1, s', T', Q', g1, g2, g3⟩ := updB_repl hr hP
      rw [hs_op, hs_op]
      exact ⟨s1, s', T', Q', g1, g2, Repl.app _ g3⟩
    · simp at h
  | [], H', P, h, hP => by simp [updB] at h
def andO {α : Type} (Q : Prop) : Option (α × Prop) → Option (α × Prop)
  | some (a, P) => some (a, Q ∧ P)
  | none => none
theorem andO_some {α : Type} {Q : Prop} {o : Option (α × Prop)} {a : α} {P : Prop} (h : andO Q o = some (a, P)) (hP : P) : Q ∧ ∃ R, o = some (a, R) ∧ R := by
  cases o with
  | none => simp [andO] at h
  | some p => simp only [andO, Option.some.injEq, Prod.mk.injEq] at h; obtain ⟨rfl, rfl⟩ := h; exact ⟨hP.1, _, rfl, hP.2⟩
def storeV (C : Ctx) (σ : SEnv) (H : List HI) (T : TypeId) (x y : Operand) : Option (List HI × Prop) :=
  match evC σ x, evO σ y, C.ty T with
  | some (.ptr nm b base ix), some (.r (.c v)), some r => cond (Nat.beq r.size 1) (match v with
      | .raw u => andO (oneC u = true) (updB nm b (fun s => setC s base ix (.raw u)) H)
      | .rd k u xs => andO (oneC u = true) (updB nm b (fun s => setC s base ix (.rd k u xs)) H)
      | v => updB nm b (fun s => setC s base ix v) H) none
  | some (.ptr nm b base ix), some (.r (.g l)), some r => cond (Nat.beq r.size (sizeG l)) (match oneG l with
      | some Q => andO Q (updB nm b (fun s => setG s base ix l) H)
      | none => none) none
  | _, _, _ => none
theorem storeV_ef {T : TypeId} {x y : Operand} {H' : List HI} {P : Prop} (h : storeV C σ H T x y = some (H', P)) (hP : P) : Ef C E (.store T x y) (env σ) (hs H) fun u M => u = undef ∧ M = hs H' := by
  unfold storeV at h
  split at h
  · rename_i nm b base ix v r hx hy hT
    have hx' := evC_ev hx
    have hy' := evO_ev hy
    replace h := cond_some h
    rcases h with ⟨hr, h⟩ | ⟨hr, h⟩
    case inr => simp at h
    have hr := beq_iff.1 hr
    have fin : ∀ R : Prop, updB nm b (fun s => setC s base ix v) H = some (H', R) → R → oneC v.val = true → Ef C E (.store T x y) (env σ) (hs H) fun u M => u = undef ∧ M = hs H' := by
      intro R hu hR h1
      obtain ⟨s, s', T', Q, g1, g2, g3⟩ := updB_repl hu hR
      obtain ⟨e1, e2⟩ := setC_cells g1 g2
      rw [e1] at g3
      exact Ef.store1 hx' hy' hT hr h1 g3 e2 (by right; exact Nat.zero_le _)
    split at h
    · obtain ⟨h1, R, h2, h3⟩ := andO_some h hP
      exact fin R h2 h3 h1
    · obtain ⟨h1, R, h2, h3⟩ := andO_some h hP
      exact fin R h2 h3 h1
    · rename_i h1 h2
      refine fin P h hP ?_
      cases v <;> first | rfl | exact absurd rfl (h1 _) | exact absurd rfl (h2 _ _ _)
  · rename_i nm b base ix l r hx hy hT
    have hx' := evC_ev hx
    have hy' := evO_ev hy
    replace h := cond_some h
    rcases h with ⟨hr, h⟩ | ⟨hr, h⟩
    case inr => simp at h
    have hr := beq_iff.1 hr
    split at h
    case h_2 => simp at h
    rename_i Q hQ
    obtain ⟨h1, R, h2, h3⟩ := andO_some h hP
    obtain ⟨s, s', T', Q', g1, g2, g3⟩ := updB_repl h2 h3
    obtain ⟨e1, e2, e3⟩ := setG_cells g1 g2
    rw [e1] at g3
    exact Ef.storeA hx' hy' hT (by rw [okG_len e3]; exact hr) (oneG_one hQ h1) g3 e2 (by right; exact Nat.zero_le _)
  · simp at h

/-! ### the run of a list -/
inductive Res where
  | no
  | ok (l : List Oper) (σ : SEnv) (H : List HI) (P : Prop)
def inN : List Nat → Option Nat → Bool
  | [], _ => false
  | _, none => false
  | i :: l, some d => cond (Nat.beq i d) true (inN l (some d))
/-- The state behind one operation without a guard. -/
def exO (C : Ctx) (n : Nat) (zs : List Nat) (σ : SEnv) (H : List HI) (d : Option Nat) (op : Op) : Option (SEnv × List HI × Prop) :=
  match op, d with
  | .store T x y, none => match storeV C σ H T x y with
    | some (H', P) => some (σ, H', P)
    | none => none
  | op, some d => match stepV C (inN zs (some d)) σ H op with
    | some (v, P) => cond (Nat.blt d n) (some ((d, v) :: σ, H, P)) none
    | none => none
  | _, none => none
/-- What a guard says. -/
def guardV (ops : List Oper) (σ : SEnv) : Option (Nat × Bool) → Option Bool
  | none => some true
  | some (j, want) => match (nth ops j).bind (·.dst) with
    | some g => match lkS σ g with
      | some (.r (.c (.t true))) => some want
      | some (.r (.c (.t false))) => some (!want)
      | _ => none
    | none => none
def stepO (C : Ctx) (n : Nat) (zs : List Nat) (ops : List Oper) (o : Oper) (σ : SEnv) (H : List HI) : Option (SEnv × List HI × Prop) :=
  match guardV ops σ o.guard with
  | some true => exO C n zs σ H o.dst o.op
  | some false => match o.dst with
    | some d => cond (Nat.blt d n) (some ((d, .u) :: σ, H, True)) none
    | none => some (σ, H, True)
  | none => none
/-- As far as it goes. -/
def runL (C : Ctx) (n : Nat) (zs : List Nat) (ops : List Oper) : List Oper → SEnv → List HI → Res
  | [], σ, H => .ok [] σ H True
  | o :: r, σ, H => match stepO C n zs ops o σ H with
    | some (σ', H', P) => match runL C n zs ops r σ' H' with
      | .ok r' σ'' H'' Q => .ok r' σ'' H'' (P ∧ Q)
      | .no => .no
    | none => .ok (o :: r) σ H True
theorem SL.guardF0 {n : Nat} {ops : Array Oper} {Q : Exit → Act → World → Prop} {ρ : Env} {op : Op} {t : TypeId} {p : String} {af : Array Edge} {rest : List Oper} {j g : Nat} {want is : Bool}
    (hj : (nth ops.toList j).bind (·.dst) = some g) (hg : lk ρ g = some (.bool is)) (hne : is = !want)
    (k : SL C E n ops Q rest ρ L) : SL C E n ops Q (⟨none, op, t, p, af, some (j, want)⟩ :: rest) ρ L := by
  intro a w hf hp
  have h := k a w hf hp
  have hy : yielded ops a.tmps j = some is := by
    have h1 := hf.at_ g _ hg
    rw [nth_eq] at hj
    have hj' : ops[j]?.bind (·.dst) = some g := by simpa using hj
    simp [yielded, hj', h1]
  unfold wpList
  rw [if_neg (by subst hne; cases want <;> simp [Region.wanted, hy])]
  exact h
theorem exO_sl {n : Nat} {zs : List Nat} {ops : Array Oper} {Q : Exit → Act → World → Prop} {d : Option Nat} {op : Op} {σ' : SEnv} {H' : List HI} {P : Prop} {t : TypeId} {p : String} {af : Array Edge} {r : List Oper} (h : exO C n zs σ H d op = some (σ', H', P)) (hP : P)
    (k : SL C E n ops Q r (env σ') (hs H')) : SL C E n ops Q (⟨d, op, t, p, af, none⟩ :: r) (env σ) (hs H) := by
  unfold exO at h
  split at h
  · split at h
    · rename_i hst
      simp only [Option.some.injEq, Prod.mk.injEq] at h; obtain ⟨rfl, rfl, rfl⟩ := h
      refine SL.ef0 (storeV_ef hst hP) ?_
      rintro _ _ ⟨rfl, rfl⟩; exact k
    · simp at h
  · split at h
    · rename_i hst
      replace h := cond_some h
      rcases h with ⟨hb, h⟩ | ⟨hb, h⟩
      · simp only [Option.some.injEq, Prod.mk.injEq] at h; obtain ⟨rfl, rfl, rfl⟩ := h
        exact SL.y hb (stepV_yl hst hP) k
      · simp at h
    · simp at h
  · simp at h
theorem guardV_true {ops : List Oper} {j : Nat} {want b : Bool} (h : guardV ops σ (some (j, want)) = some b) : ∃ g is, (nth ops j).bind (·.dst) = some g ∧ lk (env σ) g = some (.bool is) ∧ b = (is == want) := by
  unfold guardV at h
  split at h
  · rename_i e; cases e
  · rename_i j' w' e
    simp only [Option.some.injEq, Prod.mk.injEq] at e; obtain ⟨rfl, rfl⟩ := e
    split at h
    · rename_i g hg
      split at h
      · rename_i hl; simp only [Option.some.injEq] at h; subst h
        exact ⟨g, true, hg, lkS_env hl, by cases want <;> rfl⟩
      · rename_i hl; simp only [Option.some.injEq] at h; subst h
        exact ⟨g, false, hg, lkS_env hl, by cases want <;> rfl⟩
      · simp at h
    · simp at h
theorem stepO_sl {n : Nat} {zs : List Nat} {ops : Array Oper} {Q : Exit → Act → World → Prop} {o : Oper} {σ' : SEnv} {H' : List HI} {P : Prop} {r : List Oper} (h : stepO C n zs ops.toList o σ H = some (σ', H', P)) (hP : P)
    (k : SL C E n ops Q r (env σ') (hs H')) : SL C E n ops Q (o :: r) (env σ) (hs H) := by
  obtain ⟨d, op, t, p, af, gu⟩ := o
  unfold stepO at h
  split at h
  · rename_i hg
    have hk := exO_sl (t := t) (p := p) (af := af) h hP k
    cases gu with
    | none => exact hk
    | some q =>
      obtain ⟨j, want⟩ := q
      obtain ⟨g, is, h1, h2, h3⟩ := guardV_true hg
      have : is = want := by cases is <;> cases want <;> first | rfl | exact absurd h3 (by decide)
      subst this
      exact SL.guardT h1 h2 hk
  · rename_i hg
    cases gu with
    | none => simp [guardV] at hg
    | some q =>
      obtain ⟨j, want⟩ := q
      obtain ⟨g, is, h1, h2, h3⟩ := guardV_true hg
      have : is = !want := by cases is <;> cases want <;> first | rfl | exact absurd h3 (by decide)
      split at h
      · rename_i d' hd
        simp only at hd; subst hd
        replace h := cond_some h
        rcases h with ⟨hb, h⟩ | ⟨hb, h⟩
        · simp only [Option.some.injEq, Prod.mk.injEq] at h; obtain ⟨rfl, rfl, rfl⟩ := h
          exact SL.guardF h1 h2 this hb k
        · simp at h
      · rename_i hd
        simp only at hd; subst hd
        simp only [Option.some.injEq, Prod.mk.injEq] at h; obtain ⟨rfl, rfl, rfl⟩ := h
        exact SL.guardF0 h1 h2 this k
  · simp at h
theorem runL_sl {n : Nat} {zs : List Nat} {ops : Array Oper} {Q : Exit → Act → World → Prop} : ∀ {l l' : List Oper} {σ σ' : SEnv} {H H' : List HI} {P : Prop}, runL C n zs ops.toList l σ H = .ok l' σ' H' P → P →
    SL C E n ops Q l' (env σ') (hs H') → SL C E n ops Q l (env σ) (hs H)
  | [], l', σ, σ', H, H', P, h, hP, k => by
    simp only [runL, Res.ok.injEq] at h; obtain ⟨rfl, rfl, rfl, rfl⟩ := h; exact k
  | o :: r, l', σ, σ', H, H', P, h, hP, k => by
    unfold runL at h
    split at h
    · rename_i σ1 H1 P1 hst
      split at h
      · rename_i r' σ2 H2 P2 hr
        simp only [Res.ok.injEq] at h; obtain ⟨rfl, rfl, rfl, rfl⟩ := h
        exact stepO_sl hst hP.1 (runL_sl hr hP.2 k)
      · simp at h
    · simp only [Res.ok.injEq] at h; obtain ⟨rfl, rfl, rfl, rfl⟩ := h; exact k
/-- One operation, then as far as it goes. -/
def run1 (C : Ctx) (n : Nat) (zs : List Nat) (ops : List Oper) : List Oper → SEnv → List HI → Res
  | [], _, _ => .no
  | o :: r, σ, H => match stepO C n zs ops o σ H with
    | some (σ', H', P) => match runL C n zs ops r σ' H' with
      | .ok r' σ'' H'' Q => .ok r' σ'' H'' (P ∧ Q)
      | .no => .no
    | none => .no
theorem SL.run {n : Nat} (zs : List Nat) {ops : List Oper} {Q : Exit → Act → World → Prop} {l l' : List Oper} {σ' : SEnv} {H' : List HI} {P : Prop} (h : run1 C n zs ops l σ H = .ok l' σ' H' P) (hP : P)
    (k : SL C E n ops.toArray Q l' (env σ') (hs H')) : SL C E n ops.toArray Q l (env σ) (hs H) := by
  cases l with
  | nil => simp [run1] at h
  | cons o r =>
    simp only [run1] at h
    split at h
    · rename_i σ1 H1 P1 hst
      split at h
      · rename_i r' σ2 H2 P2 hr
        simp only [Res.ok.injEq] at h; obtain ⟨rfl, rfl, rfl, rfl⟩ := h
        exact stepO_sl (ops := ops.toArray) hst hP.1 (runL_sl (ops := ops.toArray) hr hP.2 k)
      · simp at h
    · simp at h
end
end Go.Proofs.Ytendgpnbbiegkaa.Sx
