/-
  Symbolic values: fields, indexes, cuts, lengths, conversions, literals, stores; the run of a list of operations.
-/
import Derived.Test.YtendgpnbbiegkaaSyD
set_option linter.all false
set_option linter.unusedSimpArgs false
set_option linter.unusedVariables false
namespace Go.Proofs.Ytendgpnbbiegkaa.Sx
open Go

section
variable {C : Ctx} {E : World} {σ : SEnv} {H : List HI} {L : Hs}

/-! ### fields and indexes of values -/
def fieldV (C : Ctx) (σ : SEnv) (T k : Nat) (x : Operand) : Option (SV × Prop) :=
  match evO σ x, fieldOf C T k with
  | some (.r (.g l)), some (o, q) => cond (aggD q.desc)
      (withLit q.size fun qs => match getG l o [] qs with | some (t, P) => some (.r (.g t), P) | none => none)
      (match getC l o [] with | some (v, P) => some (.r (.c v), P) | none => none)
  | _, _ => none
theorem fieldV_yl {T k : Nat} {x : Operand} {v : SV} {P : Prop} (h : fieldV C σ T k x = some (v, P)) (hP : P) : Yl C E (.field T x k) (env σ) L v.val := by
  unfold fieldV at h
  split at h
  · rename_i l o q hx hk
    have hx' := evO_ev hx
    replace h := cond_some h
    rcases h with ⟨ha, h⟩ | ⟨ha, h⟩
    · rw [withLit_eq] at h
      split at h
      · rename_i t Q hg
        simp only [Option.some.injEq, Prod.mk.injEq] at h; obtain ⟨rfl, rfl⟩ := h
        exact Yl.fieldA hx' hk ha (getG_seg hg hP)
      · simp at h
    · split at h
      · rename_i t Q hg
        simp only [Option.some.injEq, Prod.mk.injEq] at h; obtain ⟨rfl, rfl⟩ := h
        exact Yl.field1 hx' hk ha (getC_nth hg hP)
      · simp at h
  · simp at h
/-- An array type: how long, and its elements. -/
def arrT (C : Ctx) (T : TypeId) : Option (Nat × TypeId × TR) :=
  match C.ty T with
  | some r => match r.desc with
    | .array n e => match C.ty e with
      | some q => some (n, e, q)
      | none => none
    | _ => none
  | none => none
theorem arrT_spec {T n : Nat} {e : TypeId} {q : TR} (h : arrT C T = some (n, e, q)) : ∃ r, C.ty T = some r ∧ r.desc = .array n e ∧ C.ty e = some q := by
  unfold arrT at h
  split at h
  · rename_i r hr
    split at h
    · rename_i m e' hd
      split at h
      · rename_i q' hq
        simp only [Option.some.injEq, Prod.mk.injEq] at h; obtain ⟨rfl, rfl, rfl⟩ := h
        exact ⟨r, hr, hd, hq⟩
      · simp at h
    · simp at h
  · simp at h
theorem Yl.indexVS {T n i : Nat} {x y : Operand} {cs : Array Value} {v : Value} {r q : TR} {e : TypeId} (hx : ev (env σ) x = some (.agg cs)) {ik : IntKind} (hy : ev (env σ) y = some (.int ik (i : Int))) (hT : C.ty T = some r) (hd : r.desc = .array n e) (he : C.ty e = some q)
    (ha : aggD q.desc = false) (hi : i < n) (hv : nth cs.toList (i * q.size) = some v) : Yl C E (.index T x y) (env σ) L v := by
  intro d ty p af g f w hf hp
  rw [nth_arr] at hv
  have hu := run_und hT w
  rw [hd] at hu
  have hc : (0 : Int) ≤ (i : Int) ∧ (i : Int) < (n : Int) := ⟨by omega, by omega⟩
  simp only [execOp, hf _ _ hx, hf _ _ hy, Instr.index, asIntOf, Sem.run_bind, Sem.run_pure, hu, Result.andThen_ok, if_pos hc, run_size he, Int.toNat_natCast, part, run_isAgg he, ha, Bool.false_eq_true, if_false, hv]
theorem Yl.indexVA {T n i : Nat} {x y : Operand} {cs : Array Value} {vs : List Value} {r q : TR} {e : TypeId} (hx : ev (env σ) x = some (.agg cs)) {ik : IntKind} (hy : ev (env σ) y = some (.int ik (i : Int))) (hT : C.ty T = some r) (hd : r.desc = .array n e) (he : C.ty e = some q)
    (ha : aggD q.desc = true) (hi : i < n) (hv : seg cs.toList (i * q.size) q.size = some vs) : Yl C E (.index T x y) (env σ) L (.agg ⟨vs⟩) := by
  intro d ty p af g f w hf hp
  obtain ⟨g1, g2⟩ := seg_spec hv
  have e2 : cs.extract (i * q.size) (i * q.size + q.size) = ⟨vs⟩ := by
    apply Array.ext'
    rw [← g2, Array.toList_extract, List.extract_eq_take_drop, show i * q.size + q.size - i * q.size = q.size by omega]
  have hu := run_und hT w
  rw [hd] at hu
  have hc : (0 : Int) ≤ (i : Int) ∧ (i : Int) < (n : Int) := ⟨by omega, by omega⟩
  simp only [execOp, hf _ _ hx, hf _ _ hy, Instr.index, asIntOf, Sem.run_bind, Sem.run_pure, hu, Result.andThen_ok, if_pos hc, run_size he, Int.toNat_natCast, part, run_isAgg he, ha, if_true, e2]
theorem Yl.indexStr {T i : Nat} {x y : Operand} {s : List (BitVec 8)} {r : TR} (hx : ev (env σ) x = some (vStr s)) {ik : IntKind} (hy : ev (env σ) y = some (.int ik (i : Int))) (hT : C.ty T = some r) (hd : r.desc = .string) (hi : i < s.length) : Yl C E (.index T x y) (env σ) L (vB s[i]!) := by
  intro d ty p af g f w hf hp
  have hu := run_und hT w
  rw [hd] at hu
  have hc : (0 : Int) ≤ (i : Int) := by omega
  have hz : (⟨⟨s.map UInt8.ofBitVec⟩⟩ : ByteArray)[i]? = some (UInt8.ofBitVec s[i]!) := by
    have hsz : (⟨⟨s.map UInt8.ofBitVec⟩⟩ : ByteArray).size = s.length := by simp [ByteArray.size]
    rw [getElem?_pos (⟨⟨s.map UInt8.ofBitVec⟩⟩ : ByteArray) i (by rw [hsz]; exact hi)]
    congr 1
    rw [getElem!_pos s i hi]
    show (Array.mk (s.map UInt8.ofBitVec))[i]'(by simpa using hi) = _
    simp
  simp only [execOp, hf _ _ hx, hf _ _ hy, Instr.index, asIntOf, Sem.run_bind, Sem.run_pure, hu, Result.andThen_ok, if_pos hc, Int.toNat_natCast, hz]
  rfl
def indexV (C : Ctx) (σ : SEnv) (T : TypeId) (x y : Operand) : Option (SV × Prop) :=
  match evO σ x, evC σ y with
  | some (.r (.g l)), some u => match idxC u, arrT C T with
    | some (lit, i), some (n, _, q) => withLit q.size fun qs => match step lit 0 [] i qs with
      | (base, ix) => cond (aggD q.desc)
        (match getG l base ix qs with | some (t, P) => some (.r (.g t), i < n ∧ P) | none => none)
        (match getC l base ix with | some (v, P) => some (.r (.c v), i < n ∧ P) | none => none)
    | _, _ => none
  | some (.r (.c (.str s))), some u => match idxC u, C.ty T with
    | some (_, i), some r => match r.desc with
      | .string => some (.r (.c (.b s[i]!)), i < s.length)
      | _ => none
    | _, _ => none
  | _, _ => none
theorem indexV_yl {T : TypeId} {x y : Operand} {v : SV} {P : Prop} (h : indexV C σ T x y = some (v, P)) (hP : P) : Yl C E (.index T x y) (env σ) L v.val := by
  unfold indexV at h
  split at h
  · rename_i l u hx hy
    split at h
    · rename_i lit i n e q hu hT
      obtain ⟨r, h1, h2, h3⟩ := arrT_spec hT
      rw [withLit_eq] at h
      have es := step_eq lit 0 [] i q.size
      split at h
      rename_i base ix hst
      rw [hst] at es
      have es : idx base ix = i * q.size := by simpa [idx] using es
      have hx' := evO_ev hx
      have hy' := evC_ev hy
      obtain ⟨ik, hik⟩ := idxC_eq hu
      rw [hik] at hy'
      replace h := cond_some h
      rcases h with ⟨ha, h⟩ | ⟨ha, h⟩
      · split at h
        · rename_i t Q hg
          simp only [Option.some.injEq, Prod.mk.injEq] at h; obtain ⟨rfl, rfl⟩ := h
          have := getG_seg hg hP.2
          rw [es] at this
          exact Yl.indexVA hx' hy' h1 h2 h3 ha hP.1 this
        · simp at h
      · split at h
        · rename_i t Q hg
          simp only [Option.some.injEq, Prod.mk.injEq] at h; obtain ⟨rfl, rfl⟩ := h
          have := getC_nth hg hP.2
          rw [es] at this
          exact Yl.indexVS hx' hy' h1 h2 h3 ha hP.1 this
        · simp at h
    · simp at h
  · rename_i s u hx hy
    split at h
    · rename_i lit i r hu hT
      split at h
      · rename_i hd
        simp only [Option.some.injEq, Prod.mk.injEq] at h; obtain ⟨rfl, rfl⟩ := h
        have hy' := evC_ev hy
        obtain ⟨ik, hik⟩ := idxC_eq hu
        rw [hik] at hy'
        exact Yl.indexStr (evO_ev hx) hy' hT hd hP
      · simp at h
    · simp at h
  · simp at h

/-! ### cuts -/
def loB (σ : SEnv) : Option Operand → Option (Option (Bool × Nat))
  | none => some none
  | some x => match evC σ x with
    | some u => match numC u with
      | some p => some (some p)
      | none => none
    | none => none
def loN : Option (Bool × Nat) → Nat
  | none => 0
  | some p => p.2
def hiN (n : Nat) : Option (Bool × Nat) → Nat
  | none => n
  | some p => p.2
theorem loB_bnd {lo : Option Operand} {p : Option (Bool × Nat)} (h : loB σ lo = some p) : bnd (env σ) 0 lo = some (loN p) := by
  unfold loB at h
  split at h
  · simp only [Option.some.injEq] at h; subst h; rfl
  · rename_i x
    split at h
    · rename_i u hu
      split at h
      · rename_i q hq
        simp only [Option.some.injEq] at h; subst h
        obtain ⟨b, a⟩ := q
        have := evC_ev hu
        rw [numC_eq hq] at this
        simp only [bnd, this, vN]; rfl
      · simp at h
    · simp at h
theorem hiB_bnd {n : Nat} {hi : Option Operand} {p : Option (Bool × Nat)} (h : loB σ hi = some p) : bnd (env σ) n hi = some (hiN n p) := by
  unfold loB at h
  split at h
  · simp only [Option.some.injEq] at h; subst h; rfl
  · rename_i x
    split at h
    · rename_i u hu
      split at h
      · rename_i q hq
        simp only [Option.some.injEq] at h; subst h
        obtain ⟨b, a⟩ := q
        have := evC_ev hu
        rw [numC_eq hq] at this
        simp only [bnd, this, vN]; rfl
      · simp at h
    · simp at h
theorem Yl.cutK {ρ : Env} {T : Nat} {x : Operand} {lo hi : Option Operand} {ao : Option Addr} {m cap l h et s : Nat} (hx : ev ρ x = some (.slice ao m cap)) (hT : slOf C T = some (et, s)) (hl : bnd ρ 0 lo = some l) (hh : bnd ρ m hi = some h) (h1 : l ≤ h) (h2 : h ≤ cap) :
    Yl C E (.slice T x lo hi none) ρ L (cutK s (.slice ao m cap) l h) := by
  intro d ty p af g f w hf hp
  obtain ⟨r, q, g1, g2, g3, g4⟩ := slOf_spec hT
  have hu := run_und g1 w
  rw [g2] at hu
  have hb := run_bounds (P := C.P) (w := w) (b := true) hf hl hh h1 h2
  simp only [execOp, hf _ _ hx, Instr.sliceAt, Sem.run_bind, hu, Result.andThen_ok, Instr.slice, Option.map_none, hb, run_size g3, g4, Sem.run_pure, Sx.cutK]
theorem Yl.cutAK {ρ : Env} {T b off n l h s : Nat} {x : Operand} {lo hi : Option Operand} (hx : ev ρ x = some (.pointer (some ⟨b, off, none⟩))) (hT : arrOf C T = some (n, s)) (hl : bnd ρ 0 lo = some l) (hh : bnd ρ n hi = some h) (h1 : l ≤ h) (h2 : h ≤ n) :
    Yl C E (.slice T x lo hi none) ρ L (.slice (some ⟨b, if n = l then off else off + l * s, none⟩) (h - l) (n - l)) := by
  intro d ty p af g f w hf hp
  obtain ⟨r, e, q, g1, g2, g3, g4⟩ := arrOf_spec hT
  have hu := run_und g1 w
  rw [g2] at hu
  have hb := run_bounds (P := C.P) (w := w) (b := false) hf hl hh h1 h2
  simp only [execOp, hf _ _ hx, Instr.sliceAt, Sem.run_bind, hu, Result.andThen_ok, Instr.sureAddr, Sem.run_pure, Option.map_none, hb, run_size g3, g4, Addr.add_none]
  split <;> rfl
theorem Yl.cutStr {ρ : Env} {T l h : Nat} {x : Operand} {lo hi : Option Operand} {s : List (BitVec 8)} {r : TR} (hx : ev ρ x = some (vStr s)) (hT : C.ty T = some r) (hd : r.desc = .string) (hl : bnd ρ 0 lo = some l) (hh : bnd ρ s.length hi = some h) (h1 : l ≤ h) (h2 : h ≤ s.length) :
    Yl C E (.slice T x lo hi none) ρ L (vStr ((s.drop l).take (h - l))) := by
  intro d ty p af g f w hf hp
  have hu := run_und hT w
  rw [hd] at hu
  have hsz : (⟨⟨s.map UInt8.ofBitVec⟩⟩ : ByteArray).size = s.length := by simp [ByteArray.size]
  have hb := run_bounds (P := C.P) (w := w) (b := false) hf hl hh h1 h2
  have hex : (⟨⟨s.map UInt8.ofBitVec⟩⟩ : ByteArray).extract l h = ⟨⟨((s.drop l).take (h - l)).map UInt8.ofBitVec⟩⟩ := by
    apply ByteArray.ext
    rw [ByteArray.data_extract]
    apply Array.ext'
    rw [Array.toList_extract]
    simp [List.extract_eq_take_drop, List.map_take, List.map_drop]
  simp only [execOp, hf _ _ hx, Instr.sliceAt, Sem.run_bind, hu, Result.andThen_ok, Instr.slice, Option.map_none, Option.isSome_none, Bool.false_eq_true, if_false, hsz, hb, Sem.run_pure, hex]
def isStr (C : Ctx) (T : TypeId) : Bool :=
  match C.ty T with
  | some r => match r.desc with | .string => true | _ => false
  | none => false
theorem isStr_spec {T : TypeId} (h : isStr C T = true) : ∃ r, C.ty T = some r ∧ r.desc = .string := by
  unfold isStr at h
  split at h
  · rename_i r hr
    split at h
    · rename_i hd; exact ⟨r, hr, hd⟩
    · simp at h
  · simp at h
def sliceV (C : Ctx) (σ : SEnv) (H : List HI) (T : TypeId) (x : Operand) (lo hi : Option Operand) : Option (SV × Prop) :=
  match evC σ x, loB σ lo, loB σ hi with
  | some (.rd k v xs), some l, some h => match slOf C T with
    | some (_, s) => withLit s fun s => cond (Nat.beq s k.size) (match l, h with
      | none, none => some (.r (.c (.rd k (cutK s v 0 xs.length) xs)), RdL k v xs (hs H))
      | none, some (_, h) => some (.r (.c (.rd k (cutK s v 0 h) (xs.take h))), h ≤ xs.length ∧ RdL k v xs (hs H))
      | some (_, l), none => some (.r (.c (.rd k (cutK s v l xs.length) (xs.drop l))), l ≤ xs.length ∧ RdL k v xs (hs H))
      | some (_, l), some (_, h) => some (.r (.c (.rd k (cutK s v l h) ((xs.drop l).take (h - l)))), l ≤ h ∧ h ≤ xs.length ∧ RdL k v xs (hs H))) none
    | none => none
  | some (.ptr nm b base ix), some l, some h => match arrOf C T with
    | some (n, s) => withLit s fun s => match l, h with
      | none, none => some (.r (.c (.sl nm b base ix n n)), True)
      | none, some (_, h) => some (.r (.c (.sl nm b base ix h n)), h ≤ n)
      | some (lit, l), h => match step lit base ix l s with
        | (base', ix') => match h with
          | none => some (.r (.c (.sl nm b base' ix' (n - l) (n - l))), l < n)
          | some (_, h) => some (.r (.c (.sl nm b base' ix' (h - l) (n - l))), l ≤ h ∧ h ≤ n ∧ l < n)
    | none => none
  | some (.sl nm b base ix n cap), some l, some h => match slOf C T with
    | some (_, s) => withLit s fun s => match l, h with
      | none, none => some (.r (.c (.sl nm b base ix n cap)), n ≤ cap)
      | none, some (_, h) => some (.r (.c (.sl nm b base ix h cap)), h ≤ cap)
      | some (lit, l), h => match step lit base ix l s with
        | (base', ix') => match h with
          | none => some (.r (.c (.sl nm b base' ix' (n - l) (cap - l))), l ≤ n ∧ n ≤ cap ∧ l < cap)
          | some (_, h) => some (.r (.c (.sl nm b base' ix' (h - l) (cap - l))), l ≤ h ∧ h ≤ cap ∧ l < cap)
    | none => none
  | some (.str t), some l, some h => cond (isStr C T) (match l, h with
      | none, none => some (.r (.c (.str t)), True)
      | none, some (_, h) => some (.r (.c (.str (t.take h))), h ≤ t.length)
      | some (_, l), none => some (.r (.c (.str (t.drop l))), l ≤ t.length)
      | some (_, l), some (_, h) => some (.r (.c (.str ((t.drop l).take (h - l)))), l ≤ h ∧ h ≤ t.length)) none
  | _, _, _ => none
theorem add0 (b off s : Nat) : (⟨b, off, none⟩ : Addr).add (0 * s) = ⟨b, off, none⟩ := by rw [Nat.zero_mul]; rfl
theorem sliceV_yl {T : TypeId} {x : Operand} {lo hi : Option Operand} {v : SV} {P : Prop} (h : sliceV C σ H T x lo hi = some (v, P)) (hP : P) : Yl C E (.slice T x lo hi none) (env σ) (hs H) v.val := by
  unfold sliceV at h
  split at h
  · rename_i k u xs l hh hx hl hhi
    have hx' := evC_ev hx
    have hl' := loB_bnd hl
    split at h
    case h_2 => simp at h
    rename_i et s hT
    rw [withLit_eq] at h
    replace h := cond_some h
    rcases h with ⟨hb, h⟩ | ⟨hb, h⟩
    case inr => simp at h
    have hs' := beq_iff.1 hb; subst hs'
    have fin : ∀ a b, loN l = a → hiN xs.length hh = b → a ≤ b → b ≤ xs.length → RdL k u xs (hs H) → Yl C E (.slice T x lo hi none) (env σ) (hs H) (cutK k.size u a b) := by
      rintro a b rfl rfl h1 h2 hr
      obtain ⟨ao, cap, rfl, hc⟩ := hr.rd.len
      exact Yl.cutK hx' hT hl' (hiB_bnd hhi) h1 (by omega)
    split at h <;> simp only [Option.some.injEq, Prod.mk.injEq] at h <;> obtain ⟨rfl, rfl⟩ := h
    · exact fin 0 xs.length rfl rfl (Nat.zero_le _) (Nat.le_refl _) hP
    · exact fin 0 _ rfl rfl (Nat.zero_le _) hP.1 hP.2
    · exact fin _ xs.length rfl rfl hP.1 (Nat.le_refl _) hP.2
    · exact fin _ _ rfl rfl hP.1 hP.2.1 hP.2.2
  · rename_i nm b base ix l hh hx hl hhi
    have hx' := evC_ev hx
    have hl' := loB_bnd hl
    split at h
    case h_2 => simp at h
    rename_i n s hT
    rw [withLit_eq] at h
    have fin : ∀ a c, loN l = a → hiN n hh = c → a ≤ c → c ≤ n → Yl C E (.slice T x lo hi none) (env σ) (hs H) (.slice (some ⟨b, if n = a then idx base ix else idx base ix + a * s, none⟩) (c - a) (n - a)) := by
      rintro a c rfl rfl h1 h2
      exact Yl.cutAK hx' hT hl' (hiB_bnd hhi) h1 h2
    split at h
    · simp only [Option.some.injEq, Prod.mk.injEq] at h; obtain ⟨rfl, rfl⟩ := h
      have := fin 0 n rfl rfl (Nat.zero_le _) (Nat.le_refl _)
      simpa [SV.val, Rv.val, CV.val, hiN] using this
    · rename_i q hq
      simp only [Option.some.injEq, Prod.mk.injEq] at h; obtain ⟨rfl, rfl⟩ := h
      have := fin 0 _ rfl rfl (Nat.zero_le _) hP
      simpa [SV.val, Rv.val, CV.val, hiN] using this
    · rename_i lit a
      have es := step_eq lit base ix a s
      split at h
      rename_i base' ix' hst
      rw [hst] at es
      split at h <;> simp only [Option.some.injEq, Prod.mk.injEq] at h <;> obtain ⟨rfl, rfl⟩ := h
      · have := fin a n rfl rfl (by omega) (Nat.le_refl _)
        rw [if_neg (by omega), ← es] at this; exact this
      · have := fin a _ rfl rfl hP.1 hP.2.1
        rw [if_neg (by omega), ← es] at this; exact this
  · rename_i nm b base ix n cap l hh hx hl hhi
    have hx' := evC_ev hx
    have hl' := loB_bnd hl
    split at h
    case h_2 => simp at h
    rename_i et s hT
    rw [withLit_eq] at h
    have fin : ∀ a c, loN l = a → hiN n hh = c → a ≤ c → c ≤ cap → Yl C E (.slice T x lo hi none) (env σ) (hs H) (.slice (some ⟨b, if cap = a then idx base ix else idx base ix + a * s, none⟩) (c - a) (cap - a)) := by
      rintro a c rfl rfl h1 h2
      have := Yl.cutK (E := E) (L := hs H) hx' hT hl' (hiB_bnd hhi) h1 h2
      simp only [cutK] at this
      split at this
      · rw [if_pos (by assumption)]; exact this
      · rw [if_neg (by assumption)]; simpa [Addr.add_none] using this
    split at h
    · simp only [Option.some.injEq, Prod.mk.injEq] at h; obtain ⟨rfl, rfl⟩ := h
      have := fin 0 n rfl rfl (Nat.zero_le _) hP
      simpa [SV.val, Rv.val, CV.val, hiN] using this
    · rename_i q hq
      simp only [Option.some.injEq, Prod.mk.injEq] at h; obtain ⟨rfl, rfl⟩ := h
      have := fin 0 _ rfl rfl (Nat.zero_le _) hP
      simpa [SV.val, Rv.val, CV.val, hiN] using this
    · rename_i lit a
      have es := step_eq lit base ix a s
      split at h
      rename_i base' ix' hst
      rw [hst] at es
      split at h <;> simp only [Option.some.injEq, Prod.mk.injEq] at h <;> obtain ⟨rfl, rfl⟩ := h
      · have := fin a n rfl rfl (by omega) (by omega)
        rw [if_neg (by omega), ← es] at this; exact this
      · have := fin a _ rfl rfl hP.1 hP.2.1
        rw [if_neg (by omega), ← es] at this; exact this
  · rename_i t l hh hx hl hhi
    have hx' := evC_ev hx
    have hl' := loB_bnd hl
    replace h := cond_some h
    rcases h with ⟨hb, h⟩ | ⟨hb, h⟩
    case inr => simp at h
    obtain ⟨r, hr, hd⟩ := isStr_spec hb
    have fin : ∀ a c, loN l = a → hiN t.length hh = c → a ≤ c → c ≤ t.length → Yl C E (.slice T x lo hi none) (env σ) (hs H) (vStr ((t.drop a).take (c - a))) := by
      rintro a c rfl rfl h1 h2
      exact Yl.cutStr hx' hr hd hl' (hiB_bnd hhi) h1 h2
    split at h <;> simp only [Option.some.injEq, Prod.mk.injEq] at h <;> obtain ⟨rfl, rfl⟩ := h
    · have := fin 0 t.length rfl rfl (Nat.zero_le _) (Nat.le_refl _)
      simpa [SV.val, Rv.val, CV.val] using this
    · have := fin 0 _ rfl rfl (Nat.zero_le _) hP
      simpa [SV.val, Rv.val, CV.val, hiN] using this
    · have := fin _ t.length rfl rfl hP (Nat.le_refl _)
      rw [List.take_of_length_le (by simp)] at this; exact this
    · exact fin _ _ rfl rfl hP.1 hP.2
  · simp at h

/-! ### lengths, tuples, signs, choices, conversions -/
def lenV (C : Ctx) (σ : SEnv) (H : List HI) (T : TypeId) (x : Operand) : Option (SV × Prop) :=
  match evC σ x with
  | some (.rd k v xs) => match slOf C T with | some _ => some (.r (.c (.n xs.length)), RdL k v xs (hs H)) | none => none
  | some (.sl _ _ _ _ len _) => match slOf C T with | some _ => some (.r (.c (.n len)), True) | none => none
  | some (.raw (.slice _ m _)) => match slOf C T with | some _ => some (.r (.c (.l m)), True) | none => none
  | some (.str s) => cond (isStr C T) (some (.r (.c (.n s.length)), True)) none
  | _ => none
theorem lenV_yl {T : TypeId} {x : Operand} {v : SV} {P : Prop} (h : lenV C σ H T x = some (v, P)) (hP : P) : Yl C E (.call ⟨.builtin .len, #[x], #[T]⟩) (env σ) (hs H) v.val := by
  unfold lenV at h
  split at h
  · rename_i k u xs hx
    split at h
    · rename_i q hT
      simp only [Option.some.injEq, Prod.mk.injEq] at h; obtain ⟨rfl, rfl⟩ := h
      obtain ⟨ao, cap, rfl, hc⟩ := hP.rd.len
      exact Yl.lenS (evC_ev hx) hT
    · simp at h
  · rename_i nm b base ix len cap hx
    split at h
    · rename_i q hT
      simp only [Option.some.injEq, Prod.mk.injEq] at h; obtain ⟨rfl, rfl⟩ := h
      exact Yl.lenS (evC_ev hx) hT
    · simp at h
  · rename_i a m cp hx
    split at h
    · rename_i q hT
      simp only [Option.some.injEq, Prod.mk.injEq] at h; obtain ⟨rfl, rfl⟩ := h
      exact Yl.lenS (evC_ev hx) hT
    · simp at h
  · rename_i s hx
    replace h := cond_some h
    rcases h with ⟨hb, h⟩ | ⟨hb, h⟩
    · simp only [Option.some.injEq, Prod.mk.injEq] at h; obtain ⟨rfl, rfl⟩ := h
      obtain ⟨r, hr, hd⟩ := isStr_spec hb
      exact Yl.lenStr (evC_ev hx) hr hd
    · simp at h
  · simp at h
def extractV (σ : SEnv) (x : Operand) (i : Nat) : Option (SV × Prop) :=
  match evO σ x with
  | some (.tu l) => match nth l i with | some v => some (.r v, True) | none => none
  | _ => none
theorem extractV_yl {x : Operand} {i : Nat} {v : SV} {P : Prop} (h : extractV σ x i = some (v, P)) : Yl C E (.extract x i) (env σ) L v.val := by
  unfold extractV at h
  split at h
  · rename_i l hx
    split at h
    · rename_i u hu
      simp only [Option.some.injEq, Prod.mk.injEq] at h; obtain ⟨rfl, rfl⟩ := h
      refine Yl.extract (evO_ev hx) ?_
      rw [nth_eq] at hu
      simp [nth_eq, hu, SV.val]
    · simp at h
  · simp at h
def unV (op : UnOp) (σ : SEnv) (x : Operand) : Option (SV × Prop) :=
  match op, evC σ x with
  | .not, some (.t b) => some (.r (.c (.t (!b))), True)
  | .not, some (.d p i) => some (.r (.c (.d (¬ p) (@instDecidableNot p i))), True)
  | .neg, some (.n a) => some (.r (.c (.z (-(a : Int)))), a < 9223372036854775808)
  | .neg, some (.l a) => some (.r (.c (.z (-(a : Int)))), a < 9223372036854775808)
  | .neg, some (.z a) => some (.r (.c (.z (-a))), -9223372036854775808 < a ∧ a < 9223372036854775808)
  | .xor, some (.b a) => some (.r (.c (.b (~~~a))), True)
  | .xor, some (.h a) => some (.r (.c (.h (~~~a))), True)
  | .xor, some (.w a) => some (.r (.c (.w (~~~a))), True)
  | .xor, some (.q a) => some (.r (.c (.q (~~~a))), True)
  | _, _ => none
theorem unV_yl {op : UnOp} {T : TypeId} {x : Operand} {v : SV} {P : Prop} (h : unV op σ x = some (v, P)) (hP : P) : Yl C E (.unOp op T x) (env σ) L v.val := by
  unfold unV at h
  split at h <;> simp only [Option.some.injEq, Prod.mk.injEq, reduceCtorEq] at h <;> (obtain ⟨rfl, rfl⟩ := h; rename_i hx; have hx' := evC_ev hx)
  · exact Yl.notB hx'
  · have := Yl.notB (C := C) (E := E) (L := L) (T := T) hx'
    simp only [SV.val, Rv.val, CV.val]
    rename_i p i
    rwa [show (!@decide p i) = @decide (¬ p) (@instDecidableNot p i) by rw [← @decide_not p i]] at this
  · exact Yl.negZ hx' (by omega) (by omega)
  · exact Yl.negZ hx' (by omega) (by omega)
  · exact Yl.negZ hx' hP.1 hP.2
  · exact Yl.complB hx'
  · exact Yl.complH hx'
  · exact Yl.complW hx'
  · exact Yl.complQ hx'
def sliceByte (C : Ctx) (S : TypeId) : Bool :=
  match slOf C S with
  | some (e, s) => Nat.beq s 1 && (match C.ty e with | some q => (match q.desc with | .int .u8 => true | _ => false) | none => false)
  | none => false
theorem sliceByte_spec {S : TypeId} (h : sliceByte C S = true) : ∃ e q, slOf C S = some (e, 1) ∧ C.ty e = some q ∧ q.desc = .int .u8 := by
  unfold sliceByte at h
  split at h
  · rename_i e s hs
    simp only [Bool.and_eq_true, beq_iff] at h
    obtain ⟨rfl, h⟩ := h
    split at h
    · rename_i q hq
      split at h
      · rename_i hd; exact ⟨e, q, hs, hq, hd⟩
      · simp at h
    · simp at h
  · simp at h
theorem Yl.convStr {ρ : Env} {S T : TypeId} {x : Operand} {l : List (BitVec 8)} (hx : ev ρ x = some (vStr l)) (hS : isStr C S = true) (hT : isStr C T = true) : Yl C E (.convert S T x) ρ L (vStr l) := by
  obtain ⟨r, hr, hd⟩ := isStr_spec hS
  obtain ⟨r', hr', hd'⟩ := isStr_spec hT
  intro d t p af g f w hf _
  have h1 := run_und hr w; rw [hd] at h1
  have h2 := run_und hr' w; rw [hd'] at h2
  simp only [execOp, hf _ _ hx, convert, Sem.run_bind, h1, h2, Result.andThen_ok, Sem.run_pure, vStr]
def convV (C : Ctx) (σ : SEnv) (H : List HI) (S T : TypeId) (x : Operand) : Option (SV × Prop) :=
  match evC σ x with
  | some (.str l) => cond (isStr C S && isStr C T) (some (.r (.c (.str l)), True)) none
  | some (.rd .b v xs) => cond (sliceByte C S && isStr C T) (some (.r (.c (.str xs)), RdL .b v xs (hs H))) none
  | some u => match C.ty S, C.ty T with
    | some _, some r => match convC r.desc u with
      | some (v, P) => some (.r (.c v), P)
      | none => none
    | _, _ => none
  | none => none
theorem convV_yl {S T : TypeId} {x : Operand} {v : SV} {P : Prop} (h : convV C σ H S T x = some (v, P)) (hP : P) : Yl C E (.convert S T x) (env σ) (hs H) v.val := by
  unfold convV at h
  split at h
  · rename_i l hx
    replace h := cond_some h
    rcases h with ⟨hb, h⟩ | ⟨hb, h⟩
    · simp only [Option.some.injEq, Prod.mk.injEq] at h; obtain ⟨rfl, rfl⟩ := h
      simp only [Bool.and_eq_true] at hb
      exact Yl.convStr (evC_ev hx) hb.1 hb.2
    · simp at h
  · rename_i u xs hx
    replace h := cond_some h
    rcases h with ⟨hb, h⟩ | ⟨hb, h⟩
    · simp only [Option.some.injEq, Prod.mk.injEq] at h; obtain ⟨rfl, rfl⟩ := h
      simp only [Bool.and_eq_true] at hb
      obtain ⟨e, q, h1, h2, h3⟩ := sliceByte_spec hb.1
      obtain ⟨r', hr', hd'⟩ := isStr_spec hb.2
      exact Yl.toStr (evC_ev hx) h1 h2 h3 hr' hd' hP.rd.rdB (fun _ h => h)
    · simp at h
  · rename_i u _ _ hx
    split at h
    · rename_i s r hS hT
      split at h
      · rename_i w Q hc
        simp only [Option.some.injEq, Prod.mk.injEq] at h; obtain ⟨rfl, rfl⟩ := h
        exact convC_yl (evC_ev hx) hS hT rfl hc hP
      · simp at h
    · simp at h
  · simp at h
def nilCheckV (σ : SEnv) (x : Operand) : Option (SV × Prop) :=
  match evC σ x with
  | some (.ptr nm b base ix) => some (.r (.c (.ptr nm b base ix)), True)
  | some (.rp k v xs i o) => some (.r (.c (.rp k v xs i o)), True)
  | some (.raw (.pointer (some a))) => some (.r (.c (.raw (.pointer (some a)))), True)
  | _ => none
theorem nilCheckV_yl {x : Operand} {v : SV} {P : Prop} (h : nilCheckV σ x = some (v, P)) : Yl C E (.nilCheck x) (env σ) L v.val := by
  unfold nilCheckV at h
  split at h <;> simp only [Option.some.injEq, Prod.mk.injEq, reduceCtorEq] at h
  all_goals (obtain ⟨rfl, rfl⟩ := h; rename_i hx; exact Yl.nilCheck (evC_ev hx))
def pickV (σ : SEnv) (c x y : Operand) : Option (SV × Prop) :=
  match evC σ c with
  | some (.t true) => match evO σ x with | some v => some (v, True) | none => none
  | some (.t false) => match evO σ y with | some v => some (v, True) | none => none
  | _ => none
theorem pickV_yl {c x y : Operand} {v : SV} {P : Prop} (h : pickV σ c x y = some (v, P)) : Yl C E (.pick c x y) (env σ) L v.val := by
  unfold pickV at h
  split at h
  · rename_i hc
    split at h
    · rename_i u hx
      simp only [Option.some.injEq, Prod.mk.injEq] at h; obtain ⟨rfl, rfl⟩ := h
      exact Yl.pickT (evC_ev hc) (evO_ev hx)
    · simp at h
  · rename_i hc
    split at h
    · rename_i u hx
      simp only [Option.some.injEq, Prod.mk.injEq] at h; obtain ⟨rfl, rfl⟩ := h
      exact Yl.pickF (evC_ev hc) (evO_ev hx)
    · simp at h
  · simp at h
end
end Go.Proofs.Ytendgpnbbiegkaa.Sx
