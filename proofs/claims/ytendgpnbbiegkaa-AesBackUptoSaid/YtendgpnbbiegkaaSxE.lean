/-
  Rows of like cells; slices that are read; lengths, cuts; plans of regions that only read.
-/
import Derived.Test.YtendgpnbbiegkaaSxD
set_option linter.all false
set_option linter.unusedSimpArgs false
set_option linter.unusedVariables false
namespace Go.Proofs.Ytendgpnbbiegkaa.Sx
open Go

theorem gget {α : Type} [Inhabited α] {xs : List α} {i : Nat} (h : i < xs.length) : xs[i]? = some xs[i]! := by
  rw [getElem!_pos xs i h]; exact List.getElem?_eq_getElem h
theorem nth_map {α : Type} [Inhabited α] {e : α → Value} {xs : List α} {i : Nat} (h : i < xs.length) : nth (xs.map e) i = some (e xs[i]!) := by
  rw [nth_eq, List.getElem?_map, gget h]; rfl
theorem nth_map0 {α : Type} [Inhabited α] {e : α → Value} {xs : List α} {i : Nat} (h : i < xs.length) : nth (xs.map e) (0 + i) = some (e xs[i]!) := by
  rw [Nat.zero_add]; exact nth_map h
theorem nth_seg {α : Type} [Inhabited α] {e : α → Value} {xs : List α} {i off : Nat} {pre post : List Value} (ho : off = pre.length) (h : i < xs.length) : nth (pre ++ (xs.map e ++ post)) (off + i) = some (e xs[i]!) := by
  subst ho
  rw [nth_eq, List.getElem?_append_right (by omega), Nat.add_sub_cancel_left, List.getElem?_append_left (by simpa using h), List.getElem?_map, gget h]; rfl
theorem nth_seg0 {α : Type} [Inhabited α] {e : α → Value} {xs : List α} {i : Nat} {post : List Value} (h : i < xs.length) : nth (xs.map e ++ post) i = some (e xs[i]!) := by
  rw [nth_eq, List.getElem?_append_left (by simpa using h), List.getElem?_map, gget h]; rfl
theorem nth_seg00 {α : Type} [Inhabited α] {e : α → Value} {xs : List α} {i : Nat} {post : List Value} (h : i < xs.length) : nth (xs.map e ++ post) (0 + i) = some (e xs[i]!) := by
  rw [Nat.zero_add]; exact nth_seg0 h
theorem seg_map {α : Type} {e : α → Value} {xs : List α} {n : Nat} (h : xs.length = n) : seg (xs.map e) 0 n = some (xs.map e) := by
  subst h; unfold seg
  rw [show Nat.ble (0 + xs.length) (xs.map e).length = true by simp]
  simp only [List.drop_zero, cond_true]
  rw [List.take_of_length_le (by simp)]
theorem seg_mid {pre mid post : List Value} {off n : Nat} (ho : off = pre.length) (h : mid.length = n) : seg (pre ++ (mid ++ post)) off n = some mid := by
  subst h; subst ho; unfold seg
  rw [show Nat.ble (pre.length + mid.length) (pre ++ (mid ++ post)).length = true by simp]
  simp
theorem seg_pre {mid post : List Value} {n : Nat} (h : mid.length = n) : seg (mid ++ post) 0 n = some mid := by
  subst h; unfold seg
  rw [show Nat.ble (0 + mid.length) (mid ++ post).length = true by simp]
  simp
theorem one_map {α : Type} {e : α → Value} {xs : List α} (h : ∀ x, oneC (e x) = true) : ∀ v ∈ xs.map e, oneC v = true := by
  intro v hv
  obtain ⟨x, _, rfl⟩ := List.mem_map.1 hv
  exact h x

theorem Subs.refl (L : Hs) : L ⊆ L := fun _ h => h
theorem Subs.cons {M L : Hs} (p : Nat × Obj) (h : M ⊆ L) : M ⊆ p :: L := fun _ hx => List.mem_cons_of_mem _ (h hx)
theorem Subs.app {M L : Hs} (c : Hs) (h : M ⊆ L) : M ⊆ c ++ L := fun _ hx => List.mem_append_right _ (h hx)

/-- Where the i-th element of a slice lies. -/
def adr : Value → Nat → Addr
  | .slice (some ⟨b, off, _⟩) _ _, i => ⟨b, off + i, none⟩
  | _, _ => default
/-- v is a slice whose elements are xs. -/
def RdS {α : Type} [Inhabited α] (e : α → Value) (M : Hs) (v : Value) (xs : List α) : Prop :=
  ∃ ao cap, v = .slice ao xs.length cap ∧ xs.length ≤ cap ∧ (xs = [] ∨ ∃ b off cs t fz, ao = some ⟨b, off, none⟩ ∧ (b, Obj.cells cs t fz) ∈ M ∧ ∀ i, i < xs.length → nth cs.toList (off + i) = some (e xs[i]!))
theorem RdS.mono {α : Type} [Inhabited α] {e : α → Value} {M M' : Hs} {v : Value} {xs : List α} (h : RdS e M v xs) (hs : M ⊆ M') : RdS e M' v xs := by
  obtain ⟨ao, cap, h1, h2, h3⟩ := h
  exact ⟨ao, cap, h1, h2, h3.imp id fun ⟨b, off, cs, t, fz, g1, g2, g3⟩ => ⟨b, off, cs, t, fz, g1, hs g2, g3⟩⟩
theorem RdS.nil {α : Type} [Inhabited α] (e : α → Value) (M : Hs) (ao : Option Addr) (cap : Nat) : RdS e M (.slice ao 0 cap) ([] : List α) := ⟨ao, cap, rfl, Nat.zero_le _, .inl rfl⟩
/-- A cut of a slice. -/
def cutV (v : Value) (lo hi : Nat) : Value :=
  match v with
  | .slice a _ cap => .slice (if cap = lo then a else a.map (·.add lo)) (hi - lo) (cap - lo)
  | v => v
theorem RdS.cut {α : Type} [Inhabited α] {e : α → Value} {M : Hs} {v : Value} {xs : List α} (h : RdS e M v xs) {lo hi : Nat} (h1 : lo ≤ hi) (h2 : hi ≤ xs.length) : RdS e M (cutV v lo hi) ((xs.drop lo).take (hi - lo)) := by
  obtain ⟨ao, cap, rfl, hc, h3⟩ := h
  have hl : ((xs.drop lo).take (hi - lo)).length = hi - lo := by simp; omega
  refine ⟨_, cap - lo, by rw [hl]; rfl, by rw [hl]; omega, ?_⟩
  by_cases he : hi - lo = 0
  · left; exact List.eq_nil_of_length_eq_zero (by rw [hl]; exact he)
  · right
    rcases h3 with rfl | ⟨b, off, cs, t, fz, rfl, g2, g3⟩
    · simp at h2; omega
    · refine ⟨b, off + lo, cs, t, fz, ?_, g2, fun i hi' => ?_⟩
      · rw [if_neg (by omega)]; simp only [Option.map_some, Addr.add_none]
      · rw [hl] at hi'
        have := g3 (lo + i) (by omega)
        rw [show off + lo + i = off + (lo + i) by omega, this]
        congr 2
        have e1 : xs[lo + i]? = some xs[lo + i]! := gget (by omega)
        have e2 := gget (xs := (xs.drop lo).take (hi - lo)) (i := i) (by rw [hl]; exact hi')
        rw [List.getElem?_take_of_lt (by omega), List.getElem?_drop, e1] at e2
        exact Option.some.inj e2

section
variable {C : Ctx} {E : World} {ρ : Env} {L M L' : Hs}
theorem Yl.indexRd {α : Type} [Inhabited α] {e : α → Value} {T et i : Nat} {x y : Operand} {v : Value} {xs : List α} (hx : ev ρ x = some v) (hy : ev ρ y = some (vN i)) (hT : slOf C T = some (et, 1)) (hr : RdS e M v xs) (hi : i < xs.length) :
    Yl C E (.indexAddr T x y) ρ L (.pointer (some (adr v i))) := by
  obtain ⟨ao, cap, rfl, hc, h3⟩ := hr
  rcases h3 with rfl | ⟨b, off, cs, t, fz, rfl, g2, g3⟩
  · simp at hi
  · exact Yl.indexS1 hx hy hT hi
theorem Yl.loadRd {α : Type} [Inhabited α] {e : α → Value} {T i : Nat} {x : Operand} {v : Value} {xs : List α} {r : TR} (hx : ev ρ x = some (.pointer (some (adr v i)))) (hT : C.ty T = some r) (ha : aggD r.desc = false) (hr : RdS e M v xs) (hs : M ⊆ L) (hi : i < xs.length) :
    Yl C E (.load T x) ρ L (e xs[i]!) := by
  obtain ⟨ao, cap, rfl, hc, h3⟩ := hr
  rcases h3 with rfl | ⟨b, off, cs, t, fz, rfl, g2, g3⟩
  · simp at hi
  · exact Yl.load1 hx hT ha (hs g2) (g3 i hi)
theorem Yl.lenS {T : Nat} {x : Operand} {ao : Option Addr} {m cap : Nat} {et s : Nat} (hx : ev ρ x = some (.slice ao m cap)) (hT : slOf C T = some (et, s)) :
    Yl C E (.call ⟨.builtin .len, #[x], #[T]⟩) ρ L (vN m) := by
  intro d ty p af g f w hf hp
  obtain ⟨r, q, h1, h2, h3, _⟩ := slOf_spec hT
  have hu := run_und h1 w
  rw [h2] at hu
  simp [execOp, resolve, hf _ _ hx, invoke, builtin, Builtin.len_, hu, goInt]
theorem Yl.lenRd {α : Type} [Inhabited α] {e : α → Value} {T : Nat} {x : Operand} {v : Value} {xs : List α} {et s : Nat} (hx : ev ρ x = some v) (hT : slOf C T = some (et, s)) (hr : RdS e M v xs) :
    Yl C E (.call ⟨.builtin .len, #[x], #[T]⟩) ρ L (vN xs.length) := by
  obtain ⟨ao, cap, rfl, hc, h3⟩ := hr
  exact Yl.lenS hx hT

/-- The bounds of a cut. -/
def bnd (ρ : Env) (d : Nat) : Option Operand → Option Nat
  | none => some d
  | some x => match ev ρ x with
    | some (.int .i64 (Int.ofNat m)) => some m
    | _ => none
theorem bnd_spec {d m : Nat} {o : Option Operand} (h : bnd ρ d o = some m) : (o = none ∧ m = d) ∨ ∃ x, o = some x ∧ ev ρ x = some (vN m) := by
  cases o with
  | none => simp [bnd] at h; exact .inl ⟨rfl, h.symm⟩
  | some x =>
    right
    refine ⟨x, rfl, ?_⟩
    simp only [bnd] at h
    split at h
    · rename_i k he
      simp at h; subst h; exact he
    · simp at h
theorem run_bound {w : World} {P : Program} {m y : Nat} {cd : BoundsCode} (h : m ≤ y) : (Instr.sliceBound (vN m) y cd).run P w = .ok m w := by
  have hc : (0 : Int) ≤ (m : Int) ∧ (m : Int) ≤ (y : Int) := ⟨by omega, by omega⟩
  simp only [Instr.sliceBound, asIntOf, Sem.run_bind, Sem.run_pure, Result.andThen_ok, if_pos hc, Int.toNat_natCast]
theorem run_bounds {w : World} {P : Program} {f : Operand → Value} (hf : Evs ρ f) {b : Bool} {len cap l h : Nat} {lo hi : Option Operand} (hl : bnd ρ 0 lo = some l) (hh : bnd ρ len hi = some h) (h1 : l ≤ h) (h2 : h ≤ cap) :
    (Instr.sliceBounds b len cap (lo.map f) (hi.map f) none).run P w = .ok (l, h, cap) w := by
  rcases bnd_spec hl with ⟨rfl, rfl⟩ | ⟨x, rfl, hx⟩ <;> rcases bnd_spec hh with ⟨rfl, rfl⟩ | ⟨y, rfl, hy⟩
  · simp [Instr.sliceBounds]
  · simp [Instr.sliceBounds, hf _ _ hy, run_bound h2]
  · simp [Instr.sliceBounds, hf _ _ hx, run_bound h1]
  · simp [Instr.sliceBounds, hf _ _ hx, hf _ _ hy, run_bound h1, run_bound h2]
theorem Yl.cutS {T : Nat} {x : Operand} {lo hi : Option Operand} {ao : Option Addr} {m cap l h et : Nat} (hx : ev ρ x = some (.slice ao m cap)) (hT : slOf C T = some (et, 1)) (hl : bnd ρ 0 lo = some l) (hh : bnd ρ m hi = some h) (h1 : l ≤ h) (h2 : h ≤ cap) :
    Yl C E (.slice T x lo hi none) ρ L (cutV (.slice ao m cap) l h) := by
  intro d ty p af g f w hf hp
  obtain ⟨r, q, g1, g2, g3, g4⟩ := slOf_spec hT
  have hu := run_und g1 w
  rw [g2] at hu
  have hb := run_bounds (P := C.P) (w := w) (b := true) hf hl hh h1 h2
  simp only [execOp, hf _ _ hx, Instr.sliceAt, Sem.run_bind, hu, Result.andThen_ok, Instr.slice, Option.map_none, hb, run_size g3, g4, Sem.run_pure, cutV, Nat.mul_one]
theorem Yl.cutRd {α : Type} [Inhabited α] {e : α → Value} {T : Nat} {x : Operand} {lo hi : Option Operand} {v : Value} {xs : List α} {l h et : Nat} (hx : ev ρ x = some v) (hT : slOf C T = some (et, 1)) (hr : RdS e M v xs)
    (hl : bnd ρ 0 lo = some l) (hh : bnd ρ xs.length hi = some h) (h1 : l ≤ h) (h2 : h ≤ xs.length) :
    Yl C E (.slice T x lo hi none) ρ L (cutV v l h) := by
  obtain ⟨ao, cap, rfl, hc, h3⟩ := hr
  exact Yl.cutS hx hT hl hh h1 (by omega)
/-- A cut of an array in memory. -/
theorem Yl.cutA {T b off n l h : Nat} {x : Operand} {lo hi : Option Operand} (hx : ev ρ x = some (.pointer (some ⟨b, off, none⟩))) (hT : arrOf C T = some (n, 1)) (hl : bnd ρ 0 lo = some l) (hh : bnd ρ n hi = some h) (h1 : l ≤ h) (h2 : h ≤ n) :
    Yl C E (.slice T x lo hi none) ρ L (.slice (some ⟨b, if n = l then off else off + l, none⟩) (h - l) (n - l)) := by
  intro d ty p af g f w hf hp
  obtain ⟨r, e, q, g1, g2, g3, g4⟩ := arrOf_spec hT
  have hu := run_und g1 w
  rw [g2] at hu
  have hb := run_bounds (P := C.P) (w := w) (b := false) hf hl hh h1 h2
  simp only [execOp, hf _ _ hx, Instr.sliceAt, Sem.run_bind, hu, Result.andThen_ok, Instr.sureAddr, Sem.run_pure, Option.map_none, hb, run_size g3, g4, Nat.mul_one, Addr.add_none]
  split <;> rfl

/-- Stores into rows of like cells. -/
theorem Ef.storeM {α : Type} {e : α → Value} {T : TypeId} {x y : Operand} {b off : Nat} {xs : List α} {t : TypeId} {a : α} {r : TR} (hx : ev ρ x = some (.pointer (some ⟨b, off, none⟩)))
    (hy : ev ρ y = some (e a)) (hT : C.ty T = some r) (hs : r.size = 1) (hv : oneC (e a) = true) (hb : Repl L b (.cells ⟨xs.map e⟩ t (0, 0)) (.cells ⟨(xs.set off a).map e⟩ t (0, 0)) L') (ho : off < xs.length) :
    Ef C E (.store T x y) ρ L fun u M => u = undef ∧ M = L' :=
  Ef.store1 hx hy hT hs hv (by rw [← List.map_set]; exact hb) (by simpa using ho) (by right; exact Nat.zero_le _)
theorem Ef.storeM0 {α : Type} {e : α → Value} {T : TypeId} {x y : Operand} {b off : Nat} {xs : List α} {t : TypeId} {a : α} {r : TR} (hx : ev ρ x = some (.pointer (some ⟨b, 0 + off, none⟩)))
    (hy : ev ρ y = some (e a)) (hT : C.ty T = some r) (hs : r.size = 1) (hv : oneC (e a) = true) (hb : Repl L b (.cells ⟨xs.map e⟩ t (0, 0)) (.cells ⟨(xs.set off a).map e⟩ t (0, 0)) L') (ho : off < xs.length) :
    Ef C E (.store T x y) ρ L fun u M => u = undef ∧ M = L' := by
  rw [Nat.zero_add] at hx
  exact Ef.storeM hx hy hT hs hv hb ho
theorem Ef.storeSeg {α : Type} {e : α → Value} {T : TypeId} {x y : Operand} {b off i : Nat} {xs : List α} {pre post : List Value} {t : TypeId} {a : α} {r : TR} (hx : ev ρ x = some (.pointer (some ⟨b, off + i, none⟩)))
    (hy : ev ρ y = some (e a)) (hT : C.ty T = some r) (hs : r.size = 1) (hv : oneC (e a) = true) (hof : off = pre.length)
    (hb : Repl L b (.cells ⟨pre ++ (xs.map e ++ post)⟩ t (0, 0)) (.cells ⟨pre ++ ((xs.set i a).map e ++ post)⟩ t (0, 0)) L') (ho : i < xs.length) :
    Ef C E (.store T x y) ρ L fun u M => u = undef ∧ M = L' := by
  subst hof
  refine Ef.store1 hx hy hT hs hv (cs := pre ++ (xs.map e ++ post)) (t := t) (fz := (0, 0)) ?_ (by simp; omega) (by right; exact Nat.zero_le _)
  rw [List.set_append_right _ _ (by omega), Nat.add_sub_cancel_left, List.set_append_left _ _ (by simpa using ho), ← List.map_set]
  exact hb
theorem Ef.storeSeg0 {α : Type} {e : α → Value} {T : TypeId} {x y : Operand} {b i : Nat} {xs : List α} {post : List Value} {t : TypeId} {a : α} {r : TR} (hx : ev ρ x = some (.pointer (some ⟨b, 0 + i, none⟩)))
    (hy : ev ρ y = some (e a)) (hT : C.ty T = some r) (hs : r.size = 1) (hv : oneC (e a) = true)
    (hb : Repl L b (.cells ⟨xs.map e ++ post⟩ t (0, 0)) (.cells ⟨(xs.set i a).map e ++ post⟩ t (0, 0)) L') (ho : i < xs.length) :
    Ef C E (.store T x y) ρ L fun u M => u = undef ∧ M = L' := by
  rw [Nat.zero_add] at hx
  refine Ef.store1 hx hy hT hs hv (cs := xs.map e ++ post) (t := t) (fz := (0, 0)) ?_ (by simp; omega) (by right; exact Nat.zero_le _)
  rw [List.set_append_left _ _ (by simpa using ho), ← List.map_set]
  exact hb
end

/-! ### plans -/
def qord (m : Nat) : List (Nat × Bool) := (List.range m).map fun i => (i, false)
theorem planOps_q (l : List Oper) : ∀ m k, k + m ≤ l.length → planOps l ((List.range' k m).map fun i => (i, false)) = some (((l.drop k).take m).map fun o => (o, false))
  | 0, k, _ => by simp [planOps]
  | m + 1, k, h => by
    have hk : k < l.length := by omega
    have ih := planOps_q l m (k + 1) (by omega)
    rw [List.range'_succ, List.map_cons]
    simp only [planOps, nth_eq, List.getElem?_eq_getElem hk, Option.bind_some, ih, Option.map_some]
    rw [List.drop_eq_getElem_cons hk, List.take_succ_cons, List.map_cons]
theorem SC.regionT {C : Ctx} {E : World} {n : Nat} {Q : Exit → Act → World → Prop} {ρ : Env} {L : Hs} {id : Nat} {l : List Oper} (m : Nat) (hm : Nat.ble m l.length = true) (hB : regB l.toArray m (qord m) = true)
    (h : SH C E n l.toArray Q (l.drop m) ((l.take m).map fun o => (o, false)) ρ L) : SC C E n (.region id l.toArray true) Q ρ L :=
  SC.regionD m (qord m) hB (by unfold qord; rw [List.range_eq_range', planOps_q l m 0 (by simpa using hm)]; simp) h
theorem SC.regionQ {C : Ctx} {E : World} {n : Nat} {Q : Exit → Act → World → Prop} {ρ : Env} {L : Hs} {id : Nat} {l : List Oper} (hB : regB l.toArray l.length (qord l.length) = true)
    (h : SH C E n l.toArray Q [] (l.map fun o => (o, false)) ρ L) : SC C E n (.region id l.toArray true) Q ρ L :=
  SC.regionT l.length (by simp) hB (by simpa using h)
/-- Operations that leave the world alone, by their form. -/
def quietOp : Op → Bool
  | .move _ | .assign _ | .pick .. | .load .. | .nilCheck _ | .binOp .. | .unOp .. | .convert .. | .slice .. | .fieldAddr .. | .field .. | .indexAddr .. | .index .. | .extract .. | .build .. | .makeInterface .. | .lookup .. | .makeFunc .. | .typeAssert .. | .sliceToArrayPointer .. => true
  | .call ⟨.builtin .len, _, _⟩ | .call ⟨.builtin .cap, _, _⟩ | .call ⟨.builtin .min, _, _⟩ | .call ⟨.builtin .max, _, _⟩ => true
  | _ => false
def noCall : Op → Bool
  | .call ⟨.builtin _, _, _⟩ => true
  | .call _ => false
  | _ => true
def qlen : List Oper → Nat
  | [] => 0
  | o :: l => cond (quietOp o.op) (qlen l + 1) 0
theorem SC.regionA {C : Ctx} {E : World} {n : Nat} {Q : Exit → Act → World → Prop} {ρ : Env} {L : Hs} {id : Nat} {l : List Oper} (hB : (l.all (fun o => noCall o.op) && Nat.ble (qlen l) l.length && regB l.toArray (qlen l) (qord (qlen l))) = true)
    (h : SH C E n l.toArray Q (l.drop (qlen l)) ((l.take (qlen l)).map fun o => (o, false)) ρ L) : SC C E n (.region id l.toArray true) Q ρ L := by
  simp only [Bool.and_eq_true] at hB
  exact SC.regionT (qlen l) hB.1.2 hB.2 h
end Go.Proofs.Ytendgpnbbiegkaa.Sx
