/-
  Memory: loads and stores in known blocks, fields, indexes, cuts, allocations.
-/
import Derived.Test.YtendgpnbbiegkaaSxB
set_option linter.all false
set_option linter.unusedSimpArgs false
set_option linter.unusedVariables false
namespace Go.Proofs.Ytendgpnbbiegkaa.Sx
open Go

theorem cell_of {w : World} {b off : Nat} {cs : Array Value} {t : TypeId} {fz : Nat × Nat} (h : w.heap[b]? = some (.cells cs t fz)) : w.cell? ⟨b, off, none⟩ = cs[off]? := by
  simp [World.cell?, h]
theorem frozen_of {w : World} {b off : Nat} {cs : Array Value} {t : TypeId} {fz : Nat × Nat} (h : w.heap[b]? = some (.cells cs t fz)) : w.frozen? ⟨b, off, none⟩ = (decide (fz.1 ≤ off) && decide (off < fz.2)) := by
  obtain ⟨lo, hi⟩ := fz
  simp [World.frozen?, h]
theorem nth_arr (cs : Array Value) (i : Nat) : nth cs.toList i = cs[i]? := by rw [nth_eq]; simp
theorem Addr.add_none (b o k : Nat) : (⟨b, o, none⟩ : Addr).add k = ⟨b, o + k, none⟩ := by
  unfold Addr.add; split <;> simp_all

/-- It takes one cell. -/
def oneC : Value → Bool
  | .agg _ | .tuple _ => false
  | _ => true
/-- Is it a struct or an array? -/
def aggD : TypeDesc → Bool
  | .struct _ | .array _ _ => true
  | _ => false

section run
variable {C : Ctx}
theorem run_und {T : TypeId} {r : TR} (h : C.ty T = some r) (w : World) : (underlying T).run C.P w = .ok r.desc w := by
  simp [underlying, C.und_of h, program, Sem.run]
theorem run_size {T : TypeId} {r : TR} (h : C.ty T = some r) (w : World) : (sizeOf T).run C.P w = .ok r.size w := by
  obtain ⟨i, h1, h2, _⟩ := C.inf_of h
  simp [sizeOf, typeInfo, h1, program, Sem.run, h2]
theorem run_zero {T : TypeId} {r : TR} (h : C.ty T = some r) (w : World) : (zeroValue T).run C.P w = .ok r.zero w := by
  obtain ⟨i, h1, _, _, h2⟩ := C.inf_of h
  simp [zeroValue, typeInfo, h1, program, Sem.run, h2]
theorem run_bytes {T : TypeId} {r : TR} (h : C.ty T = some r) (w : World) : ((do pure (← typeInfo T).bytes) : Sem Nat).run C.P w = .ok r.bytes w := by
  obtain ⟨i, h1, _, h2, _⟩ := C.inf_of h
  simp [typeInfo, h1, program, Sem.run, h2]
theorem run_isAgg {T : TypeId} {r : TR} (h : C.ty T = some r) (w : World) : (isAgg T).run C.P w = .ok (aggD r.desc) w := by
  simp only [isAgg, Sem.run_bind, run_und h, Result.andThen_ok]
  cases r.desc <;> simp [aggD]
theorem run_load1 {w : World} {b off : Nat} {cs : Array Value} {t : TypeId} {fz : Nat × Nat} {v : Value} (hb : w.heap[b]? = some (.cells cs t fz)) (hv : cs[off]? = some v) :
    (load ⟨b, off, none⟩).run C.P w = .ok v w := by
  simp [load, Sem.run, cell_of hb, hv]
theorem run_loadFrom {w : World} {b off : Nat} {cs : Array Value} {t : TypeId} {fz : Nat × Nat} (hb : w.heap[b]? = some (.cells cs t fz)) :
    ∀ (n i : Nat) (acc : Array Value), off + i + n ≤ cs.size → (loadCellsFrom ⟨b, off, none⟩ i n acc).run C.P w = .ok (acc ++ cs.extract (off + i) (off + i + n)) w
  | 0, i, acc, _ => by simp [loadCellsFrom]; omega
  | n + 1, i, acc, h => by
    have hlt : off + i < cs.size := by omega
    have hv : cs[off + i]? = some cs[off + i] := Array.getElem?_eq_getElem hlt
    have ih := run_loadFrom (off := off) hb n (i + 1) (acc.push cs[off + i]) (by omega)
    simp only [loadCellsFrom, Sem.run_bind, Addr.add_none, run_load1 hb hv, Result.andThen_ok, ih]
    congr 1
    apply Array.ext'
    simp only [Array.toList_append, Array.toList_push, Array.toList_extract, List.append_assoc]
    congr 1
    rw [List.extract_eq_take_drop, List.extract_eq_take_drop, show off + i + (n + 1) - (off + i) = n + 1 by omega, show off + (i + 1) + n - (off + (i + 1)) = n by omega]
    have hd : cs.toList.drop (off + i) = cs.toList[off + i]'(by simpa using hlt) :: cs.toList.drop (off + i + 1) := List.drop_eq_getElem_cons (by simpa using hlt)
    rw [hd, List.take_succ_cons, show off + (i + 1) = off + i + 1 by omega]
    simp
theorem run_loadCells {w : World} {b off n : Nat} {cs : Array Value} {t : TypeId} {fz : Nat × Nat} (hb : w.heap[b]? = some (.cells cs t fz)) (h : off + n ≤ cs.size) :
    (loadCells ⟨b, off, none⟩ n).run C.P w = .ok (cs.extract off (off + n)) w := by
  have := run_loadFrom (C := C) hb (off := off) n 0 #[] (by omega)
  simpa [loadCells] using this
theorem heap_mod (w : World) (b : Nat) (f : Obj → Obj) {o : Obj} (h : w.heap[b]? = some o) : w.heap.modify b f = w.heap.setIfInBounds b (f o) := by
  have hlt := (Array.getElem?_eq_some_iff.1 h).1
  have he := (Array.getElem?_eq_some_iff.1 h).2
  apply Array.ext_getElem?
  intro i
  by_cases e : b = i
  · subst e; rw [Array.getElem?_modify, Array.getElem?_setIfInBounds]; simp [hlt, he]
  · rw [Array.getElem?_setIfInBounds_ne e, Array.getElem?_modify]; simp [e]
theorem setCell_eq {w : World} {b off : Nat} {cs : Array Value} {t : TypeId} {fz : Nat × Nat} (h : w.heap[b]? = some (.cells cs t fz)) (v : Value) :
    w.setCell ⟨b, off, none⟩ v = { w with heap := w.heap.setIfInBounds b (.cells (cs.setIfInBounds off v) t fz) } := by
  unfold World.setCell
  rw [heap_mod w b _ h]
  simp
/-- One cell is written. -/
theorem run_store1 {E w : World} {L L' : Hs} {b off : Nat} {cs : List Value} {t : TypeId} {fz : Nat × Nat} {v : Value} (hp : Hp E w L) (hr : Repl L b (.cells ⟨cs⟩ t fz) (.cells ⟨cs.set off v⟩ t fz) L')
    (ho : off < cs.length) (hfz : off < fz.1 ∨ fz.2 ≤ off) (hv : oneC v = true) :
    ∃ w', (store ⟨b, off, none⟩ v).run C.P w = .ok () w' ∧ Hp E w' L' := by
  have hb := hp.get hr.mem
  have hc : w.cell? ⟨b, off, none⟩ = some cs[off] := by rw [cell_of hb]; simp [ho]
  have hf : w.frozen? ⟨b, off, none⟩ = false := by rw [frozen_of hb]; simp; omega
  refine ⟨_, ?_, hp.set hr⟩
  have hse := setCell_eq (off := off) hb v
  rw [show (⟨cs⟩ : Array Value).setIfInBounds off v = ⟨cs.set off v⟩ by simp] at hse
  rw [← hse]
  cases v <;> simp [store, Sem.run, hc, hf, oneC] at hv ⊢
end run

theorem Repl.det {L L' : Hs} {b : Nat} {o o' : Obj} (h : Repl L b o o' L') : ∀ o'', ∃ L'', Repl L b o o'' L'' ∧ Repl L' b o' o'' L'' := by
  induction h with
  | head b o o' L => intro o''; exact ⟨_, .head _ _ _ _, .head _ _ _ _⟩
  | tail p h ih => intro o''; obtain ⟨M, h1, h2⟩ := ih o''; exact ⟨_, .tail p h1, .tail p h2⟩
  | app c h ih => intro o''; obtain ⟨M, h1, h2⟩ := ih o''; exact ⟨_, .app c h1, .app c h2⟩
theorem Repl.fn {L L1 L2 : Hs} {b : Nat} {o o1 : Obj} (h1 : Repl L b o o1 L1) (o2 : Obj) : ∃ L2, Repl L b o o2 L2 := by
  obtain ⟨M, h, _⟩ := h1.det o2; exact ⟨M, h⟩
theorem Repl.unique {L L1 L2 : Hs} {b : Nat} {o o1 : Obj} (hn : (L.map Prod.fst).Nodup) (h1 : Repl L b o o1 L1) (h2 : Repl L b o o1 L2) : L1 = L2 := by
  have key : ∀ {M : Hs}, Repl L b o o1 M → M = L.map (fun p => if p.1 = b then (b, o1) else p) := by
    intro M h
    clear h1 h2
    induction h with
    | head b o o' L =>
      simp only [List.map_cons, List.nodup_cons] at hn
      simp only [List.map_cons, if_true]
      congr 1
      symm
      rw [List.map_congr_left (g := id)]
      · simp
      · intro p hp
        have : p.1 ≠ b := fun e => hn.1 (List.mem_map.2 ⟨p, hp, e⟩)
        simp [this]
    | tail p h ih =>
      simp only [List.map_cons, List.nodup_cons] at hn
      have : p.1 ≠ _ := fun e => hn.1 (List.mem_map.2 ⟨_, h.mem, e.symm⟩)
      simp [this, ih hn.2]
    | @app b o o' L L' c h ih =>
      rw [List.map_append, List.nodup_append] at hn
      rw [List.map_append, ← ih hn.2.1]
      congr 1
      symm
      rw [List.map_congr_left (g := id)]
      · simp
      · intro p hp
        have : p.1 ≠ b := fun e => hn.2.2 _ (List.mem_map.2 ⟨p, hp, rfl⟩) _ (List.mem_map.2 ⟨_, h.mem, rfl⟩) e
        simp [this]
  rw [key h1, key h2]

/-- vs lies in l from off on, in place of what is there. -/
def putl (l : List Value) (off : Nat) (vs : List Value) : List Value := l.take off ++ vs ++ l.drop (off + vs.length)
theorem putl_cons (l : List Value) (off : Nat) (v : Value) (vs : List Value) (h : off < l.length) : putl (l.set off v) (off + 1) vs = putl l off (v :: vs) := by
  unfold putl
  rw [List.take_add_one, List.take_set]
  simp only [List.length_cons]
  rw [List.drop_set_of_lt (by omega), show off + 1 + vs.length = off + (vs.length + 1) by omega]
  have : (l.set off v)[off]? = some v := by simp [h]
  rw [this, List.set_eq_of_length_le (by simp; omega)]
  simp

section run2
variable {C : Ctx}
theorem run_storeCells {E : World} {b off : Nat} {t : TypeId} {fz : Nat × Nat} : ∀ (vs : List Value) (i : Nat) (w : World) (L L' : Hs) (cs : List Value), Hp E w L →
    Repl L b (.cells ⟨cs⟩ t fz) (.cells ⟨putl cs (off + i) vs⟩ t fz) L' → off + i + vs.length ≤ cs.length → (off + i + vs.length ≤ fz.1 ∨ fz.2 ≤ off + i) → (∀ v ∈ vs, oneC v = true) →
    ∃ w', (storeCells ⟨b, off, none⟩ vs i).run C.P w = .ok () w' ∧ Hp E w' L'
  | [], i, w, L, L', cs, hp, hr, _, _, _ => by
    refine ⟨w, rfl, ?_⟩
    have e : putl cs (off + i) [] = cs := by simp [putl]
    rw [e] at hr
    have h2 := hp.set hr
    have hb := hp.get hr.mem
    have : w.heap.setIfInBounds b (.cells ⟨cs⟩ t fz) = w.heap := by
      apply Array.ext
      · simp
      · intro j h1 h2
        rw [Array.getElem_setIfInBounds]
        split
        · subst b; have := (Array.getElem?_eq_some_iff.1 hb).2; exact this.symm
        · rfl
    rw [this] at h2
    exact h2
  | v :: vs, i, w, L, L', cs, hp, hr, hl, hf, hv => by
    simp only [List.length_cons] at hl hf
    have hlt : off + i < cs.length := by omega
    obtain ⟨M, hM, hM'⟩ := hr.det (.cells ⟨cs.set (off + i) v⟩ t fz)
    obtain ⟨w1, h1, hp1⟩ := run_store1 (C := C) (off := off + i) (v := v) hp (L' := M) hM hlt (by omega) (hv v (by simp))
    have hM2 : Repl M b (.cells ⟨cs.set (off + i) v⟩ t fz) (.cells ⟨putl (cs.set (off + i) v) (off + (i + 1)) vs⟩ t fz) L' := by
      rw [show off + (i + 1) = off + i + 1 by omega, putl_cons _ _ _ _ hlt]
      obtain ⟨M2, hA, hB⟩ := hM.det (.cells ⟨putl cs (off + i) (v :: vs)⟩ t fz)
      have := Repl.unique hp.nd hA hr
      rw [← this]; exact hB
    obtain ⟨w2, h2, hp2⟩ := run_storeCells vs (i + 1) w1 M L' (cs.set (off + i) v) hp1 hM2 (by simp; omega) (by omega) (fun u hu => hv u (by simp [hu]))
    refine ⟨w2, ?_, hp2⟩
    simp only [storeCells, Sem.run_bind, Addr.add_none, h1, Result.andThen_ok, h2]
end run2

section
variable {C : Ctx} {E : World} {ρ : Env} {L L' : Hs}

/-- n cells of l from off on. -/
def seg (l : List Value) (off n : Nat) : Option (List Value) := cond (Nat.ble (off + n) l.length) (some ((l.drop off).take n)) none
theorem seg_spec {l vs : List Value} {off n : Nat} (h : seg l off n = some vs) : off + n ≤ l.length ∧ (l.drop off).take n = vs := by
  unfold seg at h
  cases hb : Nat.ble (off + n) l.length with
  | true => rw [hb] at h; exact ⟨by simpa using hb, by simpa using h⟩
  | false => rw [hb] at h; simp at h

theorem Yl.load1 {T : TypeId} {x : Operand} {b off : Nat} {cs : Array Value} {t : TypeId} {fz : Nat × Nat} {v : Value} {r : TR} (hx : ev ρ x = some (.pointer (some ⟨b, off, none⟩)))
    (hT : C.ty T = some r) (ha : aggD r.desc = false) (hb : (b, .cells cs t fz) ∈ L) (hv : nth cs.toList off = some v) : Yl C E (.load T x) ρ L v := by
  intro d ty p af g f w hf hp
  rw [nth_arr] at hv
  simp only [execOp, hf _ _ hx, Instr.loadAt, Instr.sureAddr, loadVar, Sem.run_bind, Sem.run_pure, Result.andThen_ok, run_isAgg hT, ha, Bool.false_eq_true, if_false, run_load1 (hp.get hb) hv]
theorem Yl.loadA {T : TypeId} {x : Operand} {b off : Nat} {cs : Array Value} {t : TypeId} {fz : Nat × Nat} {vs : List Value} {r : TR} (hx : ev ρ x = some (.pointer (some ⟨b, off, none⟩)))
    (hT : C.ty T = some r) (ha : aggD r.desc = true) (hb : (b, .cells cs t fz) ∈ L) (hv : seg cs.toList off r.size = some vs) : Yl C E (.load T x) ρ L (.agg ⟨vs⟩) := by
  intro d ty p af g f w hf hp
  obtain ⟨h1, h2⟩ := seg_spec hv
  have e : cs.extract off (off + r.size) = ⟨vs⟩ := by
    apply Array.ext'
    rw [← h2, Array.toList_extract, List.extract_eq_take_drop, show off + r.size - off = r.size by omega]
  simp only [execOp, hf _ _ hx, Instr.loadAt, Instr.sureAddr, loadVar, Sem.run_bind, Sem.run_pure, Result.andThen_ok, run_isAgg hT, ha, if_true, run_size hT, run_loadCells (hp.get hb) (by simpa using h1), e]

/-- A field's offset. -/
def fieldOff (C : Ctx) (T k : Nat) : Option Nat :=
  match C.ty T with
  | some r => match r.desc with
    | .struct fs => match nth fs.toList k with
      | some f => match C.ty f.type with
        | some q => cond (Nat.beq q.size 0) none (some f.offset)
        | none => none
      | none => none
    | _ => none
  | none => none
theorem Yl.fieldAddr {T k b off o : Nat} {x : Operand} (hx : ev ρ x = some (.pointer (some ⟨b, off, none⟩))) (hk : fieldOff C T k = some o) : Yl C E (.fieldAddr T x k) ρ L (.pointer (some ⟨b, off + o, none⟩)) := by
  intro d ty p af g f w hf hp
  unfold fieldOff at hk
  split at hk
  · rename_i r hr
    split at hk
    · rename_i fs hd
      split at hk
      · rename_i fl hfl
        split at hk
        · rename_i q hq
          cases hs : Nat.beq q.size 0 with
          | true => rw [hs] at hk; simp at hk
          | false =>
            rw [hs] at hk
            simp at hk
            subst hk
            have hne : ¬ q.size = 0 := by intro e; rw [e] at hs; simp at hs
            have hfl' : fs[k]? = some fl := by rw [nth_eq] at hfl; simpa using hfl
            have hu := run_und hr w
            rw [hd] at hu
            simp only [execOp, hf _ _ hx, Instr.fieldAt, Instr.sureAddr, Sem.run_bind, hu, Result.andThen_ok, hfl', Sem.run_pure, fieldPlace, run_size hq, if_neg hne, Addr.add_none]
        · simp at hk
      · simp at hk
    · simp at hk
  · simp at hk

/-- An array type: how long, and how many cells an element has. -/
def arrOf (C : Ctx) (T : Nat) : Option (Nat × Nat) :=
  match C.ty T with
  | some r => match r.desc with
    | .array n e => match C.ty e with
      | some q => some (n, q.size)
      | none => none
    | _ => none
  | none => none
theorem arrOf_spec {T n s : Nat} (h : arrOf C T = some (n, s)) : ∃ r e q, C.ty T = some r ∧ r.desc = .array n e ∧ C.ty e = some q ∧ q.size = s := by
  unfold arrOf at h
  split at h
  · rename_i r hr
    split at h
    · rename_i m e hd
      split at h
      · rename_i q hq
        simp at h
        obtain ⟨rfl, rfl⟩ := h
        exact ⟨r, e, q, hr, hd, hq, rfl⟩
      · simp at h
    · simp at h
  · simp at h
/-- A slice type: its elements' type, and how many cells one has. -/
def slOf (C : Ctx) (T : Nat) : Option (Nat × Nat) :=
  match C.ty T with
  | some r => match r.desc with
    | .slice e => match C.ty e with
      | some q => some (e, q.size)
      | none => none
    | _ => none
  | none => none
theorem slOf_spec {T e s : Nat} (h : slOf C T = some (e, s)) : ∃ r q, C.ty T = some r ∧ r.desc = .slice e ∧ C.ty e = some q ∧ q.size = s := by
  unfold slOf at h
  split at h
  · rename_i r hr
    split at h
    · rename_i e' hd
      split at h
      · rename_i q hq
        simp at h
        obtain ⟨rfl, rfl⟩ := h
        exact ⟨r, q, hr, hd, hq, rfl⟩
      · simp at h
    · simp at h
  · simp at h
theorem Yl.indexA {T b off n s i : Nat} {x y : Operand} (hx : ev ρ x = some (.pointer (some ⟨b, off, none⟩))) (hy : ev ρ y = some (vN i)) (hT : arrOf C T = some (n, s)) (hi : i < n) :
    Yl C E (.indexAddr T x y) ρ L (.pointer (some ⟨b, off + i * s, none⟩)) := by
  intro d ty p af g f w hf hp
  obtain ⟨r, e, q, h1, h2, h3, rfl⟩ := arrOf_spec hT
  have hu := run_und h1 w
  rw [h2] at hu
  have hc : (0 : Int) ≤ (i : Int) ∧ (i : Int) < (n : Int) := ⟨by omega, by omega⟩
  simp only [execOp, hf _ _ hx, hf _ _ hy, Instr.indexAt, asIntOf, Instr.sureAddr, Sem.run_bind, Sem.run_pure, hu, Result.andThen_ok, if_pos hc, run_size h3, Int.toNat_natCast, Addr.add_none]
theorem Yl.indexA1 {T b off n i : Nat} {x y : Operand} (hx : ev ρ x = some (.pointer (some ⟨b, off, none⟩))) (hy : ev ρ y = some (vN i)) (hT : arrOf C T = some (n, 1)) (hi : i < n) :
    Yl C E (.indexAddr T x y) ρ L (.pointer (some ⟨b, off + i, none⟩)) := by
  have := Yl.indexA (E := E) (L := L) hx hy hT hi
  rwa [Nat.mul_one] at this
theorem Yl.indexS {T b off len cap e s i : Nat} {x y : Operand} (hx : ev ρ x = some (.slice (some ⟨b, off, none⟩) len cap)) (hy : ev ρ y = some (vN i)) (hT : slOf C T = some (e, s)) (hi : i < len) :
    Yl C E (.indexAddr T x y) ρ L (.pointer (some ⟨b, off + i * s, none⟩)) := by
  intro d ty p af g f w hf hp
  obtain ⟨r, q, h1, h2, h3, rfl⟩ := slOf_spec hT
  have hu := run_und h1 w
  rw [h2] at hu
  have hc : (0 : Int) ≤ (i : Int) ∧ (i : Int) < (len : Int) := ⟨by omega, by omega⟩
  simp only [execOp, hf _ _ hx, hf _ _ hy, Instr.indexAt, asIntOf, Sem.run_bind, Sem.run_pure, hu, Result.andThen_ok, if_pos hc, run_size h3, Int.toNat_natCast, Addr.add_none]
theorem Yl.indexS1 {T b off len cap e i : Nat} {x y : Operand} (hx : ev ρ x = some (.slice (some ⟨b, off, none⟩) len cap)) (hy : ev ρ y = some (vN i)) (hT : slOf C T = some (e, 1)) (hi : i < len) :
    Yl C E (.indexAddr T x y) ρ L (.pointer (some ⟨b, off + i, none⟩)) := by
  have := Yl.indexS (E := E) (L := L) hx hy hT hi
  rwa [Nat.mul_one] at this

/-- An array's value, indexed. -/
theorem Yl.indexV {T n i : Nat} {x y : Operand} {cs : Array Value} {v : Value} {r q : TR} {e : TypeId} (hx : ev ρ x = some (.agg cs)) (hy : ev ρ y = some (vN i)) (hT : C.ty T = some r) (hd : r.desc = .array n e) (he : C.ty e = some q)
    (hs : q.size = 1) (ha : aggD q.desc = false) (hi : i < n) (hv : nth cs.toList i = some v) : Yl C E (.index T x y) ρ L v := by
  intro d ty p af g f w hf hp
  rw [nth_arr] at hv
  have hu := run_und hT w
  rw [hd] at hu
  have hc : (0 : Int) ≤ (i : Int) ∧ (i : Int) < (n : Int) := ⟨by omega, by omega⟩
  simp only [execOp, hf _ _ hx, hf _ _ hy, Instr.index, asIntOf, Sem.run_bind, Sem.run_pure, hu, Result.andThen_ok, if_pos hc, run_size he, hs, Int.toNat_natCast, Nat.mul_one, part, run_isAgg he, ha, Bool.false_eq_true, if_false, hv]
/-- A struct's value, a field of it. -/
def fieldOf (C : Ctx) (T k : Nat) : Option (Nat × TR) :=
  match C.ty T with
  | some r => match r.desc with
    | .struct fs => match nth fs.toList k with
      | some f => match C.ty f.type with
        | some q => some (f.offset, q)
        | none => none
      | none => none
    | _ => none
  | none => none
theorem fieldOf_spec {T k o : Nat} {q : TR} (h : fieldOf C T k = some (o, q)) : ∃ r fs fl, C.ty T = some r ∧ r.desc = .struct fs ∧ fs[k]? = some fl ∧ C.ty fl.type = some q ∧ fl.offset = o := by
  unfold fieldOf at h
  split at h
  · rename_i r hr
    split at h
    · rename_i fs hd
      split at h
      · rename_i fl hfl
        split at h
        · rename_i q' hq
          simp at h
          obtain ⟨rfl, rfl⟩ := h
          exact ⟨r, fs, fl, hr, hd, by rw [nth_eq] at hfl; simpa using hfl, hq, rfl⟩
        · simp at h
      · simp at h
    · simp at h
  · simp at h
theorem Yl.field1 {T k o : Nat} {x : Operand} {cs : Array Value} {q : TR} {v : Value} (hx : ev ρ x = some (.agg cs)) (hk : fieldOf C T k = some (o, q)) (ha : aggD q.desc = false) (hv : nth cs.toList o = some v) :
    Yl C E (.field T x k) ρ L v := by
  intro d ty p af g f w hf hp
  obtain ⟨r, fs, fl, h1, h2, h3, h4, rfl⟩ := fieldOf_spec hk
  rw [nth_arr] at hv
  have hu := run_und h1 w
  rw [h2] at hu
  simp only [execOp, hf _ _ hx, Instr.field, Sem.run_bind, hu, Result.andThen_ok, h3, asAgg, Sem.run_pure, part, run_isAgg h4, ha, Bool.false_eq_true, if_false, hv]
theorem Yl.fieldA {T k o : Nat} {x : Operand} {cs : Array Value} {q : TR} {vs : List Value} (hx : ev ρ x = some (.agg cs)) (hk : fieldOf C T k = some (o, q)) (ha : aggD q.desc = true) (hv : seg cs.toList o q.size = some vs) :
    Yl C E (.field T x k) ρ L (.agg ⟨vs⟩) := by
  intro d ty p af g f w hf hp
  obtain ⟨r, fs, fl, h1, h2, h3, h4, rfl⟩ := fieldOf_spec hk
  obtain ⟨g1, g2⟩ := seg_spec hv
  have e : cs.extract fl.offset (fl.offset + q.size) = ⟨vs⟩ := by
    apply Array.ext'
    rw [← g2, Array.toList_extract, List.extract_eq_take_drop, show fl.offset + q.size - fl.offset = q.size by omega]
  have hu := run_und h1 w
  rw [h2] at hu
  simp only [execOp, hf _ _ hx, Instr.field, Sem.run_bind, hu, Result.andThen_ok, h3, asAgg, Sem.run_pure, part, run_isAgg h4, ha, if_true, run_size h4, e]

/-! ### stores and new blocks -/
theorem Ef.store1 {T : TypeId} {x y : Operand} {b off : Nat} {cs : List Value} {t : TypeId} {fz : Nat × Nat} {v : Value} {r : TR} (hx : ev ρ x = some (.pointer (some ⟨b, off, none⟩)))
    (hy : ev ρ y = some v) (hT : C.ty T = some r) (hs : r.size = 1) (hv : oneC v = true) (hb : Repl L b (.cells ⟨cs⟩ t fz) (.cells ⟨cs.set off v⟩ t fz) L') (ho : off < cs.length) (hfz : off < fz.1 ∨ fz.2 ≤ off) :
    Ef C E (.store T x y) ρ L fun u M => u = undef ∧ M = L' := by
  intro d ty p af g f w hf hp
  have h1 := run_store1 (C := C) (off := off) (v := v) hp (L' := L') hb ho hfz hv
  obtain ⟨w', hw, hp'⟩ := h1
  have hcells : v.cells = #[v] := by cases v <;> simp [oneC] at hv <;> rfl
  refine ⟨.skip, undef, w', L', ?_, .inr ⟨rfl, rfl⟩, ⟨rfl, rfl⟩, hp'⟩
  simp only [execOp, hf _ _ hx, hf _ _ hy, Instr.storeAt, Instr.sureAddr, storeVar, Sem.run_bind, Sem.run_pure, Result.andThen_ok, hcells, run_size hT, hs, List.size_toArray, List.length_cons, List.length_nil, Nat.zero_add,
    ne_eq, not_true_eq_false, if_false, storeCells, Addr.add_none, Nat.add_zero, hw]
theorem Ef.storeA {T : TypeId} {x y : Operand} {b off : Nat} {cs vs : List Value} {t : TypeId} {fz : Nat × Nat} {r : TR} (hx : ev ρ x = some (.pointer (some ⟨b, off, none⟩)))
    (hy : ev ρ y = some (.agg ⟨vs⟩)) (hT : C.ty T = some r) (hs : r.size = vs.length) (hv : ∀ v ∈ vs, oneC v = true) (hb : Repl L b (.cells ⟨cs⟩ t fz) (.cells ⟨putl cs off vs⟩ t fz) L')
    (ho : off + vs.length ≤ cs.length) (hfz : off + vs.length ≤ fz.1 ∨ fz.2 ≤ off) :
    Ef C E (.store T x y) ρ L fun u M => u = undef ∧ M = L' := by
  intro d ty p af g f w hf hp
  obtain ⟨w', hw, hp'⟩ := run_storeCells (C := C) (off := off) vs 0 w L L' cs hp (by simpa using hb) (by omega) (by omega) hv
  refine ⟨.skip, undef, w', L', ?_, .inr ⟨rfl, rfl⟩, ⟨rfl, rfl⟩, hp'⟩
  simp only [execOp, hf _ _ hx, hf _ _ hy, Instr.storeAt, Instr.sureAddr, storeVar, Sem.run_bind, Sem.run_pure, Result.andThen_ok, Value.cells, run_size hT, hs, List.size_toArray,
    ne_eq, not_true_eq_false, if_false, hw]
theorem Ef.alloc {T : TypeId} {r : TR} {cs : List Value} (hT : C.ty T = some r) (hz : r.zero.cells = ⟨cs⟩) :
    Ef C E (.alloc T) ρ L fun u M => ∃ b, u = .pointer (some ⟨b, 0, none⟩) ∧ M = (b, .cells ⟨cs⟩ T (0, 0)) :: L := by
  intro d ty p af g f w hf hp
  refine ⟨.value (.pointer (some ⟨w.heap.size, 0, none⟩)), _, _, _, ?_, .inl rfl, ⟨_, rfl, rfl⟩, hp.alloc _⟩
  simp only [execOp, Instr.alloc, Sem.run_bind, run_zero hT, Result.andThen_ok, newVar, newRow, newObj, Sem.run, Sem.run_pure, hz]
theorem Ef.box {T : TypeId} {x : Operand} {v : Value} {cs : List Value} (hx : ev ρ x = some v) (hz : v.cells = ⟨cs⟩) :
    Ef C E (.box T x) ρ L fun u M => ∃ b, u = .pointer (some ⟨b, 0, none⟩) ∧ M = (b, .cells ⟨cs⟩ T (0, 0)) :: L := by
  intro d ty p af g f w hf hp
  refine ⟨.value (.pointer (some ⟨w.heap.size, 0, none⟩)), _, _, _, ?_, .inl rfl, ⟨_, rfl, rfl⟩, hp.alloc _⟩
  simp only [execOp, hf _ _ hx, Instr.box, Sem.run_bind, Result.andThen_ok, newVar, newRow, newObj, Sem.run, Sem.run_pure, hz]
end
end Go.Proofs.Ytendgpnbbiegkaa.Sx
