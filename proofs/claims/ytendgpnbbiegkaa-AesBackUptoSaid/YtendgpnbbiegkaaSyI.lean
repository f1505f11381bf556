/-
  Built-in functions over symbolic values: copy, append; a slice as an array; a string as bytes.
-/
import Derived.Test.YtendgpnbbiegkaaSyH
set_option linter.all false
set_option linter.unusedSimpArgs false
set_option linter.unusedVariables false
namespace Go.Proofs.Ytendgpnbbiegkaa.Sx
open Go

/-- An element's cell, where it has one. -/
def Kd.e1 : (k : Kd) → k.T → Value
  | .b => vB | .h => vH | .w => vW | .q => vQ | .n => vN | .z => vZ | .t => .bool | .str => vStr | .raw => id
  | .rw _ => Prod.fst
  | .pr _ _ => fun _ => undef
theorem Kd.e1_cells (k : Kd) (hk : k.size = 1) (x : k.T) : k.cells x = [k.e1 x] := by
  cases k with
  | pr k l => have := k.size_pos; have := l.size_pos; simp only [Kd.size] at hk; omega
  | _ => rfl
theorem Kd.row_e1 (k : Kd) (hk : k.size = 1) (xs : List k.T) : k.row xs = xs.map k.e1 := by
  rw [k.row_eq]
  induction xs with
  | nil => rfl
  | cons x xs ih => rw [List.flatMap_cons, k.e1_cells hk, ih]; rfl
/-- v is a slice of the call's own. -/
def OwK (k : Kd) (T : TypeId) (v : Value) (xs : List k.T) (ch : Hs) : Prop := OwS k.e1 T v xs ch
theorem OwK.nil (k : Kd) (T : TypeId) : OwK k T (.slice none 0 0) ([] : List k.T) [] := OwS.nil _ _
theorem OwK.rd {k : Kd} {T : TypeId} {v : Value} {xs : List k.T} {ch : Hs} (hk : k.size = 1) (h : OwK k T v xs ch) : RdK k ch v xs := RdS.rdK hk (k.e1_cells hk) (OwS.rd h)
theorem OwK.one {k : Kd} {T : TypeId} {v : Value} {xs : List k.T} {ch : Hs} (h : OwK k T v xs ch) : oneC v = true := OwS.one h
/-- A whole row in a block of its own, as a slice of the call's own. -/
theorem OwK.blk {k : Kd} {T : TypeId} {b n : Nat} {xs : List k.T} (hk : k.size = 1) (h : xs.length = n) : OwK k T (.slice (some ⟨b, 0, none⟩) n n) xs [(b, .cells ⟨cellsG [.a k xs n]⟩ T (0, 0))] := by
  have := OwS.mk (e := k.e1) (T := T) (b := b) (xs := xs) h
  show OwS _ _ _ _ [(b, .cells ⟨k.row xs⟩ T (0, 0))]
  rw [k.row_e1 hk]; exact this
def putX {α : Type} (l : List α) (p : Nat) (ys : List α) : List α := l.take p ++ ys ++ l.drop (p + ys.length)
theorem putX_length {α : Type} {l ys : List α} {p : Nat} (h : p + ys.length ≤ l.length) : (putX l p ys).length = l.length := by
  simp only [putX, List.length_append, List.length_take, List.length_drop]; omega
theorem putX_map {α : Type} (e : α → Value) (l : List α) (p : Nat) (ys : List α) : (putX l p ys).map e = putl (l.map e) p (ys.map e) := by
  simp [putX, putl, List.map_take, List.map_drop]
theorem putX_get {α : Type} [Inhabited α] {l ys : List α} {p i : Nat} (h : p + ys.length ≤ l.length) (hi : i < l.length) : (putX l p ys)[i]! = if i < p then l[i]! else if i < p + ys.length then ys[i - p]! else l[i]! := by
  have hl := putX_length h
  rw [getElem!_pos _ i (by rw [hl]; exact hi)]
  unfold putX
  by_cases h1 : i < p
  · rw [if_pos h1, List.getElem_append_left (by simp; omega), List.getElem_append_left (by simp; omega), List.getElem_take, getElem!_pos l i hi]
  · rw [if_neg h1]
    by_cases h2 : i < p + ys.length
    · rw [if_pos h2, List.getElem_append_left (by simp; omega), List.getElem_append_right (by simp; omega), getElem!_pos ys (i - p) (by omega)]
      congr 1; simp; omega
    · rw [if_neg h2, List.getElem_append_right (by simp; omega), List.getElem_drop, getElem!_pos l i hi]
      congr 1; simp; omega
section
variable {C : Ctx} {E : World} {σ : SEnv} {H : List HI} {L : Hs} {n : Nat} {Q : Exit → Act → World → Prop}
/-- A row of bytes. -/
def bRow : (k : Kd) → List k.T → Option (List (BitVec 8))
  | .b, xs => some xs
  | _, _ => none
theorem bRow_eq {k : Kd} {xs : List k.T} {zs : List (BitVec 8)} (h : bRow k xs = some zs) : k.row xs = zs.map vB ∧ k.size = 1 ∧ xs.length = zs.length := by
  cases k <;> simp only [bRow, reduceCtorEq] at h
  simp only [Option.some.injEq] at h; subst h
  exact ⟨rfl, rfl, rfl⟩
/-- A row of bytes is written over a part of a row. -/
def setR : List Sg → Nat → List (Nat × Nat) → List (BitVec 8) → Option (List Sg × Prop)
  | [], _, _, _ => none
  | .c u :: r, base, ix, ys => cond (Nat.beq base 0) none (consP (.c u) True (setR r (base - 1) ix ys))
  | .a k xs m :: r, base, ix, ys => cond (Nat.blt base (m * k.size))
      (match bRow k xs, place 1 base ix with
        | some zs, some (i, _) => some (.a .b (putX zs i ys) m :: r, i + ys.length ≤ m ∧ zs.length = m)
        | _, _ => none)
      (consP (.a k xs m) (xs.length = m) (setR r (base - m * k.size) ix ys))
theorem setR_cells : ∀ {s s' : List Sg} {base : Nat} {ix : List (Nat × Nat)} {ys : List (BitVec 8)} {P : Prop}, setR s base ix ys = some (s', P) → P → cellsG s' = putl (cellsG s) (idx base ix) (ys.map vB) ∧ idx base ix + ys.length ≤ (cellsG s).length
  | .c v :: r, s', base, ix, ys, P, h, hP => by
    unfold setR at h
    replace h := cond_some h
    rcases h with ⟨hb, h⟩ | ⟨hb, h⟩
    · simp at h
    · have hb' : 1 ≤ base := by
        cases base with
        | zero => simp at hb
        | succ n => omega
      unfold consP at h
      split at h
      · rename_i t Q hg
        simp only [Option.some.injEq, Prod.mk.injEq] at h; obtain ⟨rfl, rfl⟩ := h
        obtain ⟨h1, h2⟩ := setR_cells hg hP.2
        rw [cellsG_cons, cellsG_cons, idx_sub hb', h1]
        simp only [Sg.cells, List.length_append, List.length_singleton]
        rw [putl_app_right (a := [v.val]) (by simp)]
        simp only [List.length_singleton, Nat.add_sub_cancel_left]
        exact ⟨trivial, by omega⟩
      · simp at h
  | .a k xs m :: r, s', base, ix, ys, P, h, hP => by
    unfold setR at h
    replace h := cond_some h
    rcases h with ⟨hb, h⟩ | ⟨hb, h⟩
    · split at h
      · rename_i zs i o hz hpl
        simp only [Option.some.injEq, Prod.mk.injEq] at h; obtain ⟨rfl, rfl⟩ := h
        have ho := place_o rfl hpl
        subst ho
        obtain ⟨z1, z2, z3⟩ := bRow_eq hz
        rw [cellsG_cons, cellsG_cons, place_eq hpl]
        simp only [Sg.cells, z1]
        simp only [Kd.row, List.length_append, List.length_map, Nat.mul_one, Nat.add_zero]
        rw [putX_map, putl_app_left (by simp only [List.length_map]; omega)]
        exact ⟨rfl, by omega⟩
      · simp at h
    · unfold consP at h
      split at h
      · rename_i t Q hg
        simp only [Option.some.injEq, Prod.mk.injEq] at h; obtain ⟨rfl, rfl⟩ := h
        have hlen : (k.row xs).length = m * k.size := by rw [k.row_len, hP.1]
        have hle := blt_false hb
        obtain ⟨h1, h2⟩ := setR_cells hg hP.2
        rw [cellsG_cons, cellsG_cons, idx_sub hle, h1]
        simp only [Sg.cells, List.length_append]
        rw [putl_app_right (by rw [hlen]; exact Nat.le_add_right _ _), hlen, Nat.add_sub_cancel_left]
        exact ⟨rfl, by omega⟩
      · simp at h
theorem Ef.copyR {ρ : Env} {L' : Hs} {x y : Operand} {T T2 et b off dl dc : Nat} {u : Value} {cs vs : List Value} {t : TypeId} (hx : ev ρ x = some (.slice (some ⟨b, off, none⟩) dl dc)) (hy : ev ρ y = some u)
    (hT : slOf C T = some (et, 1)) (hs : Src C E L T2 u vs) (ho : ∀ v ∈ vs, oneC v = true)
    (hb : Repl L b (.cells ⟨cs⟩ t (0, 0)) (.cells ⟨putl cs off (vs.take (min vs.length dl))⟩ t (0, 0)) L') (hl : off + min vs.length dl ≤ cs.length) :
    Ef C E (.call ⟨.builtin .copy, #[x, y], #[T, T2]⟩) ρ L fun u M => u = vN (min vs.length dl) ∧ M = L' := by
  intro d ty p af g f w hf hp
  obtain ⟨r, q, h1, h2, h3, h4⟩ := slOf_spec hT
  have hu : ∀ w, (underlying T).run C.P w = .ok (.slice et) w := fun w => by have := run_und h1 w; rwa [h2] at this
  obtain ⟨g1, g2⟩ := hs.2 w hp
  have g3 := g2 (min vs.length dl) (Nat.min_le_left _ _)
  have hvl : (vs.take (min vs.length dl)).length = min vs.length dl := by rw [List.length_take]; omega
  obtain ⟨w', hw, hp'⟩ := run_storeCells (C := C) (off := off) (vs.take (min vs.length dl)) 0 w L L' cs hp (by simpa using hb) (by rw [hvl]; omega) (by right; exact Nat.zero_le _) (fun v hv => ho v (List.mem_of_mem_take hv))
  refine ⟨.value (vN (min vs.length dl)), _, w', L', ?_, .inl rfl, ⟨rfl, rfl⟩, hp'⟩
  have hmn : Nat.min vs.length dl = min vs.length dl := rfl
  simp only [execOp, resolve, invoke, builtin, List.map_toArray, List.map_cons, List.map_nil, hf _ _ hx, hf _ _ hy, Sem.run_bind, Sem.run_pure, Result.andThen_ok, Builtin.copy_, List.getElem?_toArray, List.getElem?_cons_zero, List.getElem?_cons_succ,
    hu, run_lenOf, g1, run_size h3, h4, Nat.mul_one, hmn, g3, hw, goInt]
theorem RdL.srcB {T2 : TypeId} {u : Value} {ys : List (BitVec 8)} {et : Nat} (hT : slOf C T2 = some (et, 1)) (h : RdL .b u ys L) : Src C E L T2 u (ys.map vB) := RdS.src hT h.rd.rdB (fun _ h => h)
theorem RdL.srcK {k : Kd} (hk : k.size = 1) {T2 : TypeId} {u : Value} {ys : List k.T} {et : Nat} (hT : slOf C T2 = some (et, 1)) (h : RdL k u ys L) : Src C E L T2 u (ys.map k.e1) :=
  RdS.src hT (RdK.rdS hk (k.e1_cells hk) h.rd) (fun _ h => h)
/-- A row in a block, as a slice that is read. -/
theorem RdL.ofB (nm : Nat) {k : Kd} {b m cap : Nat} {xs : List k.T} {T : TypeId} (hf : findB nm H = some (b, [.a k xs m], T)) (hm : xs.length = m) (hc : m ≤ cap) : RdL k (.slice (some ⟨b, 0, none⟩) m cap) xs (hs H) :=
  ⟨_, RdK.blk (T := T) hm hc, fun x hx => by simp only [List.mem_singleton] at hx; subst hx; exact findB_mem hf⟩
theorem SL.copyS {ops : Array Oper} {d : Nat} {x y : Operand} {T T2 et et2 nm b base dl dc : Nat} {ix : List (Nat × Nat)} {u : SV} {ys : List (BitVec 8)} {H' : List HI} {P : Prop} {t : TypeId} {p : String} {af : Array Edge} {rest : List Oper}
    (hd : Nat.blt d n = true) (hx : evC σ x = some (.sl nm b base ix dl dc)) (hy : evO σ y = some u) (hT : slOf C T = some (et, 1)) (hT2 : slOf C T2 = some (et2, 1)) (hr : RdL .b u.val ys (hs H)) (m : Nat) (hm : min ys.length dl = m)
    (hset : updB nm b (fun s => setR s base ix (ys.take m)) H = some (H', P)) (hP : P)
    (k : SL C E n ops Q rest (env ((d, .r (.c (.n m))) :: σ)) (hs H')) : SL C E n ops Q (⟨some d, .call ⟨.builtin .copy, #[x, y], #[T, T2]⟩, t, p, af, none⟩ :: rest) (env σ) (hs H) := by
  subst hm
  obtain ⟨s, s', T', R, g1, g2, g3⟩ := updB_repl hset hP
  obtain ⟨e1, e2⟩ := setR_cells g1 g2
  rw [e1] at g3
  have e3 : (ys.take (min ys.length dl)).map vB = (ys.map vB).take (min (ys.map vB).length dl) := by rw [List.map_take, List.length_map]
  rw [e3] at g3
  refine SL.ef hd (Ef.copyR (evC_ev hx) (evO_ev hy) hT (RdL.srcB hT2 hr) (one_map (fun _ => rfl)) g3 (by rw [List.length_take] at e2; rw [List.length_map]; omega)) ?_
  rintro _ _ ⟨rfl, rfl⟩
  rw [List.length_map]
  exact k
/-- append: to a slice of the call's own (op nm, or nil), of elements of one cell. -/
theorem SL.appS (nms : List Nat) (nm' : Nat) {k : Kd} {ops : Array Oper} {d : Nat} {x y : Operand} {T T2 et et2 : Nat} {q : TR} {vx u : SV} {xs ys : List k.T} {ch : Hs} {A H0 : List HI} {t : TypeId} {p : String} {af : Array Edge} {rest : List Oper}
    (hd : Nat.blt d n = true) (hx : evO σ x = some vx) (hy : evO σ y = some u) (hT : slOf C T = some (et, 1)) (hT2 : slOf C T2 = some (et2, 1)) (hq : C.ty et = some q) (hb : Nat.ble q.bytes 64 = true) (hb0 : Nat.blt 0 q.bytes = true) (hz : q.zero.cells.size = 1)
    (hk : Nat.beq k.size 1 = true) (ho : OwK k et vx.val xs ch) (hr : RdL k u.val ys (hs H)) (hA : cutH nms H = some (A, H0)) (hch : hs A = ch) (h1 : ∀ a, oneC (k.e1 a) = true) (hn : xs.length + ys.length ≤ 1099511627776)
    (kk : ∀ v' ch', OwK k et v' (xs ++ ys) ch' → SL C E n ops Q rest (env ((d, .r (.c (.rd k v' (xs ++ ys)))) :: σ)) (hs (.op nm' ch' :: H0))) :
    SL C E n ops Q (⟨some d, .call ⟨.builtin .append, #[x, y], #[T, T2]⟩, t, p, af, none⟩ :: rest) (env σ) (hs H) := by
  subst hch
  have hsrc := RdL.srcK (C := C) (E := E) (beq_iff.1 hk) hT2 hr
  have hpm : (hs H).Perm (hs A ++ hs H0) := (cutH_perm hA).symm
  refine SL.ef hd (Ef.appendG (e := k.e1) (evO_ev hx) (evO_ev hy) hT hq hb hb0 hz hsrc ho hpm h1 hn) ?_
  rintro v' _ ⟨ch', hv, rfl⟩
  have := kk v' ch' hv
  rw [hs_op] at this; exact this
theorem SL.appB (nms : List Nat) (nm' : Nat) {ops : Array Oper} {d : Nat} {x y : Operand} {T T2 et et2 : Nat} {q : TR} {vx u : SV} {xs ys : List (BitVec 8)} {ch : Hs} {A H0 : List HI} {t : TypeId} {p : String} {af : Array Edge} {rest : List Oper}
    (hd : Nat.blt d n = true) (hx : evO σ x = some vx) (hy : evO σ y = some u) (hT : slOf C T = some (et, 1)) (hT2 : slOf C T2 = some (et2, 1)) (hq : C.ty et = some q) (hb : q.bytes = 1) (hz : q.zero.cells.size = 1)
    (ho : OwK .b et vx.val xs ch) (hr : RdL .b u.val ys (hs H)) (hA : cutH nms H = some (A, H0)) (hch : hs A = ch) (hn : xs.length + ys.length ≤ 140737488355328)
    (kk : ∀ v' ch', OwK .b et v' (xs ++ ys) ch' → SL C E n ops Q rest (env ((d, .r (.c (.rd .b v' (xs ++ ys)))) :: σ)) (hs (.op nm' ch' :: H0))) :
    SL C E n ops Q (⟨some d, .call ⟨.builtin .append, #[x, y], #[T, T2]⟩, t, p, af, none⟩ :: rest) (env σ) (hs H) := by
  subst hch
  have hsrc := RdL.srcB (C := C) (E := E) hT2 hr
  have hpm : (hs H).Perm (hs A ++ hs H0) := (cutH_perm hA).symm
  refine SL.ef hd (Ef.appendB (e := vB) (evO_ev hx) (evO_ev hy) hT hq hb hz hsrc ho hpm (fun _ => rfl) hn) ?_
  rintro v' _ ⟨ch', hv, rfl⟩
  have := kk v' ch' hv
  rw [hs_op] at this; exact this
/-- append of a string to bytes. -/
theorem vStr_src {T2 : TypeId} {s : List (BitVec 8)} {r : TR} (hT : C.ty T2 = some r) (hd : r.desc = .string) : Src C E L T2 (vStr s) (s.map vB) := by
  refine ⟨⟨r, hT, .inr hd⟩, fun w hp => ⟨?_, fun m hm => ?_⟩⟩
  · simp [Builtin.lenOf, ByteArray.size]
  · have e : ((⟨⟨s.map UInt8.ofBitVec⟩⟩ : ByteArray).extract 0 m).data.map (fun b => Value.int .u8 b.toNat) = ⟨(s.map vB).take m⟩ := by
      rw [ByteArray.data_extract]
      apply Array.ext'
      rw [Array.toList_map, Array.toList_extract]
      simp [List.extract_eq_take_drop, List.map_take, Function.comp_def]
    simp only [Builtin.firstCells, Sem.run_pure, e]
/-- append to a slice of bytes, from a string. -/
theorem SL.appStr (nms : List Nat) (nm' : Nat) {ops : Array Oper} {d : Nat} {x y : Operand} {T T2 et : Nat} {q r2 : TR} {vx : SV} {xs ys : List (BitVec 8)} {ch : Hs} {A H0 : List HI} {t : TypeId} {p : String} {af : Array Edge} {rest : List Oper}
    (hd : Nat.blt d n = true) (hx : evO σ x = some vx) (hy : evC σ y = some (.str ys)) (hT : slOf C T = some (et, 1)) (hT2 : C.ty T2 = some r2) (hd2 : r2.desc = .string) (hq : C.ty et = some q) (hb : q.bytes = 1) (hz : q.zero.cells.size = 1)
    (ho : OwK .b et vx.val xs ch) (hA : cutH nms H = some (A, H0)) (hch : hs A = ch) (hn : xs.length + ys.length ≤ 140737488355328)
    (kk : ∀ v' ch', OwK .b et v' (xs ++ ys) ch' → SL C E n ops Q rest (env ((d, .r (.c (.rd .b v' (xs ++ ys)))) :: σ)) (hs (.op nm' ch' :: H0))) :
    SL C E n ops Q (⟨some d, .call ⟨.builtin .append, #[x, y], #[T, T2]⟩, t, p, af, none⟩ :: rest) (env σ) (hs H) := by
  subst hch
  have hsrc : Src C E (hs H) T2 (vStr ys) (ys.map vB) := vStr_src hT2 hd2
  have hpm : (hs H).Perm (hs A ++ hs H0) := (cutH_perm hA).symm
  refine SL.ef hd (Ef.appendB (e := vB) (evO_ev hx) (evC_ev hy) hT hq hb hz hsrc ho hpm (fun _ => rfl) hn) ?_
  rintro v' _ ⟨ch', hv, rfl⟩
  have := kk v' ch' hv
  rw [hs_op] at this; exact this
/-- A string as bytes. -/
theorem SL.bytesS (nm' : Nat) {ops : Array Oper} {d : Nat} {x : Operand} {S T et : Nat} {q s : TR} {ys : List (BitVec 8)} {t : TypeId} {p : String} {af : Array Edge} {rest : List Oper}
    (hd : Nat.blt d n = true) (hx : evC σ x = some (.str ys)) (hS : C.ty S = some s) (hs' : s.desc = .string) (hT : slOf C T = some (et, 1)) (hq : C.ty et = some q) (hb : q.desc = .int .u8)
    (kk : ∀ v' ch', OwK .b et v' ys ch' → SL C E n ops Q rest (env ((d, .r (.c (.rd .b v' ys))) :: σ)) (hs (.op nm' ch' :: H))) :
    SL C E n ops Q (⟨some d, .convert S T x, t, p, af, none⟩ :: rest) (env σ) (hs H) := by
  refine SL.ef hd (Ef.toBytes (evC_ev hx) hS hs' hT hq hb) ?_
  rintro v' _ ⟨ch', hv, rfl⟩
  have := kk v' ch' hv
  rw [hs_op] at this; exact this
theorem OwK.ne {k : Kd} {T : TypeId} {v : Value} {xs : List k.T} {ch : Hs} (h : OwK k T v xs ch) (hx : Nat.blt 0 xs.length = true) : v ≠ .slice none 0 0 := by
  rintro rfl
  rcases h with ⟨_, rfl, _⟩ | ⟨b, cap, sp, fz, h, _⟩
  · simp at hx
  · cases h
/-- A slice of bytes, as itself. -/
theorem SL.markS (nms : List Nat) (nm' : Nat) {ops : Array Oper} {d : Nat} {x : Operand} {T et : Nat} {q : TR} {v : Value} {xs : List (BitVec 8)} {ch : Hs} {A H0 : List HI} {t : TypeId} {p : String} {af : Array Edge} {rest : List Oper}
    (hd : Nat.blt d n = true) (hx : evC σ x = some (.rd .b v xs)) (hT : slOf C T = some (et, 1)) (hq : C.ty et = some q) (hb : q.desc = .int .u8) (ho : OwK .b et v xs ch) (hne : v ≠ .slice none 0 0) (hA : cutH nms H = some (A, H0)) (hch : hs A = ch)
    (kk : ∀ ch', OwK .b et v xs ch' → SL C E n ops Q rest (env ((d, .r (.c (.rd .b v xs))) :: σ)) (hs (.op nm' ch' :: H0))) :
    SL C E n ops Q (⟨some d, .convert T T x, t, p, af, none⟩ :: rest) (env σ) (hs H) := by
  subst hch
  refine SL.perm (cutH_perm hA).symm ?_
  refine SL.ef hd (Ef.markS (evC_ev hx) hT hq hb ho hne) ?_
  rintro v' _ ⟨rfl, ch', hv, rfl⟩
  have := kk ch' hv
  rw [hs_op] at this; exact this
/-- A literal of elements of one cell, as a slice of the call's own. -/
theorem SL.litO (nm : Nat) {k : Kd} {xs : List k.T} {ops : Array Oper} {d : Nat} {T m et : TypeId} {parts : Array (Nat × Operand)} {t : TypeId} {p : String} {af : Array Edge} {rest : List Oper} {P : Prop} (hd : Nat.blt d n = true) (hl : litV C σ T m parts.toList = some (et, [.a k xs m], P)) (hP : P)
    (hk : Nat.beq k.size 1 = true) (hm : Nat.beq xs.length m = true)
    (kk : ∀ v ch, OwK k et v xs ch → SL C E n ops Q rest (env ((d, .r (.c (.rd k v xs))) :: σ)) (hs (.op nm ch :: H))) : SL C E n ops Q (⟨some d, .buildSlice T m parts, t, p, af, none⟩ :: rest) (env σ) (hs H) := by
  refine SL.litS nm hd hl hP ?_
  intro b
  have := kk (.slice (some ⟨b, 0, none⟩) m m) [(b, .cells ⟨cellsG [.a k xs m]⟩ et (0, 0))] (OwK.blk (beq_iff.1 hk) (beq_iff.1 hm))
  rw [hs_op] at this
  exact this
/-- What is decided in a slot is so; is not so. -/
theorem SL.knowT (i : Nat) {ops : Array Oper} {ol : List Oper} {p : Prop} {di : Decidable p} (hb : lkS σ i = some (.r (.c (.d p di)))) (hp : p) (k : SL C E n ops Q ol (env ((i, .r (.c (.t true))) :: σ)) L) : SL C E n ops Q ol (env σ) L :=
  SL.splitD i hb (fun _ => k) (fun h => absurd hp h)
theorem SL.knowF (i : Nat) {ops : Array Oper} {ol : List Oper} {p : Prop} {di : Decidable p} (hb : lkS σ i = some (.r (.c (.d p di)))) (hp : ¬ p) (k : SL C E n ops Q ol (env ((i, .r (.c (.t false))) :: σ)) L) : SL C E n ops Q ol (env σ) L :=
  SL.splitD i hb (fun h => absurd h hp) (fun _ => k)
theorem SH.knowT (i : Nat) {ops : Array Oper} {tl : List Oper} {ol : List (Oper × Bool)} {p : Prop} {di : Decidable p} (hb : lkS σ i = some (.r (.c (.d p di)))) (hp : p) (k : SH C E n ops Q tl ol (env ((i, .r (.c (.t true))) :: σ)) L) : SH C E n ops Q tl ol (env σ) L :=
  SH.splitD i hb (fun _ => k) (fun h => absurd hp h)
theorem SH.knowF (i : Nat) {ops : Array Oper} {tl : List Oper} {ol : List (Oper × Bool)} {p : Prop} {di : Decidable p} (hb : lkS σ i = some (.r (.c (.d p di)))) (hp : ¬ p) (k : SH C E n ops Q tl ol (env ((i, .r (.c (.t false))) :: σ)) L) : SH C E n ops Q tl ol (env σ) L :=
  SH.splitD i hb (fun h => absurd h hp) (fun _ => k)
theorem SC.knowT (i : Nat) {c : Code} {p : Prop} {di : Decidable p} (hb : lkS σ i = some (.r (.c (.d p di)))) (hp : p) (k : SC C E n c Q (env ((i, .r (.c (.t true))) :: σ)) L) : SC C E n c Q (env σ) L := by
  intro a w hf hpw
  have h1 := hf.shadow (lkS_env hb)
  have e : (SV.r (.c (.d p di))).val = (SV.r (.c (.t true))).val := by simp only [SV.val, Rv.val, CV.val]; congr 1; exact decide_eq_true hp
  rw [e] at h1
  exact k a w h1 hpw
theorem SC.knowF (i : Nat) {c : Code} {p : Prop} {di : Decidable p} (hb : lkS σ i = some (.r (.c (.d p di)))) (hp : ¬ p) (k : SC C E n c Q (env ((i, .r (.c (.t false))) :: σ)) L) : SC C E n c Q (env σ) L := by
  intro a w hf hpw
  have h1 := hf.shadow (lkS_env hb)
  have e : (SV.r (.c (.d p di))).val = (SV.r (.c (.t false))).val := by simp only [SV.val, Rv.val, CV.val]; congr 1; exact decide_eq_false hp
  rw [e] at h1
  exact k a w h1 hpw
theorem SQ.knowT (i : Nat) {e : Exit} {p : Prop} {di : Decidable p} (hb : lkS σ i = some (.r (.c (.d p di)))) (hp : p) (k : SQ E n Q e (env ((i, .r (.c (.t true))) :: σ)) L) : SQ E n Q e (env σ) L := by
  intro a w hf hpw
  have h1 := hf.shadow (lkS_env hb)
  have e : (SV.r (.c (.d p di))).val = (SV.r (.c (.t true))).val := by simp only [SV.val, Rv.val, CV.val]; congr 1; exact decide_eq_true hp
  rw [e] at h1
  exact k a w h1 hpw
theorem SQ.knowF (i : Nat) {e : Exit} {p : Prop} {di : Decidable p} (hb : lkS σ i = some (.r (.c (.d p di)))) (hp : ¬ p) (k : SQ E n Q e (env ((i, .r (.c (.t false))) :: σ)) L) : SQ E n Q e (env σ) L := by
  intro a w hf hpw
  have h1 := hf.shadow (lkS_env hb)
  have e : (SV.r (.c (.d p di))).val = (SV.r (.c (.t false))).val := by simp only [SV.val, Rv.val, CV.val]; congr 1; exact decide_eq_false hp
  rw [e] at h1
  exact k a w h1 hpw
/-- A law's function answers true. -/
theorem FnS.law {f : FuncId} {args : List SV} {F : Hs → Prop} {p : Unit → Prop} (h : FnS C E f args F [] p (fun _ => .r (.c (.t true))) (fun _ => [])) (hF : F L) : FnC C E f (args.map SV.val).toArray L fun v N => v = .bool true ∧ N = L :=
  FnC.mono (h L hF) fun v N ⟨_, _, h2, h3⟩ => ⟨h2, h3⟩
end
end Go.Proofs.Ytendgpnbbiegkaa.Sx
