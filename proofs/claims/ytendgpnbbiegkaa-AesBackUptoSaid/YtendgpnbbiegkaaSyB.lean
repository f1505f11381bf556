/-
  Symbolic values: cells written, parts of blocks read and written.
-/
import Derived.Test.YtendgpnbbiegkaaSyA
set_option linter.all false
set_option linter.unusedSimpArgs false
set_option linter.unusedVariables false
namespace Go.Proofs.Ytendgpnbbiegkaa.Sx
open Go

/-- An element whose o-th cell is written. -/
def Kd.put : (k : Kd) → k.T → Nat → CV → Option k.T
  | .b, _, _, .b x => some x
  | .h, _, _, .h x => some x
  | .w, _, _, .w x => some x
  | .q, _, _, .q x => some x
  | .n, _, _, .n x => some x
  | .n, _, _, .l x => some x
  | .z, _, _, .z x => some x
  | .z, _, _, .n x => some (x : Int)
  | .z, _, _, .l x => some (x : Int)
  | .t, _, _, .t x => some x
  | .t, _, _, .d p i => some (@decide p i)
  | .str, _, _, .str s => some s
  | .raw, _, _, v => some v.val
  | .pr k l, x, o, v => cond (Nat.blt o k.size) (match k.put x.1 o v with | some y => some (y, x.2) | none => none) (match l.put x.2 (o - k.size) v with | some y => some (x.1, y) | none => none)
  | _, _, _, _ => none
theorem set_app_left {α : Type} {a b : List α} {i : Nat} {v : α} (h : i < a.length) : (a ++ b).set i v = a.set i v ++ b := by rw [List.set_append]; simp [h]
theorem set_app_right {α : Type} {a b : List α} {i : Nat} {v : α} (h : a.length ≤ i) : (a ++ b).set i v = a ++ b.set (i - a.length) v := by rw [List.set_append]; simp [Nat.not_lt.2 h]
theorem blt_iff {a b : Nat} : Nat.blt a b = true ↔ a < b := by rw [Nat.blt_eq]
theorem blt_false {a b : Nat} (h : Nat.blt a b = false) : b ≤ a := by
  have : ¬ a < b := by intro hh; rw [← Nat.blt_eq] at hh; rw [hh] at h; cases h
  omega
theorem Kd.put_cells : ∀ (k : Kd) (x x' : k.T) (o : Nat) (v : CV), o < k.size → k.put x o v = some x' → k.cells x' = (k.cells x).set o v.val
  | .pr k l, x, x', o, v, ho, hq => by
    unfold Kd.put at hq
    simp only [Kd.cells]
    cases hb : Nat.blt o k.size with
    | true =>
      rw [hb] at hq; simp only [cond_true] at hq
      split at hq
      · rename_i y hy
        simp at hq; subst hq
        have h1 := blt_iff.1 hb
        rw [set_app_left (by rw [k.cells_len]; exact h1), k.put_cells _ _ _ _ h1 hy]
      · simp at hq
    | false =>
      rw [hb] at hq; simp only [cond_false] at hq
      split at hq
      · rename_i y hy
        simp at hq; subst hq
        have h1 := blt_false hb
        have h2 : o - k.size < l.size := by simp only [Kd.size] at ho; omega
        rw [set_app_right (by rw [k.cells_len]; exact h1), k.cells_len, l.put_cells _ _ _ _ h2 hy]
      · simp at hq
  | .b, _, _, o, v, ho, hq | .h, _, _, o, v, ho, hq | .w, _, _, o, v, ho, hq | .q, _, _, o, v, ho, hq | .n, _, _, o, v, ho, hq | .z, _, _, o, v, ho, hq | .t, _, _, o, v, ho, hq | .str, _, _, o, v, ho, hq | .raw, _, _, o, v, ho, hq => by
    have e : o = 0 := by simp [Kd.size] at ho; exact ho
    subst e
    cases v <;> simp [Kd.put] at hq <;> subst hq <;> simp [Kd.cells, CV.val]
  | .rw _, _, _, o, v, ho, hq => by simp [Kd.put] at hq
theorem Kd.row_set (k : Kd) (xs : List k.T) (i o : Nat) (x' : k.T) (v : CV) (h : i < xs.length) (ho : o < k.size) (hp : k.put xs[i]! o v = some x') : k.row (xs.set i x') = (k.row xs).set (i * k.size + o) v.val := by
  rw [k.row_eq, k.row_eq]
  induction xs generalizing i with
  | nil => simp at h
  | cons x xs ih =>
    cases i with
    | zero =>
      have hp' : k.put x o v = some x' := by simpa using hp
      rw [List.set_cons_zero, List.flatMap_cons, List.flatMap_cons, set_app_left (by rw [k.cells_len]; omega), k.put_cells _ _ _ _ ho hp']
      simp
    | succ i =>
      have hp' : k.put xs[i]! o v = some x' := by simpa using hp
      rw [List.set_cons_succ, List.flatMap_cons, List.flatMap_cons, set_app_right (by rw [k.cells_len, Nat.succ_mul]; omega), k.cells_len, show (i + 1) * k.size + o - k.size = i * k.size + o by rw [Nat.succ_mul]; omega, ih i (by simpa using h) hp']
def consP (g : Sg) (P : Prop) : Option (List Sg × Prop) → Option (List Sg × Prop)
  | some (s, Q) => some (g :: s, P ∧ Q)
  | none => none
/-- One cell is written. -/
def setC : List Sg → Nat → List (Nat × Nat) → CV → Option (List Sg × Prop)
  | [], _, _, _ => none
  | .c u :: r, base, ix, v => cond (Nat.beq base 0) (match ix with | [] => some (.c v :: r, True) | _ => none) (consP (.c u) True (setC r (base - 1) ix v))
  | .a k xs n :: r, base, ix, v => cond (Nat.blt base (n * k.size))
      (match place k.size base ix with
        | some (i, o) => cond (Nat.blt o k.size) (match k.put xs[i]! o v with
          | some x => some (.a k (xs.set i x) n :: r, i < n ∧ xs.length = n)
          | none => none) none
        | none => none)
      (consP (.a k xs n) (xs.length = n) (setC r (base - n * k.size) ix v))
theorem setC_cells : ∀ {s s' : List Sg} {base : Nat} {ix : List (Nat × Nat)} {v : CV} {P : Prop}, setC s base ix v = some (s', P) → P → cellsG s' = (cellsG s).set (idx base ix) v.val ∧ idx base ix < (cellsG s).length
  | .c u :: r, s', base, ix, v, P, h, hP => by
    unfold setC at h
    cases hb : Nat.beq base 0 with
    | true =>
      rw [hb] at h
      have := Nat.eq_of_beq_eq_true hb; subst this
      simp only [cond_true] at h
      split at h
      · simp only [cond_true, cond_false, Option.some.injEq, Prod.mk.injEq] at h; obtain ⟨rfl, rfl⟩ := h
        rw [cellsG_cons, cellsG_cons]; simp [idx, Sg.cells]
      · simp at h
    | false =>
      rw [hb] at h
      have hb' : 1 ≤ base := by
        cases base with
        | zero => simp at hb
        | succ n => omega
      simp only [cond_false] at h
      unfold consP at h
      split at h
      · rename_i t Q hg
        simp only [cond_true, cond_false, Option.some.injEq, Prod.mk.injEq] at h; obtain ⟨rfl, rfl⟩ := h
        obtain ⟨h1, h2⟩ := setC_cells (s' := t) (P := Q) (by simpa using hg) hP.2
        rw [cellsG_cons, cellsG_cons, idx_sub hb', h1, Nat.add_comm]
        simp only [Sg.cells, List.length_append, List.length_singleton, List.singleton_append, List.set_cons_succ]
        exact ⟨trivial, by simp only [List.length_cons]; omega⟩
      · simp at h
  | .a k xs n :: r, s', base, ix, v, P, h, hP => by
    unfold setC at h
    rw [cellsG_cons]
    cases hb : Nat.blt base (n * k.size) with
    | true =>
      rw [hb] at h
      simp only [cond_true] at h
      split at h
      · rename_i i o hpl
        cases ho : Nat.blt o k.size with
        | false => rw [ho] at h; simp at h
        | true =>
          rw [ho] at h; simp only [cond_true] at h
          have ho' := blt_iff.1 ho
          split at h
          · rename_i x hx
            simp only [cond_true, cond_false, Option.some.injEq, Prod.mk.injEq] at h; obtain ⟨rfl, rfl⟩ := h
            have hi : i < xs.length := by omega
            have hlt : i * k.size + o < (k.row xs).length := by
              rw [k.row_len]
              have := Nat.mul_le_mul_right k.size (Nat.succ_le_of_lt hi)
              rw [Nat.succ_mul] at this; omega
            rw [cellsG_cons, place_eq hpl]
            simp only [Sg.cells, List.length_append]
            rw [set_app_left hlt, k.row_set xs i o x v hi ho' hx]
            exact ⟨rfl, by omega⟩
          · simp at h
      · simp at h
    | false =>
      rw [hb] at h
      simp only [cond_false] at h
      unfold consP at h
      split at h
      · rename_i t Q hg
        simp only [cond_true, cond_false, Option.some.injEq, Prod.mk.injEq] at h; obtain ⟨rfl, rfl⟩ := h
        have hlen : (k.row xs).length = n * k.size := by rw [k.row_len, hP.1]
        have hle := blt_false hb
        obtain ⟨h1, h2⟩ := setC_cells hg hP.2
        rw [cellsG_cons, idx_sub hle, h1]
        simp only [Sg.cells, List.length_append]
        rw [set_app_right (by rw [hlen]; exact Nat.le_add_right _ _), hlen, Nat.add_sub_cancel_left]
        exact ⟨rfl, by omega⟩
      · simp at h

/-- Lists, laid out. -/
def appO : List Sg → List Sg → Option (List Sg)
  | [], t => some t
  | a :: l, t => match appO l t with | some u => some (a :: u) | none => none
theorem appO_eq : ∀ {l t u : List Sg}, appO l t = some u → u = l ++ t
  | [], t, u, h => by simp only [appO, Option.some.injEq] at h; exact h.symm
  | a :: l, t, u, h => by
    unfold appO at h
    split at h
    · rename_i v hv
      simp only [Option.some.injEq] at h; subst h
      rw [appO_eq hv]; rfl
    · simp at h
def mapO : List CV → Option (List Sg)
  | [] => some []
  | a :: l => match mapO l with | some u => some (.c a :: u) | none => none
theorem mapO_eq : ∀ {l : List CV} {u : List Sg}, mapO l = some u → u = l.map .c
  | [], u, h => by simp only [mapO, Option.some.injEq] at h; exact h.symm
  | a :: l, u, h => by
    unfold mapO at h
    split at h
    · rename_i v hv
      simp only [Option.some.injEq] at h; subst h
      rw [mapO_eq hv]; rfl
    · simp at h
/-- The first n cells. -/
def takeG : List Sg → Nat → Option (List Sg × Prop)
  | s, 0 => match s with | _ => some ([], True)
  | [], _ + 1 => none
  | .c v :: r, n + 1 => consP (.c v) True (takeG r n)
  | .a k xs m :: r, n + 1 => cond (Nat.ble (m * k.size) (n + 1)) (consP (.a k xs m) (xs.length = m) (takeG r (n + 1 - m * k.size))) none
theorem takeG_cells : ∀ {s : List Sg} {n : Nat} {t : List Sg} {P : Prop}, takeG s n = some (t, P) → P → (cellsG s).take n = cellsG t ∧ n ≤ (cellsG s).length
  | s, 0, t, P, h, hP => by
    unfold takeG at h
    simp only [cond_true, cond_false, Option.some.injEq, Prod.mk.injEq] at h; obtain ⟨rfl, rfl⟩ := h
    simp [cellsG]
  | .c v :: r, n + 1, t, P, h, hP => by
    unfold takeG consP at h
    split at h
    · rename_i u Q hg
      simp only [cond_true, cond_false, Option.some.injEq, Prod.mk.injEq] at h; obtain ⟨rfl, rfl⟩ := h
      obtain ⟨h1, h2⟩ := takeG_cells (t := u) (P := Q) (by simpa using hg) hP.2
      rw [cellsG_cons, cellsG_cons, ← h1]
      simp only [Sg.cells, List.singleton_append, List.take_succ_cons, List.length_cons]
      exact ⟨trivial, by omega⟩
    · simp at h
  | .a k xs m :: r, n + 1, t, P, h, hP => by
    unfold takeG at h
    cases hb : Nat.ble (m * k.size) (n + 1) with
    | false => rw [hb] at h; simp at h
    | true =>
      rw [hb] at h
      simp only [cond_true] at h
      unfold consP at h
      split at h
      · rename_i u Q hg
        simp only [cond_true, cond_false, Option.some.injEq, Prod.mk.injEq] at h; obtain ⟨rfl, rfl⟩ := h
        obtain ⟨h1, h2⟩ := takeG_cells hg hP.2
        have hlen : (k.row xs).length = m * k.size := by rw [k.row_len, hP.1]
        have hle : m * k.size ≤ n + 1 := by simpa using hb
        rw [cellsG_cons, cellsG_cons, ← h1]
        simp only [Sg.cells, List.length_append]
        rw [List.take_append, hlen, List.take_of_length_le (by rw [hlen]; exact hle)]
        exact ⟨rfl, by omega⟩
      · simp at h
  | [], n + 1, t, P, h, hP => by simp [takeG] at h
theorem place_o {s base i o : Nat} {ix : List (Nat × Nat)} (hs : s = 1) (h : place s base ix = some (i, o)) : o = 0 := by
  unfold place at h
  split at h
  all_goals
    simp only [Bool.cond_eq_ite, beq_iff, Nat.blt_eq] at h
    repeat' split at h
  all_goals
    simp only [Option.some.injEq, Prod.mk.injEq, reduceCtorEq] at h
  all_goals
    obtain ⟨rfl, rfl⟩ := h
    first | rfl | omega
/-- n cells from a place on. -/
def getG : List Sg → Nat → List (Nat × Nat) → Nat → Option (List Sg × Prop)
  | [], _, _, _ => none
  | .c v :: r, base, ix, n => cond (Nat.beq base 0) (match ix with | [] => takeG (.c v :: r) n | _ => none) (getG r (base - 1) ix n)
  | .a k xs m :: r, base, ix, n => cond (Nat.blt base (m * k.size))
      (cond (Nat.beq base 0 && ix.isEmpty && Nat.ble (m * k.size) n) (takeG (.a k xs m :: r) n)
        (match place k.size base ix with
            | some (i, o) => cond (Nat.beq k.size 1) (some ([.a k ((xs.drop i).take n) n], i + n ≤ m ∧ xs.length = m))
              (cond (Nat.beq o 0 && Nat.beq n k.size) (match mapO (k.nths xs i) with | some u => some (u, i < m ∧ xs.length = m) | none => none) none)
            | none => none))
      (match getG r (base - m * k.size) ix n with
        | some (s, P) => some (s, xs.length = m ∧ P)
        | none => none)
theorem cellsG_c (l : List CV) : cellsG (l.map .c) = l.map CV.val := by
  induction l with
  | nil => rfl
  | cons v l ih => rw [List.map_cons, cellsG_cons, ih]; rfl
theorem seg_of {l vs : List Value} {off n : Nat} (h1 : off + n ≤ l.length) (h2 : (l.drop off).take n = vs) : seg l off n = some vs := by
  unfold seg
  rw [show Nat.ble (off + n) l.length = true by simpa using h1]
  simp [h2]
theorem Kd.row1 {k : Kd} (h : k.size = 1) (xs : List k.T) (a n : Nat) : k.row ((xs.drop a).take n) = ((k.row xs).drop a).take n := by
  rw [k.row_eq, k.row_eq]
  have key : ∀ ys : List k.T, ∀ n, (ys.take n).flatMap k.cells = (ys.flatMap k.cells).take n := fun ys => by
    induction ys with
    | nil => simp
    | cons y ys ih =>
      intro n
      have hc : ∃ c, k.cells y = [c] := by
        have := k.cells_len y; rw [h] at this
        match hk : k.cells y, this with
        | [c], _ => exact ⟨c, rfl⟩
      obtain ⟨c, hc⟩ := hc
      cases n with
      | zero => simp
      | succ n => rw [List.take_succ_cons, List.flatMap_cons, List.flatMap_cons, hc, ih]; rfl
  have key2 : ∀ ys : List k.T, ∀ n, (ys.drop n).flatMap k.cells = (ys.flatMap k.cells).drop n := fun ys => by
    induction ys with
    | nil => simp
    | cons y ys ih =>
      intro n
      have hc : ∃ c, k.cells y = [c] := by
        have := k.cells_len y; rw [h] at this
        match hk : k.cells y, this with
        | [c], _ => exact ⟨c, rfl⟩
      obtain ⟨c, hc⟩ := hc
      cases n with
      | zero => simp
      | succ n => rw [List.drop_succ_cons, List.flatMap_cons, hc, ih]; rfl
  rw [key, key2]
theorem getG_seg : ∀ {s t : List Sg} {base n : Nat} {ix : List (Nat × Nat)} {P : Prop}, getG s base ix n = some (t, P) → P → seg (cellsG s) (idx base ix) n = some (cellsG t)
  | .c v :: r, t, base, n, ix, P, h, hP => by
    unfold getG at h
    cases hb : Nat.beq base 0 with
    | true =>
      rw [hb] at h
      have := Nat.eq_of_beq_eq_true hb; subst this
      simp only [cond_true] at h
      split at h
      · obtain ⟨h1, h2⟩ := takeG_cells h hP
        exact seg_of (by simpa [idx] using h2) (by simpa [idx] using h1)
      · simp at h
    | false =>
      rw [hb] at h
      have hb' : 1 ≤ base := by
        cases base with
        | zero => simp at hb
        | succ n => omega
      obtain ⟨h1, h2⟩ := seg_spec (getG_seg (by simpa using h) hP)
      rw [cellsG_cons, idx_sub hb']
      refine seg_of (by simp only [Sg.cells, List.length_append, List.length_singleton]; change _ + _ ≤ _ at h1; omega) ?_
      rw [Nat.add_comm]; simpa [Sg.cells] using h2
  | .a k xs m :: r, t, base, n, ix, P, h, hP => by
    unfold getG at h
    cases hb : Nat.blt base (m * k.size) with
    | true =>
      rw [hb] at h
      simp only [cond_true] at h
      cases hc : (Nat.beq base 0 && ix.isEmpty && Nat.ble (m * k.size) n) with
      | true =>
        rw [hc] at h; simp only [cond_true] at h
        simp only [Bool.and_eq_true] at hc
        obtain ⟨⟨c1, c2⟩, _⟩ := hc
        have := Nat.eq_of_beq_eq_true c1; subst this
        have : ix = [] := by simpa using c2
        subst this
        obtain ⟨h1, h2⟩ := takeG_cells h hP
        exact seg_of (by simpa [idx] using h2) (by simpa [idx] using h1)
      | false =>
        rw [hc] at h; simp only [cond_false] at h
        split at h
        · rename_i i o hpl
          replace h := cond_some h
          rcases h with ⟨hs, h⟩ | ⟨hs, h⟩
          · simp only [Option.some.injEq, Prod.mk.injEq] at h; obtain ⟨rfl, rfl⟩ := h
            have hk := Nat.eq_of_beq_eq_true hs
            have hl := k.row_len xs
            have hpos : o = 0 ∨ n = 0 ∨ 0 < n := by omega
            have hio : idx base ix = i + o := by rw [place_eq hpl, hk, Nat.mul_one]
            have ho : o = 0 := place_o hk hpl
            subst ho
            rw [cellsG_cons, hio, Nat.add_zero]
            refine seg_of (by simp only [Sg.cells, List.length_append, hl, hk]; omega) ?_
            show _ = k.row _
            rw [Kd.row1 hk, Sg.cells, List.drop_append, List.take_append, List.length_drop, hl, hk]
            rw [show n - (xs.length * 1 - i) = 0 by omega]
            simp
          · replace h := cond_some h
            rcases h with ⟨ho, h⟩ | ⟨ho, h⟩
            · split at h
              · rename_i u hu
                simp only [Option.some.injEq, Prod.mk.injEq] at h; obtain ⟨rfl, rfl⟩ := h
                rw [mapO_eq hu]
                simp only [Bool.and_eq_true] at ho
                have e1 := Nat.eq_of_beq_eq_true ho.1; have e2 := Nat.eq_of_beq_eq_true ho.2
                subst e1; subst e2
                have hi : i < xs.length := by omega
                have hl := k.row_len xs
                have hm := Nat.mul_le_mul_right k.size (Nat.succ_le_of_lt hi)
                rw [Nat.succ_mul] at hm
                have hcell := k.cells_len xs[i]!
                rw [cellsG_c, k.nths_eq, k.enc_val, cellsG_cons, place_eq hpl, Nat.add_zero]
                refine seg_of (by simp only [Sg.cells, List.length_append]; omega) ?_
                apply List.ext_getElem?
                intro j
                by_cases hj : j < k.size
                · rw [List.getElem?_take, if_pos hj, List.getElem?_drop, Sg.cells, List.getElem?_append_left (by omega), ← nth_eq, k.row_nth xs i j hi hj, nth_eq]
                · rw [List.getElem?_take, if_neg hj, List.getElem?_eq_none (by omega)]
              · simp at h
            · simp at h
        · simp at h
    | false =>
      rw [hb] at h
      simp only [cond_false] at h
      split at h
      · rename_i u Q hg
        simp only [cond_true, cond_false, Option.some.injEq, Prod.mk.injEq] at h; obtain ⟨rfl, rfl⟩ := h
        have hlen : (k.row xs).length = m * k.size := by rw [k.row_len, hP.1]
        have hle := blt_false hb
        obtain ⟨h1, h2⟩ := seg_spec (getG_seg hg hP.2)
        rw [cellsG_cons, idx_sub hle]
        refine seg_of (by simp only [Sg.cells, List.length_append]; omega) ?_
        rw [← h2, Sg.cells, List.drop_append, List.drop_of_length_le (by omega), List.nil_append, hlen]
        congr 2
        omega
      · simp at h

/-- Runs are well formed, and have n cells. -/
def okG : List Sg → Prop
  | [] => True
  | .c _ :: r => okG r
  | .a _ xs n :: r => xs.length = n ∧ okG r
def sizeG : List Sg → Nat
  | [] => 0
  | .c _ :: r => Nat.add 1 (sizeG r)
  | .a k _ n :: r => Nat.add (n * k.size) (sizeG r)
theorem okG_len : ∀ {s : List Sg}, okG s → (cellsG s).length = sizeG s
  | [], _ => rfl
  | .c v :: r, h => by rw [cellsG_cons, List.length_append, okG_len (s := r) h]; rfl
  | .a k xs n :: r, h => by
    rw [cellsG_cons, List.length_append, okG_len (s := r) h.2]
    have : (k.row xs).length = n * k.size := by rw [k.row_len, h.1]
    show (k.row xs).length + _ = _
    rw [this]; rfl
/-- The runs behind the first n cells. -/
def dropG : List Sg → Nat → Option (List Sg)
  | s, 0 => match s with | s => some s
  | [], _ + 1 => none
  | .c _ :: r, n + 1 => dropG r n
  | .a k _ m :: r, n + 1 => cond (Nat.ble (m * k.size) (n + 1)) (dropG r (n + 1 - m * k.size)) none
theorem dropG_cells : ∀ {s : List Sg} {n : Nat} {t : List Sg}, dropG s n = some t → okG s → (cellsG s).drop n = cellsG t ∧ n ≤ (cellsG s).length ∧ okG t
  | s, 0, t, h, hk => by unfold dropG at h; simp at h; subst h; simp [hk]
  | .c v :: r, n + 1, t, h, hk => by
    obtain ⟨h1, h2, h3⟩ := dropG_cells (s := r) (n := n) (t := t) (by simpa [dropG] using h) hk
    rw [cellsG_cons]
    simp only [Sg.cells, List.singleton_append, List.drop_succ_cons, List.length_cons]
    exact ⟨h1, by omega, h3⟩
  | .a k xs m :: r, n + 1, t, h, hk => by
    unfold dropG at h
    cases hb : Nat.ble (m * k.size) (n + 1) with
    | false => rw [hb] at h; simp at h
    | true =>
      rw [hb] at h; simp only [cond_true] at h
      obtain ⟨h1, h2, h3⟩ := dropG_cells h hk.2
      have hlen : (k.row xs).length = m * k.size := by rw [k.row_len, hk.1]
      have hle : m * k.size ≤ n + 1 := by simpa using hb
      rw [cellsG_cons]
      simp only [Sg.cells, List.length_append]
      rw [List.drop_append, List.drop_of_length_le (by omega), List.nil_append, hlen]
      exact ⟨h1, by omega, h3⟩
  | [], n + 1, t, h, hk => by simp [dropG] at h
/-- An element out of its cells. -/
def Kd.dec1 (k : Kd) : List Sg → Option (k.T × List Sg)
  | .c v :: r => cond (Nat.beq k.size 1) (match k.put default 0 v with | some x => some (x, r) | none => none) none
  | _ => none
def Kd.decs : (k : Kd) → List Sg → Option (k.T × List Sg)
  | .pr k l, s => match k.decs s with
    | some (x, r) => match l.decs r with
      | some (y, r') => some ((x, y), r')
      | none => none
    | none => none
  | .b, s => Kd.dec1 .b s | .h, s => Kd.dec1 .h s | .w, s => Kd.dec1 .w s | .q, s => Kd.dec1 .q s | .n, s => Kd.dec1 .n s | .z, s => Kd.dec1 .z s | .t, s => Kd.dec1 .t s | .str, s => Kd.dec1 .str s | .raw, s => Kd.dec1 .raw s
  | .rw k, s => Kd.dec1 (.rw k) s
/-- Some runs are written in the place of others. -/
def setG : List Sg → Nat → List (Nat × Nat) → List Sg → Option (List Sg × Prop)
  | [], _, _, _ => none
  | .c v :: r, base, ix, l => cond (Nat.beq base 0) (match ix with
      | [] => match dropG (.c v :: r) (sizeG l) with
        | some t => match appO l t with | some u => some (u, okG l ∧ okG r) | none => none
        | none => none
      | _ => none) (consP (.c v) True (setG r (base - 1) ix l))
  | .a k xs m :: r, base, ix, l => cond (Nat.blt base (m * k.size))
      (cond (Nat.beq base 0 && ix.isEmpty && Nat.ble (m * k.size) (sizeG l))
        (match dropG (.a k xs m :: r) (sizeG l) with
          | some t => match appO l t with | some u => some (u, okG l ∧ xs.length = m ∧ okG r) | none => none
          | none => none)
        (match place k.size base ix with
            | some (i, o) => cond (Nat.beq o 0 && Nat.beq (sizeG l) k.size) (match k.decs l with
              | some (x, _) => some (.a k (xs.set i x) m :: r, i < m ∧ xs.length = m ∧ okG l)
              | none => none) none
            | none => none))
      (consP (.a k xs m) (xs.length = m) (setG r (base - m * k.size) ix l))
theorem putl_app_right {a b vs : List Value} {i : Nat} (h : a.length ≤ i) : putl (a ++ b) i vs = a ++ putl b (i - a.length) vs := by
  unfold putl
  rw [List.take_append, List.drop_append, List.take_of_length_le h, List.drop_of_length_le (by omega), List.nil_append, show i + vs.length - a.length = i - a.length + vs.length by omega]
  simp
theorem putl_app_left {a b vs : List Value} {i : Nat} (h : i + vs.length ≤ a.length) : putl (a ++ b) i vs = putl a i vs ++ b := by
  unfold putl
  rw [List.take_append, List.drop_append, show i - a.length = 0 by omega, show i + vs.length - a.length = 0 by omega]
  simp
theorem putl_zero {a vs : List Value} : putl a 0 vs = vs ++ a.drop vs.length := by simp [putl]
theorem putl_set {l : List Value} {i : Nat} {v : Value} (h : i < l.length) : putl l i [v] = l.set i v := by
  have := putl_cons l i v [] h
  rw [← this]; simp [putl]
theorem Kd.one1 (k : Kd) (x : k.T) (v : CV) (hk : k.size = 1) (hq : k.put default 0 v = some x) : k.cells x = [v.val] := by
  have h1 := k.put_cells _ _ _ _ (by omega) hq
  have h2 := k.cells_len (default : k.T)
  rw [hk] at h2
  match hc : k.cells (default : k.T), h2 with
  | [c], _ => rw [hc] at h1; rw [h1]; rfl
theorem Kd.dec1_cells (k : Kd) (s r : List Sg) (x : k.T) (hq : k.dec1 s = some (x, r)) : cellsG s = k.cells x ++ cellsG r := by
  unfold Kd.dec1 at hq
  split at hq
  · replace hq := cond_some hq
    rcases hq with ⟨h1, hq⟩ | ⟨h1, hq⟩
    · split at hq
      · rename_i y hy
        simp only [Option.some.injEq, Prod.mk.injEq] at hq; obtain ⟨rfl, rfl⟩ := hq
        rw [cellsG_cons, Kd.one1 _ _ _ (beq_iff.1 h1) hy]; rfl
      · simp at hq
    · simp at hq
  · simp at hq
theorem Kd.decs_cells : ∀ (k : Kd) (s r : List Sg) (x : k.T), k.decs s = some (x, r) → cellsG s = k.cells x ++ cellsG r
  | .pr k l, s, r, x, hq => by
    unfold Kd.decs at hq
    split at hq
    · rename_i y r1 h1
      split at hq
      · rename_i z r2 h2
        simp only [Option.some.injEq, Prod.mk.injEq] at hq; obtain ⟨rfl, rfl⟩ := hq
        rw [k.decs_cells _ _ _ h1, l.decs_cells _ _ _ h2]; simp [Kd.cells]
      · simp at hq
    · simp at hq
  | .b, s, r, x, hq | .h, s, r, x, hq | .w, s, r, x, hq | .q, s, r, x, hq | .n, s, r, x, hq | .z, s, r, x, hq | .t, s, r, x, hq | .str, s, r, x, hq | .raw, s, r, x, hq | .rw _, s, r, x, hq => Kd.dec1_cells _ s r x hq
theorem setG_cells : ∀ {s s' l : List Sg} {base : Nat} {ix : List (Nat × Nat)} {P : Prop}, setG s base ix l = some (s', P) → P → cellsG s' = putl (cellsG s) (idx base ix) (cellsG l) ∧ idx base ix + (cellsG l).length ≤ (cellsG s).length ∧ okG l
  | .c v :: r, s', l, base, ix, P, h, hP => by
    unfold setG at h
    replace h := cond_some h
    rcases h with ⟨hb, h⟩ | ⟨hb, h⟩
    · have := Nat.eq_of_beq_eq_true hb; subst this
      split at h
      · split at h
        · rename_i t ht
          split at h
          case h_2 => simp at h
          rename_i u hu
          simp only [Option.some.injEq, Prod.mk.injEq] at h; obtain ⟨rfl, rfl⟩ := h
          have hl := okG_len hP.1
          obtain ⟨g1, g2, g3⟩ := dropG_cells ht (show okG (.c v :: r) from hP.2)
          rw [appO_eq hu, cellsG_app, ← g1, show idx 0 [] = 0 from rfl, putl_zero, hl]
          exact ⟨rfl, by omega, hP.1⟩
        · simp at h
      · simp at h
    · have hb' : 1 ≤ base := by
        cases base with
        | zero => simp at hb
        | succ n => omega
      unfold consP at h
      split at h
      · rename_i t Q hg
        simp only [Option.some.injEq, Prod.mk.injEq] at h; obtain ⟨rfl, rfl⟩ := h
        obtain ⟨h1, h2, h3⟩ := setG_cells hg hP.2
        rw [cellsG_cons, cellsG_cons, idx_sub hb', h1]
        simp only [Sg.cells, List.length_append, List.length_singleton]
        rw [putl_app_right (a := [v.val]) (by simp)]
        simp only [List.length_singleton, Nat.add_sub_cancel_left]
        exact ⟨trivial, by omega, h3⟩
      · simp at h
  | .a k xs m :: r, s', l, base, ix, P, h, hP => by
    unfold setG at h
    replace h := cond_some h
    rcases h with ⟨hb, h⟩ | ⟨hb, h⟩
    · replace h := cond_some h
      rcases h with ⟨hc, h⟩ | ⟨hc, h⟩
      · simp only [Bool.and_eq_true] at hc
        obtain ⟨⟨c1, c2⟩, _⟩ := hc
        have := Nat.eq_of_beq_eq_true c1; subst this
        have : ix = [] := by simpa using c2
        subst this
        split at h
        · rename_i t ht
          split at h
          case h_2 => simp at h
          rename_i u hu
          simp only [Option.some.injEq, Prod.mk.injEq] at h; obtain ⟨rfl, rfl⟩ := h
          have hl := okG_len hP.1
          obtain ⟨g1, g2, g3⟩ := dropG_cells ht (show okG (.a k xs m :: r) from hP.2)
          rw [appO_eq hu, cellsG_app, ← g1, show idx 0 [] = 0 from rfl, putl_zero, hl]
          exact ⟨rfl, by omega, hP.1⟩
        · simp at h
      · split at h
        · rename_i i o hpl
          replace h := cond_some h
          rcases h with ⟨ho, h⟩ | ⟨ho, h⟩
          · simp only [Bool.and_eq_true] at ho
            have e1 := Nat.eq_of_beq_eq_true ho.1; have e2 := Nat.eq_of_beq_eq_true ho.2
            subst e1
            split at h
            · rename_i x rr hx
              simp only [Option.some.injEq, Prod.mk.injEq] at h; obtain ⟨rfl, rfl⟩ := h
              obtain ⟨q1, q2, q3⟩ := hP
              have hi : i < xs.length := by omega
              have hl := okG_len q3
              have hks := k.size_pos
              rw [cellsG_cons, cellsG_cons, place_eq hpl, Nat.add_zero]
              have hx' : k.cells x = cellsG l := by
                have h1 := k.decs_cells _ _ _ hx
                have h2 := congrArg List.length h1
                rw [List.length_append, k.cells_len] at h2
                have h3 : cellsG rr = [] := List.eq_nil_of_length_eq_zero (by omega)
                rw [h1, h3, List.append_nil]
              have hrow := k.row_len xs
              have hm := Nat.mul_le_mul_right k.size (Nat.succ_le_of_lt hi)
              rw [Nat.succ_mul] at hm
              simp only [Sg.cells, List.length_append]
              rw [putl_app_left (by omega)]
              refine ⟨?_, by omega, q3⟩
              congr 1
              rw [k.row_eq, k.row_eq, ← hx']
              clear hx' hx hpl hrow hm hc hb
              clear q1 q2
              induction xs generalizing i with
              | nil => simp at hi
              | cons y ys ih =>
                cases i with
                | zero =>
                  rw [List.set_cons_zero, List.flatMap_cons, List.flatMap_cons, Nat.zero_mul, putl_zero, k.cells_len, List.drop_append, k.cells_len, List.drop_of_length_le (by rw [k.cells_len]; exact Nat.le_refl _)]
                  simp
                | succ i =>
                  rw [List.set_cons_succ, List.flatMap_cons, List.flatMap_cons, putl_app_right (by rw [k.cells_len, Nat.succ_mul]; omega), k.cells_len, show (i + 1) * k.size - k.size = i * k.size by rw [Nat.succ_mul]; omega, ih i (by simpa using hi)]
            · simp at h
          · simp at h
        · simp at h
    · unfold consP at h
      split at h
      · rename_i t Q hg
        simp only [Option.some.injEq, Prod.mk.injEq] at h; obtain ⟨rfl, rfl⟩ := h
        have hlen : (k.row xs).length = m * k.size := by rw [k.row_len, hP.1]
        have hle := blt_false hb
        obtain ⟨h1, h2, h3⟩ := setG_cells hg hP.2
        rw [cellsG_cons, cellsG_cons, idx_sub hle, h1]
        simp only [Sg.cells, List.length_append]
        rw [putl_app_right (by rw [hlen]; exact Nat.le_add_right _ _), hlen, Nat.add_sub_cancel_left]
        exact ⟨rfl, by omega, h3⟩
      · simp at h
end Go.Proofs.Ytendgpnbbiegkaa.Sx
