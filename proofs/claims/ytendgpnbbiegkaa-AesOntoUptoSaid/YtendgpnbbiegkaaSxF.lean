/-
  Slices that grow, literals of slices, strings and bytes, copy.
-/
import Derived.Test.YtendgpnbbiegkaaSxE
set_option linter.all false
set_option linter.unusedSimpArgs false
set_option linter.unusedVariables false
namespace Go.Proofs.Ytendgpnbbiegkaa.Sx
open Go

/-- v is a slice of the call's own, with elements xs; ch: its block. -/
def OwS {α : Type} (e : α → Value) (T : TypeId) (v : Value) (xs : List α) (ch : Hs) : Prop :=
  (v = .slice none 0 0 ∧ xs = [] ∧ ch = []) ∨ ∃ b cap sp fz, v = .slice (some ⟨b, 0, none⟩) xs.length cap ∧ ch = [(b, .cells ⟨xs.map e ++ sp⟩ T fz)] ∧ xs.length + sp.length = cap ∧ (fz = (0, 0) ∨ cap ≤ fz.1)
theorem OwS.nil {α : Type} (e : α → Value) (T : TypeId) : OwS e T (.slice none 0 0) ([] : List α) [] := .inl ⟨rfl, rfl, rfl⟩
theorem OwS.mk {α : Type} {e : α → Value} {T : TypeId} {b : Nat} {xs : List α} {n : Nat} (h : xs.length = n) : OwS e T (.slice (some ⟨b, 0, none⟩) n n) xs [(b, .cells ⟨xs.map e⟩ T (0, 0))] :=
  .inr ⟨b, n, [], (0, 0), by rw [h], by simp, by simpa using h, .inl rfl⟩
theorem OwS.rd {α : Type} [Inhabited α] {e : α → Value} {T : TypeId} {v : Value} {xs : List α} {ch : Hs} (h : OwS e T v xs ch) : RdS e ch v xs := by
  rcases h with ⟨rfl, rfl, rfl⟩ | ⟨b, cap, sp, fz, rfl, rfl, h1, h2⟩
  · exact RdS.nil _ _ _ _
  · refine ⟨_, cap, rfl, by omega, .inr ⟨b, 0, _, T, fz, rfl, List.mem_cons_self, fun i hi => ?_⟩⟩
    exact nth_seg00 hi

theorem run_lenOf {P : Program} {w : World} {a : Option Addr} {n c : Nat} : (Builtin.lenOf (.slice a n c)).run P w = .ok n w := by simp [Builtin.lenOf]
/-- What is appended, or copied. -/
def Src (C : Ctx) (E : World) (L : Hs) (T : TypeId) (u : Value) (vs : List Value) : Prop :=
  (∃ r, C.ty T = some r ∧ ((∃ e, r.desc = .slice e) ∨ r.desc = .string)) ∧ ∀ w, Hp E w L → (Builtin.lenOf u).run C.P w = .ok vs.length w ∧ ∀ m, m ≤ vs.length → (Builtin.firstCells 1 m u).run C.P w = .ok ⟨vs.take m⟩ w
theorem RdS.src {α : Type} [Inhabited α] {C : Ctx} {E : World} {e : α → Value} {M L : Hs} {T : TypeId} {u : Value} {ys : List α} {et : Nat} (hT : slOf C T = some (et, 1)) (h : RdS e M u ys) (hs : M ⊆ L) : Src C E L T u (ys.map e) := by
  obtain ⟨r, q, h1, h2, _, _⟩ := slOf_spec hT
  refine ⟨⟨r, h1, .inl ⟨_, h2⟩⟩, fun w hp => ?_⟩
  obtain ⟨ao, cap, rfl, hc, h3⟩ := h
  refine ⟨by rw [run_lenOf]; simp, fun m hm => ?_⟩
  simp only [List.length_map] at hm
  rcases h3 with rfl | ⟨b, off, cs, t, fz, rfl, g2, g3⟩
  · simp at hm; subst hm
    cases ao with
    | none => simp [Builtin.firstCells]
    | some a => simp [Builtin.firstCells, loadCells, loadCellsFrom]
  · by_cases h0 : m = 0
    · subst h0; simp [Builtin.firstCells, loadCells, loadCellsFrom]
    · have hb := hp.get (hs g2)
      have hsz : off + ys.length ≤ cs.size := by
        have := g3 (ys.length - 1) (by omega)
        rw [nth_arr] at this
        have := (Array.getElem?_eq_some_iff.1 this).1
        omega
      simp only [Builtin.firstCells, Nat.mul_one]
      rw [run_loadCells hb (by omega)]
      congr 1
      apply Array.ext'
      rw [Array.toList_extract, List.extract_eq_take_drop, show off + m - off = m by omega]
      apply List.ext_getElem?
      intro i
      by_cases hi : i < m
      · have := g3 i (by omega)
        rw [nth_eq] at this
        rw [List.getElem?_take_of_lt hi, List.getElem?_drop, this, List.getElem?_take_of_lt hi, List.getElem?_map, gget (xs := ys) (by omega)]; rfl
      · rw [List.getElem?_eq_none (by simp; omega), List.getElem?_eq_none (by simp; omega)]

theorem next_le (need cap : Nat) (h : cap < need) : Builtin.nextslicecap need cap ≤ need + need / 4 + 512 := by
  have grow : ∀ (k c : Nat), c ≤ need + need / 4 + 512 → Builtin.growBy need k c ≤ need + need / 4 + 512 := by
    intro k
    induction k with
    | zero => intro c hc; exact hc
    | succ k ih =>
      intro c hc
      unfold Builtin.growBy
      split
      · exact hc
      · exact ih _ (by omega)
  unfold Builtin.nextslicecap
  split
  · omega
  · split
    · omega
    · exact grow _ _ (by omega)

theorem Repl.one (b : Nat) (o o' : Obj) (L : Hs) : Repl ([(b, o)] ++ L) b o o' ([(b, o')] ++ L) := .head _ _ _ _
theorem putl_end (l vs sp : List Value) (h : vs.length ≤ sp.length) : putl (l ++ sp) l.length vs = l ++ vs ++ sp.drop vs.length := by
  unfold putl
  rw [List.take_append_of_le_length (Nat.le_refl _), List.take_length, List.drop_append, List.drop_of_length_le (by omega), List.nil_append]
  congr 2; omega

section
variable {C : Ctx} {E : World} {ρ : Env} {L L0 M L' : Hs}
theorem Ef.append {α : Type} [Inhabited α] {e : α → Value} {x y : Operand} {T T2 et : Nat} {v u : Value} {xs ys : List α} {ch : Hs} {q : TR} {ty : TypeId}
    (hx : ev ρ x = some v) (hy : ev ρ y = some u) (hT : slOf C T = some (et, 1)) (hq : C.ty et = some q) (hv : OwS e et v xs ch) (hs : Src C E (ch ++ L0) T2 u (ys.map e)) (ho : ∀ a, oneC (e a) = true)
    (hb : (xs.length + ys.length + (xs.length + ys.length) / 4 + 512) * q.bytes ≤ 281474976710656) (hm : xs.length + ys.length < 9223372036854775808) (hq0 : 0 < q.bytes) (hz1 : q.zero.cells.size = 1) :
    Ef C E (.call ⟨.builtin .append, #[x, y], #[T, T2]⟩) ρ (ch ++ L0) (fun v' M => ∃ ch', OwS e et v' (xs ++ ys) ch' ∧ M = ch' ++ L0) := by
  intro d tp p af g f w hf hp
  obtain ⟨⟨r2, hr2, hk⟩, hsrc⟩ := hs
  obtain ⟨hl, hfc⟩ := hsrc w hp
  simp only [List.length_map] at hl hfc
  obtain ⟨r, q', h1, h2, h3, h4⟩ := slOf_spec hT
  obtain rfl : q' = q := by rw [hq] at h3; exact (Option.some.inj h3).symm
  have hu : ∀ w, (underlying T).run C.P w = .ok (.slice et) w := fun w => by have := run_und h1 w; rwa [h2] at this
  -- the run of append behind its head
  have key : ∀ (base : Option Addr) (cap : Nat), v = .slice base xs.length cap →
      (Builtin.append_ #[T, T2] tp #[v, u]).run C.P w =
        (do
          let need := xs.length + ys.length
          if need ≤ cap then
            let new ← Builtin.firstCells 1 ys.length u
            if let some a := base then storeCells (a.add (xs.length * 1)) new.toList
            pure (.slice base need cap)
          else
            let newCap ← choose (.appendCap need cap et)
            askRoom (newCap * q'.bytes)
            let old ← Builtin.firstCells 1 xs.length v
            let new ← Builtin.firstCells 1 ys.length u
            let rest := Builtin.zeroCells q'.zero.cells (newCap - need)
            pure (.slice (some (← newRow et (old ++ new ++ rest))) need newCap) : Sem Value).run C.P w := by
    rintro base cap rfl
    have hnb : ¬ (cap < xs.length + ys.length ∧ Builtin.nextslicecap (xs.length + ys.length) cap * q'.bytes > 281474976710656) := by
      rintro ⟨g1, g2⟩
      have := next_le _ _ g1
      have := Nat.mul_le_mul_right q'.bytes this
      omega
    obtain ⟨i, hi1, hi2, hi3, hi4⟩ := C.inf_of hq
    have hti : ∀ w, (typeInfo et).run C.P w = .ok i w := fun w => by simp [typeInfo, hi1, program, Sem.run]
    have hmax : ¬ (((xs.length + ys.length : Nat) : Int) > IntKind.i64.max) := by
      show ¬ (((xs.length + ys.length : Nat) : Int) > 9223372036854775807); omega
    have hh : ∀ D, (∀ w, (underlying T2).run C.P w = .ok D w) → ((∃ e, D = .slice e) ∨ D = .string) → (Builtin.append_ #[T, T2] tp #[.slice base xs.length cap, u]).run C.P w = (do
          let need := xs.length + ys.length
          if need ≤ cap then
            let new ← Builtin.firstCells 1 ys.length u
            if let some a := base then storeCells (a.add (xs.length * 1)) new.toList
            pure (.slice base need cap)
          else
            let newCap ← choose (.appendCap need cap et)
            askRoom (newCap * q'.bytes)
            let old ← Builtin.firstCells 1 xs.length (.slice base xs.length cap)
            let new ← Builtin.firstCells 1 ys.length u
            let rest := Builtin.zeroCells q'.zero.cells (newCap - need)
            pure (.slice (some (← newRow et (old ++ new ++ rest))) need newCap) : Sem Value).run C.P w := by
      intro D hD hD2
      rcases hD2 with ⟨e2, rfl⟩ | rfl
      all_goals
        simp only [Builtin.append_, List.getElem?_toArray, List.getElem?_cons_zero, List.getElem?_cons_succ, Sem.run_bind, hu, Result.andThen_ok, run_size h3, h4, hD, Sem.run_pure, Bool.false_eq_true, if_false, hl]
        by_cases hle : xs.length + ys.length ≤ cap
        · simp only [if_pos hle, Bool.not_false, if_true]
          cases base <;> simp
        · have hn2 : ¬ (Builtin.nextslicecap (xs.length + ys.length) cap * q'.bytes > 2 ^ 48) := fun g => hnb ⟨by omega, g⟩
          simp only [if_neg hle, Sem.run_bind, hti, Result.andThen_ok, hmax, false_and, if_false, if_neg hn2, Bool.not_false, if_true, zeroValue, hi4, hi3, Sem.run_pure]
    exact hh _ (fun w => run_und hr2 w) hk
  have hfc' : ∀ w', Hp E w' (ch ++ L0) → (Builtin.firstCells 1 ys.length u).run C.P w' = .ok ⟨ys.map e⟩ w' := fun w' hp' => by
    have := (hsrc w' hp').2 ys.length (by simp)
    rwa [List.take_of_length_le (by simp)] at this
  -- the new row
  have grow : ∀ (base : Option Addr) (cap : Nat), v = .slice base xs.length cap → cap < xs.length + ys.length → Sub L0 (ch ++ L0) →
      (∀ w', Hp E w' (ch ++ L0) → (Builtin.firstCells 1 xs.length v).run C.P w' = .ok ⟨xs.map e⟩ w') →
      ∃ v' w', (Builtin.append_ #[T, T2] tp #[v, u]).run C.P w = .ok v' w' ∧ ∃ ch', OwS e et v' (xs ++ ys) ch' ∧ Hp E w' (ch' ++ L0) := by
    intro base cap hve hlt hsub hold
    rw [key base cap hve]
    simp only []
    rw [if_neg (by omega)]
    generalize hN : (Question.appendCap (xs.length + ys.length) cap et).cut (w.tape w.drawn (.appendCap (xs.length + ys.length) cap et)) = N
    have hNge : xs.length + ys.length ≤ N := by rw [← hN]; exact Nat.le_add_right _ _
    have hp1 : Hp E { w with drawn := w.drawn + 1 } (ch ++ L0) := hp.drew _
    have hroom : ∀ k w', (askRoom k).run C.P w' = .ok () w' := fun k w' => by unfold askRoom; split <;> simp [mark, Sem.run]
    refine ⟨_, _, by
      simp only [Sem.run_bind, choose, Sem.run, Question.forced, Bool.false_eq_true, if_false, Result.andThen_ok, hN, hroom, hold _ hp1, hfc' _ hp1, newRow, newObj, Sem.run_pure]
      rfl, [(w.heap.size, .cells (⟨xs.map e⟩ ++ ⟨ys.map e⟩ ++ Builtin.zeroCells q'.zero.cells (N - (xs.length + ys.length))) et (0, 0))], ?_, (hsub E _ hp1).alloc _⟩
    refine .inr ⟨w.heap.size, N, (Builtin.zeroCells q'.zero.cells (N - (xs.length + ys.length))).toList, (0, 0), by simp, ?_, ?_, .inl rfl⟩
    · simp only [List.map_append]
      congr 3
      apply Array.ext'; simp
    · simp [Builtin.zeroCells, hz1]; omega
  have fin : ∀ v' w', (Builtin.append_ #[T, T2] tp #[v, u]).run C.P w = .ok v' w' → (∃ ch', OwS e et v' (xs ++ ys) ch' ∧ Hp E w' (ch' ++ L0)) →
      ∃ x_1 v_1 w' L', (execOp f ⟨d, .call ⟨.builtin .append, #[x, y], #[T, T2]⟩, tp, p, af, g⟩).run C.P w = .ok x_1 w' ∧ (x_1 = .value v_1 ∨ (x_1 = .skip ∧ v_1 = undef)) ∧ (∃ ch', OwS e et v_1 (xs ++ ys) ch' ∧ L' = ch' ++ L0) ∧ Hp E w' L' := by
    rintro v' w' hrun ⟨ch', h5, h6⟩
    refine ⟨.value v', v', w', ch' ++ L0, ?_, .inl rfl, ⟨ch', h5, rfl⟩, h6⟩
    simp [execOp, resolve, invoke, builtin, hf _ _ hx, hf _ _ hy, hrun]
  rcases hv with ⟨rfl, rfl, rfl⟩ | ⟨b, cap, sp, fz, rfl, rfl, h5, h6⟩
  · cases ys with
    | nil =>
      refine fin (.slice none 0 0) w ?_ ⟨[], OwS.nil _ _, hp⟩
      rw [key none 0 rfl]
      have := hfc' w hp
      simp only [List.length_nil] at this
      simp [this]
    | cons y0 ys =>
      obtain ⟨v', w', g1, g2⟩ := grow none 0 rfl (by simp) (Sub.refl _) (fun w' _ => by simp [Builtin.firstCells])
      exact fin v' w' g1 g2
  · by_cases hle : xs.length + ys.length ≤ cap
    · have hp2 := hp
      obtain ⟨w', hw', hp'⟩ := run_storeCells (C := C) (b := b) (off := 0 + xs.length) (t := et) (fz := fz) (ys.map e) 0 w _ ([(b, .cells ⟨xs.map e ++ (ys.map e ++ sp.drop ys.length)⟩ et fz)] ++ L0) (xs.map e ++ sp) hp (by
          have := putl_end (xs.map e) (ys.map e) sp (by simp; omega)
          simp only [List.length_map] at this
          simp only [Nat.zero_add, Nat.add_zero]
          rw [this, List.append_assoc]
          exact .head _ _ _ _) (by simp; omega) (by rcases h6 with rfl | h6
                                                    · right; simp
                                                    · left; simp; omega) (by intro a ha; obtain ⟨z, _, rfl⟩ := List.mem_map.1 ha; exact ho z)
      refine fin (.slice (some ⟨b, 0, none⟩) (xs.length + ys.length) cap) w' ?_ ⟨_, .inr ⟨b, cap, sp.drop ys.length, fz, by simp, rfl, by simp; omega, h6⟩, by
        simp only [List.map_append, List.append_assoc]; exact hp'⟩
      rw [key _ cap rfl]
      simp only [Sem.run_bind, if_pos hle, hfc' w hp, Result.andThen_ok, Nat.mul_one, Addr.add_none, hw', Sem.run_pure]
    · have hrd := (OwS.rd (e := e) (T := et) (v := .slice (some ⟨b, 0, none⟩) xs.length cap) (xs := xs) (ch := [(b, .cells ⟨xs.map e ++ sp⟩ et fz)]) (Or.inr ⟨b, cap, sp, fz, rfl, rfl, h5, h6⟩))
      obtain ⟨v', w', g1, g2⟩ := grow (some ⟨b, 0, none⟩) cap rfl (by omega) (Sub.app _ _) (fun w' hp' => by
        have h7 := (RdS.src (T := T) (L := [(b, .cells ⟨xs.map e ++ sp⟩ et fz)] ++ L0) hT hrd (fun z hz => List.mem_append_left _ hz)).2 w' hp'
        have := h7.2 xs.length (by simp)
        rwa [List.take_of_length_le (by simp)] at this)
      exact fin v' w' g1 g2
end
end Go.Proofs.Ytendgpnbbiegkaa.Sx
