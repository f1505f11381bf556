/-
  Append in the walk's own form; cells behind a row; orders of blocks.
-/
import Derived.Test.YtendgpnbbiegkaaSxG
set_option linter.all false
set_option linter.unusedSimpArgs false
set_option linter.unusedVariables false
namespace Go.Proofs.Ytendgpnbbiegkaa.Sx
open Go

theorem OwS.one {α : Type} {e : α → Value} {T : TypeId} {v : Value} {xs : List α} {ch : Hs} (h : OwS e T v xs ch) : oneC v = true := by
  rcases h with ⟨rfl, _⟩ | ⟨b, cap, sp, fz, rfl, _⟩ <;> rfl
theorem RdS.one {α : Type} [Inhabited α] {e : α → Value} {M : Hs} {v : Value} {xs : List α} (h : RdS e M v xs) : oneC v = true := by
  obtain ⟨ao, cap, rfl, _⟩ := h; rfl
theorem cutV_one {v : Value} {lo hi : Nat} (h : oneC v = true) : oneC (cutV v lo hi) = true := by
  cases v <;> first | exact h | rfl
theorem RdS.len {α : Type} [Inhabited α] {e : α → Value} {M : Hs} {v : Value} {xs : List α} (h : RdS e M v xs) : ∃ ao cap, v = .slice ao xs.length cap := by
  obtain ⟨ao, cap, rfl, _⟩ := h; exact ⟨ao, cap, rfl⟩

/-! ### orders -/
theorem Pm.refl (L : Hs) : L.Perm L := List.Perm.refl L
theorem Pm.p1 (c : Hs) (p : Nat × Obj) (B : Hs) : (p :: (c ++ B)).Perm (c ++ (p :: B)) := List.perm_middle.symm
theorem Pm.cons {A B : Hs} {c : Hs} (p : Nat × Obj) (h : A.Perm (c ++ B)) : (p :: A).Perm (c ++ (p :: B)) := (h.cons p).trans List.perm_middle.symm
theorem Pm.app {A B : Hs} {c : Hs} (d : Hs) (h : A.Perm (c ++ B)) : (d ++ A).Perm (c ++ (d ++ B)) := by
  refine (h.append_left d).trans ?_
  rw [← List.append_assoc, ← List.append_assoc]
  exact List.perm_append_comm.append_right B
theorem Pm.nil (L : Hs) : L.Perm ([] ++ L) := List.Perm.refl L

section
variable {C : Ctx} {E : World} {ρ : Env} {L L0 M L' : Hs}
theorem Ef.perm {op : Op} {R : Value → Hs → Prop} (h : L.Perm L') (hy : Ef C E op ρ L' R) : Ef C E op ρ L R :=
  fun d t p af g f w hf hp => hy d t p af g f w hf (Sub.of_perm h E w hp)
theorem SL.perm {n : Nat} {ops : Array Oper} {Q : Exit → Act → World → Prop} {l : List Oper} (h : L.Perm L') (k : SL C E n ops Q l ρ L') : SL C E n ops Q l ρ L := SL.weaken (Sub.of_perm h) k
theorem Src.perm {T : TypeId} {u : Value} {vs : List Value} (h : L.Perm L') (hs : Src C E L T u vs) : Src C E L' T u vs :=
  ⟨hs.1, fun w hp => hs.2 w (Sub.of_perm h.symm E w hp)⟩

/-- append: elements of one byte. -/
theorem Ef.appendB {α : Type} [Inhabited α] {e : α → Value} {x y : Operand} {T T2 et : Nat} {v u : Value} {xs ys : List α} {ch : Hs} {q : TR}
    (hx : ev ρ x = some v) (hy : ev ρ y = some u) (hT : slOf C T = some (et, 1)) (hq : C.ty et = some q) (hb : q.bytes = 1) (hz : q.zero.cells.size = 1) (hs : Src C E L T2 u (ys.map e)) (hv : OwS e et v xs ch) (hp : L.Perm (ch ++ L0)) (ho : ∀ a, oneC (e a) = true) (hn : xs.length + ys.length ≤ 140737488355328) :
    Ef C E (.call ⟨.builtin .append, #[x, y], #[T, T2]⟩) ρ L (fun v' M => ∃ ch', OwS e et v' (xs ++ ys) ch' ∧ M = ch' ++ L0) :=
  Ef.perm hp (Ef.append (ty := 0) hx hy hT hq hv (Src.perm hp hs) ho (by rw [hb]; omega) (by omega) (by rw [hb]; exact Nat.one_pos) hz)
/-- append: elements of up to 64 bytes. -/
theorem Ef.appendG {α : Type} [Inhabited α] {e : α → Value} {x y : Operand} {T T2 et : Nat} {v u : Value} {xs ys : List α} {ch : Hs} {q : TR}
    (hx : ev ρ x = some v) (hy : ev ρ y = some u) (hT : slOf C T = some (et, 1)) (hq : C.ty et = some q) (hb : Nat.ble q.bytes 64 = true) (hb0 : Nat.blt 0 q.bytes = true) (hz : q.zero.cells.size = 1) (hs : Src C E L T2 u (ys.map e)) (hv : OwS e et v xs ch) (hp : L.Perm (ch ++ L0)) (ho : ∀ a, oneC (e a) = true) (hn : xs.length + ys.length ≤ 1099511627776) :
    Ef C E (.call ⟨.builtin .append, #[x, y], #[T, T2]⟩) ρ L (fun v' M => ∃ ch', OwS e et v' (xs ++ ys) ch' ∧ M = ch' ++ L0) :=
  Ef.perm hp (Ef.append (ty := 0) hx hy hT hq hv (Src.perm hp hs) ho (by
    have h1 : q.bytes ≤ 64 := by simpa using hb
    have := Nat.mul_le_mul (show xs.length + ys.length + (xs.length + ys.length) / 4 + 512 ≤ 2199023255552 by omega) h1
    omega) (by omega) (by simpa [Nat.blt_eq] using hb0) hz)

/-- A block of like cells, as a source. -/
theorem Src.blk {α : Type} [Inhabited α] {e : α → Value} {b : Nat} {xs : List α} {T et t : Nat} {n c : Nat} {fz : Nat × Nat} (hT : slOf C T = some (et, 1)) (hb : (b, .cells ⟨xs.map e⟩ t fz) ∈ L) (hn : xs.length = n) (hc : n ≤ c) :
    Src C E L T (.slice (some ⟨b, 0, none⟩) n c) (xs.map e) := by
  subst hn
  exact RdS.src (M := L) hT ⟨_, c, rfl, hc, .inr ⟨b, 0, _, t, fz, rfl, hb, fun i hi => nth_map0 hi⟩⟩ (Subs.refl _)

/-! ### cells behind a row -/
theorem nth_post {α : Type} {e : α → Value} {xs : List α} {post : List Value} {off k : Nat} {v : Value} (h : xs.length = k) (hle : Nat.ble k off = true) (hv : nth post (off - k) = some v) : nth (xs.map e ++ post) off = some v := by
  subst h
  have : xs.length ≤ off := by simpa using hle
  rw [nth_eq] at hv ⊢
  rw [List.getElem?_append_right (by simpa using this), List.length_map]; exact hv
theorem Ef.storePost {α : Type} {e : α → Value} {T : TypeId} {x y : Operand} {b off k : Nat} {xs : List α} {post : List Value} {t : TypeId} {v : Value} {r : TR} (hx : ev ρ x = some (.pointer (some ⟨b, off, none⟩)))
    (hy : ev ρ y = some v) (hT : C.ty T = some r) (hs : r.size = 1) (hv : oneC v = true) (hk : xs.length = k) (hle : Nat.ble k off = true) (hlt : Nat.blt (off - k) post.length = true)
    (hb : Repl L b (.cells ⟨xs.map e ++ post⟩ t (0, 0)) (.cells ⟨xs.map e ++ post.set (off - k) v⟩ t (0, 0)) L') :
    Ef C E (.store T x y) ρ L fun u M => u = undef ∧ M = L' := by
  subst hk
  have h1 : xs.length ≤ off := by simpa using hle
  have h2 : off - xs.length < post.length := by simpa [Nat.blt_eq] using hlt
  refine Ef.store1 hx hy hT hs hv (cs := xs.map e ++ post) (t := t) (fz := (0, 0)) ?_ (by simp; omega) (by right; exact Nat.zero_le _)
  rw [List.set_append_right _ _ (by simpa using h1), List.length_map]
  exact hb
end
end Go.Proofs.Ytendgpnbbiegkaa.Sx
