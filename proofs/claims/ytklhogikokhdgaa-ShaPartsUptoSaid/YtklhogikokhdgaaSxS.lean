/-
  Slices of slices of bytes, as the walks read them.
-/
import Derived.Test.YtklhogikokhdgaaSxR
set_option linter.all false
set_option linter.unusedSimpArgs false
set_option linter.unusedVariables false
namespace Go.Proofs.Ytklhogikokhdgaa.Sx
open Go Go.WideShapes Go.ChangeShapes Go.RowKit
theorem bytes_core {H : Type} {enc : TypeId × Value → H} {P : Program} {W : World} {base fuel : Nat} {held : Bool} {t e : TypeId} {v : Value} {d : DataW H} {ps : List MemPlace} (ht : P.underlying t = some (.slice e)) (he : P.underlying e = some (.int .u8)) (hc : P.cellsOf e = 1)
    (hf : DataW.trod enc P W base (fun _ => true) held fuel t [v] = some (d, ps)) :
    ∃ xs : List (BitVec 8), RdS vB (allH W) v xs ∧ (d = .nil ∧ xs = [] ∨ ∃ els sp, d = .slice els sp ∧ els.length = xs.length) := by
  rcases open_ints ht he hc hf with ⟨h, hx⟩ | ⟨a, len, cap, zs, h, _, hle, _, hzl, hx, hcell, hwf⟩
  · cases hx
    obtain rfl : v = .slice none 0 0 := by simpa using h
    exact ⟨[], ⟨none, 0, rfl, Nat.le_refl _, .inl rfl⟩, .inl ⟨rfl, rfl⟩⟩
  · cases hx
    obtain rfl : v = .slice (some a) len cap := by simpa using h
    simp only [if_true] at hzl
    have hlen : ((zs.take len).map (BitVec.ofInt 8)).length = len := by rw [List.length_map, List.length_take]; omega
    refine ⟨(zs.take len).map (BitVec.ofInt 8), ⟨some a, cap, by rw [hlen], by omega, ?_⟩, .inr ⟨_, _, rfl, by rw [hlen]; simp [lits]; omega⟩⟩
    rcases Nat.eq_zero_or_pos len with h0 | h0
    · left; subst h0; rfl
    right
    have h1 := hcell 0 (by omega)
    rw [show a.add 0 = a by simp [Addr.add]] at h1
    obtain ⟨b, off, spot⟩ := a
    simp only [World.cell?] at h1
    split at h1
    case h_2 => cases h1
    rename_i c t' fz hb
    split at h1
    case isTrue => cases h1
    rename_i hsp
    have : spot = none := by cases spot <;> simp_all
    subst this
    refine ⟨b, off, c, t', fz, rfl, mem_allH.2 hb, fun i hi => ?_⟩
    rw [hlen] at hi
    have h2 := hcell i (by omega)
    rw [show Addr.add ⟨b, off, none⟩ i = ⟨b, off + i, none⟩ by unfold Addr.add; split <;> simp_all] at h2
    simp only [World.cell?, hb] at h2
    rw [if_neg (by simp)] at h2
    rw [nth_eq, Array.getElem?_toList, h2]
    have hz : i < zs.length := by omega
    have hw := hwf zs[i] (List.getElem_mem hz)
    have hw2 : 0 ≤ zs[i] ∧ zs[i] ≤ 255 := by simpa [Lit.wf, IntKind.min, IntKind.max, IntKind.signed, IntKind.bits] using hw
    rw [getElem!_pos _ i (by rw [hlen]; exact hi)]
    simp only [List.getElem_map, List.getElem_take, List.getD_eq_getElem?_getD, List.getElem?_eq_getElem hz, Option.getD_some, vB, BitVec.toNat_ofInt]
    congr 2
    omega
theorem list_of {α : Type} [Inhabited α] (p : Nat → α → Prop) : ∀ n : Nat, (∀ i, i < n → ∃ x, p i x) → ∃ xs : List α, xs.length = n ∧ ∀ i, i < n → p i xs[i]!
  | 0, _ => ⟨[], rfl, fun i hi => absurd hi (Nat.not_lt_zero i)⟩
  | n + 1, h => by
    obtain ⟨xs, hl, hx⟩ := list_of p n (fun i hi => h i (Nat.lt_succ_of_lt hi))
    obtain ⟨x, hp⟩ := h n (Nat.lt_succ_self n)
    refine ⟨xs ++ [x], by simp [hl], fun i hi => ?_⟩
    rcases Nat.lt_or_ge i n with h1 | h1
    · have := hx i h1
      rw [getElem!_pos xs i (by omega)] at this
      rw [getElem!_pos _ i (by simp; omega), List.getElem_append_left (by omega)]
      exact this
    · obtain rfl : i = n := by omega
      rw [getElem!_pos _ i (by simp; omega), List.getElem_append_right (by omega)]
      simpa [hl] using hp
theorem open_rows {H : Type} {enc : TypeId × Value → H} {P : Program} {W : World} {r : Reach} {b0 base : Nat} {held : Bool} {t e e2 : TypeId} {v : Value} {d : DataW H} {ps : List MemPlace} (ht : P.underlying t = some (.slice e)) (he : P.underlying e = some (.slice e2)) (he2 : P.underlying e2 = some (.int .u8)) (hc : P.cellsOf e = 1) (hc2 : P.cellsOf e2 = 1)
    (hval : Value.okWide P W r b0 t v) (hd : DataW.Trod enc P W base (fun _ => true) held t v d ps) :
    ∃ xs : List (Value × List (BitVec 8)), RdS Prod.fst (allH W) v xs ∧ (∀ i, i < xs.length → RdS vB (allH W) xs[i]!.1 xs[i]!.2) ∧
      ∀ x ∈ xs, ∃ els sp, d = .slice els sp ∧ ∃ d' ∈ els, (d' = .nil ∧ x.2 = [] ∨ ∃ els' sp', d' = .slice els' sp' ∧ els'.length = x.2.length) := by
  obtain ⟨ao, ln, cp, rfl⟩ := okWide_slice ht hval
  obtain ⟨fuel, hf⟩ := hd
  rcases DataW.trod_slice ht hf with ⟨h, hx⟩ | ⟨a, len, cap, elems, rest, n, _, h, hx, _, hle, _, hlen, hel, _⟩
  · simp [Value.cells] at h
    obtain ⟨rfl, rfl, rfl⟩ := h
    exact ⟨[], ⟨none, 0, rfl, Nat.le_refl _, .inl rfl⟩, fun i hi => absurd hi (Nat.not_lt_zero i), fun x hx => by cases hx⟩
  · simp [Value.cells] at h
    obtain ⟨rfl, rfl, rfl⟩ := h
    simp only [Prod.mk.injEq] at hx
    obtain ⟨rfl, _⟩ := hx
    have each : ∀ i, i < ln → ∃ x : Value × List (BitVec 8), W.cell? (a.add i) = some x.1 ∧ RdS vB (allH W) x.1 x.2 ∧
        ∃ d' ∈ elems.map (·.1), (d' = .nil ∧ x.2 = [] ∨ ∃ els' sp', d' = .slice els' sp' ∧ els'.length = x.2.length) := by
      intro i hi
      have h1 := hel i hi
      rw [hc, Nat.mul_one, List.getElem?_eq_getElem (by omega)] at h1
      simp only [Option.bind_eq_some_iff] at h1
      obtain ⟨cs, h2, h3⟩ := h1
      obtain ⟨c, rfl, hcl⟩ : ∃ c, cs = [c] ∧ W.cell? (a.add i) = some c := by
        have hlen1 : cs.length = 1 := by
          unfold World.cells? at h2
          split at h2
          · have := mapM_some_length h2
            simpa using this
          · cases h2
        match cs, hlen1 with
        | [c], _ => exact ⟨c, rfl, cell_of_cells?_one h2⟩
      obtain ⟨xs, hr, hb⟩ := bytes_core (d := elems[i].1) (ps := elems[i].2) he he2 hc2 h3
      exact ⟨(c, xs), hcl, hr, elems[i].1, List.mem_map.2 ⟨_, List.getElem_mem _, rfl⟩, hb⟩
    obtain ⟨xs, hl, hxs⟩ := list_of _ ln each
    refine ⟨xs, ⟨some a, cp, by rw [hl], by omega, ?_⟩, fun i hi => (hxs i (by omega)).2.1, fun x hx => ?_⟩
    · rcases Nat.eq_zero_or_pos ln with h0 | h0
      · left; exact List.length_eq_zero_iff.1 (hl.trans h0)
      right
      have h1 := (hxs 0 h0).1
      rw [show a.add 0 = a by simp [Addr.add]] at h1
      obtain ⟨b, off, spot⟩ := a
      simp only [World.cell?] at h1
      split at h1
      case h_2 => cases h1
      rename_i c t' fz hb
      split at h1
      case isTrue => cases h1
      rename_i hsp
      have : spot = none := by cases spot <;> simp_all
      subst this
      refine ⟨b, off, c, t', fz, rfl, mem_allH.2 hb, fun i hi => ?_⟩
      have h2 := (hxs i (by omega)).1
      rw [show Addr.add ⟨b, off, none⟩ i = ⟨b, off + i, none⟩ by unfold Addr.add; split <;> simp_all] at h2
      simp only [World.cell?, hb] at h2
      rw [if_neg (by simp)] at h2
      rw [nth_eq, Array.getElem?_toList, h2]
    · obtain ⟨i, hi, rfl⟩ := List.mem_iff_getElem.1 hx
      have h3 := (hxs i (by omega)).2.2
      rw [getElem!_pos xs i hi] at h3
      exact ⟨_, _, rfl, h3⟩
end Go.Proofs.Ytklhogikokhdgaa.Sx
