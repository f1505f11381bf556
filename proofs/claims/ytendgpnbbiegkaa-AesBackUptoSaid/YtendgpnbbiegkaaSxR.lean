/-
  From a contract on all the blocks of a world to a row's words: the arguments read as they did, every block that was there is as it was.
-/
import Derived.Test.YtendgpnbbiegkaaSxI
import Derived.ChangeSlices
import Derived.ChangeStays
import Derived.ChangeBook
import Derived.RowKit
set_option linter.all false
set_option linter.unusedSimpArgs false
set_option linter.unusedVariables false
namespace Go.Proofs.Ytendgpnbbiegkaa.Sx
open Go Go.WideShapes Go.ChangeShapes Go.RowKit

/-- All the blocks of a world. -/
def allH (W : World) : Hs := W.heap.toList.zipIdx.map fun p => (p.2, p.1)
theorem mem_allH {W : World} {b : Nat} {o : Obj} : (b, o) ∈ allH W ↔ W.heap[b]? = some o := by
  unfold allH
  rw [List.mem_map]
  constructor
  · rintro ⟨⟨o', i⟩, h, e⟩
    have h1 := List.mem_zipIdx_iff_getElem?.1 h
    cases e
    simpa using h1
  · intro h
    exact ⟨(o, b), List.mem_zipIdx_iff_getElem?.2 (by simpa using h), rfl⟩
theorem hp_allH (W : World) : Hp W W (allH W) :=
  ⟨rfl, rfl, rfl, by
    have : (allH W).map Prod.fst = List.range' 0 W.heap.toList.length := by
      unfold allH; rw [List.map_map]; exact List.zipIdx_map_snd 0 W.heap.toList
    rw [this]; exact List.nodup_range', fun p hp => mem_allH.1 hp⟩
theorem kept_allH {W W' : World} (h : Hp W W' (allH W)) (i : Nat) (hi : i < W.heap.size) : W'.heap[i]? = W.heap[i]? := by
  rw [Array.getElem?_eq_getElem hi]
  exact h.at_ _ (mem_allH.2 (Array.getElem?_eq_getElem hi))
theorem keptBut_allH {W W' : World} (h : Hp W W' (allH W)) (may : MemPlace → Prop) : W.keptBut W' may := by
  refine ⟨h.os, h.out, fun i hi => ?_⟩
  rw [kept_allH h i hi]
  cases W.heap[i]? with
  | none => rfl
  | some o => cases o <;> simp
theorem sameAt_allH {W W' : World} (h : Hp W W' (allH W)) (p : MemPlace) (hp : p.block < W.heap.size) : W.sameAt W' p := by
  cases p with
  | cell b off => simp only [World.sameAt, World.cell?]; rw [kept_allH h b hp]
  | map b => simp only [World.sameAt]; rw [kept_allH h b hp]

section
variable {H : Type} {enc : TypeId × Value → H} {P : Program}
theorem trodAll_stays {w w' : World} {base : Nat} {sp : Nat → Bool} (hl : laidOutB P = true) : ∀ {ts : List TypeId} {vs : List Value} {ds : List (DataW H)} {ps : List MemPlace},
    (∀ t ∈ ts, t < P.types.size ∧ P.readableRec t = true) → DataW.TrodAll enc P w base (fun _ => true) true ts vs ds ps → (∀ p ∈ ps, w.sameAt w' p) → (∀ p ∈ ps, sp p.block = true) → DataW.TrodAll enc P w' base sp true ts vs ds ps
  | [], vs, ds, ps, _, h, _, _ => by
    obtain ⟨rfl, rfl, rfl⟩ := trodAll_nil h
    exact trodAll_mk0
  | t :: ts, vs, ds, ps, hT, h, h1, h2 => by
    obtain ⟨v, vs1, d, ds1, a, b, rfl, rfl, rfl, ⟨fuel, hd⟩, hr⟩ := trodAll_cons h
    have hrd := (hT t List.mem_cons_self).2
    refine ⟨a, b, ⟨fuel, ?_⟩, trodAll_stays hl (fun t ht => hT t (List.mem_cons_of_mem _ ht)) hr (fun p hp => h1 p (List.mem_append_right _ hp)) (fun p hp => h2 p (List.mem_append_right _ hp)), rfl⟩
    exact DataW.trod_stays (kids_book hl hrd) (fun h1 h2 => book_sized hrd h1 h2) (fun hh => by cases hh) (T := InBook P t) ⟨(hT t List.mem_cons_self).1, book_self t⟩ hd (fun p hp => h1 p (List.mem_append_left _ hp)) (fun p hp => h2 p (List.mem_append_left _ hp))

/-- The row's words: true; the arguments as they were. -/
theorem row_post {f : Func} {s : ChangeSpec} {W W' : World} {args : Array Value} {ds gs : List (DataW H)} {before : List MemPlace} {tb : TypeId} (hW : DataW.Whole enc P f.params.toList s.vars false W args.toList ds gs before)
    (hv : s.vars = []) (hs : s.fn H ds = { results := [.lit (.bool true)], args := ds }) (hr : f.resultTypes = #[tb]) (hb : P.underlying tb = some .bool) (hl : laidOutB P = true)
    (hrd : ∀ t ∈ f.params.toList, t < P.types.size ∧ P.readableRec t = true) (hp : Hp W W' (allH W)) : s.post enc P f false true false false W args (.bool true) W' := by
  have hlt := hW.lt
  have hW' := hW
  obtain ⟨p, q, hA, hV, rfl, _, _⟩ := hW
  rw [hv] at hV
  obtain ⟨rfl, rfl⟩ := trodVars_none hV
  rw [List.append_nil] at hlt
  refine ⟨ds, [], _, [], p, [], hW', ?_, ?_, ?_, keptBut_allH hp _, fun h => by cases h⟩
  · rw [List.append_nil, hs, hr]
    exact trodAll_mk1 (shut_bool hb true)
  · rw [List.append_nil, hs]
    exact trodAll_stays hl hrd hA (fun x hx => sameAt_allH hp x (hlt x hx)) (fun x hx => by simpa using hlt x hx)
  · rw [List.append_nil, hs, hv]
    rfl
end

/-- A slice of bytes as the walks read it. -/
theorem open_bytes {H : Type} {enc : TypeId × Value → H} {P : Program} {W : World} {r : Reach} {b0 base : Nat} {held : Bool} {t e : TypeId} {v : Value} {d : DataW H} {ps : List MemPlace} (ht : P.underlying t = some (.slice e)) (he : P.underlying e = some (.int .u8)) (hc : P.cellsOf e = 1)
    (hval : Value.okWide P W r b0 t v) (hd : DataW.Trod enc P W base (fun _ => true) held t v d ps) :
    ∃ xs : List (BitVec 8), RdS vB (allH W) v xs ∧ (d = .nil ∧ xs = [] ∨ ∃ els sp, d = .slice els sp ∧ els.length = xs.length) := by
  obtain ⟨ao, ln, cp, rfl⟩ := okWide_slice ht hval
  obtain ⟨fuel, hf⟩ := hd
  rcases open_ints ht he hc hf with ⟨h, hx⟩ | ⟨a, len, cap, zs, h, _, hle, _, hzl, hx, hcell, hwf⟩
  · simp [Value.cells] at h
    obtain ⟨rfl, rfl, rfl⟩ := h
    cases hx
    exact ⟨[], ⟨none, 0, rfl, Nat.le_refl _, .inl rfl⟩, .inl ⟨rfl, rfl⟩⟩
  · simp [Value.cells] at h
    obtain ⟨rfl, rfl, rfl⟩ := h
    cases hx
    simp only [if_true] at hzl
    have hlen : ((zs.take ln).map (BitVec.ofInt 8)).length = ln := by rw [List.length_map, List.length_take]; omega
    refine ⟨(zs.take ln).map (BitVec.ofInt 8), ⟨some a, cp, by rw [hlen], by omega, ?_⟩, .inr ⟨_, _, rfl, by rw [hlen]; simp [lits]; omega⟩⟩
    rcases Nat.eq_zero_or_pos ln with h0 | h0
    · left; subst h0; rfl
    right
    have h1 := hcell 0 (by omega)
    rw [show a.add 0 = a by simp [Addr.add]] at h1
    obtain ⟨b, off, spot⟩ := a
    simp only [World.cell?] at h1
    split at h1
    case h_2 => cases h1
    rename_i c t' fz hb
    split at h1
    case isTrue => cases h1
    rename_i hsp
    have : spot = none := by cases spot <;> simp_all
    subst this
    refine ⟨b, off, c, t', fz, rfl, mem_allH.2 hb, fun i hi => ?_⟩
    rw [hlen] at hi
    have h2 := hcell i (by omega)
    rw [show Addr.add ⟨b, off, none⟩ i = ⟨b, off + i, none⟩ by unfold Addr.add; split <;> simp_all] at h2
    simp only [World.cell?, hb] at h2
    rw [if_neg (by simp)] at h2
    rw [nth_eq, Array.getElem?_toList, h2]
    have hz : i < zs.length := by omega
    have hw := hwf zs[i] (List.getElem_mem hz)
    have hw2 : 0 ≤ zs[i] ∧ zs[i] ≤ 255 := by simpa [Lit.wf, IntKind.min, IntKind.max, IntKind.signed, IntKind.bits] using hw
    rw [getElem!_pos _ i (by rw [hlen]; exact hi)]
    simp only [List.getElem_map, List.getElem_take, List.getD_eq_getElem?_getD, List.getElem?_eq_getElem hz, Option.getD_some, vB, BitVec.toNat_ofInt]
    congr 2
    omega
end Go.Proofs.Ytendgpnbbiegkaa.Sx
